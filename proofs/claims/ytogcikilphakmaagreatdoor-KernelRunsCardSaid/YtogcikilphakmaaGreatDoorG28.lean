/-
  Merged texts of one proof: Un6, Un7, Un8, Un9, Un10.
-/
import Derived.Test.YtogcikilphakmaaGreatDoorG24

/-
  units.Table: pop, where locks stay and where the last one goes. Every table.
-/
namespace Go.Proofs.YtogcikilphakmaaGreatDoor
open Go.RowKit Spl

section
variable {w0 w : World} {R : List Pr} {t b r : Nat} {vu vf vc vj lv : Value} {l : List LockM} {held free : List Int} {n h F job : Int}
set_option maxRecDepth 20000 in
set_option maxHeartbeats 4000000 in
theorem unPopA (H : Hd w0 (cel b 240 (lv :: held.map (Value.int .i64)).toArray :: SlE 296 lv (l ++ [⟨(r : Int), n⟩]) :: cel t 228 #[vu, vf, vc, vj] :: SlE 3 vf free :: R) w) (hl : 0 < l.length) (hll : l.length ≤ 5000) (hlen : held.length = 16) (hh : held[r]? = some h) (hF : free[r]? = some F) (hb : 0 ≤ n ∧ n ≤ 100000 ∧ -1000000000 ≤ h ∧ h ≤ 1000000000 ∧ -1000000000 ≤ F ∧ F ≤ 1000000000) :
    Calls Tryz.prog 181 #[.pointer (some ⟨t, 0, none⟩), .int .i64 job, .pointer (some ⟨b, 0, none⟩)] w fun e w' => e = .returned (.int .i64 n) ∧ ∃ lv' vf', Hd w0 (cel b 240 (lv' :: (held.set r (h - n)).map (Value.int .i64)).toArray :: SlE 296 lv' l :: cel t 228 #[vu, vf', vc, vj] :: SlE 3 vf' (free.set r (F + n)) :: R) w' := by
  have hlk : l.length < 100000 := by omega
  have hpop := stkPop_lock (o := 0) H rfl hlk
  have hr := lt_of_get? hF
  obtain ⟨gf, cf, rfl, -, -, -, hcf⟩ := (H.v vf).slE_at hF
  clear hcf
  have g5 : IntKind.i64.wrap (h - n) = h - n := IntWalk.i64_in _ (by omega)
  have g6 : IntKind.i64.wrap (F + n) = F + n := IntWalk.i64_in _ (by omega)
  have hrh := lt_of_get? hh
  have n1 : ¬ (r : Int) < 0 := by omega
  have n4 : (r : Int) < free.length := by omega
  have n5 : ¬ free.length ≤ r := by omega
  have n6 : (r : Int) < 16 := by omega
  have n7 : (0 : Int) ≤ r := by omega
  dsimp only at hpop
  go_enter Tryz.func181, Tryz.ntmps181
  go_wp2_with fail
  refine hpop.mono ?_
  rintro e w1 ⟨rfl, lv2, H2⟩
  clear hpop H
  have H3 : Hd w0 (cel b 240 (lv2 :: held.map (Value.int .i64)).toArray :: _) w1 := H2
  clear H2
  have HA : Hd w0 _ (w1.alloc (.cells #[.int .i64 r, .int .i64 n] 296)) := H3.fol
  obtain ⟨q, hq⟩ : ∃ q, w1.heap.size = q := ⟨_, rfl⟩
  rw [hq] at HA
  have p0 := (show _ = some (Value.int .i64 r) from (HA.k q).ce 0 rfl)
  have p1 := (show _ = some (Value.int .i64 n) from (HA.k q).ce 1 rfl)
  have hC : ((lv2 :: held.map (Value.int .i64)).toArray)[1 + r]? = some (.int .i64 h) := by simp [Nat.add_comm 1 r, hh]
  have k0 := (HA.k b).ce (1 + r) hC
  have k1 := (HA.k b).fr (1 + r)
  go_wp2_with fail
  refine wp_region_still_tail 13 (by kernel_rfl) (by kernel_rfl) ?_
  simp only [List.take_succ_cons, List.take_zero, List.drop_succ_cons, List.drop_zero, World.drew_eq]
  (repeat still_step)
  refine wpStill_nil ?_
  have e4 : ((lv2 :: held.map (Value.int .i64)).toArray).setIfInBounds (1 + r) (.int .i64 (h - n)) = (lv2 :: (held.set r (h - n)).map (Value.int .i64)).toArray := by
    rw [List.setIfInBounds_toArray, Nat.add_comm 1 r, List.set_cons_succ, List.map_set]
  have HB : Hd w0 _ ((w1.alloc (.cells #[.int .i64 r, .int .i64 n] 296)).setCell ⟨b, 1 + r, none⟩ (.int .i64 (h - n))) := HA.fol
  rw [e4] at HB
  have s0 := (show _ = some (Value.int .i64 r) from (HB.k q).ce 0 rfl)
  have s1 := (show _ = some (Value.int .i64 n) from (HB.k q).ce 1 rfl)
  have x1 := (show _ = some (.slice (some ⟨gf, 0, none⟩) free.length cf) from (HB.k t).ce 1 rfl)
  obtain ⟨gf2, cf2, hvf, -, -, HC, hcf⟩ := (HB.v (.slice (some ⟨gf, 0, none⟩) free.length cf)).slE_at hF
  injection hvf with r1 r2 r3
  injection r1 with r1
  injection r1 with r1
  subst r1; subst r3
  have x0 := hcf 0 _ rfl
  simp only [Enc.size, Nat.add_zero, Nat.mul_one] at x0
  have fx := HC.slcC_fr r
  clear hcf HA p0 p1 H3
  have HS := HC.slcC_set (j := r) (by rw [flat_len]; simp [Enc.size]; omega) (.int .i64 (F + n))
  have e5 : (flat free).set r (.int .i64 (F + n)) = flat (free.set r (F + n)) := by
    have := flat_set (l := free) (k := r) (x := F) (y := F + n) hF (j := 0) (v := .int .i64 (F + n)) (by decide) rfl
    simpa [Enc.size] using this
  rw [e5] at HS
  have HT := ((Hd.slc_mk HS).drew).drew
  have HU : Hd w0 (cel b 240 (lv2 :: (held.set r (h - n)).map (Value.int .i64)).toArray :: SlE 296 lv2 l :: cel q 296 #[.int .i64 r, .int .i64 n] :: cel t 228 #[vu, .slice (some ⟨gf, 0, none⟩) free.length cf, vc, vj] :: Slc 3 (Enc.size Int) (.slice (some ⟨gf, 0, none⟩) free.length cf) free.length (flat (free.set r (F + n))) :: R) _ := HT.re
  have hlen2 := stkLen_lock (o := 0) HU rfl
  go_wp2_with fail
  refine wp_region_still_tail 12 (by kernel_rfl) (by kernel_rfl) ?_
  simp only [List.take_succ_cons, List.take_zero, List.drop_succ_cons, List.drop_zero, World.drew_eq]
  (repeat still_step)
  refine wpStill_nil ?_
  have y1 := (show _ = some (Value.int .i64 n) from (HU.k q).ce 1 rfl)
  clear HB HC HS HT s0 s1 x1 k0 k1
  go_wp2_with fail
  refine hlen2.mono ?_
  rintro e w2 ⟨rfl, rfl⟩
  clear hlen2
  have z1 : ¬ (l.length : Int) = 0 := by omega
  go_wp2_with fail
  go_ret
  refine ⟨rfl, lv2, .slice (some ⟨gf, 0, none⟩) free.length cf, ?_⟩
  unfold SlE
  rw [List.length_set]
  exact HU.re
set_option maxRecDepth 20000 in
set_option maxHeartbeats 4000000 in
theorem unPopB {RW : List RowH} {x : RowH} (H : Hd w0 (cel b 240 (lv :: held.map (Value.int .i64)).toArray :: SlE 296 lv (l ++ [⟨(r : Int), n⟩]) :: cel t 228 #[vu, vf, vc, vj] :: SlE 3 vf free :: SlE 267 vj RW :: R) w) (hl : l.length = 0) (hs : Sorted RW) (hRW : RW.length ≤ 100000) (hx : rowAt RW job = some x) (hlen : held.length = 16) (hh : held[r]? = some h) (hF : free[r]? = some F) (hb : 0 ≤ n ∧ n ≤ 100000 ∧ -1000000000 ≤ h ∧ h ≤ 1000000000 ∧ -1000000000 ≤ F ∧ F ≤ 1000000000) :
    Calls Tryz.prog 181 #[.pointer (some ⟨t, 0, none⟩), .int .i64 job, .pointer (some ⟨b, 0, none⟩)] w fun e w' => e = .returned (.int .i64 n) ∧ ∃ vf' vj', Hd w0 (cel t 228 #[vu, vf', vc, vj'] :: SlE 3 vf' (free.set r (F + n)) :: SlE 267 vj' (RW.eraseIdx (pos RW job)) :: R) w' := by
  have hll : l.length ≤ 5000 := by omega
  replace hRW := Lib.hid hRW
  have hlk : l.length < 100000 := by omega
  have hpop := stkPop_lock (o := 0) H rfl hlk
  have hr := lt_of_get? hF
  obtain ⟨gf, cf, rfl, -, -, -, hcf⟩ := (H.v vf).slE_at hF
  clear hcf
  have g5 : IntKind.i64.wrap (h - n) = h - n := IntWalk.i64_in _ (by omega)
  have g6 : IntKind.i64.wrap (F + n) = F + n := IntWalk.i64_in _ (by omega)
  have hrh := lt_of_get? hh
  have n1 : ¬ (r : Int) < 0 := by omega
  have n4 : (r : Int) < free.length := by omega
  have n5 : ¬ free.length ≤ r := by omega
  have n6 : (r : Int) < 16 := by omega
  have n7 : (0 : Int) ≤ r := by omega
  dsimp only at hpop
  go_enter Tryz.func181, Tryz.ntmps181
  go_wp2_with fail
  refine hpop.mono ?_
  rintro e w1 ⟨rfl, lv2, H2⟩
  clear hpop H
  have H3 : Hd w0 (cel b 240 (lv2 :: held.map (Value.int .i64)).toArray :: _) w1 := H2
  clear H2
  have HA : Hd w0 _ (w1.alloc (.cells #[.int .i64 r, .int .i64 n] 296)) := H3.fol
  obtain ⟨q, hq⟩ : ∃ q, w1.heap.size = q := ⟨_, rfl⟩
  rw [hq] at HA
  have p0 := (show _ = some (Value.int .i64 r) from (HA.k q).ce 0 rfl)
  have p1 := (show _ = some (Value.int .i64 n) from (HA.k q).ce 1 rfl)
  have hC : ((lv2 :: held.map (Value.int .i64)).toArray)[1 + r]? = some (.int .i64 h) := by simp [Nat.add_comm 1 r, hh]
  have k0 := (HA.k b).ce (1 + r) hC
  have k1 := (HA.k b).fr (1 + r)
  go_wp2_with fail
  refine wp_region_still_tail 13 (by kernel_rfl) (by kernel_rfl) ?_
  simp only [List.take_succ_cons, List.take_zero, List.drop_succ_cons, List.drop_zero, World.drew_eq]
  (repeat still_step)
  refine wpStill_nil ?_
  have e4 : ((lv2 :: held.map (Value.int .i64)).toArray).setIfInBounds (1 + r) (.int .i64 (h - n)) = (lv2 :: (held.set r (h - n)).map (Value.int .i64)).toArray := by
    rw [List.setIfInBounds_toArray, Nat.add_comm 1 r, List.set_cons_succ, List.map_set]
  have HB : Hd w0 _ ((w1.alloc (.cells #[.int .i64 r, .int .i64 n] 296)).setCell ⟨b, 1 + r, none⟩ (.int .i64 (h - n))) := HA.fol
  rw [e4] at HB
  have s0 := (show _ = some (Value.int .i64 r) from (HB.k q).ce 0 rfl)
  have s1 := (show _ = some (Value.int .i64 n) from (HB.k q).ce 1 rfl)
  have x1 := (show _ = some (.slice (some ⟨gf, 0, none⟩) free.length cf) from (HB.k t).ce 1 rfl)
  obtain ⟨gf2, cf2, hvf, -, -, HC, hcf⟩ := (HB.v (.slice (some ⟨gf, 0, none⟩) free.length cf)).slE_at hF
  injection hvf with r1 r2 r3
  injection r1 with r1
  injection r1 with r1
  subst r1; subst r3
  have x0 := hcf 0 _ rfl
  simp only [Enc.size, Nat.add_zero, Nat.mul_one] at x0
  have fx := HC.slcC_fr r
  clear hcf HA p0 p1 H3
  have HS := HC.slcC_set (j := r) (by rw [flat_len]; simp [Enc.size]; omega) (.int .i64 (F + n))
  have e5 : (flat free).set r (.int .i64 (F + n)) = flat (free.set r (F + n)) := by
    have := flat_set (l := free) (k := r) (x := F) (y := F + n) hF (j := 0) (v := .int .i64 (F + n)) (by decide) rfl
    simpa [Enc.size] using this
  rw [e5] at HS
  have HT := ((Hd.slc_mk HS).drew).drew
  have HU : Hd w0 (cel b 240 (lv2 :: (held.set r (h - n)).map (Value.int .i64)).toArray :: SlE 296 lv2 l :: cel q 296 #[.int .i64 r, .int .i64 n] :: cel t 228 #[vu, .slice (some ⟨gf, 0, none⟩) free.length cf, vc, vj] :: Slc 3 (Enc.size Int) (.slice (some ⟨gf, 0, none⟩) free.length cf) free.length (flat (free.set r (F + n))) :: SlE 267 vj RW :: R) _ := HT.re
  have hlen2 := stkLen_lock (o := 0) HU rfl
  go_wp2_with fail
  refine wp_region_still_tail 12 (by kernel_rfl) (by kernel_rfl) ?_
  simp only [List.take_succ_cons, List.take_zero, List.drop_succ_cons, List.drop_zero, World.drew_eq]
  (repeat still_step)
  refine wpStill_nil ?_
  have y1 := (show _ = some (Value.int .i64 n) from (HU.k q).ce 1 rfl)
  clear HB HC HS HT s0 s1 x1 k0 k1
  go_wp2_with fail
  refine hlen2.mono ?_
  rintro e w2 ⟨rfl, rfl⟩
  clear hlen2
  have z1 : (l.length : Int) = 0 := by omega
  have HV : Hd w0 (cel t 228 #[vu, .slice (some ⟨gf, 0, none⟩) free.length cf, vc, vj] :: SlE 267 vj RW :: cel q 296 #[.int .i64 r, .int .i64 n] :: Slc 3 (Enc.size Int) (.slice (some ⟨gf, 0, none⟩) free.length cf) free.length (flat (free.set r (F + n))) :: R) _ := HU.re
  have hdel := delK_hold (o := 3) HV rfl hs hRW.out hx
  clear HV
  go_wp2_with fail
  refine hdel.mono ?_
  rintro e w3 ⟨rfl, vj2, HW⟩
  clear hdel
  have y2 := (show _ = some (Value.int .i64 n) from (HW.k q).ce 1 rfl)
  go_wp2_with fail
  go_ret
  refine ⟨rfl, .slice (some ⟨gf, 0, none⟩) free.length cf, vj2, ?_⟩
  have HX : Hd w0 (cel t 228 #[vu, .slice (some ⟨gf, 0, none⟩) free.length cf, vc, vj2] :: _) _ := HW
  unfold SlE
  rw [List.length_set]
  exact HX.re
end
end Go.Proofs.YtogcikilphakmaaGreatDoor

/-
  units.Table: what pop does to the table as a whole. Every table.
-/
namespace Go.Proofs.YtogcikilphakmaaGreatDoor
open Go.RowKit Spl

def UnM.popped (m : UnM) (job : Int) : UnM :=
  match rowAt m.jobs job with
  | none => m
  | some j => match j.h.locks.getLast? with
    | none => m
    | some x => ⟨m.units, m.free.set x.res.toNat ((m.free[x.res.toNat]?.getD 0) + x.units), m.cells, if j.h.locks.length = 1 then m.jobs.eraseIdx (pos m.jobs job) else m.jobs.set (pos m.jobs job) ⟨j.job, ⟨j.h.locks.dropLast, j.h.held.set x.res.toNat ((j.h.held[x.res.toNat]?.getD 0) - x.units)⟩⟩⟩
theorem zip_erase {α β γ : Type} (f : α → β → γ) : ∀ (xs : List α) (ys : List β) (i : Nat), (List.zipWith f xs ys).eraseIdx i = List.zipWith f (xs.eraseIdx i) (ys.eraseIdx i) := by
  intro xs
  induction xs with
  | nil => intro ys i; simp
  | cons x xs ih =>
    intro ys i
    cases ys with
    | nil => simp
    | cons y ys =>
      cases i with
      | zero => simp
      | succ i => simp [ih]
theorem rowsOf_erase (jobs : List JobM) (bs : List Nat) (i : Nat) : (rowsOf jobs bs).eraseIdx i = rowsOf (jobs.eraseIdx i) (bs.eraseIdx i) := by
  unfold rowsOf
  exact zip_erase _ _ _ _
structure UnW where
  vu : Value
  vf : Value
  vc : Value
  vj : Value
def UnPB (t : Nat) (m : UnM) (bs : List Nat) : Pr := ex fun x : UnW => all [fact (bs.length = m.jobs.length), cel t 228 #[x.vu, x.vf, x.vc, x.vj], SlE 3 x.vu m.units, SlE 3 x.vf m.free, SlE 3 x.vc m.cells, SlE 267 x.vj (rowsOf m.jobs bs), all (List.zipWith hol bs m.jobs)]
instance (b : Nat) (m : UnM) (bs : List Nat) : Key (UnPB b m bs) (.b b) := ⟨trivial⟩
section
variable {w0 w : World} {R : List Pr} {t b r : Nat} {m : UnM} {bs : List Nat} {job n h F : Int} {j : JobM} {l : List LockM}
theorem UnPB.opened (H : Hd w0 (UnPB t m bs :: R) w) : ∃ x : UnW, bs.length = m.jobs.length ∧ Hd w0 (cel t 228 #[x.vu, x.vf, x.vc, x.vj] :: SlE 3 x.vu m.units :: SlE 3 x.vf m.free :: SlE 3 x.vc m.cells :: SlE 267 x.vj (rowsOf m.jobs bs) :: all (List.zipWith hol bs m.jobs) :: R) w := by
  obtain ⟨x, H⟩ := H.out
  have H2 := H.flat
  exact ⟨x, Hd.get H2, H2.tail⟩
theorem UnPB.shut {x : UnW} (H : Hd w0 (cel t 228 #[x.vu, x.vf, x.vc, x.vj] :: SlE 3 x.vu m.units :: SlE 3 x.vf m.free :: SlE 3 x.vc m.cells :: SlE 267 x.vj (rowsOf m.jobs bs) :: all (List.zipWith hol bs m.jobs) :: R) w) (h : bs.length = m.jobs.length) : Hd w0 (UnPB t m bs :: R) w :=
  Hd.into x (Hd.pack (L := [_, _, _, _, _, _, _]) (Hd.put h H))
theorem UnP.toB (H : Hd w0 (UnP t m :: R) w) : ∃ bs, Hd w0 (UnPB t m bs :: R) w := by
  obtain ⟨⟨vu, vf, vc, vj, bs⟩, hb, H1⟩ := UnP.opened H
  exact ⟨bs, UnPB.shut (x := ⟨vu, vf, vc, vj⟩) H1 hb⟩
theorem UnPB.toP (H : Hd w0 (UnPB t m bs :: R) w) : Hd w0 (UnP t m :: R) w := by
  obtain ⟨⟨vu, vf, vc, vj⟩, hb, H1⟩ := UnPB.opened H
  exact UnP.shut (x := ⟨vu, vf, vc, vj, bs⟩) H1 hb
theorem UnPB.len (H : Hd w0 (UnPB t m bs :: R) w) : bs.length = m.jobs.length := (UnPB.opened H).choose_spec.1
theorem unPop (H : Hd w0 (UnPB t m bs :: R) w) (hm : m.Ok) (hrow : rowAt m.jobs job = some j) (hbs : bs[pos m.jobs job]? = some b) (hl : j.h.locks = l ++ [⟨(r : Int), n⟩]) (hll : l.length ≤ 5000) (hh : j.h.held[r]? = some h) (hF : m.free[r]? = some F) (hn : 0 ≤ n ∧ n ≤ 100000 ∧ -1000000000 ≤ h ∧ h ≤ 1000000000 ∧ -1000000000 ≤ F ∧ F ≤ 1000000000) :
    Calls Tryz.prog 181 #[.pointer (some ⟨t, 0, none⟩), .int .i64 job, .pointer (some ⟨b, 0, none⟩)] w fun e w' => e = .returned (.int .i64 n) ∧ Hd w0 (UnPB t (m.popped job) (if l.length = 0 then bs.eraseIdx (pos m.jobs job) else bs) :: R) w' := by
  obtain ⟨⟨vu, vf, vc, vj⟩, hb, H1⟩ := UnPB.opened H
  dsimp only at H1
  have hpos := (rowAt_some hm.s hrow).1
  have hlen := hm.h j (List.mem_of_getElem? hpos)
  have h1 : j.h.locks.getLast? = some ⟨(r : Int), n⟩ := by rw [hl]; simp
  have h2 : j.h.locks.length = l.length + 1 := by rw [hl]; simp
  have h3 : j.h.locks.dropLast = l := by rw [hl]; simp
  have e9 : m.popped job = ⟨m.units, m.free.set r (F + n), m.cells, if l.length = 0 then m.jobs.eraseIdx (pos m.jobs job) else m.jobs.set (pos m.jobs job) ⟨j.job, ⟨l, j.h.held.set r (h - n)⟩⟩⟩ := by
    unfold UnM.popped
    rw [hrow]
    dsimp only
    rw [h1]
    dsimp only
    rw [h2, h3, Int.toNat_natCast, hF, hh]
    by_cases hz : l.length = 0
    · rw [if_pos (by omega), if_pos hz]; rfl
    · rw [if_neg (by omega), if_neg hz]; rfl
  rw [e9]
  have H5 : Hd w0 (all (List.zipWith hol bs m.jobs) :: cel t 228 #[vu, vf, vc, vj] :: SlE 3 vu m.units :: SlE 3 vf m.free :: SlE 3 vc m.cells :: SlE 267 vj (rowsOf m.jobs bs) :: R) w := H1.re
  obtain ⟨lv, H6⟩ := (H5.row_nth hbs hpos).out
  rw [hl] at H6
  have H7 : Hd w0 (cel b 240 (lv :: j.h.held.map (Value.int .i64)).toArray :: SlE 296 lv (l ++ [⟨(r : Int), n⟩]) :: all ((List.zipWith hol bs m.jobs).eraseIdx (pos m.jobs job)) :: cel t 228 #[vu, vf, vc, vj] :: SlE 3 vu m.units :: SlE 3 vf m.free :: SlE 3 vc m.cells :: SlE 267 vj (rowsOf m.jobs bs) :: R) w := H6.flat
  have hpl := lt_of_get? hpos
  by_cases hz : l.length = 0
  · rw [if_pos hz, if_pos hz]
    obtain ⟨b2, hb2, hrw⟩ := rowsOf_row hb hrow
    have hB := unPopB (job := job) (H7.re : Hd w0 (cel b 240 (lv :: j.h.held.map (Value.int .i64)).toArray :: SlE 296 lv (l ++ [⟨(r : Int), n⟩]) :: cel t 228 #[vu, vf, vc, vj] :: SlE 3 vf m.free :: SlE 267 vj (rowsOf m.jobs bs) :: all ((List.zipWith hol bs m.jobs).eraseIdx (pos m.jobs job)) :: SlE 3 vu m.units :: SlE 3 vc m.cells :: R) w) hz (rowsOf_sorted hm.s) (by rw [rowsOf_len hb]; have := hm.n; omega) hrw hlen hh hF hn
    refine hB.mono ?_
    rintro e w1 ⟨rfl, vf2, vj2, H8⟩
    refine ⟨rfl, ?_⟩
    rw [rowsOf_pos hb, rowsOf_erase] at H8
    rw [zip_erase] at H8
    refine UnPB.shut (x := ⟨vu, vf2, vc, vj2⟩) ?_ (by rw [List.length_eraseIdx, List.length_eraseIdx, hb])
    exact H8.re
  · rw [if_neg hz, if_neg hz]
    have hA := unPopA (job := job) (H7.re : Hd w0 (cel b 240 (lv :: j.h.held.map (Value.int .i64)).toArray :: SlE 296 lv (l ++ [⟨(r : Int), n⟩]) :: cel t 228 #[vu, vf, vc, vj] :: SlE 3 vf m.free :: SlE 267 vj (rowsOf m.jobs bs) :: all ((List.zipWith hol bs m.jobs).eraseIdx (pos m.jobs job)) :: SlE 3 vu m.units :: SlE 3 vc m.cells :: R) w) (by omega) hll hlen hh hF hn
    refine hA.mono ?_
    rintro e w1 ⟨rfl, lv2, vf2, H8⟩
    refine ⟨rfl, ?_⟩
    have H9 : Hd w0 (cel b 240 (lv2 :: (j.h.held.set r (h - n)).map (Value.int .i64)).toArray :: SlE 296 lv2 l :: all ((List.zipWith hol bs m.jobs).eraseIdx (pos m.jobs job)) :: cel t 228 #[vu, vf2, vc, vj] :: SlE 3 vu m.units :: SlE 3 vf2 (m.free.set r (F + n)) :: SlE 3 vc m.cells :: SlE 267 vj (rowsOf m.jobs bs) :: R) w1 := H8.re
    have HV := Hd.into (S := fun lv : Value => all [cel b 240 (lv :: (j.h.held.set r (h - n)).map (Value.int .i64)).toArray, SlE 296 lv l]) lv2 (Hd.pack (L := [_, _]) H9)
    have HW := HV.row_back (f := hol) (b' := ⟨j.job, ⟨l, j.h.held.set r (h - n)⟩⟩) hbs hpos
    refine UnPB.shut (x := ⟨vu, vf2, vc, vj⟩) ?_ (by simpa using hb)
    dsimp only
    rw [rowsOf_set (j' := ⟨j.job, ⟨l, j.h.held.set r (h - n)⟩⟩) (bs := bs) hpos rfl]
    exact HW.re
end
end Go.Proofs.YtogcikilphakmaaGreatDoor

/-
  units.Table: Unlock. Every table, every call.
-/
namespace Go.Proofs.YtogcikilphakmaaGreatDoor
open Go.RowKit Spl

structure UnM.Ok3 (m : UnM) : Prop where
  k : ∀ j ∈ m.jobs, j.h.locks ≠ [] ∧ ∀ x ∈ j.h.locks, 0 ≤ x.res ∧ x.res < m.units.length ∧ 1 ≤ x.units ∧ x.units ≤ 255
def UnM.unlockE (m : UnM) (job res : Int) : Int :=
  if job < 0 ∨ res < 0 ∨ (m.units.length : Int) ≤ res then 1
  else match rowAt m.jobs job with
    | none => 21
    | some j => if j.h.locks.getLast?.map (·.res) = some res then 0 else 21
def UnM.topN (m : UnM) (job : Int) : Int :=
  match rowAt m.jobs job with
  | none => 0
  | some j => (j.h.locks.getLast?.map (·.units)).getD 0
theorem list_set_same {α : Type} {l : List α} {i : Nat} {a : α} (h : l[i]? = some a) : l.set i a = l := by
  apply List.ext_getElem?
  intro k
  by_cases hk : i = k
  · subst hk; rw [List.getElem?_set_self (lt_of_get? h), h]
  · rw [List.getElem?_set_ne hk]
section
variable {w0 w : World} {R : List Pr} {t : Nat} {m : UnM} {bs : List Nat} {job res : Int}
theorem unGetB (H : Hd w0 (UnPB t m bs :: R) w) (hm : m.Ok) {j : JobM} (hrow : rowAt m.jobs job = some j) : ∃ b, bs[pos m.jobs job]? = some b ∧ Calls Tryz.prog 175 #[.pointer (some ⟨t, 3, none⟩), .int .i64 job] w fun e w' =>
    e = .returned (.tuple #[.pointer (some ⟨b, 0, none⟩), .bool true]) ∧ Hd w0 (UnPB t m bs :: R) w' := by
  obtain ⟨⟨vu, vf, vc, vj⟩, hb, H1⟩ := UnPB.opened H
  dsimp only at H1
  obtain ⟨b, hbs, hrw⟩ := rowsOf_row hb hrow
  have hg := get_hold (o := 3) ((H1.v vj).k t) rfl (rowsOf_sorted hm.s) (by rw [rowsOf_len hb]; have := hm.n; omega) job hrw
  refine ⟨b, hbs, hg.mono ?_⟩
  rintro e w1 ⟨rfl, H2⟩
  exact ⟨rfl, UnPB.shut (x := ⟨vu, vf, vc, vj⟩) H2.re hb⟩
theorem unGetNoB (H : Hd w0 (UnPB t m bs :: R) w) (hm : m.Ok) (hrow : rowAt m.jobs job = none) : Calls Tryz.prog 175 #[.pointer (some ⟨t, 3, none⟩), .int .i64 job] w fun e w' =>
    e = .returned (.tuple #[.pointer none, .bool false]) ∧ Hd w0 (UnPB t m bs :: R) w' := by
  obtain ⟨⟨vu, vf, vc, vj⟩, hb, H1⟩ := UnPB.opened H
  dsimp only at H1
  have hg := getNo_hold (o := 3) ((H1.v vj).k t) rfl (rowsOf_sorted hm.s) (by rw [rowsOf_len hb]; have := hm.n; omega) job (rowsOf_none hb hrow)
  refine hg.mono ?_
  rintro e w1 ⟨rfl, H2⟩
  exact ⟨rfl, UnPB.shut (x := ⟨vu, vf, vc, vj⟩) H2.re hb⟩
theorem unTopB (H : Hd w0 (UnPB t m bs :: R) w) (hm : m.Ok) {j : JobM} {b : Nat} (hrow : rowAt m.jobs job = some j) (hbs : bs[pos m.jobs job]? = some b) {l : List LockM} {x : LockM} (hl : j.h.locks = l ++ [x]) (hll : l.length ≤ 5000) : Calls Tryz.prog 180 #[.pointer (some ⟨b, 0, none⟩)] w fun e w' =>
    e = .returned (.tuple #[.agg #[.int .i64 x.res, .int .i64 x.units], .bool true]) ∧ Hd w0 (UnPB t m bs :: R) w' := by
  obtain ⟨⟨vu, vf, vc, vj⟩, hb, H1⟩ := UnPB.opened H
  dsimp only at H1
  have hpos := (rowAt_some hm.s hrow).1
  have H5 : Hd w0 (all (List.zipWith hol bs m.jobs) :: cel t 228 #[vu, vf, vc, vj] :: SlE 3 vu m.units :: SlE 3 vf m.free :: SlE 3 vc m.cells :: SlE 267 vj (rowsOf m.jobs bs) :: R) w := H1.re
  obtain ⟨lv, H6⟩ := (H5.row_nth hbs hpos).out
  rw [hl] at H6
  have H7 : Hd w0 (cel b 240 (lv :: j.h.held.map (Value.int .i64)).toArray :: SlE 296 lv (l ++ [x]) :: all ((List.zipWith hol bs m.jobs).eraseIdx (pos m.jobs job)) :: cel t 228 #[vu, vf, vc, vj] :: SlE 3 vu m.units :: SlE 3 vf m.free :: SlE 3 vc m.cells :: SlE 267 vj (rowsOf m.jobs bs) :: R) w := H6.flat
  have hlk : l.length < 100000 := by omega
  have htop := stkTop_lock (o := 0) H7 rfl hlk
  refine htop.mono ?_
  rintro e w1 ⟨rfl, H8⟩
  refine ⟨rfl, ?_⟩
  rw [← hl] at H8
  have HV := Hd.into (S := fun lv : Value => all [cel b 240 (lv :: j.h.held.map (Value.int .i64)).toArray, SlE 296 lv j.h.locks]) lv (Hd.pack (L := [_, _]) H8)
  have HW := HV.row_back (f := hol) (b' := j) hbs hpos
  rw [list_set_same hpos] at HW
  refine UnPB.shut (x := ⟨vu, vf, vc, vj⟩) ?_ hb
  exact HW.re
set_option maxRecDepth 20000 in
set_option maxHeartbeats 4000000 in
theorem unUnlock (H : Hd w0 (UnP t m :: R) w) (hm : m.Ok) (h2 : m.Ok2) (h3 : m.Ok3) :
    Calls Tryz.prog 161 #[.pointer (some ⟨t, 0, none⟩), .int .i64 job, .int .i64 res] w fun e w' => e = .returned (.tuple #[.int .i64 (if m.unlockE job res = 0 then m.topN job else 0), .int .i64 (m.unlockE job res)]) ∧ Hd w0 (UnP t (if m.unlockE job res = 0 then m.popped job else m) :: R) w' := by
  obtain ⟨bs, H⟩ := UnP.toB H
  obtain ⟨E, hE⟩ : ∃ E, m.unlockE job res = E := ⟨_, rfl⟩
  rw [hE]
  unfold UnM.unlockE at hE
  by_cases z1 : job < 0
  · rw [if_pos (.inl z1)] at hE
    subst hE
    rw [if_neg (by decide), if_neg (by decide)]
    go_enter Tryz.func161, Tryz.ntmps161
    go_wp2_with fail
    go_ret2
    exact ⟨rfl, UnPB.toP H⟩
  by_cases z2 : res < 0 ∨ (m.units.length : Int) ≤ res
  · have hno := unHasNo (UnPB.toP H) res z2
    rw [if_pos (.inr z2)] at hE
    subst hE
    rw [if_neg (by decide), if_neg (by decide)]
    clear z2
    go_enter Tryz.func161, Tryz.ntmps161
    go_wp2_with fail
    refine hno.mono ?_
    rintro e w1 ⟨rfl, rfl⟩
    go_wp2_with fail
    go_ret2
    exact ⟨rfl, UnPB.toP H⟩
  obtain ⟨r, rfl⟩ : ∃ r : Nat, res = r := ⟨res.toNat, by omega⟩
  rw [if_neg (by omega)] at hE
  have hr : r < m.units.length := by omega
  have hyes := unHas (UnPB.toP H) r hr
  clear z2
  cases hrow : rowAt m.jobs job with
  | none =>
    have hg := unGetNoB H hm hrow
    rw [hrow] at hE
    dsimp only at hE
    subst hE
    rw [if_neg (by decide), if_neg (by decide)]
    go_enter Tryz.func161, Tryz.ntmps161
    go_wp2_with fail
    refine hyes.mono ?_
    rintro e w1 ⟨rfl, rfl⟩
    clear hyes
    go_wp2_with fail
    refine hg.mono ?_
    rintro e w1 ⟨rfl, H2⟩
    clear hg
    go_wp2_with fail
    go_ret2
    exact ⟨rfl, UnPB.toP H2⟩
  | some j =>
    obtain ⟨b, hbs, hg⟩ := unGetB H hm hrow
    have hpos := (rowAt_some hm.s hrow).1
    have hmem := List.mem_of_getElem? hpos
    obtain ⟨hne, hlk⟩ := h3.k j hmem
    obtain ⟨l, x, hl⟩ : ∃ l x, j.h.locks = l ++ [x] := ⟨_, _, (List.dropLast_concat_getLast hne).symm⟩
    have hll : l.length ≤ 5000 := by
      have := (h2.hv j hmem).2
      rw [hl] at this
      simp at this
      omega
    have hx := hlk x (by rw [hl]; simp)
    have htop : m.topN job = x.units := by unfold UnM.topN; rw [hrow]; dsimp only; rw [hl]; simp
    rw [hrow] at hE
    dsimp only at hE
    have hlast : j.h.locks.getLast?.map (·.res) = some x.res := by rw [hl]; simp
    rw [hlast] at hE
    rw [htop]
    have hlH := Lib.hid hl
    clear hl hlk hlast htop hne
    by_cases hc : x.res = r
    · rw [if_pos (by rw [hc])] at hE
      subst hE
      rw [if_pos rfl, if_pos rfl]
      obtain ⟨xr, n⟩ := x
      dsimp only at hc hx ⊢
      subst hc
      obtain ⟨F, hF⟩ : ∃ F, m.free[r]? = some F := ⟨m.free[r]'(by rw [h2.f]; exact hr), List.getElem?_eq_getElem _⟩
      have h16 := hm.h j hmem
      obtain ⟨h, hh⟩ : ∃ h, j.h.held[r]? = some h := ⟨j.h.held[r]'(by have := h2.u; omega), List.getElem?_eq_getElem _⟩
      have hhb := (h2.hv j hmem).1 h (List.mem_of_getElem? hh)
      have hFb := h2.fv F (List.mem_of_getElem? hF)
      clear hmem h16
      go_enter Tryz.func161, Tryz.ntmps161
      go_wp2_with fail
      refine hyes.mono ?_
      rintro e w1 ⟨rfl, rfl⟩
      clear hyes
      go_wp2_with fail
      refine hg.mono ?_
      rintro e w1 ⟨rfl, H2⟩
      clear hg
      have ht := unTopB H2 hm hrow hbs hlH.out hll
      go_wp2_with fail
      refine ht.mono ?_
      rintro e w2 ⟨rfl, H3⟩
      clear ht H2
      have HA : Hd w0 _ (w2.alloc (.cells #[.int .i64 r, .int .i64 n] 296)) := H3.fol
      obtain ⟨q, hq⟩ : ∃ q, w2.heap.size = q := ⟨_, rfl⟩
      rw [hq] at HA
      have p0 := (show _ = some (Value.int .i64 r) from (HA.k q).ce 0 rfl)
      have hp := unPop (HA.b2) hm hrow hbs hlH.out hll hh hF (by omega)
      clear H3
      go_wp2_with fail
      refine hp.mono ?_
      rintro e w3 ⟨rfl, H4⟩
      clear hp
      go_wp2_with fail
      go_ret2
      exact ⟨rfl, (UnPB.toP H4).re⟩
    · rw [if_neg (fun h => hc (Option.some.inj h))] at hE
      subst hE
      rw [if_neg (by decide), if_neg (by decide)]
      have hcn : ¬ (r : Int) = x.res := fun h => hc h.symm
      go_enter Tryz.func161, Tryz.ntmps161
      go_wp2_with fail
      refine hyes.mono ?_
      rintro e w1 ⟨rfl, rfl⟩
      clear hyes
      go_wp2_with fail
      refine hg.mono ?_
      rintro e w1 ⟨rfl, H2⟩
      clear hg
      have ht := unTopB H2 hm hrow hbs hlH.out hll
      go_wp2_with fail
      refine ht.mono ?_
      rintro e w2 ⟨rfl, H3⟩
      clear ht H2
      have HA : Hd w0 _ (w2.alloc (.cells #[.int .i64 x.res, .int .i64 x.units] 296)) := H3.fol
      obtain ⟨q, hq⟩ : ∃ q, w2.heap.size = q := ⟨_, rfl⟩
      rw [hq] at HA
      have p0 := (show _ = some (Value.int .i64 x.res) from (HA.k q).ce 0 rfl)
      clear H3
      go_wp2_with fail
      go_ret2
      exact ⟨rfl, (UnPB.toP HA.b2).re⟩
end
end Go.Proofs.YtogcikilphakmaaGreatDoor

/-
  units.Table: cell, Load, Store. Every table, every call.
-/
namespace Go.Proofs.YtogcikilphakmaaGreatDoor
open Go.RowKit Spl

def UnM.cellE (m : UnM) (job res : Int) : Int :=
  if job < 0 ∨ res < 0 ∨ (m.units.length : Int) ≤ res then 1
  else if (m.heldL job)[res.toNat]?.getD 0 = 0 then 23 else 0
def UnM.stored (m : UnM) (r : Nat) (v : Int) : UnM := ⟨m.units, m.free, m.cells.set r v, m.jobs⟩
section
variable {w0 w : World} {R : List Pr} {t : Nat} {m : UnM} {job res : Int}
theorem UnM.cellE_cases (m : UnM) (job res : Int) : m.cellE job res = 1 ∨ m.cellE job res = 23 ∨ (m.cellE job res = 0 ∧ ∃ r : Nat, res = r ∧ r < m.units.length) := by
  unfold UnM.cellE
  by_cases a : job < 0 ∨ res < 0 ∨ (m.units.length : Int) ≤ res
  · rw [if_pos a]; exact .inl rfl
  · rw [if_neg a]
    by_cases c : (m.heldL job)[res.toNat]?.getD 0 = 0
    · rw [if_pos c]; exact .inr (.inl rfl)
    · rw [if_neg c]; exact .inr (.inr ⟨rfl, res.toNat, by omega, by omega⟩)
set_option maxRecDepth 20000 in
set_option maxHeartbeats 4000000 in
theorem unCell (H : Hd w0 (UnP t m :: R) w) (hm : m.Ok) (h2 : m.Ok2) :
    Calls Tryz.prog 184 #[.pointer (some ⟨t, 0, none⟩), .int .i64 job, .int .i64 res] w fun e w' => e = .returned (.int .i64 (m.cellE job res)) ∧ Hd w0 (UnP t m :: R) w' := by
  obtain ⟨E, hE⟩ : ∃ E, m.cellE job res = E := ⟨_, rfl⟩
  rw [hE]
  unfold UnM.cellE at hE
  by_cases z1 : job < 0
  · rw [if_pos (.inl z1)] at hE
    subst hE
    go_enter Tryz.func184, Tryz.ntmps184
    go_wp2_with fail
    go_ret
    exact ⟨rfl, H⟩
  by_cases z2 : res < 0 ∨ (m.units.length : Int) ≤ res
  · have hno := unHasNo H res z2
    rw [if_pos (.inr z2)] at hE
    subst hE
    clear z2
    go_enter Tryz.func184, Tryz.ntmps184
    go_wp2_with fail
    refine hno.mono ?_
    rintro e w1 ⟨rfl, rfl⟩
    go_wp2_with fail
    go_ret
    exact ⟨rfl, H⟩
  obtain ⟨r, rfl⟩ : ∃ r : Nat, res = r := ⟨res.toNat, by omega⟩
  rw [if_neg (by omega), Int.toNat_natCast] at hE
  have hr : r < m.units.length := by omega
  have hyes := unHas H r hr
  clear z2
  have hlen := UnM.heldL_len hm job
  have hof := unOf H hm job
  obtain ⟨h, hh⟩ : ∃ h, (m.heldL job)[r]? = some h := ⟨(m.heldL job)[r]'(by have := h2.u; omega), List.getElem?_eq_getElem _⟩
  have hix := index_held hlen hh
  rw [hh, Option.getD_some] at hE
  obtain ⟨A, hA⟩ : ∃ A, heldA (m.heldL job) = A := ⟨_, rfl⟩
  rw [hA] at hof hix
  clear hA hh hlen hm h2
  by_cases z3 : h = 0
  · rw [if_pos z3] at hE
    subst hE
    go_enter Tryz.func184, Tryz.ntmps184
    go_wp2_with fail
    refine hyes.mono ?_
    rintro e w1 ⟨rfl, rfl⟩
    clear hyes
    go_wp2_with fail
    refine hof.mono ?_
    rintro e w2 ⟨rfl, H2⟩
    clear hof
    go_wp2_with fail
    go_ret
    exact ⟨rfl, H2⟩
  · rw [if_neg z3] at hE
    subst hE
    go_enter Tryz.func184, Tryz.ntmps184
    go_wp2_with fail
    refine hyes.mono ?_
    rintro e w1 ⟨rfl, rfl⟩
    clear hyes
    go_wp2_with fail
    refine hof.mono ?_
    rintro e w2 ⟨rfl, H2⟩
    clear hof
    go_wp2_with fail
    go_ret
    exact ⟨rfl, H2⟩
set_option maxRecDepth 20000 in
set_option maxHeartbeats 4000000 in
theorem unLoadNo (H : Hd w0 (UnP t m :: R) w) (hm : m.Ok) (h2 : m.Ok2) (hE : ¬ m.cellE job res = 0) :
    Calls Tryz.prog 165 #[.pointer (some ⟨t, 0, none⟩), .int .i64 job, .int .i64 res] w fun e w' => e = .returned (.tuple #[.int .i64 0, .int .i64 (m.cellE job res)]) ∧ Hd w0 (UnP t m :: R) w' := by
  have hc := unCell (job := job) (res := res) H hm h2
  obtain ⟨E, hEE⟩ : ∃ E, m.cellE job res = E := ⟨_, rfl⟩
  rw [hEE] at hc hE ⊢
  clear hEE hm h2 H
  go_enter Tryz.func165, Tryz.ntmps165
  go_wp2_with fail
  refine hc.mono ?_
  rintro e w1 ⟨rfl, H2⟩
  clear hc
  go_wp2_with fail
  go_ret2
  exact ⟨rfl, H2⟩
set_option maxRecDepth 20000 in
set_option maxHeartbeats 4000000 in
theorem unLoad {r : Nat} {n : Int} (H : Hd w0 (UnP t m :: R) w) (hm : m.Ok) (h2 : m.Ok2) (hE : m.cellE job r = 0) (hn : m.cells[r]? = some n) :
    Calls Tryz.prog 165 #[.pointer (some ⟨t, 0, none⟩), .int .i64 job, .int .i64 r] w fun e w' => e = .returned (.tuple #[.int .i64 n, .int .i64 0]) ∧ Hd w0 (UnP t m :: R) w' := by
  have hc := unCell (job := job) (res := r) H hm h2
  rw [hE] at hc
  clear hE hm h2 H
  go_enter Tryz.func165, Tryz.ntmps165
  go_wp2_with fail
  refine hc.mono ?_
  rintro e w1 ⟨rfl, H2⟩
  clear hc
  obtain ⟨⟨vu, vf, vc, vj, bs⟩, hb, H1⟩ := UnP.opened H2
  dsimp only at H1
  obtain ⟨g, cap, rfl, -, -, -, hcu⟩ := (H1.v vc).slE_at hn
  have u0 := hcu 0 _ rfl
  simp only [Enc.size, Nat.add_zero, Nat.mul_one] at u0
  have c0 := (show _ = some (.slice (some ⟨g, 0, none⟩) m.cells.length cap) from (H1.k t).ce 2 rfl)
  have hlt := lt_of_get? hn
  have n1 : ¬ (r : Int) < 0 := by omega
  have n2 : (r : Int) < m.cells.length := by omega
  have n3 : ¬ m.cells.length ≤ r := by omega
  clear hcu H1 hb hn
  go_wp2_with fail
  go_ret2
  exact ⟨rfl, H2⟩
set_option maxRecDepth 20000 in
set_option maxHeartbeats 4000000 in
theorem unStoreNo (H : Hd w0 (UnP t m :: R) w) (hm : m.Ok) (h2 : m.Ok2) {v : Int} (hE : ¬ m.cellE job res = 0) :
    Calls Tryz.prog 166 #[.pointer (some ⟨t, 0, none⟩), .int .i64 job, .int .i64 res, .int .i64 v] w fun e w' => e = .returned (.int .i64 (m.cellE job res)) ∧ Hd w0 (UnP t m :: R) w' := by
  have hc := unCell (job := job) (res := res) H hm h2
  obtain ⟨E, hEE⟩ : ∃ E, m.cellE job res = E := ⟨_, rfl⟩
  rw [hEE] at hc hE ⊢
  clear hEE hm h2 H
  go_enter Tryz.func166, Tryz.ntmps166
  go_wp2_with fail
  refine hc.mono ?_
  rintro e w1 ⟨rfl, H2⟩
  clear hc
  go_wp2_with fail
  go_ret
  exact ⟨rfl, H2⟩
set_option maxRecDepth 20000 in
set_option maxHeartbeats 4000000 in
theorem unStore {r : Nat} {n : Int} (H : Hd w0 (UnP t m :: R) w) (hm : m.Ok) (h2 : m.Ok2) {v : Int} (hE : m.cellE job r = 0) (hn : m.cells[r]? = some n) :
    Calls Tryz.prog 166 #[.pointer (some ⟨t, 0, none⟩), .int .i64 job, .int .i64 r, .int .i64 v] w fun e w' => e = .returned (.int .i64 0) ∧ Hd w0 (UnP t (m.stored r v) :: R) w' := by
  have hc := unCell (job := job) (res := r) H hm h2
  rw [hE] at hc
  clear hE hm h2 H
  go_enter Tryz.func166, Tryz.ntmps166
  go_wp2_with fail
  refine hc.mono ?_
  rintro e w1 ⟨rfl, H2⟩
  clear hc
  obtain ⟨⟨vu, vf, vc, vj, bs⟩, hb, H1⟩ := UnP.opened H2
  dsimp only at H1 hb
  obtain ⟨g, cap, rfl, -, -, HC, hcu⟩ := (H1.v vc).slE_at hn
  have u0 := hcu 0 _ rfl
  simp only [Enc.size, Nat.add_zero, Nat.mul_one] at u0
  have c0 := (show _ = some (.slice (some ⟨g, 0, none⟩) m.cells.length cap) from (H1.k t).ce 2 rfl)
  have hlt := lt_of_get? hn
  have n1 : ¬ (r : Int) < 0 := by omega
  have n2 : (r : Int) < m.cells.length := by omega
  have n3 : ¬ m.cells.length ≤ r := by omega
  have fx := HC.slcC_fr r
  have HS := HC.slcC_set (j := r) (by rw [flat_len]; simp [Enc.size]; omega) (.int .i64 v)
  have e5 : (flat m.cells).set r (.int .i64 v) = flat (m.cells.set r v) := by
    have := flat_set (l := m.cells) (k := r) (x := n) (y := v) hn (j := 0) (v := .int .i64 v) (by decide) rfl
    simpa [Enc.size] using this
  rw [e5] at HS
  clear hcu H1 hn HC
  go_wp2_with fail
  go_ret
  refine ⟨rfl, ?_⟩
  have HT := Hd.slc_mk HS
  refine UnP.shut (x := ⟨vu, vf, .slice (some ⟨g, 0, none⟩) m.cells.length cap, vj, bs⟩) ?_ hb
  dsimp only [UnM.stored]
  unfold SlE at HT ⊢
  rw [List.length_set]
  exact HT.re
end
end Go.Proofs.YtogcikilphakmaaGreatDoor

/-
  units.Table: Drop. Every table, every call.
-/
namespace Go.Proofs.YtogcikilphakmaaGreatDoor
open Go.RowKit Spl

theorem keys_pos {α K : Type} [KLt K] [Keyed α K] {l l' : List α} (h : l.map (Keyed.key : α → K) = l'.map Keyed.key) (k : K) : pos l k = pos l' k := by
  have e : ∀ l : List α, pos l k = ((l.map (Keyed.key : α → K)).takeWhile (fun a => KLt.lt a k)).length := by
    intro l
    rw [List.takeWhile_map, List.length_map]
    rfl
  rw [e l, e l', h]
theorem keys_sorted {α K : Type} [KLt K] [Keyed α K] {l l' : List α} (h : l.map (Keyed.key : α → K) = l'.map Keyed.key) (hs : Sorted l) : Sorted l' := by
  have e : ∀ l : List α, Sorted l ↔ (l.map (Keyed.key : α → K)).Pairwise (fun a b => KLt.lt a b = true) := by
    intro l
    rw [List.pairwise_map]
    exact Iff.rfl
  rw [e, ← h, ← e]
  exact hs
theorem set_keys {α K : Type} [KLt K] [Keyed α K] {l : List α} {i : Nat} {x y : α} (hx : l[i]? = some x) (hk : (Keyed.key y : K) = Keyed.key x) : (l.set i y).map (Keyed.key : α → K) = l.map Keyed.key := by
  rw [List.map_set]
  exact list_set_same (by rw [List.getElem?_map, hx, hk]; rfl)
theorem rowAt_set {α K : Type} [KLt K] [Keyed α K] {l : List α} {k : K} {x y : α} (hs : Sorted l) (h : rowAt l k = some x) (hk : (Keyed.key y : K) = Keyed.key x) : rowAt (l.set (pos l k) y) k = some y := by
  obtain ⟨h1, h2⟩ := rowAt_some hs h
  have hp := keys_pos (set_keys h1 hk) k
  unfold rowAt
  rw [hp, List.getElem?_set_self (lt_of_get? h1)]
  dsimp only
  rw [hk, h2, KLt.irr]
  rfl
def UnM.popN (m : UnM) (job : Int) : Nat → UnM
  | 0 => m
  | k + 1 => (m.popN job k).popped job
structure DropS (m0 : UnM) (job : Int) (L : List LockM) (k : Nat) (m : UnM) : Prop where
  ok : m.Ok
  row : ∃ j, rowAt m.jobs job = some j ∧ j.h.locks = L.take (L.length - k) ∧ ∀ x ∈ j.h.held, -(255 + 255 * (k : Int)) ≤ x ∧ x ≤ 255 + 255 * (k : Int)
  p : pos m.jobs job = pos m0.jobs job
  u : m.units = m0.units
  f : m.free.length = m0.units.length ∧ ∀ x ∈ m.free, -(255 + 255 * (k : Int)) ≤ x ∧ x ≤ 255 + 255 * (k : Int)
theorem take_last {α : Type} {L : List α} {k : Nat} (hk : k < L.length) : ∃ x, x ∈ L ∧ L.take (L.length - k) = L.take (L.length - (k + 1)) ++ [x] := by
  have e : L.length - k = (L.length - (k + 1)) + 1 := by omega
  refine ⟨L[L.length - (k + 1)]'(by omega), List.getElem_mem _, ?_⟩
  rw [e, List.take_add_one, List.getElem?_eq_getElem (by omega)]
  rfl
theorem mem_set_le {l : List Int} {i : Nat} {y a b : Int} (h : ∀ x ∈ l, a ≤ x ∧ x ≤ b) (hy : a ≤ y ∧ y ≤ b) : ∀ x ∈ l.set i y, a ≤ x ∧ x ≤ b := by
  intro x hx
  rcases List.mem_or_eq_of_mem_set hx with h1 | h1
  · exact h x h1
  · rw [h1]; exact hy
theorem DropS.step {m0 m : UnM} {job : Int} {L : List LockM} {k : Nat} (h : DropS m0 job L k m) (hL : ∀ x ∈ L, 0 ≤ x.res ∧ x.res < m0.units.length ∧ 1 ≤ x.units ∧ x.units ≤ 255) (h16 : m0.units.length ≤ 16) (hk : k + 1 < L.length) : DropS m0 job L (k + 1) (m.popped job) := by
  obtain ⟨j, hrow, hl, hh⟩ := h.row
  obtain ⟨x, hx, htk⟩ := take_last (L := L) (k := k) (by omega)
  obtain ⟨x1, x2, x3, x4⟩ := hL x hx
  have hl2 := hl.trans htk
  obtain ⟨hpos, hkey⟩ := rowAt_some h.ok.s hrow
  have h1 : j.h.locks.getLast? = some x := by rw [hl2]; simp
  have h2 : j.h.locks.length = L.length - (k + 1) + 1 := by rw [hl2]; simp
  have h3 : j.h.locks.dropLast = L.take (L.length - (k + 1)) := by rw [hl2]; simp
  obtain ⟨r, hr⟩ : ∃ r : Nat, x.res = r := ⟨x.res.toNat, by omega⟩
  have hlen := h.ok.h j (List.mem_of_getElem? hpos)
  obtain ⟨F, hF⟩ : ∃ F, m.free[r]? = some F := ⟨m.free[r]'(by rw [h.f.1]; omega), List.getElem?_eq_getElem _⟩
  obtain ⟨hd, hhd⟩ : ∃ hd, j.h.held[r]? = some hd := ⟨j.h.held[r]'(by omega), List.getElem?_eq_getElem _⟩
  have hFb := h.f.2 F (List.mem_of_getElem? hF)
  have hhb := hh hd (List.mem_of_getElem? hhd)
  have e9 : m.popped job = ⟨m.units, m.free.set r (F + x.units), m.cells, m.jobs.set (pos m.jobs job) ⟨j.job, ⟨L.take (L.length - (k + 1)), j.h.held.set r (hd - x.units)⟩⟩⟩ := by
    unfold UnM.popped
    rw [hrow]
    dsimp only
    rw [h1]
    dsimp only
    rw [h2, h3, if_neg (by omega), hr, Int.toNat_natCast, hF, hhd]
    rfl
  have hks := set_keys (K := Int) (y := (⟨j.job, ⟨L.take (L.length - (k + 1)), j.h.held.set r (hd - x.units)⟩⟩ : JobM)) hpos rfl
  rw [e9]
  refine ⟨⟨keys_sorted hks.symm h.ok.s, by rw [List.length_set]; exact h.ok.n, ?_⟩, ⟨_, rowAt_set h.ok.s hrow rfl, rfl, ?_⟩, (keys_pos hks job).trans h.p, h.u, ?_, ?_⟩
  · intro j' hj'
    rcases List.mem_or_eq_of_mem_set hj' with q | q
    · exact h.ok.h j' q
    · rw [q]; dsimp only; rw [List.length_set]; exact hlen
  · push_cast
    refine mem_set_le (fun x hx => ?_) (by omega)
    have := hh x hx
    omega
  · dsimp only; rw [List.length_set]; exact h.f.1
  · push_cast
    refine mem_set_le (fun x hx => ?_) (by omega)
    have := h.f.2 x hx
    omega
def UnM.locksN (m : UnM) (job : Int) : Nat :=
  match rowAt m.jobs job with
  | none => 0
  | some j => j.h.locks.length
section
variable {w0 w : World} {R : List Pr} {t : Nat} {m : UnM} {bs : List Nat} {job : Int}
theorem unLenB (H : Hd w0 (UnPB t m bs :: R) w) (hm : m.Ok) {j : JobM} {b : Nat} (hrow : rowAt m.jobs job = some j) (hbs : bs[pos m.jobs job]? = some b) : Calls Tryz.prog 185 #[.pointer (some ⟨b, 0, none⟩)] w fun e w' =>
    e = .returned (.int .i64 j.h.locks.length) ∧ w = w' := by
  obtain ⟨⟨vu, vf, vc, vj⟩, hb, H1⟩ := UnPB.opened H
  dsimp only at H1
  have hpos := (rowAt_some hm.s hrow).1
  have H5 : Hd w0 (all (List.zipWith hol bs m.jobs) :: cel t 228 #[vu, vf, vc, vj] :: SlE 3 vu m.units :: SlE 3 vf m.free :: SlE 3 vc m.cells :: SlE 267 vj (rowsOf m.jobs bs) :: R) w := H1.re
  obtain ⟨lv, H6⟩ := (H5.row_nth hbs hpos).out
  have H7 : Hd w0 (cel b 240 (lv :: j.h.held.map (Value.int .i64)).toArray :: SlE 296 lv j.h.locks :: all ((List.zipWith hol bs m.jobs).eraseIdx (pos m.jobs job)) :: cel t 228 #[vu, vf, vc, vj] :: SlE 3 vu m.units :: SlE 3 vf m.free :: SlE 3 vc m.cells :: SlE 267 vj (rowsOf m.jobs bs) :: R) w := H6.flat
  exact stkLen_lock (o := 0) H7 rfl
set_option maxRecDepth 20000 in
set_option maxHeartbeats 4000000 in
theorem unDrop (H : Hd w0 (UnP t m :: R) w) (hm : m.Ok) (h2 : m.Ok2) (h3 : m.Ok3) :
    Calls Tryz.prog 168 #[.pointer (some ⟨t, 0, none⟩), .int .i64 job] w fun e w' => e = .returned (.int .i64 (m.locksN job)) ∧ Hd w0 (UnP t (m.popN job (m.locksN job)) :: R) w' := by
  obtain ⟨bs, H⟩ := UnP.toB H
  unfold UnM.locksN
  cases hrow : rowAt m.jobs job with
  | none =>
    have hg := unGetNoB H hm hrow
    clear H
    go_enter Tryz.func168, Tryz.ntmps168
    go_wp2_with fail
    refine hg.mono ?_
    rintro e w1 ⟨rfl, H2⟩
    clear hg
    go_wp2_with fail
    go_ret
    exact ⟨rfl, UnPB.toP H2⟩
  | some j =>
    obtain ⟨b, hbs, hg⟩ := unGetB H hm hrow
    have hpos := (rowAt_some hm.s hrow).1
    have hmem := List.mem_of_getElem? hpos
    obtain ⟨hne, hlk⟩ := h3.k j hmem
    have hN0 : 0 < j.h.locks.length := List.length_pos_iff.2 hne
    have hN5 := (h2.hv j hmem).2
    have hS0 : DropS m job j.h.locks 0 m := ⟨hm, ⟨j, hrow, by simp, fun x hx => by have := (h2.hv j hmem).1 x hx; omega⟩, rfl, rfl, h2.f, fun x hx => by have := h2.fv x hx; omega⟩
    have hu := h2.u
    obtain ⟨L, hL⟩ : ∃ L, j.h.locks = L := ⟨_, rfl⟩
    have hlen0 := fun (w1 : World) (H2 : Hd w0 (UnPB t m bs :: R) w1) => unLenB H2 hm hrow hbs
    rw [hL] at hlk hN0 hN5 hS0
    dsimp only
    rw [hL] at hlen0 ⊢
    clear hne hL hmem H
    obtain ⟨N, hN⟩ : ∃ N, L.length = N := ⟨_, rfl⟩
    rw [hN] at hN0 hN5 hlen0 ⊢
    replace hlk := Lib.hid hlk
    have hlenH := Lib.hid hlen0
    clear hlen0
    go_enter Tryz.func168, Tryz.ntmps168
    go_wp2_with fail
    refine hg.mono ?_
    rintro e w1 ⟨rfl, H2⟩
    clear hg
    have hlen := hlenH.out _ H2
    clear hlenH
    go_wp2_with fail
    refine hlen.mono ?_
    rintro e w2 ⟨rfl, rfl⟩
    clear hlen
    go_wp2_with fail
    go_loopw [23] (fun i wr => ∃ k : Nat, k ≤ N ∧ i = .int .i64 k ∧ (k < N → DropS m job L k (m.popN job k) ∧ Hd w0 (UnPB t (m.popN job k) bs :: R) wr) ∧ (k = N → Hd w0 (UnP t (m.popN job k) :: R) wr)) (fun i _ => N - (intOf i).toNat)
    case atStart => exact ⟨0, Nat.zero_le _, rfl, fun _ => ⟨hS0, H2⟩, fun h => by omega⟩
    case round =>
      obtain ⟨k, hk, rfl, hA, hB⟩ := hrel
      by_cases hlt : k < N
      · obtain ⟨hS, HI⟩ := hA hlt
        clear hA hB
        obtain ⟨j', hrow', hl', hh'⟩ := hS.row
        obtain ⟨x, hx, htk⟩ := take_last (L := L) (k := k) (by omega)
        obtain ⟨x1, x2, x3, x4⟩ := hlk.out x hx
        have hl2 := hl'.trans htk
        have hbs' : bs[pos (m.popN job k).jobs job]? = some b := by rw [hS.p]; exact hbs
        obtain ⟨xr, n⟩ := x
        obtain ⟨r, rfl⟩ : ∃ r : Nat, xr = r := ⟨xr.toNat, by dsimp only at x1; omega⟩
        dsimp only at x2 x3 x4
        have hlen' := hS.ok.h j' (List.mem_of_getElem? (rowAt_some hS.ok.s hrow').1)
        obtain ⟨F, hF⟩ : ∃ F, (m.popN job k).free[r]? = some F := ⟨(m.popN job k).free[r]'(by rw [hS.f.1]; omega), List.getElem?_eq_getElem _⟩
        obtain ⟨hd, hhd⟩ : ∃ hd, j'.h.held[r]? = some hd := ⟨j'.h.held[r]'(by omega), List.getElem?_eq_getElem _⟩
        have hFb := hS.f.2 F (List.mem_of_getElem? hF)
        have hhb := hh' hd (List.mem_of_getElem? hhd)
        have hp := unPop HI hS.ok hrow' hbs' hl2 (by simp; omega) hhd hF (by omega)
        have g1 : IntKind.i64.wrap ((k : Int) + 1) = (k : Int) + 1 := IntWalk.i64_in _ (by omega)
        have hlti : (k : Int) < N := by omega
        clear hF hhd hl' htk hh' hFb hhb hlen' hx x1
        go_wp2_with fail
        refine hp.mono ?_
        rintro e w3 ⟨rfl, H4⟩
        clear hp
        go_wp2_with fail
        refine ⟨⟨k + 1, by omega, by go_num, fun hk1 => ⟨hS.step hlk.out hu (by omega), ?_⟩, fun hk1 => UnPB.toP H4⟩, by simp [intOf]; omega⟩
        rw [if_neg (by simp; omega)] at H4
        exact H4
      · obtain rfl : k = N := by omega
        have HF := hB rfl
        clear hA hB
        go_wp2_with fail
        go_ret
        exact ⟨rfl, HF⟩
end
end Go.Proofs.YtogcikilphakmaaGreatDoor
