/-
  Merged texts of one proof: UnM, Un1, Un2, Un3, Un4, Un5.
-/
import Derived.Deep.MidRow
import Derived.Test.YtogcikilphakmaaGreatDoorG11
import Derived.Test.YtogcikilphakmaaGreatDoorG14
import Derived.Test.YtogcikilphakmaaGreatDoorG17
import Derived.Test.YtogcikilphakmaaGreatDoorG20

/-
  The resource table in plain terms, and how it lies in memory.
-/
namespace Go.Proofs.YtogcikilphakmaaGreatDoor
open Go.RowKit Spl

structure HoM where
  locks : List LockM
  held : List Int
structure JobM where
  job : Int
  h : HoM
instance : Keyed JobM Int := ⟨JobM.job⟩
structure UnM where
  units : List Int
  free : List Int
  cells : List Int
  jobs : List JobM
def rowsOf (jobs : List JobM) (bs : List Nat) : List RowH := List.zipWith (fun j b => ⟨j.job, b⟩) jobs bs
theorem rowsOf_len {jobs : List JobM} {bs : List Nat} (h : bs.length = jobs.length) : (rowsOf jobs bs).length = jobs.length := by simp [rowsOf, h]
theorem rowsOf_at {jobs : List JobM} {bs : List Nat} {i : Nat} {j : JobM} {b : Nat} (hj : jobs[i]? = some j) (hb : bs[i]? = some b) : (rowsOf jobs bs)[i]? = some ⟨j.job, b⟩ := by
  simp [rowsOf, List.getElem?_zipWith, hj, hb]
theorem rowsOf_pos {k : Int} : ∀ {jobs : List JobM} {bs : List Nat} (_ : bs.length = jobs.length), pos (rowsOf jobs bs) k = pos jobs k := by
  intro jobs
  induction jobs with
  | nil => intro bs h; rfl
  | cons j jobs ih =>
    intro bs h
    cases bs with
    | nil => simp at h
    | cons b bs =>
      have h2 := ih (bs := bs) (by simpa using h)
      unfold pos at h2 ⊢
      show ((RowH.mk j.job b :: rowsOf jobs bs).takeWhile _).length = _
      rw [List.takeWhile_cons, List.takeWhile_cons]
      show (if KLt.lt j.job k = true then _ else _ : List RowH).length = (if KLt.lt j.job k = true then _ else _ : List JobM).length
      split
      · simp [h2]
      · rfl
theorem rowsOf_sorted : ∀ {jobs : List JobM} {bs : List Nat} (_ : Sorted jobs), Sorted (rowsOf jobs bs) := by
  intro jobs
  induction jobs with
  | nil => intro bs h; exact List.Pairwise.nil
  | cons j jobs ih =>
    intro bs h
    cases bs with
    | nil => exact List.Pairwise.nil
    | cons b bs =>
      have h2 := List.pairwise_cons.1 h
      refine List.pairwise_cons.2 ⟨?_, ih h2.2⟩
      intro x hx
      obtain ⟨i, hi⟩ := List.getElem?_of_mem hx
      have h3 : (rowsOf jobs bs)[i]? = some x := hi
      unfold rowsOf at h3
      rw [List.getElem?_zipWith] at h3
      cases hj : jobs[i]? with
      | none => rw [hj] at h3; simp at h3
      | some y =>
        cases hb : bs[i]? with
        | none => rw [hj, hb] at h3; simp at h3
        | some c =>
          rw [hj, hb] at h3
          simp at h3
          subst h3
          exact h2.1 y (List.mem_of_getElem? hj)
def hol (b : Nat) (j : JobM) : Pr := ex fun lv : Value => all [cel b 240 (lv :: j.h.held.map (Value.int .i64)).toArray, SlE 296 lv j.h.locks]
structure UnV where
  vu : Value
  vf : Value
  vc : Value
  vj : Value
  bs : List Nat
def UnP (t : Nat) (m : UnM) : Pr := ex fun x : UnV => all [fact (x.bs.length = m.jobs.length), cel t 228 #[x.vu, x.vf, x.vc, x.vj], SlE 3 x.vu m.units, SlE 3 x.vf m.free, SlE 3 x.vc m.cells, SlE 267 x.vj (rowsOf m.jobs x.bs), all (List.zipWith hol x.bs m.jobs)]
instance (b : Nat) (m : UnM) : Key (UnP b m) (.b b) := ⟨trivial⟩
section
variable {w0 w : World} {R : List Pr} {t : Nat} {m : UnM}
theorem UnP.opened (H : Hd w0 (UnP t m :: R) w) : ∃ x : UnV, x.bs.length = m.jobs.length ∧ Hd w0 (cel t 228 #[x.vu, x.vf, x.vc, x.vj] :: SlE 3 x.vu m.units :: SlE 3 x.vf m.free :: SlE 3 x.vc m.cells :: SlE 267 x.vj (rowsOf m.jobs x.bs) :: all (List.zipWith hol x.bs m.jobs) :: R) w := by
  obtain ⟨x, H⟩ := H.out
  have H2 := H.flat
  exact ⟨x, Hd.get H2, H2.tail⟩
theorem UnP.shut {x : UnV} (H : Hd w0 (cel t 228 #[x.vu, x.vf, x.vc, x.vj] :: SlE 3 x.vu m.units :: SlE 3 x.vf m.free :: SlE 3 x.vc m.cells :: SlE 267 x.vj (rowsOf m.jobs x.bs) :: all (List.zipWith hol x.bs m.jobs) :: R) w) (h : x.bs.length = m.jobs.length) : Hd w0 (UnP t m :: R) w :=
  Hd.into x (Hd.pack (L := [_, _, _, _, _, _, _]) (Hd.put h H))
end
end Go.Proofs.YtogcikilphakmaaGreatDoor

/-
  units.Table: has, Free, of.
-/
namespace Go.Proofs.YtogcikilphakmaaGreatDoor
open Go.RowKit Spl
theorem results_row {P : Program} {fn : Func} {p : Tmp} {ty : TypeId} (h : fn.results = #[.cell p ty]) (tmps : Array Value) (w : World) (g : Nat) (t : TypeId) (cs : Array Value) (fr : Nat × Nat) (d : TypeDesc)
    (hp : tmps.getD p undef = .pointer (some ⟨g, 0, none⟩)) (hg : w.heap[g]? = some (.cells cs t fr))
    (hu : P.underlying ty = some d) (hd : (match d with | .struct _ | .array _ _ => true | _ => false) = true) (hi : (P.info? ty).map (·.size) = some cs.size) :
    (results fn tmps).run P w = .ok (.agg cs) w := by
  have hp' : tmps[p]?.getD undef = .pointer (some ⟨g, 0, none⟩) := by simpa using hp
  simp [results, h, hp', asAddr, run_loadVar_row w g t ty cs fr d hg hu hd hi]
section
variable {w0 w : World} {R : List Pr} {t : Nat} {m : UnM}
theorem unHas (H : Hd w0 (UnP t m :: R) w) (r : Nat) (hr : r < m.units.length) : Calls Tryz.prog 110 #[.pointer (some ⟨t, 0, none⟩), .int .i64 r] w fun e w' => e = .returned (.bool true) ∧ w = w' := by
  obtain ⟨⟨vu, vf, vc, vj, bs⟩, hb, H1⟩ := UnP.opened H
  obtain ⟨a, cap, rfl, -, -, -, -⟩ := (H1.tail).slc_form
  have c0 := H1.ce 0 rfl
  have n1 : (0 : Int) ≤ r := by omega
  have n2 : (r : Int) < m.units.length := by omega
  clear H H1 hb
  go_enter Tryz.func110, Tryz.ntmps110
  go_wp2
  go_ret
  exact ⟨rfl, rfl⟩
theorem unHasNo (H : Hd w0 (UnP t m :: R) w) (r : Int) (hr : r < 0 ∨ m.units.length ≤ r) : Calls Tryz.prog 110 #[.pointer (some ⟨t, 0, none⟩), .int .i64 r] w fun e w' => e = .returned (.bool false) ∧ w = w' := by
  obtain ⟨⟨vu, vf, vc, vj, bs⟩, hb, H1⟩ := UnP.opened H
  obtain ⟨a, cap, rfl, -, -, -, -⟩ := (H1.tail).slc_form
  have c0 := H1.ce 0 rfl
  clear H H1 hb
  by_cases h : r < 0
  · clear hr
    go_enter Tryz.func110, Tryz.ntmps110
    go_wp2
    go_ret
    exact ⟨rfl, rfl⟩
  · have n2 : ¬ (r < m.units.length) := by omega
    clear hr
    go_enter Tryz.func110, Tryz.ntmps110
    go_wp2
    go_ret
    exact ⟨rfl, rfl⟩
theorem unFree (H : Hd w0 (UnP t m :: R) w) (r : Nat) (hr : r < m.units.length) {n : Int} (hn : m.free[r]? = some n) : Calls Tryz.prog 160 #[.pointer (some ⟨t, 0, none⟩), .int .i64 r] w fun e w' => e = .returned (.int .i64 n) ∧ w = w' := by
  have hh := unHas H r hr
  obtain ⟨⟨vu, vf, vc, vj, bs⟩, hb, H1⟩ := UnP.opened H
  have hlt := lt_of_get? hn
  obtain ⟨g, cap, rfl, H2⟩ := (H1.v vf).slc_at (by omega)
  have c0 := (H2.k t).ce 1 rfl
  have c1 := H2.slcC_rd (flat_at hn (j := 0) rfl)
  simp only [Enc.size, Nat.add_zero, Nat.mul_one] at c1
  have n1 : ¬ ((r : Int) < 0) := by omega
  have n2 : (r : Int) < m.free.length := by omega
  have n3 : ¬ m.free.length ≤ r := by omega
  clear H H1 H2 hb hn
  go_enter Tryz.func160, Tryz.ntmps160
  go_wp2_with fail
  refine hh.mono ?_
  rintro e w' ⟨rfl, rfl⟩
  go_wp2_with fail
  go_ret
  exact ⟨rfl, rfl⟩
end
end Go.Proofs.YtogcikilphakmaaGreatDoor

/-
  units.Table: of.
-/
namespace Go.Proofs.YtogcikilphakmaaGreatDoor
open Go.RowKit Spl
def UnM.heldL (m : UnM) (job : Int) : List Int := match rowAt m.jobs job with
  | some j => j.h.held
  | none => List.replicate 16 0
structure UnM.Ok (m : UnM) : Prop where
  s : Sorted m.jobs
  n : m.jobs.length ≤ 5000
  h : ∀ j ∈ m.jobs, j.h.held.length = 16
theorem rowsOf_row {jobs : List JobM} {bs : List Nat} {k : Int} (h : bs.length = jobs.length) {j : JobM} (hj : rowAt jobs k = some j) : ∃ b, bs[pos jobs k]? = some b ∧ rowAt (rowsOf jobs bs) k = some ⟨j.job, b⟩ := by
  unfold rowAt at hj ⊢
  rw [rowsOf_pos h]
  cases hq : jobs[pos jobs k]? with
  | none => rw [hq] at hj; cases hj
  | some y =>
    obtain ⟨b, hb⟩ : ∃ b, bs[pos jobs k]? = some b := ⟨bs[pos jobs k]'(by have := lt_of_get? hq; omega), List.getElem?_eq_getElem _⟩
    refine ⟨b, hb, ?_⟩
    rw [rowsOf_at hq hb]
    rw [hq] at hj
    show (if KLt.lt k y.job = true then none else some (⟨y.job, b⟩ : RowH)) = _
    have h2 : (if KLt.lt k y.job = true then none else some y) = some j := hj
    split at h2
    · cases h2
    · rename_i hc
      injection h2 with h2
      subst h2
      rw [if_neg hc]
theorem rowsOf_none {jobs : List JobM} {bs : List Nat} {k : Int} (h : bs.length = jobs.length) (hj : rowAt jobs k = none) : rowAt (rowsOf jobs bs) k = none := by
  unfold rowAt at hj ⊢
  rw [rowsOf_pos h]
  cases hq : jobs[pos jobs k]? with
  | none =>
    have : (rowsOf jobs bs)[pos jobs k]? = none := by
      rw [List.getElem?_eq_none_iff] at hq ⊢
      rw [rowsOf_len h]; exact hq
    rw [this]
  | some y =>
    obtain ⟨b, hb⟩ : ∃ b, bs[pos jobs k]? = some b := ⟨bs[pos jobs k]'(by have := lt_of_get? hq; omega), List.getElem?_eq_getElem _⟩
    rw [rowsOf_at hq hb]
    rw [hq] at hj
    show (if KLt.lt k y.job = true then none else some (⟨y.job, b⟩ : RowH)) = none
    have h2 : (if KLt.lt k y.job = true then none else some y) = none := hj
    split at h2
    · rename_i hc
      rw [if_pos hc]
    · cases h2
end Go.Proofs.YtogcikilphakmaaGreatDoor

/-
  units.Table: of. Every table, every job.
-/
namespace Go.Proofs.YtogcikilphakmaaGreatDoor
open Go.RowKit Spl

def heldA (l : List Int) : Array Value := (l.map (Value.int .i64)).toArray
theorem heldA_one (l : List Int) : (heldA l).all (·.oneCell') = true := by
  unfold heldA
  refine all_oneCell_toArray fun v hv => ?_
  simp at hv
  obtain ⟨x, _, rfl⟩ := hv
  rfl
section
variable {w0 w : World} {R : List Pr} {t : Nat} {m : UnM}
set_option maxRecDepth 20000 in
set_option maxHeartbeats 1600000 in
theorem unOf (H : Hd w0 (UnP t m :: R) w) (hm : m.Ok) (job : Int) : Calls Tryz.prog 174 #[.pointer (some ⟨t, 0, none⟩), .int .i64 job] w fun e w' => e = .returned (.agg (heldA (m.heldL job))) ∧ Hd w0 (UnP t m :: R) w' := by
  obtain ⟨⟨vu, vf, vc, vj, bs⟩, hb, H1⟩ := UnP.opened H
  dsimp only at hb H1
  obtain ⟨Z, hZ⟩ : ∃ Z : Array Value, heldA (List.replicate 16 0) = Z := ⟨_, rfl⟩
  have hZc : (Value.agg Z).cells = Z := rfl
  have H2 : Hd w0 _ (w.alloc (.cells Z 238)) := H1.fol
  have hZs := Lib.hid (show Z.size = 16 by rw [← hZ]; simp [heldA])
  cases hr : rowAt m.jobs job with
  | none =>
    have e1 : m.heldL job = List.replicate 16 0 := by unfold UnM.heldL; rw [hr]
    rw [e1, hZ]
    have hg := getNo_hold (o := 3) ((H2.v vj).k t) rfl (rowsOf_sorted hm.s) (by rw [rowsOf_len hb]; have := hm.n; omega) job (rowsOf_none hb hr)
    have hone := Lib.hid (hZ ▸ heldA_one (List.replicate 16 0))
    replace hZ := Lib.hid hZ
    clear H H1 H2 e1 hr hm
    go_enter Tryz.func174, Tryz.ntmps174
    go_wp2_with (first | (refine wpList_alloc_row rfl 238 rfl (.agg Z) (by rw [← hZ.out]; kernel_rfl) ?_))
    refine hg.mono ?_
    rintro e w1 ⟨rfl, H3⟩
    go_wp2_with (first | (refine wpList_build_row rfl 238 _ rfl Z (by rw [← hZ.out]; kernel_rfl) ?_) | (refine wpList_store_all (cells := Z) (H3.k w.heap.size) rfl 238 _ _ rfl rfl rfl (by rw [hZs.out]; kernel_rfl) rfl hone.out ?_; intro w4 H9))
    (try simp only [Exit.inBlock, Exit.then])
    refine bodyPost_ret (results_row rfl _ _ w.heap.size 238 Z (0, 0) _ (by rfl) (by exact ((Hd.fol H9 : Hd w0 _ _).k w.heap.size).heap) Tryz.underlying238 rfl (by rw [hZs.out]; kernel_rfl)) rfl ⟨rfl, ?_⟩
    exact UnP.shut (x := ⟨vu, vf, vc, vj, bs⟩) (by exact Hd.fin H9) hb
  | some j =>
    have e1 : m.heldL job = j.h.held := by unfold UnM.heldL; rw [hr]
    rw [e1]
    obtain ⟨b, hbs, hrow⟩ := rowsOf_row hb hr
    have hjm : j ∈ m.jobs := List.mem_of_getElem? (rowAt_some hm.s hr).1
    have hlen := hm.h j hjm
    have hg := get_hold (o := 3) ((H2.v vj).k t) rfl (rowsOf_sorted hm.s) (by rw [rowsOf_len hb]; have := hm.n; omega) job hrow
    obtain ⟨A, hA⟩ : ∃ A : Array Value, heldA j.h.held = A := ⟨_, rfl⟩
    have hone := Lib.hid (hA ▸ heldA_one j.h.held)
    have hAs := Lib.hid (show A.size = 16 by rw [← hA]; simp [heldA, hlen])
    have hpos := (rowAt_some hm.s hr).1
    rw [hA]
    replace hZ := Lib.hid hZ
    clear H H1 H2 e1 hm hrow
    go_enter Tryz.func174, Tryz.ntmps174
    go_wp2_with (first | (refine wpList_alloc_row rfl 238 rfl (.agg Z) (by rw [← hZ.out]; kernel_rfl) ?_))
    refine hg.mono ?_
    rintro e w1 ⟨rfl, H3⟩
    clear hg
    have H4 : Hd w0 (all (List.zipWith hol bs m.jobs) :: cel w.heap.size 238 Z :: cel t 228 #[vu, vf, vc, vj] :: SlE 3 vu m.units :: SlE 3 vf m.free :: SlE 3 vc m.cells :: SlE 267 vj (rowsOf m.jobs bs) :: R) w1 := by exact H3.re
    obtain ⟨lv, H5⟩ := (H4.row_nth hbs hpos).out
    have H6 := H5.flat
    have hcell : w1.rangeAt b 1 (j.h.held.map (Value.int .i64)) := fun q u hq => by
      have := H6.rd (1 + q)
      rw [this]
      simp only [List.getElem?_toArray]
      rw [show 1 + q = q + 1 by omega, List.getElem?_cons_succ]
      exact hq
    replace hcell := Lib.hid hcell
    have hAl := Lib.hid (show A = (j.h.held.map (Value.int .i64)).toArray from hA.symm)
    replace hA := Lib.hid hA
    clear H5 H6 H4 hpos hbs hjm hr
    go_wp2_with (first | (refine wpList_load_mid rfl 238 _ rfl b 1 rfl (j.h.held.map (Value.int .i64)) _ hcell.out Tryz.underlying238 rfl (by rw [List.length_map, hlen]; kernel_rfl) ?_; rw [← hAl.out]) | (refine wpList_store_all (cells := A) (H3.k w.heap.size) rfl 238 _ _ rfl rfl rfl (by rw [hAs.out]; kernel_rfl) (hZs.out.trans hAs.out.symm) hone.out ?_; intro w4 H9))
    (try simp only [Exit.inBlock, Exit.then])
    refine bodyPost_ret (results_row rfl _ _ w.heap.size 238 A (0, 0) _ (by rfl) (by exact ((Hd.fol H9 : Hd w0 _ _).k w.heap.size).heap) Tryz.underlying238 rfl (by rw [hAs.out]; kernel_rfl)) rfl ⟨rfl, ?_⟩
    exact UnP.shut (x := ⟨vu, vf, vc, vj, bs⟩) (by exact Hd.fin H9) hb
end
end Go.Proofs.YtogcikilphakmaaGreatDoor

/-
  units.Table: Lock where it is refused. Every table, every call.
-/
namespace Go.Proofs.YtogcikilphakmaaGreatDoor
open Go.RowKit Spl

theorem index_held {l : List Int} (hl : l.length = 16) {r : Nat} {h : Int} (hr : l[r]? = some h) (w : World) : (Instr.index 238 (.agg (heldA l)) (.int .i64 r)).run Tryz.prog w = .ok (.int .i64 h) w := by
  have h1 := lt_of_get? hr
  have h2 : (0 : Int) ≤ r ∧ (r : Int) < 16 := by omega
  have h3 : (heldA l)[r]? = some (.int .i64 h) := by simp [heldA, hr]
  simp [Instr.index, run_underlying Tryz.underlying238, asIntOf, h2, go_sem, h3, part]
  intro h; omega
def UnM.lockE (m : UnM) (job res n need : Int) : Int :=
  if job < 0 ∨ res < 0 ∨ (m.units.length : Int) ≤ res ∨ n < 1 ∨ (m.units[res.toNat]?.getD 0) < n then 1
  else if need < n + ((m.heldL job)[res.toNat]?.getD 0) then 22 else if (m.free[res.toNat]?.getD 0) < n then 20 else 0
structure UnM.Ok2 (m : UnM) : Prop where
  u : m.units.length ≤ 16
  f : m.free.length = m.units.length
  c : m.cells.length = m.units.length
  uv : ∀ x ∈ m.units, 1 ≤ x ∧ x ≤ 255
  fv : ∀ x ∈ m.free, 0 ≤ x ∧ x ≤ 255
  hv : ∀ j ∈ m.jobs, (∀ x ∈ j.h.held, 0 ≤ x ∧ x ≤ 255) ∧ j.h.locks.length ≤ 5000
theorem UnM.heldL_len {m : UnM} (hm : m.Ok) (job : Int) : (m.heldL job).length = 16 := by
  unfold UnM.heldL
  cases hr : rowAt m.jobs job with
  | none => simp
  | some j => exact hm.h j (List.mem_of_getElem? (rowAt_some hm.s hr).1)
theorem UnM.heldL_le {m : UnM} (hm : m.Ok) (h2 : m.Ok2) (job : Int) : ∀ x ∈ m.heldL job, 0 ≤ x ∧ x ≤ 255 := by
  unfold UnM.heldL
  cases hr : rowAt m.jobs job with
  | none => intro x hx; simp at hx; omega
  | some j => exact (h2.hv j (List.mem_of_getElem? (rowAt_some hm.s hr).1)).1
section
variable {w0 w : World} {R : List Pr} {t : Nat} {m : UnM}
set_option maxRecDepth 20000 in
set_option maxHeartbeats 4000000 in
theorem unLockNo (H : Hd w0 (UnP t m :: R) w) (hm : m.Ok) (h2 : m.Ok2) {job res n need : Int} (hn : -100000 ≤ n ∧ n ≤ 100000) (hE : ¬ m.lockE job res n need = 0) :
    Calls Tryz.prog 156 #[.pointer (some ⟨t, 0, none⟩), .int .i64 job, .int .i64 res, .int .i64 n, .int .i64 need] w fun e w' => e = .returned (.int .i64 (m.lockE job res n need)) ∧ Hd w0 (UnP t m :: R) w' := by
  obtain ⟨E, hEE⟩ : ∃ E, m.lockE job res n need = E := ⟨_, rfl⟩
  rw [hEE] at hE ⊢
  unfold UnM.lockE at hEE
  by_cases z1 : job < 0
  · rw [if_pos (.inl z1)] at hEE
    go_enter Tryz.func156, Tryz.ntmps156
    go_wp2_with fail
    go_ret
    exact ⟨ret_int (by first | exact hEE.symm | rfl), H⟩
  by_cases z2 : res < 0 ∨ (m.units.length : Int) ≤ res
  · have hno := unHasNo H res z2
    rw [if_pos (by omega)] at hEE
    clear z2
    go_enter Tryz.func156, Tryz.ntmps156
    go_wp2_with fail
    refine hno.mono ?_
    rintro e w1 ⟨rfl, rfl⟩
    go_wp2_with fail
    go_ret
    exact ⟨ret_int (by first | exact hEE.symm | rfl), H⟩
  obtain ⟨r, rfl⟩ : ∃ r : Nat, res = r := ⟨res.toNat, by omega⟩
  have hr : r < m.units.length := by omega
  have hyes := unHas H r hr
  rw [Int.toNat_natCast] at hEE
  obtain ⟨U, hU⟩ : ∃ U, m.units[r]? = some U := ⟨m.units[r], List.getElem?_eq_getElem hr⟩
  rw [hU, Option.getD_some] at hEE
  by_cases z3 : n < 1
  · rw [if_pos (.inr (.inr (.inr (.inl z3))))] at hEE
    clear z2 hU
    go_enter Tryz.func156, Tryz.ntmps156
    go_wp2_with fail
    refine hyes.mono ?_
    rintro e w1 ⟨rfl, rfl⟩
    go_wp2_with fail
    go_ret
    exact ⟨ret_int (by first | exact hEE.symm | rfl), H⟩
  obtain ⟨⟨vu, vf, vc, vj, bs⟩, hb, H1⟩ := UnP.opened H
  dsimp only at hb H1
  obtain ⟨gu, cu, hvu, -, -, -, hcu⟩ := (H1.v vu).slE_at hU
  subst hvu
  have u0 := hcu 0 _ rfl
  simp only [Enc.size, Nat.add_zero, Nat.mul_one] at u0
  have c0 := (show _ = some (.slice (some ⟨gu, 0, none⟩) m.units.length cu) from (H1.k t).ce 0 rfl)
  have n1 : ¬ (r : Int) < 0 := by omega
  have n2 : (r : Int) < m.units.length := by omega
  have n3 : ¬ m.units.length ≤ r := by omega
  by_cases z4 : U < n
  · rw [if_pos (.inr (.inr (.inr (.inr z4))))] at hEE
    clear z2 hU hcu H1
    go_enter Tryz.func156, Tryz.ntmps156
    go_wp2_with fail
    refine hyes.mono ?_
    rintro e w1 ⟨rfl, rfl⟩
    go_wp2_with fail
    go_ret
    exact ⟨ret_int (by first | exact hEE.symm | rfl), H⟩
  rw [if_neg (by omega)] at hEE
  have hlen := UnM.heldL_len hm job
  have hof := unOf H hm job
  obtain ⟨h, hh⟩ : ∃ h, (m.heldL job)[r]? = some h := ⟨(m.heldL job)[r]'(by have := h2.u; omega), List.getElem?_eq_getElem _⟩
  have hhb := UnM.heldL_le hm h2 job h (List.mem_of_getElem? hh)
  have hix := index_held hlen hh
  rw [hh, Option.getD_some] at hEE
  obtain ⟨A, hA⟩ : ∃ A, heldA (m.heldL job) = A := ⟨_, rfl⟩
  rw [hA] at hof hix
  have g5 : IntKind.i64.wrap (n + h) = n + h := IntWalk.i64_in _ (by omega)
  obtain ⟨F, hF⟩ : ∃ F, m.free[r]? = some F := ⟨m.free[r]'(by rw [h2.f]; exact hr), List.getElem?_eq_getElem _⟩
  rw [hF, Option.getD_some] at hEE
  have hff := h2.f
  clear z2 hU hcu H1 hA hh hlen hb
  by_cases z5 : need < n + h
  · rw [if_pos z5] at hEE
    clear hm h2 hF
    go_enter Tryz.func156, Tryz.ntmps156
    go_wp2_with fail
    refine hyes.mono ?_
    rintro e w1 ⟨rfl, rfl⟩
    clear hyes
    go_wp2_with fail
    refine hof.mono ?_
    rintro e w2 ⟨rfl, H2⟩
    go_wp2_with fail
    go_ret
    exact ⟨ret_int (by first | exact hEE.symm | rfl), H2⟩
  rw [if_neg z5] at hEE
  by_cases z6 : F < n
  · rw [if_pos z6] at hEE
    clear hm h2
    go_enter Tryz.func156, Tryz.ntmps156
    go_wp2_with fail
    refine hyes.mono ?_
    rintro e w1 ⟨rfl, rfl⟩
    clear hyes
    go_wp2_with fail
    refine hof.mono ?_
    rintro e w2 ⟨rfl, H2⟩
    clear hof
    obtain ⟨⟨vu2, vf2, vc2, vj2, bs2⟩, hb2, H3⟩ := UnP.opened H2
    dsimp only at hb2 H3
    obtain ⟨gf, cf, hvf, -, -, -, hcf⟩ := (H3.v vf2).slE_at hF
    subst hvf
    have v0 := hcf 0 _ rfl
    simp only [Enc.size, Nat.add_zero, Nat.mul_one] at v0
    have d1 := (show _ = some (.slice (some ⟨gf, 0, none⟩) m.free.length cf) from (H3.k t).ce 1 rfl)
    have n4 : (r : Int) < m.free.length := by omega
    have n5 : ¬ m.free.length ≤ r := by omega
    clear hcf H3 hb2 hF
    go_wp2_with fail
    go_ret
    exact ⟨ret_int (by first | exact hEE.symm | rfl), H2⟩
  · rw [if_neg z6] at hEE
    exact absurd hEE.symm hE
end
end Go.Proofs.YtogcikilphakmaaGreatDoor

/-
  units.Table: Lock where it is let. Every table.
-/
namespace Go.Proofs.YtogcikilphakmaaGreatDoor
open Go.RowKit Spl

def UnM.locked (m : UnM) (job : Int) (r : Nat) (n : Int) : UnM :=
  match rowAt m.jobs job with
  | some j => ⟨m.units, m.free.set r ((m.free[r]?.getD 0) - n), m.cells, m.jobs.set (pos m.jobs job) ⟨j.job, ⟨j.h.locks ++ [⟨r, n⟩], j.h.held.set r ((j.h.held[r]?.getD 0) + n)⟩⟩⟩
  | none => ⟨m.units, m.free.set r ((m.free[r]?.getD 0) - n), m.cells, m.jobs.take (pos m.jobs job) ++ ⟨job, ⟨[⟨r, n⟩], (List.replicate 16 0).set r (0 + n)⟩⟩ :: m.jobs.drop (pos m.jobs job)⟩
theorem rowsOf_set {jobs : List JobM} {bs : List Nat} {i : Nat} {j j' : JobM} (hj : jobs[i]? = some j) (he : j'.job = j.job) : rowsOf (jobs.set i j') bs = rowsOf jobs bs := by
  apply List.ext_getElem?
  intro k
  simp only [rowsOf, List.getElem?_zipWith]
  by_cases hk : i = k
  · subst hk
    rw [List.getElem?_set_self (lt_of_get? hj), hj]
    cases bs[i]? <;> simp [he]
  · rw [List.getElem?_set_ne hk]
theorem rowsOf_ins {jobs : List JobM} {bs : List Nat} {i : Nat} {j : JobM} {b : Nat} (h : bs.length = jobs.length) (hi : i ≤ jobs.length) : rowsOf (jobs.take i ++ j :: jobs.drop i) (bs.take i ++ b :: bs.drop i) = (rowsOf jobs bs).take i ++ (⟨j.job, b⟩ : RowH) :: (rowsOf jobs bs).drop i := by
  unfold rowsOf
  rw [List.zipWith_append (by simp; omega), List.zipWith_cons_cons, List.take_zipWith, List.drop_zipWith]
theorem zip_ins {α β : Type} {f : α → β → Pr} {xa : List α} {bs : List β} {i : Nat} {a : α} {b : β} (h : xa.length = bs.length) (hi : i ≤ bs.length) : (f a b :: List.zipWith f xa bs).Perm (List.zipWith f (xa.take i ++ a :: xa.drop i) (bs.take i ++ b :: bs.drop i)) := by
  rw [List.zipWith_append (by simp; omega), List.zipWith_cons_cons]
  have e : List.zipWith f xa bs = List.zipWith f (xa.take i) (bs.take i) ++ List.zipWith f (xa.drop i) (bs.drop i) := by
    rw [← List.zipWith_append (by simp; omega), List.take_append_drop, List.take_append_drop]
  rw [e]
  exact List.perm_middle.symm
theorem Hd.zip_in {α β : Type} {f : α → β → Pr} {xa : List α} {bs : List β} {i : Nat} {a : α} {b : β} {w0 w : World} {R : List Pr} (H : Hd w0 (f a b :: all (List.zipWith f xa bs) :: R) w) (h : xa.length = bs.length) (hi : i ≤ bs.length) : Hd w0 (all (List.zipWith f (xa.take i ++ a :: xa.drop i) (bs.take i ++ b :: bs.drop i)) :: R) w := by
  have h2 : Hd w0 (f a b :: (List.zipWith f xa bs ++ R)) w := H.under fun a h => by
    obtain ⟨b, c, d, e, hb, hc⟩ := h
    exact sat_append.2 ⟨b, c, d, e, hb, hc⟩
  exact (Hd.pack (L := f a b :: List.zipWith f xa bs) h2).all_perm (zip_ins h hi)
section
variable {w0 w : World} {R : List Pr} {t : Nat} {m : UnM}
set_option maxRecDepth 20000 in
set_option maxHeartbeats 4000000 in
theorem unLock (H : Hd w0 (UnP t m :: R) w) (hm : m.Ok) (h2 : m.Ok2) {job n need : Int} {r : Nat} (hn : -100000 ≤ n ∧ n ≤ 100000) (hE : m.lockE job r n need = 0) :
    Calls Tryz.prog 156 #[.pointer (some ⟨t, 0, none⟩), .int .i64 job, .int .i64 r, .int .i64 n, .int .i64 need] w fun e w' => e = .returned (.int .i64 0) ∧ Hd w0 (UnP t (m.locked job r n) :: R) w' := by
  have hEE := hE
  unfold UnM.lockE at hEE
  rw [Int.toNat_natCast] at hEE
  obtain ⟨U, hU0⟩ : ∃ U, m.units[r]?.getD 0 = U := ⟨_, rfl⟩
  obtain ⟨F, hF0⟩ : ∃ F, m.free[r]?.getD 0 = F := ⟨_, rfl⟩
  obtain ⟨h, hh0⟩ : ∃ h, (m.heldL job)[r]?.getD 0 = h := ⟨_, rfl⟩
  rw [hU0, hF0, hh0] at hEE
  have q : ¬ job < 0 ∧ ¬ (m.units.length : Int) ≤ r ∧ ¬ n < 1 ∧ ¬ U < n ∧ ¬ need < n + h ∧ ¬ F < n := by
    by_cases a1 : job < 0 ∨ (r : Int) < 0 ∨ (m.units.length : Int) ≤ r ∨ n < 1 ∨ U < n
    · rw [if_pos a1] at hEE; cases hEE
    rw [if_neg a1] at hEE
    by_cases a2 : need < n + h
    · rw [if_pos a2] at hEE; cases hEE
    rw [if_neg a2] at hEE
    by_cases a3 : F < n
    · rw [if_pos a3] at hEE; cases hEE
    omega
  obtain ⟨z1, z2, z3, z4, z5, z6⟩ := q
  clear hEE hE
  have hr : r < m.units.length := by omega
  have hyes := unHas H r hr
  have hU : m.units[r]? = some U := by rw [List.getElem?_eq_getElem hr]; rw [List.getElem?_eq_getElem hr] at hU0; rw [← hU0]; rfl
  have hfl := h2.f
  have hF : m.free[r]? = some F := by
    have : r < m.free.length := by omega
    rw [List.getElem?_eq_getElem this]; rw [List.getElem?_eq_getElem this] at hF0; rw [← hF0]; rfl
  have hlen := UnM.heldL_len hm job
  have hu16 := h2.u
  have hh : (m.heldL job)[r]? = some h := by
    have : r < (m.heldL job).length := by omega
    rw [List.getElem?_eq_getElem this]; rw [List.getElem?_eq_getElem this] at hh0; rw [← hh0]; rfl
  have hhb := UnM.heldL_le hm h2 job h (List.mem_of_getElem? hh)
  have hFb := h2.fv F (List.mem_of_getElem? hF)
  have hof := unOf H hm job
  have hix := index_held hlen hh
  obtain ⟨A, hA⟩ : ∃ A, heldA (m.heldL job) = A := ⟨_, rfl⟩
  rw [hA] at hof hix
  obtain ⟨⟨vu, vf, vc, vj, bs⟩, hb, H1⟩ := UnP.opened H
  dsimp only at hb H1
  obtain ⟨gu, cu, hvu, -, -, -, hcu⟩ := (H1.v vu).slE_at hU
  subst hvu
  have u0 := hcu 0 _ rfl
  simp only [Enc.size, Nat.add_zero, Nat.mul_one] at u0
  have c0 := (show _ = some (.slice (some ⟨gu, 0, none⟩) m.units.length cu) from (H1.k t).ce 0 rfl)
  have n1 : ¬ (r : Int) < 0 := by omega
  have n2 : (r : Int) < m.units.length := by omega
  have n3 : ¬ m.units.length ≤ r := by omega
  have n4 : (r : Int) < m.free.length := by omega
  have n5 : ¬ m.free.length ≤ r := by omega
  have n6 : (r : Int) < 16 := by omega
  have n7 : (0 : Int) ≤ r := by omega
  have g5 : IntKind.i64.wrap (n + h) = n + h := IntWalk.i64_in _ (by omega)
  have g6 : IntKind.i64.wrap (h + n) = h + n := IntWalk.i64_in _ (by omega)
  have g7 : IntKind.i64.wrap (F - n) = F - n := IntWalk.i64_in _ (by omega)
  have hNoN := Lib.hid hm.n
  clear hcu H1 hA hb hlen hU0
  go_enter Tryz.func156, Tryz.ntmps156
  go_wp2_with fail
  refine hyes.mono ?_
  rintro e w1 ⟨rfl, rfl⟩
  clear hyes
  go_wp2_with fail
  refine hof.mono ?_
  rintro e w2 ⟨rfl, H2⟩
  clear hof H c0 u0
  obtain ⟨⟨vu, vf, vc, vj, bs⟩, hb, H3⟩ := UnP.opened H2
  dsimp only at hb H3
  obtain ⟨gf, cf, hvf, -, -, -, hcf⟩ := (H3.v vf).slE_at hF
  subst hvf
  have v0 := hcf 0 _ rfl
  simp only [Enc.size, Nat.add_zero, Nat.mul_one] at v0
  have d1 := (show _ = some (.slice (some ⟨gf, 0, none⟩) m.free.length cf) from (H3.k t).ce 1 rfl)
  clear hcf H2
  cases hrow : rowAt m.jobs job with
  | some j =>
    have hjh : m.heldL job = j.h.held := by unfold UnM.heldL; rw [hrow]
    obtain ⟨b, hbs, hrw⟩ := rowsOf_row hb hrow
    have hpos := (rowAt_some hm.s hrow).1
    have hlk := (h2.hv j (List.mem_of_getElem? hpos)).2
    have hg := get_hold (o := 3) ((H3.v vj).k t) rfl (rowsOf_sorted hm.s) (by rw [rowsOf_len hb]; have := hNoN.out; omega) job hrw
    have e9 : m.locked job r n = ⟨m.units, m.free.set r (F - n), m.cells, m.jobs.set (pos m.jobs job) ⟨j.job, ⟨j.h.locks ++ [⟨r, n⟩], j.h.held.set r (h + n)⟩⟩⟩ := by
      unfold UnM.locked; rw [hrow]; dsimp only; rw [hF0, ← hjh, hh0]
    rw [hjh] at hh
    replace e9 := Lib.hid e9
    clear hrw hjh hF0 hh0 H3
    go_wp2_with fail
    refine hg.mono ?_
    rintro e w3 ⟨rfl, H4⟩
    clear hg
    have H5 : Hd w0 (all (List.zipWith hol bs m.jobs) :: cel t 228 #[vu, .slice (some ⟨gf, 0, none⟩) m.free.length cf, vc, vj] :: SlE 3 vu m.units :: SlE 3 (.slice (some ⟨gf, 0, none⟩) m.free.length cf) m.free :: SlE 3 vc m.cells :: SlE 267 vj (rowsOf m.jobs bs) :: R) w3 := by exact H4.re
    obtain ⟨lv, H6⟩ := (H5.row_nth hbs hpos).out
    have H7 : Hd w0 (cel b 240 (lv :: j.h.held.map (Value.int .i64)).toArray :: SlE 296 lv j.h.locks :: all ((List.zipWith hol bs m.jobs).eraseIdx (pos m.jobs job)) :: cel t 228 #[vu, .slice (some ⟨gf, 0, none⟩) m.free.length cf, vc, vj] :: SlE 3 vu m.units :: SlE 3 (.slice (some ⟨gf, 0, none⟩) m.free.length cf) m.free :: SlE 3 vc m.cells :: SlE 267 vj (rowsOf m.jobs bs) :: R) w3 := H6.flat
    clear H4 H5 H6
    have hpu := stkPush_lock (o := 0) H7 rfl (by omega) ⟨r, n⟩
    go_wp2_with fail
    refine hpu.mono ?_
    rintro e w4 ⟨rfl, lv2, H8⟩
    clear hpu H7
    have H9 : Hd w0 (cel b 240 (lv2 :: j.h.held.map (Value.int .i64)).toArray :: _) w4 := H8
    have hC : ((lv2 :: j.h.held.map (Value.int .i64)).toArray)[1 + r]? = some (.int .i64 h) := by simp [Nat.add_comm 1 r, hh]
    have k0 := (H9.k b).ce (1 + r) hC
    have k1 := (H9.k b).fr (1 + r)
    have e4 : ((lv2 :: j.h.held.map (Value.int .i64)).toArray).setIfInBounds (1 + r) (.int .i64 (h + n)) = (lv2 :: (j.h.held.set r (h + n)).map (Value.int .i64)).toArray := by
      rw [List.setIfInBounds_toArray, Nat.add_comm 1 r, List.set_cons_succ, List.map_set]
    have HA : Hd w0 _ (w4.setCell ⟨b, 1 + r, none⟩ (.int .i64 (h + n))) := H9.fol
    rw [e4] at HA
    obtain ⟨gf2, cf2, hvf, -, -, HB, hcf⟩ := (HA.v (.slice (some ⟨gf, 0, none⟩) m.free.length cf)).slE_at hF
    injection hvf with r1 r2 r3
    injection r1 with r1
    injection r1 with r1
    subst r1; subst r3
    have x0 := hcf 0 _ rfl
    simp only [Enc.size, Nat.add_zero, Nat.mul_one] at x0
    have x1 := (show _ = some (.slice (some ⟨gf, 0, none⟩) m.free.length cf) from (HA.k t).ce 1 rfl)
    have fx := HB.slcC_fr r
    have HS := HB.slcC_set (j := r) (by rw [flat_len]; simp [Enc.size]; omega) (.int .i64 (F - n))
    have e5 : (flat m.free).set r (.int .i64 (F - n)) = flat (m.free.set r (F - n)) := by
      have := flat_set (l := m.free) (k := r) (x := F) (y := F - n) hF (j := 0) (v := .int .i64 (F - n)) (by decide) rfl
      simpa [Enc.size] using this
    rw [e5] at HS
    clear hcf HA HB H8 H9 r2 e5 hC e4
    go_wp2_with fail
    refine wp_region_still_tail 11 (by kernel_rfl) (by kernel_rfl) ?_
    simp only [List.take_succ_cons, List.take_zero, List.drop_succ_cons, List.drop_zero, World.drew_eq]
    (repeat still_step)
    refine wpStill_nil ?_
    go_wp2_with fail
    go_ret
    refine ⟨rfl, ?_⟩
    rw [e9.out]
    have HT := (Hd.slc_mk HS).drew
    have HU : Hd w0 (cel b 240 (lv2 :: (j.h.held.set r (h + n)).map (Value.int .i64)).toArray :: SlE 296 lv2 (j.h.locks ++ [⟨r, n⟩]) :: all ((List.zipWith hol bs m.jobs).eraseIdx (pos m.jobs job)) :: cel t 228 #[vu, .slice (some ⟨gf, 0, none⟩) m.free.length cf, vc, vj] :: SlE 3 vu m.units :: Slc 3 (Enc.size Int) (.slice (some ⟨gf, 0, none⟩) m.free.length cf) m.free.length (flat (m.free.set r (F - n))) :: SlE 3 vc m.cells :: SlE 267 vj (rowsOf m.jobs bs) :: R) _ := HT.re
    have HV := Hd.into (S := fun lv : Value => all [cel b 240 (lv :: (j.h.held.set r (h + n)).map (Value.int .i64)).toArray, SlE 296 lv (j.h.locks ++ [⟨r, n⟩])]) lv2 (Hd.pack (L := [_, _]) HU)
    have HW := HV.row_back (f := hol) (b' := ⟨j.job, ⟨j.h.locks ++ [⟨r, n⟩], j.h.held.set r (h + n)⟩⟩) hbs hpos
    refine UnP.shut (x := ⟨vu, .slice (some ⟨gf, 0, none⟩) m.free.length cf, vc, vj, bs⟩) ?_ (by simpa using hb)
    dsimp only
    unfold SlE
    rw [rowsOf_set (j' := ⟨j.job, ⟨j.h.locks ++ [(⟨(r : Int), n⟩ : LockM)], j.h.held.set r (h + n)⟩⟩) (bs := bs) hpos rfl, List.length_set]
    exact HW.re
  | none =>
    have hjh : m.heldL job = List.replicate 16 0 := by unfold UnM.heldL; rw [hrow]
    have hg := getNo_hold (o := 3) ((H3.v vj).k t) rfl (rowsOf_sorted hm.s) (by rw [rowsOf_len hb]; have := hNoN.out; omega) job (rowsOf_none hb hrow)
    have hz : h = 0 := by
      rw [hjh] at hh
      have : r < 16 := by omega
      rw [List.getElem?_replicate] at hh
      simp [this] at hh
      exact hh.symm
    subst hz
    have e9 : m.locked job r n = ⟨m.units, m.free.set r (F - n), m.cells, m.jobs.take (pos m.jobs job) ++ ⟨job, ⟨[⟨r, n⟩], (List.replicate 16 0).set r n⟩⟩ :: m.jobs.drop (pos m.jobs job)⟩ := by
      unfold UnM.locked; rw [hrow]; dsimp only; rw [hF0, Int.zero_add]
    rw [hjh] at hh
    replace e9 := Lib.hid e9
    have hple := pos_le m.jobs job
    obtain ⟨D, hD⟩ : ∃ D : List Int, List.replicate 16 0 = D := ⟨_, rfl⟩
    have hDl : D.length = 16 := by rw [← hD]; simp
    rw [hD] at hh
    clear hjh hF0 hh0 H3
    go_wp2_with fail
    refine hg.mono ?_
    rintro e w3 ⟨rfl, H4⟩
    clear hg
    have H5 : Hd w0 _ (w3.alloc (.cells #[.slice none 0 0, .int .i64 0, .int .i64 0, .int .i64 0, .int .i64 0, .int .i64 0, .int .i64 0, .int .i64 0, .int .i64 0, .int .i64 0, .int .i64 0, .int .i64 0, .int .i64 0, .int .i64 0, .int .i64 0, .int .i64 0, .int .i64 0] 240)) := H4.fol
    have hset := setNew_hold (o := 3) (x := ⟨job, w3.heap.size⟩) ((H5.v vj).k t) rfl (rowsOf_sorted hm.s) (by rw [rowsOf_len hb]; have := hNoN.out; omega) (rowsOf_none hb hrow)
    clear H4
    go_wp2_with fail
    refine hset.mono ?_
    rintro e w4 ⟨rfl, vj2, H6⟩
    clear hset H5
    obtain ⟨b, hbw⟩ : ∃ b, w3.heap.size = b := ⟨_, rfl⟩
    rw [hbw] at H6 ⊢
    rw [← rowsOf_pos hb] at hple
    have H7 : Hd w0 (cel b 240 (.slice none 0 0 :: D.map (Value.int .i64)).toArray :: SlE 296 (.slice none 0 0) ([] : List LockM) :: all (List.zipWith hol bs m.jobs) :: cel t 228 #[vu, .slice (some ⟨gf, 0, none⟩) m.free.length cf, vc, vj2] :: SlE 3 vu m.units :: SlE 3 (.slice (some ⟨gf, 0, none⟩) m.free.length cf) m.free :: SlE 3 vc m.cells :: SlE 267 vj2 ((rowsOf m.jobs bs).take (pos (rowsOf m.jobs bs) job) ++ (⟨job, b⟩ : RowH) :: (rowsOf m.jobs bs).drop (pos (rowsOf m.jobs bs) job)) :: R) w4 := by
      have h : Hd w0 (cel t 228 #[vu, .slice (some ⟨gf, 0, none⟩) m.free.length cf, vc, vj2] :: _) w4 := H6
      have h3 : Hd w0 (cel b 240 #[.slice none 0 0, .int .i64 0, .int .i64 0, .int .i64 0, .int .i64 0, .int .i64 0, .int .i64 0, .int .i64 0, .int .i64 0, .int .i64 0, .int .i64 0, .int .i64 0, .int .i64 0, .int .i64 0, .int .i64 0, .int .i64 0, .int .i64 0] :: all (List.zipWith hol bs m.jobs) :: cel t 228 #[vu, .slice (some ⟨gf, 0, none⟩) m.free.length cf, vc, vj2] :: SlE 3 vu m.units :: SlE 3 (.slice (some ⟨gf, 0, none⟩) m.free.length cf) m.free :: SlE 3 vc m.cells :: SlE 267 vj2 ((rowsOf m.jobs bs).take (pos (rowsOf m.jobs bs) job) ++ (⟨job, b⟩ : RowH) :: (rowsOf m.jobs bs).drop (pos (rowsOf m.jobs bs) job)) :: R) w4 := h.re
      rw [← hD]
      exact (h3.slc_nil 296 2).b2
    clear H6
    have hpu := stkPush_lock (o := 0) H7 rfl (by simp) ⟨r, n⟩
    go_wp2_with fail
    refine hpu.mono ?_
    rintro e w4 ⟨rfl, lv2, H8⟩
    clear hpu H7
    have H9 : Hd w0 (cel b 240 (lv2 :: D.map (Value.int .i64)).toArray :: _) w4 := H8
    have hC : ((lv2 :: D.map (Value.int .i64)).toArray)[1 + r]? = some (.int .i64 0) := by simp [Nat.add_comm 1 r, hh]
    have k0 := (H9.k b).ce (1 + r) hC
    have k1 := (H9.k b).fr (1 + r)
    have e4 : ((lv2 :: D.map (Value.int .i64)).toArray).setIfInBounds (1 + r) (.int .i64 n) = (lv2 :: (D.set r n).map (Value.int .i64)).toArray := by
      rw [List.setIfInBounds_toArray, Nat.add_comm 1 r, List.set_cons_succ, List.map_set]
    have HA : Hd w0 _ (w4.setCell ⟨b, 1 + r, none⟩ (.int .i64 n)) := H9.fol
    rw [e4] at HA
    obtain ⟨gf2, cf2, hvf, -, -, HB, hcf⟩ := (HA.v (.slice (some ⟨gf, 0, none⟩) m.free.length cf)).slE_at hF
    injection hvf with r1 r2 r3
    injection r1 with r1
    injection r1 with r1
    subst r1; subst r3
    have x0 := hcf 0 _ rfl
    simp only [Enc.size, Nat.add_zero, Nat.mul_one] at x0
    have x1 := (show _ = some (.slice (some ⟨gf, 0, none⟩) m.free.length cf) from (HA.k t).ce 1 rfl)
    have fx := HB.slcC_fr r
    have HS := HB.slcC_set (j := r) (by rw [flat_len]; simp [Enc.size]; omega) (.int .i64 (F - n))
    have e5 : (flat m.free).set r (.int .i64 (F - n)) = flat (m.free.set r (F - n)) := by
      have := flat_set (l := m.free) (k := r) (x := F) (y := F - n) hF (j := 0) (v := .int .i64 (F - n)) (by decide) rfl
      simpa [Enc.size] using this
    rw [e5] at HS
    have gn : IntKind.i64.wrap n = n := IntWalk.i64_in _ (by omega)
    clear hcf HA HB H8 H9 r2 e5 hC e4
    go_wp2_with fail
    refine wp_region_still_tail 11 (by kernel_rfl) (by kernel_rfl) ?_
    simp only [List.take_succ_cons, List.take_zero, List.drop_succ_cons, List.drop_zero, World.drew_eq]
    (repeat still_step)
    refine wpStill_nil ?_
    go_wp2_with fail
    go_ret
    refine ⟨rfl, ?_⟩
    rw [e9.out]
    have HT := (Hd.slc_mk HS).drew
    have HU : Hd w0 (cel b 240 (lv2 :: (D.set r n).map (Value.int .i64)).toArray :: SlE 296 lv2 (([] : List LockM) ++ [⟨r, n⟩]) :: all (List.zipWith hol bs m.jobs) :: cel t 228 #[vu, .slice (some ⟨gf, 0, none⟩) m.free.length cf, vc, vj2] :: SlE 3 vu m.units :: Slc 3 (Enc.size Int) (.slice (some ⟨gf, 0, none⟩) m.free.length cf) m.free.length (flat (m.free.set r (F - n))) :: SlE 3 vc m.cells :: SlE 267 vj2 ((rowsOf m.jobs bs).take (pos (rowsOf m.jobs bs) job) ++ (⟨job, b⟩ : RowH) :: (rowsOf m.jobs bs).drop (pos (rowsOf m.jobs bs) job)) :: R) _ := HT.re
    have HV : Hd w0 (hol b ⟨job, ⟨[⟨r, n⟩], D.set r n⟩⟩ :: _) _ := Hd.into (S := fun lv : Value => all [cel b 240 (lv :: (D.set r n).map (Value.int .i64)).toArray, SlE 296 lv (([] : List LockM) ++ [⟨r, n⟩])]) lv2 (Hd.pack (L := [_, _]) HU)
    have hpp : pos (rowsOf m.jobs bs) job = pos m.jobs job := rowsOf_pos hb
    have hple2 := pos_le m.jobs job
    have HW := HV.zip_in hb hple2
    rw [hD]
    refine UnP.shut (x := ⟨vu, .slice (some ⟨gf, 0, none⟩) m.free.length cf, vc, vj2, bs.take (pos m.jobs job) ++ b :: bs.drop (pos m.jobs job)⟩) ?_ (by simp; omega)
    dsimp only
    unfold SlE
    rw [rowsOf_ins hb hple2, List.length_set, ← hpp]
    rw [← hpp] at HW
    exact HW.re
end
end Go.Proofs.YtogcikilphakmaaGreatDoor
