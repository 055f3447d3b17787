/-
  Merged texts of one proof: Code15, TkM, Tk2, Tk3.
-/
import Derived.Test.YtogcikilphakmaaGreatDoorG10
import Derived.Test.YtogcikilphakmaaGreatDoorG17
import Derived.Test.YtogcikilphakmaaGreatDoorG18
import Derived.Test.YtogcikilphakmaaGreatDoorG25

/-
  Package code: Count, Steps. Every program.
-/
namespace Go.Proofs.YtogcikilphakmaaGreatDoor
open Go.RowKit Spl
section
variable {w0 w : World} {R : List Pr} {pv : Value}
set_option maxHeartbeats 1600000 in
theorem cdCount {p : List OpM} (H : Hd w0 R w) (hp : Srd w0 R pv p) :
    Calls Tryz.prog 117 #[pv] w fun e w' => e = .returned (.tuple #[.int .i64 (if (checkM p).2 = 0 then (if (walkM p).over then 0 else (walkM p).out.length) else 0), .int .i64 (stepsM p).2]) ∧ Hd w0 R w' := by
  have h1 := cdWalk (t := .nobody) (Hd.put trivial H) hp
  have e2 : (if (checkM p).2 = 0 then (if (walkM p).over then 5 else 0) else (checkM p).2) = (stepsM p).2 := by
    unfold stepsM
    split
    · split <;> rfl
    · rfl
  rw [e2] at h1
  obtain ⟨n, hn⟩ : ∃ n : Int, (if (checkM p).2 = 0 then (if (walkM p).over then 0 else ((walkM p).out.length : Int)) else 0) = n := ⟨_, rfl⟩
  obtain ⟨E, hE⟩ : ∃ E, (stepsM p).2 = E := ⟨_, rfl⟩
  rw [hn, hE] at h1
  rw [hn, hE]
  simp only [TellM.v] at h1
  clear hp H e2 hn hE
  go_enter Tryz.func117, Tryz.ntmps117
  go_wp2_with fail
  refine h1.mono ?_
  rintro e w1 ⟨rfl, H1⟩
  go_wp2_with fail
  go_ret2
  exact ⟨rfl, H1.tail⟩

set_option maxRecDepth 20000 in
set_option maxHeartbeats 1600000 in
theorem cdSteps {p : List OpM} (H : Hd w0 R w) (hp : Srd w0 R pv p) :
    Calls Tryz.prog 85 #[pv] w fun e w' => ∃ v, e = .returned (.tuple #[v, .int .i64 (stepsM p).2]) ∧ Hd w0 (SlE 39 v (stepsM p).1 :: R) w' := by
  have hcount := cdCount H hp
  by_cases hz : (stepsM p).2 = 0
  · have hc : (checkM p).2 = 0 := by
      unfold stepsM at hz
      split at hz
      · assumption
      · exact hz
    have ho : (walkM p).over = false := by
      unfold stepsM at hz
      rw [if_pos hc] at hz
      cases ho : (walkM p).over with
      | false => rfl
      | true => rw [ho] at hz; simp at hz
    have hs : stepsM p = ((walkM p).out, 0) := by unfold stepsM; rw [if_pos hc, ho]; rfl
    have hl : (walkM p).out.length ≤ 4096 := by
      have := partW_le (p := p) (ends := endsOf p) (p.length + 1) 0 p.length ⟨[], false⟩ (by simp)
      unfold walkM
      split
      · exact stepW_le this
      · exact this
    rw [hz, if_pos hc, ho] at hcount
    simp only [Bool.false_eq_true, if_false] at hcount
    rw [hs]
    obtain ⟨i0, hi, hz0, hz1, hz2⟩ := info_parts cdInfoOp
    have hwalk : ∀ (lb : Nat) (w3 : World), Hd w0 (TellP (.box lb) [] :: R) w3 → Calls Tryz.prog 118 #[pv, .func (.func 119) #[] #[.pointer (some ⟨lb, 0, none⟩)]] w3 fun e w' => e = .returned (.tuple #[.int .i64 (walkM p).out.length, .int .i64 0]) ∧ Hd w0 (TellP (.box lb) (walkM p).out :: R) w' := by
      intro lb w3 h3
      have := cdWalk (t := .box lb) h3 hp
      rw [if_pos hc, if_pos hc, if_pos hc, ho] at this
      simpa [TellM.v] using this
    obtain ⟨L, hL⟩ : ∃ L, (walkM p).out = L := ⟨_, rfl⟩
    rw [hL] at hcount hwalk hl ⊢
    replace hwalk := Lib.hid hwalk
    clear hp hL hs ho hc hz
    go_enter Tryz.func85, Tryz.ntmps85
    go_wp2_with fail
    refine hcount.mono ?_
    rintro e w1 ⟨rfl, H1⟩
    clear hcount H
    go_wp2_with (at_make; (refine wpList_make_slc rfl _ _ 125 rfl 39 i0 _ 4 Tryz.underlying125 hi hz0 hz1 rfl _ _ _ _ 0 L.length rfl rfl rfl rfl (by omega) (by rw [hz2]; omega) (by unfold maxLen; omega) H1 ?_); intro w2 H2; rw [madeCells_zero] at H2; have HS : Hd w0 _ (w2.alloc (.cells #[.slice (some ⟨w1.heap.size, 0, none⟩) 0 L.length] 125)) := (show Hd w0 (SlE 39 (.slice (some ⟨w1.heap.size, 0, none⟩) 0 L.length) ([] : List OpM) :: R) w2 from H2.slc_mk).fol; have hw := hwalk.out w2.heap.size _ (TellP.shut (tb := w2.heap.size) (l := []) (v := .slice (some ⟨w1.heap.size, 0, none⟩) 0 L.length) HS))
    refine hw.mono ?_
    rintro e w3 ⟨rfl, H4⟩
    clear hw HS H2 H1
    obtain ⟨v, H5⟩ := TellP.opened H4
    have c0 := (show _ = some v from (H5.k w2.heap.size).ce 0 rfl)
    obtain ⟨a', c', hv, -, -, -, -⟩ := H5.tail.slc_form
    subst hv
    go_wp2_with fail
    go_ret2
    exact ⟨_, rfl, H5.tail⟩
  · have hs : (stepsM p).1 = [] := by
      unfold stepsM at hz ⊢
      split
      · rename_i hc
        rw [if_pos hc] at hz
        split
        · rfl
        · rename_i h2
          rw [if_neg h2] at hz
          exact absurd rfl hz
      · rfl
    rw [hs]
    obtain ⟨E, hE⟩ : ∃ E, (stepsM p).2 = E := ⟨_, rfl⟩
    rw [hE] at hcount hz ⊢
    obtain ⟨n, hn⟩ : ∃ n : Int, (if (checkM p).2 = 0 then (if (walkM p).over then 0 else ((walkM p).out.length : Int)) else 0) = n := ⟨_, rfl⟩
    rw [hn] at hcount
    clear hp hs hE H hn
    go_enter Tryz.func85, Tryz.ntmps85
    go_wp2_with fail
    refine hcount.mono ?_
    rintro e w1 ⟨rfl, H1⟩
    go_wp2_with fail
    go_ret2
    exact ⟨_, rfl, H1.slc_nil _ _⟩
end
end Go.Proofs.YtogcikilphakmaaGreatDoor

/-
  The task table in plain terms, and how it lies in memory: its rows' needs and steps lie among what is only read.
-/
namespace Go.Proofs.YtogcikilphakmaaGreatDoor
open Go.RowKit Spl

structure TaskM where
  nm : ByteArray
  lv : Int
  fr : Int
  needs : List NeedM
  cd : ByteArray
  p : Int
  f : Int
  g : Int
structure RowM where
  t : TaskM
  steps : List OpM
structure TkM where
  words : Int
  units : List Int
  rows : List RowM
  names : List RowN
structure RowIs (S : Hp) (r : RowM) (v : RowV) : Prop where
  nm : v.nm = r.t.nm
  lv : v.lv = r.t.lv
  fr : v.fr = r.t.fr
  cd : v.cd = r.t.cd
  p : v.p = r.t.p
  f : v.f = r.t.f
  g : v.g = r.t.g
  needs : RoE S 58 (.slice v.na v.nl v.nc) r.t.needs
  steps : RoE S 39 (.slice v.sa v.sl v.sc) r.steps
theorem RowIs.mono {S S' : Hp} {r : RowM} {v : RowV} (h : RowIs S r v) (k : Le S S') : RowIs S' r v := ⟨h.nm, h.lv, h.fr, h.cd, h.p, h.f, h.g, h.needs.mono k, h.steps.mono k⟩
structure RowsAre (S : Hp) (rs : List RowM) (vs : List RowV) : Prop where
  len : vs.length = rs.length
  at_ : ∀ (i : Nat) (r : RowM) (v : RowV), rs[i]? = some r → vs[i]? = some v → RowIs S r v
theorem RowsAre.mono {S S' : Hp} {rs : List RowM} {vs : List RowV} (h : RowsAre S rs vs) (k : Le S S') : RowsAre S' rs vs := ⟨h.len, fun i r v a b => (h.at_ i r v a b).mono k⟩
theorem RowsAre.get {S : Hp} {rs : List RowM} {vs : List RowV} (h : RowsAre S rs vs) {i : Nat} {r : RowM} (hr : rs[i]? = some r) : ∃ v, vs[i]? = some v ∧ RowIs S r v := by
  have hi : i < vs.length := by rw [h.len]; exact lt_of_get? hr
  exact ⟨vs[i], List.getElem?_eq_getElem hi, h.at_ i r _ hr (List.getElem?_eq_getElem hi)⟩
theorem RowsAre.snoc {S : Hp} {rs : List RowM} {vs : List RowV} {r : RowM} {v : RowV} (h : RowsAre S rs vs) (hv : RowIs S r v) : RowsAre S (rs ++ [r]) (vs ++ [v]) := by
  refine ⟨by simp [h.len], fun i a b ha hb => ?_⟩
  by_cases hi : i < rs.length
  · rw [List.getElem?_append_left hi] at ha
    rw [List.getElem?_append_left (by rw [h.len]; exact hi)] at hb
    exact h.at_ i a b ha hb
  · rw [List.getElem?_append_right (by omega)] at ha
    rw [List.getElem?_append_right (by rw [h.len]; omega), h.len] at hb
    obtain h0 : i - rs.length = 0 := by have := lt_of_get? ha; simp at this; omega
    rw [h0] at ha hb
    simp at ha hb
    subst ha; subst hb
    exact hv
structure TkV where
  vu : Value
  vr : Value
  vn : Value
  rows : List RowV
def TkP (t : Nat) (m : TkM) (S : Hp) : Pr := ex fun x : TkV => all [fact (RowsAre S m.rows x.rows), cel t 104 #[.int .i64 m.words, x.vu, x.vr, x.vn], SlE 3 x.vu m.units, SlE 127 x.vr x.rows, SlE 196 x.vn m.names]
instance (t : Nat) (m : TkM) (S : Hp) : Key (TkP t m S) (.b t) := ⟨trivial⟩
structure TkM.Ok (m : TkM) : Prop where
  w : 0 ≤ m.words ∧ m.words ≤ 65536
  u : m.units.length ≤ 16
  uv : ∀ x ∈ m.units, 1 ≤ x ∧ x ≤ 255
  n : m.rows.length ≤ 64
  lv : ∀ r ∈ m.rows, 1 ≤ r.t.lv ∧ r.t.lv ≤ 32
  fr : ∀ r ∈ m.rows, 0 ≤ r.t.fr ∧ r.t.fr ≤ 4096
  nd : ∀ r ∈ m.rows, r.t.needs.length ≤ 16 ∧ ∀ x ∈ r.t.needs, 0 ≤ x.res ∧ x.res < m.units.length ∧ 1 ≤ x.units ∧ x.units ≤ 255
  st : ∀ r ∈ m.rows, r.steps.length ≤ 4096
  nm : Sorted m.names
  nn : m.names.length = m.rows.length
section
variable {w0 w : World} {R : List Pr} {t : Nat} {m : TkM} {S : Hp}
theorem TkP.opened (H : Hd w0 (TkP t m S :: R) w) : ∃ x : TkV, RowsAre S m.rows x.rows ∧ Hd w0 (cel t 104 #[.int .i64 m.words, x.vu, x.vr, x.vn] :: SlE 3 x.vu m.units :: SlE 127 x.vr x.rows :: SlE 196 x.vn m.names :: R) w := by
  obtain ⟨x, H⟩ := H.out
  have H2 := H.flat
  exact ⟨x, Hd.get H2, H2.tail⟩
theorem TkP.shut {x : TkV} (H : Hd w0 (cel t 104 #[.int .i64 m.words, x.vu, x.vr, x.vn] :: SlE 3 x.vu m.units :: SlE 127 x.vr x.rows :: SlE 196 x.vn m.names :: R) w) (h : RowsAre S m.rows x.rows) : Hd w0 (TkP t m S :: R) w :=
  Hd.into x (Hd.pack (L := [_, _, _, _, _]) (Hd.put h H))
theorem TkP.mono {S' : Hp} (H : Hd w0 (TkP t m S :: R) w) (k : Le S S') : Hd w0 (TkP t m S' :: R) w := by
  obtain ⟨x, hx, H1⟩ := TkP.opened H
  exact TkP.shut H1 (hx.mono k)

theorem tkLen (H : Hd w0 (TkP t m S :: R) w) : Calls Tryz.prog 190 #[.pointer (some ⟨t, 0, none⟩)] w fun e w' => e = .returned (.int .i64 m.rows.length) ∧ w = w' := by
  obtain ⟨⟨vu, vr, vn, rows⟩, hx, H1⟩ := TkP.opened H
  have hc := stkLen_row (o := 2) ((H1.v vr).k t) rfl
  rw [hx.len] at hc
  clear H H1 hx
  go_enter Tryz.func190, Tryz.ntmps190
  go_wp2_with fail
  refine hc.mono ?_
  rintro e w' ⟨rfl, rfl⟩
  go_wp2_with fail
  go_ret
  exact ⟨rfl, rfl⟩
theorem tkWords (H : Hd w0 (TkP t m S :: R) w) : Calls Tryz.prog 73 #[.pointer (some ⟨t, 0, none⟩)] w fun e w' => e = .returned (.int .i64 m.words) ∧ w = w' := by
  obtain ⟨⟨vu, vr, vn, rows⟩, hx, H1⟩ := TkP.opened H
  have c0 := (show _ = some (.int .i64 m.words) from (H1.k t).ce 0 rfl)
  clear H H1 hx
  go_enter Tryz.func73, Tryz.ntmps73
  go_wp2_with fail
  go_ret
  exact ⟨rfl, rfl⟩
set_option maxRecDepth 20000 in
set_option maxHeartbeats 1600000 in
theorem tkUnits (H : Hd w0 (TkP t m S :: R) w) (hm : m.Ok) : Calls Tryz.prog 75 #[.pointer (some ⟨t, 0, none⟩)] w fun e w' => ∃ g, e = .returned (.slice (some ⟨g, 0, none⟩) m.units.length m.units.length) ∧ Hd w0 (SlEC 3 g m.units.length m.units :: TkP t m S :: R) w' := by
  obtain ⟨⟨vu, vr, vn, rows⟩, hx, H1⟩ := TkP.opened H
  obtain ⟨a, cap, rfl, -, -, -, -⟩ := (H1.v vu).slc_form
  have c1 := (show _ = some (.slice a m.units.length cap) from (H1.k t).ce 1 rfl)
  have hu := hm.u
  obtain ⟨i0, hi, hz0, hz1, hz2⟩ := info_parts cdInfoInt
  have hfl := Lib.hid (flat_len m.units)
  have hsh := Lib.hid (fun (w' : World) (L : List Pr) (h : Hd w0 (cel t 104 #[.int .i64 m.words, .slice a m.units.length cap, vr, vn] :: SlE 3 (.slice a m.units.length cap) m.units :: SlE 127 vr rows :: SlE 196 vn m.names :: L) w') => TkP.shut (S := S) (m := m) (x := ⟨_, vr, vn, rows⟩) h hx)
  clear H hx hm
  go_enter Tryz.func75, Tryz.ntmps75
  go_wp2_with fail
  refine wp_region_mix 10 [(0, true), (1, true), (2, true), (3, true), (4, true), (6, true), (7, true), (8, true), (9, true), (5, false)] (fun w' => w'.cell? ⟨t, 1, none⟩ = some (.slice a m.units.length cap)) (by kernel_rfl) (by kernel_rfl) (c1) (fun _ _ d _ _ h => by cases d <;> exact h) ?_
  simp only [List.drop_succ_cons, List.drop_zero]
  iterate 9 (refine mix_head (o := _) (v := ?_) (by (simp only [List.getElem?_toArray, List.getElem?_cons_succ, List.getElem?_cons_zero]); rfl) (by rfl) (fun w' hS => ?_) ?_; rotate_left 1; (focus ((try dsimp only at hS); (try go_split_ands); go_simp; (try with_reducible rfl))); (try simp only [Act.put, List.setIfInBounds_toArray, List.set_cons_zero, List.set_cons_succ]))
  refine mix_mid (o := _) (by (simp only [List.getElem?_toArray, List.getElem?_cons_succ, List.getElem?_cons_zero]); rfl) ?_
  go_wp2_with (at_make; (refine wpList_make_slc rfl _ _ 26 rfl 3 i0 _ 1 Tryz.underlying26 hi hz0 hz1 rfl _ _ _ _ 0 m.units.length rfl rfl rfl rfl (by omega) (by rw [hz2]; omega) (by unfold maxLen; omega) (Hd.drew H1) ?_); intro w1 H3; rw [madeCells_zero] at H3)
  refine mixQ_in ((show _ = some (.slice a m.units.length cap) from (H3.k t).ce 1 rfl)) ?_
  refine mix_end ?_
  have hn1 := Lib.hid ((H3.v (.slice a m.units.length cap)).slc_news)
  go_wp2_with (at_builtin; (refine wpList_append_fits_any_slc rfl _ _ 26 rfl 3 i0 1 Tryz.underlying26 hi hz1 _ 0 m.units.length [] rfl H3 a m.units.length _ (flat m.units) rfl hfl.out hn1.out.1 hn1.out.2 (flat_oneCell m.units) (by omega) ?_); intro w2 H4; rw [Nat.zero_add, List.nil_append] at H4)
  go_ret
  exact ⟨_, rfl, (hsh.out _ _ H4.d5).b2⟩
end
end Go.Proofs.YtogcikilphakmaaGreatDoor

/-
  tasks.Table: Largest, Bound, With, Get, Steps, Need. Every table.
-/
namespace Go.Proofs.YtogcikilphakmaaGreatDoor
open Go.RowKit Spl

def largestM (rs : List RowM) (lv : Int) : Int := rs.foldl (fun n r => if r.t.lv = lv then max n r.t.fr else n) 0
theorem largest_succ {rs : List RowM} {k : Nat} {r : RowM} {lv : Int} (h : rs[k]? = some r) : largestM (rs.take (k + 1)) lv = if r.t.lv = lv then max (largestM (rs.take k) lv) r.t.fr else largestM (rs.take k) lv := by
  have e : rs.take (k + 1) = rs.take k ++ [r] := by rw [List.take_add_one, h]; rfl
  rw [e]
  simp [largestM, List.foldl_append]
theorem largest_le {rs : List RowM} {lv : Int} (hf : ∀ r ∈ rs, 0 ≤ r.t.fr ∧ r.t.fr ≤ 4096) : ∀ k, k ≤ rs.length → 0 ≤ largestM (rs.take k) lv ∧ largestM (rs.take k) lv ≤ 4096 := by
  intro k
  induction k with
  | zero => intro _; simp [largestM]
  | succ k ih =>
    intro hk
    have h1 := ih (by omega)
    have hr : rs[k]? = some (rs[k]'(by omega)) := List.getElem?_eq_getElem _
    have h2 := hf _ (List.mem_of_getElem? hr)
    rw [largest_succ hr]
    split <;> omega
def boundTo (rs : List RowM) (k : Nat) : Int := ((List.range k).map fun i : Nat => largestM rs i).sum
theorem boundTo_succ {rs : List RowM} {k : Nat} : boundTo rs (k + 1) = boundTo rs k + largestM rs k := by simp [boundTo, List.range_succ]
theorem boundTo_le {rs : List RowM} (hf : ∀ r ∈ rs, 0 ≤ r.t.fr ∧ r.t.fr ≤ 4096) : ∀ k : Nat, 0 ≤ boundTo rs k ∧ boundTo rs k ≤ k * 4096 := by
  intro k
  induction k with
  | zero => simp [boundTo]
  | succ k ih =>
    have := largest_le hf (lv := (k : Int)) rs.length (Nat.le_refl _)
    rw [List.take_length] at this
    rw [boundTo_succ]
    push_cast
    omega
def boundM (rs : List RowM) : Int := boundTo rs 33
def withM (rs : List RowM) (lv fr : Int) : Int := if (1 ≤ lv ∧ lv ≤ 32) ∧ 0 ≤ fr ∧ fr ≤ 4096 then boundM rs + max 0 (fr - largestM rs lv) else boundM rs
section
variable {w0 w : World} {R : List Pr} {t : Nat} {m : TkM} {S : Hp}

set_option maxRecDepth 20000 in
set_option maxHeartbeats 1600000 in
theorem tkLargest (H : Hd w0 (TkP t m S :: R) w) (hm : m.Ok) (lv : Int) : Calls Tryz.prog 109 #[.pointer (some ⟨t, 0, none⟩), .int .i64 lv] w fun e w' => e = .returned (.int .i64 (largestM m.rows lv)) ∧ Hd w0 (TkP t m S :: R) w' := by
  obtain ⟨⟨vu, vr, vn, rows⟩, hx, H1⟩ := TkP.opened H
  dsimp only at hx H1
  have hlen := stkLen_row (o := 2) ((H1.v vr).k t) rfl
  have hrl := hx.len
  rw [hrl] at hlen
  have hn := hm.n
  have hfr := Lib.hid hm.fr
  clear H hm
  replace hx := Lib.hid hx
  go_enter Tryz.func109, Tryz.ntmps109
  go_wp2_with fail
  refine hlen.mono ?_
  rintro e w' ⟨rfl, rfl⟩
  clear hlen
  go_wp2_with fail
  go_loopw [5, 13] (fun n i wr => ∃ k : Nat, k ≤ m.rows.length ∧ i = .int .i64 k ∧ n = .int .i64 (largestM (m.rows.take k) lv) ∧ Hd w0 (cel t 104 #[.int .i64 m.words, vu, vr, vn] :: SlE 3 vu m.units :: SlE 127 vr rows :: SlE 196 vn m.names :: R) wr) (fun _ i _ => m.rows.length - (intOf i).toNat)
  case atStart => exact ⟨0, Nat.zero_le _, rfl, rfl, H1⟩
  case round =>
    clear H1
    obtain ⟨k, hk, rfl, rfl, H1⟩ := hrel
    have hle := largest_le hfr.out (lv := lv) k hk
    by_cases hlt : k < m.rows.length
    · obtain ⟨r, hr⟩ : ∃ r, m.rows[k]? = some r := ⟨m.rows[k], List.getElem?_eq_getElem hlt⟩
      obtain ⟨v, hv, hrv⟩ := hx.out.get hr
      have hat := stkAt_row (o := 2) ((H1.v vr).k t) rfl (by omega) k v hv
      have hs := largest_succ (lv := lv) hr
      have hvl := hrv.lv
      have hvf := hrv.fr
      obtain ⟨nm, vlv, vfr, na, nl, nc, cd, p, f, g, sa, sl, sc⟩ := v
      dsimp only at hvl hvf hat
      subst hvl; subst hvf
      have n1 : (k : Int) < m.rows.length := by omega
      have g5 : IntKind.i64.wrap ((k : Int) + 1) = (k : Int) + 1 := IntWalk.i64_in _ (by omega)
      obtain ⟨L, hL⟩ : ∃ L, largestM (m.rows.take k) lv = L := ⟨_, rfl⟩
      rw [hL] at hle hs ⊢
      clear H1 hL hr hv hrv
      obtain ⟨rlv, hrlv⟩ : ∃ x, r.t.lv = x := ⟨_, rfl⟩
      obtain ⟨rfr, hrfr⟩ : ∃ x, r.t.fr = x := ⟨_, rfl⟩
      rw [hrlv, hrfr] at hs hat
      clear hrlv hrfr
      by_cases hlv : rlv = lv
      · rw [if_pos hlv] at hs
        subst hlv
        by_cases hmx : L < rfr
        · replace hs := Lib.hid hs
          go_wp2_with fail
          refine hat.mono ?_
          rintro e w1 ⟨rfl, H2⟩
          clear hat
          have HA : Hd w0 _ (w1.alloc (.cells #[.string nm, .int .i64 rlv, .int .i64 rfr, .slice na nl nc, .string cd, .int .i64 p, .int .i64 f, .int .i64 g, .slice sa sl sc] 127)) := H2.fol
          go_wp2_with fail
          go_roundw
          case rel => exact ⟨k + 1, by omega, by simp, by rw [hs.out], by exact HA.re⟩
          case measure => simp [intOf]; omega
        · replace hs := Lib.hid hs
          go_wp2_with fail
          refine hat.mono ?_
          rintro e w1 ⟨rfl, H2⟩
          clear hat
          have HA : Hd w0 _ (w1.alloc (.cells #[.string nm, .int .i64 rlv, .int .i64 rfr, .slice na nl nc, .string cd, .int .i64 p, .int .i64 f, .int .i64 g, .slice sa sl sc] 127)) := H2.fol
          go_wp2_with fail
          go_roundw
          case rel => exact ⟨k + 1, by omega, by simp, by rw [hs.out], by exact HA.re⟩
          case measure => simp [intOf]; omega
      · rw [if_neg hlv] at hs
        replace hs := Lib.hid hs
        go_wp2_with fail
        refine hat.mono ?_
        rintro e w1 ⟨rfl, H2⟩
        clear hat
        have HA : Hd w0 _ (w1.alloc (.cells #[.string nm, .int .i64 rlv, .int .i64 rfr, .slice na nl nc, .string cd, .int .i64 p, .int .i64 f, .int .i64 g, .slice sa sl sc] 127)) := H2.fol
        go_wp2_with fail
        go_roundw
        case rel => exact ⟨k + 1, by omega, by simp, by rw [hs.out], by exact HA.re⟩
        case measure => simp [intOf]; omega
    · obtain rfl : k = m.rows.length := by omega
      have n1 : ¬ (m.rows.length : Int) < m.rows.length := by omega
      rw [List.take_length]
      go_wp2_with fail
      go_ret
      exact ⟨rfl, TkP.shut (x := ⟨vu, vr, vn, rows⟩) H1 hx.out⟩

set_option maxHeartbeats 1600000 in
theorem tkBound (H : Hd w0 (TkP t m S :: R) w) (hm : m.Ok) : Calls Tryz.prog 108 #[.pointer (some ⟨t, 0, none⟩)] w fun e w' => e = .returned (.int .i64 (boundM m.rows)) ∧ Hd w0 (TkP t m S :: R) w' := by
  go_enter Tryz.func108, Tryz.ntmps108
  go_wp2_with fail
  go_loopw [3, 5] (fun n i wr => ∃ k : Nat, k ≤ 33 ∧ i = .int .i64 k ∧ n = .int .i64 (boundTo m.rows k) ∧ Hd w0 (TkP t m S :: R) wr) (fun _ i _ => 33 - (intOf i).toNat)
  case atStart => exact ⟨0, Nat.zero_le _, rfl, rfl, H⟩
  case round =>
    clear H
    obtain ⟨k, hk, rfl, rfl, H1⟩ := hrel
    have hle := boundTo_le hm.fr k
    have hl2 := largest_le hm.fr (lv := (k : Int)) m.rows.length (Nat.le_refl _)
    rw [List.take_length] at hl2
    by_cases hlt : k < 33
    · have hc := tkLargest H1 hm k
      have hs := boundTo_succ (rs := m.rows) (k := k)
      have n1 : (k : Int) < 33 := by omega
      have g5 : IntKind.i64.wrap ((k : Int) + 1) = (k : Int) + 1 := IntWalk.i64_in _ (by omega)
      have g6 : IntKind.i64.wrap (boundTo m.rows k + largestM m.rows k) = boundTo m.rows k + largestM m.rows k := IntWalk.i64_in _ (by omega)
      replace hs := Lib.hid hs
      clear H1
      go_wp2_with fail
      refine hc.mono ?_
      rintro e w1 ⟨rfl, H2⟩
      clear hc
      go_wp2_with fail
      go_roundw
      case rel => exact ⟨k + 1, by omega, by simp, by rw [hs.out], H2⟩
      case measure => simp [intOf]; omega
    · obtain rfl : k = 33 := by omega
      go_wp2_with fail
      go_ret
      exact ⟨rfl, H1⟩

set_option maxHeartbeats 1600000 in
theorem tkWith (H : Hd w0 (TkP t m S :: R) w) (hm : m.Ok) (lv fr : Int) : Calls Tryz.prog 82 #[.pointer (some ⟨t, 0, none⟩), .int .i64 lv, .int .i64 fr] w fun e w' => e = .returned (.int .i64 (withM m.rows lv fr)) ∧ Hd w0 (TkP t m S :: R) w' := by
  have hb := tkBound H hm
  have hle : 0 ≤ boundM m.rows ∧ boundM m.rows ≤ 33 * 4096 := boundTo_le hm.fr 33
  have hl2 := largest_le hm.fr (lv := lv) m.rows.length (Nat.le_refl _)
  rw [List.take_length] at hl2
  obtain ⟨B, hB⟩ : ∃ B, boundM m.rows = B := ⟨_, rfl⟩
  obtain ⟨L, hL⟩ : ∃ L, largestM m.rows lv = L := ⟨_, rfl⟩
  by_cases h : (1 ≤ lv ∧ lv ≤ 32) ∧ 0 ≤ fr ∧ fr ≤ 4096
  · have e1 : withM m.rows lv fr = B + max 0 (fr - L) := by unfold withM; rw [if_pos h, hB, hL]
    rw [e1]
    rw [hB] at hb hle
    have hLc : ∀ w1, Hd w0 (TkP t m S :: R) w1 → Calls Tryz.prog 109 #[.pointer (some ⟨t, 0, none⟩), .int .i64 lv] w1 fun e w' => e = .returned (.int .i64 L) ∧ Hd w0 (TkP t m S :: R) w' := fun w1 h1 => by
      have := tkLargest h1 hm lv
      rwa [hL] at this
    rw [hL] at hl2
    replace hLc := Lib.hid hLc
    obtain ⟨⟨h1, h2⟩, h3, h4⟩ := h
    have n1 : ¬ lv < 1 := by omega
    have n2 : ¬ 32 < lv := by omega
    have n3 : ¬ fr < 0 := by omega
    have n4 : ¬ 4096 < fr := by omega
    have g5 : IntKind.i64.wrap (fr - L) = fr - L := IntWalk.i64_in _ (by omega)
    clear e1 hB hL hm H
    by_cases hmx : 0 < fr - L
    · rw [show max 0 (fr - L) = fr - L by omega]
      have g6 : IntKind.i64.wrap (B + (fr - L)) = B + (fr - L) := IntWalk.i64_in _ (by omega)
      go_enter Tryz.func82, Tryz.ntmps82
      go_wp2_with fail
      refine hb.mono ?_
      rintro e w1 ⟨rfl, H2⟩
      have hc := hLc.out _ H2
      go_wp2_with fail
      refine hc.mono ?_
      rintro e w2 ⟨rfl, H3⟩
      go_wp2_with fail
      go_ret
      exact ⟨ret_int (by omega), H3⟩
    · rw [show max 0 (fr - L) = 0 by omega]
      have g6 : IntKind.i64.wrap (B + 0) = B + 0 := IntWalk.i64_in _ (by omega)
      have g7 : IntKind.i64.wrap B = B := IntWalk.i64_in _ (by omega)
      go_enter Tryz.func82, Tryz.ntmps82
      go_wp2_with fail
      refine hb.mono ?_
      rintro e w1 ⟨rfl, H2⟩
      have hc := hLc.out _ H2
      go_wp2_with fail
      refine hc.mono ?_
      rintro e w2 ⟨rfl, H3⟩
      go_wp2_with fail
      go_ret
      exact ⟨ret_int (by omega), H3⟩
  · have e1 : withM m.rows lv fr = B := by unfold withM; rw [if_neg h, hB]
    rw [e1]
    rw [hB] at hb
    have hk : lv < 1 ∨ (¬ lv < 1 ∧ (32 < lv ∨ (¬ 32 < lv ∧ (fr < 0 ∨ (¬ fr < 0 ∧ 4096 < fr))))) := by omega
    clear e1 hB hL hm H h hle hl2
    rcases hk with h | ⟨h, h2 | ⟨h2, h3 | ⟨h3, h4⟩⟩⟩
    all_goals
      go_enter Tryz.func82, Tryz.ntmps82
      go_wp2_with fail
      refine hb.mono ?_
      rintro e w1 ⟨rfl, H2⟩
      go_wp2_with fail
      go_ret
      exact ⟨rfl, H2⟩
end
end Go.Proofs.YtogcikilphakmaaGreatDoor

/-
  tasks.Table: Get, Steps. Every table, every number.
-/
namespace Go.Proofs.YtogcikilphakmaaGreatDoor
open Go.RowKit Spl

theorem drew_sz (w : World) : w.drew.heap.size = w.heap.size := rfl
section
variable {w0 w : World} {R : List Pr} {t : Nat} {m : TkM} {S : Hp}

set_option maxRecDepth 20000 in
set_option maxHeartbeats 4000000 in
theorem tkGet (H : Hd w0 (TkP t m S :: ro S :: R) w) (hm : m.Ok) {i : Nat} {r : RowM} (hr : m.rows[i]? = some r) :
    Calls Tryz.prog 58 #[.pointer (some ⟨t, 0, none⟩), .int .i64 i] w fun e w' => ∃ v, e = .returned (.tuple #[.agg #[.string r.t.nm, .int .i64 r.t.lv, .int .i64 r.t.fr, v, .string r.t.cd, .int .i64 r.t.p, .int .i64 r.t.f, .int .i64 r.t.g], .bool true]) ∧
      Hd w0 (SlE 58 v r.t.needs :: TkP t m S :: ro S :: R) w' := by
  obtain ⟨⟨vu, vr, vn, rows⟩, hx, H1⟩ := TkP.opened H
  dsimp only at hx H1
  obtain ⟨v, hv, hrv⟩ := hx.get hr
  have hnd := (hm.nd r (List.mem_of_getElem? hr)).1
  have H2 : Hd w0 _ (w.alloc (.cells #[.string ⟨#[]⟩, .int .i64 0, .int .i64 0, .slice none 0 0, .string ⟨#[]⟩, .int .i64 0, .int .i64 0, .int .i64 0] 33)) := H1.fol
  have hat := stkAt_row (o := 2) ((H2.v vr).k t) rfl (by rw [hx.len]; have := hm.n; omega) i v hv
  have hrn := hrv.needs
  obtain ⟨e1, e2, e3, e4, e5, e6, e7, -, -⟩ := hrv
  obtain ⟨nm, lv, fr, na, nl, nc, cd, p, f, g, sa, sl, sc⟩ := v
  dsimp only at e1 e2 e3 e4 e5 e6 e7 hat hrn
  rw [← e1, ← e2, ← e3, ← e4, ← e5, ← e6, ← e7]
  have hnn := Lib.hid (fun (w1 : World) (h : Hd w0 (ro S :: R) w1) => h.ro_news hrn)
  have hnl : nl = r.t.needs.length := Ros.form hrn
  obtain ⟨i0, hi, hz0, hz1, hz2⟩ := info_parts infoNeed
  obtain ⟨L, hL⟩ : ∃ L, r.t.needs = L := ⟨_, rfl⟩
  rw [hL] at hnn hnl hnd ⊢
  subst hnl
  have hfl := Lib.hid (flat_len L)
  replace hx := Lib.hid hx
  clear H H1 H2 hm hr hv hrn e1 e2 e3 e4 e5 e6 e7 hL
  go_enter Tryz.func58, Tryz.ntmps58
  go_wp2_with fail
  refine hat.mono ?_
  rintro e w1 ⟨rfl, H3⟩
  clear hat
  have H4 : Hd w0 _ ((w1.alloc (.cells #[.string nm, .int .i64 lv, .int .i64 fr, .slice na L.length nc, .string cd, .int .i64 p, .int .i64 f, .int .i64 g, .slice sa sl sc] 127)).alloc (.cells #[.string nm, .int .i64 lv, .int .i64 fr, .slice na L.length nc, .string cd, .int .i64 p, .int .i64 f, .int .i64 g] 33)) := H3.fol
  have c3 := (show _ = some (.slice na L.length nc) from (H4.k (w1.heap.size + 1)).ce 3 rfl)
  go_wp2_with fail
  refine wp_region_mix 7 [(0, true), (1, true), (2, true), (4, true), (5, true), (3, false), (6, false)] (fun w' => w'.cell? ⟨w1.heap.size + 1, 3, none⟩ = some (.slice na L.length nc)) (by kernel_rfl) (by kernel_rfl) (c3) (fun _ _ d _ _ h => by cases d <;> exact h) ?_
  simp only [List.drop_succ_cons, List.drop_zero]
  iterate 5 (refine mix_head (o := _) (v := ?_) (by (simp only [List.getElem?_toArray, List.getElem?_cons_succ, List.getElem?_cons_zero]); rfl) (by rfl) (fun w' hS => ?_) ?_; rotate_left 1; (focus ((try dsimp only at hS); (try go_split_ands); go_simp; (try with_reducible rfl))); (try simp only [Act.put, List.setIfInBounds_toArray, List.set_cons_zero, List.set_cons_succ]))
  refine mix_mid (o := _) (by (simp only [List.getElem?_toArray, List.getElem?_cons_succ, List.getElem?_cons_zero]); rfl) ?_
  go_wp2_with (at_make; (refine wpList_make_slc rfl _ _ 31 rfl 58 i0 _ 2 Tryz.underlying31 hi hz0 hz1 rfl _ _ _ _ 0 L.length rfl rfl rfl rfl (by omega) (by rw [hz2]; omega) (by unfold maxLen; omega) (Hd.drew H4) ?_); intro w2 H5; simp only [madeCells_zero, drew_sz, World.size_alloc, Nat.add_assoc, Nat.reduceAdd] at H5)
  refine mixQ_in ((show _ = some (.slice na L.length nc) from (H5.k (w1.heap.size + 1)).ce 3 rfl)) ?_
  refine mix_mid (o := _) (by (simp only [List.getElem?_toArray, List.getElem?_cons_succ, List.getElem?_cons_zero]); rfl) ?_
  have hn1 := Lib.hid (hnn.out _ H5.re)
  go_wp2_with (at_builtin; (refine wpList_append_fits_any_slc rfl _ _ 31 rfl 58 i0 2 Tryz.underlying31 hi hz1 _ 0 L.length [] rfl H5 na L.length _ (flat L) rfl hfl.out hn1.out.2.1 hn1.out.2.2 (flat_oneCell L) (by omega) ?_); intro w3 H6; rw [Nat.zero_add, List.nil_append] at H6)
  have H7 := H6
  have d3 := (show _ = some (.slice na L.length nc) from (H6.k (w1.heap.size + 1)).ce 3 rfl)
  have f3 := (H6.k (w1.heap.size + 1)).fr 3
  refine mixQ_in d3 ?_
  refine mix_end ?_
  (try dsimp only)
  have H8 : Hd w0 _ (w3.setCell ⟨w1.heap.size + 1, 3, none⟩ (.slice (some ⟨w1.heap.size + 2, 0, none⟩) L.length L.length)) := H6.fol
  have hf := H8.facts
  simp only [Nat.reduceAdd] at hf
  go_split_ands
  clear H3 H4 H5 H6 H7 hn1 hnn
  go_wp2_with (first | (refine wpList_store_all (cells := #[.string nm, .int .i64 lv, .int .i64 fr, .slice (some ⟨w1.heap.size + 2, 0, none⟩) L.length L.length, .string cd, .int .i64 p, .int .i64 f, .int .i64 g]) (H8.k w.heap.size) rfl 33 _ _ rfl rfl rfl (by kernel_rfl) rfl (by simp [Value.oneCell']) ?_; intro w4 H9))
  (try simp only [Exit.inBlock, Exit.then])
  refine bodyPost_ret (results_row_tmp rfl _ _ w.heap.size 33 #[.string nm, .int .i64 lv, .int .i64 fr, .slice (some ⟨w1.heap.size + 2, 0, none⟩) L.length L.length, .string cd, .int .i64 p, .int .i64 f, .int .i64 g] (0, 0) _ rfl (by exact ((Hd.fol H9 : Hd w0 _ _).k w.heap.size).heap) Tryz.underlying33 rfl (by kernel_rfl)) rfl ⟨_, rfl, ?_⟩
  have HA : Hd w0 (SlcC 58 2 (w1.heap.size + 2) L.length L.length (flat L) :: cel t 104 #[.int .i64 m.words, vu, vr, vn] :: SlE 3 vu m.units :: SlE 127 vr rows :: SlE 196 vn m.names :: ro S :: R) w4 := H9.re
  exact (TkP.shut (x := ⟨vu, vr, vn, rows⟩) (HA.slc_mk).d5 hx.out).b2
end
end Go.Proofs.YtogcikilphakmaaGreatDoor
