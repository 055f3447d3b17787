/-
  Merged texts of one proof: Tk2, Tk3, Tk4.
-/
import Derived.Test.YtogcikilphakmaaGreatDoorG11
import Derived.Test.YtogcikilphakmaaGreatDoorG31

/-
  tasks.Table: Largest, Bound, With, Get, Steps, Need. Every table.
-/
namespace Go.Proofs.YtogcikilphakmaaGreatDoor
open Go.RowKit Spl

def largestM (rs : List RowM) (lv : Int) : Int := rs.foldl (fun n r => if r.t.lv = lv then max n r.t.fr else n) 0
theorem largest_succ {rs : List RowM} {k : Nat} {r : RowM} {lv : Int} (h : rs[k]? = some r) : largestM (rs.take (k + 1)) lv = if r.t.lv = lv then max (largestM (rs.take k) lv) r.t.fr else largestM (rs.take k) lv := by
  have e : rs.take (k + 1) = rs.take k ++ [r] := by rw [List.take_add_one, h]; rfl
  rw [e]
  simp [largestM, List.foldl_append]
theorem largest_le {rs : List RowM} {lv : Int} (hf : ∀ r ∈ rs, 0 ≤ r.t.fr ∧ r.t.fr ≤ 4096) : ∀ k, k ≤ rs.length → 0 ≤ largestM (rs.take k) lv ∧ largestM (rs.take k) lv ≤ 4096 := by
  intro k
  induction k with
  | zero => intro _; simp [largestM]
  | succ k ih =>
    intro hk
    have h1 := ih (by omega)
    have hr : rs[k]? = some (rs[k]'(by omega)) := List.getElem?_eq_getElem _
    have h2 := hf _ (List.mem_of_getElem? hr)
    rw [largest_succ hr]
    split <;> omega
def boundTo (rs : List RowM) (k : Nat) : Int := ((List.range k).map fun i : Nat => largestM rs i).sum
theorem boundTo_succ {rs : List RowM} {k : Nat} : boundTo rs (k + 1) = boundTo rs k + largestM rs k := by simp [boundTo, List.range_succ]
theorem boundTo_le {rs : List RowM} (hf : ∀ r ∈ rs, 0 ≤ r.t.fr ∧ r.t.fr ≤ 4096) : ∀ k : Nat, 0 ≤ boundTo rs k ∧ boundTo rs k ≤ k * 4096 := by
  intro k
  induction k with
  | zero => simp [boundTo]
  | succ k ih =>
    have := largest_le hf (lv := (k : Int)) rs.length (Nat.le_refl _)
    rw [List.take_length] at this
    rw [boundTo_succ]
    push_cast
    omega
def boundM (rs : List RowM) : Int := boundTo rs 33
def withM (rs : List RowM) (lv fr : Int) : Int := if (1 ≤ lv ∧ lv ≤ 32) ∧ 0 ≤ fr ∧ fr ≤ 4096 then boundM rs + max 0 (fr - largestM rs lv) else boundM rs
section
variable {w0 w : World} {R : List Pr} {t : Nat} {m : TkM} {S : Hp}

set_option maxRecDepth 20000 in
set_option maxHeartbeats 1600000 in
theorem tkLargest (H : Hd w0 (TkP t m S :: R) w) (hm : m.Ok) (lv : Int) : Calls Tryz.prog 109 #[.pointer (some ⟨t, 0, none⟩), .int .i64 lv] w fun e w' => e = .returned (.int .i64 (largestM m.rows lv)) ∧ Hd w0 (TkP t m S :: R) w' := by
  obtain ⟨⟨vu, vr, vn, rows⟩, hx, H1⟩ := TkP.opened H
  dsimp only at hx H1
  have hlen := stkLen_row (o := 2) ((H1.v vr).k t) rfl
  have hrl := hx.len
  rw [hrl] at hlen
  have hn := hm.n
  have hfr := Lib.hid hm.fr
  clear H hm
  replace hx := Lib.hid hx
  go_enter Tryz.func109, Tryz.ntmps109
  go_wp2_with fail
  refine hlen.mono ?_
  rintro e w' ⟨rfl, rfl⟩
  clear hlen
  go_wp2_with fail
  go_loopw [5, 13] (fun n i wr => ∃ k : Nat, k ≤ m.rows.length ∧ i = .int .i64 k ∧ n = .int .i64 (largestM (m.rows.take k) lv) ∧ Hd w0 (cel t 104 #[.int .i64 m.words, vu, vr, vn] :: SlE 3 vu m.units :: SlE 127 vr rows :: SlE 196 vn m.names :: R) wr) (fun _ i _ => m.rows.length - (intOf i).toNat)
  case atStart => exact ⟨0, Nat.zero_le _, rfl, rfl, H1⟩
  case round =>
    clear H1
    obtain ⟨k, hk, rfl, rfl, H1⟩ := hrel
    have hle := largest_le hfr.out (lv := lv) k hk
    by_cases hlt : k < m.rows.length
    · obtain ⟨r, hr⟩ : ∃ r, m.rows[k]? = some r := ⟨m.rows[k], List.getElem?_eq_getElem hlt⟩
      obtain ⟨v, hv, hrv⟩ := hx.out.get hr
      have hat := stkAt_row (o := 2) ((H1.v vr).k t) rfl (by omega) k v hv
      have hs := largest_succ (lv := lv) hr
      have hvl := hrv.lv
      have hvf := hrv.fr
      obtain ⟨nm, vlv, vfr, na, nl, nc, cd, p, f, g, sa, sl, sc⟩ := v
      dsimp only at hvl hvf hat
      subst hvl; subst hvf
      have n1 : (k : Int) < m.rows.length := by omega
      have g5 : IntKind.i64.wrap ((k : Int) + 1) = (k : Int) + 1 := IntWalk.i64_in _ (by omega)
      obtain ⟨L, hL⟩ : ∃ L, largestM (m.rows.take k) lv = L := ⟨_, rfl⟩
      rw [hL] at hle hs ⊢
      clear H1 hL hr hv hrv
      obtain ⟨rlv, hrlv⟩ : ∃ x, r.t.lv = x := ⟨_, rfl⟩
      obtain ⟨rfr, hrfr⟩ : ∃ x, r.t.fr = x := ⟨_, rfl⟩
      rw [hrlv, hrfr] at hs hat
      clear hrlv hrfr
      by_cases hlv : rlv = lv
      · rw [if_pos hlv] at hs
        subst hlv
        by_cases hmx : L < rfr
        · replace hs := Lib.hid hs
          go_wp2_with fail
          refine hat.mono ?_
          rintro e w1 ⟨rfl, H2⟩
          clear hat
          have HA : Hd w0 _ (w1.alloc (.cells #[.string nm, .int .i64 rlv, .int .i64 rfr, .slice na nl nc, .string cd, .int .i64 p, .int .i64 f, .int .i64 g, .slice sa sl sc] 127)) := H2.fol
          go_wp2_with fail
          go_roundw
          case rel => exact ⟨k + 1, by omega, by simp, by rw [hs.out], by exact HA.re⟩
          case measure => simp [intOf]; omega
        · replace hs := Lib.hid hs
          go_wp2_with fail
          refine hat.mono ?_
          rintro e w1 ⟨rfl, H2⟩
          clear hat
          have HA : Hd w0 _ (w1.alloc (.cells #[.string nm, .int .i64 rlv, .int .i64 rfr, .slice na nl nc, .string cd, .int .i64 p, .int .i64 f, .int .i64 g, .slice sa sl sc] 127)) := H2.fol
          go_wp2_with fail
          go_roundw
          case rel => exact ⟨k + 1, by omega, by simp, by rw [hs.out], by exact HA.re⟩
          case measure => simp [intOf]; omega
      · rw [if_neg hlv] at hs
        replace hs := Lib.hid hs
        go_wp2_with fail
        refine hat.mono ?_
        rintro e w1 ⟨rfl, H2⟩
        clear hat
        have HA : Hd w0 _ (w1.alloc (.cells #[.string nm, .int .i64 rlv, .int .i64 rfr, .slice na nl nc, .string cd, .int .i64 p, .int .i64 f, .int .i64 g, .slice sa sl sc] 127)) := H2.fol
        go_wp2_with fail
        go_roundw
        case rel => exact ⟨k + 1, by omega, by simp, by rw [hs.out], by exact HA.re⟩
        case measure => simp [intOf]; omega
    · obtain rfl : k = m.rows.length := by omega
      have n1 : ¬ (m.rows.length : Int) < m.rows.length := by omega
      rw [List.take_length]
      go_wp2_with fail
      go_ret
      exact ⟨rfl, TkP.shut (x := ⟨vu, vr, vn, rows⟩) H1 hx.out⟩

set_option maxHeartbeats 1600000 in
theorem tkBound (H : Hd w0 (TkP t m S :: R) w) (hm : m.Ok) : Calls Tryz.prog 108 #[.pointer (some ⟨t, 0, none⟩)] w fun e w' => e = .returned (.int .i64 (boundM m.rows)) ∧ Hd w0 (TkP t m S :: R) w' := by
  go_enter Tryz.func108, Tryz.ntmps108
  go_wp2_with fail
  go_loopw [3, 5] (fun n i wr => ∃ k : Nat, k ≤ 33 ∧ i = .int .i64 k ∧ n = .int .i64 (boundTo m.rows k) ∧ Hd w0 (TkP t m S :: R) wr) (fun _ i _ => 33 - (intOf i).toNat)
  case atStart => exact ⟨0, Nat.zero_le _, rfl, rfl, H⟩
  case round =>
    clear H
    obtain ⟨k, hk, rfl, rfl, H1⟩ := hrel
    have hle := boundTo_le hm.fr k
    have hl2 := largest_le hm.fr (lv := (k : Int)) m.rows.length (Nat.le_refl _)
    rw [List.take_length] at hl2
    by_cases hlt : k < 33
    · have hc := tkLargest H1 hm k
      have hs := boundTo_succ (rs := m.rows) (k := k)
      have n1 : (k : Int) < 33 := by omega
      have g5 : IntKind.i64.wrap ((k : Int) + 1) = (k : Int) + 1 := IntWalk.i64_in _ (by omega)
      have g6 : IntKind.i64.wrap (boundTo m.rows k + largestM m.rows k) = boundTo m.rows k + largestM m.rows k := IntWalk.i64_in _ (by omega)
      replace hs := Lib.hid hs
      clear H1
      go_wp2_with fail
      refine hc.mono ?_
      rintro e w1 ⟨rfl, H2⟩
      clear hc
      go_wp2_with fail
      go_roundw
      case rel => exact ⟨k + 1, by omega, by simp, by rw [hs.out], H2⟩
      case measure => simp [intOf]; omega
    · obtain rfl : k = 33 := by omega
      go_wp2_with fail
      go_ret
      exact ⟨rfl, H1⟩

set_option maxHeartbeats 1600000 in
theorem tkWith (H : Hd w0 (TkP t m S :: R) w) (hm : m.Ok) (lv fr : Int) : Calls Tryz.prog 82 #[.pointer (some ⟨t, 0, none⟩), .int .i64 lv, .int .i64 fr] w fun e w' => e = .returned (.int .i64 (withM m.rows lv fr)) ∧ Hd w0 (TkP t m S :: R) w' := by
  have hb := tkBound H hm
  have hle : 0 ≤ boundM m.rows ∧ boundM m.rows ≤ 33 * 4096 := boundTo_le hm.fr 33
  have hl2 := largest_le hm.fr (lv := lv) m.rows.length (Nat.le_refl _)
  rw [List.take_length] at hl2
  obtain ⟨B, hB⟩ : ∃ B, boundM m.rows = B := ⟨_, rfl⟩
  obtain ⟨L, hL⟩ : ∃ L, largestM m.rows lv = L := ⟨_, rfl⟩
  by_cases h : (1 ≤ lv ∧ lv ≤ 32) ∧ 0 ≤ fr ∧ fr ≤ 4096
  · have e1 : withM m.rows lv fr = B + max 0 (fr - L) := by unfold withM; rw [if_pos h, hB, hL]
    rw [e1]
    rw [hB] at hb hle
    have hLc : ∀ w1, Hd w0 (TkP t m S :: R) w1 → Calls Tryz.prog 109 #[.pointer (some ⟨t, 0, none⟩), .int .i64 lv] w1 fun e w' => e = .returned (.int .i64 L) ∧ Hd w0 (TkP t m S :: R) w' := fun w1 h1 => by
      have := tkLargest h1 hm lv
      rwa [hL] at this
    rw [hL] at hl2
    replace hLc := Lib.hid hLc
    obtain ⟨⟨h1, h2⟩, h3, h4⟩ := h
    have n1 : ¬ lv < 1 := by omega
    have n2 : ¬ 32 < lv := by omega
    have n3 : ¬ fr < 0 := by omega
    have n4 : ¬ 4096 < fr := by omega
    have g5 : IntKind.i64.wrap (fr - L) = fr - L := IntWalk.i64_in _ (by omega)
    clear e1 hB hL hm H
    by_cases hmx : 0 < fr - L
    · rw [show max 0 (fr - L) = fr - L by omega]
      have g6 : IntKind.i64.wrap (B + (fr - L)) = B + (fr - L) := IntWalk.i64_in _ (by omega)
      go_enter Tryz.func82, Tryz.ntmps82
      go_wp2_with fail
      refine hb.mono ?_
      rintro e w1 ⟨rfl, H2⟩
      have hc := hLc.out _ H2
      go_wp2_with fail
      refine hc.mono ?_
      rintro e w2 ⟨rfl, H3⟩
      go_wp2_with fail
      go_ret
      exact ⟨ret_int (by omega), H3⟩
    · rw [show max 0 (fr - L) = 0 by omega]
      have g6 : IntKind.i64.wrap (B + 0) = B + 0 := IntWalk.i64_in _ (by omega)
      have g7 : IntKind.i64.wrap B = B := IntWalk.i64_in _ (by omega)
      go_enter Tryz.func82, Tryz.ntmps82
      go_wp2_with fail
      refine hb.mono ?_
      rintro e w1 ⟨rfl, H2⟩
      have hc := hLc.out _ H2
      go_wp2_with fail
      refine hc.mono ?_
      rintro e w2 ⟨rfl, H3⟩
      go_wp2_with fail
      go_ret
      exact ⟨ret_int (by omega), H3⟩
  · have e1 : withM m.rows lv fr = B := by unfold withM; rw [if_neg h, hB]
    rw [e1]
    rw [hB] at hb
    have hk : lv < 1 ∨ (¬ lv < 1 ∧ (32 < lv ∨ (¬ 32 < lv ∧ (fr < 0 ∨ (¬ fr < 0 ∧ 4096 < fr))))) := by omega
    clear e1 hB hL hm H h hle hl2
    rcases hk with h | ⟨h, h2 | ⟨h2, h3 | ⟨h3, h4⟩⟩⟩
    all_goals
      go_enter Tryz.func82, Tryz.ntmps82
      go_wp2_with fail
      refine hb.mono ?_
      rintro e w1 ⟨rfl, H2⟩
      go_wp2_with fail
      go_ret
      exact ⟨rfl, H2⟩
end
end Go.Proofs.YtogcikilphakmaaGreatDoor

/-
  tasks.Table: Get, Steps. Every table, every number.
-/
namespace Go.Proofs.YtogcikilphakmaaGreatDoor
open Go.RowKit Spl

theorem drew_sz (w : World) : w.drew.heap.size = w.heap.size := rfl
section
variable {w0 w : World} {R : List Pr} {t : Nat} {m : TkM} {S : Hp}

set_option maxRecDepth 20000 in
set_option maxHeartbeats 4000000 in
theorem tkGet (H : Hd w0 (TkP t m S :: ro S :: R) w) (hm : m.Ok) {i : Nat} {r : RowM} (hr : m.rows[i]? = some r) :
    Calls Tryz.prog 58 #[.pointer (some ⟨t, 0, none⟩), .int .i64 i] w fun e w' => ∃ v, e = .returned (.tuple #[.agg #[.string r.t.nm, .int .i64 r.t.lv, .int .i64 r.t.fr, v, .string r.t.cd, .int .i64 r.t.p, .int .i64 r.t.f, .int .i64 r.t.g], .bool true]) ∧
      Hd w0 (SlE 58 v r.t.needs :: TkP t m S :: ro S :: R) w' := by
  obtain ⟨⟨vu, vr, vn, rows⟩, hx, H1⟩ := TkP.opened H
  dsimp only at hx H1
  obtain ⟨v, hv, hrv⟩ := hx.get hr
  have hnd := (hm.nd r (List.mem_of_getElem? hr)).1
  have H2 : Hd w0 _ (w.alloc (.cells #[.string ⟨#[]⟩, .int .i64 0, .int .i64 0, .slice none 0 0, .string ⟨#[]⟩, .int .i64 0, .int .i64 0, .int .i64 0] 33)) := H1.fol
  have hat := stkAt_row (o := 2) ((H2.v vr).k t) rfl (by rw [hx.len]; have := hm.n; omega) i v hv
  have hrn := hrv.needs
  obtain ⟨e1, e2, e3, e4, e5, e6, e7, -, -⟩ := hrv
  obtain ⟨nm, lv, fr, na, nl, nc, cd, p, f, g, sa, sl, sc⟩ := v
  dsimp only at e1 e2 e3 e4 e5 e6 e7 hat hrn
  rw [← e1, ← e2, ← e3, ← e4, ← e5, ← e6, ← e7]
  have hnn := Lib.hid (fun (w1 : World) (h : Hd w0 (ro S :: R) w1) => h.ro_news hrn)
  have hnl : nl = r.t.needs.length := Ros.form hrn
  obtain ⟨i0, hi, hz0, hz1, hz2⟩ := info_parts infoNeed
  obtain ⟨L, hL⟩ : ∃ L, r.t.needs = L := ⟨_, rfl⟩
  rw [hL] at hnn hnl hnd ⊢
  subst hnl
  have hfl := Lib.hid (flat_len L)
  replace hx := Lib.hid hx
  clear H H1 H2 hm hr hv hrn e1 e2 e3 e4 e5 e6 e7 hL
  go_enter Tryz.func58, Tryz.ntmps58
  go_wp2_with fail
  refine hat.mono ?_
  rintro e w1 ⟨rfl, H3⟩
  clear hat
  have H4 : Hd w0 _ ((w1.alloc (.cells #[.string nm, .int .i64 lv, .int .i64 fr, .slice na L.length nc, .string cd, .int .i64 p, .int .i64 f, .int .i64 g, .slice sa sl sc] 127)).alloc (.cells #[.string nm, .int .i64 lv, .int .i64 fr, .slice na L.length nc, .string cd, .int .i64 p, .int .i64 f, .int .i64 g] 33)) := H3.fol
  have c3 := (show _ = some (.slice na L.length nc) from (H4.k (w1.heap.size + 1)).ce 3 rfl)
  go_wp2_with fail
  refine wp_region_mix 7 [(0, true), (1, true), (2, true), (4, true), (5, true), (3, false), (6, false)] (fun w' => w'.cell? ⟨w1.heap.size + 1, 3, none⟩ = some (.slice na L.length nc)) (by kernel_rfl) (by kernel_rfl) (c3) (fun _ _ d _ _ h => by cases d <;> exact h) ?_
  simp only [List.drop_succ_cons, List.drop_zero]
  iterate 5 (refine mix_head (o := _) (v := ?_) (by (simp only [List.getElem?_toArray, List.getElem?_cons_succ, List.getElem?_cons_zero]); rfl) (by rfl) (fun w' hS => ?_) ?_; rotate_left 1; (focus ((try dsimp only at hS); (try go_split_ands); go_simp; (try with_reducible rfl))); (try simp only [Act.put, List.setIfInBounds_toArray, List.set_cons_zero, List.set_cons_succ]))
  refine mix_mid (o := _) (by (simp only [List.getElem?_toArray, List.getElem?_cons_succ, List.getElem?_cons_zero]); rfl) ?_
  go_wp2_with (at_make; (refine wpList_make_slc rfl _ _ 31 rfl 58 i0 _ 2 Tryz.underlying31 hi hz0 hz1 rfl _ _ _ _ 0 L.length rfl rfl rfl rfl (by omega) (by rw [hz2]; omega) (by unfold maxLen; omega) (Hd.drew H4) ?_); intro w2 H5; simp only [madeCells_zero, drew_sz, World.size_alloc, Nat.add_assoc, Nat.reduceAdd] at H5)
  refine mixQ_in ((show _ = some (.slice na L.length nc) from (H5.k (w1.heap.size + 1)).ce 3 rfl)) ?_
  refine mix_mid (o := _) (by (simp only [List.getElem?_toArray, List.getElem?_cons_succ, List.getElem?_cons_zero]); rfl) ?_
  have hn1 := Lib.hid (hnn.out _ H5.re)
  go_wp2_with (at_builtin; (refine wpList_append_fits_any_slc rfl _ _ 31 rfl 58 i0 2 Tryz.underlying31 hi hz1 _ 0 L.length [] rfl H5 na L.length _ (flat L) rfl hfl.out hn1.out.2.1 hn1.out.2.2 (flat_oneCell L) (by omega) ?_); intro w3 H6; rw [Nat.zero_add, List.nil_append] at H6)
  have H7 := H6
  have d3 := (show _ = some (.slice na L.length nc) from (H6.k (w1.heap.size + 1)).ce 3 rfl)
  have f3 := (H6.k (w1.heap.size + 1)).fr 3
  refine mixQ_in d3 ?_
  refine mix_end ?_
  (try dsimp only)
  have H8 : Hd w0 _ (w3.setCell ⟨w1.heap.size + 1, 3, none⟩ (.slice (some ⟨w1.heap.size + 2, 0, none⟩) L.length L.length)) := H6.fol
  have hf := H8.facts
  simp only [Nat.reduceAdd] at hf
  go_split_ands
  clear H3 H4 H5 H6 H7 hn1 hnn
  go_wp2_with (first | (refine wpList_store_all (cells := #[.string nm, .int .i64 lv, .int .i64 fr, .slice (some ⟨w1.heap.size + 2, 0, none⟩) L.length L.length, .string cd, .int .i64 p, .int .i64 f, .int .i64 g]) (H8.k w.heap.size) rfl 33 _ _ rfl rfl rfl (by kernel_rfl) rfl (by simp [Value.oneCell']) ?_; intro w4 H9))
  (try simp only [Exit.inBlock, Exit.then])
  refine bodyPost_ret (results_row_tmp rfl _ _ w.heap.size 33 #[.string nm, .int .i64 lv, .int .i64 fr, .slice (some ⟨w1.heap.size + 2, 0, none⟩) L.length L.length, .string cd, .int .i64 p, .int .i64 f, .int .i64 g] (0, 0) _ rfl (by exact ((Hd.fol H9 : Hd w0 _ _).k w.heap.size).heap) Tryz.underlying33 rfl (by kernel_rfl)) rfl ⟨_, rfl, ?_⟩
  have HA : Hd w0 (SlcC 58 2 (w1.heap.size + 2) L.length L.length (flat L) :: cel t 104 #[.int .i64 m.words, vu, vr, vn] :: SlE 3 vu m.units :: SlE 127 vr rows :: SlE 196 vn m.names :: ro S :: R) w4 := H9.re
  exact (TkP.shut (x := ⟨vu, vr, vn, rows⟩) (HA.slc_mk).d5 hx.out).b2
end
end Go.Proofs.YtogcikilphakmaaGreatDoor

/-
  tasks.Table: Steps; Get where there is none; Need. Every table, every number.
-/
namespace Go.Proofs.YtogcikilphakmaaGreatDoor
open Go.RowKit Spl

section
variable {w0 w : World} {R : List Pr} {t : Nat} {m : TkM} {S : Hp}

set_option maxRecDepth 20000 in
set_option maxHeartbeats 4000000 in
theorem tkSteps (H : Hd w0 (TkP t m S :: ro S :: R) w) (hm : m.Ok) {i : Nat} {r : RowM} (hr : m.rows[i]? = some r) :
    Calls Tryz.prog 68 #[.pointer (some ⟨t, 0, none⟩), .int .i64 i] w fun e w' => ∃ v, e = .returned (.tuple #[v, .bool true]) ∧ Hd w0 (SlE 39 v r.steps :: TkP t m S :: ro S :: R) w' := by
  obtain ⟨⟨vu, vr, vn, rows⟩, hx, H1⟩ := TkP.opened H
  dsimp only at hx H1
  obtain ⟨v, hv, hrv⟩ := hx.get hr
  have hnd := (hm.st r (List.mem_of_getElem? hr))
  have hat := stkAt_row (o := 2) ((H1.v vr).k t) rfl (by rw [hx.len]; have := hm.n; omega) i v hv
  have hrn := hrv.steps
  obtain ⟨nm, lv, fr, na, nl, nc, cd, p, f, g, sa, sl, sc⟩ := v
  dsimp only at hat hrn
  have hnn := Lib.hid (fun (w1 : World) (h : Hd w0 (ro S :: R) w1) => h.ro_news hrn)
  have hnl : sl = r.steps.length := (Ros.form hrn)
  obtain ⟨i0, hi, hz0, hz1, hz2⟩ := info_parts cdInfoOp
  obtain ⟨L, hL⟩ : ∃ L, r.steps = L := ⟨_, rfl⟩
  rw [hL] at hnn hnl hnd ⊢
  subst hnl
  have hfl := Lib.hid (flat_len L)
  replace hx := Lib.hid hx
  clear H H1 hm hr hv hrn hL hrv
  go_enter Tryz.func68, Tryz.ntmps68
  go_wp2_with fail
  refine hat.mono ?_
  rintro e w1 ⟨rfl, H3⟩
  clear hat
  have H4 : Hd w0 _ (w1.alloc (.cells #[.string nm, .int .i64 lv, .int .i64 fr, .slice na nl nc, .string cd, .int .i64 p, .int .i64 f, .int .i64 g, .slice sa L.length sc] 127)) := H3.fol
  have c3 := (show _ = some (.slice sa L.length sc) from (H4.k w1.heap.size).ce 8 rfl)
  go_wp2_with fail
  refine wp_region_mix 7 [(0, true), (1, true), (2, true), (4, true), (5, true), (3, false), (6, false)] (fun w' => w'.cell? ⟨w1.heap.size, 8, none⟩ = some (.slice sa L.length sc)) (by kernel_rfl) (by kernel_rfl) (c3) (fun _ _ d _ _ h => by cases d <;> exact h) ?_
  simp only [List.drop_succ_cons, List.drop_zero]
  iterate 5 (refine mix_head (o := _) (v := ?_) (by (simp only [List.getElem?_toArray, List.getElem?_cons_succ, List.getElem?_cons_zero]); rfl) (by rfl) (fun w' hS => ?_) ?_; rotate_left 1; (focus ((try dsimp only at hS); (try go_split_ands); go_simp; (try with_reducible rfl))); (try simp only [Act.put, List.setIfInBounds_toArray, List.set_cons_zero, List.set_cons_succ]))
  refine mix_mid (o := _) (by (simp only [List.getElem?_toArray, List.getElem?_cons_succ, List.getElem?_cons_zero]); rfl) ?_
  go_wp2_with (at_make; (refine wpList_make_slc rfl _ _ 125 rfl 39 i0 _ 4 Tryz.underlying125 hi hz0 hz1 rfl _ _ _ _ 0 L.length rfl rfl rfl rfl (by omega) (by rw [hz2]; omega) (by unfold maxLen; omega) (Hd.drew H4) ?_); intro w2 H5; simp only [madeCells_zero, drew_sz, World.size_alloc] at H5)
  refine mixQ_in ((show _ = some (.slice sa L.length sc) from (H5.k w1.heap.size).ce 8 rfl)) ?_
  refine mix_mid (o := _) (by (simp only [List.getElem?_toArray, List.getElem?_cons_succ, List.getElem?_cons_zero]); rfl) ?_
  have hn1 := Lib.hid (hnn.out _ H5.re)
  go_wp2_with (at_builtin; (refine wpList_append_fits_any_slc rfl _ _ 125 rfl 39 i0 4 Tryz.underlying125 hi hz1 _ 0 L.length [] rfl H5 sa L.length _ (flat L) rfl hfl.out hn1.out.2.1 hn1.out.2.2 (flat_oneCell L) (by omega) ?_); intro w3 H6; rw [Nat.zero_add, List.nil_append] at H6)
  have d3 := (show _ = some (.slice sa L.length sc) from (H6.k w1.heap.size).ce 8 rfl)
  refine mixQ_in d3 ?_
  refine mix_end ?_
  (try dsimp only)
  go_wp2_with fail
  go_ret2
  refine ⟨_, rfl, ?_⟩
  have HA : Hd w0 (SlcC 39 4 (w1.heap.size + 1) L.length L.length (flat L) :: cel t 104 #[.int .i64 m.words, vu, vr, vn] :: SlE 3 vu m.units :: SlE 127 vr rows :: SlE 196 vn m.names :: ro S :: R) w3 := H6.re
  exact (TkP.shut (x := ⟨vu, vr, vn, rows⟩) (HA.slc_mk).d5 hx.out).b2

set_option maxRecDepth 20000 in
set_option maxHeartbeats 4000000 in
theorem tkStepsNo (H : Hd w0 (TkP t m S :: R) w) {i : Int} (hr : i < 0 ∨ m.rows.length ≤ i) :
    Calls Tryz.prog 68 #[.pointer (some ⟨t, 0, none⟩), .int .i64 i] w fun e w' => e = .returned (.tuple #[.slice none 0 0, .bool false]) ∧ Hd w0 (TkP t m S :: R) w' := by
  obtain ⟨⟨vu, vr, vn, rows⟩, hx, H1⟩ := TkP.opened H
  dsimp only at hx H1
  have hat := stkAtNo_row (o := 2) ((H1.v vr).k t) rfl i (by rw [hx.len]; exact hr)
  replace hx := Lib.hid hx
  clear H H1 hr
  go_enter Tryz.func68, Tryz.ntmps68
  go_wp2_with fail
  refine hat.mono ?_
  rintro e w1 ⟨rfl, H3⟩
  clear hat
  have HA : Hd w0 _ (w1.alloc (.cells #[.string ⟨#[]⟩, .int .i64 0, .int .i64 0, .slice none 0 0, .string ⟨#[]⟩, .int .i64 0, .int .i64 0, .int .i64 0, .slice none 0 0] 127)) := H3.fol
  go_wp2_with fail
  go_ret2
  exact ⟨rfl, TkP.shut (x := ⟨vu, vr, vn, rows⟩) (by exact HA.re) hx.out⟩

def needOf (l : List NeedM) (res : Int) : Int := match l.find? (fun x => x.res == res) with
  | some x => x.units
  | none => 0
theorem needOf_nil {res : Int} : needOf [] res = 0 := rfl
theorem needOf_cons {x : NeedM} {l : List NeedM} {res : Int} : needOf (x :: l) res = if x.res = res then x.units else needOf l res := by
  unfold needOf
  rw [List.find?_cons]
  by_cases h : x.res = res
  · have hb : (x.res == res) = true := by simp [h]
    rw [hb, if_pos h]
  · have hb : (x.res == res) = false := by simp [h]
    rw [hb, if_neg h]

set_option maxRecDepth 20000 in
set_option maxHeartbeats 4000000 in
theorem tkNeed (H : Hd w0 (TkP t m S :: ro S :: R) w) (hm : m.Ok) {i : Nat} {r : RowM} (hr : m.rows[i]? = some r) (res : Int) :
    Calls Tryz.prog 157 #[.pointer (some ⟨t, 0, none⟩), .int .i64 i, .int .i64 res] w fun e w' => e = .returned (.int .i64 (needOf r.t.needs res)) ∧ Hd w0 (TkP t m S :: ro S :: R) w' := by
  obtain ⟨⟨vu, vr, vn, rows⟩, hx, H1⟩ := TkP.opened H
  dsimp only at hx H1
  obtain ⟨v, hv, hrv⟩ := hx.get hr
  have hnd := (hm.nd r (List.mem_of_getElem? hr)).1
  have hat := stkAt_row (o := 2) ((H1.v vr).k t) rfl (by rw [hx.len]; have := hm.n; omega) i v hv
  have hrn := hrv.needs
  obtain ⟨nm, lv, fr, na, nl, nc, cd, p, f, g, sa, sl, sc⟩ := v
  dsimp only at hat hrn
  
  have hsrd := Srd.ro (w0 := w0) (R := R) hrn
  have hnl : nl = r.t.needs.length := (Ros.form hrn)
  obtain ⟨L, hL⟩ : ∃ L, r.t.needs = L := ⟨_, rfl⟩
  rw [hL] at hsrd hnl hnd ⊢
  subst hnl
  replace hx := Lib.hid hx
  replace hsrd := Lib.hid hsrd
  clear H H1 hm hr hv hrn hL hrv
  go_enter Tryz.func157, Tryz.ntmps157
  go_wp2_with fail
  refine hat.mono ?_
  rintro e w1 ⟨rfl, H3⟩
  clear hat
  have HA : Hd w0 _ (w1.alloc (.cells #[.string nm, .int .i64 lv, .int .i64 fr, .slice na L.length nc, .string cd, .int .i64 p, .int .i64 f, .int .i64 g, .slice sa sl sc] 127)) := H3.fol
  go_wp2_with fail
  go_loopw [23] (fun x wr => ∃ k : Nat, k ≤ L.length ∧ x = .int .i64 k ∧ needOf L res = needOf (L.drop k) res ∧ Hd w0 (cel t 104 #[.int .i64 m.words, vu, vr, vn] :: SlE 3 vu m.units :: SlE 127 vr rows :: SlE 196 vn m.names :: ro S :: R) wr) (fun x _ => L.length - (intOf x).toNat)
  case atStart => exact ⟨0, Nat.zero_le _, rfl, rfl, by exact HA.re⟩
  case round =>
    clear HA H3
    obtain ⟨k, hk, rfl, hN, H1⟩ := hrel
    by_cases hlt : k < L.length
    · obtain ⟨x, hxk⟩ : ∃ x, L[k]? = some x := ⟨L[k], List.getElem?_eq_getElem hlt⟩
      rw [drop_at hxk, needOf_cons] at hN
      obtain ⟨g2, c2, hv2, -, hcell⟩ := hsrd.out.at hxk
      injection hv2 with q1 q2 q3
      subst q1; subst q3
      have f0 := hcell H1.re 0 _ rfl
      have f1 := hcell H1.re 1 _ rfl
      simp only [Enc.size, Nat.add_zero] at f0 f1
      have n1 : ¬ (k : Int) < 0 := by omega
      have n2 : (k : Int) < L.length := by omega
      have n3 : ¬ L.length ≤ k := by omega
      have g5 : IntKind.i64.wrap ((k : Int) + 1) = (k : Int) + 1 := IntWalk.i64_in _ (by omega)
      obtain ⟨xr, xu⟩ := x
      dsimp only at hN f0 f1
      have HA : Hd w0 _ (wr.alloc (.cells #[.int .i64 xr, .int .i64 xu] 58)) := H1.fol
      clear hcell q2 H1 hxk
      by_cases he : xr = res
      · rw [if_pos he] at hN
        subst he
        replace hN := Lib.hid hN
        go_wp2_with fail
        go_ret
        exact ⟨ret_int hN.out, TkP.shut (x := ⟨vu, vr, vn, rows⟩) (by exact Hd.fin HA) hx.out⟩
      · rw [if_neg he] at hN
        replace hN := Lib.hid hN
        go_wp2_with fail
        go_roundw
        case rel => exact ⟨k + 1, by omega, by simp, hN.out, by exact HA.re⟩
        case measure => simp [intOf]; omega
    · obtain rfl : k = L.length := by omega
      rw [List.drop_length, needOf_nil] at hN
      replace hN := Lib.hid hN
      go_wp2_with fail
      go_ret
      exact ⟨ret_int hN.out, TkP.shut (x := ⟨vu, vr, vn, rows⟩) H1 hx.out⟩
end
end Go.Proofs.YtogcikilphakmaaGreatDoor
