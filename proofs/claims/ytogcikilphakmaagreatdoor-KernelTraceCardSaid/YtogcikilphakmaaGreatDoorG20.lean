/-
  Merged texts of one proof: Code7.
-/
import Derived.Test.YtogcikilphakmaaGreatDoorG19

/-
  Package code: the reader's word. Every text, every place.
-/
namespace Go.Proofs.YtogcikilphakmaaGreatDoor
open Go.RowKit Spl

def bl (c : UInt8) : Bool := blankB (c.toNat : Int)
/-- The first place from i on whose byte does not meet p. -/
def skipTo (p : UInt8 → Bool) (s : ByteArray) (i : Nat) : Nat := if h : i < s.size then (if p s[i] then skipTo p s (i + 1) else i) else i
termination_by s.size - i
theorem skipTo_yes {p : UInt8 → Bool} {s : ByteArray} {i : Nat} (h : i < s.size) (hp : p s[i] = true) : skipTo p s i = skipTo p s (i + 1) := by
  rw [skipTo, dif_pos h, if_pos hp]
theorem skipTo_no {p : UInt8 → Bool} {s : ByteArray} {i : Nat} (h : i < s.size) (hp : p s[i] = false) : skipTo p s i = i := by
  rw [skipTo, dif_pos h, hp]; rfl
theorem skipTo_end {p : UInt8 → Bool} {s : ByteArray} {i : Nat} (h : ¬ i < s.size) : skipTo p s i = i := by
  rw [skipTo, dif_neg h]
theorem skipTo_le {p : UInt8 → Bool} {s : ByteArray} : ∀ (n i : Nat), s.size - i = n → i ≤ s.size → i ≤ skipTo p s i ∧ skipTo p s i ≤ s.size := by
  intro n
  induction n with
  | zero => intro i hn hi; rw [skipTo_end (by omega)]; omega
  | succ n ih =>
    intro i hn hi
    have h : i < s.size := by omega
    cases hp : p s[i] with
    | true =>
      rw [skipTo_yes h hp]
      have := ih (i + 1) (by omega) (by omega)
      omega
    | false => rw [skipTo_no h hp]; omega
def wFrom (s : ByteArray) (i : Nat) : Nat := skipTo bl s i
def wEnd (s : ByteArray) (i : Nat) : Nat := skipTo (fun c => !bl c) s (wFrom s i)
def wordAt (s : ByteArray) (i : Nat) : ByteArray := s.extract (wFrom s i) (wEnd s i)
theorem word_le {s : ByteArray} {i : Nat} (h : i ≤ s.size) : i ≤ wFrom s i ∧ wFrom s i ≤ wEnd s i ∧ wEnd s i ≤ s.size := by
  have h1 := skipTo_le (p := bl) (s := s) _ i rfl h
  have h2 := skipTo_le (p := fun c => !bl c) (s := s) _ _ rfl h1.2
  exact ⟨h1.1, h2.1, h2.2⟩
def intCell (w : World) (a : Addr) : Nat := match w.cell? a with
  | some (.int _ n) => n.toNat
  | _ => 0
theorem ret_si {a b : ByteArray} {c d : Int} (h : b = a) (h2 : d = c) : Ending.returned (.tuple #[.string a, .int .i64 c]) = Ending.returned (.tuple #[.string b, .int .i64 d]) := by rw [h, h2]
theorem intCell_of {w : World} {a : Addr} {n : Int} (h : w.cell? a = some (.int .i64 n)) : intCell w a = n.toNat := by unfold intCell; rw [h]
section
variable {w0 w : World} {R : List Pr} {b : Nat}

set_option maxRecDepth 20000 in
set_option maxHeartbeats 1600000 in
theorem cdWord {s : ByteArray} {at0 : Nat} {ov op : Value} (H : Hd w0 (cel b 246 #[.string s, .int .i64 at0, ov, op] :: R) w) (ha : at0 ≤ s.size) (hs : s.size ≤ 100000) :
    Calls Tryz.prog 113 #[.pointer (some ⟨b, 0, none⟩)] w fun e w' => e = .returned (.tuple #[.string (wordAt s at0), .int .i64 (wFrom s at0)]) ∧ Hd w0 (cel b 246 #[.string s, .int .i64 (wEnd s at0), ov, op] :: R) w' := by
  obtain ⟨h1, h2, h3⟩ := word_le ha
  go_enter Tryz.func113, Tryz.ntmps113
  go_wp2_with fail
  go_step3
  go_wp2_with fail
  go_step3
  go_wp2_with fail
  go_loopw [8] (fun _ wr => ∃ i : Nat, i ≤ s.size ∧ wFrom s at0 = skipTo bl s i ∧ Hd w0 (cel b 246 #[.string s, .int .i64 i, ov, op] :: R) wr) (fun _ wr => s.size - intCell wr ⟨b, 1, none⟩)
  case atStart => exact ⟨at0, ha, rfl, H⟩
  case round =>
    obtain ⟨i, hi, hw, H1⟩ := hrel
    have hf := H1.facts
    simp only [Nat.reduceAdd] at hf
    go_split_ands
    have g5 : IntKind.i64.wrap ((i : Int) + 1) = (i : Int) + 1 := IntWalk.i64_in _ (by omega)
    by_cases hlt : i < s.size
    · have n1 : (i : Int) < s.size := by omega
      have n0 : (0 : Int) ≤ i := by omega
      obtain ⟨c, hc⟩ : ∃ c, s[i] = c := ⟨_, rfl⟩
      have hc2 : s.data[i] = c := hc
      have c0 := (H1.k b).ce 0 rfl
      have c1 := (H1.k b).ce 1 rfl
      have hm := Lib.hid (intCell_of c1)
      cases hb : blankB (c.toNat : Int) with
      | true =>
        have hw2 := Lib.hid (hw.trans (skipTo_yes hlt (by rw [hc]; exact hb)))
        clear hw H
        go_wp2_with fail
        go_quiet (fail)
        go_wp2_with fail
        refine wp_region_mix0 [(0, true), (1, true), (2, true), (3, true), (4, true), (5, true), (6, true), (7, true), (8, true), (9, false), (10, true)] (fun w' => w'.cell? ⟨b, 1, none⟩ = some (.int .i64 i) ∧ w'.cell? ⟨b, 0, none⟩ = some (.string s)) (by kernel_rfl) (by kernel_rfl) (⟨c1, c0⟩) (fun _ _ d _ _ h => by cases d <;> exact h) ?_
        iterate 9 (refine mix_head (o := _) (v := ?_) (by (simp only [List.getElem?_toArray, List.getElem?_cons_succ, List.getElem?_cons_zero]); rfl) (by rfl) (fun w' hS => ?_) ?_; rotate_left 1; (focus ((try dsimp only at hS); (try go_split_ands); go_simp; (try with_reducible rfl))); (try simp only [Act.put, List.setIfInBounds_toArray, List.set_cons_zero, List.set_cons_succ]))
        refine mix_mid (o := _) (by (simp only [List.getElem?_toArray, List.getElem?_cons_succ, List.getElem?_cons_zero]); rfl) ?_
        go_wp2_with fail
        refine (cdBlank (c.toNat : Int)).mono ?_
        rintro e w' ⟨rfl, rfl⟩
        go_wp2_with fail
        refine mixQ_in ⟨c1, c0⟩ ?_
        iterate 1 (refine mix_head (o := _) (v := ?_) (by (simp only [List.getElem?_toArray, List.getElem?_cons_succ, List.getElem?_cons_zero]); rfl) (by rfl) (fun w' hS => ?_) ?_; rotate_left 1; (focus ((try dsimp only at hS); (try go_split_ands); go_simp; (try with_reducible rfl))); (try simp only [Act.put, List.setIfInBounds_toArray, List.set_cons_zero, List.set_cons_succ]))
        refine mix_end ?_
        (try dsimp only)
        go_wp2_with fail
        go_roundw
        case rel => exact ⟨i + 1, by omega, hw2.out, by show Hd w0 (cel b 246 #[.string s, .int .i64 ((i : Int) + 1), ov, op] :: R) _; exact Hd.fin H1⟩
        case measure => rw [intCell_of (by exact ((Hd.fol H1 : Hd w0 _ _).k b).ce 1 rfl), hm.out]; omega
      | false =>
        have hw2 : wFrom s at0 = i := hw.trans (skipTo_no hlt (by rw [hc]; exact hb))
        clear hw H
        go_wp2_with fail
        go_quiet (fail)
        go_wp2_with fail
        refine wp_region_mix0 [(0, true), (1, true), (2, true), (3, true), (4, true), (5, true), (6, true), (7, true), (8, true), (9, false), (10, true)] (fun w' => w'.cell? ⟨b, 1, none⟩ = some (.int .i64 i) ∧ w'.cell? ⟨b, 0, none⟩ = some (.string s)) (by kernel_rfl) (by kernel_rfl) (⟨c1, c0⟩) (fun _ _ d _ _ h => by cases d <;> exact h) ?_
        iterate 9 (refine mix_head (o := _) (v := ?_) (by (simp only [List.getElem?_toArray, List.getElem?_cons_succ, List.getElem?_cons_zero]); rfl) (by rfl) (fun w' hS => ?_) ?_; rotate_left 1; (focus ((try dsimp only at hS); (try go_split_ands); go_simp; (try with_reducible rfl))); (try simp only [Act.put, List.setIfInBounds_toArray, List.set_cons_zero, List.set_cons_succ]))
        refine mix_mid (o := _) (by (simp only [List.getElem?_toArray, List.getElem?_cons_succ, List.getElem?_cons_zero]); rfl) ?_
        go_wp2_with fail
        refine (cdBlank (c.toNat : Int)).mono ?_
        rintro e w' ⟨rfl, rfl⟩
        go_wp2_with fail
        refine mixQ_in ⟨c1, c0⟩ ?_
        iterate 1 (refine mix_head (o := _) (v := ?_) (by (simp only [List.getElem?_toArray, List.getElem?_cons_succ, List.getElem?_cons_zero]); rfl) (by rfl) (fun w' hS => ?_) ?_; rotate_left 1; (focus ((try dsimp only at hS); (try go_split_ands); go_simp; (try with_reducible rfl))); (try simp only [Act.put, List.setIfInBounds_toArray, List.set_cons_zero, List.set_cons_succ]))
        refine mix_end ?_
        (try dsimp only)
        go_wp2_with fail
        clear c0 c1 hm hb hc2 hc n0 n1 hlt g5
        go_loopw [40] (fun _ wv => ∃ j : Nat, i ≤ j ∧ j ≤ s.size ∧ wEnd s at0 = skipTo (fun c => !bl c) s j ∧ Hd w0 (cel b 246 #[.string s, .int .i64 j, ov, op] :: R) wv) (fun _ wv => s.size - intCell wv ⟨b, 1, none⟩)
        case atStart => exact ⟨i, Nat.le_refl _, hi, by unfold wEnd; rw [hw2], by exact Hd.fin H1⟩
        case round =>
          clear H1
          obtain ⟨j, hij, hj, hv, H1⟩ := hrel
          have hf := H1.facts
          simp only [Nat.reduceAdd] at hf
          go_split_ands
          have c0 := (H1.k b).ce 0 rfl
          have c1 := (H1.k b).ce 1 rfl
          have g5 : IntKind.i64.wrap ((j : Int) + 1) = (j : Int) + 1 := IntWalk.i64_in _ (by omega)
          have hm := Lib.hid (intCell_of c1)
          have m2 : (i : Int) ≤ j := by omega
          have m3 : (j : Int) ≤ s.size := by omega
          have m4 : (0 : Int) ≤ i := by omega
          by_cases hlt : j < s.size
          · have n1 : (j : Int) < s.size := by omega
            have n0 : (0 : Int) ≤ j := by omega
            obtain ⟨c, hc⟩ : ∃ c, s[j] = c := ⟨_, rfl⟩
            have hc2 : s.data[j] = c := hc
            cases hb : blankB (c.toNat : Int) with
            | false =>
              have hv2 := Lib.hid (hv.trans (skipTo_yes hlt (by rw [hc]; unfold bl; rw [hb]; rfl)))
              clear hv
              go_wp2_with fail
              refine wp_region_mix0 [(0, true), (1, true), (2, true), (3, true), (4, true), (5, true), (6, true), (7, true), (8, true), (9, true), (10, true), (11, true), (12, true), (13, true), (14, true), (15, true), (16, true), (17, true), (18, true), (19, true), (20, false), (21, true), (22, true)] (fun w' => w'.cell? ⟨b, 1, none⟩ = some (.int .i64 j) ∧ w'.cell? ⟨b, 0, none⟩ = some (.string s)) (by kernel_rfl) (by kernel_rfl) (⟨c1, c0⟩) (fun _ _ d _ _ h => by cases d <;> exact h) ?_
              iterate 20 (refine mix_head (o := _) (v := ?_) (by (simp only [List.getElem?_toArray, List.getElem?_cons_succ, List.getElem?_cons_zero]); rfl) (by rfl) (fun w' hS => ?_) ?_; rotate_left 1; (focus ((try dsimp only at hS); (try go_split_ands); go_simp; (try with_reducible rfl))); (try simp only [Act.put, List.setIfInBounds_toArray, List.set_cons_zero, List.set_cons_succ]))
              refine mix_mid (o := _) (by (simp only [List.getElem?_toArray, List.getElem?_cons_succ, List.getElem?_cons_zero]); rfl) ?_
              go_wp2_with fail
              refine (cdBlank (c.toNat : Int)).mono ?_
              rintro e w' ⟨rfl, rfl⟩
              go_wp2_with fail
              refine mixQ_in ⟨c1, c0⟩ ?_
              iterate 2 (refine mix_head (o := _) (v := ?_) (by (simp only [List.getElem?_toArray, List.getElem?_cons_succ, List.getElem?_cons_zero]); rfl) (by rfl) (fun w' hS => ?_) ?_; rotate_left 1; (focus ((try dsimp only at hS); (try go_split_ands); go_simp; (try with_reducible rfl))); (try simp only [Act.put, List.setIfInBounds_toArray, List.set_cons_zero, List.set_cons_succ]))
              refine mix_end ?_
              (try dsimp only)
              go_wp2_with fail
              go_roundw
              case rel => exact ⟨j + 1, by omega, by omega, hv2.out, by show Hd w0 (cel b 246 #[.string s, .int .i64 ((j : Int) + 1), ov, op] :: R) _; exact Hd.fin H1⟩
              case measure => rw [intCell_of (by exact ((Hd.fol H1 : Hd w0 _ _).k b).ce 1 rfl), hm.out]; omega
            | true =>
              have hv2 := Lib.hid (hv.trans (skipTo_no hlt (by rw [hc]; unfold bl; rw [hb]; rfl)))
              clear hv
              go_wp2_with fail
              refine wp_region_mix0 [(0, true), (1, true), (2, true), (3, true), (4, true), (5, true), (6, true), (7, true), (8, true), (9, true), (10, true), (11, true), (12, true), (13, true), (14, true), (15, true), (16, true), (17, true), (18, true), (19, true), (20, false), (21, true), (22, true)] (fun w' => w'.cell? ⟨b, 1, none⟩ = some (.int .i64 j) ∧ w'.cell? ⟨b, 0, none⟩ = some (.string s)) (by kernel_rfl) (by kernel_rfl) (⟨c1, c0⟩) (fun _ _ d _ _ h => by cases d <;> exact h) ?_
              iterate 20 (refine mix_head (o := _) (v := ?_) (by (simp only [List.getElem?_toArray, List.getElem?_cons_succ, List.getElem?_cons_zero]); rfl) (by rfl) (fun w' hS => ?_) ?_; rotate_left 1; (focus ((try dsimp only at hS); (try go_split_ands); go_simp; (try with_reducible rfl))); (try simp only [Act.put, List.setIfInBounds_toArray, List.set_cons_zero, List.set_cons_succ]))
              refine mix_mid (o := _) (by (simp only [List.getElem?_toArray, List.getElem?_cons_succ, List.getElem?_cons_zero]); rfl) ?_
              go_wp2_with fail
              refine (cdBlank (c.toNat : Int)).mono ?_
              rintro e w' ⟨rfl, rfl⟩
              go_wp2_with fail
              refine mixQ_in ⟨c1, c0⟩ ?_
              iterate 2 (refine mix_head (o := _) (v := ?_) (by (simp only [List.getElem?_toArray, List.getElem?_cons_succ, List.getElem?_cons_zero]); rfl) (by rfl) (fun w' hS => ?_) ?_; rotate_left 1; (focus ((try dsimp only at hS); (try go_split_ands); go_simp; (try with_reducible rfl))); (try simp only [Act.put, List.setIfInBounds_toArray, List.set_cons_zero, List.set_cons_succ]))
              refine mix_end ?_
              (try dsimp only)
              go_wp2_with fail
              go_quiet (fail)
              go_wp2_with fail
              (try rw [Exit.noGoto_ret])
              go_ret2
              exact ⟨ret_si (by unfold wordAt; rw [hv2.out, hw2]) (by rw [hw2]), by rw [hv2.out]; exact Hd.fin H1⟩
          · have n1 : ¬ (j : Int) < s.size := by omega
            have hv2 := Lib.hid (hv.trans (skipTo_end hlt))
            clear hv
            go_wp2_with fail
            go_quiet (fail)
            go_wp2_with fail
            go_quiet (fail)
            go_wp2_with fail
            (try rw [Exit.noGoto_ret])
            go_ret2
            exact ⟨ret_si (by unfold wordAt; rw [hv2.out, hw2]) (by rw [hw2]), by rw [hv2.out]; exact Hd.fin H1⟩
    · have n1 : ¬ (i : Int) < s.size := by omega
      have hw2 : wFrom s at0 = i := hw.trans (skipTo_end hlt)
      clear hw H
      go_wp2_with fail
      go_quiet (fail)
      go_wp2_with fail
      clear n1 hlt g5
      go_loopw [40] (fun _ wv => ∃ j : Nat, i ≤ j ∧ j ≤ s.size ∧ wEnd s at0 = skipTo (fun c => !bl c) s j ∧ Hd w0 (cel b 246 #[.string s, .int .i64 j, ov, op] :: R) wv) (fun _ wv => s.size - intCell wv ⟨b, 1, none⟩)
      case atStart => exact ⟨i, Nat.le_refl _, hi, by unfold wEnd; rw [hw2], by exact Hd.fin H1⟩
      case round =>
        clear H1
        obtain ⟨j, hij, hj, hv, H1⟩ := hrel
        have hf := H1.facts
        simp only [Nat.reduceAdd] at hf
        go_split_ands
        have c0 := (H1.k b).ce 0 rfl
        have c1 := (H1.k b).ce 1 rfl
        have g5 : IntKind.i64.wrap ((j : Int) + 1) = (j : Int) + 1 := IntWalk.i64_in _ (by omega)
        have hm := Lib.hid (intCell_of c1)
        have m2 : (i : Int) ≤ j := by omega
        have m3 : (j : Int) ≤ s.size := by omega
        have m4 : (0 : Int) ≤ i := by omega
        by_cases hlt : j < s.size
        · have n1 : (j : Int) < s.size := by omega
          have n0 : (0 : Int) ≤ j := by omega
          obtain ⟨c, hc⟩ : ∃ c, s[j] = c := ⟨_, rfl⟩
          have hc2 : s.data[j] = c := hc
          cases hb : blankB (c.toNat : Int) with
          | false =>
            have hv2 := Lib.hid (hv.trans (skipTo_yes hlt (by rw [hc]; unfold bl; rw [hb]; rfl)))
            clear hv
            go_wp2_with fail
            refine wp_region_mix0 [(0, true), (1, true), (2, true), (3, true), (4, true), (5, true), (6, true), (7, true), (8, true), (9, true), (10, true), (11, true), (12, true), (13, true), (14, true), (15, true), (16, true), (17, true), (18, true), (19, true), (20, false), (21, true), (22, true)] (fun w' => w'.cell? ⟨b, 1, none⟩ = some (.int .i64 j) ∧ w'.cell? ⟨b, 0, none⟩ = some (.string s)) (by kernel_rfl) (by kernel_rfl) (⟨c1, c0⟩) (fun _ _ d _ _ h => by cases d <;> exact h) ?_
            iterate 20 (refine mix_head (o := _) (v := ?_) (by (simp only [List.getElem?_toArray, List.getElem?_cons_succ, List.getElem?_cons_zero]); rfl) (by rfl) (fun w' hS => ?_) ?_; rotate_left 1; (focus ((try dsimp only at hS); (try go_split_ands); go_simp; (try with_reducible rfl))); (try simp only [Act.put, List.setIfInBounds_toArray, List.set_cons_zero, List.set_cons_succ]))
            refine mix_mid (o := _) (by (simp only [List.getElem?_toArray, List.getElem?_cons_succ, List.getElem?_cons_zero]); rfl) ?_
            go_wp2_with fail
            refine (cdBlank (c.toNat : Int)).mono ?_
            rintro e w' ⟨rfl, rfl⟩
            go_wp2_with fail
            refine mixQ_in ⟨c1, c0⟩ ?_
            iterate 2 (refine mix_head (o := _) (v := ?_) (by (simp only [List.getElem?_toArray, List.getElem?_cons_succ, List.getElem?_cons_zero]); rfl) (by rfl) (fun w' hS => ?_) ?_; rotate_left 1; (focus ((try dsimp only at hS); (try go_split_ands); go_simp; (try with_reducible rfl))); (try simp only [Act.put, List.setIfInBounds_toArray, List.set_cons_zero, List.set_cons_succ]))
            refine mix_end ?_
            (try dsimp only)
            go_wp2_with fail
            go_roundw
            case rel => exact ⟨j + 1, by omega, by omega, hv2.out, by show Hd w0 (cel b 246 #[.string s, .int .i64 ((j : Int) + 1), ov, op] :: R) _; exact Hd.fin H1⟩
            case measure => rw [intCell_of (by exact ((Hd.fol H1 : Hd w0 _ _).k b).ce 1 rfl), hm.out]; omega
          | true =>
            have hv2 := Lib.hid (hv.trans (skipTo_no hlt (by rw [hc]; unfold bl; rw [hb]; rfl)))
            clear hv
            go_wp2_with fail
            refine wp_region_mix0 [(0, true), (1, true), (2, true), (3, true), (4, true), (5, true), (6, true), (7, true), (8, true), (9, true), (10, true), (11, true), (12, true), (13, true), (14, true), (15, true), (16, true), (17, true), (18, true), (19, true), (20, false), (21, true), (22, true)] (fun w' => w'.cell? ⟨b, 1, none⟩ = some (.int .i64 j) ∧ w'.cell? ⟨b, 0, none⟩ = some (.string s)) (by kernel_rfl) (by kernel_rfl) (⟨c1, c0⟩) (fun _ _ d _ _ h => by cases d <;> exact h) ?_
            iterate 20 (refine mix_head (o := _) (v := ?_) (by (simp only [List.getElem?_toArray, List.getElem?_cons_succ, List.getElem?_cons_zero]); rfl) (by rfl) (fun w' hS => ?_) ?_; rotate_left 1; (focus ((try dsimp only at hS); (try go_split_ands); go_simp; (try with_reducible rfl))); (try simp only [Act.put, List.setIfInBounds_toArray, List.set_cons_zero, List.set_cons_succ]))
            refine mix_mid (o := _) (by (simp only [List.getElem?_toArray, List.getElem?_cons_succ, List.getElem?_cons_zero]); rfl) ?_
            go_wp2_with fail
            refine (cdBlank (c.toNat : Int)).mono ?_
            rintro e w' ⟨rfl, rfl⟩
            go_wp2_with fail
            refine mixQ_in ⟨c1, c0⟩ ?_
            iterate 2 (refine mix_head (o := _) (v := ?_) (by (simp only [List.getElem?_toArray, List.getElem?_cons_succ, List.getElem?_cons_zero]); rfl) (by rfl) (fun w' hS => ?_) ?_; rotate_left 1; (focus ((try dsimp only at hS); (try go_split_ands); go_simp; (try with_reducible rfl))); (try simp only [Act.put, List.setIfInBounds_toArray, List.set_cons_zero, List.set_cons_succ]))
            refine mix_end ?_
            (try dsimp only)
            go_wp2_with fail
            go_quiet (fail)
            go_wp2_with fail
            (try rw [Exit.noGoto_ret])
            go_ret2
            exact ⟨ret_si (by unfold wordAt; rw [hv2.out, hw2]) (by rw [hw2]), by rw [hv2.out]; exact Hd.fin H1⟩
        · have n1 : ¬ (j : Int) < s.size := by omega
          have hv2 := Lib.hid (hv.trans (skipTo_end hlt))
          clear hv
          go_wp2_with fail
          go_quiet (fail)
          go_wp2_with fail
          go_quiet (fail)
          go_wp2_with fail
          (try rw [Exit.noGoto_ret])
          go_ret2
          exact ⟨ret_si (by unfold wordAt; rw [hv2.out, hw2]) (by rw [hw2]), by rw [hv2.out]; exact Hd.fin H1⟩
end
end Go.Proofs.YtogcikilphakmaaGreatDoor
