/-
  Merged texts of one proof: StkLock, SameW.
-/
import Derived.BigQuiet
import Derived.Deep.QuietTactic
import Derived.Deep.RegionLaw
import Derived.IntWalk
import Derived.Lib.Hide
import Derived.StillTailTactics
import Derived.Test.YtogcikilphakmaaGreatDoorG05
import Derived.Test.YtogcikilphakmaaGreatDoorRows

/-
  shelf.Stack of lock over the separation logic. Every stack, every element.
-/
namespace Go.Proofs.YtogcikilphakmaaGreatDoor
open Go.RowKit Spl

theorem stkInfo_lock : (Tryz.prog.info? 296).map (fun i => (i.zero, i.size, i.bytes)) = some (some (.agg #[.int .i64 0, .int .i64 0]), 2, 16) := by kernel_rfl
section
variable {w0 w : World} {R : List Pr} {s o T : Nat} {C : Array Value} {v : Value} {l : List LockM}

/-- Len -/
theorem stkLen_lock (H : Hd w0 (cel s T C :: SlE 296 v l :: R) w) (hC : C[o]? = some v) :
    Calls Tryz.prog 185 #[.pointer (some ⟨s, o, none⟩)] w fun e w' => e = .returned (.int .i64 l.length) ∧ w = w' := by
  have c0 : w.cell? ⟨s, o, none⟩ = some v := (H.rd o).trans hC
  obtain ⟨a, cap, rfl, _, _, _, _⟩ := H.b2.slc_form
  clear H hC
  go_enter Tryz.func185, Tryz.ntmps185
  go_wp2
  go_ret
  exact ⟨rfl, rfl⟩

set_option maxHeartbeats 1600000 in
/-- Push -/
theorem stkPush_lock (H : Hd w0 (cel s T C :: SlE 296 v l :: R) w) (hC : C[o]? = some v) (hn : l.length ≤ 100000) (x : LockM) :
    Calls Tryz.prog 177 #[.pointer (some ⟨s, o, none⟩), .agg #[.int .i64 x.res, .int .i64 x.units]] w fun e w' =>
      e = .returned (.tuple #[]) ∧ ∃ v', Hd w0 (cel s T (C.setIfInBounds o v') :: SlE 296 v' (l ++ [x]) :: R) w' := by
  obtain ⟨i0, hi, hz0, hz1, hz2⟩ := info_parts stkInfo_lock
  obtain ⟨a, cap, rfl, _, _, _, _⟩ := H.b2.slc_form
  have HB := H.alloc (.cells #[.int .i64 x.res, .int .i64 x.units] 296)
  have c0 := HB.b2.rd o
  rw [hC] at c0
  have HP0 : Hd w0 _ (((w.alloc (.cells #[.int .i64 x.res, .int .i64 x.units] 296)).alloc (.cells #[.int .i64 x.res, .int .i64 x.units] 296)).drew) := H.fol
  have HP := HP0.b4
  have g0 := HP.b4.rd o
  have k0 := HP.b4.fr o
  rw [hC] at g0
  have hnews := cel_news HP.b2
  have hS : ∀ {v' : Value} {L : List Pr} {w : World}, Hd w0 (Slc 296 2 v' (l.length + 1) (flat l ++ [.int .i64 x.res, .int .i64 x.units]) :: L) w → Hd w0 (SlE 296 v' (l ++ [x]) :: L) w := by
    intro v' L w h
    have e1 : (l ++ [x]).length = l.length + 1 := by simp
    have e2 : flat (l ++ [x]) = flat l ++ [.int .i64 x.res, .int .i64 x.units] := by rw [flat_append, flat_one]; rfl
    unfold SlE
    rw [e1, e2]
    exact h
  clear H
  go_enter Tryz.func177, Tryz.ntmps177
  go_wp2_with fail
  go_region_law (first | ((refine step_append_slc rfl _ _ 234 rfl 296 i0 _ 2 16 Tryz.underlying234 hi hz0 hz1 hz2 rfl _ _ _ rfl HP ⟨_, 0, none⟩ 1 1 _ rfl rfl hnews (Enc.one x) (by unfold maxLen; omega) (by omega) ?_); intro v' w2 H4; obtain ⟨a', cap', rfl, _, _, _, _⟩ := H4.slc_form; have d1 := H4.b4.rd o; have f6 := H4.b4.fr o; rw [hC] at d1))
  all_goals
    have HF := hS ((H4.b4.set o (.slice a' (l.length + 1) cap')).b2)
    go_wp2_with fail
    go_end0
    exact ⟨rfl, .slice a' (l.length + 1) cap', HF.re⟩

/-- At, where there is an element -/
theorem stkAt_lock (H : Hd w0 (cel s T C :: SlE 296 v l :: R) w) (hC : C[o]? = some v) (hn : l.length ≤ 100000) (i : Nat) (x : LockM) (hx : l[i]? = some x) :
    Calls Tryz.prog 191 #[.pointer (some ⟨s, o, none⟩), .int .i64 i] w fun e w' => e = .returned (.tuple #[.agg #[.int .i64 x.res, .int .i64 x.units], .bool true]) ∧ Hd w0 (cel s T C :: SlE 296 v l :: R) w' := by
  have HA : Hd w0 _ (w.alloc (.cells #[.int .i64 0, .int .i64 0] 296)) := H.fol
  have hi := lt_of_get? hx
  obtain ⟨g, cap, rfl, H2⟩ := HA.b3.slc_at (by omega)
  have c0 := HA.b2.rd o
  rw [hC] at c0
  have c1 : (w.alloc (.cells #[.int .i64 0, .int .i64 0] 296)).cell? ⟨g, i * 2, none⟩ = some (.int .i64 x.res) := H2.slcC_rd (flat_at hx (j := 0) (u := .int .i64 x.res) rfl)
  have c2 : (w.alloc (.cells #[.int .i64 0, .int .i64 0] 296)).cell? ⟨g, i * 2 + 1, none⟩ = some (.int .i64 x.units) := H2.slcC_rd (flat_at hx (j := 1) (u := .int .i64 x.units) rfl)
  have HB := (H.alloc (.cells #[.int .i64 x.res, .int .i64 x.units] 296)).tail
  clear H2 hx hC H HA
  go_enter Tryz.func191, Tryz.ntmps191
  go_wp2
  (try simp only [Exit.inBlock, Exit.then])
  refine bodyPost_ret (v := .tuple #[.agg #[.int .i64 x.res, .int .i64 x.units], .bool true]) (by simp [results, Tryz.results191, go_sem]) rfl ⟨rfl, HB⟩
/-- .. where there is none -/
theorem stkAtNo_lock (H : Hd w0 (cel s T C :: SlE 296 v l :: R) w) (hC : C[o]? = some v) (i : Int) (h : i < 0 ∨ l.length ≤ i) :
    Calls Tryz.prog 191 #[.pointer (some ⟨s, o, none⟩), .int .i64 i] w fun e w' => e = .returned (.tuple #[.agg #[.int .i64 0, .int .i64 0], .bool false]) ∧ Hd w0 (cel s T C :: SlE 296 v l :: R) w' := by
  have HA := ((H.alloc (.cells #[.int .i64 0, .int .i64 0] 296)).alloc (.cells #[.int .i64 0, .int .i64 0] 296)).tail.tail
  have c0 := (H.alloc (.cells #[.int .i64 0, .int .i64 0] 296)).b2.rd o
  rw [hC] at c0
  obtain ⟨a, cap, rfl, _, _, _, _⟩ := H.b2.slc_form
  clear H hC
  rcases h with h | h
  · go_enter Tryz.func191, Tryz.ntmps191
    go_wp2
    (try simp only [Exit.inBlock, Exit.then])
    refine bodyPost_ret (v := .tuple #[.agg #[.int .i64 0, .int .i64 0], .bool false]) (by simp [results, Tryz.results191, go_sem]) rfl ⟨rfl, HA⟩
  · have h0 : ¬ i < 0 := by omega
    go_enter Tryz.func191, Tryz.ntmps191
    go_wp2
    (try simp only [Exit.inBlock, Exit.then])
    refine bodyPost_ret (v := .tuple #[.agg #[.int .i64 0, .int .i64 0], .bool false]) (by simp [results, Tryz.results191, go_sem]) rfl ⟨rfl, HA⟩
end
end Go.Proofs.YtogcikilphakmaaGreatDoor

/-
  keelbook.Same of two lists of waiting jobs. Every argument.
-/
namespace Go.Proofs.YtogcikilphakmaaGreatDoor
open Go.RowKit Spl

/-- The slice value v reads, in the world w, as the list l. -/
def RdL {α : Type} [Enc α] (w : World) (v : Value) (l : List α) : Prop := ∃ A cap, v = .slice A l.length cap ∧ l.length ≤ 1000000 ∧ (∀ k x, l[k]? = some x → ∃ b o, A = some ⟨b, o, none⟩ ∧ ∀ j u, (Enc.cells x)[j]? = some u → w.cell? ⟨b, o + k * Enc.size α + j, none⟩ = some u)
theorem RdL.of_slE {α : Type} [Enc α] {w0 w : World} {R : List Pr} {e : TypeId} {v : Value} {l : List α} (H : Hd w0 (SlE e v l :: R) w) (hn : l.length ≤ 1000000) : RdL w v l := by
  obtain ⟨A, cap, rfl, -, -, -, -⟩ := H.slc_form
  refine ⟨A, cap, rfl, hn, fun k x hx => ?_⟩
  have hk := lt_of_get? hx
  obtain ⟨g, c, he, H2⟩ := H.slc_at (by omega)
  injection he with e1 e2 e3
  refine ⟨g, 0, e1, fun j u hj => ?_⟩
  have h := H2.slcC_rd (flat_at hx hj)
  rw [Nat.zero_add]
  exact h
set_option maxHeartbeats 1600000 in
theorem sameWait {w : World} {a b : Value} {xs ys : List WaitM} (ha : RdL w a xs) (hb : RdL w b ys) :
    Calls Tryz.prog 13 #[a, b] w fun e w' => e = .returned (.bool (decide (xs = ys))) ∧ ∃ n, w' = w.drewN n := by
  obtain ⟨A, ca, rfl, hA, hA2⟩ := ha
  obtain ⟨B, cb, rfl, hB, hB2⟩ := hb
  by_cases hl : xs.length = ys.length
  · have hne : ((xs.length : Int) != ys.length) = false := by simp [hl]
    have hl' := Lib.hid hl
    have hyl : ys.length ≤ xs.length := by omega
    clear hl
    go_enter Tryz.func13, Tryz.ntmps13
    go_wp2
    go_loopw [5] (fun i wr => ∃ k n : Nat, k ≤ xs.length ∧ i = .int .i64 k ∧ xs.take k = ys.take k ∧ wr = w.drewN n) (fun i _ => xs.length - (intOf i).toNat)
    case atStart => exact ⟨0, 0, Nat.zero_le _, rfl, by simp, rfl⟩
    case round =>
      obtain ⟨k, n, hk, rfl, ht, rfl⟩ := hrel
      have hT := Lib.hid ht
      clear ht
      by_cases hlt : k < xs.length
      · have hky : k < ys.length := by have := hl'.out; omega
        obtain ⟨⟨xj, xt, xl⟩, hx⟩ : ∃ x, xs[k]? = some x := ⟨xs[k], List.getElem?_eq_getElem hlt⟩
        obtain ⟨⟨yj, yt, yl⟩, hy⟩ : ∃ y, ys[k]? = some y := ⟨ys[k], List.getElem?_eq_getElem hky⟩
        obtain ⟨b1, o1, rfl, c1⟩ := hA2 _ _ hx
        obtain ⟨b2, o2, rfl, c2⟩ := hB2 _ _ hy
        have d0 := c1 0 _ rfl
        have d1 := c1 1 _ rfl
        have d2 := c1 2 _ rfl
        have g0 := c2 0 _ rfl
        have g1 := c2 1 _ rfl
        have g2 := c2 2 _ rfl
        simp only [Enc.size, Nat.add_zero] at d0 d1 d2 g0 g1 g2
        have hX := Lib.hid hx
        have hY := Lib.hid hy
        clear hx hy c1 c2 hA2 hB2
        by_cases he : (⟨xj, xt, xl⟩ : WaitM) = ⟨yj, yt, yl⟩
        · injection he with e1 e2 e3
          subst e1 e2 e3
          go_wp2_with (go_quiet (fail))
          go_roundw
          case rel =>
            refine ⟨k + 1, _, by omega, by go_num, ?_, by first | rfl | (rw [World.drewN_drewN])⟩
            rw [List.take_add_one, List.take_add_one, hT.out, hX.out, hY.out]
          case measure => simp [intOf]; omega
        · have hfin : decide (xs = ys) = false := by
            apply decide_eq_false
            intro e
            have h1 := hX.out
            rw [e, hY.out] at h1
            injection h1 with h1
            exact he h1.symm
          by_cases h1 : xj = yj
          · subst h1
            by_cases h2 : xt = yt
            · subst h2
              have h3 : ¬ xl = yl := fun h => he (by rw [h])
              have hb3 : (xl == yl) = false := by simpa using h3
              go_wp2_with (go_quiet (fail))
              go_ret
              exact ⟨by first | rfl | (rw [hfin]; rfl), _, by first | rfl | (rw [World.drewN_drewN])⟩
            · have hb3 : (xt == yt) = false := by simpa using h2
              go_wp2_with (go_quiet (fail))
              go_ret
              exact ⟨by first | rfl | (rw [hfin]; rfl), _, by first | rfl | (rw [World.drewN_drewN])⟩
          · have hb3 : (xj == yj) = false := by simpa using h1
            go_wp2_with (go_quiet (fail))
            go_ret
            exact ⟨by first | rfl | (rw [hfin]; rfl), _, by first | rfl | (rw [World.drewN_drewN])⟩
      · obtain rfl : k = xs.length := by omega
        have hfin : decide (xs = ys) = true := by
          apply decide_eq_true
          have := hT.out
          rw [List.take_of_length_le (Nat.le_refl _), hl'.out, List.take_of_length_le (Nat.le_refl _)] at this
          exact this
        go_wp2
        go_ret
        exact ⟨by first | rfl | (rw [hfin]; rfl), _, rfl⟩
  · have hne : ((xs.length : Int) != ys.length) = true := by simpa using by omega
    have hfin : decide (xs = ys) = false := decide_eq_false (fun e => hl (by rw [e]))
    clear hl
    go_enter Tryz.func13, Tryz.ntmps13
    go_wp2
    go_ret
    exact ⟨by first | rfl | (rw [hfin]; rfl), 0, rfl⟩
end Go.Proofs.YtogcikilphakmaaGreatDoor
