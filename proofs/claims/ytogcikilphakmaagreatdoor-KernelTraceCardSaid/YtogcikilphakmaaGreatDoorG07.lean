/-
  Merged texts of one proof: Book1.
-/
import Derived.BigQuiet
import Derived.Deep.QuietTactic
import Derived.Lib.Hide
import Derived.Test.YtogcikilphakmaaGreatDoorG01
import Derived.Test.YtogcikilphakmaaGreatDoorRows

/-
  Package keelbook: Same of two lists of ints, Within. Every argument.
-/
namespace Go.Proofs.YtogcikilphakmaaGreatDoor
open Go.RowKit Spl

/-- The slice value v reads, in the world w, as the cells xs, one cell an element. -/
def Rds (w : World) (v : Value) (xs : List Value) : Prop := ∃ A cap, v = .slice A xs.length cap ∧ xs.length ≤ 140737488351232 ∧ (0 < xs.length → ∃ b o, A = some ⟨b, o, none⟩ ∧ ∀ j u, xs[j]? = some u → w.cell? ⟨b, o + j, none⟩ = some u)
def ints (l : List Int) : List Value := l.map (Value.int .i64)
theorem ints_at {l : List Int} {k : Nat} {x : Int} (h : l[k]? = some x) : (ints l)[k]? = some (.int .i64 x) := by simp [ints, h]
theorem ints_len (l : List Int) : (ints l).length = l.length := by simp [ints]
theorem Rds.drewN {w : World} {v : Value} {xs : List Value} (h : Rds w v xs) (n : Nat) : Rds (w.drewN n) v xs := h
theorem Rds.of_slc {w0 w : World} {R : List Pr} {e : TypeId} {v : Value} {n : Nat} {xs : List Value} (H : Hd w0 (Slc e 1 v n xs :: R) w) (hn : n ≤ 140737488351232) : Rds w v xs := by
  have hl := H.slc_len
  rw [Nat.mul_one] at hl
  rcases H.slc with ⟨rfl, rfl, rfl, _⟩ | ⟨g, cap, rfl, H2⟩
  · exact ⟨none, 0, rfl, by simp, fun h => by simp at h⟩
  · exact ⟨_, cap, by rw [hl], by omega, fun _ => ⟨g, 0, rfl, fun j u hj => by rw [Nat.zero_add]; exact H2.slcC_rd hj⟩⟩

set_option maxHeartbeats 400000 in
theorem sameInt {w : World} {a b : Value} {xs ys : List Int} (ha : Rds w a (ints xs)) (hb : Rds w b (ints ys)) :
    Calls Tryz.prog 16 #[a, b] w fun e w' => e = .returned (.bool (decide (xs = ys))) ∧ ∃ n, w' = w.drewN n := by
  obtain ⟨A, ca, rfl, hA, hA2⟩ := ha
  obtain ⟨B, cb, rfl, hB, hB2⟩ := hb
  rw [ints_len] at hA hA2 hB hB2
  rw [ints_len, ints_len]
  by_cases hl : xs.length = ys.length
  · have hne : ((xs.length : Int) != ys.length) = false := by simp [hl]
    have hl' := Lib.hid hl
    have hyl : ys.length ≤ xs.length := by omega
    clear hl
    go_enter Tryz.func16, Tryz.ntmps16
    go_wp2
    go_loopw [5] (fun i wr => ∃ k n : Nat, k ≤ xs.length ∧ i = .int .i64 k ∧ xs.take k = ys.take k ∧ wr = w.drewN n) (fun i _ => xs.length - (intOf i).toNat)
    case atStart => exact ⟨0, 0, Nat.zero_le _, rfl, by simp, rfl⟩
    case round =>
      obtain ⟨k, n, hk, rfl, ht, rfl⟩ := hrel
      have hT := Lib.hid ht
      clear ht
      by_cases hlt : k < xs.length
      · have hky : k < ys.length := by have := hl'.out; omega
        obtain ⟨b1, o1, rfl, c1⟩ := hA2 (by omega)
        obtain ⟨b2, o2, rfl, c2⟩ := hB2 (by omega)
        have d1 := c1 k _ (ints_at (List.getElem?_eq_getElem hlt))
        have d2 := c2 k _ (ints_at (List.getElem?_eq_getElem hky))
        generalize hx : xs[k] = x at d1
        generalize hy : ys[k] = y at d2
        have hX := Lib.hid hx
        have hY := Lib.hid hy
        clear hx hy c1 c2 hA2 hB2
        by_cases he : x = y
        · subst he
          go_wp2_with (go_quiet (fail))
          go_roundw
          case rel =>
            refine ⟨k + 1, _, by omega, by go_num, ?_, by first | rfl | (rw [World.drewN_drewN])⟩
            rw [List.take_succ_eq_append_getElem hlt, List.take_succ_eq_append_getElem hky, hT.out, hX.out, hY.out]
          case measure => simp [intOf]; omega
        · have hne2 : (x != y) = true := by simpa using he
          have hfin : decide (xs = ys) = false := by
            apply decide_eq_false
            intro e
            subst e
            exact he (hX.out.symm.trans hY.out)
          go_wp2_with (go_quiet (fail))
          go_ret
          exact ⟨by first | rfl | (rw [hfin]; rfl), _, by first | rfl | (rw [World.drewN_drewN])⟩
      · obtain rfl : k = xs.length := by omega
        have hfin : decide (xs = ys) = true := by
          apply decide_eq_true
          have := hT.out
          rw [List.take_of_length_le (Nat.le_refl _), hl'.out, List.take_of_length_le (Nat.le_refl _)] at this
          exact this
        go_wp2
        go_ret
        exact ⟨by first | rfl | (rw [hfin]; rfl), _, rfl⟩
  · have hne : ((xs.length : Int) != ys.length) = true := by simpa using by omega
    have hfin : decide (xs = ys) = false := decide_eq_false (fun e => hl (by rw [e]))
    clear hl
    go_enter Tryz.func16, Tryz.ntmps16
    go_wp2
    go_ret
    exact ⟨by first | rfl | (rw [hfin]; rfl), 0, rfl⟩

/-- A cell of the arguments' memory, in a later world. -/
theorem Rds.keep {W w : World} {v : Value} {xs : List Value} (h : Rds W v xs) (hb : Below W.heap.size W w) : Rds w v xs := by
  obtain ⟨A, cap, hv, hl, hc⟩ := h
  refine ⟨A, cap, hv, hl, fun hn => ?_⟩
  obtain ⟨b, o, hA, hcell⟩ := hc hn
  exact ⟨b, o, hA, fun j u hj => (hb.cell (p := ⟨b, o + j, none⟩) (World.block_lt_of_cell? W _ (hcell j u hj))).trans (hcell j u hj)⟩

/-- A number brought into lo .. hi. -/
def within (n lo hi : Int) : Int := lo + n % (hi - lo + 1)
theorem within_le {n lo hi : Int} (h : lo ≤ hi) : lo ≤ within n lo hi ∧ within n lo hi ≤ hi := by
  unfold within
  have h1 := Int.emod_nonneg n (b := hi - lo + 1) (by omega)
  have h2 := Int.emod_lt_of_pos n (b := hi - lo + 1) (by omega)
  omega
theorem tmod_neg_add {n d : Int} (hd : 0 < d) (h : n.tmod d < 0) : n.tmod d + d = n % d := by
  have h0 : n < 0 := by
    rcases (by omega : n < 0 ∨ 0 ≤ n) with h' | h'
    · exact h'
    · have := Int.tmod_nonneg d h'
      omega
  have h1 := Int.tmod_add_mul_tdiv n d
  have h2 := Int.emod_add_mul_ediv n d
  have h3 := Int.emod_nonneg n (b := d) (by omega)
  have h4 := Int.emod_lt_of_pos n hd
  have h5 : -d < n.tmod d := by
    have : n.tmod d = -((-n).tmod d) := by rw [Int.neg_tmod, Int.neg_neg]
    have h6 := Int.tmod_lt_of_pos (-n) hd
    omega
  have h7 : d * (n.tdiv d - n / d - 1) = n % d - n.tmod d - d := by
    rw [Int.mul_sub, Int.mul_sub, Int.mul_one]
    omega
  have h8 : n.tdiv d - n / d - 1 = 0 := by
    rcases Int.lt_trichotomy (n.tdiv d - n / d - 1) 0 with h | h | h
    · have := Int.mul_le_mul_of_nonneg_left (show n.tdiv d - n / d - 1 ≤ -1 by omega) (show 0 ≤ d by omega)
      omega
    · exact h
    · have := Int.mul_le_mul_of_nonneg_left (show 1 ≤ n.tdiv d - n / d - 1 by omega) (show 0 ≤ d by omega)
      omega
  rw [h8] at h7
  omega
theorem tmod_pos_eq {n d : Int} (hd : 0 < d) (h : 0 ≤ n.tmod d) : n.tmod d = n % d := by
  rcases (by omega : n < 0 ∨ 0 ≤ n) with h' | h'
  · have h1 := Int.tmod_add_mul_tdiv n d
    have h2 := Int.emod_add_mul_ediv n d
    have h3 := Int.emod_nonneg n (b := d) (by omega)
    have h4 := Int.emod_lt_of_pos n hd
    have h6 := Int.tmod_lt_of_pos n hd
    have h7 : d * (n.tdiv d - n / d) = n % d - n.tmod d := by rw [Int.mul_sub]; omega
    have h8 : n.tdiv d - n / d = 0 := by
      rcases Int.lt_trichotomy (n.tdiv d - n / d) 0 with h | h | h
      · have := Int.mul_le_mul_of_nonneg_left (show n.tdiv d - n / d ≤ -1 by omega) (show 0 ≤ d by omega)
        omega
      · exact h
      · have := Int.mul_le_mul_of_nonneg_left (show 1 ≤ n.tdiv d - n / d by omega) (show 0 ≤ d by omega)
        omega
    rw [h8] at h7
    omega
  · exact Int.tmod_eq_emod_of_nonneg h'

theorem within_spec {w : World} (n lo hi : Int) (h0 : 0 ≤ lo) (h1 : lo ≤ hi) (h2 : hi ≤ 1000000) :
    Calls Tryz.prog 20 #[.int .i64 n, .int .i64 lo, .int .i64 hi] w fun e w' => e = .returned (.int .i64 (within n lo hi)) ∧ w = w' := by
  have hd : 0 < hi - lo + 1 := by omega
  have hb1 := Int.tmod_lt_of_pos n hd
  have hb2 := Int.emod_nonneg n (b := hi - lo + 1) (by omega)
  have hb3 := Int.emod_lt_of_pos n hd
  have hs : IntKind.i64.wrap (hi - lo + 1) = hi - lo + 1 := IntWalk.i64_in _ (by omega)
  unfold within
  by_cases hneg : n.tmod (hi - lo + 1) < 0
  · have he := tmod_neg_add hd hneg
    have hlow : -1000002 ≤ n.tmod (hi - lo + 1) := by omega
    have HE := Lib.hid he
    have hsum : 0 ≤ n.tmod (hi - lo + 1) + hi - lo + 1 := by omega
    have hsum2 : n.tmod (hi - lo + 1) + hi - lo + 1 ≤ 1000001 := by omega
    clear he hb2 hb3
    go_enter Tryz.func20, Tryz.ntmps20
    go_wp2
    go_ret
    refine ⟨?_, rfl⟩
    have := HE.out
    show Ending.returned (.int .i64 (lo + (n.tmod (hi - lo + 1) + hi - lo + 1))) = _
    rw [show lo + (n.tmod (hi - lo + 1) + hi - lo + 1) = lo + n % (hi - lo + 1) from by omega]
  · have he := tmod_pos_eq (n := n) hd (by omega)
    have HE := Lib.hid he
    have hneg' : 0 ≤ n.tmod (hi - lo + 1) := by omega
    clear he hb2 hb3
    go_enter Tryz.func20, Tryz.ntmps20
    go_wp2
    go_ret
    refine ⟨?_, rfl⟩
    show Ending.returned (.int .i64 (lo + n.tmod (hi - lo + 1))) = _
    rw [HE.out]
end Go.Proofs.YtogcikilphakmaaGreatDoor
