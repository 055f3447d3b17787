/-
  Merged texts of one proof: Book1, KrL, Kr1, LayW.
-/
import Derived.BigQuiet
import Derived.Deep.QuietTactic
import Derived.LaidMore
import Derived.Lib.Hide
import Derived.Lib.LaidTab
import Derived.OpenShut
import Derived.ProofKit
import Derived.Stop.Joined
import Derived.Stop.LaidErr
import Derived.Test.YtogcikilphakmaaGreatDoorG02
import Derived.Test.YtogcikilphakmaaGreatDoorG19
import Derived.Test.YtogcikilphakmaaGreatDoorG38
import Derived.Test.YtogcikilphakmaaGreatDoorG45
import Derived.Test.YtogcikilphakmaaGreatDoorG48
import Derived.Test.YtogcikilphakmaaGreatDoorG51
import Derived.Test.YtogcikilphakmaaGreatDoorRows

/-
  Package keelbook: Same of two lists of ints, Within. Every argument.
-/
namespace Go.Proofs.YtogcikilphakmaaGreatDoor
open Go.RowKit Spl

/-- The slice value v reads, in the world w, as the cells xs, one cell an element. -/
def Rds (w : World) (v : Value) (xs : List Value) : Prop := ∃ A cap, v = .slice A xs.length cap ∧ xs.length ≤ 140737488351232 ∧ (0 < xs.length → ∃ b o, A = some ⟨b, o, none⟩ ∧ ∀ j u, xs[j]? = some u → w.cell? ⟨b, o + j, none⟩ = some u)
def ints (l : List Int) : List Value := l.map (Value.int .i64)
theorem ints_at {l : List Int} {k : Nat} {x : Int} (h : l[k]? = some x) : (ints l)[k]? = some (.int .i64 x) := by simp [ints, h]
theorem ints_len (l : List Int) : (ints l).length = l.length := by simp [ints]
theorem Rds.drewN {w : World} {v : Value} {xs : List Value} (h : Rds w v xs) (n : Nat) : Rds (w.drewN n) v xs := h
theorem Rds.of_slc {w0 w : World} {R : List Pr} {e : TypeId} {v : Value} {n : Nat} {xs : List Value} (H : Hd w0 (Slc e 1 v n xs :: R) w) (hn : n ≤ 140737488351232) : Rds w v xs := by
  have hl := H.slc_len
  rw [Nat.mul_one] at hl
  rcases H.slc with ⟨rfl, rfl, rfl, _⟩ | ⟨g, cap, rfl, H2⟩
  · exact ⟨none, 0, rfl, by simp, fun h => by simp at h⟩
  · exact ⟨_, cap, by rw [hl], by omega, fun _ => ⟨g, 0, rfl, fun j u hj => by rw [Nat.zero_add]; exact H2.slcC_rd hj⟩⟩

set_option maxHeartbeats 400000 in
theorem sameInt {w : World} {a b : Value} {xs ys : List Int} (ha : Rds w a (ints xs)) (hb : Rds w b (ints ys)) :
    Calls Tryz.prog 16 #[a, b] w fun e w' => e = .returned (.bool (decide (xs = ys))) ∧ ∃ n, w' = w.drewN n := by
  obtain ⟨A, ca, rfl, hA, hA2⟩ := ha
  obtain ⟨B, cb, rfl, hB, hB2⟩ := hb
  rw [ints_len] at hA hA2 hB hB2
  rw [ints_len, ints_len]
  by_cases hl : xs.length = ys.length
  · have hne : ((xs.length : Int) != ys.length) = false := by simp [hl]
    have hl' := Lib.hid hl
    have hyl : ys.length ≤ xs.length := by omega
    clear hl
    go_enter Tryz.func16, Tryz.ntmps16
    go_wp2
    go_loopw [5] (fun i wr => ∃ k n : Nat, k ≤ xs.length ∧ i = .int .i64 k ∧ xs.take k = ys.take k ∧ wr = w.drewN n) (fun i _ => xs.length - (intOf i).toNat)
    case atStart => exact ⟨0, 0, Nat.zero_le _, rfl, by simp, rfl⟩
    case round =>
      obtain ⟨k, n, hk, rfl, ht, rfl⟩ := hrel
      have hT := Lib.hid ht
      clear ht
      by_cases hlt : k < xs.length
      · have hky : k < ys.length := by have := hl'.out; omega
        obtain ⟨b1, o1, rfl, c1⟩ := hA2 (by omega)
        obtain ⟨b2, o2, rfl, c2⟩ := hB2 (by omega)
        have d1 := c1 k _ (ints_at (List.getElem?_eq_getElem hlt))
        have d2 := c2 k _ (ints_at (List.getElem?_eq_getElem hky))
        generalize hx : xs[k] = x at d1
        generalize hy : ys[k] = y at d2
        have hX := Lib.hid hx
        have hY := Lib.hid hy
        clear hx hy c1 c2 hA2 hB2
        by_cases he : x = y
        · subst he
          go_wp2_with (go_quiet (fail))
          go_roundw
          case rel =>
            refine ⟨k + 1, _, by omega, by go_num, ?_, by first | rfl | (rw [World.drewN_drewN])⟩
            rw [List.take_succ_eq_append_getElem hlt, List.take_succ_eq_append_getElem hky, hT.out, hX.out, hY.out]
          case measure => simp [intOf]; omega
        · have hne2 : (x != y) = true := by simpa using he
          have hfin : decide (xs = ys) = false := by
            apply decide_eq_false
            intro e
            subst e
            exact he (hX.out.symm.trans hY.out)
          go_wp2_with (go_quiet (fail))
          go_ret
          exact ⟨by first | rfl | (rw [hfin]; rfl), _, by first | rfl | (rw [World.drewN_drewN])⟩
      · obtain rfl : k = xs.length := by omega
        have hfin : decide (xs = ys) = true := by
          apply decide_eq_true
          have := hT.out
          rw [List.take_of_length_le (Nat.le_refl _), hl'.out, List.take_of_length_le (Nat.le_refl _)] at this
          exact this
        go_wp2
        go_ret
        exact ⟨by first | rfl | (rw [hfin]; rfl), _, rfl⟩
  · have hne : ((xs.length : Int) != ys.length) = true := by simpa using by omega
    have hfin : decide (xs = ys) = false := decide_eq_false (fun e => hl (by rw [e]))
    clear hl
    go_enter Tryz.func16, Tryz.ntmps16
    go_wp2
    go_ret
    exact ⟨by first | rfl | (rw [hfin]; rfl), 0, rfl⟩

/-- A cell of the arguments' memory, in a later world. -/
theorem Rds.keep {W w : World} {v : Value} {xs : List Value} (h : Rds W v xs) (hb : Below W.heap.size W w) : Rds w v xs := by
  obtain ⟨A, cap, hv, hl, hc⟩ := h
  refine ⟨A, cap, hv, hl, fun hn => ?_⟩
  obtain ⟨b, o, hA, hcell⟩ := hc hn
  exact ⟨b, o, hA, fun j u hj => (hb.cell (p := ⟨b, o + j, none⟩) (World.block_lt_of_cell? W _ (hcell j u hj))).trans (hcell j u hj)⟩

/-- A number brought into lo .. hi. -/
def within (n lo hi : Int) : Int := lo + n % (hi - lo + 1)
theorem within_le {n lo hi : Int} (h : lo ≤ hi) : lo ≤ within n lo hi ∧ within n lo hi ≤ hi := by
  unfold within
  have h1 := Int.emod_nonneg n (b := hi - lo + 1) (by omega)
  have h2 := Int.emod_lt_of_pos n (b := hi - lo + 1) (by omega)
  omega
theorem tmod_neg_add {n d : Int} (hd : 0 < d) (h : n.tmod d < 0) : n.tmod d + d = n % d := by
  have h0 : n < 0 := by
    rcases (by omega : n < 0 ∨ 0 ≤ n) with h' | h'
    · exact h'
    · have := Int.tmod_nonneg d h'
      omega
  have h1 := Int.tmod_add_mul_tdiv n d
  have h2 := Int.emod_add_mul_ediv n d
  have h3 := Int.emod_nonneg n (b := d) (by omega)
  have h4 := Int.emod_lt_of_pos n hd
  have h5 : -d < n.tmod d := by
    have : n.tmod d = -((-n).tmod d) := by rw [Int.neg_tmod, Int.neg_neg]
    have h6 := Int.tmod_lt_of_pos (-n) hd
    omega
  have h7 : d * (n.tdiv d - n / d - 1) = n % d - n.tmod d - d := by
    rw [Int.mul_sub, Int.mul_sub, Int.mul_one]
    omega
  have h8 : n.tdiv d - n / d - 1 = 0 := by
    rcases Int.lt_trichotomy (n.tdiv d - n / d - 1) 0 with h | h | h
    · have := Int.mul_le_mul_of_nonneg_left (show n.tdiv d - n / d - 1 ≤ -1 by omega) (show 0 ≤ d by omega)
      omega
    · exact h
    · have := Int.mul_le_mul_of_nonneg_left (show 1 ≤ n.tdiv d - n / d - 1 by omega) (show 0 ≤ d by omega)
      omega
  rw [h8] at h7
  omega
theorem tmod_pos_eq {n d : Int} (hd : 0 < d) (h : 0 ≤ n.tmod d) : n.tmod d = n % d := by
  rcases (by omega : n < 0 ∨ 0 ≤ n) with h' | h'
  · have h1 := Int.tmod_add_mul_tdiv n d
    have h2 := Int.emod_add_mul_ediv n d
    have h3 := Int.emod_nonneg n (b := d) (by omega)
    have h4 := Int.emod_lt_of_pos n hd
    have h6 := Int.tmod_lt_of_pos n hd
    have h7 : d * (n.tdiv d - n / d) = n % d - n.tmod d := by rw [Int.mul_sub]; omega
    have h8 : n.tdiv d - n / d = 0 := by
      rcases Int.lt_trichotomy (n.tdiv d - n / d) 0 with h | h | h
      · have := Int.mul_le_mul_of_nonneg_left (show n.tdiv d - n / d ≤ -1 by omega) (show 0 ≤ d by omega)
        omega
      · exact h
      · have := Int.mul_le_mul_of_nonneg_left (show 1 ≤ n.tdiv d - n / d by omega) (show 0 ≤ d by omega)
        omega
    rw [h8] at h7
    omega
  · exact Int.tmod_eq_emod_of_nonneg h'

theorem within_spec {w : World} (n lo hi : Int) (h0 : 0 ≤ lo) (h1 : lo ≤ hi) (h2 : hi ≤ 1000000) :
    Calls Tryz.prog 20 #[.int .i64 n, .int .i64 lo, .int .i64 hi] w fun e w' => e = .returned (.int .i64 (within n lo hi)) ∧ w = w' := by
  have hd : 0 < hi - lo + 1 := by omega
  have hb1 := Int.tmod_lt_of_pos n hd
  have hb2 := Int.emod_nonneg n (b := hi - lo + 1) (by omega)
  have hb3 := Int.emod_lt_of_pos n hd
  have hs : IntKind.i64.wrap (hi - lo + 1) = hi - lo + 1 := IntWalk.i64_in _ (by omega)
  unfold within
  by_cases hneg : n.tmod (hi - lo + 1) < 0
  · have he := tmod_neg_add hd hneg
    have hlow : -1000002 ≤ n.tmod (hi - lo + 1) := by omega
    have HE := Lib.hid he
    have hsum : 0 ≤ n.tmod (hi - lo + 1) + hi - lo + 1 := by omega
    have hsum2 : n.tmod (hi - lo + 1) + hi - lo + 1 ≤ 1000001 := by omega
    clear he hb2 hb3
    go_enter Tryz.func20, Tryz.ntmps20
    go_wp2
    go_ret
    refine ⟨?_, rfl⟩
    have := HE.out
    show Ending.returned (.int .i64 (lo + (n.tmod (hi - lo + 1) + hi - lo + 1))) = _
    rw [show lo + (n.tmod (hi - lo + 1) + hi - lo + 1) = lo + n % (hi - lo + 1) from by omega]
  · have he := tmod_pos_eq (n := n) hd (by omega)
    have HE := Lib.hid he
    have hneg' : 0 ≤ n.tmod (hi - lo + 1) := by omega
    clear he hb2 hb3
    go_enter Tryz.func20, Tryz.ntmps20
    go_wp2
    go_ret
    refine ⟨?_, rfl⟩
    show Ending.returned (.int .i64 (lo + n.tmod (hi - lo + 1))) = _
    rw [HE.out]
end Go.Proofs.YtogcikilphakmaaGreatDoor

/-
  keellaw13: the tasks lo and hi. And an empty part of the heap.
-/
namespace Go.Proofs.YtogcikilphakmaaGreatDoor
open Go.RowKit Spl

attribute [local go_sem] Oper.semAt_some
theorem one_need {w0 w : World} {R : List Pr} {g : Nat} (H : Hd w0 (cel g 58 #[.int .i64 0, .int .i64 1] :: R) w) : Hd w0 (SlE 58 (.slice (some ⟨g, 0, none⟩) 1 1) [(⟨0, 1⟩ : NeedM)] :: R) w :=
  ((show Hd w0 (cel g 58 (([.int .i64 0, .int .i64 1] : List Value) ++ []).toArray :: R) w from H).slcC_mk (n := 1) (cap := 1) (size := 2) rfl (Nat.le_refl _) (by unfold maxLen; omega) (by decide)).slc_mk
theorem one_int {w0 w : World} {R : List Pr} {g : Nat} {x : Int} (H : Hd w0 (cel g 3 #[.int .i64 x] :: R) w) : Hd w0 (SlE 3 (.slice (some ⟨g, 0, none⟩) 1 1) [x] :: R) w :=
  ((show Hd w0 (cel g 3 (([.int .i64 x] : List Value) ++ []).toArray :: R) w from H).slcC_mk (n := 1) (cap := 1) (size := 1) rfl (Nat.le_refl _) (by unfold maxLen; omega) (Nat.le_refl _)).slc_mk
section
variable {w0 w : World} {R : List Pr}
theorem Hd.ro_nil (H : Hd w0 R w) : Hd w0 (ro (fun _ => none) :: R) w :=
  ⟨H.1, fun _ => none, fun i => w.heap[i]?, fun _ => .inl rfl, by funext i; rfl, rfl, H.2⟩
set_option maxRecDepth 20000 in
set_option maxHeartbeats 1600000 in
theorem loSpec (H : Hd w0 R w) : Calls Tryz.prog 7 #[] w fun e w' => ∃ nv, e = .returned (taskA loT nv) ∧ Hd w0 (SlE 58 nv loT.needs :: R) w' := by
  have H1 : Hd w0 _ (w.alloc (.cells #[.string ⟨#[]⟩, .int .i64 0, .int .i64 0, .slice none 0 0, .string ⟨#[]⟩, .int .i64 0, .int .i64 0, .int .i64 0] 33)) := H.fol
  have H2 : Hd w0 _ ((w.alloc (.cells #[.string ⟨#[]⟩, .int .i64 0, .int .i64 0, .slice none 0 0, .string ⟨#[]⟩, .int .i64 0, .int .i64 0, .int .i64 0] 33)).alloc (.cells #[.int .i64 0, .int .i64 1] 58)) := H1.fol
  have hf := (H2.k w.heap.size).fact1
  simp only [Nat.reduceAdd] at hf
  go_split_ands
  go_enter Tryz.func7, Tryz.ntmps7
  go_wp2_with fail
  have H3 : Hd w0 _ ((w.alloc (.cells #[.string loT.nm, .int .i64 loT.lv, .int .i64 loT.fr, .slice (some ⟨w.heap.size + 1, 0, none⟩) 1 1, .string loT.cd, .int .i64 loT.p, .int .i64 loT.f, .int .i64 loT.g] 33)).alloc (.cells #[.int .i64 0, .int .i64 1] 58)) := H.fol
  refine bodyPost_ret (results_row rfl _ _ w.heap.size 33 #[.string loT.nm, .int .i64 loT.lv, .int .i64 loT.fr, .slice (some ⟨w.heap.size + 1, 0, none⟩) 1 1, .string loT.cd, .int .i64 loT.p, .int .i64 loT.f, .int .i64 loT.g] (0, 0) _ rfl (by exact (H3.k w.heap.size).heap) Tryz.underlying33 rfl (by kernel_rfl)) rfl ⟨_, rfl, ?_⟩
  exact one_need H3.re
set_option maxRecDepth 20000 in
set_option maxHeartbeats 1600000 in
theorem hiSpec (H : Hd w0 R w) : Calls Tryz.prog 8 #[] w fun e w' => ∃ nv, e = .returned (taskA hiT nv) ∧ Hd w0 (SlE 58 nv hiT.needs :: R) w' := by
  have H1 : Hd w0 _ (w.alloc (.cells #[.string ⟨#[]⟩, .int .i64 0, .int .i64 0, .slice none 0 0, .string ⟨#[]⟩, .int .i64 0, .int .i64 0, .int .i64 0] 33)) := H.fol
  have H2 : Hd w0 _ ((w.alloc (.cells #[.string ⟨#[]⟩, .int .i64 0, .int .i64 0, .slice none 0 0, .string ⟨#[]⟩, .int .i64 0, .int .i64 0, .int .i64 0] 33)).alloc (.cells #[.int .i64 0, .int .i64 1] 58)) := H1.fol
  have hf := (H2.k w.heap.size).fact1
  simp only [Nat.reduceAdd] at hf
  go_split_ands
  go_enter Tryz.func8, Tryz.ntmps8
  go_wp2_with fail
  have H3 : Hd w0 _ ((w.alloc (.cells #[.string hiT.nm, .int .i64 hiT.lv, .int .i64 hiT.fr, .slice (some ⟨w.heap.size + 1, 0, none⟩) 1 1, .string hiT.cd, .int .i64 hiT.p, .int .i64 hiT.f, .int .i64 hiT.g] 33)).alloc (.cells #[.int .i64 0, .int .i64 1] 58)) := H.fol
  refine bodyPost_ret (results_row rfl _ _ w.heap.size 33 #[.string hiT.nm, .int .i64 hiT.lv, .int .i64 hiT.fr, .slice (some ⟨w.heap.size + 1, 0, none⟩) 1 1, .string hiT.cd, .int .i64 hiT.p, .int .i64 hiT.f, .int .i64 hiT.g] (0, 0) _ rfl (by exact (H3.k w.heap.size).heap) Tryz.underlying33 rfl (by kernel_rfl)) rfl ⟨_, rfl, ?_⟩
  exact one_need H3.re
end
end Go.Proofs.YtogcikilphakmaaGreatDoor

/-
  KernelRuns answers true in every world.
-/
namespace Go.Proofs.YtogcikilphakmaaGreatDoor
open Go.RowKit Spl

attribute [local go_sem] Oper.semAt_some
section
variable {w0 w : World} {R : List Pr}
theorem one_wait {w0 w : World} {R : List Pr} {g : Nat} {a b c : Int} (H : Hd w0 (cel g 37 #[.int .i64 a, .int .i64 b, .int .i64 c] :: R) w) : Hd w0 (SlE 37 (.slice (some ⟨g, 0, none⟩) 1 1) [(⟨a, b, c⟩ : WaitM)] :: R) w :=
  ((show Hd w0 (cel g 37 (([.int .i64 a, .int .i64 b, .int .i64 c] : List Value) ++ []).toArray :: R) w from H).slcC_mk (n := 1) (cap := 1) (size := 3) rfl (Nat.le_refl _) (by unfold maxLen; omega) (Nat.le_refl _)).slc_mk
theorem kinds_at : ∀ k : Nat, k < 7 → ∃ κ : Int, ([1, 1, 1, 2, 4, 5, 7] : List Int)[k]? = some κ ∧ (#[.int .i64 1, .int .i64 1, .int .i64 1, .int .i64 2, .int .i64 4, .int .i64 5, .int .i64 7] : Array Value)[k]? = some (.int .i64 κ) := by
  intro k hk
  rcases k with _ | _ | _ | _ | _ | _ | _ | k
  all_goals first | exact ⟨_, rfl, rfl⟩ | omega
theorem srd_nil {α : Type} [Enc α] {w0 : World} {R : List Pr} : Srd w0 R (.slice none 0 0) ([] : List α) := .inl ⟨rfl, rfl⟩
set_option maxRecDepth 20000 in
set_option maxHeartbeats 16000000 in
theorem runs13 [Lay w0 R] (H : Hd w0 R w) : Calls Tryz.prog 3 #[] w fun e w' => e = .returned (.bool true) ∧ Hd w0 R w' := by
  obtain ⟨p0, p1, p2, p3, p4, p5, p6, p7, p8, p9, hsc⟩ := sc13
  replace hsc := Lib.hid hsc
  have h0 := keNewNo H (words := -1) (units := []) srd_nil (E := 1) (by decide) (by decide)
  go_enter Tryz.func3, Tryz.ntmps3
  go_wp2_with fail
  refine h0.mono ?_
  rintro e w1 ⟨rfl, H1⟩
  clear h0 H
  have H2 : Hd w0 _ (w1.alloc (.cells #[.int .i64 1] 3)) := H1.fol
  have H3 : Hd w0 (SlE 3 (.slice (some ⟨w1.heap.size, 0, none⟩) 1 1) [(1 : Int)] :: R) (w1.alloc (.cells #[.int .i64 1] 3)) := one_int H2.re
  have h0 := keNew (S := fun _ => none) (R := SlE 3 (.slice (some ⟨w1.heap.size, 0, none⟩) 1 1) [(1 : Int)] :: R) (Hd.ro_nil H3) (words := 10) (units := [1]) ((Srd.slE H3).of fun h => h.tail) (by decide)
  go_wp2_with fail
  refine h0.mono ?_
  rintro e w2 ⟨z, rfl, H4⟩
  clear h0 H3 H2 H1
  rw [hsc.out.e0] at H4
  obtain ⟨zk, zc, zr, ⟨zd, zo, zq, ⟨zl, zt, za, zu, ze⟩⟩⟩ := z
  have hl := loSpec H4
  go_wp2_with fail
  refine hl.mono ?_
  rintro e w3 ⟨nv, rfl, H5⟩
  clear hl H4
  have hr := keRegisterI (show Hd w0 (KeL ⟨zk, zc, zr, ⟨zd, zo, zq, ⟨zl, zt, za, zu, ze⟩⟩⟩ (fun _ => none) p0 (SlE 58 nv loT.needs :: R)) w3 from H5.re) hsc.out.i0 (by decide) loT (Srd.slE (show Hd w0 (SlE 58 nv loT.needs :: R) w3 from H5.re)) (by decide)
  rw [hsc.out.r0, hsc.out.r0l, hsc.out.e1, if_pos rfl] at hr
  go_wp2_with fail
  refine hr.mono ?_
  rintro e w4 ⟨rfl, S1, -, H6⟩
  clear hr H5
  have H7 : Hd w0 (KeL ⟨zk, zc, zr, ⟨zd, zo, zq, ⟨zl, zt, za, zu, ze⟩⟩⟩ S1 p1 R) w4 := H6.re
  have hl := hiSpec H7
  clear H6
  go_wp2_with fail
  refine hl.mono ?_
  rintro e w5 ⟨nv2, rfl, H8⟩
  clear hl H7
  have hr := keRegisterI (show Hd w0 (KeL ⟨zk, zc, zr, ⟨zd, zo, zq, ⟨zl, zt, za, zu, ze⟩⟩⟩ S1 p1 (SlE 58 nv2 hiT.needs :: R)) w5 from H8.re) hsc.out.i1 (by decide) hiT (Srd.slE (show Hd w0 (SlE 58 nv2 hiT.needs :: R) w5 from H8.re)) (by decide)
  rw [hsc.out.r1, hsc.out.r1l, hsc.out.e2, if_pos rfl] at hr
  go_wp2_with fail
  refine hr.mono ?_
  rintro e w6 ⟨rfl, S2, -, H9⟩
  clear hr H8
  have H10 : Hd w0 (KeL ⟨zk, zc, zr, ⟨zd, zo, zq, ⟨zl, zt, za, zu, ze⟩⟩⟩ S2 p2 R) w6 := H9.re
  clear H9
  have hr := keRegisterI H10 hsc.out.i2 (by decide) x1T srd_nil (by decide)
  have hx : p2.register x1T = p2 := by unfold KeM.register; rw [if_neg (by rw [hsc.out.r2]; decide)]
  rw [hsc.out.r2, hx, if_neg (by decide)] at hr
  clear hx
  go_wp2_with fail
  refine hr.mono ?_
  rintro e w7 ⟨rfl, S3, -, H11⟩
  clear hr H10
  have hr := keRegisterI H11 hsc.out.i2 (by decide) x2T srd_nil (by decide)
  rw [hsc.out.r2x, hsc.out.r2l, hsc.out.e3, if_pos rfl] at hr
  go_wp2_with fail
  refine hr.mono ?_
  rintro e w8 ⟨rfl, S4, -, H12⟩
  clear hr H11
  have hr := keReleaseI H12 hsc.out.i3 (by decide) 0
  rw [hsc.out.r3, hsc.out.r3c, hsc.out.e4, if_pos rfl] at hr
  go_wp2_with fail
  refine hr.mono ?_
  rintro e w9 ⟨rfl, H13⟩
  clear hr H12
  have hr := keStepI H13 hsc.out.i4 (by decide)
  obtain ⟨D, hD⟩ : ∃ D, p4.step.1 = D := ⟨_, rfl⟩
  have hd1 := hsc.out.r4
  have hd2 := hsc.out.r4k
  rw [hD] at hr hd1 hd2
  rw [hsc.out.e5] at hr
  obtain ⟨ds, ⟨sj, st, sl⟩, di, ⟨dj, dt, ⟨ok, or, on, ov⟩, why, fin⟩⟩ := D
  dsimp only at hd1 hd2
  subst hd1
  subst hd2
  clear hD
  go_wp2_with fail
  refine hr.mono ?_
  rintro e w10 ⟨rfl, S5, -, H14⟩
  clear hr H13
  go_wp2_with fail
  have H15 : Hd w0 _ (w10.alloc (.cells #[.bool true, .int .i64 sj, .int .i64 st, .int .i64 sl, .bool di, .int .i64 dj, .int .i64 dt, .int .i64 1, .int .i64 or, .int .i64 on, .int .i64 ov, .int .i64 why, .bool fin] 43)) := H14.fol
  have ht := keTickI (n := 2) (show Hd w0 (KeL ⟨zk, zc, zr, ⟨zd, zo, zq, ⟨zl, zt, za, zu, ze⟩⟩⟩ S5 p5 (cel w10.heap.size 43 #[.bool true, .int .i64 sj, .int .i64 st, .int .i64 sl, .bool di, .int .i64 dj, .int .i64 dt, .int .i64 1, .int .i64 or, .int .i64 on, .int .i64 ov, .int .i64 why, .bool fin] :: R)) _ from H15.re) hsc.out.i5 (by decide) (by decide) (by rw [hsc.out.r5n]; decide) (by decide)
  rw [hsc.out.r5, hsc.out.e6] at ht
  clear H14 H15
  refine ht.mono ?_
  rintro e w11 ⟨lv, rfl, H16⟩
  clear ht
  have d0 := (show _ = some (Value.bool true) from (H16.k w10.heap.size).ce 0 rfl)
  have d7 := (show _ = some (Value.int .i64 1) from (H16.k w10.heap.size).ce 7 rfl)
  have k0 := (show _ = some (Value.pointer (some ⟨zl, 0, none⟩)) from (H16.k zk).ce 0 rfl)
  have hce : p6.dp.co.ce.length ≤ 100000 := by
    have h1 := hsc.out.i6.d.c.b.cl
    have h2 := hsc.out.i6.d.c.b.u.locksTop
    omega
  have hc := lkCeiling (x := ⟨zl, zt, za, zu, ze⟩) (S := S5) (m := p6.dp.co) (R := SlE 37 lv [(⟨1, 1, 3⟩ : WaitM)] :: R) (show Hd w0 (LkP ⟨zl, zt, za, zu, ze⟩ S5 p6.dp.co :: SlE 37 lv [(⟨1, 1, 3⟩ : WaitM)] :: R) w11 from H16.re) hce
  rw [hsc.out.r6] at hc
  clear hce
  go_wp2_with fail
  refine hc.mono ?_
  rintro e w12 ⟨rfl, rfl⟩
  clear hc
  have H17 : Hd w0 _ (w11.alloc (.cells #[.int .i64 1, .int .i64 1, .int .i64 3] 37)) := H16.fol
  have hsm := sameWait (RdL.of_slE (show Hd w0 (SlE 37 lv [(⟨1, 1, 3⟩ : WaitM)] :: R) _ from H17.re) (by simp)) (RdL.of_slE (one_wait (show Hd w0 (cel w11.heap.size 37 #[.int .i64 1, .int .i64 1, .int .i64 3] :: R) _ from H17.re)) (by simp))
  rw [decide_eq_true rfl] at hsm
  go_wp2_with fail
  refine hsm.mono ?_
  rintro e w12 ⟨rfl, n1, rfl⟩
  clear hsm d0 d7 k0
  have H18 : Hd w0 (KeL ⟨zk, zc, zr, ⟨zd, zo, zq, ⟨zl, zt, za, zu, ze⟩⟩⟩ S5 p6 R) _ := (H17.drewN n1).re
  clear H17 H16
  generalize hwA : World.drewN _ n1 = wA at H18 ⊢
  clear hwA
  have H19 : Hd w0 _ (wA.alloc (.cells #[.int .i64 0, .int .i64 1] 58)) := H18.fol
  have H20 : Hd w0 (SlE 58 (.slice (some ⟨wA.heap.size, 0, none⟩) 1 1) [(⟨0, 1⟩ : NeedM)] :: KeL ⟨zk, zc, zr, ⟨zd, zo, zq, ⟨zl, zt, za, zu, ze⟩⟩⟩ S5 p6 R) _ := one_need (show Hd w0 (cel wA.heap.size 58 #[.int .i64 0, .int .i64 1] :: KeL ⟨zk, zc, zr, ⟨zd, zo, zq, ⟨zl, zt, za, zu, ze⟩⟩⟩ S5 p6 R) _ from H19.re)
  have hr := keRegisterI (show Hd w0 (KeL ⟨zk, zc, zr, ⟨zd, zo, zq, ⟨zl, zt, za, zu, ze⟩⟩⟩ S5 p6 (SlE 58 (.slice (some ⟨wA.heap.size, 0, none⟩) 1 1) [(⟨0, 1⟩ : NeedM)] :: R)) _ from H20.re) hsc.out.i6 (by decide) y1T (Srd.slE (show Hd w0 (SlE 58 (.slice (some ⟨wA.heap.size, 0, none⟩) 1 1) [(⟨0, 1⟩ : NeedM)] :: R) _ from H20.re)) (by decide)
  have hx : p6.register y1T = p6 := by unfold KeM.register; rw [if_neg (by rw [hsc.out.r6y]; decide)]
  rw [hsc.out.r6y, hx, if_neg (by decide)] at hr
  clear hx H18 H19 H20
  go_wp2_with fail
  refine hr.mono ?_
  rintro e w13 ⟨rfl, S6, -, H21⟩
  clear hr
  have H22 : Hd w0 (KeL ⟨zk, zc, zr, ⟨zd, zo, zq, ⟨zl, zt, za, zu, ze⟩⟩⟩ S6 p6 R) w13 := H21.re
  clear H21
  have hr := keRegisterI H22 hsc.out.i6 (by decide) y2T srd_nil (by decide)
  rw [hsc.out.r6z, hsc.out.r6l, hsc.out.e7, if_pos rfl] at hr
  go_wp2_with fail
  refine hr.mono ?_
  rintro e w14 ⟨rfl, S7, -, H23⟩
  clear hr H22
  have hr := keRunI (n := 5) H23 hsc.out.i7 (by decide) (by decide)
  rw [hsc.out.r7, hsc.out.e8] at hr
  go_wp2_with fail
  refine hr.mono ?_
  rintro e w15 ⟨rfl, S8, -, H24⟩
  clear hr H23
  have k0 := (show _ = some (Value.pointer (some ⟨zl, 0, none⟩)) from (H24.k zk).ce 0 rfl)
  have hfew : p8.dp.co.jobs.length ≤ 1000 := by have := (hsc.out.i8.d.c.few hsc.out.i8.t.t).1; omega
  have hc := lkFrame (x := ⟨zl, zt, za, zu, ze⟩) (S := S8) (m := p8.dp.co) (show Hd w0 (LkP ⟨zl, zt, za, zu, ze⟩ S8 p8.dp.co :: cel zk 55 #[.pointer (some ⟨zl, 0, none⟩), .pointer (some ⟨zt, 0, none⟩), .pointer (some ⟨zd, 0, none⟩), .pointer (some ⟨zc, 0, none⟩), .pointer (some ⟨zr, 0, none⟩)] ::
    Clock zc p8.ck :: RingP zr p8.ev :: cel zd 78 #[.pointer (some ⟨zl, 0, none⟩), .pointer (some ⟨zt, 0, none⟩), .pointer (some ⟨zo, 0, none⟩), .pointer (some ⟨zq, 0, none⟩), .int .i64 p8.dp.count] :: cel zo 112 (coreRow zo zl) :: WqP zq p8.dp.wq :: TkP zt p8.tk S8 :: ro S8 :: R) w15 from H24.re) hsc.out.i8.d.c.b.a hfew hsc.out.r8p hsc.out.r8f
  clear hfew
  go_wp2_with fail
  refine hc.mono ?_
  rintro e w16 ⟨fv, rfl, H25⟩
  clear hc k0 H24
  have H26 : Hd w0 _ (w16.alloc (.cells #[.int .i64 5] 3)) := H25.fol
  have hsm := sameInt (xs := [5]) (ys := [5]) (Rds.of_slc (show Hd w0 (SlE 3 fv [(5 : Int)] :: R) _ from H26.re) (by decide)) (Rds.of_slc (one_int (show Hd w0 (cel w16.heap.size 3 #[.int .i64 5] :: R) _ from H26.re)) (by decide))
  rw [decide_eq_true rfl] at hsm
  go_wp2_with fail
  refine hsm.mono ?_
  rintro e w17 ⟨rfl, n2, rfl⟩
  clear hsm
  have H27 : Hd w0 (KeL ⟨zk, zc, zr, ⟨zd, zo, zq, ⟨zl, zt, za, zu, ze⟩⟩⟩ S8 p8 R) _ := (H26.drewN n2).re
  clear H26 H25
  generalize hwB : World.drewN _ n2 = wB at H27 ⊢
  clear hwB
  have hr := keRunI (n := 9) H27 hsc.out.i8 (by decide) (by decide)
  rw [hsc.out.r8, hsc.out.e9] at hr
  go_wp2_with fail
  refine hr.mono ?_
  rintro e w18 ⟨rfl, S9, -, H28⟩
  clear hr H27
  have hr := keLeftI H28 hsc.out.i9
  rw [hsc.out.r9l] at hr
  go_wp2_with fail
  refine hr.mono ?_
  rintro e w19 ⟨rfl, H29⟩
  clear hr H28
  have hr := keReleaseI H29 hsc.out.i9 (by decide) 1
  have hx : p9.release 1 = p9 := by unfold KeM.release; rw [if_neg (by rw [hsc.out.r9a]; decide)]
  rw [hsc.out.r9a, hx, if_neg (by decide)] at hr
  clear hx
  go_wp2_with fail
  refine hr.mono ?_
  rintro e w20 ⟨rfl, H30⟩
  clear hr H29
  have hr := keReleaseI H30 hsc.out.i9 (by decide) 9
  have hx : p9.release 9 = p9 := by unfold KeM.release; rw [if_neg (by rw [hsc.out.r9b]; decide)]
  rw [hsc.out.r9b, hx, if_neg (by decide)] at hr
  clear hx
  go_wp2_with fail
  refine hr.mono ?_
  rintro e w21 ⟨rfl, H31⟩
  clear hr H30
  have hr := keTickNo H31 (n := 0) (by rw [hsc.out.r9n]; decide) (.inl (by decide))
  have hr2 := keTickNo H31 (n := 1001) (by rw [hsc.out.r9n]; decide) (.inr (.inl (by decide)))
  go_wp2_with fail
  refine hr.mono ?_
  rintro e w22 ⟨rfl, rfl⟩
  clear hr
  go_wp2_with fail
  refine hr2.mono ?_
  rintro e w22 ⟨rfl, rfl⟩
  clear hr2
  have hr := keRunNo (n := -1) (by decide) w21 zk
  go_wp2_with fail
  refine hr.mono ?_
  rintro e w22 ⟨rfl, rfl⟩
  clear hr
  have hr := keEvents H31 hsc.out.i9.e
  go_wp2_with fail
  refine hr.mono ?_
  rintro e w22 ⟨ev, rfl, H32⟩
  clear hr H31
  have hlen : 7 ≤ p9.ev.l.length := by
    have := congrArg List.length hsc.out.r9v
    rw [List.length_take, List.length_map] at this
    simp at this
    omega
  have hmax : p9.ev.l.length ≤ 4096 := Nat.le_trans hsc.out.i9.e.l hsc.out.i9.e.m1
  obtain ⟨ge, ce, rfl, H33⟩ := H32.slc_at (by omega)
  have H34 : Hd w0 _ (w22.alloc (.cells #[.int .i64 1, .int .i64 1, .int .i64 1, .int .i64 2, .int .i64 4, .int .i64 5, .int .i64 7] 3)) := H33.fol
  clear H32
  obtain ⟨L, hL⟩ : ∃ L, p9.ev.l.length = L := ⟨_, rfl⟩
  rw [hL] at hlen hmax
  rw [hL]
  have hcell : Hid (∀ k : Nat, k < 7 → ∃ κ : Int, (w22.alloc (.cells #[.int .i64 1, .int .i64 1, .int .i64 1, .int .i64 2, .int .i64 4, .int .i64 5, .int .i64 7] 3)).cell? ⟨w22.heap.size, k, none⟩ = some (.int .i64 κ) ∧
      (w22.alloc (.cells #[.int .i64 1, .int .i64 1, .int .i64 1, .int .i64 2, .int .i64 4, .int .i64 5, .int .i64 7] 3)).cell? ⟨ge, k * 9, none⟩ = some (.int .i64 κ)) := Lib.hid fun k hk => by
    obtain ⟨κ, e1, e2⟩ := kinds_at k hk
    have e3 : (p9.ev.l.map (·.kind))[k]? = some κ := by
      have : ((p9.ev.l.map (·.kind)).take 7)[k]? = _ := congrArg (fun l => l[k]?) hsc.out.r9v
      rw [List.getElem?_take, if_pos hk, e1] at this
      exact this
    rw [List.getElem?_map] at e3
    cases hx : p9.ev.l[k]? with
    | none => rw [hx] at e3; cases e3
    | some x =>
      rw [hx] at e3
      have e3 : x.kind = κ := by injection e3
      refine ⟨κ, (show Hd w0 (cel w22.heap.size 3 _ :: R) _ from H34.re).ce k e2, ?_⟩
      have h := (show Hd w0 (SlcC 65 (Enc.size EvM) ge p9.ev.l.length ce (flat p9.ev.l) :: R) _ from H34.re).slcC_rd (flat_at hx (j := 0) rfl)
      rw [← e3]
      simpa only [Enc.size, Nat.add_zero] using h
  have H35 : Hd w0 (KeL ⟨zk, zc, zr, ⟨zd, zo, zq, ⟨zl, zt, za, zu, ze⟩⟩⟩ S9 p9 R) _ := H34.re
  clear H34 H33
  go_wp2_with fail
  generalize hwC : w22.alloc _ = wC at hcell H35 ⊢
  obtain ⟨gk, hgk⟩ : ∃ gk, w22.heap.size = gk := ⟨_, rfl⟩
  rw [hgk] at hcell ⊢
  replace hL := Lib.hid hL
  clear hwC hgk
  go_loopw [21] (fun y wr => ∃ k n : Nat, k ≤ 7 ∧ y = .int .i64 k ∧ wr = wC.drewN n) (fun y _ => 7 - (intOf y).toNat)
  case atStart => exact ⟨0, 0, Nat.zero_le _, rfl, rfl⟩
  case round =>
    obtain ⟨k, n, hk, rfl, rfl⟩ := hrel
    by_cases hlt : k < 7
    · obtain ⟨κ, c1, c2⟩ := hcell.out k hlt
      have m1 : (k : Int) < 7 := by omega
      have m2 : ¬ (k : Int) < 0 := by omega
      have m3 : ¬ 7 ≤ k := by omega
      have m4 : ¬ L ≤ k := by omega
      have m5 : (k : Int) < L := by omega
      have m6 : decide ((L : Int) ≤ k) = false := by simp; omega
      have g6 : IntKind.i64.wrap ((k : Int) + 1) = (k : Int) + 1 := IntWalk.i64_in _ (by omega)
      go_wp2_with (go_quiet (fail))
      go_roundw
      case rel => exact ⟨k + 1, _, by omega, by go_num, by first | rfl | (rw [World.drewN_drewN])⟩
      case measure => simp [intOf]; omega
    · obtain rfl : k = 7 := by omega
      have hd := keDropped (H35.drewN n)
      rw [hsc.out.r9g] at hd
      go_wp2_with fail
      refine hd.mono ?_
      rintro e w23 ⟨rfl, rfl⟩
      clear hd
      go_wp2_with fail
      go_ret
      exact ⟨rfl, (H35.drewN n).re⟩
end
end Go.Proofs.YtogcikilphakmaaGreatDoor

/-
  What a row's listed variables give: the library's variables are laid in the world in which the call begins.
-/
namespace Go.Proofs.YtogcikilphakmaaGreatDoor
open Go.ChangeShapes Go.WideShapes Go.ChangeAt Go.RowKit Spl

abbrev laidL : List (String × DataW Unit) := [("math/bits.deBruijn32tab", Rows.laid_math_bits_deBruijn32tab), ("math/bits.deBruijn64tab", Rows.laid_math_bits_deBruijn64tab), ("internal/strconv.uint64pow10", Rows.laid_internal_strconv_uint64pow10), ("strconv.ErrRange", Rows.laid_strconv_ErrRange), ("strconv.ErrSyntax", Rows.laid_strconv_ErrSyntax)]
theorem rowErr (u : TypeId) (h : Tryz.prog.typeName? 3 u = some "*errors.errorString") : u = 344 :=
  typeName_ptr_named (nm := "errors.errorString") (by kernel_rfl) (by kernel_rfl) (by decide) u h
theorem laidW_of {W : World} (h : laidMetH Tryz.prog laidL W) : LaidW W := by
  rw [MakeChecks.laidMetH_plain _ _ _ (by kernel_rfl)] at h
  have h3 := laidMet.tail (laidMet.tail h)
  have h4 := laidMet.tail h3
  have h5 := laidMet.tail h4
  have htab : Lib.TabIs Tryz.prog W "internal/strconv.uint64pow10" .u64 Lib.pow10Tab :=
    Lib.tabIs_of_head (g := 2) (t := 348) (e := 329) (n := 20) (by kernel_rfl) (by kernel_rfl) Tryz.underlying348 Tryz.underlying329 (by kernel_rfl) (by kernel_rfl) h3
  obtain ⟨a1, s1, v1, -⟩ := laid_sentinel (g := 1) (ti := 308) (tp := 344) (te := 346) (ts := 9) h4 (by kernel_rfl) (by kernel_rfl) Tryz.underlying308 rowErr Tryz.underlying344 Tryz.underlying346 rfl rfl Tryz.underlying9 (by kernel_rfl) (by kernel_rfl)
  obtain ⟨a2, s2, v2, -⟩ := laid_sentinel (g := 0) (ti := 308) (tp := 344) (te := 346) (ts := 9) h5 (by kernel_rfl) (by kernel_rfl) Tryz.underlying308 rowErr Tryz.underlying344 Tryz.underlying346 rfl rfl Tryz.underlying9 (by kernel_rfl) (by kernel_rfl)
  exact ⟨⟨_, _, v2⟩, ⟨_, _, v1⟩, htab⟩
theorem lay_whole {W : World} (h : LaidW W) : Lay W [whole W] := ⟨fun {w} H => by
  have hk : ∀ (n : String) (cs : Array Value), W.var? Tryz.prog n = some cs → w.var? Tryz.prog n = some cs := by
    intro n cs hv
    unfold World.var? at hv ⊢
    cases hg : Tryz.prog.globalNamed n with
    | none => simp [hg] at hv
    | some g =>
      simp only [hg, Option.bind_some] at hv ⊢
      cases ho : W.heap[g]? with
      | none => simp [ho] at hv
      | some o => rw [ho] at hv; rw [H.old g o ho]; exact hv
  obtain ⟨⟨a, b, c⟩, ⟨d, e, f⟩, g⟩ := h
  exact ⟨⟨a, b, hk _ _ c⟩, ⟨d, e, hk _ _ f⟩, hk _ _ g⟩⟩
/-- The door's own heap meets the condition. -/
theorem door_met (os : Os) (args : Array Value) : laidMetH Tryz.prog laidL ((World.doorLaid Tryz.prog 400 os).forCall (fun _ _ => 0) ⟨#[], args, []⟩).memory :=
  laidMetH_of_parts3 (fuel := 8) (laidMet_of_run' 8 (by kernel_rfl) (by kernel_rfl)) (by kernel_rfl) (by kernel_rfl)
end Go.Proofs.YtogcikilphakmaaGreatDoor
