/-
  Package keelbook: a book of lists of ints: Stays. Ints.
-/
import Derived.Test.YtdppdmmcnlmdgaaBook2
import Derived.Deep.RegionHeld3
namespace Go.Proofs.Ytdppdmmcnlmdgaa
open Go.RowKit Spl
section
variable {w0 w : World} {R : List Pr} {b N : Nat}

theorem intsSpec (i j : Int) (h0 : 0 ≤ i) (h1 : i ≤ 1000000) : Calls Try.prog 26 #[.int .i64 i, .int .i64 j] w fun e w' => e = .returned (.int .i64 (-1000 - i)) ∧ w = w' := by
  go_enter Try.func26, Try.ntmps26
  go_wp2
  go_ret
  exact ⟨rfl, rfl⟩

set_option maxRecDepth 20000 in
set_option maxHeartbeats 2000000 in
theorem bookStays (H : Hd w0 (BookP b N :: R) w) (hN : N ≤ 1000) :
    Calls Try.prog 36 #[pp b] w fun e w' => e = .returned (.bool true) ∧ Hd w0 (BookP b N :: R) w' := by
  obtain ⟨x, hx, H1⟩ := BookP.opened H
  obtain ⟨v1, v2, av, cv, ls, hd⟩ := x
  have hx0 := hx
  obtain ⟨x1, x2, x3, x4, x5, x6⟩ := hx
  simp only at *
  obtain ⟨a1, k1, rfl, _, _, _, _⟩ := H1.b2.slc_form
  obtain ⟨a2, k2, rfl, _, _, _, _⟩ := H1.b3.slc_form
  unfold pp
  clear H
  go_enter Try.func36, Try.ntmps36
  go_wp2
  go_loopw [3] (fun i wr => ∃ k : Nat, k ≤ N ∧ i = .int .i64 k ∧ Hd w0 (cel b 48 #[.slice a1 N k1, .slice a2 N k2, .int .i64 hd, .bool false] :: Slc 30 1 (.slice a1 N k1) N av :: Slc 30 1 (.slice a2 N k2) N cv :: all (List.zipWith kl av ls) :: all (List.zipWith kl cv ls) :: R) wr) (fun i _ => N - (intOf i).toNat)
  case atStart => exact ⟨0, Nat.zero_le _, rfl, H1⟩
  case round =>
    obtain ⟨k, hk, rfl, HI⟩ := hrel
    have d0 := HI.rd 0
    have d1 := HI.rd 1
    have d3 := HI.rd 3
    have e3 := HI.fr 3
    by_cases hlt : k < N
    · obtain ⟨A, hA⟩ : ∃ A, av[k]? = some A := ⟨av[k]'(by omega), List.getElem?_eq_getElem _⟩
      obtain ⟨C, hC⟩ : ∃ C, cv[k]? = some C := ⟨cv[k]'(by omega), List.getElem?_eq_getElem _⟩
      obtain ⟨l, hl⟩ : ∃ l, ls[k]? = some l := ⟨ls[k]'(by omega), List.getElem?_eq_getElem _⟩
      obtain ⟨hl64, aa, rfl⟩ := x6 k A l hA hl
      have rA : Rds wr.drew (.slice aa l.length l.length) (ints l) := Rds.of_slc (HI.drew.b4.row_nth hA hl) (by omega)
      have rC : Rds wr.drew C (ints l) := Rds.of_slc (HI.drew.b5.row_nth hC hl) (by omega)
      have hsame := sameInt rA rC
      rw [decide_eq_true (rfl : l = l)] at hsame
      obtain ⟨ca, cc, rfl, _⟩ := id rC
      obtain ⟨g1, k1', hv, H2⟩ := HI.b2.slc_at (by omega)
      injection hv with e1 e2 e5
      subst e1 e5
      clear e2
      obtain ⟨g2, k2', hv, H3⟩ := HI.b3.slc_at (by omega)
      injection hv with e1 e2 e5
      subst e1 e5
      clear e2
      have cA := H2.slcC_rd hA
      have cC := H3.slcC_rd hC
      have n1 : g1 ≠ b := by
        obtain ⟨_, _, _, sp, _, h⟩ := H2.slcC
        exact h.ne
      have n2 : g2 ≠ b := by
        obtain ⟨_, _, _, sp, _, h⟩ := H3.slcC
        exact h.ne
      have HS := fun (n : Nat) => (HI.drewN (1 + n)).set 3 (.bool false)
      simp only [List.setIfInBounds_toArray, List.set_cons_zero, List.set_cons_succ, List.size_toArray, List.length_cons, List.length_nil, List.getElem?_toArray, List.getElem?_cons_zero, List.getElem?_cons_succ] at d0 d1 d3 HS
      have T1 := fun n => (HS n).rd 0
      have T2 := fun n => (HS n).rd 1
      have T3 := fun n => (HS n).rd 3
      have T4 := fun n => (HS n).fr 3
      have T5 : ∀ n, ((wr.drewN (1 + n)).setCell ⟨b, 3, none⟩ (.bool false)).cell? ⟨g1, k, none⟩ = some (.slice aa l.length l.length) := fun n => by
        obtain ⟨g, k', hv, h2⟩ := (HS n).b2.slc_at (by omega)
        injection hv with e1 e2 e5
        injection e1 with e1
        injection e1 with e1
        subst e1
        exact h2.slcC_rd hA
      have T6 : ∀ n, ((wr.drewN (1 + n)).setCell ⟨b, 3, none⟩ (.bool false)).cell? ⟨g2, k, none⟩ = some (.slice ca (ints l).length cc) := fun n => by
        obtain ⟨g, k', hv, h2⟩ := (HS n).b3.slc_at (by omega)
        injection hv with e1 e2 e5
        injection e1 with e1
        injection e1 with e1
        subst e1
        exact h2.slcC_rd hC
      simp only [List.size_toArray, List.length_cons, List.length_nil, List.getElem?_toArray, List.getElem?_cons_zero, List.getElem?_cons_succ] at T1 T2 T3
      clear hA hC hl rA rC H2 H3 HI
      go_wp2_with fail
      go_region_held3 (fun w' => w'.cell? ⟨b, 0, none⟩ = some (.slice (some ⟨g1, 0, none⟩) N k1) ∧ w'.cell? ⟨b, 1, none⟩ = some (.slice (some ⟨g2, 0, none⟩) N k2) ∧ w'.cell? ⟨b, 3, none⟩ = some (.bool false) ∧ w'.frozen? ⟨b, 3, none⟩ = false ∧ w'.cell? ⟨g1, k, none⟩ = some (.slice aa l.length l.length) ∧ w'.cell? ⟨g2, k, none⟩ = some (.slice ca (ints l).length cc)) (first | (exact ⟨T1 _, T2 _, T3 _, T4 _, T5 _, T6 _⟩) | go_keep)
        (first | (go_at_call 11; refine hsame.mono ?_; rintro e w2 ⟨rfl, n, rfl⟩))
      clear T1 T2 T3 T4 T5 T6
      go_wp2_with fail
      go_roundw
      case rel => exact ⟨k + 1, by omega, by go_num, HS _⟩
      case measure => simp [intOf]; omega
    · obtain rfl : k = N := by omega
      have HF := BookP.shut ⟨_, _, av, cv, ls, hd⟩ hx0 HI
      clear HI
      go_wp2
      go_ret
      exact ⟨rfl, HF⟩
end
end Go.Proofs.Ytdppdmmcnlmdgaa
