/-
  Package release over the separation logic: a clock's tasks in memory; Len, Push, At, List of its stack; New, Now, of. Every argument.
-/
import Derived.Test.YtdppdmmcnlmdgaaRows
import Derived.Test.YtdppdmmcnlmdgaaSlc
import Derived.StillTailTactics
import Derived.Deep.QuietTactic
import Derived.BigQuiet
namespace Go.Proofs.Ytdppdmmcnlmdgaa
open Go.RowKit Spl

theorem infoPat : (Try.prog.info? 70).map (fun i => (i.zero, i.size, i.bytes)) = some (some (.pointer none), 1, 8) := by kernel_rfl
theorem infoInt : (Try.prog.info? 3).map (fun i => (i.zero, i.size, i.bytes)) = some (some (.int .i64 0), 1, 8) := by kernel_rfl

def pp (b : Nat) : Value := .pointer (some ⟨b, 0, none⟩)

section
variable {w0 w : World} {R : List Pr} {s o T : Nat} {C : Array Value} {v : Value} {n : Nat} {xs : List Value}

/-- (*Stack[*pattern]).Len -/
theorem patLen (H : Hd w0 (cel s T C :: Slc 70 1 v n xs :: R) w) (hC : C[o]? = some v) :
    Calls Try.prog 27 #[.pointer (some ⟨s, o, none⟩)] w fun e w' => e = .returned (.int .i64 n) ∧ w = w' := by
  have c0 : w.cell? ⟨s, o, none⟩ = some v := (H.rd o).trans hC
  obtain ⟨a, cap, rfl, _, _, _, _⟩ := H.b2.slc_form
  go_enter Try.func27, Try.ntmps27
  go_wp2
  go_ret
  exact ⟨rfl, rfl⟩

/-- (*Stack[*pattern]).Push -/
theorem patPush (H : Hd w0 (cel s T C :: Slc 70 1 v n xs :: R) w) (hC : C[o]? = some v) (hn : n ≤ 1000000) (b : Nat) :
    Calls Try.prog 29 #[.pointer (some ⟨s, o, none⟩), pp b] w fun e w' =>
      e = .returned (.tuple #[]) ∧ ∃ v', Hd w0 (cel s T (C.setIfInBounds o v') :: Slc 70 1 v' (n + 1) (xs ++ [pp b]) :: R) w' := by
  have c0 : w.cell? ⟨s, o, none⟩ = some v := (H.rd o).trans hC
  obtain ⟨i0, hi, hz0, hz1, hz2⟩ := info_parts infoPat
  have H2 := (H.alloc (.cells #[pp b] 70)).b3
  unfold pp at H2 ⊢
  go_enter Try.func29, Try.ntmps29
  go_wp2_with (at_builtin; refine wpList_append_slc rfl _ _ 65 rfl 70 i0 _ 1 8 Try.underlying65 hi hz0 hz1 hz2 rfl v n xs rfl H2 ⟨w.heap.size, 0, none⟩ 1 1 [pp b] rfl rfl (cell_one_new _ _ _) (by simp [pp, Value.oneCell']) (by unfold maxLen; omega) (by omega) ?_; intro v' w1 H3; obtain ⟨a', cap', rfl, _, _, _, _⟩ := H3.slc_form; have c1 := H3.b3.rd; have f1 := H3.b3.fr)
  go_end0
  exact ⟨rfl, _, (H3.b3.set o _).b3.tail⟩

/-- (*Stack[*pattern]).At, where there is an element -/
theorem patAt_in (H : Hd w0 (cel s T C :: Slc 70 1 v n xs :: R) w) (hC : C[o]? = some v) (hn : n ≤ 1000000) (i : Nat) (b : Nat) (hx : xs[i]? = some (pp b)) :
    Calls Try.prog 38 #[.pointer (some ⟨s, o, none⟩), .int .i64 i] w fun e w' => e = .returned (.tuple #[pp b, .bool true]) ∧ w = w' := by
  have c0 : w.cell? ⟨s, o, none⟩ = some v := (H.rd o).trans hC
  have hl := H.b2.slc_len
  have hi : i < n := by have := lt_of_get? hx; omega
  obtain ⟨g, cap, rfl, H2⟩ := H.b2.slc_at (by omega)
  have c1 := H2.slcC_rd hx
  unfold pp at c1 ⊢
  clear H H2 hx hl hC
  go_enter Try.func38, Try.ntmps38
  go_wp2
  go_ret2
  exact ⟨rfl, rfl⟩
/-- (*Stack[*pattern]).At, where there is none -/
theorem patAt_out (H : Hd w0 (cel s T C :: Slc 70 1 v n xs :: R) w) (hC : C[o]? = some v) (i : Int) (h : i < 0 ∨ n ≤ i) :
    Calls Try.prog 38 #[.pointer (some ⟨s, o, none⟩), .int .i64 i] w fun e w' => e = .returned (.tuple #[.pointer none, .bool false]) ∧ w = w' := by
  have c0 : w.cell? ⟨s, o, none⟩ = some v := (H.rd o).trans hC
  obtain ⟨a, cap, rfl, _, _, _, _⟩ := H.b2.slc_form
  clear H hC
  rcases h with h | h
  · go_enter Try.func38, Try.ntmps38
    go_wp2
    go_ret2
    exact ⟨rfl, rfl⟩
  · have h0 : ¬ i < 0 := by omega
    go_enter Try.func38, Try.ntmps38
    go_wp2
    go_ret2
    exact ⟨rfl, rfl⟩
end

section
variable {w0 w : World} {R : List Pr} {s o T : Nat} {C : Array Value} {v : Value} {n : Nat} {xs : List Value}
/-- shelf.copied[*pattern]: the same cells in a new block without spare room. -/
theorem patCopied (H : Hd w0 (Slc 70 1 v n xs :: R) w) (hn : n ≤ 1000000) (h1 : ∀ u ∈ xs, u.oneCell' = true) :
    Calls Try.prog 37 #[v] w fun e w' => ∃ g, e = .returned (.slice (some ⟨g, 0, none⟩) n n) ∧
      Hd w0 (SlcC 70 1 g n n xs :: Slc 70 1 v n xs :: R) w' := by
  obtain ⟨i0, hi, hz0, hz1, hz2⟩ := info_parts infoPat
  obtain ⟨a, cap, rfl, hcap, hcm, hl, hc⟩ := H.slc_form
  go_enter Try.func37, Try.ntmps37
  go_wp2_with (first | (at_make; refine wpList_make_slc rfl _ _ 65 rfl 70 i0 _ 1 Try.underlying65 hi hz0 hz1 rfl _ _ _ _ 0 n rfl rfl rfl rfl (by omega) (by rw [hz2]; omega) (by unfold maxLen; omega) H ?_; intro w1 H1; rw [madeCells_zero] at H1; obtain ⟨hs1, hs2⟩ := H1.b2.slc_news) | (at_builtin; refine wpList_append_fits_any_slc rfl _ _ 65 rfl 70 i0 1 Try.underlying65 hi hz1 _ 0 n [] rfl H1 _ n _ xs rfl hl hs1 hs2 h1 (by omega) ?_; intro w2 H2; rw [Nat.zero_add]))
  go_ret
  exact ⟨_, rfl, by simpa using H2⟩
end
end Go.Proofs.Ytdppdmmcnlmdgaa
