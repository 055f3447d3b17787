/-
  Merged texts of one proof: StkRow.
-/
import Derived.BigQuiet
import Derived.Deep.QuietTactic
import Derived.Deep.RegionLaw
import Derived.IntWalk
import Derived.StillTailTactics
import Derived.Test.YtogcikilphakmaaGreatDoorG05
import Derived.Test.YtogcikilphakmaaGreatDoorRows

/-
  shelf.Stack of row over the separation logic. Every stack, every element.
-/
namespace Go.Proofs.YtogcikilphakmaaGreatDoor
open Go.RowKit Spl

theorem stkInfo_row : (Tryz.prog.info? 127).map (fun i => (i.zero, i.size, i.bytes)) = some (some (.agg #[.string ⟨#[]⟩, .int .i64 0, .int .i64 0, .slice none 0 0, .string ⟨#[]⟩, .int .i64 0, .int .i64 0, .int .i64 0, .slice none 0 0]), 9, 120) := by kernel_rfl
section
variable {w0 w : World} {R : List Pr} {s o T : Nat} {C : Array Value} {v : Value} {l : List RowV}

/-- Len -/
theorem stkLen_row (H : Hd w0 (cel s T C :: SlE 127 v l :: R) w) (hC : C[o]? = some v) :
    Calls Tryz.prog 48 #[.pointer (some ⟨s, o, none⟩)] w fun e w' => e = .returned (.int .i64 l.length) ∧ w = w' := by
  have c0 : w.cell? ⟨s, o, none⟩ = some v := (H.rd o).trans hC
  obtain ⟨a, cap, rfl, _, _, _, _⟩ := H.b2.slc_form
  clear H hC
  go_enter Tryz.func48, Tryz.ntmps48
  go_wp2
  go_ret
  exact ⟨rfl, rfl⟩

set_option maxHeartbeats 1600000 in
/-- Push -/
theorem stkPush_row (H : Hd w0 (cel s T C :: SlE 127 v l :: R) w) (hC : C[o]? = some v) (hn : l.length ≤ 100000) (x : RowV) :
    Calls Tryz.prog 51 #[.pointer (some ⟨s, o, none⟩), .agg #[.string x.nm, .int .i64 x.lv, .int .i64 x.fr, .slice x.na x.nl x.nc, .string x.cd, .int .i64 x.p, .int .i64 x.f, .int .i64 x.g, .slice x.sa x.sl x.sc]] w fun e w' =>
      e = .returned (.tuple #[]) ∧ ∃ v', Hd w0 (cel s T (C.setIfInBounds o v') :: SlE 127 v' (l ++ [x]) :: R) w' := by
  obtain ⟨i0, hi, hz0, hz1, hz2⟩ := info_parts stkInfo_row
  obtain ⟨a, cap, rfl, _, _, _, _⟩ := H.b2.slc_form
  have HB := H.alloc (.cells #[.string x.nm, .int .i64 x.lv, .int .i64 x.fr, .slice x.na x.nl x.nc, .string x.cd, .int .i64 x.p, .int .i64 x.f, .int .i64 x.g, .slice x.sa x.sl x.sc] 127)
  have c0 := HB.b2.rd o
  rw [hC] at c0
  have HP0 : Hd w0 _ (((w.alloc (.cells #[.string x.nm, .int .i64 x.lv, .int .i64 x.fr, .slice x.na x.nl x.nc, .string x.cd, .int .i64 x.p, .int .i64 x.f, .int .i64 x.g, .slice x.sa x.sl x.sc] 127)).alloc (.cells #[.string x.nm, .int .i64 x.lv, .int .i64 x.fr, .slice x.na x.nl x.nc, .string x.cd, .int .i64 x.p, .int .i64 x.f, .int .i64 x.g, .slice x.sa x.sl x.sc] 127)).drew) := H.fol
  have HP := HP0.b4
  have g0 := HP.b4.rd o
  have k0 := HP.b4.fr o
  rw [hC] at g0
  have hnews := cel_news HP.b2
  have hS : ∀ {v' : Value} {L : List Pr} {w : World}, Hd w0 (Slc 127 9 v' (l.length + 1) (flat l ++ [.string x.nm, .int .i64 x.lv, .int .i64 x.fr, .slice x.na x.nl x.nc, .string x.cd, .int .i64 x.p, .int .i64 x.f, .int .i64 x.g, .slice x.sa x.sl x.sc]) :: L) w → Hd w0 (SlE 127 v' (l ++ [x]) :: L) w := by
    intro v' L w h
    have e1 : (l ++ [x]).length = l.length + 1 := by simp
    have e2 : flat (l ++ [x]) = flat l ++ [.string x.nm, .int .i64 x.lv, .int .i64 x.fr, .slice x.na x.nl x.nc, .string x.cd, .int .i64 x.p, .int .i64 x.f, .int .i64 x.g, .slice x.sa x.sl x.sc] := by rw [flat_append, flat_one]; rfl
    unfold SlE
    rw [e1, e2]
    exact h
  clear H
  go_enter Tryz.func51, Tryz.ntmps51
  go_wp2_with fail
  go_region_law (first | ((refine step_append_slc rfl _ _ 97 rfl 127 i0 _ 9 120 Tryz.underlying97 hi hz0 hz1 hz2 rfl _ _ _ rfl HP ⟨_, 0, none⟩ 1 1 _ rfl rfl hnews (Enc.one x) (by unfold maxLen; omega) (by omega) ?_); intro v' w2 H4; obtain ⟨a', cap', rfl, _, _, _, _⟩ := H4.slc_form; have d1 := H4.b4.rd o; have f6 := H4.b4.fr o; rw [hC] at d1))
  all_goals
    have HF := hS ((H4.b4.set o (.slice a' (l.length + 1) cap')).b2)
    go_wp2_with fail
    go_end0
    exact ⟨rfl, .slice a' (l.length + 1) cap', HF.re⟩

/-- At, where there is an element -/
theorem stkAt_row (H : Hd w0 (cel s T C :: SlE 127 v l :: R) w) (hC : C[o]? = some v) (hn : l.length ≤ 100000) (i : Nat) (x : RowV) (hx : l[i]? = some x) :
    Calls Tryz.prog 92 #[.pointer (some ⟨s, o, none⟩), .int .i64 i] w fun e w' => e = .returned (.tuple #[.agg #[.string x.nm, .int .i64 x.lv, .int .i64 x.fr, .slice x.na x.nl x.nc, .string x.cd, .int .i64 x.p, .int .i64 x.f, .int .i64 x.g, .slice x.sa x.sl x.sc], .bool true]) ∧ Hd w0 (cel s T C :: SlE 127 v l :: R) w' := by
  have HA : Hd w0 _ (w.alloc (.cells #[.string ⟨#[]⟩, .int .i64 0, .int .i64 0, .slice none 0 0, .string ⟨#[]⟩, .int .i64 0, .int .i64 0, .int .i64 0, .slice none 0 0] 127)) := H.fol
  have hi := lt_of_get? hx
  obtain ⟨g, cap, rfl, H2⟩ := HA.b3.slc_at (by omega)
  have c0 := HA.b2.rd o
  rw [hC] at c0
  have c1 : (w.alloc (.cells #[.string ⟨#[]⟩, .int .i64 0, .int .i64 0, .slice none 0 0, .string ⟨#[]⟩, .int .i64 0, .int .i64 0, .int .i64 0, .slice none 0 0] 127)).cell? ⟨g, i * 9, none⟩ = some (.string x.nm) := H2.slcC_rd (flat_at hx (j := 0) (u := .string x.nm) rfl)
  have c2 : (w.alloc (.cells #[.string ⟨#[]⟩, .int .i64 0, .int .i64 0, .slice none 0 0, .string ⟨#[]⟩, .int .i64 0, .int .i64 0, .int .i64 0, .slice none 0 0] 127)).cell? ⟨g, i * 9 + 1, none⟩ = some (.int .i64 x.lv) := H2.slcC_rd (flat_at hx (j := 1) (u := .int .i64 x.lv) rfl)
  have c3 : (w.alloc (.cells #[.string ⟨#[]⟩, .int .i64 0, .int .i64 0, .slice none 0 0, .string ⟨#[]⟩, .int .i64 0, .int .i64 0, .int .i64 0, .slice none 0 0] 127)).cell? ⟨g, i * 9 + 2, none⟩ = some (.int .i64 x.fr) := H2.slcC_rd (flat_at hx (j := 2) (u := .int .i64 x.fr) rfl)
  have c4 : (w.alloc (.cells #[.string ⟨#[]⟩, .int .i64 0, .int .i64 0, .slice none 0 0, .string ⟨#[]⟩, .int .i64 0, .int .i64 0, .int .i64 0, .slice none 0 0] 127)).cell? ⟨g, i * 9 + 3, none⟩ = some (.slice x.na x.nl x.nc) := H2.slcC_rd (flat_at hx (j := 3) (u := .slice x.na x.nl x.nc) rfl)
  have c5 : (w.alloc (.cells #[.string ⟨#[]⟩, .int .i64 0, .int .i64 0, .slice none 0 0, .string ⟨#[]⟩, .int .i64 0, .int .i64 0, .int .i64 0, .slice none 0 0] 127)).cell? ⟨g, i * 9 + 4, none⟩ = some (.string x.cd) := H2.slcC_rd (flat_at hx (j := 4) (u := .string x.cd) rfl)
  have c6 : (w.alloc (.cells #[.string ⟨#[]⟩, .int .i64 0, .int .i64 0, .slice none 0 0, .string ⟨#[]⟩, .int .i64 0, .int .i64 0, .int .i64 0, .slice none 0 0] 127)).cell? ⟨g, i * 9 + 5, none⟩ = some (.int .i64 x.p) := H2.slcC_rd (flat_at hx (j := 5) (u := .int .i64 x.p) rfl)
  have c7 : (w.alloc (.cells #[.string ⟨#[]⟩, .int .i64 0, .int .i64 0, .slice none 0 0, .string ⟨#[]⟩, .int .i64 0, .int .i64 0, .int .i64 0, .slice none 0 0] 127)).cell? ⟨g, i * 9 + 6, none⟩ = some (.int .i64 x.f) := H2.slcC_rd (flat_at hx (j := 6) (u := .int .i64 x.f) rfl)
  have c8 : (w.alloc (.cells #[.string ⟨#[]⟩, .int .i64 0, .int .i64 0, .slice none 0 0, .string ⟨#[]⟩, .int .i64 0, .int .i64 0, .int .i64 0, .slice none 0 0] 127)).cell? ⟨g, i * 9 + 7, none⟩ = some (.int .i64 x.g) := H2.slcC_rd (flat_at hx (j := 7) (u := .int .i64 x.g) rfl)
  have c9 : (w.alloc (.cells #[.string ⟨#[]⟩, .int .i64 0, .int .i64 0, .slice none 0 0, .string ⟨#[]⟩, .int .i64 0, .int .i64 0, .int .i64 0, .slice none 0 0] 127)).cell? ⟨g, i * 9 + 8, none⟩ = some (.slice x.sa x.sl x.sc) := H2.slcC_rd (flat_at hx (j := 8) (u := .slice x.sa x.sl x.sc) rfl)
  have HB := (H.alloc (.cells #[.string x.nm, .int .i64 x.lv, .int .i64 x.fr, .slice x.na x.nl x.nc, .string x.cd, .int .i64 x.p, .int .i64 x.f, .int .i64 x.g, .slice x.sa x.sl x.sc] 127)).tail
  clear H2 hx hC H HA
  go_enter Tryz.func92, Tryz.ntmps92
  go_wp2
  (try simp only [Exit.inBlock, Exit.then])
  refine bodyPost_ret (v := .tuple #[.agg #[.string x.nm, .int .i64 x.lv, .int .i64 x.fr, .slice x.na x.nl x.nc, .string x.cd, .int .i64 x.p, .int .i64 x.f, .int .i64 x.g, .slice x.sa x.sl x.sc], .bool true]) (by simp [results, Tryz.results92, go_sem]) rfl ⟨rfl, HB⟩
/-- .. where there is none -/
theorem stkAtNo_row (H : Hd w0 (cel s T C :: SlE 127 v l :: R) w) (hC : C[o]? = some v) (i : Int) (h : i < 0 ∨ l.length ≤ i) :
    Calls Tryz.prog 92 #[.pointer (some ⟨s, o, none⟩), .int .i64 i] w fun e w' => e = .returned (.tuple #[.agg #[.string ⟨#[]⟩, .int .i64 0, .int .i64 0, .slice none 0 0, .string ⟨#[]⟩, .int .i64 0, .int .i64 0, .int .i64 0, .slice none 0 0], .bool false]) ∧ Hd w0 (cel s T C :: SlE 127 v l :: R) w' := by
  have HA := ((H.alloc (.cells #[.string ⟨#[]⟩, .int .i64 0, .int .i64 0, .slice none 0 0, .string ⟨#[]⟩, .int .i64 0, .int .i64 0, .int .i64 0, .slice none 0 0] 127)).alloc (.cells #[.string ⟨#[]⟩, .int .i64 0, .int .i64 0, .slice none 0 0, .string ⟨#[]⟩, .int .i64 0, .int .i64 0, .int .i64 0, .slice none 0 0] 127)).tail.tail
  have c0 := (H.alloc (.cells #[.string ⟨#[]⟩, .int .i64 0, .int .i64 0, .slice none 0 0, .string ⟨#[]⟩, .int .i64 0, .int .i64 0, .int .i64 0, .slice none 0 0] 127)).b2.rd o
  rw [hC] at c0
  obtain ⟨a, cap, rfl, _, _, _, _⟩ := H.b2.slc_form
  clear H hC
  rcases h with h | h
  · go_enter Tryz.func92, Tryz.ntmps92
    go_wp2
    (try simp only [Exit.inBlock, Exit.then])
    refine bodyPost_ret (v := .tuple #[.agg #[.string ⟨#[]⟩, .int .i64 0, .int .i64 0, .slice none 0 0, .string ⟨#[]⟩, .int .i64 0, .int .i64 0, .int .i64 0, .slice none 0 0], .bool false]) (by simp [results, Tryz.results92, go_sem]) rfl ⟨rfl, HA⟩
  · have h0 : ¬ i < 0 := by omega
    go_enter Tryz.func92, Tryz.ntmps92
    go_wp2
    (try simp only [Exit.inBlock, Exit.then])
    refine bodyPost_ret (v := .tuple #[.agg #[.string ⟨#[]⟩, .int .i64 0, .int .i64 0, .slice none 0 0, .string ⟨#[]⟩, .int .i64 0, .int .i64 0, .int .i64 0, .slice none 0 0], .bool false]) (by simp [results, Tryz.results92, go_sem]) rfl ⟨rfl, HA⟩
end
end Go.Proofs.YtogcikilphakmaaGreatDoor
