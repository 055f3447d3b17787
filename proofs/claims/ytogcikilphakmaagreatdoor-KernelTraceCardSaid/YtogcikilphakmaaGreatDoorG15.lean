/-
  Merged texts of one proof: StkStarted.
-/
import Derived.BigQuiet
import Derived.Deep.QuietTactic
import Derived.Deep.RegionLaw
import Derived.IntWalk
import Derived.StillTailTactics
import Derived.Test.YtogcikilphakmaaGreatDoorG05
import Derived.Test.YtogcikilphakmaaGreatDoorRows

/-
  shelf.Stack of started over the separation logic. Every stack, every element.
-/
namespace Go.Proofs.YtogcikilphakmaaGreatDoor
open Go.RowKit Spl

theorem stkInfo_started : (Tryz.prog.info? 158).map (fun i => (i.zero, i.size, i.bytes)) = some (some (.pointer none), 1, 8) := by kernel_rfl
section
variable {w0 w : World} {R : List Pr} {s o T : Nat} {C : Array Value} {v : Value} {l : List Ptr}

/-- Len -/
theorem stkLen_started (H : Hd w0 (cel s T C :: SlE 158 v l :: R) w) (hC : C[o]? = some v) :
    Calls Tryz.prog 103 #[.pointer (some ⟨s, o, none⟩)] w fun e w' => e = .returned (.int .i64 l.length) ∧ w = w' := by
  have c0 : w.cell? ⟨s, o, none⟩ = some v := (H.rd o).trans hC
  obtain ⟨a, cap, rfl, _, _, _, _⟩ := H.b2.slc_form
  clear H hC
  go_enter Tryz.func103, Tryz.ntmps103
  go_wp2
  go_ret
  exact ⟨rfl, rfl⟩

/-- Push -/
theorem stkPush_started (H : Hd w0 (cel s T C :: SlE 158 v l :: R) w) (hC : C[o]? = some v) (hn : l.length ≤ 100000) (x : Ptr) :
    Calls Tryz.prog 98 #[.pointer (some ⟨s, o, none⟩), .pointer (some ⟨x.b, 0, none⟩)] w fun e w' =>
      e = .returned (.tuple #[]) ∧ ∃ v', Hd w0 (cel s T (C.setIfInBounds o v') :: SlE 158 v' (l ++ [x]) :: R) w' := by
  have c0 : w.cell? ⟨s, o, none⟩ = some v := (H.rd o).trans hC
  obtain ⟨i0, hi, hz0, hz1, hz2⟩ := info_parts stkInfo_started
  have H2 := (H.alloc (.cells #[.pointer (some ⟨x.b, 0, none⟩)] 158)).b3
  have hS : ∀ {v' : Value} {L : List Pr} {w : World}, Hd w0 (Slc 158 1 v' (l.length + 1) (flat l ++ [.pointer (some ⟨x.b, 0, none⟩)]) :: L) w → Hd w0 (SlE 158 v' (l ++ [x]) :: L) w := by
    intro v' L w h
    have e1 : (l ++ [x]).length = l.length + 1 := by simp
    have e2 : flat (l ++ [x]) = flat l ++ [.pointer (some ⟨x.b, 0, none⟩)] := by rw [flat_append, flat_one]; rfl
    unfold SlE
    rw [e1, e2]
    exact h
  go_enter Tryz.func98, Tryz.ntmps98
  go_wp2_with (at_builtin; refine wpList_append_slc rfl _ _ 90 rfl 158 i0 _ 1 8 Tryz.underlying90 hi hz0 hz1 hz2 rfl v _ _ rfl H2 ⟨w.heap.size, 0, none⟩ 1 1 [.pointer (some ⟨x.b, 0, none⟩)] rfl rfl (cell_one_new _ _ _) (by simp [Value.oneCell']) (by unfold maxLen; omega) (by omega) ?_; intro v' w1 H3; obtain ⟨a', cap', rfl, _, _, _, _⟩ := H3.slc_form; have c1 := H3.b3.rd; have f1 := H3.b3.fr)
  go_end0
  exact ⟨rfl, _, (hS ((H3.b3.set o _).b3.tail.b2)).b2⟩

/-- At, where there is an element -/
theorem stkAt_started (H : Hd w0 (cel s T C :: SlE 158 v l :: R) w) (hC : C[o]? = some v) (hn : l.length ≤ 100000) (i : Nat) (x : Ptr) (hx : l[i]? = some x) :
    Calls Tryz.prog 129 #[.pointer (some ⟨s, o, none⟩), .int .i64 i] w fun e w' => e = .returned (.tuple #[.pointer (some ⟨x.b, 0, none⟩), .bool true]) ∧ w = w' := by
  have c0 : w.cell? ⟨s, o, none⟩ = some v := (H.rd o).trans hC
  have hi := lt_of_get? hx
  obtain ⟨g, cap, rfl, H2⟩ := H.b2.slc_at (by omega)
  have c1 : w.cell? ⟨g, i, none⟩ = some (.pointer (some ⟨x.b, 0, none⟩)) := by
    have := H2.slcC_rd (flat_at hx (j := 0) (u := .pointer (some ⟨x.b, 0, none⟩)) rfl)
    simpa [Enc.size] using this
  clear H H2 hx hC
  go_enter Tryz.func129, Tryz.ntmps129
  go_wp2
  go_ret2
  exact ⟨rfl, rfl⟩
/-- .. where there is none -/
theorem stkAtNo_started (H : Hd w0 (cel s T C :: SlE 158 v l :: R) w) (hC : C[o]? = some v) (i : Int) (h : i < 0 ∨ l.length ≤ i) :
    Calls Tryz.prog 129 #[.pointer (some ⟨s, o, none⟩), .int .i64 i] w fun e w' => e = .returned (.tuple #[.pointer none, .bool false]) ∧ w = w' := by
  have c0 : w.cell? ⟨s, o, none⟩ = some v := (H.rd o).trans hC
  obtain ⟨a, cap, rfl, _, _, _, _⟩ := H.b2.slc_form
  clear H hC
  rcases h with h | h
  · go_enter Tryz.func129, Tryz.ntmps129
    go_wp2
    go_ret2
    exact ⟨rfl, rfl⟩
  · have h0 : ¬ i < 0 := by omega
    go_enter Tryz.func129, Tryz.ntmps129
    go_wp2
    go_ret2
    exact ⟨rfl, rfl⟩

/-- Top, where there is an element -/
theorem stkTop_started {x : Ptr} (H : Hd w0 (cel s T C :: SlE 158 v (l ++ [x]) :: R) w) (hC : C[o]? = some v) (hn : l.length < 100000) :
    Calls Tryz.prog 99 #[.pointer (some ⟨s, o, none⟩)] w fun e w' => e = .returned (.tuple #[.pointer (some ⟨x.b, 0, none⟩), .bool true]) ∧ w = w' := by
  have hlen : (l ++ [x]).length = l.length + 1 := by simp
  have hat := stkAt_started H hC (by omega) l.length x (by simp)
  have c0 := (H.rd o).trans hC
  obtain ⟨g, cap, rfl, H2⟩ := H.b2.slc_at (by omega)
  rw [hlen] at c0
  clear H H2 hC hlen
  go_enter Tryz.func99, Tryz.ntmps99
  go_wp2_with fail
  refine hat.mono ?_
  rintro e w' ⟨rfl, rfl⟩
  go_wp2_with fail
  go_ret2
  exact ⟨rfl, rfl⟩
/-- .. where there is none -/
theorem stkTopNo_started (H : Hd w0 (cel s T C :: SlE 158 v ([] : List Ptr) :: R) w) (hC : C[o]? = some v) :
    Calls Tryz.prog 99 #[.pointer (some ⟨s, o, none⟩)] w fun e w' => e = .returned (.tuple #[.pointer none, .bool false]) ∧ w = w' := by
  have hat := stkAtNo_started H hC (-1) (.inl (by decide))
  have c0 := (H.rd o).trans hC
  obtain ⟨a, cap, rfl, _, _, _, _⟩ := H.b2.slc_form
  clear H hC
  go_enter Tryz.func99, Tryz.ntmps99
  go_wp2_with fail
  refine hat.mono ?_
  rintro e w' ⟨rfl, rfl⟩
  go_wp2_with fail
  go_ret2
  exact ⟨rfl, rfl⟩

set_option maxRecDepth 20000 in
set_option maxHeartbeats 800000 in
/-- Pop, where there is an element -/
theorem stkPop_started {x : Ptr} (H : Hd w0 (cel s T C :: SlE 158 v (l ++ [x]) :: R) w) (hC : C[o]? = some v) (hn : l.length < 100000) :
    Calls Tryz.prog 169 #[.pointer (some ⟨s, o, none⟩)] w fun e w' => e = .returned (.tuple #[.pointer (some ⟨x.b, 0, none⟩), .bool true]) ∧ ∃ v', Hd w0 (cel s T (C.setIfInBounds o v') :: SlE 158 v' l :: R) w' := by
  have hlen : (l ++ [x]).length = l.length + 1 := by simp
  have htop := stkTop_started H hC hn
  have c0 := (H.rd o).trans hC
  have f0 := H.fr o
  obtain ⟨g, cap, rfl, H2⟩ := H.b2.slc_at (by omega)
  have hcap := H2.slcC.2.1
  have hcm := H2.slcC.2.2.1
  rw [hlen] at c0 hcap
  have cg : w.cell? ⟨g, l.length, none⟩ = some (.pointer (some ⟨x.b, 0, none⟩)) := by
    have := H2.slcC_rd (flat_at (l := l ++ [x]) (k := l.length) (x := x) (by simp) (j := 0) (u := .pointer (some ⟨x.b, 0, none⟩)) rfl)
    simpa [Enc.size] using this
  have fg := H2.slcC_fr l.length
  have HS := H2.slcC_set (j := l.length) (by rw [flat_len, hlen]; simp [Enc.size]) (.pointer none)
  have HS2 := HS.slcC_cut (k := l.length) (c := cap) (by omega) (by omega) (Nat.le_refl _)
  have e1 : ((flat (l ++ [x])).set l.length (.pointer none)).take (l.length * Enc.size Ptr) = flat l := by
    rw [List.take_set_of_le (by simp [Enc.size]), flat_take, List.take_left' rfl]
  rw [e1] at HS2
  have d0 := (HS2.b2.rd o).trans hC
  have k0 := HS2.b2.fr o
  rw [hlen] at d0
  have HF := (HS2.b2.set o (.slice (some ⟨g, 0, none⟩) l.length cap)).b2.slc_mk.b2
  clear hcm
  have hw : IntKind.i64.wrap (l.length : Int) = l.length := IntWalk.i64_in _ (by omega)
  have hlt : (l.length : Int) < (l.length : Int) + 1 := by omega
  have hlc : l.length ≤ cap := by omega
  clear H H2 HS HS2 hC hlen e1
  go_enter Tryz.func169, Tryz.ntmps169
  go_wp2_with fail
  refine htop.mono ?_
  rintro e w' ⟨rfl, rfl⟩
  go_wp2_with fail
  refine wp_region_still_tail 12 (by kernel_rfl) (by kernel_rfl) ?_
  simp only [List.take_succ_cons, List.take_zero, List.drop_succ_cons, List.drop_zero, World.drew_eq]
  (repeat still_step)
  refine wpStill_nil ?_
  go_wp2_with fail
  refine wp_region_still_tail 14 (by kernel_rfl) (by kernel_rfl) ?_
  simp only [List.take_succ_cons, List.take_zero, List.drop_succ_cons, List.drop_zero, World.drew_eq]
  (repeat still_step)
  refine wpStill_nil ?_
  go_wp2_with fail
  go_ret2
  exact ⟨rfl, _, HF.drew.drew⟩
end
end Go.Proofs.YtogcikilphakmaaGreatDoor
