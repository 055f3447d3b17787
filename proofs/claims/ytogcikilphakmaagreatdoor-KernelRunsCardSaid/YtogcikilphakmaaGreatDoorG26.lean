/-
  Merged texts of one proof: Wi1.
-/
import Derived.Test.YtogcikilphakmaaGreatDoorG11
import Derived.Test.YtogcikilphakmaaGreatDoorG19

/-
  Queue.All of the waiting jobs, its closure hands out all with their numbers to a body that never leaves.
-/
namespace Go.Proofs.YtogcikilphakmaaGreatDoor
open Go.RowKit Spl

attribute [local go_sem] Oper.semAt_some
section
variable {w0 w : World} {R : List Pr} {l : List WaitM}
set_option maxRecDepth 20000 in
theorem allQw {t o : Nat} (H : Hd w0 R w) : Calls Tryz.prog 132 #[.pointer (some ⟨t, o, none⟩)] w fun e w' => ∃ b, e = .returned (.func (.func 154) #[] #[.pointer (some ⟨b, 0, none⟩)]) ∧ Hd w0 (cel b 283 #[.pointer (some ⟨t, o, none⟩)] :: R) w' := by
  have HA : Hd w0 _ (w.alloc (.cells #[.pointer (some ⟨t, o, none⟩)] 283)) := H.fol
  go_enter Tryz.func132, Tryz.ntmps132
  go_wp2_with fail
  go_ret
  exact ⟨_, rfl, HA⟩
abbrev waitA (x : WaitM) : Array Value := #[.int .i64 x.job, .int .i64 x.task, .int .i64 x.level]
abbrev encW (p : WaitM × Nat) : Array Value := #[.int .i64 p.2, .agg (waitA p.1)]
set_option maxRecDepth 100000 in
set_option maxHeartbeats 4000000 in
theorem seqWait {b s o T f : Nat} {C : Array Value} {v : Value} {gar : List Value} (hC : C[o]? = some v) (hC1 : C[o + 1]? = some (.int .i64 f)) (hg : gar.length = f * 3) (hf : f ≤ 100000) (hn : l.length ≤ 100000) :
    SeqHd Tryz.prog 154 #[.pointer (some ⟨b, 0, none⟩)] encW w0 (cel b 283 #[.pointer (some ⟨s, o, none⟩)] :: cel s T C :: Slc 37 3 v (f + l.length) (gar ++ flat l) :: R) l.zipIdx := by
  intro lp Y W n H hY
  have c0 := (show _ = some (.pointer (some ⟨s, o, none⟩)) from (H.k b).ce 0 rfl)
  have H1 : Hd w0 (cel s T C :: Slc 37 3 v (f + l.length) (gar ++ flat l) :: Y 0 :: cel b 283 #[.pointer (some ⟨s, o, none⟩)] :: R) W := H.re
  have hcp := qList_wait H1 hC hC1 hg hf hn
  have hcpI := callsIn_wide (n := n - 1).2 hcp
  have hn' := Lib.hid hn
  clear hcp H H1 hC hC1
  refine callsIn_of_wp Tryz.func154 rfl trivial ?_ rfl
  simp only [Tryz.ntmps154, List.size_toArray, List.length_cons, List.length_nil, Nat.reduceAdd, Nat.reduceSub, Array.replicate_succ, Array.replicate_zero, List.push_toArray, List.append_toArray, List.nil_append, List.cons_append]
  gi_wp2_with (first | (refine ⟨trivial, fun h => (by cases h), ?_⟩; refine hcpI.mono ?_; rintro e W1 ⟨g, rfl, H2⟩))
  clear hcpI
  gi_loopw [8] (fun i wr => ∃ k : Nat, k ≤ l.length ∧ i = .int .i64 k ∧ Hd w0 (Y k :: SlEC 37 g l.length l :: cel s T C :: Slc 37 3 v (f + l.length) (gar ++ flat l) :: cel b 283 #[.pointer (some ⟨s, o, none⟩)] :: R) wr) (fun i _ => l.length - (intOf i).toNat)
  case atStart => exact ⟨0, Nat.zero_le _, rfl, H2.re⟩
  case round =>
    obtain ⟨k, hk, rfl, HI⟩ := hrel
    by_cases hlt : k < l.length
    · obtain ⟨x, hx⟩ : ∃ x, l[k]? = some x := ⟨l[k], List.getElem?_eq_getElem hlt⟩
      have f0 := HI.b2.slcC_rd (flat_at hx (j := 0) rfl)
      have f1 := HI.b2.slcC_rd (flat_at hx (j := 1) rfl)
      have f2 := HI.b2.slcC_rd (flat_at hx (j := 2) rfl)
      simp only [Enc.size, Nat.add_zero] at f0 f1 f2
      have HA : Hd w0 _ (wr.alloc (.cells #[.int .i64 x.job, .int .i64 x.task, .int .i64 x.level] 37)) := HI.fol
      have hz : l.zipIdx[k]? = some (x, k) := by simp [List.getElem?_zipIdx, hx]
      obtain ⟨fn, tmps, assign, body, hy, hR⟩ := hY k (x, k) _ _ (n - 1) hz HA.b2
      have q0 := (show _ = some (Value.int .i64 x.job) from HA.ce 0 rfl)
      have q1 := (show _ = some (Value.int .i64 x.task) from HA.ce 1 rfl)
      have q2 := (show _ = some (Value.int .i64 x.level) from HA.ce 2 rfl)
      have n4 : ¬ (k : Int) < 0 := by omega
      have n5 : (k : Int) < l.length := by omega
      have n6 : ¬ l.length ≤ k := by omega
      have g5 : IntKind.i64.wrap ((k : Int) + 1) = (k : Int) + 1 := IntWalk.i64_in _ (by have := hn'.out; omega)
      replace hx := Lib.hid hx
      replace hz := Lib.hid hz
      clear HA HI
      gi_wp2
      refine ⟨fun h => (by cases h), ?_⟩
      refine hR.mono ?_
      rintro e W3 ⟨rfl, H6⟩
      gi_wp2
      refine ⟨⟨k + 1, by omega, by go_num, Hd.re H6⟩, by simp [intOf]; omega⟩
    · obtain rfl : k = l.length := by omega
      gi_wp2
      go_end0
      rw [List.length_zipIdx]
      exact ⟨⟨_, rfl⟩, HI.re⟩
end
end Go.Proofs.YtogcikilphakmaaGreatDoor
