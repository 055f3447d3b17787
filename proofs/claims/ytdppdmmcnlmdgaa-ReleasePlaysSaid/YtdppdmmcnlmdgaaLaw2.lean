/-
  Arguments opened: a task, a call of chapter 10's scripts, a list of such calls, as the walks read them.
-/
import Derived.Test.YtdppdmmcnlmdgaaLaw
import Derived.Test.YtdppdmmcnlmdgaaRel7
import Derived.Deep.Slices
import Derived.Lib.SmallJoins
namespace Go.Proofs.Ytdppdmmcnlmdgaa
open Go.ChangeShapes Go.WideShapes Go.ChangeAt Go.RowKit Spl Go.Deep

theorem cellsStr : Try.prog.cellsOf 9 = 1 := by kernel_rfl
theorem cellsNeeds : Try.prog.cellsOf 27 = 1 := by kernel_rfl
theorem cellsOp : Try.prog.cellsOf 50 = 10 := by kernel_rfl
theorem bytesOp : Try.prog.bytesOf 50 = 112 := by kernel_rfl
theorem cellsTask : Try.prog.cellsOf 29 = 8 := by kernel_rfl

section
variable {H : Type} {enc : TypeId × Value → H} {w : World} {base : Nat} {spare : Nat → Bool} {held : Bool}
theorem task_cells {fuel : Nat} {cs : List Value} {x : DataW H × List MemPlace} (h : DataW.trod enc Try.prog w base spare held fuel 29 cs = some x) : ∃ t : TaskR, cs = t.cells := by
  obtain ⟨xs, n, _, _, hlen, _, hf⟩ := DataW.trod_struct Try.underlying29 h
  rw [cellsTask] at hlen
  match cs, hlen with
  | [c0, c1, c2, c3, c4, c5, c6, c7], _ =>
    have g : ∀ (i : Nat) (f : Field), _ → ∃ y, DataW.trod enc Try.prog w base spare held n f.type (([c0, c1, c2, c3, c4, c5, c6, c7].drop f.offset).take (Try.prog.cellsOf f.type)) = some y := fun i f hi => by
      have h1 := hf i f hi
      have h2 : i < xs.length := by
        have := (Array.getElem?_eq_some_iff.1 hi).1
        omega
      rw [List.getElem?_eq_getElem h2] at h1
      exact ⟨_, h1⟩
    obtain ⟨y0, h0⟩ : ∃ y, DataW.trod enc Try.prog w base spare held n 9 (([c0, c1, c2, c3, c4, c5, c6, c7].drop 0).take (Try.prog.cellsOf 9)) = some y := g 0 _ rfl
    obtain ⟨y1, h1⟩ : ∃ y, DataW.trod enc Try.prog w base spare held n 3 (([c0, c1, c2, c3, c4, c5, c6, c7].drop 1).take (Try.prog.cellsOf 3)) = some y := g 1 _ rfl
    obtain ⟨y2, h2⟩ : ∃ y, DataW.trod enc Try.prog w base spare held n 3 (([c0, c1, c2, c3, c4, c5, c6, c7].drop 2).take (Try.prog.cellsOf 3)) = some y := g 2 _ rfl
    obtain ⟨y3, h3⟩ : ∃ y, DataW.trod enc Try.prog w base spare held n 27 (([c0, c1, c2, c3, c4, c5, c6, c7].drop 3).take (Try.prog.cellsOf 27)) = some y := g 3 _ rfl
    obtain ⟨y4, h4⟩ : ∃ y, DataW.trod enc Try.prog w base spare held n 9 (([c0, c1, c2, c3, c4, c5, c6, c7].drop 4).take (Try.prog.cellsOf 9)) = some y := g 4 _ rfl
    obtain ⟨y5, h5⟩ : ∃ y, DataW.trod enc Try.prog w base spare held n 3 (([c0, c1, c2, c3, c4, c5, c6, c7].drop 5).take (Try.prog.cellsOf 3)) = some y := g 5 _ rfl
    obtain ⟨y6, h6⟩ : ∃ y, DataW.trod enc Try.prog w base spare held n 3 (([c0, c1, c2, c3, c4, c5, c6, c7].drop 6).take (Try.prog.cellsOf 3)) = some y := g 6 _ rfl
    obtain ⟨y7, h7⟩ : ∃ y, DataW.trod enc Try.prog w base spare held n 3 (([c0, c1, c2, c3, c4, c5, c6, c7].drop 7).take (Try.prog.cellsOf 3)) = some y := g 7 _ rfl
    rw [cellsStr] at h0 h4
    rw [cellsInt] at h1 h2 h5 h6 h7
    rw [cellsNeeds] at h3
    obtain ⟨s0, e0, _⟩ := DataW.trod_string Try.underlying9 h0
    obtain ⟨n1, e1, _⟩ := DataW.trod_int Try.underlying3 h1
    obtain ⟨n2, e2, _⟩ := DataW.trod_int Try.underlying3 h2
    obtain ⟨a3, l3, k3, e3⟩ := Joins.slice_form Try.underlying27 h3
    obtain ⟨s4, e4, _⟩ := DataW.trod_string Try.underlying9 h4
    obtain ⟨n5, e5, _⟩ := DataW.trod_int Try.underlying3 h5
    obtain ⟨n6, e6, _⟩ := DataW.trod_int Try.underlying3 h6
    obtain ⟨n7, e7, _⟩ := DataW.trod_int Try.underlying3 h7
    simp at e0 e1 e2 e3 e4 e5 e6 e7
    exact ⟨⟨s0, n1, n2, a3, l3, k3, s4, n5, n6, n7⟩, by simp [TaskR.cells, e0, e1, e2, e3, e4, e5, e6, e7]⟩
theorem op_cells {fuel : Nat} {cs : List Value} {x : DataW H × List MemPlace} (h : DataW.trod enc Try.prog w base spare held fuel 50 cs = some x) : ∃ t : OpR, cs = t.cells := by
  obtain ⟨xs, n, _, _, hlen, _, hf⟩ := DataW.trod_struct Try.underlying50 h
  rw [cellsOp] at hlen
  match cs, hlen with
  | [c0, c1, c2, c3, c4, c5, c6, c7, c8, c9], _ =>
    have g : ∀ (i : Nat) (f : Field), _ → ∃ y, DataW.trod enc Try.prog w base spare held n f.type (([c0, c1, c2, c3, c4, c5, c6, c7, c8, c9].drop f.offset).take (Try.prog.cellsOf f.type)) = some y := fun i f hi => by
      have h1 := hf i f hi
      have h2 : i < xs.length := by
        have := (Array.getElem?_eq_some_iff.1 hi).1
        omega
      rw [List.getElem?_eq_getElem h2] at h1
      exact ⟨_, h1⟩
    obtain ⟨y0, h0⟩ : ∃ y, DataW.trod enc Try.prog w base spare held n 3 (([c0, c1, c2, c3, c4, c5, c6, c7, c8, c9].drop 0).take (Try.prog.cellsOf 3)) = some y := g 0 _ rfl
    obtain ⟨y1, h1⟩ : ∃ y, DataW.trod enc Try.prog w base spare held n 3 (([c0, c1, c2, c3, c4, c5, c6, c7, c8, c9].drop 1).take (Try.prog.cellsOf 3)) = some y := g 1 _ rfl
    obtain ⟨y2, h2⟩ : ∃ y, DataW.trod enc Try.prog w base spare held n 29 (([c0, c1, c2, c3, c4, c5, c6, c7, c8, c9].drop 2).take (Try.prog.cellsOf 29)) = some y := g 2 _ rfl
    rw [cellsInt] at h0 h1
    rw [cellsTask] at h2
    obtain ⟨n0, e0, _⟩ := DataW.trod_int Try.underlying3 h0
    obtain ⟨n1, e1, _⟩ := DataW.trod_int Try.underlying3 h1
    obtain ⟨t, e2⟩ := task_cells h2
    simp at e0 e1 e2
    exact ⟨⟨n0, n1, t⟩, by simp [OpR.cells, e0, e1, ← e2]⟩

/-- A list of calls that came in, as the walks read it. -/
theorem open_opsR {W : World} {a0 : Option Addr} {len cap : Nat} {d : DataW H} {p : List MemPlace} (h : DataW.Trod enc Try.prog W 0 (fun _ => true) true 40 (.slice a0 len cap) d p) (hsz : ∀ elems spare, d = .slice elems spare → (elems.length + spare.length) * 112 ≤ reachBytes) :
    ∃ ops : List OpR, RdO W (.slice a0 len cap) ops := by
  obtain ⟨fuel, hf⟩ := h
  rcases open_slice Try.underlying40 hf with ⟨hcs, hx⟩ | ⟨a, len', cap', m, n, D, Pl, hcs, _, hl, hm, hmm, hx, hi⟩
  · have : (a0 = none ∧ len = 0) ∧ cap = 0 := by simpa [Value.cells, and_assoc] using hcs
    obtain ⟨⟨rfl, rfl⟩, rfl⟩ := this
    exact ⟨[], none, 0, rfl, by simp, by simp, fun h => by simp at h⟩
  · have : a0 = some a ∧ len = len' ∧ cap = cap' := by simpa [Value.cells] using hcs
    obtain ⟨rfl, rfl, rfl⟩ := this
    simp only [if_true] at hmm
    subst hmm
    have hel : ∀ i, i < m → ∃ t : OpR, ∀ j u, t.cells[j]? = some u → W.cell? (a.add (i * 10 + j)) = some u := by
      intro i him
      obtain ⟨cs', hc, ht⟩ := hi i him
      rw [cellsOp] at hc
      obtain ⟨t, rfl⟩ := op_cells ht
      obtain ⟨_, hcl, hat⟩ := World.cells?_some hc
      refine ⟨t, fun j u hj => ?_⟩
      have hjl : j < 10 := by have := lt_of_get? hj; simpa [OpR.cells, TaskR.cells] using this
      have h1 := hat j hjl
      rw [add_add] at h1
      rw [h1]
      exact hj
    have hch : ∃ f : Nat → OpR, ∀ i, i < m → ∀ j u, (f i).cells[j]? = some u → W.cell? (a.add (i * 10 + j)) = some u := by
      refine ⟨fun i => if h : i < m then (hel i h).choose else ⟨0, 0, ⟨⟨#[]⟩, 0, 0, none, 0, 0, ⟨#[]⟩, 0, 0, 0⟩⟩, fun i him => ?_⟩
      simp only [him, dif_pos]
      exact (hel i him).choose_spec
    obtain ⟨f, hf'⟩ := hch
    refine ⟨(List.range len).map f, some a, m, by simp, ?_, by simpa using hl, fun hn => ?_⟩
    · simp only [Prod.mk.injEq] at hx
      have := hsz _ _ hx.1
      simp only [List.length_map, List.length_range, reachBytes] at this
      simp only [List.length_map, List.length_range]
      omega
    · simp only [List.length_map, List.length_range] at hn
      obtain ⟨b, off, spot⟩ := a
      have h0 := hf' 0 (by omega) 0 _ rfl
      have hspot : spot = none := by simpa [Addr.add] using World.cell?_spot h0
      subst hspot
      refine ⟨b, off, rfl, fun k x hx j u hj => ?_⟩
      have hk := lt_of_get? hx
      simp only [List.length_map, List.length_range] at hk
      simp [hk] at hx
      subst hx
      have hc := hf' k (by omega) j u hj
      have e : (⟨b, off, none⟩ : Addr).add (k * 10 + j) = ⟨b, off + (k * 10 + j), none⟩ := Addr.add_lit _ _ _
      rwa [e] at hc
/-- A task that came in by value. -/
theorem open_taskR {v : Value} {W : World} {d : DataW H} {p : List MemPlace} {b0 : Nat} (hv : Value.okWide Try.prog W .any b0 29 v) (h : DataW.Trod enc Try.prog W 0 (fun _ => true) true 29 v d p) : ∃ t : TaskR, v = .agg t.cells.toArray := by
  obtain ⟨cs, rfl, hsz⟩ := okWide_struct Try.underlying29 hv
  obtain ⟨fuel, hf⟩ := h
  obtain ⟨t, ht⟩ := task_cells hf
  exact ⟨t, by rw [← ht]; simp [Value.cells]⟩
theorem open_opR {v : Value} {W : World} {d : DataW H} {p : List MemPlace} {b0 : Nat} (hv : Value.okWide Try.prog W .any b0 50 v) (h : DataW.Trod enc Try.prog W 0 (fun _ => true) true 50 v d p) : ∃ t : OpR, v = .agg t.cells.toArray := by
  obtain ⟨cs, rfl, hsz⟩ := okWide_struct Try.underlying50 hv
  obtain ⟨fuel, hf⟩ := h
  obtain ⟨t, ht⟩ := op_cells hf
  exact ⟨t, by rw [← ht]; simp [Value.cells]⟩
end
end Go.Proofs.Ytdppdmmcnlmdgaa
