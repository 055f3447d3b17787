/-
  From a walk of a law to its row: behind a call that returns true, with all old memory as it was, each argument reads as it did. Arguments opened: ints, slices of ints.
-/
import Derived.Test.YtdppdmmcnlmdgaaRows
import Derived.Test.YtdppdmmcnlmdgaaBook1
import Derived.ProofKit
import Derived.SizedLaws
import Derived.OpenShut
namespace Go.Proofs.Ytdppdmmcnlmdgaa
open Go.ChangeShapes Go.WideShapes Go.ChangeAt Go.RowKit Spl

theorem own : ownKnob Try.prog.godebug = none := by kernel_rfl
theorem laidOut : laidOutB Try.prog = true := by kernel_rfl
theorem cellsInt : Try.prog.cellsOf 3 = 1 := by kernel_rfl
theorem bytesInt : Try.prog.bytesOf 3 = 8 := by kernel_rfl

section
variable {H : Type} {enc : TypeId × Value → H} {P : Program} {W W' : World}
theorem trodAll_below (hl : laidOutB P = true) (hb : Below W.heap.size W W') : ∀ {ts : List TypeId} {vs : List Value} {ds : List (DataW H)} {ps : List MemPlace}, (∀ t ∈ ts, P.readableRec t = true ∧ t < P.types.size) →
    DataW.TrodAll enc P W 0 (fun _ => true) true ts vs ds ps → (∀ x ∈ ps, x.block < W.heap.size) → DataW.TrodAll enc P W' 0 (fun b => decide (b < W.heap.size)) true ts vs ds ps := by
  intro ts
  induction ts with
  | nil =>
    intro vs ds ps _ h _
    obtain ⟨rfl, rfl, rfl⟩ := trodAll_nil h
    exact trodAll_mk0
  | cons t ts ih =>
    intro vs ds ps hr h hlt
    obtain ⟨v, vs', d, ds', p, q, rfl, rfl, rfl, hd, hrest⟩ := trodAll_cons h
    have h1 := hr t List.mem_cons_self
    exact trodAll_cons_mk (Below.trod hl h1.1 h1.2 hd hb (fun x hx => hlt x (List.mem_append_left _ hx))) (ih (fun u hu => hr u (List.mem_cons_of_mem _ hu)) hrest (fun x hx => hlt x (List.mem_append_right _ hx)))

theorem law_post {f : Func} {s : ChangeSpec} {args : Array Value} {ds : List (DataW H)} {ps : List MemPlace} {tb : TypeId}
    (hl : laidOutB P = true) (hr : ∀ t ∈ f.params.toList, P.readableRec t = true ∧ t < P.types.size)
    (hW : DataW.Whole enc P f.params.toList s.vars false W args.toList ds [] ps) (hA : DataW.TrodAll enc P W 0 (fun _ => true) true f.params.toList args.toList ds ps)
    (hsr : (s.fn H (ds ++ [])).results = [.lit (.bool true)]) (hsa : (s.fn H (ds ++ [])).args = ds) (hsv : (s.fn H (ds ++ [])).vars = []) (hv : s.vars = [])
    (hrt : f.resultTypes = #[tb]) (hbool : P.underlying tb = some .bool) (hb : Below W.heap.size W W') : s.post enc P f false true false false W args (.bool true) W' := by
  refine ⟨ds, [], ps, [], ps, [], hW, ?_, ?_, ?_, hb.frame _, fun h => nomatch h⟩
  · rw [hsr, hrt]; exact trodAll_mk1 (shut_bool hbool _)
  · rw [hsa]; exact trodAll_below hl hb hr hA (fun x hx => hW.lt x hx)
  · rw [hv, hsv]; rfl
end

section
variable {H : Type} {enc : TypeId × Value → H} {W : World}
/-- A slice of ints that came in, as the walks read it. -/
theorem open_intsR {a0 : Option Addr} {len cap : Nat} {d : DataW H} {p : List MemPlace} (h : DataW.Trod enc Try.prog W 0 (fun _ => true) true 30 (.slice a0 len cap) d p) (hsz : ∀ elems spare, d = .slice elems spare → (elems.length + spare.length) * 8 ≤ reachBytes) :
    ∃ xs : List Int, Rds W (.slice a0 len cap) (ints xs) := by
  obtain ⟨fuel, hf⟩ := h
  rcases open_ints Try.underlying30 Try.underlying3 cellsInt hf with ⟨hcs, hx⟩ | ⟨a, len', cap', zs, hcs, _, hl, hm, hz, hx, hcell, hwz⟩
  · have : (a0 = none ∧ len = 0) ∧ cap = 0 := by simpa [Value.cells, and_assoc] using hcs
    obtain ⟨⟨rfl, rfl⟩, rfl⟩ := this
    exact ⟨[], none, 0, rfl, by simp [ints], fun h => by simp [ints] at h⟩
  · have : a0 = some a ∧ len = len' ∧ cap = cap' := by simpa [Value.cells] using hcs
    obtain ⟨rfl, rfl, rfl⟩ := this
    have hlz : (zs.take len).length = len := by simp at hz ⊢; omega
    refine ⟨zs.take len, some a, cap, by rw [ints_len, hlz], ?_, fun hn => ?_⟩
    · rw [ints_len, hlz]
      simp only [Prod.mk.injEq] at hx
      have := hsz _ _ hx.1
      simp only [lits, List.length_map, List.length_take, List.length_drop, reachBytes] at this
      simp at hz
      omega
    · rw [ints_len, hlz] at hn
      obtain ⟨b, off, spot⟩ := a
      have h0 := hcell 0 (by simp at hz; omega)
      have hspot : spot = none := by simpa [Addr.add] using World.cell?_spot h0
      subst hspot
      refine ⟨b, off, rfl, fun j u hj => ?_⟩
      have hjl : j < (zs.take len).length := by simpa [ints_len] using lt_of_get? hj
      rw [hlz] at hjl
      have hc := hcell j (by simp at hz; omega)
      have e : (⟨b, off, none⟩ : Addr).add j = ⟨b, off + j, none⟩ := Addr.add_lit _ _ _
      rw [e] at hc
      rw [hc]
      have hjz : j < zs.length := by simp at hz; omega
      simp [ints, hjl, List.getD, hjz] at hj ⊢
      exact hj
end
end Go.Proofs.Ytdppdmmcnlmdgaa
