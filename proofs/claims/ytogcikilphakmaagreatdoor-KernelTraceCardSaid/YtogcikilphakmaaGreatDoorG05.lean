/-
  Merged texts of one proof: Mix, Arena2.
-/
import Derived.Deep.RegionHeld
import Derived.Deep.RegionHeld3
import Derived.OrdersHeld
import Derived.StillTail
import Derived.Test.YtogcikilphakmaaGreatDoorG04
import Derived.WalkKit

/-
  A region that draws its order, walked in ONE order: what only reads cells that the region leaves alone (a condition S on the world) is taken first, what makes memory or calls comes up when nothing else can, a tail of forced order ends it. No program in sight.
-/
namespace Go.Proofs.YtogcikilphakmaaGreatDoor
open Go

section
variable {P : Program} {ops : Array Oper} {Q : Exit → Act → World → Prop} {md : Region.Mode} {S : World → Prop} {m : Nat}

def mixQ (Q : Exit → Act → World → Prop) (X : Act → World → Prop) : Exit → Act → World → Prop
  | .normal, a, w => X a w
  | .exit i, a, w => Q (.exit i) a w
  | .goto l, a, w => Q (.goto l) a w
  | .ret, a, w => Q .ret a w
  | .panic c, a, w => Q (.panic c) a w
  | .outgrown, a, w => Q .outgrown a w
theorem mixQ_in {X : Act → World → Prop} {a : Act} {w : World} (hS : S w) (h : X a w) : mixQ Q (fun a w => S w ∧ X a w) .normal a w := ⟨hS, h⟩

/-- Whatever order is picked of the operations below m, S holds behind each; then L. -/
def wpAnyM (P : Program) (md : Region.Mode) (ops : Array Oper) (Q : Exit → Act → World → Prop) (S : World → Prop) (m : Nat) (L : Array Bool → Act → World → Prop) : Nat → Array Bool → Act → World → Prop
  | 0, listed, a, w => L listed a w
  | f + 1, listed, a, w => Region.ready md ops listed ≠ [] ∧ ∀ i ∈ Region.ready md ops listed, i < m ∧ wpOp P ops Q i (fun a' w' => S w' ∧ wpAnyM P md ops Q S m L f (listed.setIfInBounds i true) a' w') a w

theorem wpAny_of_M {g : Nat} {L : Array Bool → Act → World → Prop} (hL : ∀ listed a w, L listed a w → wpAny P md ops Q g listed a w) :
    ∀ (f : Nat) (listed : Array Bool) (a : Act) (w : World), wpAnyM P md ops Q S m L f listed a w → wpAny P md ops Q (f + g) listed a w
  | 0, listed, a, w, h => by rw [Nat.zero_add]; exact hL _ _ _ h
  | f + 1, listed, a, w, h => by
    rw [show f + 1 + g = (f + g) + 1 by omega]
    exact ⟨fun h0 => absurd h0 h.1, fun i hi => wpOp_mono (fun a' w' h' => wpAny_of_M hL f _ a' w' h'.2) (h.2 i hi).2⟩

/-- One of them that yields in every world that meets S may be taken first. -/
theorem wpAnyM_first {i : Nat} {oi : Oper} {v : Value} {L : Array Bool → Act → World → Prop} (hi : ops[i]? = some oi) (hsel : ∀ (j : Nat) (o : Oper) cs b, ops[j]? = some o → o.op ≠ .select cs b)
    (hQ : ∀ c a w, Q (.panic c) (a.put oi.dst v) w → Q (.panic c) a w)
    (htail : ∀ listed, HeadInv md ops m listed → ∀ i, i < m → listed.getD i true = false → ∀ t, m ≤ t → t ∉ Region.ready md ops listed) (him : i < m)
    (hdone : ∀ listed a w, L listed a w → ∀ j ∈ Region.ready md ops listed, m ≤ j) :
    ∀ (f : Nat) (listed : Array Bool) (a : Act) (w : World), HeadInv md ops m listed →
      (∀ j oj, ops[j]? = some oj → j ≠ i → listed.getD j true = false → (∀ e ∈ oj.after, Region.binds md e = true → e.on ≠ i) → oi.apart ops oj = true) →
      i ∈ Region.ready md ops listed → YieldsIf P ops S oi v a → S w →
      wpAnyM P md ops Q S m L f (listed.setIfInBounds i true) (a.put oi.dst v) w → wpAnyM P md ops Q S m L (f + 1) listed a w := by
  intro f
  induction f with
  | zero =>
    intro listed a w inv _ hr hy hS H
    have hun := (mem_ready.1 hr).1
    refine ⟨fun h => (by rw [h] at hr; cases hr), fun j hj => ?_⟩
    have hjn : j < m := by
      rcases Nat.lt_or_ge j m with h | h
      · exact h
      · exact absurd hj (htail listed inv i him hun j h)
    refine ⟨hjn, ?_⟩
    by_cases hji : j = i
    · subst hji; exact hy.wpOp hi hS ⟨hS, H⟩
    · have := hdone _ _ _ H j (ready_mono hj hji)
      omega
  | succ f ih =>
    intro listed a w inv hfree hr hy hS H
    have hun := (mem_ready.1 hr).1
    refine ⟨fun h => (by rw [h] at hr; cases hr), fun j hj => ?_⟩
    have hjn : j < m := by
      rcases Nat.lt_or_ge j m with h | h
      · exact h
      · exact absurd hj (htail listed inv i him hun j h)
    refine ⟨hjn, ?_⟩
    by_cases hji : j = i
    · subst hji; exact hy.wpOp hi hS ⟨hS, H⟩
    · have h1 := (H.2 j (ready_mono hj hji)).2
      obtain ⟨hjun, oj, hoj, hall⟩ := mem_ready.1 hj
      have hnot : ∀ e ∈ oj.after, Region.binds md e = true → e.on ≠ i := fun e he hb heq => by
        have h1 := hall e he hb
        rw [heq, getD_both hun] at h1
        cases h1
      have h2 := wpOp_putIf hoj (hfree j oj hoj hji hjun hnot) (fun cs b => hsel i oi cs b hi) (fun cs b => hsel j oj cs b hoj) hQ hy h1
      have hfree' : ∀ k ok, ops[k]? = some ok → k ≠ i → (listed.setIfInBounds j true).getD k true = false →
          (∀ e ∈ ok.after, Region.binds md e = true → e.on ≠ i) → oi.apart ops ok = true := fun k ok hk hki hun hno => by
        refine hfree k ok hk hki ?_ hno
        by_cases hjk : j = k
        · subst hjk; exact hjun
        · rw [getD_set_ne true hjk] at hun; exact hun
      refine wpOp_mono (fun a' w' h3 => ⟨h3.2.1, ih (listed.setIfInBounds j true) a' w' (inv.set hj hjn) hfree' (ready_mono hr (Ne.symm hji)) h3.1 h3.2.1 ?_⟩) h2
      rw [Array.setIfInBounds_comm _ _ hji]
      exact h3.2.2

/-- The order in which the operations below m are walked (true: one that yields wherever S holds) fits the edges; behind them the tail is forced. -/
def mixB (md : Region.Mode) (ops : Array Oper) (m : Nat) : List (Nat × Bool) → Array Bool → Bool
  | [], listed => Region.seqB md ops (ops.size - m) m listed
  | (k, true) :: r, listed => decide (k < m) && (Region.ready md ops listed).contains k && Region.free md ops listed k && mixB md ops m r (listed.setIfInBounds k true)
  | (k, false) :: r, listed => decide (k < m) && decide (Region.ready md ops listed = [k]) && mixB md ops m r (listed.setIfInBounds k true)
def mixOk (md : Region.Mode) (ops : Array Oper) (m : Nat) (ord : List (Nat × Bool)) : Bool :=
  Region.noSelect ops && decide (m < ops.size) && Region.sinkB md ops m && Region.chainB md ops m && decide (ord.length = m) && mixB md ops m ord (Array.replicate ops.size false)

/-- The walk in that order. -/
def wpMix (P : Program) (ops : Array Oper) (Q : Exit → Act → World → Prop) (S : World → Prop) (T : Act → World → Prop) : List (Nat × Bool) → Act → World → Prop
  | [], a, w => T a w
  | (k, true) :: r, a, w => ∃ o v, ops[k]? = some o ∧ YieldsIf P ops S o v a ∧ wpMix P ops Q S T r (a.put o.dst v) w
  | (k, false) :: r, a, w => ∃ o, ops[k]? = some o ∧ wpList P ops (mixQ Q fun a' w' => S w' ∧ wpMix P ops Q S T r a' w') [o] a w

theorem mix_head {T : Act → World → Prop} {k : Nat} {r : List (Nat × Bool)} {o : Oper} {v : Value} {a : Act} {w : World} (hi : ops[k]? = some o) (hw : Region.wanted o (yielded ops a.tmps) = true)
    (hy : ∀ w', S w' → (execOp a.eval o).run P w' = .ok (.value v) w') (h : wpMix P ops Q S T r (a.put o.dst v) w) : wpMix P ops Q S T ((k, true) :: r) a w :=
  ⟨o, v, hi, .inl ⟨hw, hy⟩, h⟩
theorem mix_mid {T : Act → World → Prop} {k : Nat} {r : List (Nat × Bool)} {o : Oper} {a : Act} {w : World} (hi : ops[k]? = some o)
    (h : wpList P ops (mixQ Q fun a' w' => S w' ∧ wpMix P ops Q S T r a' w') [o] a w) : wpMix P ops Q S T ((k, false) :: r) a w := ⟨o, hi, h⟩
theorem mix_end {T : Act → World → Prop} {a : Act} {w : World} (h : T a w) : wpMix P ops Q S T [] a w := h

theorem wp_of_mixQ {X : Act → World → Prop} {o : Oper} {a : Act} {w : World} {K : Act → World → Prop} (h : o.wp P a w K (mixQ Q X)) : o.wp P a w K Q := by
  unfold Oper.wp at *
  generalize (execOp a.eval o).run P w = r at *
  cases r with
  | ok n w' => cases n <;> exact h
  | halt x w' => cases x <;> exact h
theorem wpOp_of_mixQ {X : Act → World → Prop} {k : Nat} {o : Oper} {a : Act} {w : World} (hi : ops[k]? = some o) (h : wpList P ops (mixQ Q X) [o] a w) : wpOp P ops Q k X a w := by
  unfold wpOp
  simp only [hi]
  simp only [wpList] at h
  split
  · rename_i hw
    rw [if_pos hw] at h
    rcases h with h | ⟨h1, h2⟩
    · exact .inl (wp_of_mixQ h)
    · exact .inr ⟨h1, h2⟩
  · rename_i hw
    rw [if_neg hw] at h
    exact h

theorem wpAnyM_mix (hsel : Region.noSelect ops = true) (htail : ∀ listed, HeadInv md ops m listed → ∀ i, i < m → listed.getD i true = false → ∀ t, m ≤ t → t ∉ Region.ready md ops listed)
    (hQ : ∀ c (a : Act) d v w, Q (.panic c) (a.put d v) w → Q (.panic c) a w) :
    ∀ (ord : List (Nat × Bool)) (listed : Array Bool) (a : Act) (w : World), HeadInv md ops m listed → mixB md ops m ord listed = true → S w →
      wpMix P ops Q S (wpList P ops Q (ops.toList.drop m)) ord a w →
      wpAnyM P md ops Q S m (fun listed' a' w' => Region.seqB md ops (ops.size - m) m listed' = true ∧ wpList P ops Q (ops.toList.drop m) a' w') ord.length listed a w
  | [], listed, a, w, _, hB, _, h => ⟨hB, h⟩
  | (k, true) :: r, listed, a, w, inv, hB, hS, h => by
    obtain ⟨o, v, hi, hy, h⟩ := h
    simp only [mixB, Bool.and_eq_true, decide_eq_true_eq] at hB
    obtain ⟨⟨⟨hkm, hr⟩, hf⟩, hB'⟩ := hB
    have hr' : k ∈ Region.ready md ops listed := by simpa using hr
    exact wpAnyM_first hi (Region.noSelect_spec hsel) (fun c a w => hQ c a _ _ w) htail hkm (fun listed' a' w' hL => seqB_ready hL.1) r.length listed a w inv (Region.free_spec hi hf) hr' hy hS
      (wpAnyM_mix hsel htail hQ r _ _ w (inv.set hr' hkm) hB' hS h)
  | (k, false) :: r, listed, a, w, inv, hB, hS, h => by
    obtain ⟨o, hi, h⟩ := h
    simp only [mixB, Bool.and_eq_true, decide_eq_true_eq] at hB
    obtain ⟨⟨hkm, hr⟩, hB'⟩ := hB
    have hr' : k ∈ Region.ready md ops listed := by rw [hr]; exact List.mem_singleton.2 rfl
    refine ⟨fun h0 => (by rw [hr] at h0; cases h0), fun j hj => ?_⟩
    rw [hr] at hj
    obtain rfl : j = k := List.mem_singleton.1 hj
    exact ⟨hkm, wpOp_mono (fun a' w' h' => ⟨h'.1, wpAnyM_mix hsel htail hQ r _ a' w' (inv.set hr' hkm) hB' h'.1 h'.2⟩) (wpOp_of_mixQ hi h)⟩

/-- The region, walked so. -/
theorem wp_region_mix {id : Nat} {l : List Oper} {a : Act} {w : World} (m : Nat) (ord : List (Nat × Bool)) (S : World → Prop) (hf : P.follows .mixedOrders = true) (hB : mixOk .any l.toArray m ord = true) (hS : S w.drew)
    (hQ : ∀ c (a : Act) d v w, Q (.panic c) (a.put d v) w → Q (.panic c) a w)
    (h : wpMix P l.toArray Q S (wpList P l.toArray Q (l.drop m)) ord a w.drew) : (Code.region id l.toArray true).wp P Q a w := by
  simp only [mixOk, Bool.and_eq_true, decide_eq_true_eq] at hB
  obtain ⟨⟨⟨⟨⟨hsel, hm⟩, hs⟩, hc⟩, hlen⟩, hord⟩ := hB
  refine wp_region_any hf ?_
  have inv0 : HeadInv .any l.toArray m (Array.replicate l.toArray.size false) :=
    ⟨by simp, fun j oj _ hl => (by rw [getD_replicate_false] at hl; cases hl), fun t _ ht => getD_in (by simpa using ht) (getD_replicate_false _ _)⟩
  have H := wpAnyM_mix (P := P) (Q := Q) (S := S) hsel (fun _ inv i hi hun t ht => tail_waits hs hc hm inv _ i rfl hi hun t ht) hQ ord _ a w.drew inv0 hord hS h
  have hdl : (l.drop m).length = l.toArray.size - m := by simp
  have H2 := wpAny_of_M (g := (l.drop m).length) (fun listed a w hL => wpAny_of_seq (l.drop m) m listed a w (fun j => by simp) (by rw [hdl]; exact hL.1) hL.2) ord.length _ _ _ H
  have e : ord.length + (l.drop m).length = l.toArray.size := by rw [hlen, hdl]; omega
  rw [e] at H2
  exact H2

def mixOk0 (md : Region.Mode) (ops : Array Oper) (ord : List (Nat × Bool)) : Bool :=
  Region.noSelect ops && decide (ord.length = ops.size) && mixB md ops ops.size ord (Array.replicate ops.size false)
/-- .. no tail: each of its operations is in the order. -/
theorem wp_region_mix0 {id : Nat} {l : List Oper} {a : Act} {w : World} (ord : List (Nat × Bool)) (S : World → Prop) (hf : P.follows .mixedOrders = true) (hB : mixOk0 .any l.toArray ord = true) (hS : S w.drew)
    (hQ : ∀ c (a : Act) d v w, Q (.panic c) (a.put d v) w → Q (.panic c) a w)
    (h : wpMix P l.toArray Q S (fun a w => Q .normal a w) ord a w.drew) : (Code.region id l.toArray true).wp P Q a w := by
  simp only [mixOk0, Bool.and_eq_true, decide_eq_true_eq] at hB
  obtain ⟨⟨hsel, hlen⟩, hord⟩ := hB
  refine wp_region_any hf ?_
  have inv0 : HeadInv .any l.toArray l.toArray.size (Array.replicate l.toArray.size false) :=
    ⟨by simp, fun j oj _ hl => (by rw [getD_replicate_false] at hl; cases hl), fun t h1 h2 => absurd h2 (Nat.not_lt.2 h1)⟩
  have hd : l.toArray.toList.drop l.toArray.size = [] := by simp
  have H := wpAnyM_mix (P := P) (Q := Q) (S := S) hsel (fun _ _ i hi hun t ht hr => by
    obtain ⟨_, o, ho, _⟩ := mem_ready.1 hr
    have := (Array.getElem?_eq_some_iff.1 ho).1
    omega) hQ ord _ a w.drew inv0 hord hS (by rw [hd]; exact h)
  rw [hd] at H
  have H2 := wpAny_of_M (g := 0) (fun listed a w hL => by
    have h1 := hL.1
    rw [Nat.sub_self] at h1
    exact (⟨by simpa [Region.seqB] using h1, hL.2⟩ : wpAny P .any l.toArray Q 0 listed a w)) ord.length _ _ _ H
  rw [Nat.add_zero, hlen] at H2
  exact H2
end
end Go.Proofs.YtogcikilphakmaaGreatDoor

/-
  Package arena over the separation logic: Open, Close. Every arena.
-/
namespace Go.Proofs.YtogcikilphakmaaGreatDoor
open Go.RowKit Spl
section
variable {w0 w : World} {R : List Pr} {a : Nat} {m : ArM}

theorem frs_snoc (g : Nat) (l : List FrM) (s : Nat) : frs g 0 (l ++ [⟨s, []⟩]) = frs g 0 l ++ [.slice (some ⟨g, if s = 0 then 0 else usedL l, none⟩) 0 s] := by
  rw [frs_append]; simp [frs]

set_option maxRecDepth 20000 in
set_option maxHeartbeats 3200000 in
theorem arOpen (H : Hd w0 (ArP a m :: R) w) (hm : m.Ok) (hfew : m.fr.length < 10000) (size : Int) :
    Calls Tryz.prog 97 #[.pointer (some ⟨a, 0, none⟩), .int .i64 size] w fun e w' => e = .returned (.int .i64 (m.openE size)) ∧ Hd w0 (ArP a (m.openF size) :: R) w' := by
  have hroom := arRoom H hm
  by_cases hn : size < 0
  · have e1 : m.openE size = 1 := by unfold ArM.openE; rw [if_pos hn]
    have e2 : m.openF size = m := by unfold ArM.openF; rw [e1]; rfl
    rw [e1, e2]
    clear e1 e2
    go_enter Tryz.func97, Tryz.ntmps97
    go_wp2
    go_ret
    exact ⟨rfl, H⟩
  · by_cases hbig : (m.n : Int) - m.used < size
    · have e1 : m.openE size = 11 := by unfold ArM.openE; rw [if_neg hn, if_pos hbig]
      have e2 : m.openF size = m := by unfold ArM.openF; rw [e1]; rfl
      rw [e1, e2]
      clear e1 e2
      go_enter Tryz.func97, Tryz.ntmps97
      go_wp2_with fail
      refine hroom.mono ?_
      rintro e w' ⟨rfl, n, rfl⟩
      go_wp2_with fail
      go_ret
      exact ⟨rfl, H.fin⟩
    · obtain ⟨s, rfl⟩ : ∃ s : Nat, size = s := ⟨size.toNat, by omega⟩
      have e1 : m.openE s = 0 := by unfold ArM.openE; rw [if_neg hn, if_neg hbig]
      have e2 : m.openF s = ⟨m.n, m.fr ++ [⟨s, []⟩], max m.high (m.used + s)⟩ := by unfold ArM.openF; rw [e1]; simp
      rw [e1, e2]
      have hu := hm.used
      have hN := hm.n
      have hhi := hm.high2
      obtain ⟨g, v, H1⟩ := ArP.opened H
      obtain ⟨x, cap, rfl, _, _, _, _⟩ := (H1.v v).slc_form
      have c0 := H1.rd 0
      have c1 := H1.rd 1
      have c2 := H1.rd 2
      have hw : IntKind.i64.wrap ((m.used : Int) + s) = (m.used : Int) + s := IntWalk.i64_in _ (by omega)
      have b1 : (m.used : Int) ≤ (m.used : Int) + s := by omega
      have b2 : (m.used : Int) + s ≤ m.n := by omega
      have b3 : (0 : Int) ≤ (m.used : Int) + s := by omega
      have b4 : ((m.used : Int) + s).toNat = m.used + s := by omega
      have hM := Lib.hid hm
      obtain ⟨i0, hi, hz0, hz1, hz2⟩ := info_parts arInfoS
      obtain ⟨A, hA⟩ : ∃ A : Nat, A = if s = 0 then 0 else m.used := ⟨_, rfl⟩
      have hA' := Lib.hid hA
      have hfit : ∀ {w' : World} {v' : Value} {L : List Pr}, Hd w0 (Slc 26 1 v' (m.fr.length + 1) (frs g 0 m.fr ++ [.slice (some ⟨g, A, none⟩) 0 s]) :: cel a 156 #[.slice (some ⟨g, 0, none⟩) m.n m.n, v', .int .i64 ((m.used : Int) + s), .int .i64 (max m.high (m.used + s) : Nat)] :: SlcC 3 1 g m.n m.n (flat m.words) :: L) w' →
          Hd w0 (ArP a ⟨m.n, m.fr ++ [⟨s, []⟩], max m.high (m.used + s)⟩ :: L) w' := by
        intro w' v' L h
        have hu2 : ArM.used ⟨m.n, m.fr ++ [⟨s, []⟩], max m.high (m.used + s)⟩ = m.used + s := ArM.used_snoc
        have hw2 : ArM.words ⟨m.n, m.fr ++ [⟨s, []⟩], max m.high (m.used + s)⟩ = m.words := by
          unfold ArM.words
          rw [hu2, wordsL_append, wordsL_one]
          unfold FrM.words
          show wordsL m.fr ++ ([] ++ zeros (s - 0)) ++ zeros (m.n - (m.used + s)) = _
          rw [List.nil_append, List.append_assoc, ← zeros_add, show s - 0 + (m.n - (m.used + s)) = m.n - m.used from by omega]
        refine ArP.shut (m := ⟨m.n, m.fr ++ [⟨s, []⟩], max m.high (m.used + s)⟩) (g := g) (v := v') ?_
        show Hd w0 (cel a 156 #[.slice (some ⟨g, 0, none⟩) m.n m.n, v', .int .i64 (ArM.used ⟨m.n, m.fr ++ [⟨s, []⟩], max m.high (m.used + s)⟩ : Nat), .int .i64 (max m.high (m.used + s) : Nat)] :: SlcC 3 1 g m.n m.n (flat (ArM.words ⟨m.n, m.fr ++ [⟨s, []⟩], max m.high (m.used + s)⟩)) :: Slc 26 1 v' (m.fr ++ [(⟨s, []⟩ : FrM)]).length (frs g 0 (m.fr ++ [⟨s, []⟩])) :: L) w'
        have e3 : (m.fr ++ [(⟨s, []⟩ : FrM)]).length = m.fr.length + 1 := by simp
        have e4 : (if s = 0 then 0 else usedL m.fr) = A := hA.symm
        rw [hu2, hw2, frs_snoc, e3, e4, Int.natCast_add]
        exact h.re
      clear hm e1 e2 hn hbig H
      by_cases hs0 : s = 0
      · subst hs0
        rw [if_pos rfl] at hA
        subst hA
        have hw0 : IntKind.i64.wrap (m.used : Int) = m.used := IntWalk.i64_in _ (by omega)
        clear hw b1 b2 b3 b4
        go_enter Tryz.func97, Tryz.ntmps97
        go_wp2_with fail
        refine hroom.mono ?_
        rintro e w' ⟨rfl, n, rfl⟩
        go_wp2_with fail
        refine wp_region_mix 26 [(0, true), (1, true), (2, true), (3, true), (4, true), (5, true), (6, true), (7, true), (8, true), (9, true), (10, true), (11, true), (12, true), (13, true), (14, true), (15, true), (16, true), (17, true), (18, true), (19, true), (20, true), (21, true), (22, true), (23, true), (24, false), (25, false)] (fun w' => w'.cell? ⟨a, 0, none⟩ = some (.slice (some ⟨g, 0, none⟩) m.n m.n) ∧ w'.cell? ⟨a, 1, none⟩ = some (.slice x m.fr.length cap) ∧ w'.cell? ⟨a, 2, none⟩ = some (.int .i64 m.used)) (by kernel_rfl) (by kernel_rfl) (⟨c0, c1, c2⟩) (fun _ _ d _ _ h => by cases d <;> exact h) ?_
        simp only [List.drop_succ_cons, List.drop_zero]
        iterate 24 (refine mix_head (o := _) (v := ?_) (by (simp only [List.getElem?_toArray, List.getElem?_cons_succ, List.getElem?_cons_zero]); rfl) (by rfl) (fun w' hS => ?_) ?_; rotate_left 1; (focus ((try dsimp only at hS); (try go_split_ands); go_simp; (try with_reducible rfl))); (try simp only [Act.put, List.setIfInBounds_toArray, List.set_cons_zero, List.set_cons_succ]))
        refine mix_mid (o := _) (by (simp only [List.getElem?_toArray, List.getElem?_cons_succ, List.getElem?_cons_zero]); rfl) ?_
        go_wp2_with fail
        refine mixQ_in ⟨by go_keep, by go_keep, by go_keep⟩ ?_
        refine mix_mid (o := _) (by (simp only [List.getElem?_toArray, List.getElem?_cons_succ, List.getElem?_cons_zero]); rfl) ?_
        go_wp2_with (at_builtin; (refine wpList_append_slc rfl _ _ 154 rfl 26 i0 _ 1 24 Tryz.underlying154 hi hz0 hz1 hz2 rfl _ _ _ rfl ((Hd.fol H1 : Hd w0 _ _).v (.slice x m.fr.length cap)) ⟨_, 0, none⟩ 1 1 [.slice (some ⟨g, 0, none⟩) 0 0] rfl rfl (one_new (by simp)) (by simp [Value.oneCell']) (by unfold maxLen; omega) (by omega) ?_); intro v' w2 H4; obtain ⟨a', cap', rfl, _, _, _, _⟩ := H4.slc_form)
        have hk := H4.k a
        have d0 := hk.rd 0
        have d1 := hk.rd 1
        have d2 := hk.rd 2
        have d3 := hk.rd 3
        have f1 := hk.fr 1
        have f2 := hk.fr 2
        have f3 := hk.fr 3
        clear hk
        refine mixQ_in ⟨d0, d1, d2⟩ ?_
        refine mix_end ?_
        clear c0 c1 c2
        have H5 : Hd w0 _ (w2.setCell ⟨a, 1, none⟩ (.slice a' (m.fr.length + 1) cap')) := H4.fol
        go_wp2_with fail
        refine wp_region_still_tail 12 (by kernel_rfl) (by kernel_rfl) ?_
        simp only [List.take_succ_cons, List.take_zero, List.drop_succ_cons, List.drop_zero, World.drew_eq]
        (repeat still_step)
        refine wpStill_nil ?_
        go_wp2_with fail
        all_goals
          go_ret
          refine ⟨rfl, hfit (v' := .slice a' (m.fr.length + 1) cap') ?_⟩
          first
            | (rw [show ((max m.high (m.used + 0) : Nat) : Int) = (m.used : Int) + ((0 : Nat) : Int) from by omega]; rw [Int.natCast_zero, Int.add_zero]; exact H4.fin)
            | (rw [show ((max m.high (m.used + 0) : Nat) : Int) = (m.high : Int) from by omega]; rw [Int.natCast_zero, Int.add_zero]; exact H4.fin)
      · rw [if_neg hs0] at hA
        subst hA
        go_enter Tryz.func97, Tryz.ntmps97
        go_wp2_with fail
        refine hroom.mono ?_
        rintro e w' ⟨rfl, n, rfl⟩
        go_wp2_with fail
        refine wp_region_mix 26 [(0, true), (1, true), (2, true), (3, true), (4, true), (5, true), (6, true), (7, true), (8, true), (9, true), (10, true), (11, true), (12, true), (13, true), (14, true), (15, true), (16, true), (17, true), (18, true), (19, true), (20, true), (21, true), (22, true), (23, true), (24, false), (25, false)] (fun w' => w'.cell? ⟨a, 0, none⟩ = some (.slice (some ⟨g, 0, none⟩) m.n m.n) ∧ w'.cell? ⟨a, 1, none⟩ = some (.slice x m.fr.length cap) ∧ w'.cell? ⟨a, 2, none⟩ = some (.int .i64 m.used)) (by kernel_rfl) (by kernel_rfl) (⟨c0, c1, c2⟩) (fun _ _ d _ _ h => by cases d <;> exact h) ?_
        simp only [List.drop_succ_cons, List.drop_zero]
        iterate 24 (refine mix_head (o := _) (v := ?_) (by (simp only [List.getElem?_toArray, List.getElem?_cons_succ, List.getElem?_cons_zero]); rfl) (by rfl) (fun w' hS => ?_) ?_; rotate_left 1; (focus ((try dsimp only at hS); (try go_split_ands); go_simp; (try with_reducible rfl))); (try simp only [Act.put, List.setIfInBounds_toArray, List.set_cons_zero, List.set_cons_succ]))
        refine mix_mid (o := _) (by (simp only [List.getElem?_toArray, List.getElem?_cons_succ, List.getElem?_cons_zero]); rfl) ?_
        go_wp2_with fail
        refine mixQ_in ⟨by go_keep, by go_keep, by go_keep⟩ ?_
        refine mix_mid (o := _) (by (simp only [List.getElem?_toArray, List.getElem?_cons_succ, List.getElem?_cons_zero]); rfl) ?_
        go_wp2_with (at_builtin; (refine wpList_append_slc rfl _ _ 154 rfl 26 i0 _ 1 24 Tryz.underlying154 hi hz0 hz1 hz2 rfl _ _ _ rfl ((Hd.fol H1 : Hd w0 _ _).v (.slice x m.fr.length cap)) ⟨_, 0, none⟩ 1 1 [.slice (some ⟨g, m.used, none⟩) 0 s] rfl rfl (one_new (by simp)) (by simp [Value.oneCell']) (by unfold maxLen; omega) (by omega) ?_); intro v' w2 H4; obtain ⟨a', cap', rfl, _, _, _, _⟩ := H4.slc_form)
        have hk := H4.k a
        have d0 := hk.rd 0
        have d1 := hk.rd 1
        have d2 := hk.rd 2
        have d3 := hk.rd 3
        have f1 := hk.fr 1
        have f2 := hk.fr 2
        have f3 := hk.fr 3
        clear hk
        refine mixQ_in ⟨d0, d1, d2⟩ ?_
        refine mix_end ?_
        clear c0 c1 c2
        have H5 : Hd w0 _ (w2.setCell ⟨a, 1, none⟩ (.slice a' (m.fr.length + 1) cap')) := H4.fol
        go_wp2_with fail
        refine wp_region_still_tail 12 (by kernel_rfl) (by kernel_rfl) ?_
        simp only [List.take_succ_cons, List.take_zero, List.drop_succ_cons, List.drop_zero, World.drew_eq]
        (repeat still_step)
        refine wpStill_nil ?_
        go_wp2_with fail
        all_goals
          go_ret
          refine ⟨rfl, hfit (v' := .slice a' (m.fr.length + 1) cap') ?_⟩
          first
            | (rw [show ((max m.high (m.used + s) : Nat) : Int) = (m.used : Int) + ((s : Nat) : Int) from by omega]; exact H4.fin)
            | (rw [show ((max m.high (m.used + s) : Nat) : Int) = (m.high : Int) from by omega]; exact H4.fin)

set_option maxRecDepth 20000 in
set_option maxHeartbeats 1600000 in
theorem arClose (H : Hd w0 (ArP a m :: R) w) (hm : m.Ok) :
    Calls Tryz.prog 170 #[.pointer (some ⟨a, 0, none⟩)] w fun e w' => e = .returned (.int .i64 m.closeE) ∧ Hd w0 (ArP a m.close :: R) w' := by
  rcases nil_or_snoc m.fr with e | ⟨init, f, e⟩
  · have e1 : m.closeE = 6 := by unfold ArM.closeE; rw [if_pos e]
    have e2 : m.close = m := by unfold ArM.close; cases m; simp_all
    rw [e1, e2]
    obtain ⟨g, u, H1⟩ := ArP.opened H
    obtain ⟨x, cap, rfl, _, _, _, _⟩ := (H1.v u).slc_form
    rw [e] at H1
    have hl := arLastNo H1
    clear H1 e1 e2 e
    go_enter Tryz.func170, Tryz.ntmps170
    go_wp2_with fail
    refine hl.mono ?_
    rintro e w' ⟨rfl, rfl⟩
    go_wp2_with fail
    go_ret
    exact ⟨rfl, H⟩
  · obtain ⟨h1, h2⟩ := ArM.snoc_last e
    have hfew := hm.few
    rw [e] at hfew
    simp at hfew
    obtain ⟨g, h, cap, hcap, hfl, H1⟩ := ArP.snoc H hm e
    have hl := arLast H1 (by omega)
    have hb1 := hm.used
    have hb2 := hm.n
    have hu : m.used = usedL init + f.size := by unfold ArM.used; rw [e, usedL_append, usedL_one]
    have e1 : m.closeE = 0 := by unfold ArM.closeE; rw [if_neg (by rw [e]; simp)]
    have e2 : m.close = ⟨m.n, init, m.high⟩ := by unfold ArM.close; rw [h2]
    rw [e1, e2]
    have HG : Hd w0 (SlcC 3 1 g m.n m.n (flat m.words) :: _) w := H1.k g
    obtain ⟨_, _, hmx, sp, hsp, HG2⟩ := HG.slcC
    have hli := wordsL_len (l := init) (fun x hx => hm.laid x (by rw [e]; exact List.mem_append_left _ hx))
    have ew : flat m.words ++ sp = flat (wordsL init) ++ (flat f.words ++ (flat (zeros (m.n - m.used)) ++ sp)) := by
      unfold ArM.words
      rw [e, wordsL_append, wordsL_one]
      simp [flat_append]
    rw [ew] at HG2 hsp
    obtain ⟨oo, hoo⟩ : ∃ oo, oo = if f.size = 0 then 0 else usedL init := ⟨_, rfl⟩
    rw [← hoo] at H1 HG2
    have hpre : f.size = 0 ∨ (flat (wordsL init)).length = oo := by
      by_cases h0 : f.size = 0
      · exact .inl h0
      · right; rw [hoo, if_neg h0, flat_len, hli]; simp [Enc.size]
    have hold : (flat f.words).length = f.size := by rw [flat_len, FrM.words_len hfl]; simp [Enc.size]
    have hfin : ∀ {w' : World} {L : List Pr}, Hd w0 (cel a 156 #[.slice (some ⟨g, 0, none⟩) m.n m.n, .slice (some ⟨h, 0, none⟩) init.length cap, .int .i64 ((m.used : Int) - f.size), .int .i64 m.high] :: cel g 3 (flat (wordsL init) ++ (List.replicate f.size (Value.int .i64 0) ++ (flat (zeros (m.n - m.used)) ++ sp))).toArray ::
        SlcC 26 1 h (init.length + 1) cap (frs g 0 init ++ [.slice (some ⟨g, oo, none⟩) f.laid.length f.size]) :: L) w' → Hd w0 (ArP a ⟨m.n, init, m.high⟩ :: L) w' := by
      intro w' L H
      have ez : flat (wordsL init) ++ (List.replicate f.size (Value.int .i64 0) ++ (flat (zeros (m.n - m.used)) ++ sp)) = flat (ArM.words ⟨m.n, init, m.high⟩) ++ sp := by
        unfold ArM.words
        show _ = flat (wordsL init ++ zeros (m.n - usedL init)) ++ sp
        have er : (List.replicate f.size (Value.int .i64 0)) = flat (zeros f.size) := by rw [flat_int]; simp [zeros]
        rw [er, show m.n - usedL init = f.size + (m.n - m.used) from by omega, zeros_add]
        simp [flat_append]
      rw [ez] at H
      have hwl : (ArM.words ⟨m.n, init, m.high⟩).length = m.n := by
        unfold ArM.words
        show (wordsL init ++ zeros (m.n - usedL init)).length = m.n
        rw [List.length_append, hli, zeros_len]; omega
      have H2 : Hd w0 (SlcC 3 1 g m.n m.n (flat (ArM.words ⟨m.n, init, m.high⟩)) :: _) w' := (H.k g).slcC_mk (by rw [flat_len, hwl]; rfl) (Nat.le_refl _) (by unfold maxLen; omega) (by rw [List.length_append, flat_len, hwl]; simp [Enc.size])
      have H3 := ((H2.k h).slcC_cut (k := init.length) (c := cap) (by omega) (by omega) (Nat.le_refl _)).slc_mk
      rw [show (frs g 0 init ++ [Value.slice (some ⟨g, oo, none⟩) f.laid.length f.size]).take (init.length * 1) = frs g 0 init from by rw [Nat.mul_one]; exact List.take_left' (frs_len g init 0)] at H3
      refine ArP.shut (m := ⟨m.n, init, m.high⟩) (g := g) (v := .slice (some ⟨h, 0, none⟩) init.length cap) ?_
      show Hd w0 (cel a 156 #[.slice (some ⟨g, 0, none⟩) m.n m.n, .slice (some ⟨h, 0, none⟩) init.length cap, .int .i64 (usedL init : Nat), .int .i64 m.high] :: SlcC 3 1 g m.n m.n (flat (ArM.words ⟨m.n, init, m.high⟩)) :: Slc 26 1 (.slice (some ⟨h, 0, none⟩) init.length cap) init.length (frs g 0 init) :: L) w'
      rw [show ((usedL init : Nat) : Int) = (m.used : Int) - f.size from by omega]
      exact H3.re
    have hb3 : (f.size : Int) ≤ m.used := by omega
    have hw1 : IntKind.i64.wrap ((m.used : Int) - f.size) = (m.used : Int) - f.size := IntWalk.i64_in _ (by omega)
    have hw2 : IntKind.i64.wrap (init.length : Int) = init.length := IntWalk.i64_in _ (by omega)
    have hlt : (init.length : Int) < (init.length : Int) + 1 := by omega
    have hlc : init.length ≤ cap := by omega
    have ch := (H1.k h).slcC_rd (j := init.length) (u := .slice (some ⟨g, oo, none⟩) f.laid.length f.size) (by rw [List.getElem?_append_right (by rw [frs_len]; omega), frs_len]; simp)
    clear e1 e2 e h1 h2 hu ew HG H hm hoo hsp hmx hli H1
    go_enter Tryz.func170, Tryz.ntmps170
    go_wp2_with fail
    refine hl.mono ?_
    rintro e w' ⟨rfl, n, rfl⟩
    go_wp2_with fail
    refine wp_region_still_tail 8 (by kernel_rfl) (by kernel_rfl) ?_
    simp only [List.take_succ_cons, List.take_zero, List.drop_succ_cons, List.drop_zero, World.drew_eq]
    (repeat still_step)
    refine wpStill_nil ?_
    refine wpList_clear_in rfl _ 26 rfl 3 (.int .i64 0) Tryz.underlying26 Tryz.zeroValue3 rfl rfl g oo f.size f.size rfl ((Hd.fol HG2 : Hd w0 _ _).k g) hpre hold ?_
    intro w2 H2
    have hk := H2.k a
    have c1 := hk.rd 1
    have c2 := hk.rd 2
    have f1 := hk.fr 1
    have f2 := hk.fr 2
    have ch2 := (H2.k h).slcC_rd (j := init.length) (u := .slice (some ⟨g, oo, none⟩) f.laid.length f.size) (by rw [List.getElem?_append_right (by rw [frs_len]; omega), frs_len]; simp)
    have H3 : Hd w0 _ (w2.setCell ⟨a, 2, none⟩ (.int .i64 ((m.used : Int) - f.size))) := H2.fol
    have d1 := (H3.k a).rd 1
    clear hk
    go_wp2_with fail
    refine wp_region_still_tail 11 (by kernel_rfl) (by kernel_rfl) ?_
    simp only [List.take_succ_cons, List.take_zero, List.drop_succ_cons, List.drop_zero, World.drew_eq]
    (repeat still_step)
    refine wpStill_nil ?_
    go_wp2_with fail
    refine wp_region_still_tail 14 (by kernel_rfl) (by kernel_rfl) ?_
    simp only [List.take_succ_cons, List.take_zero, List.drop_succ_cons, List.drop_zero, World.drew_eq]
    (repeat still_step)
    refine wpStill_nil ?_
    go_wp2_with fail
    go_ret
    refine ⟨rfl, hfin ?_⟩
    exact H3.fin

end
end Go.Proofs.YtogcikilphakmaaGreatDoor
