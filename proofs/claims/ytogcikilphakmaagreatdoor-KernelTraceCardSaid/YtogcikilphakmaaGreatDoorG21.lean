/-
  Merged texts of one proof: Ro, Srg, Code5, Code6, Code7, LayW.
-/
import Derived.LaidMore
import Derived.Lib.AtoiErrMem
import Derived.Lib.AtoiOr
import Derived.Lib.LaidTab
import Derived.OpenShut
import Derived.ProofKit
import Derived.Stop.Joined
import Derived.Stop.LaidErr
import Derived.Test.YtogcikilphakmaaGreatDoorG04
import Derived.Test.YtogcikilphakmaaGreatDoorG09
import Derived.Test.YtogcikilphakmaaGreatDoorG11
import Derived.Test.YtogcikilphakmaaGreatDoorRows

/-
  Memory that is only read from here on: one part of the heap, told whole; slices that lie in it. No program in sight.
-/
namespace Go.Proofs.YtogcikilphakmaaGreatDoor
open Go.RowKit Spl

namespace Spl
/-- Just this part of the heap. -/
def ro (S : Hp) : Pr := fun h => h = S
def Le (S S' : Hp) : Prop := ∀ i o, S i = some o → S' i = some o
theorem Le.refl (S : Hp) : Le S S := fun _ _ h => h
theorem Le.trans {A B C : Hp} (h : Le A B) (k : Le B C) : Le A C := fun i o x => k i o (h i o x)
/-- A slice's value whose contents lie in S. -/
def Ros (S : Hp) (e : TypeId) (size : Nat) (v : Value) (n : Nat) (xs : List Value) : Prop :=
  (v = .slice none 0 0 ∧ n = 0 ∧ xs = []) ∨ ∃ g cap sp, v = .slice (some ⟨g, 0, none⟩) n cap ∧ n ≤ cap ∧ cap ≤ maxLen ∧ xs.length = n * size ∧ S g = some (.cells (xs ++ sp).toArray e (0, 0))
theorem Ros.mono {S S' : Hp} {e : TypeId} {size : Nat} {v : Value} {n : Nat} {xs : List Value} (h : Ros S e size v n xs) (k : Le S S') : Ros S' e size v n xs := by
  rcases h with h | ⟨g, cap, sp, h1, h2, h3, h4, h5⟩
  · exact .inl h
  · exact .inr ⟨g, cap, sp, h1, h2, h3, h4, k _ _ h5⟩
theorem Ros.len {S : Hp} {e : TypeId} {size : Nat} {v : Value} {n : Nat} {xs : List Value} (h : Ros S e size v n xs) : xs.length = n * size := by
  rcases h with ⟨_, rfl, rfl⟩ | ⟨g, cap, sp, h1, h2, h3, h4, h5⟩
  · simp
  · exact h4
abbrev RoE {α : Type} [Enc α] (S : Hp) (e : TypeId) (v : Value) (l : List α) : Prop := Ros S e (Enc.size α) v l.length (flat l)
end Spl

section
variable {w0 w : World} {R : List Pr} {S : Hp}
instance (S : Hp) : Key (ro S) (.b 0) := ⟨trivial⟩
theorem Hd.ro_heap (H : Hd w0 (ro S :: R) w) {i : Nat} {o : Obj} (h : S i = some o) : w.heap[i]? = some o := by
  obtain ⟨_, a, c, d, e, ha, _⟩ := H
  have hb : a i = some o := by rw [ha]; exact h
  have := congrFun e i
  rw [join_left hb] at this
  exact this
theorem Hd.ro_cell (H : Hd w0 (ro S :: R) w) {i : Nat} {c : Array Value} {T : TypeId} {f : Nat × Nat} (h : S i = some (.cells c T f)) (j : Nat) : w.cell? ⟨i, j, none⟩ = c[j]? :=
  cell_of_row w i j c T f (H.ro_heap h)
theorem Hd.ro_news (H : Hd w0 (ro S :: R) w) {e : TypeId} {size : Nat} {a : Option Addr} {n m cap : Nat} {xs : List Value} (h : Ros S e size (.slice a n cap) m xs) :
    n = m ∧ (a = none → m = 0) ∧ ∀ ad, a = some ad → ∀ j u, xs[j]? = some u → w.cell? (ad.add j) = some u := by
  rcases h with ⟨hv, hm, hx⟩ | ⟨g, cap', sp, hv, _, _, _, hS⟩
  · injection hv with h1 h2 h3
    subst h1; subst h2; subst hm; subst hx
    exact ⟨rfl, fun _ => rfl, fun ad h => by cases h⟩
  · injection hv with h1 h2 h3
    subst h1; subst h2
    refine ⟨rfl, (fun h => by cases h), fun ad had j u hj => ?_⟩
    injection had with had
    subst had
    rw [add0, H.ro_cell hS j]
    simp only [List.getElem?_toArray]
    rw [List.getElem?_append_left (lt_of_get? hj)]
    exact hj
theorem Hd.ro_rd (H : Hd w0 (ro S :: R) w) {e : TypeId} {size g : Nat} {n m cap : Nat} {xs : List Value} (h : Ros S e size (.slice (some ⟨g, 0, none⟩) n cap) m xs) {j : Nat} {u : Value} (hj : xs[j]? = some u) : w.cell? ⟨g, j, none⟩ = some u := by
  have := (H.ro_news h).2.2 _ rfl j u hj
  rwa [add0] at this
theorem Ros.form {e : TypeId} {size : Nat} {a : Option Addr} {n m cap : Nat} {xs : List Value} (h : Ros S e size (.slice a n cap) m xs) : n = m := by
  rcases h with ⟨hv, hm, hx⟩ | ⟨g, cap', sp, hv, _, _, _, hS⟩
  · injection hv with h1 h2 h3; omega
  · injection hv with h1 h2 h3
/-- A slice is laid among what is only read. -/
theorem Hd.ro_in {e : TypeId} {size : Nat} {v : Value} {n : Nat} {xs : List Value} (H : Hd w0 (Slc e size v n xs :: ro S :: R) w) : ∃ S', Le S S' ∧ Ros S' e size v n xs ∧ Hd w0 (ro S' :: R) w := by
  obtain ⟨hc, p, q, d, e1, hp, a', b', d', e2, ha', hb'⟩ := H
  rcases hp with ⟨rfl, rfl, rfl⟩ | ⟨g, cap, rfl, h1, h2, h3, sp, hs, hp4⟩
  · refine ⟨S, Le.refl S, .inl ⟨rfl, rfl, rfl⟩, hc, a', join b' p, ?_, ?_, ha', ?_⟩
    · exact disj_join.2 ⟨d', disj_symm (disj_join.1 (e2 ▸ d)).1⟩
    · rw [e1, e2, join_comm (e2 ▸ d), join_assoc]
    · exact sat_mono ⟨p, disj_symm (disj_join.1 (e2 ▸ d)).2, rfl⟩ hb'
  · obtain ⟨dpa, dpb⟩ := disj_join.1 (e2 ▸ d)
    refine ⟨join a' p, ?_, ?_, hc, join a' p, b', ?_, ?_, rfl, hb'⟩
    · intro i o h
      have h' : a' i = some o := by rw [ha']; exact h
      exact join_left h'
    · refine .inr ⟨g, cap, sp, rfl, h2, h3, h1, ?_⟩
      refine join_right (disj_symm dpa) ?_
      rw [hp4]; simp
    · exact join_disj.2 ⟨d', dpb⟩
    · rw [e1, e2, ← join_assoc, join_comm dpa]
theorem Src.ro {α : Type} [Enc α] {e : TypeId} {v : Value} {l : List α} (h : RoE S e v l) : Src w0 (Spl.ro S :: R) v l := by
  rcases id h with ⟨hv, hn, hx⟩ | ⟨g, cap, sp, hv, _, _, hl, hS⟩
  · exact .inl ⟨hv, List.eq_nil_of_length_eq_zero hn⟩
  · exact .inr ⟨_, cap, hv, fun H => by subst hv; exact (H.ro_news h).2.2 _ rfl⟩
/-- A slice that starts its block and reads as a list in every world that keeps R. -/
def Srd {α : Type} [Enc α] (w0 : World) (R : List Pr) (v : Value) (l : List α) : Prop :=
  (v = .slice none 0 0 ∧ l = []) ∨ ∃ g c, v = .slice (some ⟨g, 0, none⟩) l.length c ∧ ∀ {w1 : World}, Hd w0 R w1 → ∀ (j : Nat) (u : Value), (flat l)[j]? = some u → w1.cell? ⟨g, j, none⟩ = some u
theorem Srd.src {α : Type} [Enc α] {v : Value} {l : List α} (h : Srd w0 R v l) : Src w0 R v l := by
  rcases h with h | ⟨g, c, hv, hs⟩
  · exact .inl h
  · exact .inr ⟨_, c, hv, fun H j u hj => by rw [add0]; exact hs H j u hj⟩
theorem Srd.slE {α : Type} [Enc α] {e : TypeId} {v : Value} {l : List α} (H : Hd w0 (SlE e v l :: R) w) : Srd w0 (SlE e v l :: R) v l := by
  rcases H.slc with ⟨h, h2, h3, _⟩ | ⟨g, c, h, _⟩
  · exact .inl ⟨h, List.eq_nil_of_length_eq_zero h2⟩
  · subst h
    refine .inr ⟨g, c, rfl, fun H1 j u hj => ?_⟩
    have := H1.slc_news.2 _ rfl j u hj
    rwa [add0] at this
theorem Srd.ro {α : Type} [Enc α] {e : TypeId} {v : Value} {l : List α} (h : RoE S e v l) : Srd w0 (Spl.ro S :: R) v l := by
  rcases id h with ⟨hv, hn, hx⟩ | ⟨g, cap, sp, hv, _, _, hl, hS⟩
  · exact .inl ⟨hv, List.eq_nil_of_length_eq_zero hn⟩
  · exact .inr ⟨g, cap, hv, fun H j u hj => by subst hv; exact H.ro_rd h hj⟩
theorem Srd.of {α : Type} [Enc α] {M : List Pr} {v : Value} {l : List α} (h : Srd w0 R v l) (hs : ∀ {w1 : World}, Hd w0 M w1 → Hd w0 R w1) : Srd w0 M v l := by
  rcases h with h | ⟨g, c, h, h2⟩
  · exact .inl h
  · exact .inr ⟨g, c, h, fun H => h2 (hs H)⟩
theorem Srd.form {α : Type} [Enc α] {v : Value} {l : List α} (h : Srd w0 R v l) : ∃ a c, v = .slice a l.length c := by
  rcases h with ⟨h, rfl⟩ | ⟨g, c, h, _⟩
  · exact ⟨none, 0, h⟩
  · exact ⟨_, c, h⟩
theorem Srd.at {α : Type} [Enc α] {v : Value} {l : List α} (h : Srd w0 R v l) {k : Nat} {x : α} (hk : l[k]? = some x) :
    ∃ g c, v = .slice (some ⟨g, 0, none⟩) l.length c ∧ k < l.length ∧ ∀ {w1 : World}, Hd w0 R w1 → ∀ (j : Nat) (u : Value), (Enc.cells x)[j]? = some u → w1.cell? ⟨g, k * Enc.size α + j, none⟩ = some u := by
  rcases h with ⟨h, rfl⟩ | ⟨g, c, h, hs⟩
  · simp at hk
  · exact ⟨g, c, h, lt_of_get? hk, fun H j u hj => hs H _ _ (flat_at hk hj)⟩
end
end Go.Proofs.YtogcikilphakmaaGreatDoor

/-
  A source slice at any place: what came in with the arguments, told by what it reads as wherever R holds. No program in sight.
-/
namespace Go.Proofs.YtogcikilphakmaaGreatDoor
open Go.RowKit Spl

def Srg {α : Type} [Enc α] (w0 : World) (R : List Pr) (v : Value) (l : List α) : Prop :=
  (v = .slice none 0 0 ∧ l = []) ∨ (∃ ad c, v = .slice (some ad) 0 c ∧ l = []) ∨
    ∃ g o c, v = .slice (some ⟨g, o, none⟩) l.length c ∧ ∀ {w1 : World}, Hd w0 R w1 → ∀ (j : Nat) (u : Value), (flat l)[j]? = some u → w1.cell? ⟨g, o + j, none⟩ = some u
section
variable {w0 w : World} {R : List Pr} {S : Hp} {α : Type} [Enc α] {v : Value} {l : List α}
theorem Srd.srg (h : Srd w0 R v l) : Srg w0 R v l := by
  rcases h with h | ⟨g, c, hv, hs⟩
  · exact .inl h
  · exact .inr (.inr ⟨g, 0, c, hv, fun H j u hj => by rw [Nat.zero_add]; exact hs H j u hj⟩)
theorem Srg.nil : Srg w0 R (.slice none 0 0) ([] : List α) := .inl ⟨rfl, rfl⟩
theorem Srg.slE {e : TypeId} (H : Hd w0 (SlE e v l :: R) w) : Srg w0 (SlE e v l :: R) v l := (Srd.slE H).srg
theorem Srg.src (h : Srg w0 R v l) : Src w0 R v l := by
  rcases h with h | ⟨ad, c, hv, hl⟩ | ⟨g, o, c, hv, hs⟩
  · exact .inl h
  · subst hl
    exact .inr ⟨ad, c, hv, fun H j u hj => by simp [flat] at hj⟩
  · exact .inr ⟨_, c, hv, fun H j u hj => by rw [Addr.add_lit]; exact hs H j u hj⟩
theorem Srg.of {M : List Pr} (h : Srg w0 R v l) (hs : ∀ {w1 : World}, Hd w0 M w1 → Hd w0 R w1) : Srg w0 M v l := by
  rcases h with h | h | ⟨g, o, c, h, h2⟩
  · exact .inl h
  · exact .inr (.inl h)
  · exact .inr (.inr ⟨g, o, c, h, fun H => h2 (hs H)⟩)
theorem Srg.form (h : Srg w0 R v l) : ∃ a c, v = .slice a l.length c := by
  rcases h with ⟨h, rfl⟩ | ⟨ad, c, h, rfl⟩ | ⟨g, o, c, h, _⟩
  · exact ⟨none, 0, h⟩
  · exact ⟨_, c, h⟩
  · exact ⟨_, c, h⟩
theorem Srg.at (h : Srg w0 R v l) {k : Nat} {x : α} (hk : l[k]? = some x) :
    ∃ g o c, v = .slice (some ⟨g, o, none⟩) l.length c ∧ k < l.length ∧ ∀ {w1 : World}, Hd w0 R w1 → ∀ (j : Nat) (u : Value), (Enc.cells x)[j]? = some u → w1.cell? ⟨g, o + k * Enc.size α + j, none⟩ = some u := by
  rcases h with ⟨h, rfl⟩ | ⟨ad, c, h, rfl⟩ | ⟨g, o, c, h, hs⟩
  · simp at hk
  · simp at hk
  · exact ⟨g, o, c, h, lt_of_get? hk, fun H j u hj => by rw [Nat.add_assoc]; exact hs H _ _ (flat_at hk hj)⟩
end
end Go.Proofs.YtogcikilphakmaaGreatDoor

/-
  Package code: Check. Every program that lies in a slice.
-/
namespace Go.Proofs.YtogcikilphakmaaGreatDoor
open Go.RowKit Spl

/-- What is wrong first of the operations from the i-th on, so many repeats being open. -/
def checkGo : List OpM → Nat → Nat → Int × Int
  | [], i, n => if 0 < n then (i, 31) else (0, 0)
  | o :: l, i, n => if fieldsM o = false then (i, 30) else if o.kind = 10 then (if n = 4 then (i, 32) else checkGo l (i + 1) (n + 1))
    else if o.kind = 11 then (if n = 0 then (i, 31) else checkGo l (i + 1) (n - 1)) else checkGo l (i + 1) n
def checkM (p : List OpM) : Int × Int := if 256 < p.length then (256, 4) else checkGo p 0 0
theorem drop_at {α : Type} {l : List α} {k : Nat} {x : α} (h : l[k]? = some x) : l.drop k = x :: l.drop (k + 1) := by
  obtain ⟨h1, rfl⟩ := List.getElem?_eq_some_iff.1 h
  exact List.drop_eq_getElem_cons h1
section
variable {w0 w : World} {R : List Pr}

set_option maxRecDepth 20000 in
set_option maxHeartbeats 1600000 in
theorem cdCheck {v : Value} {p : List OpM} (H : Hd w0 R w) (hs : Srd w0 R v p) : Calls Tryz.prog 147 #[v] w fun e w' => e = .returned (.tuple #[.int .i64 (checkM p).1, .int .i64 (checkM p).2]) ∧ Hd w0 R w' := by
  obtain ⟨a, c, hv⟩ := hs.form
  subst hv
  by_cases hl : 256 < p.length
  · have e1 : checkM p = (256, 4) := by unfold checkM; rw [if_pos hl]
    rw [e1]
    clear hs
    have n1 : (256 : Int) < p.length := by omega
    go_enter Tryz.func147, Tryz.ntmps147
    go_wp2_with fail
    go_ret2
    exact ⟨rfl, H⟩
  have e1 : checkM p = checkGo p 0 0 := by unfold checkM; rw [if_neg hl]
  rw [e1]
  clear e1
  have n0 : ¬ (256 : Int) < p.length := by omega
  go_enter Tryz.func147, Tryz.ntmps147
  go_wp2_with fail
  go_loopw [4, 12] (fun o i wr => ∃ k n : Nat, k ≤ p.length ∧ n ≤ 4 ∧ o = .int .i64 n ∧ i = .int .i64 k ∧ checkGo p 0 0 = checkGo (p.drop k) k n ∧ Hd w0 R wr) (fun _ i _ => p.length - (intOf i).toNat)
  case atStart => exact ⟨0, 0, by omega, by omega, rfl, rfl, by simp, H⟩
  case round =>
    obtain ⟨k, n, hk, hn, rfl, rfl, hC, H1⟩ := hrel
    by_cases hlt : k < p.length
    · obtain ⟨o, ho⟩ : ∃ o, p[k]? = some o := ⟨p[k], List.getElem?_eq_getElem hlt⟩
      rw [drop_at ho] at hC
      obtain ⟨g, c2, hv, -, hcell⟩ := hs.at ho
      injection hv with hv1 hv2 hv3
      subst hv1; subst hv3
      have f0 := hcell H1 0 _ rfl
      have f1 := hcell H1 1 _ rfl
      have f2 := hcell H1 2 _ rfl
      have f3 := hcell H1 3 _ rfl
      simp only [Enc.size, Nat.add_zero] at f0 f1 f2 f3
      obtain ⟨ok, ores, on, ov⟩ := o
      have HA : Hd w0 _ (wr.alloc (.cells #[.int .i64 ok, .int .i64 ores, .int .i64 on, .int .i64 ov] 39)) := H1.fol
      have hcall := cdFields HA ⟨ok, ores, on, ov⟩
      replace hC := Lib.hid hC
      have g5 : IntKind.i64.wrap ((k : Int) + 1) = (k : Int) + 1 := IntWalk.i64_in _ (by omega)
      have g6 : IntKind.i64.wrap ((n : Int) + 1) = (n : Int) + 1 := IntWalk.i64_in _ (by omega)
      have n1 : ¬ (k : Int) < 0 := by omega
      have n2 : (k : Int) < p.length := by omega
      have n3 : ¬ p.length ≤ k := by omega
      clear hcell hs H H1 HA ho
      cases hF : fieldsM ⟨ok, ores, on, ov⟩ with
      | false =>
        have hK := Lib.hid (hC.out.trans (show _ = ((k : Int), (30 : Int)) by rw [checkGo, if_pos hF]))
        rw [hF] at hcall
        clear hC hF
        go_wp2_with fail
        refine hcall.mono ?_
        rintro e w1 ⟨rfl, H2⟩
        clear hcall
        have hf := H2.facts
        simp only [Nat.reduceAdd] at hf
        go_split_ands
        go_wp2_with fail
        go_ret2
        exact ⟨ret_ii (congrArg Prod.fst hK.out) (congrArg Prod.snd hK.out), H2.re⟩
      | true =>
        rw [hF] at hcall
        have hC2 := hC.out
        rw [checkGo, if_neg (by rw [hF]; simp)] at hC2
        simp only [] at hC2
        clear hC hF
        by_cases h10 : ok = 10
        · subst h10
          rw [if_pos rfl] at hC2
          by_cases hn4 : n = 4
          · subst hn4
            rw [if_pos rfl] at hC2
            have hK := Lib.hid hC2
            clear hC2
            go_wp2_with fail
            refine hcall.mono ?_
            rintro e w1 ⟨rfl, H2⟩
            clear hcall
            have hf := H2.facts
            simp only [Nat.reduceAdd] at hf
            go_split_ands
            go_wp2_with fail
            go_ret2
            exact ⟨ret_ii (congrArg Prod.fst hK.out) (congrArg Prod.snd hK.out), H2.re⟩
          · have m4 : ¬ (n : Int) = 4 := by omega
            rw [if_neg hn4] at hC2
            have hK := Lib.hid hC2
            clear hC2
            go_wp2_with fail
            refine hcall.mono ?_
            rintro e w1 ⟨rfl, H2⟩
            clear hcall
            have hf := H2.facts
            simp only [Nat.reduceAdd] at hf
            go_split_ands
            go_wp2_with fail
            go_roundw
            case rel => exact ⟨k + 1, n + 1, by omega, by omega, by simp, by simp, hK.out, H2.re⟩
            case measure => simp [intOf]; omega
        · rw [if_neg h10] at hC2
          by_cases h11 : ok = 11
          · subst h11
            rw [if_pos rfl] at hC2
            rcases Nat.eq_zero_or_pos n with rfl | hpos
            · rw [if_pos rfl] at hC2
              have hK := Lib.hid hC2
              clear hC2
              go_wp2_with fail
              refine hcall.mono ?_
              rintro e w1 ⟨rfl, H2⟩
              clear hcall
              have hf := H2.facts
              simp only [Nat.reduceAdd] at hf
              go_split_ands
              go_wp2_with fail
              go_ret2
              exact ⟨ret_ii (congrArg Prod.fst hK.out) (congrArg Prod.snd hK.out), H2.re⟩
            · obtain ⟨m, rfl⟩ : ∃ m, n = m + 1 := ⟨n - 1, by omega⟩
              have m4 : ¬ ((m + 1 : Nat) : Int) = 0 := by omega
              have g7 : IntKind.i64.wrap (((m + 1 : Nat) : Int) - 1) = (m : Int) := by rw [IntWalk.i64_in _ (by omega)]; omega
              have g8 : IntKind.i64.wrap ((m : Int) + 1 - 1) = (m : Int) := by rw [IntWalk.i64_in _ (by omega)]; omega
              rw [if_neg (by omega), Nat.add_sub_cancel] at hC2
              have hK := Lib.hid hC2
              clear hC2
              go_wp2_with fail
              refine hcall.mono ?_
              rintro e w1 ⟨rfl, H2⟩
              clear hcall
              have hf := H2.facts
              simp only [Nat.reduceAdd] at hf
              go_split_ands
              go_wp2_with fail
              go_roundw
              case rel => exact ⟨k + 1, m, by omega, by omega, by simp, by simp, hK.out, H2.re⟩
              case measure => simp [intOf]; omega
          · rw [if_neg h11] at hC2
            have hK := Lib.hid hC2
            clear hC2
            go_wp2_with fail
            refine hcall.mono ?_
            rintro e w1 ⟨rfl, H2⟩
            clear hcall
            have hf := H2.facts
            simp only [Nat.reduceAdd] at hf
            go_split_ands
            go_wp2_with fail
            go_roundw
            case rel => exact ⟨k + 1, n, by omega, by omega, by simp, by simp, hK.out, H2.re⟩
            case measure => simp [intOf]; omega
    · obtain rfl : k = p.length := by omega
      rw [List.drop_length, checkGo] at hC
      clear hs H
      rcases Nat.eq_zero_or_pos n with rfl | hpos
      · rw [if_neg (by omega)] at hC
        have hK := Lib.hid hC
        clear hC
        go_wp2_with fail
        go_ret2
        exact ⟨ret_ii (congrArg Prod.fst hK.out) (congrArg Prod.snd hK.out), H1⟩
      · rw [if_pos hpos] at hC
        have m4 : 0 < (n : Int) := by omega
        have hK := Lib.hid hC
        clear hC
        go_wp2_with fail
        go_ret2
        exact ⟨ret_ii (congrArg Prod.fst hK.out) (congrArg Prod.snd hK.out), H1⟩
end
end Go.Proofs.YtogcikilphakmaaGreatDoor

/-
  Package code: number. Every string of at most 2^48 bytes, over the library's contracts.
-/
namespace Go.Proofs.YtogcikilphakmaaGreatDoor
open Go.RowKit Spl Go.Sort

/-- What the library's variables read as. -/
structure LaidW (w : World) : Prop where
  syn : ∃ tp p, w.var? Tryz.prog "strconv.ErrSyntax" = some #[.iface tp p]
  rng : ∃ tp p, w.var? Tryz.prog "strconv.ErrRange" = some #[.iface tp p]
  tab : Lib.TabIs Tryz.prog w "internal/strconv.uint64pow10" .u64 Lib.pow10Tab
class Lay (w0 : World) (R : List Pr) : Prop where
  var : ∀ {w : World}, Hd w0 R w → LaidW w
instance {w0 : World} {P : Pr} {R : List Pr} [h : Lay w0 R] : Lay w0 (P :: R) := ⟨fun H => h.var H.tail⟩

theorem Hd.grow {w0 w w' : World} {L : List Pr} (H : Hd w0 L w) (hb : Below w.heap.size w w') : Hd w0 L w' := by
  refine ⟨H.1.trans ⟨hb.os, hb.tape, hb.output, hb.size⟩, sat_mono ⟨fun i => if i < w.heap.size then none else w'.heap[i]?, fun i => ?_, ?_⟩ H.2⟩
  · by_cases hi : i < w.heap.size
    · exact .inr (by simp [hi])
    · exact .inl (Array.getElem?_eq_none (by omega))
  · funext i
    unfold join
    dsimp only
    by_cases hi : i < w.heap.size
    · rw [hb.block i hi, Array.getElem?_eq_getElem hi]
    · rw [Array.getElem?_eq_none (by omega : w.heap.size ≤ i), if_neg hi]
theorem below_draws (w : World) (q : Nat) (os : Array Obj) : Below w.heap.size w (Go.Sort.grow (w.drewN q) os) := by
  refine ⟨rfl, rfl, rfl, ?_, fun k hk => ?_⟩
  · show w.heap.size ≤ (w.heap ++ os).size
    simp
  · show (w.heap ++ os)[k]? = _
    rw [Array.getElem?_append_left hk]

def numberM (s : ByteArray) : Int × Bool := match Lib.atoiAll s.data.toList with
  | .ok v => (v, (⟨(Lib.itoa v).toArray⟩ : ByteArray).toList == s.toList)
  | .range => (Lib.atoiSat s.data.toList, false)
  | _ => (0, false)
section
variable {w0 w : World} {R : List Pr}

set_option maxRecDepth 20000 in
set_option maxHeartbeats 1600000 in
theorem cdNumber [Lay w0 R] (H : Hd w0 R w) (s : ByteArray) (hs : s.size ≤ 100000) : Calls Tryz.prog 171 #[.string s] w fun e w' => e = .returned (.tuple #[.int .i64 (numberM s).1, .bool (numberM s).2]) ∧ Hd w0 R w' := by
  have hL := Lay.var H
  cases hr : Lib.atoiAll s.data.toList with
  | ok v =>
    have hb := Lib.atoiAll_bounds hr
    have e1 : numberM s = (v, (⟨(Lib.itoa v).toArray⟩ : ByteArray).toList == s.toList) := by unfold numberM; rw [hr]
    have hcall := Any.strconv_Atoi_ok Tryz.laysC172 s (by omega) v hr w
    rw [e1]
    obtain ⟨V, hV⟩ : ∃ V, (⟨(Lib.itoa v).toArray⟩ : ByteArray) = V := ⟨_, rfl⟩
    have hc2 : ∀ w1, Hd w0 R w1 → Calls Tryz.prog 187 #[.int .i64 v] w1 fun e w' => e = .returned (.string V) ∧ Hd w0 R w' := fun w1 h1 => by
      refine (Any.strconv_Itoa Tryz.laysM171 v hb.1 hb.2 w1 (Lay.var h1).tab).mono ?_
      rintro e w' ⟨rfl, q, os, rfl⟩
      exact ⟨by rw [hV], h1.grow (below_draws w1 q os)⟩
    rw [hV]
    replace hc2 := Lib.hid hc2
    clear e1 hr hb hL hV hs
    go_enter Tryz.func171, Tryz.ntmps171
    go_wp2_with fail
    refine hcall.mono ?_
    rintro e w1 ⟨rfl, hw⟩
    have H1 : Hd w0 R w1 := by
      rcases hw with rfl | ⟨t, rfl⟩
      · exact H
      · exact H.grow (Lib.bytesWorld_below _ _ _)
    clear hcall hw
    have hc3 := hc2.out w1 H1
    go_wp2_with fail
    refine hc3.mono ?_
    rintro e w2 ⟨rfl, H2⟩
    go_wp2_with fail
    go_ret2
    exact ⟨rfl, H2⟩
  | range =>
    have e1 : numberM s = (Lib.atoiSat s.data.toList, false) := by unfold numberM; rw [hr]
    obtain ⟨tp, p, hp⟩ := hL.rng
    have hcall := Any.strconv_Atoi_range_var Tryz.laysC172 s (by omega) hr tp p w hp
    rw [e1]
    clear e1 hr hL hs
    go_enter Tryz.func171, Tryz.ntmps171
    go_wp2_with fail
    refine hcall.mono ?_
    rintro e w1 ⟨N, rfl, -, -, hb⟩
    have H1 := H.grow hb
    clear hcall hb
    go_wp2_with fail
    go_ret2
    exact ⟨rfl, H1⟩
  | _ =>
    have e1 : numberM s = (0, false) := by unfold numberM; rw [hr]
    obtain ⟨tp, p, hp⟩ := hL.syn
    have hcall := Any.strconv_Atoi_syntax_var Tryz.laysC172 s (by omega) hr tp p w hp
    rw [e1]
    clear e1 hr hL hs
    go_enter Tryz.func171, Tryz.ntmps171
    go_wp2_with fail
    refine hcall.mono ?_
    rintro e w1 ⟨N, rfl, -, -, hb⟩
    have H1 := H.grow hb
    clear hcall hb
    go_wp2_with fail
    go_ret2
    exact ⟨rfl, H1⟩
end
end Go.Proofs.YtogcikilphakmaaGreatDoor

/-
  Package code: the reader's word. Every text, every place.
-/
namespace Go.Proofs.YtogcikilphakmaaGreatDoor
open Go.RowKit Spl

def bl (c : UInt8) : Bool := blankB (c.toNat : Int)
/-- The first place from i on whose byte does not meet p. -/
def skipTo (p : UInt8 → Bool) (s : ByteArray) (i : Nat) : Nat := if h : i < s.size then (if p s[i] then skipTo p s (i + 1) else i) else i
  termination_by s.size - i
theorem skipTo_yes {p : UInt8 → Bool} {s : ByteArray} {i : Nat} (h : i < s.size) (hp : p s[i] = true) : skipTo p s i = skipTo p s (i + 1) := by
  rw [skipTo, dif_pos h, if_pos hp]
theorem skipTo_no {p : UInt8 → Bool} {s : ByteArray} {i : Nat} (h : i < s.size) (hp : p s[i] = false) : skipTo p s i = i := by
  rw [skipTo, dif_pos h, hp]; rfl
theorem skipTo_end {p : UInt8 → Bool} {s : ByteArray} {i : Nat} (h : ¬ i < s.size) : skipTo p s i = i := by
  rw [skipTo, dif_neg h]
theorem skipTo_le {p : UInt8 → Bool} {s : ByteArray} : ∀ (n i : Nat), s.size - i = n → i ≤ s.size → i ≤ skipTo p s i ∧ skipTo p s i ≤ s.size := by
  intro n
  induction n with
  | zero => intro i hn hi; rw [skipTo_end (by omega)]; omega
  | succ n ih =>
    intro i hn hi
    have h : i < s.size := by omega
    cases hp : p s[i] with
    | true =>
      rw [skipTo_yes h hp]
      have := ih (i + 1) (by omega) (by omega)
      omega
    | false => rw [skipTo_no h hp]; omega
def wFrom (s : ByteArray) (i : Nat) : Nat := skipTo bl s i
def wEnd (s : ByteArray) (i : Nat) : Nat := skipTo (fun c => !bl c) s (wFrom s i)
def wordAt (s : ByteArray) (i : Nat) : ByteArray := s.extract (wFrom s i) (wEnd s i)
theorem word_le {s : ByteArray} {i : Nat} (h : i ≤ s.size) : i ≤ wFrom s i ∧ wFrom s i ≤ wEnd s i ∧ wEnd s i ≤ s.size := by
  have h1 := skipTo_le (p := bl) (s := s) _ i rfl h
  have h2 := skipTo_le (p := fun c => !bl c) (s := s) _ _ rfl h1.2
  exact ⟨h1.1, h2.1, h2.2⟩
def intCell (w : World) (a : Addr) : Nat := match w.cell? a with
  | some (.int _ n) => n.toNat
  | _ => 0
theorem ret_si {a b : ByteArray} {c d : Int} (h : b = a) (h2 : d = c) : Ending.returned (.tuple #[.string a, .int .i64 c]) = Ending.returned (.tuple #[.string b, .int .i64 d]) := by rw [h, h2]
theorem intCell_of {w : World} {a : Addr} {n : Int} (h : w.cell? a = some (.int .i64 n)) : intCell w a = n.toNat := by unfold intCell; rw [h]
section
variable {w0 w : World} {R : List Pr} {b : Nat}

set_option maxRecDepth 20000 in
set_option maxHeartbeats 1600000 in
theorem cdWord {s : ByteArray} {at0 : Nat} {ov op : Value} (H : Hd w0 (cel b 246 #[.string s, .int .i64 at0, ov, op] :: R) w) (ha : at0 ≤ s.size) (hs : s.size ≤ 100000) :
    Calls Tryz.prog 113 #[.pointer (some ⟨b, 0, none⟩)] w fun e w' => e = .returned (.tuple #[.string (wordAt s at0), .int .i64 (wFrom s at0)]) ∧ Hd w0 (cel b 246 #[.string s, .int .i64 (wEnd s at0), ov, op] :: R) w' := by
  obtain ⟨h1, h2, h3⟩ := word_le ha
  go_enter Tryz.func113, Tryz.ntmps113
  go_wp2_with fail
  go_step3
  go_wp2_with fail
  go_step3
  go_wp2_with fail
  go_loopw [8] (fun _ wr => ∃ i : Nat, i ≤ s.size ∧ wFrom s at0 = skipTo bl s i ∧ Hd w0 (cel b 246 #[.string s, .int .i64 i, ov, op] :: R) wr) (fun _ wr => s.size - intCell wr ⟨b, 1, none⟩)
  case atStart => exact ⟨at0, ha, rfl, H⟩
  case round =>
    obtain ⟨i, hi, hw, H1⟩ := hrel
    have hf := H1.facts
    simp only [Nat.reduceAdd] at hf
    go_split_ands
    have g5 : IntKind.i64.wrap ((i : Int) + 1) = (i : Int) + 1 := IntWalk.i64_in _ (by omega)
    by_cases hlt : i < s.size
    · have n1 : (i : Int) < s.size := by omega
      have n0 : (0 : Int) ≤ i := by omega
      obtain ⟨c, hc⟩ : ∃ c, s[i] = c := ⟨_, rfl⟩
      have hc2 : s.data[i] = c := hc
      have c0 := (H1.k b).ce 0 rfl
      have c1 := (H1.k b).ce 1 rfl
      have hm := Lib.hid (intCell_of c1)
      cases hb : blankB (c.toNat : Int) with
      | true =>
        have hw2 := Lib.hid (hw.trans (skipTo_yes hlt (by rw [hc]; exact hb)))
        clear hw H
        go_wp2_with fail
        go_quiet (fail)
        go_wp2_with fail
        refine wp_region_mix0 [(0, true), (1, true), (2, true), (3, true), (4, true), (5, true), (6, true), (7, true), (8, true), (9, false), (10, true)] (fun w' => w'.cell? ⟨b, 1, none⟩ = some (.int .i64 i) ∧ w'.cell? ⟨b, 0, none⟩ = some (.string s)) (by kernel_rfl) (by kernel_rfl) (⟨c1, c0⟩) (fun _ _ d _ _ h => by cases d <;> exact h) ?_
        iterate 9 (refine mix_head (o := _) (v := ?_) (by (simp only [List.getElem?_toArray, List.getElem?_cons_succ, List.getElem?_cons_zero]); rfl) (by rfl) (fun w' hS => ?_) ?_; rotate_left 1; (focus ((try dsimp only at hS); (try go_split_ands); go_simp; (try with_reducible rfl))); (try simp only [Act.put, List.setIfInBounds_toArray, List.set_cons_zero, List.set_cons_succ]))
        refine mix_mid (o := _) (by (simp only [List.getElem?_toArray, List.getElem?_cons_succ, List.getElem?_cons_zero]); rfl) ?_
        go_wp2_with fail
        refine (cdBlank (c.toNat : Int)).mono ?_
        rintro e w' ⟨rfl, rfl⟩
        go_wp2_with fail
        refine mixQ_in ⟨c1, c0⟩ ?_
        iterate 1 (refine mix_head (o := _) (v := ?_) (by (simp only [List.getElem?_toArray, List.getElem?_cons_succ, List.getElem?_cons_zero]); rfl) (by rfl) (fun w' hS => ?_) ?_; rotate_left 1; (focus ((try dsimp only at hS); (try go_split_ands); go_simp; (try with_reducible rfl))); (try simp only [Act.put, List.setIfInBounds_toArray, List.set_cons_zero, List.set_cons_succ]))
        refine mix_end ?_
        (try dsimp only)
        go_wp2_with fail
        go_roundw
        case rel => exact ⟨i + 1, by omega, hw2.out, by show Hd w0 (cel b 246 #[.string s, .int .i64 ((i : Int) + 1), ov, op] :: R) _; exact Hd.fin H1⟩
        case measure => rw [intCell_of (by exact ((Hd.fol H1 : Hd w0 _ _).k b).ce 1 rfl), hm.out]; omega
      | false =>
        have hw2 : wFrom s at0 = i := hw.trans (skipTo_no hlt (by rw [hc]; exact hb))
        clear hw H
        go_wp2_with fail
        go_quiet (fail)
        go_wp2_with fail
        refine wp_region_mix0 [(0, true), (1, true), (2, true), (3, true), (4, true), (5, true), (6, true), (7, true), (8, true), (9, false), (10, true)] (fun w' => w'.cell? ⟨b, 1, none⟩ = some (.int .i64 i) ∧ w'.cell? ⟨b, 0, none⟩ = some (.string s)) (by kernel_rfl) (by kernel_rfl) (⟨c1, c0⟩) (fun _ _ d _ _ h => by cases d <;> exact h) ?_
        iterate 9 (refine mix_head (o := _) (v := ?_) (by (simp only [List.getElem?_toArray, List.getElem?_cons_succ, List.getElem?_cons_zero]); rfl) (by rfl) (fun w' hS => ?_) ?_; rotate_left 1; (focus ((try dsimp only at hS); (try go_split_ands); go_simp; (try with_reducible rfl))); (try simp only [Act.put, List.setIfInBounds_toArray, List.set_cons_zero, List.set_cons_succ]))
        refine mix_mid (o := _) (by (simp only [List.getElem?_toArray, List.getElem?_cons_succ, List.getElem?_cons_zero]); rfl) ?_
        go_wp2_with fail
        refine (cdBlank (c.toNat : Int)).mono ?_
        rintro e w' ⟨rfl, rfl⟩
        go_wp2_with fail
        refine mixQ_in ⟨c1, c0⟩ ?_
        iterate 1 (refine mix_head (o := _) (v := ?_) (by (simp only [List.getElem?_toArray, List.getElem?_cons_succ, List.getElem?_cons_zero]); rfl) (by rfl) (fun w' hS => ?_) ?_; rotate_left 1; (focus ((try dsimp only at hS); (try go_split_ands); go_simp; (try with_reducible rfl))); (try simp only [Act.put, List.setIfInBounds_toArray, List.set_cons_zero, List.set_cons_succ]))
        refine mix_end ?_
        (try dsimp only)
        go_wp2_with fail
        clear c0 c1 hm hb hc2 hc n0 n1 hlt g5
        go_loopw [40] (fun _ wv => ∃ j : Nat, i ≤ j ∧ j ≤ s.size ∧ wEnd s at0 = skipTo (fun c => !bl c) s j ∧ Hd w0 (cel b 246 #[.string s, .int .i64 j, ov, op] :: R) wv) (fun _ wv => s.size - intCell wv ⟨b, 1, none⟩)
        case atStart => exact ⟨i, Nat.le_refl _, hi, by unfold wEnd; rw [hw2], by exact Hd.fin H1⟩
        case round =>
          clear H1
          obtain ⟨j, hij, hj, hv, H1⟩ := hrel
          have hf := H1.facts
          simp only [Nat.reduceAdd] at hf
          go_split_ands
          have c0 := (H1.k b).ce 0 rfl
          have c1 := (H1.k b).ce 1 rfl
          have g5 : IntKind.i64.wrap ((j : Int) + 1) = (j : Int) + 1 := IntWalk.i64_in _ (by omega)
          have hm := Lib.hid (intCell_of c1)
          have m2 : (i : Int) ≤ j := by omega
          have m3 : (j : Int) ≤ s.size := by omega
          have m4 : (0 : Int) ≤ i := by omega
          by_cases hlt : j < s.size
          · have n1 : (j : Int) < s.size := by omega
            have n0 : (0 : Int) ≤ j := by omega
            obtain ⟨c, hc⟩ : ∃ c, s[j] = c := ⟨_, rfl⟩
            have hc2 : s.data[j] = c := hc
            cases hb : blankB (c.toNat : Int) with
            | false =>
              have hv2 := Lib.hid (hv.trans (skipTo_yes hlt (by rw [hc]; unfold bl; rw [hb]; rfl)))
              clear hv
              go_wp2_with fail
              refine wp_region_mix0 [(0, true), (1, true), (2, true), (3, true), (4, true), (5, true), (6, true), (7, true), (8, true), (9, true), (10, true), (11, true), (12, true), (13, true), (14, true), (15, true), (16, true), (17, true), (18, true), (19, true), (20, false), (21, true), (22, true)] (fun w' => w'.cell? ⟨b, 1, none⟩ = some (.int .i64 j) ∧ w'.cell? ⟨b, 0, none⟩ = some (.string s)) (by kernel_rfl) (by kernel_rfl) (⟨c1, c0⟩) (fun _ _ d _ _ h => by cases d <;> exact h) ?_
              iterate 20 (refine mix_head (o := _) (v := ?_) (by (simp only [List.getElem?_toArray, List.getElem?_cons_succ, List.getElem?_cons_zero]); rfl) (by rfl) (fun w' hS => ?_) ?_; rotate_left 1; (focus ((try dsimp only at hS); (try go_split_ands); go_simp; (try with_reducible rfl))); (try simp only [Act.put, List.setIfInBounds_toArray, List.set_cons_zero, List.set_cons_succ]))
              refine mix_mid (o := _) (by (simp only [List.getElem?_toArray, List.getElem?_cons_succ, List.getElem?_cons_zero]); rfl) ?_
              go_wp2_with fail
              refine (cdBlank (c.toNat : Int)).mono ?_
              rintro e w' ⟨rfl, rfl⟩
              go_wp2_with fail
              refine mixQ_in ⟨c1, c0⟩ ?_
              iterate 2 (refine mix_head (o := _) (v := ?_) (by (simp only [List.getElem?_toArray, List.getElem?_cons_succ, List.getElem?_cons_zero]); rfl) (by rfl) (fun w' hS => ?_) ?_; rotate_left 1; (focus ((try dsimp only at hS); (try go_split_ands); go_simp; (try with_reducible rfl))); (try simp only [Act.put, List.setIfInBounds_toArray, List.set_cons_zero, List.set_cons_succ]))
              refine mix_end ?_
              (try dsimp only)
              go_wp2_with fail
              go_roundw
              case rel => exact ⟨j + 1, by omega, by omega, hv2.out, by show Hd w0 (cel b 246 #[.string s, .int .i64 ((j : Int) + 1), ov, op] :: R) _; exact Hd.fin H1⟩
              case measure => rw [intCell_of (by exact ((Hd.fol H1 : Hd w0 _ _).k b).ce 1 rfl), hm.out]; omega
            | true =>
              have hv2 := Lib.hid (hv.trans (skipTo_no hlt (by rw [hc]; unfold bl; rw [hb]; rfl)))
              clear hv
              go_wp2_with fail
              refine wp_region_mix0 [(0, true), (1, true), (2, true), (3, true), (4, true), (5, true), (6, true), (7, true), (8, true), (9, true), (10, true), (11, true), (12, true), (13, true), (14, true), (15, true), (16, true), (17, true), (18, true), (19, true), (20, false), (21, true), (22, true)] (fun w' => w'.cell? ⟨b, 1, none⟩ = some (.int .i64 j) ∧ w'.cell? ⟨b, 0, none⟩ = some (.string s)) (by kernel_rfl) (by kernel_rfl) (⟨c1, c0⟩) (fun _ _ d _ _ h => by cases d <;> exact h) ?_
              iterate 20 (refine mix_head (o := _) (v := ?_) (by (simp only [List.getElem?_toArray, List.getElem?_cons_succ, List.getElem?_cons_zero]); rfl) (by rfl) (fun w' hS => ?_) ?_; rotate_left 1; (focus ((try dsimp only at hS); (try go_split_ands); go_simp; (try with_reducible rfl))); (try simp only [Act.put, List.setIfInBounds_toArray, List.set_cons_zero, List.set_cons_succ]))
              refine mix_mid (o := _) (by (simp only [List.getElem?_toArray, List.getElem?_cons_succ, List.getElem?_cons_zero]); rfl) ?_
              go_wp2_with fail
              refine (cdBlank (c.toNat : Int)).mono ?_
              rintro e w' ⟨rfl, rfl⟩
              go_wp2_with fail
              refine mixQ_in ⟨c1, c0⟩ ?_
              iterate 2 (refine mix_head (o := _) (v := ?_) (by (simp only [List.getElem?_toArray, List.getElem?_cons_succ, List.getElem?_cons_zero]); rfl) (by rfl) (fun w' hS => ?_) ?_; rotate_left 1; (focus ((try dsimp only at hS); (try go_split_ands); go_simp; (try with_reducible rfl))); (try simp only [Act.put, List.setIfInBounds_toArray, List.set_cons_zero, List.set_cons_succ]))
              refine mix_end ?_
              (try dsimp only)
              go_wp2_with fail
              go_quiet (fail)
              go_wp2_with fail
              (try rw [Exit.noGoto_ret])
              go_ret2
              exact ⟨ret_si (by unfold wordAt; rw [hv2.out, hw2]) (by rw [hw2]), by rw [hv2.out]; exact Hd.fin H1⟩
          · have n1 : ¬ (j : Int) < s.size := by omega
            have hv2 := Lib.hid (hv.trans (skipTo_end hlt))
            clear hv
            go_wp2_with fail
            go_quiet (fail)
            go_wp2_with fail
            go_quiet (fail)
            go_wp2_with fail
            (try rw [Exit.noGoto_ret])
            go_ret2
            exact ⟨ret_si (by unfold wordAt; rw [hv2.out, hw2]) (by rw [hw2]), by rw [hv2.out]; exact Hd.fin H1⟩
    · have n1 : ¬ (i : Int) < s.size := by omega
      have hw2 : wFrom s at0 = i := hw.trans (skipTo_end hlt)
      clear hw H
      go_wp2_with fail
      go_quiet (fail)
      go_wp2_with fail
      clear n1 hlt g5
      go_loopw [40] (fun _ wv => ∃ j : Nat, i ≤ j ∧ j ≤ s.size ∧ wEnd s at0 = skipTo (fun c => !bl c) s j ∧ Hd w0 (cel b 246 #[.string s, .int .i64 j, ov, op] :: R) wv) (fun _ wv => s.size - intCell wv ⟨b, 1, none⟩)
      case atStart => exact ⟨i, Nat.le_refl _, hi, by unfold wEnd; rw [hw2], by exact Hd.fin H1⟩
      case round =>
        clear H1
        obtain ⟨j, hij, hj, hv, H1⟩ := hrel
        have hf := H1.facts
        simp only [Nat.reduceAdd] at hf
        go_split_ands
        have c0 := (H1.k b).ce 0 rfl
        have c1 := (H1.k b).ce 1 rfl
        have g5 : IntKind.i64.wrap ((j : Int) + 1) = (j : Int) + 1 := IntWalk.i64_in _ (by omega)
        have hm := Lib.hid (intCell_of c1)
        have m2 : (i : Int) ≤ j := by omega
        have m3 : (j : Int) ≤ s.size := by omega
        have m4 : (0 : Int) ≤ i := by omega
        by_cases hlt : j < s.size
        · have n1 : (j : Int) < s.size := by omega
          have n0 : (0 : Int) ≤ j := by omega
          obtain ⟨c, hc⟩ : ∃ c, s[j] = c := ⟨_, rfl⟩
          have hc2 : s.data[j] = c := hc
          cases hb : blankB (c.toNat : Int) with
          | false =>
            have hv2 := Lib.hid (hv.trans (skipTo_yes hlt (by rw [hc]; unfold bl; rw [hb]; rfl)))
            clear hv
            go_wp2_with fail
            refine wp_region_mix0 [(0, true), (1, true), (2, true), (3, true), (4, true), (5, true), (6, true), (7, true), (8, true), (9, true), (10, true), (11, true), (12, true), (13, true), (14, true), (15, true), (16, true), (17, true), (18, true), (19, true), (20, false), (21, true), (22, true)] (fun w' => w'.cell? ⟨b, 1, none⟩ = some (.int .i64 j) ∧ w'.cell? ⟨b, 0, none⟩ = some (.string s)) (by kernel_rfl) (by kernel_rfl) (⟨c1, c0⟩) (fun _ _ d _ _ h => by cases d <;> exact h) ?_
            iterate 20 (refine mix_head (o := _) (v := ?_) (by (simp only [List.getElem?_toArray, List.getElem?_cons_succ, List.getElem?_cons_zero]); rfl) (by rfl) (fun w' hS => ?_) ?_; rotate_left 1; (focus ((try dsimp only at hS); (try go_split_ands); go_simp; (try with_reducible rfl))); (try simp only [Act.put, List.setIfInBounds_toArray, List.set_cons_zero, List.set_cons_succ]))
            refine mix_mid (o := _) (by (simp only [List.getElem?_toArray, List.getElem?_cons_succ, List.getElem?_cons_zero]); rfl) ?_
            go_wp2_with fail
            refine (cdBlank (c.toNat : Int)).mono ?_
            rintro e w' ⟨rfl, rfl⟩
            go_wp2_with fail
            refine mixQ_in ⟨c1, c0⟩ ?_
            iterate 2 (refine mix_head (o := _) (v := ?_) (by (simp only [List.getElem?_toArray, List.getElem?_cons_succ, List.getElem?_cons_zero]); rfl) (by rfl) (fun w' hS => ?_) ?_; rotate_left 1; (focus ((try dsimp only at hS); (try go_split_ands); go_simp; (try with_reducible rfl))); (try simp only [Act.put, List.setIfInBounds_toArray, List.set_cons_zero, List.set_cons_succ]))
            refine mix_end ?_
            (try dsimp only)
            go_wp2_with fail
            go_roundw
            case rel => exact ⟨j + 1, by omega, by omega, hv2.out, by show Hd w0 (cel b 246 #[.string s, .int .i64 ((j : Int) + 1), ov, op] :: R) _; exact Hd.fin H1⟩
            case measure => rw [intCell_of (by exact ((Hd.fol H1 : Hd w0 _ _).k b).ce 1 rfl), hm.out]; omega
          | true =>
            have hv2 := Lib.hid (hv.trans (skipTo_no hlt (by rw [hc]; unfold bl; rw [hb]; rfl)))
            clear hv
            go_wp2_with fail
            refine wp_region_mix0 [(0, true), (1, true), (2, true), (3, true), (4, true), (5, true), (6, true), (7, true), (8, true), (9, true), (10, true), (11, true), (12, true), (13, true), (14, true), (15, true), (16, true), (17, true), (18, true), (19, true), (20, false), (21, true), (22, true)] (fun w' => w'.cell? ⟨b, 1, none⟩ = some (.int .i64 j) ∧ w'.cell? ⟨b, 0, none⟩ = some (.string s)) (by kernel_rfl) (by kernel_rfl) (⟨c1, c0⟩) (fun _ _ d _ _ h => by cases d <;> exact h) ?_
            iterate 20 (refine mix_head (o := _) (v := ?_) (by (simp only [List.getElem?_toArray, List.getElem?_cons_succ, List.getElem?_cons_zero]); rfl) (by rfl) (fun w' hS => ?_) ?_; rotate_left 1; (focus ((try dsimp only at hS); (try go_split_ands); go_simp; (try with_reducible rfl))); (try simp only [Act.put, List.setIfInBounds_toArray, List.set_cons_zero, List.set_cons_succ]))
            refine mix_mid (o := _) (by (simp only [List.getElem?_toArray, List.getElem?_cons_succ, List.getElem?_cons_zero]); rfl) ?_
            go_wp2_with fail
            refine (cdBlank (c.toNat : Int)).mono ?_
            rintro e w' ⟨rfl, rfl⟩
            go_wp2_with fail
            refine mixQ_in ⟨c1, c0⟩ ?_
            iterate 2 (refine mix_head (o := _) (v := ?_) (by (simp only [List.getElem?_toArray, List.getElem?_cons_succ, List.getElem?_cons_zero]); rfl) (by rfl) (fun w' hS => ?_) ?_; rotate_left 1; (focus ((try dsimp only at hS); (try go_split_ands); go_simp; (try with_reducible rfl))); (try simp only [Act.put, List.setIfInBounds_toArray, List.set_cons_zero, List.set_cons_succ]))
            refine mix_end ?_
            (try dsimp only)
            go_wp2_with fail
            go_quiet (fail)
            go_wp2_with fail
            (try rw [Exit.noGoto_ret])
            go_ret2
            exact ⟨ret_si (by unfold wordAt; rw [hv2.out, hw2]) (by rw [hw2]), by rw [hv2.out]; exact Hd.fin H1⟩
        · have n1 : ¬ (j : Int) < s.size := by omega
          have hv2 := Lib.hid (hv.trans (skipTo_end hlt))
          clear hv
          go_wp2_with fail
          go_quiet (fail)
          go_wp2_with fail
          go_quiet (fail)
          go_wp2_with fail
          (try rw [Exit.noGoto_ret])
          go_ret2
          exact ⟨ret_si (by unfold wordAt; rw [hv2.out, hw2]) (by rw [hw2]), by rw [hv2.out]; exact Hd.fin H1⟩
end
end Go.Proofs.YtogcikilphakmaaGreatDoor

/-
  What a row's listed variables give: the library's variables are laid in the world in which the call begins.
-/
namespace Go.Proofs.YtogcikilphakmaaGreatDoor
open Go.ChangeShapes Go.WideShapes Go.ChangeAt Go.RowKit Spl

abbrev laidL : List (String × DataW Unit) := [("math/bits.deBruijn32tab", Rows.laid_math_bits_deBruijn32tab), ("math/bits.deBruijn64tab", Rows.laid_math_bits_deBruijn64tab), ("internal/strconv.uint64pow10", Rows.laid_internal_strconv_uint64pow10), ("strconv.ErrRange", Rows.laid_strconv_ErrRange), ("strconv.ErrSyntax", Rows.laid_strconv_ErrSyntax)]
theorem rowErr (u : TypeId) (h : Tryz.prog.typeName? 3 u = some "*errors.errorString") : u = 344 :=
  typeName_ptr_named (nm := "errors.errorString") (by kernel_rfl) (by kernel_rfl) (by decide) u h
theorem laidW_of {W : World} (h : laidMetH Tryz.prog laidL W) : LaidW W := by
  rw [MakeChecks.laidMetH_plain _ _ _ (by kernel_rfl)] at h
  have h3 := laidMet.tail (laidMet.tail h)
  have h4 := laidMet.tail h3
  have h5 := laidMet.tail h4
  have htab : Lib.TabIs Tryz.prog W "internal/strconv.uint64pow10" .u64 Lib.pow10Tab :=
    Lib.tabIs_of_head (g := 2) (t := 348) (e := 329) (n := 20) (by kernel_rfl) (by kernel_rfl) Tryz.underlying348 Tryz.underlying329 (by kernel_rfl) (by kernel_rfl) h3
  obtain ⟨a1, s1, v1, -⟩ := laid_sentinel (g := 1) (ti := 308) (tp := 344) (te := 346) (ts := 9) h4 (by kernel_rfl) (by kernel_rfl) Tryz.underlying308 rowErr Tryz.underlying344 Tryz.underlying346 rfl rfl Tryz.underlying9 (by kernel_rfl) (by kernel_rfl)
  obtain ⟨a2, s2, v2, -⟩ := laid_sentinel (g := 0) (ti := 308) (tp := 344) (te := 346) (ts := 9) h5 (by kernel_rfl) (by kernel_rfl) Tryz.underlying308 rowErr Tryz.underlying344 Tryz.underlying346 rfl rfl Tryz.underlying9 (by kernel_rfl) (by kernel_rfl)
  exact ⟨⟨_, _, v2⟩, ⟨_, _, v1⟩, htab⟩
theorem lay_whole {W : World} (h : LaidW W) : Lay W [whole W] := ⟨fun {w} H => by
  have hk : ∀ (n : String) (cs : Array Value), W.var? Tryz.prog n = some cs → w.var? Tryz.prog n = some cs := by
    intro n cs hv
    unfold World.var? at hv ⊢
    cases hg : Tryz.prog.globalNamed n with
    | none => simp [hg] at hv
    | some g =>
      simp only [hg, Option.bind_some] at hv ⊢
      cases ho : W.heap[g]? with
      | none => simp [ho] at hv
      | some o => rw [ho] at hv; rw [H.old g o ho]; exact hv
  obtain ⟨⟨a, b, c⟩, ⟨d, e, f⟩, g⟩ := h
  exact ⟨⟨a, b, hk _ _ c⟩, ⟨d, e, hk _ _ f⟩, hk _ _ g⟩⟩
/-- The door's own heap meets the condition. -/
theorem door_met (os : Os) (args : Array Value) : laidMetH Tryz.prog laidL ((World.doorLaid Tryz.prog 400 os).forCall (fun _ _ => 0) ⟨#[], args, []⟩).memory :=
  laidMetH_of_parts3 (fuel := 8) (laidMet_of_run' 8 (by kernel_rfl) (by kernel_rfl)) (by kernel_rfl) (by kernel_rfl)
end Go.Proofs.YtogcikilphakmaaGreatDoor
