/-
  Merged texts of one proof: Clone, Key.
-/
import Derived.Laws.Strings
import Derived.Lib.Hide
import Derived.Lib.SliceRun
import Derived.Test.YtogcikilphakmaaGreatDoorG05

/-
  slices.Clone over the separation logic: of ints, of needs. The source is told by what it reads as.
-/
namespace Go.Proofs.YtogcikilphakmaaGreatDoor
open Go.RowKit Spl

/-- A slice that reads as a list in every world that keeps R. -/
def Src {α : Type} [Enc α] (w0 : World) (R : List Pr) (v : Value) (l : List α) : Prop :=
  (v = .slice none 0 0 ∧ l = []) ∨ ∃ ad c, v = .slice (some ad) l.length c ∧ ∀ {w1 : World}, Hd w0 R w1 → ∀ (j : Nat) (u : Value), (flat l)[j]? = some u → w1.cell? (ad.add j) = some u
theorem infoNeed : (Tryz.prog.info? 58).map (fun i => (i.zero, i.size, i.bytes)) = some (some (.agg #[.int .i64 0, .int .i64 0]), 2, 16) := by kernel_rfl
theorem Src.slc {α : Type} [Enc α] {w0 : World} {R : List Pr} {e : TypeId} {v : Value} {l : List α} {w : World} (H : Hd w0 (SlE e v l :: R) w) : Src w0 (SlE e v l :: R) v l := by
  rcases H.slc with ⟨h, h2, h3, _⟩ | ⟨g, c, h, _⟩
  · refine .inl ⟨h, ?_⟩
    exact List.eq_nil_of_length_eq_zero h2
  · subst h
    exact .inr ⟨_, c, rfl, fun H1 => H1.slc_news.2 _ rfl⟩
theorem Src.of {α : Type} [Enc α] {w0 : World} {R S : List Pr} {v : Value} {l : List α} (h : Src w0 R v l) (hs : ∀ {w1 : World}, Hd w0 S w1 → Hd w0 R w1) : Src w0 S v l := by
  rcases h with h | ⟨ad, c, h, h2⟩
  · exact .inl h
  · exact .inr ⟨ad, c, h, fun H => h2 (hs H)⟩
section
variable {w0 w : World} {R : List Pr} {v : Value}

set_option maxRecDepth 20000 in
set_option maxHeartbeats 800000 in
theorem clone_int {l : List Int} (H : Hd w0 R w) (hs : Src w0 R v l) (hn : l.length ≤ 100000) :
    Calls Tryz.prog 43 #[v] w fun e w' => ∃ v', e = .returned v' ∧ Hd w0 (SlE 3 v' l :: R) w' := by
  have qT : ∀ (w : World) (a : Option Addr) (n c : Nat), (binOp .eql 26 (.slice a n c) (.slice none 0 0)).run Tryz.prog w = .ok (.bool a.isNone) w := fun w a n c => Lib.run_eql_slice_nil w _ _ a n c 0 0 Tryz.underlying26
  rcases hs with ⟨rfl, rfl⟩ | ⟨ad, c, rfl, hs⟩
  · clear hn
    go_enter Tryz.func43, Tryz.ntmps43
    go_wp2
    go_ret
    exact ⟨_, rfl, H.slc_nil _ _⟩
  · obtain ⟨i0, hi, hz0, hz1, hz2⟩ := info_parts stkInfo_int
    have hA := H.alloc (.cells #[] 3)
    have H2 : Hd w0 (Slc 3 1 (.slice (some ⟨w.heap.size, 0, none⟩) 0 0) 0 [] :: R) (w.alloc (.cells #[] 3)) := (Hd.slcC_mk (sp := []) (xs := []) (size := 1) (n := 0) (cap := 0) hA rfl (Nat.le_refl _) (Nat.zero_le _) (by simp)).slc_mk
    have hnews := Lib.hid (hs hA.tail)
    have hfl := flat_len l
    replace hn := Lib.hid hn
    clear hs hA H
    have hlen := Lib.hid (Nat.zero_add l.length)
    go_enter Tryz.func43, Tryz.ntmps43
    go_wp2_with (at_builtin; refine wpList_append_slc rfl _ _ 26 rfl 3 i0 _ 1 8 Tryz.underlying26 hi hz0 hz1 hz2 rfl _ _ _ rfl H2 ad l.length c (flat l) rfl hfl hnews.out (flat_oneCell l) (by have := hn.out; unfold maxLen; omega) (by have := hn.out; omega) ?_; intro v' w2 H3; rw [hlen.out, List.nil_append] at H3)
    go_ret
    exact ⟨_, rfl, H3⟩

set_option maxRecDepth 20000 in
set_option maxHeartbeats 800000 in
theorem clone_need {l : List NeedM} (H : Hd w0 R w) (hs : Src w0 R v l) (hn : l.length ≤ 100000) :
    Calls Tryz.prog 50 #[v] w fun e w' => ∃ v', e = .returned v' ∧ Hd w0 (SlE 58 v' l :: R) w' := by
  have qT : ∀ (w : World) (a : Option Addr) (n c : Nat), (binOp .eql 31 (.slice a n c) (.slice none 0 0)).run Tryz.prog w = .ok (.bool a.isNone) w := fun w a n c => Lib.run_eql_slice_nil w _ _ a n c 0 0 Tryz.underlying31
  rcases hs with ⟨rfl, rfl⟩ | ⟨ad, c, rfl, hs⟩
  · clear hn
    go_enter Tryz.func50, Tryz.ntmps50
    go_wp2
    go_ret
    exact ⟨_, rfl, H.slc_nil _ _⟩
  · obtain ⟨i0, hi, hz0, hz1, hz2⟩ := info_parts infoNeed
    have hA := H.alloc (.cells #[] 58)
    have H2 : Hd w0 (Slc 58 2 (.slice (some ⟨w.heap.size, 0, none⟩) 0 0) 0 [] :: R) (w.alloc (.cells #[] 58)) := (Hd.slcC_mk (sp := []) (xs := []) (size := 2) (n := 0) (cap := 0) hA rfl (Nat.le_refl _) (Nat.zero_le _) (by simp)).slc_mk
    have hnews := Lib.hid (hs hA.tail)
    have hfl := flat_len l
    replace hn := Lib.hid hn
    clear hs hA H
    have hlen := Lib.hid (Nat.zero_add l.length)
    go_enter Tryz.func50, Tryz.ntmps50
    go_wp2_with (at_builtin; refine wpList_append_slc rfl _ _ 31 rfl 58 i0 _ 2 16 Tryz.underlying31 hi hz0 hz1 hz2 rfl _ _ _ rfl H2 ad l.length c (flat l) rfl hfl hnews.out (flat_oneCell l) (by have := hn.out; unfold maxLen; omega) (by have := hn.out; omega) ?_; intro v' w2 H3; rw [hlen.out, List.nil_append] at H3)
    go_ret
    exact ⟨_, rfl, H3⟩
end
end Go.Proofs.YtogcikilphakmaaGreatDoor

/-
  Keys in order, rows sorted by their keys, and where a key's row is or would be. No program in sight.
-/
namespace Go.Proofs.YtogcikilphakmaaGreatDoor
open Go.RowKit Spl

class KLt (K : Type) where
  lt : K → K → Bool
  irr : ∀ a, lt a a = false
  tr : ∀ {a b c}, lt a b = true → lt b c = true → lt a c = true
  tot : ∀ {a b}, lt a b = false → lt b a = false → a = b
instance : KLt Int where
  lt a b := decide (a < b)
  irr a := by simp
  tr h1 h2 := by simp at *; omega
  tot h1 h2 := by simp at *; omega
theorem bytes_ext {a b : ByteArray} (h : a.toList = b.toList) : a = b := by
  rw [ByteArray.toList_eq, ByteArray.toList_eq] at h
  exact ByteArray.ext (Array.ext' h)
theorem less_eq : ∀ (x y : List UInt8), Op.bytesLess x y = decide (x < y)
  | [], [] => by simp [Op.bytesLess]
  | _ :: _, [] => by simp [Op.bytesLess]
  | [], _ :: _ => by simp [Op.bytesLess]
  | a :: x, b :: y => by
    rw [Op.bytesLess, less_eq x y]
    simp only [List.cons_lt_cons_iff]
    by_cases h1 : a < b <;> by_cases h2 : a = b <;> by_cases h3 : x < y <;> simp [h1, h2, h3]
instance : KLt ByteArray where
  lt a b := Op.bytesLess a.toList b.toList
  irr a := by rw [less_eq]; simp
  tr {a b c} h1 h2 := by
    rw [less_eq] at *
    simp only [decide_eq_true_eq] at *
    exact List.lt_trans h1 h2
  tot {a b} h1 h2 := by
    rw [less_eq] at *
    simp only [decide_eq_false_iff_not] at *
    exact bytes_ext (List.le_antisymm h2 h1)
class Keyed (α : Type) (K : outParam Type) where
  key : α → K

instance : Keyed RowH Int := ⟨RowH.k⟩
instance : Keyed RowN ByteArray := ⟨RowN.k⟩
section
variable {α K : Type} [KLt K] [Keyed α K]
def Sorted (l : List α) : Prop := l.Pairwise fun x y => KLt.lt (Keyed.key x) (Keyed.key y) = true
def pos (l : List α) (k : K) : Nat := (l.takeWhile fun x => KLt.lt (Keyed.key x) k).length
/-- The row of a key. -/
def rowAt (l : List α) (k : K) : Option α := match l[pos l k]? with
  | none => none
  | some x => if KLt.lt k (Keyed.key x) then none else some x
theorem pos_le (l : List α) (k : K) : pos l k ≤ l.length := by
  unfold pos
  exact (List.takeWhile_sublist _).length_le
theorem pos_lt {l : List α} {k : K} : ∀ {t : Nat} {x : α}, l[t]? = some x → t < pos l k → KLt.lt (Keyed.key x) k = true := by
  induction l with
  | nil => intro t x h; simp at h
  | cons y l ih =>
    intro t x h ht
    unfold pos at ht
    rw [List.takeWhile_cons] at ht
    split at ht
    · rename_i hy
      cases t with
      | zero => simp at h; subst h; exact hy
      | succ t => exact ih (t := t) (by simpa using h) (by simpa [pos] using ht)
    · simp at ht
theorem pos_ge {l : List α} {k : K} (hs : Sorted l) : ∀ {t : Nat} {x : α}, l[t]? = some x → pos l k ≤ t → KLt.lt (Keyed.key x) k = false := by
  induction l with
  | nil => intro t x h; simp at h
  | cons y l ih =>
    intro t x h ht
    have hs2 := List.pairwise_cons.1 hs
    unfold pos at ht
    rw [List.takeWhile_cons] at ht
    split at ht
    · rename_i hy
      cases t with
      | zero => simp at ht
      | succ t => exact ih hs2.2 (t := t) (by simpa using h) (by simpa [pos] using ht)
    · rename_i hy
      have hy' : KLt.lt (Keyed.key y) k = false := by simpa using hy
      cases t with
      | zero => simp at h; subst h; exact hy'
      | succ t =>
        have hx : x ∈ l := List.mem_of_getElem? (i := t) (by simpa using h)
        have h1 := hs2.1 x hx
        cases hc : KLt.lt (Keyed.key x) k with
        | false => rfl
        | true => exact absurd (KLt.tr h1 hc) (by rw [hy']; simp)
theorem rowAt_some {l : List α} {k : K} {x : α} (hs : Sorted l) (h : rowAt l k = some x) : l[pos l k]? = some x ∧ Keyed.key x = k := by
  unfold rowAt at h
  split at h
  · cases h
  · rename_i y hy
    split at h
    · cases h
    · rename_i hc
      injection h with h
      subst h
      exact ⟨hy, KLt.tot (pos_ge hs hy (Nat.le_refl _)) (by simpa using hc)⟩
end
end Go.Proofs.YtogcikilphakmaaGreatDoor
