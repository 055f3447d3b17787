/-
  Merged texts of one proof: Key.
-/
import Derived.Laws.Strings
import Derived.Test.YtkchopnkdjnocaaGreatDoorG01

set_option maxHeartbeats 16000000
set_option maxRecDepth 20000
namespace Go.Proofs.YtkchopnkdjnocaaGreatDoor
section
open Go.RowKit Spl
class KLt (K:Type) where
  lt:K→K→Bool
  irr:∀a,lt a a=false
  tr:∀ {a b c},lt a b=true→lt b c=true→lt a c=true
  tot:∀ {a b},lt a b=false→lt b a=false→a=b
instance:KLt Int where
  lt a b:=decide (a<b)
  irr a:=by simp
  tr h1 h2:=by simp at *;omega
  tot h1 h2:=by simp at *;omega
theorem qVh {a b:ByteArray} (h:a.toList=b.toList):a=b:=by
  rw [ByteArray.toList_eq,ByteArray.toList_eq] at h
  exact ByteArray.ext (Array.ext' h)
theorem qWJ:∀(x y:List UInt8),Op.bytesLess x y=decide (x<y)
  | [],[]=>by simp [Op.bytesLess]
  | _::_,[]=>by simp [Op.bytesLess]
  | [],_::_=>by simp [Op.bytesLess]
  | a::x,b::y=>by
    rw [Op.bytesLess,qWJ x y]
    simp only [List.cons_lt_cons_iff]
    by_cases h1:a<b <;> by_cases h2:a=b <;> by_cases h3:x<y <;> simp [h1,h2,h3]
instance:KLt ByteArray where
  lt a b:=Op.bytesLess a.toList b.toList
  irr a:=by rw [qWJ];simp
  tr {a b c} h1 h2:=by
    rw [qWJ] at *
    simp only [decide_eq_true_eq] at *
    exact List.lt_trans h1 h2
  tot {a b} h1 h2:=by
    rw [qWJ] at *
    simp only [decide_eq_false_iff_not] at *
    exact qVh (List.le_antisymm h2 h1)
class qQ8 (α:Type) (K:outParam Type) where
  key:α→K
instance:qQ8 RowH Int:=⟨RowH.k⟩
instance:qQ8 RowN ByteArray:=⟨RowN.k⟩
section
variable {α K:Type} [KLt K] [qQ8 α K]
def qQ9 (l:List α):Prop:=l.Pairwise fun x y=>KLt.lt (qQ8.key x) (qQ8.key y)=true
def pos (l:List α) (k:K):Nat:=(l.takeWhile fun x=>KLt.lt (qQ8.key x) k).length
def qQs (l:List α) (k:K):Option α:=match l[pos l k]? with
  | none=>none
  | some x=>if KLt.lt k (qQ8.key x) then none else some x
theorem qYQ (l:List α) (k:K):pos l k≤l.length:=by
  unfold pos
  exact (List.takeWhile_sublist _).length_le
theorem zZ5 {l:List α} {k:K}:∀ {t:Nat} {x:α},l[t]? = some x→t<pos l k→KLt.lt (qQ8.key x) k=true:=by
  induction l with
  | nil=>intro t x h;simp at h
  | cons y l ih =>
    intro t x h ht
    unfold pos at ht
    rw [List.takeWhile_cons] at ht
    split at ht
    · rename_i hy
      cases t with
      | zero=>simp at h;subst h;exact hy
      | succ t=>exact ih (t:=t) (by simpa using h) (by simpa [pos] using ht)
    · simp at ht
theorem qVC {l:List α} {k:K} (hs:qQ9 l):∀ {t:Nat} {x:α},l[t]? = some x→pos l k≤t→KLt.lt (qQ8.key x) k=false:=by
  induction l with
  | nil=>intro t x h;simp at h
  | cons y l ih =>
    intro t x h ht
    have hs2:=List.pairwise_cons.1 hs
    unfold pos at ht
    rw [List.takeWhile_cons] at ht
    split at ht
    · rename_i hy
      cases t with
      | zero=>simp at ht
      | succ t=>exact ih hs2.2 (t:=t) (by simpa using h) (by simpa [pos] using ht)
    · rename_i hy
      have hy':KLt.lt (qQ8.key y) k=false:=by simpa using hy
      cases t with
      | zero=>simp at h;subst h;exact hy'
      | succ t =>
        have hx:x∈l:=List.mem_of_getElem? (i:=t) (by simpa using h)
        have h1:=hs2.1 x hx
        cases hc:KLt.lt (qQ8.key x) k with
        | false=>rfl
        | true=>exact absurd (KLt.tr h1 hc) (by rw [hy'];simp)
theorem qQv {l:List α} {k:K} {x:α} (hs:qQ9 l) (h:qQs l k=some x):l[pos l k]? = some x∧qQ8.key x=k:=by
  unfold qQs at h
  split at h
  · cases h
  · rename_i y hy
    split at h
    · cases h
    · rename_i hc
      injection h with h
      subst h
      exact ⟨hy,KLt.tot (qVC hs hy (Nat.le_refl _)) (by simpa using hc)⟩
end
end
end Go.Proofs.YtkchopnkdjnocaaGreatDoor
