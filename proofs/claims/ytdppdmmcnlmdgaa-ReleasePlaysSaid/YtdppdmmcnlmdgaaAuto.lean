/-
  The small separation logic, picked by key: an assertion found by its block or slice, a list of assertions brought into another order, the assertions followed through a world that the walk has spelled. No program in sight.
-/
import Derived.Test.YtdppdmmcnlmdgaaSlc
namespace Go.Proofs.Ytdppdmmcnlmdgaa
open Go.RowKit Spl

/-- What an assertion is asked by: a block, or a slice's value. -/
inductive Ky where
  | b (n : Nat)
  | v (x : Value)
class Key (P : Pr) (k : Ky) : Prop where
  tt : True
class Pick (k : Ky) (L : List Pr) (P : outParam Pr) (R : outParam (List Pr)) : Prop where
  perm : L.Perm (P :: R)
instance (priority := high) Pick.head {k : Ky} {P : Pr} {R : List Pr} [Key P k] : Pick k (P :: R) P R := ⟨List.Perm.refl _⟩
instance Pick.tail {k : Ky} {L : List Pr} {P Q : Pr} {R : List Pr} [h : Pick k L P R] : Pick k (Q :: L) P (Q :: R) := ⟨(h.perm.cons Q).trans (List.Perm.swap P Q R)⟩
instance Key.pt {b : Nat} {o : Obj} : Key (pt b o) (.b b) := ⟨trivial⟩
instance Key.slc {e : TypeId} {s n : Nat} {v : Value} {xs : List Value} : Key (Slc e s v n xs) (.v v) := ⟨trivial⟩
instance Key.slcC {e : TypeId} {s g n cap : Nat} {xs : List Value} : Key (SlcC e s g n cap xs) (.b g) := ⟨trivial⟩

class Take (P : Pr) (L : List Pr) (R : outParam (List Pr)) : Prop where
  perm : L.Perm (P :: R)
instance (priority := high) Take.head {P : Pr} {R : List Pr} : Take P (P :: R) R := ⟨List.Perm.refl _⟩
instance Take.tail {P Q : Pr} {L R : List Pr} [h : Take P L R] : Take P (Q :: L) (Q :: R) := ⟨(h.perm.cons Q).trans (List.Perm.swap P Q R)⟩
class Sub (M L : List Pr) : Prop where
  imp : ∀ {h : Hp}, sat L h → sat M h
instance (priority := high) Sub.same {L : List Pr} : Sub L L := ⟨fun h => h⟩
instance Sub.cons {P : Pr} {M L R : List Pr} [h : Take P L R] [s : Sub M R] : Sub (P :: M) L := ⟨fun hs => sat_cons_mono (fun _ h => h) (fun _ h => s.imp h) (sat_perm h.perm hs)⟩
instance (priority := low) Sub.drop {M L : List Pr} {X : Pr} [s : Sub M L] : Sub M (X :: L) := ⟨fun hs => s.imp (sat_tail hs)⟩
instance (priority := low) Sub.nil {L : List Pr} : Sub [] L := ⟨fun _ => trivial⟩

section
variable {w0 w w' : World} {L M R : List Pr} {P : Pr}
theorem Hd.pick {k : Ky} [h : Pick k L P R] (H : Hd w0 L w) : Hd w0 (P :: R) w := H.perm h.perm
theorem Hd.k (b : Nat) [h : Pick (.b b) L P R] (H : Hd w0 L w) : Hd w0 (P :: R) w := H.perm h.perm
theorem Hd.v (x : Value) [h : Pick (.v x) L P R] (H : Hd w0 L w) : Hd w0 (P :: R) w := H.perm h.perm
theorem Hd.re [s : Sub M L] (H : Hd w0 L w) : Hd w0 M w := ⟨H.1, s.imp H.2⟩
end

/-- A literal row with one of its values changed. -/
class SetL (l : List Value) (i : Nat) (v : Value) (l' : outParam (List Value)) : Prop where
  eq : l.set i v = l'
instance SetL.zero {a v : Value} {l : List Value} : SetL (a :: l) 0 v (v :: l) := ⟨rfl⟩
instance SetL.succ {a v : Value} {l l' : List Value} {i : Nat} [h : SetL l i v l'] : SetL (a :: l) (i + 1) v (a :: l') := ⟨by rw [List.set_cons_succ, h.eq]⟩
class SetA (c : Array Value) (i : Nat) (v : Value) (c' : outParam (Array Value)) : Prop where
  eq : c.setIfInBounds i v = c'
instance (priority := high) SetA.lit {l l' : List Value} {i : Nat} {v : Value} [h : SetL l i v l'] : SetA l.toArray i v l'.toArray := ⟨by rw [← h.eq]; simp⟩
instance (priority := low) SetA.any {c : Array Value} {i : Nat} {v : Value} : SetA c i v (c.setIfInBounds i v) := ⟨rfl⟩

/-- The size of a heap, in the walk's spelling. -/
class HSize (w : World) (n : outParam Nat) : Prop where
  eq : w.heap.size = n
instance (priority := low) HSize.any {w : World} : HSize w w.heap.size := ⟨rfl⟩
instance HSize.alloc {w : World} {o : Obj} {n : Nat} [h : HSize w n] : HSize (w.alloc o) (n + 1) := ⟨by rw [← h.eq]; unfold World.alloc; exact Array.size_push ..⟩
instance HSize.drew {w : World} {n : Nat} [h : HSize w n] : HSize w.drew n := ⟨h.eq⟩
instance HSize.drewN {w : World} {n k : Nat} [h : HSize w n] : HSize (w.drewN k) n := ⟨h.eq⟩
instance HSize.setCell {w : World} {n : Nat} {a : Addr} {v : Value} [h : HSize w n] : HSize (w.setCell a v) n := ⟨by rw [← h.eq]; simp [World.setCell]⟩

/-- The assertions followed from one world to a later one. -/
class Foll (w : World) (L : List Pr) (w' : World) (L' : outParam (List Pr)) : Prop where
  imp : ∀ {w0 : World}, Hd w0 L w → Hd w0 L' w'
instance (priority := high) Foll.same {w : World} {L : List Pr} : Foll w L w L := ⟨fun H => H⟩
instance Foll.drew {w w' : World} {L L' : List Pr} [h : Foll w L w' L'] : Foll w L w'.drew L' := ⟨fun H => (h.imp H).drew⟩
instance Foll.drewN {w w' : World} {L L' : List Pr} {n : Nat} [h : Foll w L w' L'] : Foll w L (w'.drewN n) L' := ⟨fun H => (h.imp H).drewN n⟩
instance Foll.alloc {w w' : World} {L L' : List Pr} {o : Obj} {n : Nat} [h : Foll w L w' L'] [s : HSize w' n] : Foll w L (w'.alloc o) (pt n o :: L') := ⟨fun H => s.eq ▸ (h.imp H).alloc o⟩
instance Foll.setCell {w w' : World} {L L' R : List Pr} {b i : Nat} {T : TypeId} {c c' : Array Value} {v : Value} [h : Foll w L w' L'] [p : Pick (.b b) L' (pt b (.cells c T (0, 0))) R] [s : SetA c i v c'] :
    Foll w L (w'.setCell ⟨b, i, none⟩ v) (pt b (.cells c' T (0, 0)) :: R) := ⟨fun H => s.eq ▸ ((h.imp H).perm p.perm).set i v⟩
theorem Hd.fol {w0 w w' : World} {L L' : List Pr} [h : Foll w L w' L'] (H : Hd w0 L w) : Hd w0 L' w' := h.imp H
theorem Hd.fin {w0 w w' : World} {L L' M : List Pr} [h : Foll w L w' L'] [s : Sub M L'] (H : Hd w0 L w) : Hd w0 M w' := (h.imp H).re

section
variable {w0 w : World} {R : List Pr} (b c g n cap : Nat) (T U e : TypeId) (v : Value) (xs : List Value)
example (H : Hd w0 (cel b T #[.int .i64 3, v] :: Slc e 1 v n xs :: R) w) : Hd w0 (Slc e 1 v n xs :: cel b T #[.int .i64 3, v] :: R) w := H.v v
example (H : Hd w0 (cel b T #[.int .i64 3, v] :: Slc e 1 v n xs :: R) w) : w.cell? ⟨b, 1, none⟩ = some v := (H.k b).rd 1
example (H : Hd w0 (cel b T #[.int .i64 3, v] :: Slc e 1 v n xs :: cel c U #[v] :: R) w) : Hd w0 (cel c U #[v] :: cel b T #[.int .i64 3, v] :: R) w := H.re
example (H : Hd w0 (cel b T #[.int .i64 3, v] :: Slc e 1 v n xs :: cel c U #[v, v] :: R) w) :
  Hd w0 (cel c U #[v, .int .i64 7] :: cel w.heap.size T #[v, v] :: cel b T #[.int .i64 3, v] :: R) (((w.alloc (.cells #[v, v] T)).drew.setCell ⟨c, 1, none⟩ (.int .i64 7))) := H.fin
end
end Go.Proofs.Ytdppdmmcnlmdgaa
