/-
  Merged texts of one proof: Auto, Enc, Encs, ArM, StkInt, More, Ceil.
-/
import Derived.BigQuiet
import Derived.Deep.QuietTactic
import Derived.Deep.RegionLaw
import Derived.IntWalk
import Derived.Lib.Hide
import Derived.Lib.JoinLaws
import Derived.Lib.SliceRun
import Derived.StillTailTactics
import Derived.Test.YtogcikilphakmaaGreatDoorG01
import Derived.Test.YtogcikilphakmaaGreatDoorG02
import Derived.Test.YtogcikilphakmaaGreatDoorRows

/-
  The small separation logic, picked by key: an assertion found by its block or slice, a list of assertions brought into another order, the assertions followed through a world that the walk has spelled. No program in sight.
-/
namespace Go.Proofs.YtogcikilphakmaaGreatDoor
open Go.RowKit Spl

/-- What an assertion is asked by: a block, or a slice's value. -/
inductive Ky where
  | b (n : Nat)
  | v (x : Value)
class Key (P : Pr) (k : Ky) : Prop where
  tt : True
class Pick (k : Ky) (L : List Pr) (P : outParam Pr) (R : outParam (List Pr)) : Prop where
  perm : L.Perm (P :: R)
instance (priority := high) Pick.head {k : Ky} {P : Pr} {R : List Pr} [Key P k] : Pick k (P :: R) P R := ⟨List.Perm.refl _⟩
instance Pick.tail {k : Ky} {L : List Pr} {P Q : Pr} {R : List Pr} [h : Pick k L P R] : Pick k (Q :: L) P (Q :: R) := ⟨(h.perm.cons Q).trans (List.Perm.swap P Q R)⟩
instance Key.pt {b : Nat} {o : Obj} : Key (pt b o) (.b b) := ⟨trivial⟩
instance Key.slc {e : TypeId} {s n : Nat} {v : Value} {xs : List Value} : Key (Slc e s v n xs) (.v v) := ⟨trivial⟩
instance Key.slcC {e : TypeId} {s g n cap : Nat} {xs : List Value} : Key (SlcC e s g n cap xs) (.b g) := ⟨trivial⟩

class Take (P : Pr) (L : List Pr) (R : outParam (List Pr)) : Prop where
  perm : L.Perm (P :: R)
instance (priority := high) Take.head {P : Pr} {R : List Pr} : Take P (P :: R) R := ⟨List.Perm.refl _⟩
instance Take.tail {P Q : Pr} {L R : List Pr} [h : Take P L R] : Take P (Q :: L) (Q :: R) := ⟨(h.perm.cons Q).trans (List.Perm.swap P Q R)⟩
class Sub (M L : List Pr) : Prop where
  imp : ∀ {h : Hp}, sat L h → sat M h
instance (priority := high) Sub.same {L : List Pr} : Sub L L := ⟨fun h => h⟩
instance Sub.cons {P : Pr} {M L R : List Pr} [h : Take P L R] [s : Sub M R] : Sub (P :: M) L := ⟨fun hs => sat_cons_mono (fun _ h => h) (fun _ h => s.imp h) (sat_perm h.perm hs)⟩
instance (priority := low) Sub.drop {M L : List Pr} {X : Pr} [s : Sub M L] : Sub M (X :: L) := ⟨fun hs => s.imp (sat_tail hs)⟩
instance (priority := low) Sub.nil {L : List Pr} : Sub [] L := ⟨fun _ => trivial⟩

section
variable {w0 w w' : World} {L M R : List Pr} {P : Pr}
theorem Hd.pick {k : Ky} [h : Pick k L P R] (H : Hd w0 L w) : Hd w0 (P :: R) w := H.perm h.perm
theorem Hd.k (b : Nat) [h : Pick (.b b) L P R] (H : Hd w0 L w) : Hd w0 (P :: R) w := H.perm h.perm
theorem Hd.v (x : Value) [h : Pick (.v x) L P R] (H : Hd w0 L w) : Hd w0 (P :: R) w := H.perm h.perm
theorem Hd.re [s : Sub M L] (H : Hd w0 L w) : Hd w0 M w := ⟨H.1, s.imp H.2⟩
end

/-- A literal row with one of its values changed. -/
class SetL (l : List Value) (i : Nat) (v : Value) (l' : outParam (List Value)) : Prop where
  eq : l.set i v = l'
instance SetL.zero {a v : Value} {l : List Value} : SetL (a :: l) 0 v (v :: l) := ⟨rfl⟩
instance SetL.succ {a v : Value} {l l' : List Value} {i : Nat} [h : SetL l i v l'] : SetL (a :: l) (i + 1) v (a :: l') := ⟨by rw [List.set_cons_succ, h.eq]⟩
class SetA (c : Array Value) (i : Nat) (v : Value) (c' : outParam (Array Value)) : Prop where
  eq : c.setIfInBounds i v = c'
instance (priority := high) SetA.lit {l l' : List Value} {i : Nat} {v : Value} [h : SetL l i v l'] : SetA l.toArray i v l'.toArray := ⟨by rw [← h.eq]; simp⟩
instance (priority := low) SetA.any {c : Array Value} {i : Nat} {v : Value} : SetA c i v (c.setIfInBounds i v) := ⟨rfl⟩

/-- The size of a heap, in the walk's spelling. -/
class HSize (w : World) (n : outParam Nat) : Prop where
  eq : w.heap.size = n
instance (priority := low) HSize.any {w : World} : HSize w w.heap.size := ⟨rfl⟩
instance HSize.alloc {w : World} {o : Obj} {n : Nat} [h : HSize w n] : HSize (w.alloc o) (n + 1) := ⟨by rw [← h.eq]; unfold World.alloc; exact Array.size_push ..⟩
instance HSize.drew {w : World} {n : Nat} [h : HSize w n] : HSize w.drew n := ⟨h.eq⟩
instance HSize.drewN {w : World} {n k : Nat} [h : HSize w n] : HSize (w.drewN k) n := ⟨h.eq⟩
instance HSize.setCell {w : World} {n : Nat} {a : Addr} {v : Value} [h : HSize w n] : HSize (w.setCell a v) n := ⟨by rw [← h.eq]; simp [World.setCell]⟩

/-- The assertions followed from one world to a later one. -/
class Foll (w : World) (L : List Pr) (w' : World) (L' : outParam (List Pr)) : Prop where
  imp : ∀ {w0 : World}, Hd w0 L w → Hd w0 L' w'
instance (priority := high) Foll.same {w : World} {L : List Pr} : Foll w L w L := ⟨fun H => H⟩
instance Foll.drew {w w' : World} {L L' : List Pr} [h : Foll w L w' L'] : Foll w L w'.drew L' := ⟨fun H => (h.imp H).drew⟩
instance Foll.drewN {w w' : World} {L L' : List Pr} {n : Nat} [h : Foll w L w' L'] : Foll w L (w'.drewN n) L' := ⟨fun H => (h.imp H).drewN n⟩
instance Foll.alloc {w w' : World} {L L' : List Pr} {o : Obj} {n : Nat} [h : Foll w L w' L'] [s : HSize w' n] : Foll w L (w'.alloc o) (pt n o :: L') := ⟨fun H => s.eq ▸ (h.imp H).alloc o⟩
instance Foll.setCell {w w' : World} {L L' R : List Pr} {b i : Nat} {T : TypeId} {c c' : Array Value} {v : Value} [h : Foll w L w' L'] [p : Pick (.b b) L' (pt b (.cells c T (0, 0))) R] [s : SetA c i v c'] :
    Foll w L (w'.setCell ⟨b, i, none⟩ v) (pt b (.cells c' T (0, 0)) :: R) := ⟨fun H => s.eq ▸ ((h.imp H).perm p.perm).set i v⟩
theorem Hd.fol {w0 w w' : World} {L L' : List Pr} [h : Foll w L w' L'] (H : Hd w0 L w) : Hd w0 L' w' := h.imp H
theorem Hd.fin {w0 w w' : World} {L L' M : List Pr} [h : Foll w L w' L'] [s : Sub M L'] (H : Hd w0 L w) : Hd w0 M w' := (h.imp H).re

section
variable {w0 w : World} {R : List Pr} (b c g n cap : Nat) (T U e : TypeId) (v : Value) (xs : List Value)
end
end Go.Proofs.YtogcikilphakmaaGreatDoor

/-
  Rows of encoded things in slices: lists whose elements take some cells each. No program in sight.
-/
namespace Go.Proofs.YtogcikilphakmaaGreatDoor
open Go.RowKit Spl

/-- Things that lie in memory as so many cells. -/
class Enc (α : Type) where
  size : Nat
  cells : α → List Value
  len : ∀ x, (cells x).length = size
  one : ∀ x, ∀ u ∈ cells x, u.oneCell' = true

section
variable {α : Type} [Enc α]
def flat (l : List α) : List Value := l.flatMap Enc.cells
theorem flat_nil : flat ([] : List α) = [] := rfl
theorem flat_cons (x : α) (l : List α) : flat (x :: l) = Enc.cells x ++ flat l := rfl
theorem flat_append (a b : List α) : flat (a ++ b) = flat a ++ flat b := by simp [flat]
theorem flat_one (x : α) : flat [x] = Enc.cells x := by simp [flat]
theorem flat_len (l : List α) : (flat l).length = l.length * Enc.size α := by
  induction l with
  | nil => simp [flat]
  | cons x l ih => rw [flat_cons, List.length_append, Enc.len, ih, List.length_cons, Nat.add_mul, Nat.one_mul, Nat.add_comm]
theorem flat_oneCell (l : List α) : ∀ u ∈ flat l, u.oneCell' = true := by
  intro u hu
  obtain ⟨x, _, hx⟩ := List.mem_flatMap.1 hu
  exact Enc.one x u hx
theorem flat_at {l : List α} : ∀ {k : Nat} {x : α} (_ : l[k]? = some x) {j : Nat} {u : Value} (_ : (Enc.cells x)[j]? = some u), (flat l)[k * Enc.size α + j]? = some u := by
  induction l with
  | nil => intro k x h; simp at h
  | cons y l ih =>
    intro k x h j u hj
    rw [flat_cons]
    cases k with
    | zero =>
      simp at h; subst h
      rw [List.getElem?_append_left (by have := lt_of_get? hj; omega)]
      simpa using hj
    | succ k =>
      rw [List.getElem?_append_right (by rw [Enc.len, Nat.add_mul]; omega), Enc.len]
      have e : (k + 1) * Enc.size α + j - Enc.size α = k * Enc.size α + j := by rw [Nat.add_mul]; omega
      rw [e]
      exact ih (by simpa using h) hj
/-- One cell of one element turned. -/
theorem flat_set {l : List α} : ∀ {k : Nat} {x y : α} (_ : l[k]? = some x) {j : Nat} {v : Value} (_ : j < Enc.size α) (_ : (Enc.cells x).set j v = Enc.cells y), (flat l).set (k * Enc.size α + j) v = flat (l.set k y) := by
  induction l with
  | nil => intro k x y h; simp at h
  | cons z l ih =>
    intro k x y h j v hj hy
    rw [flat_cons]
    cases k with
    | zero =>
      simp at h; subst h
      rw [List.set_cons_zero, flat_cons, List.set_append, if_pos (by rw [Enc.len]; omega), Nat.zero_mul, Nat.zero_add, hy]
    | succ k =>
      rw [List.set_cons_succ, flat_cons, List.set_append, if_neg (by rw [Enc.len, Nat.add_mul]; omega), Enc.len]
      have e : (k + 1) * Enc.size α + j - Enc.size α = k * Enc.size α + j := by rw [Nat.add_mul]; omega
      rw [e, ih (by simpa using h) hj hy]
theorem flat_take (l : List α) (k : Nat) : (flat l).take (k * Enc.size α) = flat (l.take k) := by
  by_cases hk : k ≤ l.length
  · have e : flat l = flat (l.take k) ++ flat (l.drop k) := by rw [← flat_append, List.take_append_drop]
    rw [e, List.take_left']
    rw [flat_len, List.length_take, Nat.min_eq_left hk]
  · rw [List.take_of_length_le, List.take_of_length_le (by omega)]
    rw [flat_len]
    exact Nat.mul_le_mul_right _ (by omega)
theorem flat_drop (l : List α) (k : Nat) : (flat l).drop (k * Enc.size α) = flat (l.drop k) := by
  by_cases hk : k ≤ l.length
  · have e : flat l = flat (l.take k) ++ flat (l.drop k) := by rw [← flat_append, List.take_append_drop]
    rw [e, List.drop_left']
    rw [flat_len, List.length_take, Nat.min_eq_left hk]
  · rw [List.drop_of_length_le, List.drop_of_length_le (by omega)]
    · rfl
    · rw [flat_len]
      exact Nat.mul_le_mul_right _ (by omega)
end

instance encInt : Enc Int where
  size := 1
  cells x := [.int .i64 x]
  len _ := rfl
  one x u hu := by simp at hu; subst hu; rfl
theorem flat_int (l : List Int) : flat l = l.map (Value.int .i64) := by
  induction l with
  | nil => rfl
  | cons x l ih => rw [flat_cons, ih]; rfl

/-- A slice of encoded things. -/
abbrev SlE {α : Type} [Enc α] (e : TypeId) (v : Value) (l : List α) : Pr := Slc e (Enc.size α) v l.length (flat l)
abbrev SlEC {α : Type} [Enc α] (e : TypeId) (g cap : Nat) (l : List α) : Pr := SlcC e (Enc.size α) g l.length cap (flat l)
end Go.Proofs.YtogcikilphakmaaGreatDoor

/-
  The things of keel that lie in slices: ops, needs, locks, holds, waiting and active jobs, events, pointers, rows of tasks. And laws of append inside a region that draws.
-/
namespace Go.Proofs.YtogcikilphakmaaGreatDoor
open Go.RowKit Spl

structure OpM where
  kind : Int
  res : Int
  n : Int
  v : Int
  deriving DecidableEq
structure NeedM where
  res : Int
  units : Int
  deriving DecidableEq
structure LockM where
  res : Int
  units : Int
  deriving DecidableEq
structure HoldM where
  job : Int
  units : Int
  deriving DecidableEq
structure WaitM where
  job : Int
  task : Int
  level : Int
  deriving DecidableEq
structure ActM where
  job : Int
  task : Int
  level : Int
  at_ : Int
  deriving DecidableEq
structure EvM where
  kind : Int
  task : Int
  job : Int
  op : OpM
  why : Int
  clock : Int
  deriving DecidableEq
structure Ptr where
  b : Nat
/-- A task's row as it lies in memory: two of its values are slices. -/
structure RowV where
  nm : ByteArray
  lv : Int
  fr : Int
  na : Option Addr
  nl : Nat
  nc : Nat
  cd : ByteArray
  p : Int
  f : Int
  g : Int
  sa : Option Addr
  sl : Nat
  sc : Nat

instance encOp : Enc OpM where
  size := 4
  cells x := [.int .i64 x.kind, .int .i64 x.res, .int .i64 x.n, .int .i64 x.v]
  len _ := rfl
  one x u hu := by simp at hu; rcases hu with rfl | rfl | rfl | rfl <;> rfl
instance encNeed : Enc NeedM where
  size := 2
  cells x := [.int .i64 x.res, .int .i64 x.units]
  len _ := rfl
  one x u hu := by simp at hu; rcases hu with rfl | rfl <;> rfl
instance encLock : Enc LockM where
  size := 2
  cells x := [.int .i64 x.res, .int .i64 x.units]
  len _ := rfl
  one x u hu := by simp at hu; rcases hu with rfl | rfl <;> rfl
instance encHold : Enc HoldM where
  size := 2
  cells x := [.int .i64 x.job, .int .i64 x.units]
  len _ := rfl
  one x u hu := by simp at hu; rcases hu with rfl | rfl <;> rfl
instance encWait : Enc WaitM where
  size := 3
  cells x := [.int .i64 x.job, .int .i64 x.task, .int .i64 x.level]
  len _ := rfl
  one x u hu := by simp at hu; rcases hu with rfl | rfl | rfl <;> rfl
instance encAct : Enc ActM where
  size := 4
  cells x := [.int .i64 x.job, .int .i64 x.task, .int .i64 x.level, .int .i64 x.at_]
  len _ := rfl
  one x u hu := by simp at hu; rcases hu with rfl | rfl | rfl | rfl <;> rfl
instance encEv : Enc EvM where
  size := 9
  cells x := [.int .i64 x.kind, .int .i64 x.task, .int .i64 x.job, .int .i64 x.op.kind, .int .i64 x.op.res, .int .i64 x.op.n, .int .i64 x.op.v, .int .i64 x.why, .int .i64 x.clock]
  len _ := rfl
  one x u hu := by simp at hu; rcases hu with rfl | rfl | rfl | rfl | rfl | rfl | rfl | rfl | rfl <;> rfl
instance encPtr : Enc Ptr where
  size := 1
  cells x := [.pointer (some ⟨x.b, 0, none⟩)]
  len _ := rfl
  one x u hu := by simp at hu; subst hu; rfl
instance encRow : Enc RowV where
  size := 9
  cells x := [.string x.nm, .int .i64 x.lv, .int .i64 x.fr, .slice x.na x.nl x.nc, .string x.cd, .int .i64 x.p, .int .i64 x.f, .int .i64 x.g, .slice x.sa x.sl x.sc]
  len _ := rfl
  one x u hu := by
    simp at hu
    rcases hu with rfl | rfl | rfl | rfl | rfl | rfl | rfl | rfl | rfl <;> rfl

/-- Rows of a table: by numbers, by names. -/
structure RowH where
  k : Int
  b : Nat
structure RowN where
  k : ByteArray
  i : Int
instance encRowH : Enc RowH where
  size := 2
  cells x := [.int .i64 x.k, .pointer (some ⟨x.b, 0, none⟩)]
  len _ := rfl
  one x u hu := by simp at hu; rcases hu with rfl | rfl <;> rfl
instance encRowN : Enc RowN where
  size := 2
  cells x := [.string x.k, .int .i64 x.i]
  len _ := rfl
  one x u hu := by simp at hu; rcases hu with rfl | rfl <;> rfl
theorem results_row_tmp {P : Program} {fn : Func} {p u : Tmp} {ty : TypeId} (h : fn.results = #[.cell p ty, .tmp u]) (tmps : Array Value) (w : World) (g : Nat) (t : TypeId) (cs : Array Value) (fr : Nat × Nat) (d : TypeDesc)
    (hp : tmps.getD p undef = .pointer (some ⟨g, 0, none⟩)) (hg : w.heap[g]? = some (.cells cs t fr))
    (hu : P.underlying ty = some d) (hd : (match d with | .struct _ | .array _ _ => true | _ => false) = true) (hi : (P.info? ty).map (·.size) = some cs.size) :
    (results fn tmps).run P w = .ok (.tuple #[.agg cs, tmps.getD u undef]) w := by
  have hp' : tmps[p]?.getD undef = .pointer (some ⟨g, 0, none⟩) := by simpa using hp
  simp [results, h, hp', asAddr, run_loadVar_row w g t ty cs fr d hg hu hd hi]
theorem results_tmp_row_tmp {P : Program} {fn : Func} {p u q : Tmp} {ty : TypeId} (h : fn.results = #[.tmp q, .cell p ty, .tmp u]) (tmps : Array Value) (w : World) (g : Nat) (t : TypeId) (cs : Array Value) (fr : Nat × Nat) (d : TypeDesc)
    (hp : tmps.getD p undef = .pointer (some ⟨g, 0, none⟩)) (hg : w.heap[g]? = some (.cells cs t fr))
    (hu : P.underlying ty = some d) (hd : (match d with | .struct _ | .array _ _ => true | _ => false) = true) (hi : (P.info? ty).map (·.size) = some cs.size) :
    (results fn tmps).run P w = .ok (.tuple #[tmps.getD q undef, .agg cs, tmps.getD u undef]) w := by
  have hp' : tmps[p]?.getD undef = .pointer (some ⟨g, 0, none⟩) := by simpa using hp
  simp [results, h, hp', asAddr, run_loadVar_row w g t ty cs fr d hg hu hd hi]
theorem get_off {a L : List Value} {n : Nat} (h : a.length = n) (j : Nat) : (a ++ L).toArray[n + j]? = L[j]? := by
  subst h
  rw [List.getElem?_toArray, List.getElem?_append_right (Nat.le_add_right _ _), Nat.add_sub_cancel_left]
theorem get_off0 {a L : List Value} {n : Nat} (h : a.length = n) : (a ++ L).toArray[n]? = L[0]? := by
  have := get_off (L := L) h 0
  simpa using this
theorem set_off {a L : List Value} {n : Nat} (h : a.length = n) (j : Nat) (v : Value) : (a ++ L).toArray.setIfInBounds (n + j) v = (a ++ L.set j v).toArray := by
  subst h
  apply Array.ext'
  simp
theorem set_off0 {a L : List Value} {n : Nat} (h : a.length = n) (v : Value) : (a ++ L).toArray.setIfInBounds n v = (a ++ L.set 0 v).toArray := by
  have := set_off (L := L) h 0 v
  simpa using this
theorem get_set_eq {C : Array Value} {o : Nat} {v u : Value} (h : C[o]? = some u) : (C.setIfInBounds o v)[o]? = some v := by
  obtain ⟨hi, _⟩ := Array.getElem?_eq_some_iff.1 h
  simp [hi]
theorem set3 {C : Array Value} {o : Nat} {v a b : Value} : ((C.setIfInBounds (o + 1) a).setIfInBounds o v).setIfInBounds (o + 1) b = (C.setIfInBounds o v).setIfInBounds (o + 1) b := by
  apply Array.ext'
  simp only [Array.toList_setIfInBounds]
  rw [List.set_comm _ _ (by omega : o ≠ o + 1), List.set_set]
  exact List.set_comm _ _ (by omega)
theorem set_same {C : Array Value} {o : Nat} {v : Value} (h : C[o]? = some v) : C.setIfInBounds o v = C := by
  apply Array.ext'
  have h' : C.toList[o]? = some v := by simpa using h
  obtain ⟨hi, e⟩ := List.getElem?_eq_some_iff.1 h'
  rw [Array.toList_setIfInBounds, ← e, List.set_getElem_self]
theorem add0 (b j : Nat) : (⟨b, 0, none⟩ : Addr).add j = ⟨b, j, none⟩ := by unfold Addr.add; split <;> simp_all
theorem cel_news {w0 w : World} {R : List Pr} {b T : Nat} {C : Array Value} (H : Hd w0 (cel b T C :: R) w) : ∀ j u, C.toList[j]? = some u → w.cell? ((⟨b, 0, none⟩ : Addr).add j) = some u := by
  intro j u hj
  rw [add0]
  exact (H.rd j).trans (by simpa using hj)
theorem step_append_slc {P : Program} {w0 w : World} {R : List Pr} {ops : Array Oper} {o : Oper} {a : Act} {K : Act → World → Prop} {Q : Exit → Act → World → Prop} {E : Prop} (hgd : o.guard = none) (s x : Operand) (t : TypeId)
    (ho : o.op = .call { callee := .builtin .append, args := #[s, x], argTypes := #[t, t] })
    (e : TypeId) (i : TypeInfo) (z : Value) (size bytes : Nat) (ht : P.underlying t = some (.slice e)) (hi : P.info? e = some i) (hz : i.zero = some z)
    (hsize : i.size = size) (hby : i.bytes = bytes) (hzs : z.cells.size = size)
    (v : Value) (n : Nat) (xs : List Value) (hs : a.eval s = v) (H : Hd w0 (Slc e size v n xs :: R) w)
    (ad : Addr) (m c : Nat) (news : List Value) (hx : a.eval x = .slice (some ad) m c) (hl : news.length = m * size) (hnews : ∀ j u, news[j]? = some u → w.cell? (ad.add j) = some u) (h1 : ∀ u ∈ news, u.oneCell' = true)
    (h63 : n + m ≤ maxLen) (hbytes : (n + m) * bytes ≤ 140737488355328)
    (h : ∀ v' w', Hd w0 (Slc e size v' (n + m) (xs ++ news) :: R) w' → K (a.put o.dst v') w') : if Region.wanted o (yielded ops a.tmps) = true then o.wp P a w K Q else E := by
  simp only [Region.wanted, hgd, if_true]
  obtain ⟨v', w', hr, h2⟩ := run_append_slc (P := P) t o.type e i z size bytes ht hi hz hsize hby hzs v n xs H ad m c news hl hnews h1 h63 hbytes
  unfold Oper.wp execOp
  simp only [ho, resolve, invoke, builtin, Sem.run_bind, Sem.run_pure, Result.andThen_ok, List.map_toArray, List.map_cons, List.map_nil, hs, hx, hr]
  exact h v' w' h2
end Go.Proofs.YtogcikilphakmaaGreatDoor

/-
  The plain arena: frames side by side in one row of words. And what appending and clearing inside a row do to the assertions. No program in sight.
-/
namespace Go.Proofs.YtogcikilphakmaaGreatDoor
open Go.RowKit Spl

theorem nil_or_snoc {α : Type} (l : List α) : l = [] ∨ ∃ a x, l = a ++ [x] := by
  rcases List.eq_nil_or_concat l with h | ⟨a, x, h⟩
  · exact .inl h
  · exact .inr ⟨a, x, by rw [h, List.concat_eq_append]⟩
structure FrM where
  size : Nat
  laid : List Int
structure ArM where
  n : Nat
  fr : List FrM
  high : Nat
def zeros (n : Nat) : List Int := List.replicate n 0
theorem zeros_len (n : Nat) : (zeros n).length = n := by simp [zeros]
theorem zeros_add (a b : Nat) : zeros (a + b) = zeros a ++ zeros b := by simp [zeros, List.replicate_append_replicate]
def FrM.words (f : FrM) : List Int := f.laid ++ zeros (f.size - f.laid.length)
def usedL (l : List FrM) : Nat := (l.map FrM.size).sum
def wordsL (l : List FrM) : List Int := l.flatMap FrM.words
theorem size_le_used {l : List FrM} {f : FrM} (h : f ∈ l) : f.size ≤ usedL l := by
  induction l with
  | nil => cases h
  | cons x l ih =>
    have e : usedL (x :: l) = x.size + usedL l := by simp [usedL]
    rw [e]
    rcases List.mem_cons.1 h with rfl | h
    · exact Nat.le_add_right _ _
    · have := ih h; omega
theorem usedL_nil : usedL [] = 0 := rfl
theorem usedL_append (a b : List FrM) : usedL (a ++ b) = usedL a + usedL b := by simp [usedL]
theorem usedL_one (f : FrM) : usedL [f] = f.size := by simp [usedL]
theorem wordsL_append (a b : List FrM) : wordsL (a ++ b) = wordsL a ++ wordsL b := by simp [wordsL]
theorem wordsL_one (f : FrM) : wordsL [f] = f.words := by simp [wordsL]
theorem FrM.words_len {f : FrM} (h : f.laid.length ≤ f.size) : f.words.length = f.size := by
  unfold FrM.words
  rw [List.length_append, zeros_len]; omega
theorem wordsL_len {l : List FrM} (h : ∀ f ∈ l, f.laid.length ≤ f.size) : (wordsL l).length = usedL l := by
  induction l with
  | nil => rfl
  | cons f l ih =>
    have e : wordsL (f :: l) = f.words ++ wordsL l := rfl
    have e2 : usedL (f :: l) = f.size + usedL l := by simp [usedL]
    rw [e, e2, List.length_append, FrM.words_len (h f List.mem_cons_self), ih (fun g hg => h g (List.mem_cons_of_mem _ hg))]
/-- The frames' slices, the first of which begins at off. -/
def frs (g : Nat) : Nat → List FrM → List Value
  | _, [] => []
  | off, f :: l => .slice (some ⟨g, if f.size = 0 then 0 else off, none⟩) f.laid.length f.size :: frs g (off + f.size) l
theorem frs_append (g : Nat) (a b : List FrM) : ∀ off, frs g off (a ++ b) = frs g off a ++ frs g (off + usedL a) b := by
  induction a with
  | nil => intro off; simp [frs, usedL]
  | cons f a ih =>
    intro off
    have e2 : usedL (f :: a) = f.size + usedL a := by simp [usedL]
    rw [List.cons_append, frs, frs, ih, List.cons_append, e2, Nat.add_assoc]
theorem frs_len (g : Nat) (l : List FrM) : ∀ off, (frs g off l).length = l.length := by
  induction l with
  | nil => intro off; rfl
  | cons f l ih => intro off; rw [frs, List.length_cons, ih, List.length_cons]
theorem frs_one (g : Nat) (l : List FrM) : ∀ off, ∀ u ∈ frs g off l, u.oneCell' = true := by
  induction l with
  | nil => intro off u h; cases h
  | cons f l ih =>
    intro off u h
    rw [frs] at h
    rcases List.mem_cons.1 h with rfl | h
    · rfl
    · exact ih _ u h
/-- Frame i's slice. -/
theorem frs_at {g : Nat} {l : List FrM} {i : Nat} {f : FrM} (h : l[i]? = some f) : ∀ off, (frs g off l)[i]? = some (.slice (some ⟨g, if f.size = 0 then 0 else off + usedL (l.take i), none⟩) f.laid.length f.size) := by
  induction l generalizing i with
  | nil => simp at h
  | cons x l ih =>
    intro off
    cases i with
    | zero =>
      simp at h; subst h
      simp [frs, usedL]
    | succ i =>
      have e2 : usedL (x :: l.take i) = x.size + usedL (l.take i) := by simp [usedL]
      rw [frs, List.getElem?_cons_succ, ih (by simpa using h), List.take_succ_cons, e2, Nat.add_assoc]
namespace ArM
def used (m : ArM) : Nat := usedL m.fr
def words (m : ArM) : List Int := wordsL m.fr ++ zeros (m.n - m.used)
structure Ok (m : ArM) : Prop where
  used : m.used ≤ m.n
  n : m.n ≤ 65536
  high : m.used ≤ m.high
  high2 : m.high ≤ m.n
  laid : ∀ f ∈ m.fr, f.laid.length ≤ f.size
  few : m.fr.length ≤ 10000
theorem words_len {m : ArM} (h : m.Ok) : m.words.length = m.n := by
  unfold words
  have h1 := h.used
  unfold used at *
  rw [List.length_append, wordsL_len h.laid, zeros_len]
  omega
def new (n : Nat) : ArM := ⟨n, [], 0⟩
theorem Ok.new {n : Nat} (h : n ≤ 65536) : (ArM.new n).Ok := ⟨Nat.zero_le _, h, Nat.zero_le _, Nat.zero_le _, (fun _ h => nomatch h), Nat.zero_le _⟩
def openE (m : ArM) (size : Int) : Int := if size < 0 then 1 else if size > m.n - m.used then 11 else 0
def openF (m : ArM) (size : Int) : ArM := if m.openE size = 0 then ⟨m.n, m.fr ++ [⟨size.toNat, []⟩], max m.high (m.used + size.toNat)⟩ else m
theorem Ok.openF {m : ArM} (h : m.Ok) (size : Int) (hl : m.fr.length < 10000) : (m.openF size).Ok := by
  unfold ArM.openF
  split
  · rename_i he
    unfold openE at he
    have h1 := h.used
    have h2 := h.high2
    have h3 : ¬ size < 0 := by intro hh; rw [if_pos hh] at he; cases he
    have h4 : ¬ size > m.n - m.used := by intro hh; rw [if_neg h3, if_pos hh] at he; cases he
    have e : ArM.used ⟨m.n, m.fr ++ [⟨size.toNat, []⟩], max m.high (m.used + size.toNat)⟩ = m.used + size.toNat := by
      unfold ArM.used; rw [usedL_append, usedL_one]
    refine ⟨by rw [e]; show _ ≤ m.n; omega, h.n, by rw [e]; exact Nat.le_max_right _ _, ?_, ?_, by simp; omega⟩
    · show max _ _ ≤ m.n
      omega
    · intro f hf
      rcases List.mem_append.1 hf with hf | hf
      · exact h.laid f hf
      · obtain rfl := List.mem_singleton.1 hf
        exact Nat.zero_le _
  · exact h
def pushE (m : ArM) : Int := match m.fr.getLast? with | none => 6 | some f => if f.laid.length = f.size then 12 else 0
def push (m : ArM) (v : Int) : ArM := match m.fr.getLast? with
  | none => m
  | some f => if f.laid.length = f.size then m else ⟨m.n, m.fr.dropLast ++ [⟨f.size, f.laid ++ [v]⟩], m.high⟩
def popE (m : ArM) : Int := match m.fr.getLast? with | none => 6 | some f => if f.laid = [] then 10 else 0
def popV (m : ArM) : Int := match m.fr.getLast? with | none => 0 | some f => f.laid.getLast?.getD 0
def pop (m : ArM) : ArM := match m.fr.getLast? with
  | none => m
  | some f => if f.laid = [] then m else ⟨m.n, m.fr.dropLast ++ [⟨f.size, f.laid.dropLast⟩], m.high⟩
def closeE (m : ArM) : Int := if m.fr = [] then 6 else 0
def close (m : ArM) : ArM := ⟨m.n, m.fr.dropLast, m.high⟩
theorem snoc_last {m : ArM} {init : List FrM} {f : FrM} (h : m.fr = init ++ [f]) : m.fr.getLast? = some f ∧ m.fr.dropLast = init := by rw [h]; simp
theorem used_snoc {n high : Nat} {init : List FrM} {f : FrM} : ArM.used ⟨n, init ++ [f], high⟩ = usedL init + f.size := by
  show usedL (init ++ [f]) = _
  rw [usedL_append, usedL_one]
theorem Ok.turn {m : ArM} (h : m.Ok) {init : List FrM} {f f' : FrM} (hf : m.fr = init ++ [f]) (hs : f'.size = f.size) (hl : f'.laid.length ≤ f'.size) : Ok ⟨m.n, init ++ [f'], m.high⟩ := by
  have hu : m.used = usedL init + f.size := by unfold ArM.used; rw [hf, usedL_append, usedL_one]
  have h1 := h.used
  have h2 := h.high
  have hlen := h.few
  rw [hf] at hlen
  refine ⟨by rw [used_snoc, hs]; show _ ≤ m.n; omega, h.n, by rw [used_snoc, hs]; show _ ≤ m.high; omega, h.high2, ?_, by simpa using hlen⟩
  intro x hx
  rcases List.mem_append.1 hx with hx | hx
  · exact h.laid x (by rw [hf]; exact List.mem_append_left _ hx)
  · obtain rfl := List.mem_singleton.1 hx
    exact hl
theorem Ok.push {m : ArM} (h : m.Ok) (v : Int) : (m.push v).Ok := by
  rcases nil_or_snoc m.fr with e | ⟨init, f, e⟩
  · unfold ArM.push; rw [e]; exact h
  · obtain ⟨h1, h2⟩ := snoc_last e
    unfold ArM.push; rw [h1, h2]
    have hl := h.laid f (by rw [e]; simp)
    by_cases hh : f.laid.length = f.size
    · simp only [hh, if_true]; exact h
    · simp only [hh, if_false]
      exact h.turn e rfl (by simp; omega)
theorem Ok.pop {m : ArM} (h : m.Ok) : m.pop.Ok := by
  rcases nil_or_snoc m.fr with e | ⟨init, f, e⟩
  · unfold ArM.pop; rw [e]; exact h
  · obtain ⟨h1, h2⟩ := snoc_last e
    unfold ArM.pop; rw [h1, h2]
    have hl := h.laid f (by rw [e]; simp)
    by_cases hh : f.laid = []
    · simp only [hh, if_true]; exact h
    · simp only [hh, if_false]
      exact h.turn e rfl (by simp; omega)
theorem Ok.close {m : ArM} (h : m.Ok) : m.close.Ok := by
  rcases nil_or_snoc m.fr with e | ⟨init, f, e⟩
  · have : m.close = m := by unfold ArM.close; cases m; simp_all
    rw [this]; exact h
  · obtain ⟨h1, h2⟩ := snoc_last e
    have hu : m.used = usedL init + f.size := by unfold ArM.used; rw [e, usedL_append, usedL_one]
    have hu2 : m.close.used = usedL init := by unfold ArM.close ArM.used; simp only [h2]
    have a1 := h.used
    have a2 := h.high
    have a3 := h.few
    rw [e] at a3
    refine ⟨by rw [hu2]; show _ ≤ m.n; omega, h.n, by rw [hu2]; show _ ≤ m.high; omega, h.high2, ?_, ?_⟩
    · intro x hx
      unfold ArM.close at hx
      simp only [h2] at hx
      exact h.laid x (by rw [e]; exact List.mem_append_left _ hx)
    · unfold ArM.close
      simp only [h2]
      simp at a3
      omega
end ArM

/-! ### writing inside a row -/
section
variable {w0 w : World} {R : List Pr}
theorem Hd.setCells {b : Nat} {T : TypeId} {vs : List Value} : ∀ {a old rest : List Value} {o : Nat} {w : World} (_ : Hd w0 (cel b T (a ++ (old ++ rest)).toArray :: R) w) (_ : a.length = o) (_ : old.length = vs.length),
    Hd w0 (cel b T (a ++ (vs ++ rest)).toArray :: R) (w.setCells b o vs) := by
  induction vs with
  | nil =>
    intro a old rest o w H ho hl
    rw [List.eq_nil_of_length_eq_zero hl] at H
    exact H
  | cons v vs ih =>
    intro a old rest o w H ho hl
    cases old with
    | nil => cases hl
    | cons x old =>
      have H1 := H.set o v
      rw [set_off0 ho] at H1
      have H2 : Hd w0 (cel b T ((a ++ [v]) ++ (old ++ rest)).toArray :: R) (w.setCell ⟨b, o, none⟩ v) := by simpa using H1
      have H3 := ih H2 (o := o + 1) (by simp [ho]) (by simpa using hl)
      rw [World.setCells]
      simpa using H3

/-- append of one element within a row, at a slice that begins anywhere in it. -/
theorem wpList_append_in {P : Program} {ops : Array Oper} {rest : List Oper} {o : Oper} {a : Act} {Q : Exit → Act → World → Prop} (hgd : o.guard = none) (s x : Operand) (t : TypeId)
    (ho : o.op = .call { callee := .builtin .append, args := #[s, x], argTypes := #[t, t] })
    (e : TypeId) (z : Value) (bytes : Nat) (ht : P.underlying t = some (.slice e)) (hinfo : (P.info? e).map (fun i => (i.zero, i.size, i.bytes)) = some (some z, 1, bytes))
    (b off n cap : Nat) (hs : a.eval s = .slice (some ⟨b, off, none⟩) n cap) {T : TypeId} {pre post : List Value} {x0 : Value} (H : Hd w0 (cel b T (pre ++ (x0 :: post)).toArray :: R) w) (hpre : pre.length = off + n) (hroom : n + 1 ≤ cap)
    (ad : Addr) (c : Nat) (u : Value) (hx : a.eval x = .slice (some ad) 1 c) (hu : ∀ (j : Nat) (y : Value), [u][j]? = some y → w.cell? (ad.add j) = some y) (h1 : u.oneCell' = true)
    (h : ∀ w', Hd w0 (cel b T (pre ++ (u :: post)).toArray :: R) w' → wpList P ops Q rest (a.put o.dst (.slice (some ⟨b, off, none⟩) (n + 1) cap)) w') : wpList P ops Q (o :: rest) a w := by
  have hH := Hd.setCells (vs := [u]) (old := [x0]) (a := pre) (rest := post) (o := off + n) H hpre rfl
  refine wpList_append_room1 w hgd s x t t ho e z bytes ht hinfo b off n cap hs _ hx 1 [u] (Src.ofSlice w ht ad 1 c [u] rfl hu (by simpa using h1)) hroom ?_ ?_ (h _ hH)
  · intro j hj
    have hj0 : j = 0 := by simp at hj; exact hj
    subst hj0
    rw [Nat.add_zero, H.rd, get_off0 hpre]
    rfl
  · intro j _
    exact H.fr _

/-- clear of a piece of a row. -/
theorem wpList_clear_in {P : Program} {ops : Array Oper} {rest : List Oper} {o : Oper} {a : Act} {Q : Exit → Act → World → Prop} (hgd : o.guard = none) (s : Operand) (t : TypeId)
    (ho : o.op = .call { callee := .builtin .clear, args := #[s], argTypes := #[t] })
    (e : TypeId) (z : Value) (ht : P.underlying t = some (.slice e)) (hv : ∀ w, (zeroValue e).run P w = .ok z w) (hz : z.cells = #[z]) (h1 : z.oneCell' = true)
    (b off n cap : Nat) (hs : a.eval s = .slice (some ⟨b, off, none⟩) n cap) {T : TypeId} {pre old post : List Value} (H : Hd w0 (cel b T (pre ++ (old ++ post)).toArray :: R) w) (hpre : n = 0 ∨ pre.length = off) (hold : old.length = n)
    (h : ∀ w', Hd w0 (cel b T (pre ++ (List.replicate n z ++ post)).toArray :: R) w' → wpList P ops Q rest (a.put o.dst (.tuple #[])) w') : wpList P ops Q (o :: rest) a w :=
  wpList_plain hgd fun K hK => by
    by_cases h0 : n = 0
    · subst h0
      rw [List.eq_nil_of_length_eq_zero hold] at H
      have hr : (Builtin.clear_ #[t] o.type #[.slice (some ⟨b, off, none⟩) 0 cap]).run P w = .ok (.tuple #[]) w := by
        simp [Builtin.clear_, run_underlying ht]
      unfold Oper.wp execOp
      simp only [ho, resolve, invoke, builtin, Sem.run_bind, Sem.run_pure, Result.andThen_ok, List.map_toArray, List.map_cons, List.map_nil, hs, hr]
      exact hK _ _ (h w (by simpa using H))
    · have hp : pre.length = off := hpre.resolve_left h0
      have hr := Lib.run_clear_slice (P := P) w t e o.type z ht hv hz h1 b off n cap (by omega) (fun j hj => by
        rw [H.rd, get_off hp, List.getElem?_append_left (by omega), List.getElem?_eq_getElem (by omega)]; rfl) (fun j _ => H.fr _)
      have hH := Hd.setCells (vs := List.replicate n z) H hp (by simpa using hold)
      unfold Oper.wp execOp
      simp only [ho, resolve, invoke, builtin, Sem.run_bind, Sem.run_pure, Result.andThen_ok, List.map_toArray, List.map_cons, List.map_nil, hs, hr]
      exact hK _ _ (h _ hH)
end
end Go.Proofs.YtogcikilphakmaaGreatDoor

/-
  shelf.Stack of int over the separation logic. Every stack, every element.
-/
namespace Go.Proofs.YtogcikilphakmaaGreatDoor
open Go.RowKit Spl

theorem stkInfo_int : (Tryz.prog.info? 3).map (fun i => (i.zero, i.size, i.bytes)) = some (some (.int .i64 0), 1, 8) := by kernel_rfl
section
variable {w0 w : World} {R : List Pr} {s o T : Nat} {C : Array Value} {v : Value} {l : List Int}

/-- Push -/
theorem stkPush_int (H : Hd w0 (cel s T C :: SlE 3 v l :: R) w) (hC : C[o]? = some v) (hn : l.length ≤ 100000) (x : Int) :
    Calls Tryz.prog 178 #[.pointer (some ⟨s, o, none⟩), .int .i64 x] w fun e w' =>
      e = .returned (.tuple #[]) ∧ ∃ v', Hd w0 (cel s T (C.setIfInBounds o v') :: SlE 3 v' (l ++ [x]) :: R) w' := by
  have c0 : w.cell? ⟨s, o, none⟩ = some v := (H.rd o).trans hC
  obtain ⟨i0, hi, hz0, hz1, hz2⟩ := info_parts stkInfo_int
  have H2 := (H.alloc (.cells #[.int .i64 x] 3)).b3
  have hS : ∀ {v' : Value} {L : List Pr} {w : World}, Hd w0 (Slc 3 1 v' (l.length + 1) (flat l ++ [.int .i64 x]) :: L) w → Hd w0 (SlE 3 v' (l ++ [x]) :: L) w := by
    intro v' L w h
    have e1 : (l ++ [x]).length = l.length + 1 := by simp
    have e2 : flat (l ++ [x]) = flat l ++ [.int .i64 x] := by rw [flat_append, flat_one]; rfl
    unfold SlE
    rw [e1, e2]
    exact h
  go_enter Tryz.func178, Tryz.ntmps178
  go_wp2_with (at_builtin; refine wpList_append_slc rfl _ _ 26 rfl 3 i0 _ 1 8 Tryz.underlying26 hi hz0 hz1 hz2 rfl v _ _ rfl H2 ⟨w.heap.size, 0, none⟩ 1 1 [.int .i64 x] rfl rfl (cell_one_new _ _ _) (by simp [Value.oneCell']) (by unfold maxLen; omega) (by omega) ?_; intro v' w1 H3; obtain ⟨a', cap', rfl, _, _, _, _⟩ := H3.slc_form; have c1 := H3.b3.rd; have f1 := H3.b3.fr)
  go_end0
  exact ⟨rfl, _, (hS ((H3.b3.set o _).b3.tail.b2)).b2⟩

/-- At, where there is an element -/
theorem stkAt_int (H : Hd w0 (cel s T C :: SlE 3 v l :: R) w) (hC : C[o]? = some v) (hn : l.length ≤ 100000) (i : Nat) (x : Int) (hx : l[i]? = some x) :
    Calls Tryz.prog 101 #[.pointer (some ⟨s, o, none⟩), .int .i64 i] w fun e w' => e = .returned (.tuple #[.int .i64 x, .bool true]) ∧ w = w' := by
  have c0 : w.cell? ⟨s, o, none⟩ = some v := (H.rd o).trans hC
  have hi := lt_of_get? hx
  obtain ⟨g, cap, rfl, H2⟩ := H.b2.slc_at (by omega)
  have c1 : w.cell? ⟨g, i, none⟩ = some (.int .i64 x) := by
    have := H2.slcC_rd (flat_at hx (j := 0) (u := .int .i64 x) rfl)
    simpa [Enc.size] using this
  clear H H2 hx hC
  go_enter Tryz.func101, Tryz.ntmps101
  go_wp2
  go_ret2
  exact ⟨rfl, rfl⟩
/-- .. where there is none -/
theorem stkAtNo_int (H : Hd w0 (cel s T C :: SlE 3 v l :: R) w) (hC : C[o]? = some v) (i : Int) (h : i < 0 ∨ l.length ≤ i) :
    Calls Tryz.prog 101 #[.pointer (some ⟨s, o, none⟩), .int .i64 i] w fun e w' => e = .returned (.tuple #[.int .i64 0, .bool false]) ∧ w = w' := by
  have c0 : w.cell? ⟨s, o, none⟩ = some v := (H.rd o).trans hC
  obtain ⟨a, cap, rfl, _, _, _, _⟩ := H.b2.slc_form
  clear H hC
  rcases h with h | h
  · go_enter Tryz.func101, Tryz.ntmps101
    go_wp2
    go_ret2
    exact ⟨rfl, rfl⟩
  · have h0 : ¬ i < 0 := by omega
    go_enter Tryz.func101, Tryz.ntmps101
    go_wp2
    go_ret2
    exact ⟨rfl, rfl⟩

/-- Top, where there is an element -/
theorem stkTop_int {x : Int} (H : Hd w0 (cel s T C :: SlE 3 v (l ++ [x]) :: R) w) (hC : C[o]? = some v) (hn : l.length < 100000) :
    Calls Tryz.prog 65 #[.pointer (some ⟨s, o, none⟩)] w fun e w' => e = .returned (.tuple #[.int .i64 x, .bool true]) ∧ w = w' := by
  have hlen : (l ++ [x]).length = l.length + 1 := by simp
  have hat := stkAt_int H hC (by omega) l.length x (by simp)
  have c0 := (H.rd o).trans hC
  obtain ⟨g, cap, rfl, H2⟩ := H.b2.slc_at (by omega)
  rw [hlen] at c0
  clear H H2 hC hlen
  go_enter Tryz.func65, Tryz.ntmps65
  go_wp2_with fail
  refine hat.mono ?_
  rintro e w' ⟨rfl, rfl⟩
  go_wp2_with fail
  go_ret2
  exact ⟨rfl, rfl⟩
/-- .. where there is none -/
theorem stkTopNo_int (H : Hd w0 (cel s T C :: SlE 3 v ([] : List Int) :: R) w) (hC : C[o]? = some v) :
    Calls Tryz.prog 65 #[.pointer (some ⟨s, o, none⟩)] w fun e w' => e = .returned (.tuple #[.int .i64 0, .bool false]) ∧ w = w' := by
  have hat := stkAtNo_int H hC (-1) (.inl (by decide))
  have c0 := (H.rd o).trans hC
  obtain ⟨a, cap, rfl, _, _, _, _⟩ := H.b2.slc_form
  clear H hC
  go_enter Tryz.func65, Tryz.ntmps65
  go_wp2_with fail
  refine hat.mono ?_
  rintro e w' ⟨rfl, rfl⟩
  go_wp2_with fail
  go_ret2
  exact ⟨rfl, rfl⟩

set_option maxRecDepth 20000 in
set_option maxHeartbeats 800000 in
/-- Pop, where there is an element -/
theorem stkPop_int {x : Int} (H : Hd w0 (cel s T C :: SlE 3 v (l ++ [x]) :: R) w) (hC : C[o]? = some v) (hn : l.length < 100000) :
    Calls Tryz.prog 182 #[.pointer (some ⟨s, o, none⟩)] w fun e w' => e = .returned (.tuple #[.int .i64 x, .bool true]) ∧ ∃ v', Hd w0 (cel s T (C.setIfInBounds o v') :: SlE 3 v' l :: R) w' := by
  have hlen : (l ++ [x]).length = l.length + 1 := by simp
  have htop := stkTop_int H hC hn
  have c0 := (H.rd o).trans hC
  have f0 := H.fr o
  obtain ⟨g, cap, rfl, H2⟩ := H.b2.slc_at (by omega)
  have hcap := H2.slcC.2.1
  have hcm := H2.slcC.2.2.1
  rw [hlen] at c0 hcap
  have cg : w.cell? ⟨g, l.length, none⟩ = some (.int .i64 x) := by
    have := H2.slcC_rd (flat_at (l := l ++ [x]) (k := l.length) (x := x) (by simp) (j := 0) (u := .int .i64 x) rfl)
    simpa [Enc.size] using this
  have fg := H2.slcC_fr l.length
  have HS := H2.slcC_set (j := l.length) (by rw [flat_len, hlen]; simp [Enc.size]) (.int .i64 0)
  have HS2 := HS.slcC_cut (k := l.length) (c := cap) (by omega) (by omega) (Nat.le_refl _)
  have e1 : ((flat (l ++ [x])).set l.length (.int .i64 0)).take (l.length * Enc.size Int) = flat l := by
    rw [List.take_set_of_le (by simp [Enc.size]), flat_take, List.take_left' rfl]
  rw [e1] at HS2
  have d0 := (HS2.b2.rd o).trans hC
  have k0 := HS2.b2.fr o
  rw [hlen] at d0
  have HF := (HS2.b2.set o (.slice (some ⟨g, 0, none⟩) l.length cap)).b2.slc_mk.b2
  clear hcm
  have hw : IntKind.i64.wrap (l.length : Int) = l.length := IntWalk.i64_in _ (by omega)
  have hlt : (l.length : Int) < (l.length : Int) + 1 := by omega
  have hlc : l.length ≤ cap := by omega
  clear H H2 HS HS2 hC hlen e1
  go_enter Tryz.func182, Tryz.ntmps182
  go_wp2_with fail
  refine htop.mono ?_
  rintro e w' ⟨rfl, rfl⟩
  go_wp2_with fail
  refine wp_region_still_tail 12 (by kernel_rfl) (by kernel_rfl) ?_
  simp only [List.take_succ_cons, List.take_zero, List.drop_succ_cons, List.drop_zero, World.drew_eq]
  (repeat still_step)
  refine wpStill_nil ?_
  go_wp2_with fail
  refine wp_region_still_tail 14 (by kernel_rfl) (by kernel_rfl) ?_
  simp only [List.take_succ_cons, List.take_zero, List.drop_succ_cons, List.drop_zero, World.drew_eq]
  (repeat still_step)
  refine wpStill_nil ?_
  go_wp2_with fail
  go_ret2
  exact ⟨rfl, _, HF.drew.drew⟩
end
end Go.Proofs.YtogcikilphakmaaGreatDoor

/-
  Small words more: a cell of a literal row. No program in sight.
-/
namespace Go.Proofs.YtogcikilphakmaaGreatDoor
open Go.RowKit Spl
theorem Hd.ce {w0 w : World} {R : List Pr} {b T : Nat} {c : Array Value} (H : Hd w0 (cel b T c :: R) w) (i : Nat) {u : Value} (h : c[i]? = some u) : w.cell? ⟨b, i, none⟩ = some u := (H.rd i).trans h
end Go.Proofs.YtogcikilphakmaaGreatDoor

/-
  The system ceiling's stack over the separation logic: Top, Raise, Lower, Len.
-/
namespace Go.Proofs.YtogcikilphakmaaGreatDoor
open Go.RowKit Spl

def CeP (b : Nat) (l : List Int) : Pr := ex fun v : Value => all [cel b 152 #[v], SlE 3 v l]
instance (b : Nat) (l : List Int) : Key (CeP b l) (.b b) := ⟨trivial⟩
def topI (l : List Int) : Int := l.getLast?.getD 0
section
variable {w0 w : World} {R : List Pr} {b : Nat} {l : List Int}
theorem CeP.opened (H : Hd w0 (CeP b l :: R) w) : ∃ v, Hd w0 (cel b 152 #[v] :: SlE 3 v l :: R) w := by
  obtain ⟨v, H⟩ := H.out
  exact ⟨v, H.flat⟩
theorem CeP.shut {v : Value} (H : Hd w0 (cel b 152 #[v] :: SlE 3 v l :: R) w) : Hd w0 (CeP b l :: R) w :=
  Hd.into v (Hd.pack (L := [_, _]) H)
theorem ceTop (H : Hd w0 (CeP b l :: R) w) (hn : l.length ≤ 100000) : Calls Tryz.prog 37 #[.pointer (some ⟨b, 0, none⟩)] w fun e w' => e = .returned (.int .i64 (topI l)) ∧ w = w' := by
  obtain ⟨v, H1⟩ := CeP.opened H
  rcases nil_or_snoc l with rfl | ⟨a, x, rfl⟩
  · have hc := stkTopNo_int (o := 0) H1 rfl
    clear H H1
    go_enter Tryz.func37, Tryz.ntmps37
    go_wp2_with fail
    refine hc.mono ?_
    rintro e w' ⟨rfl, rfl⟩
    go_wp2_with fail
    go_ret
    exact ⟨rfl, rfl⟩
  · have hc := stkTop_int (o := 0) H1 rfl (by simp at hn; omega)
    have e1 : topI (a ++ [x]) = x := by simp [topI]
    rw [e1]
    clear H H1 e1
    go_enter Tryz.func37, Tryz.ntmps37
    go_wp2_with fail
    refine hc.mono ?_
    rintro e w' ⟨rfl, rfl⟩
    go_wp2_with fail
    go_ret
    exact ⟨rfl, rfl⟩

theorem ceRaise (H : Hd w0 (CeP b l :: R) w) (hn : l.length ≤ 10000) (x : Int) : Calls Tryz.prog 158 #[.pointer (some ⟨b, 0, none⟩), .int .i64 x] w fun e w' => e = .returned (.int .i64 (max x (topI l))) ∧ Hd w0 (CeP b (l ++ [max x (topI l)]) :: R) w' := by
  obtain ⟨v, H1⟩ := CeP.opened H
  have hc := ceTop H (by omega)
  clear H
  by_cases hx : x < topI l
  · have e : max x (topI l) = topI l := by omega
    rw [e]
    have hp := stkPush_int (o := 0) H1 rfl (by omega) (topI l)
    clear H1 hn e
    go_enter Tryz.func158, Tryz.ntmps158
    go_wp2_with fail
    refine hc.mono ?_
    rintro e w' ⟨rfl, rfl⟩
    clear hc
    go_wp2_with fail
    refine hp.mono ?_
    rintro e w' ⟨rfl, v', H2⟩
    go_wp2_with fail
    go_ret
    exact ⟨rfl, CeP.shut (v := v') H2⟩
  · have e : max x (topI l) = x := by omega
    rw [e]
    have hp := stkPush_int (o := 0) H1 rfl (by omega) x
    clear H1 hn e
    go_enter Tryz.func158, Tryz.ntmps158
    go_wp2_with fail
    refine hc.mono ?_
    rintro e w' ⟨rfl, rfl⟩
    clear hc
    go_wp2_with fail
    refine hp.mono ?_
    rintro e w' ⟨rfl, v', H2⟩
    go_wp2_with fail
    go_ret
    exact ⟨rfl, CeP.shut (v := v') H2⟩

theorem ceLower (H : Hd w0 (CeP b l :: R) w) (hn : l.length ≤ 10000) (hl : l ≠ []) : Calls Tryz.prog 162 #[.pointer (some ⟨b, 0, none⟩)] w fun e w' => e = .returned (.bool true) ∧ Hd w0 (CeP b l.dropLast :: R) w' := by
  obtain ⟨v, H1⟩ := CeP.opened H
  rcases nil_or_snoc l with rfl | ⟨a, x, rfl⟩
  · exact absurd rfl hl
  · have hc := stkPop_int (o := 0) H1 rfl (by simp at hn; omega)
    rw [List.dropLast_concat]
    clear H H1 hl
    go_enter Tryz.func162, Tryz.ntmps162
    go_wp2_with fail
    refine hc.mono ?_
    rintro e w' ⟨rfl, v', H2⟩
    go_wp2_with fail
    go_ret
    exact ⟨rfl, CeP.shut (v := v') H2⟩
end
end Go.Proofs.YtogcikilphakmaaGreatDoor
