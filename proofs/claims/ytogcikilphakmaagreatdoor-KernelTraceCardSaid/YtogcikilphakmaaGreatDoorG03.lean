/-
  Merged texts of one proof: Encs, ArM.
-/
import Derived.Lib.JoinLaws
import Derived.Lib.SliceRun
import Derived.Test.YtogcikilphakmaaGreatDoorG02

/-
  The things of keel that lie in slices: ops, needs, locks, holds, waiting and active jobs, events, pointers, rows of tasks. And laws of append inside a region that draws.
-/
namespace Go.Proofs.YtogcikilphakmaaGreatDoor
open Go.RowKit Spl

structure OpM where
  kind : Int
  res : Int
  n : Int
  v : Int
deriving DecidableEq
structure NeedM where
  res : Int
  units : Int
deriving DecidableEq
structure LockM where
  res : Int
  units : Int
deriving DecidableEq
structure HoldM where
  job : Int
  units : Int
deriving DecidableEq
structure WaitM where
  job : Int
  task : Int
  level : Int
deriving DecidableEq
structure ActM where
  job : Int
  task : Int
  level : Int
  at_ : Int
deriving DecidableEq
structure EvM where
  kind : Int
  task : Int
  job : Int
  op : OpM
  why : Int
  clock : Int
deriving DecidableEq
structure Ptr where
  b : Nat
/-- A task's row as it lies in memory: two of its values are slices. -/
structure RowV where
  nm : ByteArray
  lv : Int
  fr : Int
  na : Option Addr
  nl : Nat
  nc : Nat
  cd : ByteArray
  p : Int
  f : Int
  g : Int
  sa : Option Addr
  sl : Nat
  sc : Nat

instance encOp : Enc OpM where
  size := 4
  cells x := [.int .i64 x.kind, .int .i64 x.res, .int .i64 x.n, .int .i64 x.v]
  len _ := rfl
  one x u hu := by simp at hu; rcases hu with rfl | rfl | rfl | rfl <;> rfl
instance encNeed : Enc NeedM where
  size := 2
  cells x := [.int .i64 x.res, .int .i64 x.units]
  len _ := rfl
  one x u hu := by simp at hu; rcases hu with rfl | rfl <;> rfl
instance encLock : Enc LockM where
  size := 2
  cells x := [.int .i64 x.res, .int .i64 x.units]
  len _ := rfl
  one x u hu := by simp at hu; rcases hu with rfl | rfl <;> rfl
instance encHold : Enc HoldM where
  size := 2
  cells x := [.int .i64 x.job, .int .i64 x.units]
  len _ := rfl
  one x u hu := by simp at hu; rcases hu with rfl | rfl <;> rfl
instance encWait : Enc WaitM where
  size := 3
  cells x := [.int .i64 x.job, .int .i64 x.task, .int .i64 x.level]
  len _ := rfl
  one x u hu := by simp at hu; rcases hu with rfl | rfl | rfl <;> rfl
instance encAct : Enc ActM where
  size := 4
  cells x := [.int .i64 x.job, .int .i64 x.task, .int .i64 x.level, .int .i64 x.at_]
  len _ := rfl
  one x u hu := by simp at hu; rcases hu with rfl | rfl | rfl | rfl <;> rfl
instance encEv : Enc EvM where
  size := 9
  cells x := [.int .i64 x.kind, .int .i64 x.task, .int .i64 x.job, .int .i64 x.op.kind, .int .i64 x.op.res, .int .i64 x.op.n, .int .i64 x.op.v, .int .i64 x.why, .int .i64 x.clock]
  len _ := rfl
  one x u hu := by simp at hu; rcases hu with rfl | rfl | rfl | rfl | rfl | rfl | rfl | rfl | rfl <;> rfl
instance encPtr : Enc Ptr where
  size := 1
  cells x := [.pointer (some ⟨x.b, 0, none⟩)]
  len _ := rfl
  one x u hu := by simp at hu; subst hu; rfl
instance encRow : Enc RowV where
  size := 9
  cells x := [.string x.nm, .int .i64 x.lv, .int .i64 x.fr, .slice x.na x.nl x.nc, .string x.cd, .int .i64 x.p, .int .i64 x.f, .int .i64 x.g, .slice x.sa x.sl x.sc]
  len _ := rfl
  one x u hu := by
    simp at hu
    rcases hu with rfl | rfl | rfl | rfl | rfl | rfl | rfl | rfl | rfl <;> rfl

/-- Rows of a table: by numbers, by names. -/
structure RowH where
  k : Int
  b : Nat
structure RowN where
  k : ByteArray
  i : Int
instance encRowH : Enc RowH where
  size := 2
  cells x := [.int .i64 x.k, .pointer (some ⟨x.b, 0, none⟩)]
  len _ := rfl
  one x u hu := by simp at hu; rcases hu with rfl | rfl <;> rfl
instance encRowN : Enc RowN where
  size := 2
  cells x := [.string x.k, .int .i64 x.i]
  len _ := rfl
  one x u hu := by simp at hu; rcases hu with rfl | rfl <;> rfl
theorem results_row_tmp {P : Program} {fn : Func} {p u : Tmp} {ty : TypeId} (h : fn.results = #[.cell p ty, .tmp u]) (tmps : Array Value) (w : World) (g : Nat) (t : TypeId) (cs : Array Value) (fr : Nat × Nat) (d : TypeDesc)
    (hp : tmps.getD p undef = .pointer (some ⟨g, 0, none⟩)) (hg : w.heap[g]? = some (.cells cs t fr))
    (hu : P.underlying ty = some d) (hd : (match d with | .struct _ | .array _ _ => true | _ => false) = true) (hi : (P.info? ty).map (·.size) = some cs.size) :
    (results fn tmps).run P w = .ok (.tuple #[.agg cs, tmps.getD u undef]) w := by
  have hp' : tmps[p]?.getD undef = .pointer (some ⟨g, 0, none⟩) := by simpa using hp
  simp [results, h, hp', asAddr, run_loadVar_row w g t ty cs fr d hg hu hd hi]
theorem results_tmp_row_tmp {P : Program} {fn : Func} {p u q : Tmp} {ty : TypeId} (h : fn.results = #[.tmp q, .cell p ty, .tmp u]) (tmps : Array Value) (w : World) (g : Nat) (t : TypeId) (cs : Array Value) (fr : Nat × Nat) (d : TypeDesc)
    (hp : tmps.getD p undef = .pointer (some ⟨g, 0, none⟩)) (hg : w.heap[g]? = some (.cells cs t fr))
    (hu : P.underlying ty = some d) (hd : (match d with | .struct _ | .array _ _ => true | _ => false) = true) (hi : (P.info? ty).map (·.size) = some cs.size) :
    (results fn tmps).run P w = .ok (.tuple #[tmps.getD q undef, .agg cs, tmps.getD u undef]) w := by
  have hp' : tmps[p]?.getD undef = .pointer (some ⟨g, 0, none⟩) := by simpa using hp
  simp [results, h, hp', asAddr, run_loadVar_row w g t ty cs fr d hg hu hd hi]
theorem get_off {a L : List Value} {n : Nat} (h : a.length = n) (j : Nat) : (a ++ L).toArray[n + j]? = L[j]? := by
  subst h
  rw [List.getElem?_toArray, List.getElem?_append_right (Nat.le_add_right _ _), Nat.add_sub_cancel_left]
theorem get_off0 {a L : List Value} {n : Nat} (h : a.length = n) : (a ++ L).toArray[n]? = L[0]? := by
  have := get_off (L := L) h 0
  simpa using this
theorem set_off {a L : List Value} {n : Nat} (h : a.length = n) (j : Nat) (v : Value) : (a ++ L).toArray.setIfInBounds (n + j) v = (a ++ L.set j v).toArray := by
  subst h
  apply Array.ext'
  simp
theorem set_off0 {a L : List Value} {n : Nat} (h : a.length = n) (v : Value) : (a ++ L).toArray.setIfInBounds n v = (a ++ L.set 0 v).toArray := by
  have := set_off (L := L) h 0 v
  simpa using this
theorem get_set_eq {C : Array Value} {o : Nat} {v u : Value} (h : C[o]? = some u) : (C.setIfInBounds o v)[o]? = some v := by
  obtain ⟨hi, _⟩ := Array.getElem?_eq_some_iff.1 h
  simp [hi]
theorem set3 {C : Array Value} {o : Nat} {v a b : Value} : ((C.setIfInBounds (o + 1) a).setIfInBounds o v).setIfInBounds (o + 1) b = (C.setIfInBounds o v).setIfInBounds (o + 1) b := by
  apply Array.ext'
  simp only [Array.toList_setIfInBounds]
  rw [List.set_comm _ _ (by omega : o ≠ o + 1), List.set_set]
  exact List.set_comm _ _ (by omega)
theorem set_same {C : Array Value} {o : Nat} {v : Value} (h : C[o]? = some v) : C.setIfInBounds o v = C := by
  apply Array.ext'
  have h' : C.toList[o]? = some v := by simpa using h
  obtain ⟨hi, e⟩ := List.getElem?_eq_some_iff.1 h'
  rw [Array.toList_setIfInBounds, ← e, List.set_getElem_self]
theorem add0 (b j : Nat) : (⟨b, 0, none⟩ : Addr).add j = ⟨b, j, none⟩ := by unfold Addr.add; split <;> simp_all
theorem cel_news {w0 w : World} {R : List Pr} {b T : Nat} {C : Array Value} (H : Hd w0 (cel b T C :: R) w) : ∀ j u, C.toList[j]? = some u → w.cell? ((⟨b, 0, none⟩ : Addr).add j) = some u := by
  intro j u hj
  rw [add0]
  exact (H.rd j).trans (by simpa using hj)
theorem step_append_slc {P : Program} {w0 w : World} {R : List Pr} {ops : Array Oper} {o : Oper} {a : Act} {K : Act → World → Prop} {Q : Exit → Act → World → Prop} {E : Prop} (hgd : o.guard = none) (s x : Operand) (t : TypeId)
    (ho : o.op = .call { callee := .builtin .append, args := #[s, x], argTypes := #[t, t] })
    (e : TypeId) (i : TypeInfo) (z : Value) (size bytes : Nat) (ht : P.underlying t = some (.slice e)) (hi : P.info? e = some i) (hz : i.zero = some z)
    (hsize : i.size = size) (hby : i.bytes = bytes) (hzs : z.cells.size = size)
    (v : Value) (n : Nat) (xs : List Value) (hs : a.eval s = v) (H : Hd w0 (Slc e size v n xs :: R) w)
    (ad : Addr) (m c : Nat) (news : List Value) (hx : a.eval x = .slice (some ad) m c) (hl : news.length = m * size) (hnews : ∀ j u, news[j]? = some u → w.cell? (ad.add j) = some u) (h1 : ∀ u ∈ news, u.oneCell' = true)
    (h63 : n + m ≤ maxLen) (hbytes : (n + m) * bytes ≤ 140737488355328)
    (h : ∀ v' w', Hd w0 (Slc e size v' (n + m) (xs ++ news) :: R) w' → K (a.put o.dst v') w') : if Region.wanted o (yielded ops a.tmps) = true then o.wp P a w K Q else E := by
  simp only [Region.wanted, hgd, if_true]
  obtain ⟨v', w', hr, h2⟩ := run_append_slc (P := P) t o.type e i z size bytes ht hi hz hsize hby hzs v n xs H ad m c news hl hnews h1 h63 hbytes
  unfold Oper.wp execOp
  simp only [ho, resolve, invoke, builtin, Sem.run_bind, Sem.run_pure, Result.andThen_ok, List.map_toArray, List.map_cons, List.map_nil, hs, hx, hr]
  exact h v' w' h2
end Go.Proofs.YtogcikilphakmaaGreatDoor

/-
  The plain arena: frames side by side in one row of words. And what appending and clearing inside a row do to the assertions. No program in sight.
-/
namespace Go.Proofs.YtogcikilphakmaaGreatDoor
open Go.RowKit Spl

theorem nil_or_snoc {α : Type} (l : List α) : l = [] ∨ ∃ a x, l = a ++ [x] := by
  rcases List.eq_nil_or_concat l with h | ⟨a, x, h⟩
  · exact .inl h
  · exact .inr ⟨a, x, by rw [h, List.concat_eq_append]⟩
structure FrM where
  size : Nat
  laid : List Int
structure ArM where
  n : Nat
  fr : List FrM
  high : Nat
def zeros (n : Nat) : List Int := List.replicate n 0
theorem zeros_len (n : Nat) : (zeros n).length = n := by simp [zeros]
theorem zeros_add (a b : Nat) : zeros (a + b) = zeros a ++ zeros b := by simp [zeros, List.replicate_append_replicate]
def FrM.words (f : FrM) : List Int := f.laid ++ zeros (f.size - f.laid.length)
def usedL (l : List FrM) : Nat := (l.map FrM.size).sum
def wordsL (l : List FrM) : List Int := l.flatMap FrM.words
theorem size_le_used {l : List FrM} {f : FrM} (h : f ∈ l) : f.size ≤ usedL l := by
  induction l with
  | nil => cases h
  | cons x l ih =>
    have e : usedL (x :: l) = x.size + usedL l := by simp [usedL]
    rw [e]
    rcases List.mem_cons.1 h with rfl | h
    · exact Nat.le_add_right _ _
    · have := ih h; omega
theorem usedL_nil : usedL [] = 0 := rfl
theorem usedL_append (a b : List FrM) : usedL (a ++ b) = usedL a + usedL b := by simp [usedL]
theorem usedL_one (f : FrM) : usedL [f] = f.size := by simp [usedL]
theorem wordsL_append (a b : List FrM) : wordsL (a ++ b) = wordsL a ++ wordsL b := by simp [wordsL]
theorem wordsL_one (f : FrM) : wordsL [f] = f.words := by simp [wordsL]
theorem FrM.words_len {f : FrM} (h : f.laid.length ≤ f.size) : f.words.length = f.size := by
  unfold FrM.words
  rw [List.length_append, zeros_len]; omega
theorem wordsL_len {l : List FrM} (h : ∀ f ∈ l, f.laid.length ≤ f.size) : (wordsL l).length = usedL l := by
  induction l with
  | nil => rfl
  | cons f l ih =>
    have e : wordsL (f :: l) = f.words ++ wordsL l := rfl
    have e2 : usedL (f :: l) = f.size + usedL l := by simp [usedL]
    rw [e, e2, List.length_append, FrM.words_len (h f List.mem_cons_self), ih (fun g hg => h g (List.mem_cons_of_mem _ hg))]
/-- The frames' slices, the first of which begins at off. -/
def frs (g : Nat) : Nat → List FrM → List Value
  | _, [] => []
  | off, f :: l => .slice (some ⟨g, if f.size = 0 then 0 else off, none⟩) f.laid.length f.size :: frs g (off + f.size) l
theorem frs_append (g : Nat) (a b : List FrM) : ∀ off, frs g off (a ++ b) = frs g off a ++ frs g (off + usedL a) b := by
  induction a with
  | nil => intro off; simp [frs, usedL]
  | cons f a ih =>
    intro off
    have e2 : usedL (f :: a) = f.size + usedL a := by simp [usedL]
    rw [List.cons_append, frs, frs, ih, List.cons_append, e2, Nat.add_assoc]
theorem frs_len (g : Nat) (l : List FrM) : ∀ off, (frs g off l).length = l.length := by
  induction l with
  | nil => intro off; rfl
  | cons f l ih => intro off; rw [frs, List.length_cons, ih, List.length_cons]
theorem frs_one (g : Nat) (l : List FrM) : ∀ off, ∀ u ∈ frs g off l, u.oneCell' = true := by
  induction l with
  | nil => intro off u h; cases h
  | cons f l ih =>
    intro off u h
    rw [frs] at h
    rcases List.mem_cons.1 h with rfl | h
    · rfl
    · exact ih _ u h
/-- Frame i's slice. -/
theorem frs_at {g : Nat} {l : List FrM} {i : Nat} {f : FrM} (h : l[i]? = some f) : ∀ off, (frs g off l)[i]? = some (.slice (some ⟨g, if f.size = 0 then 0 else off + usedL (l.take i), none⟩) f.laid.length f.size) := by
  induction l generalizing i with
  | nil => simp at h
  | cons x l ih =>
    intro off
    cases i with
    | zero =>
      simp at h; subst h
      simp [frs, usedL]
    | succ i =>
      have e2 : usedL (x :: l.take i) = x.size + usedL (l.take i) := by simp [usedL]
      rw [frs, List.getElem?_cons_succ, ih (by simpa using h), List.take_succ_cons, e2, Nat.add_assoc]
namespace ArM
def used (m : ArM) : Nat := usedL m.fr
def words (m : ArM) : List Int := wordsL m.fr ++ zeros (m.n - m.used)
structure Ok (m : ArM) : Prop where
  used : m.used ≤ m.n
  n : m.n ≤ 65536
  high : m.used ≤ m.high
  high2 : m.high ≤ m.n
  laid : ∀ f ∈ m.fr, f.laid.length ≤ f.size
  few : m.fr.length ≤ 10000
theorem words_len {m : ArM} (h : m.Ok) : m.words.length = m.n := by
  unfold words
  have h1 := h.used
  unfold used at *
  rw [List.length_append, wordsL_len h.laid, zeros_len]
  omega
def new (n : Nat) : ArM := ⟨n, [], 0⟩
theorem Ok.new {n : Nat} (h : n ≤ 65536) : (ArM.new n).Ok := ⟨Nat.zero_le _, h, Nat.zero_le _, Nat.zero_le _, (fun _ h => nomatch h), Nat.zero_le _⟩
def openE (m : ArM) (size : Int) : Int := if size < 0 then 1 else if size > m.n - m.used then 11 else 0
def openF (m : ArM) (size : Int) : ArM := if m.openE size = 0 then ⟨m.n, m.fr ++ [⟨size.toNat, []⟩], max m.high (m.used + size.toNat)⟩ else m
theorem Ok.openF {m : ArM} (h : m.Ok) (size : Int) (hl : m.fr.length < 10000) : (m.openF size).Ok := by
  unfold ArM.openF
  split
  · rename_i he
    unfold openE at he
    have h1 := h.used
    have h2 := h.high2
    have h3 : ¬ size < 0 := by intro hh; rw [if_pos hh] at he; cases he
    have h4 : ¬ size > m.n - m.used := by intro hh; rw [if_neg h3, if_pos hh] at he; cases he
    have e : ArM.used ⟨m.n, m.fr ++ [⟨size.toNat, []⟩], max m.high (m.used + size.toNat)⟩ = m.used + size.toNat := by
      unfold ArM.used; rw [usedL_append, usedL_one]
    refine ⟨by rw [e]; show _ ≤ m.n; omega, h.n, by rw [e]; exact Nat.le_max_right _ _, ?_, ?_, by simp; omega⟩
    · show max _ _ ≤ m.n
      omega
    · intro f hf
      rcases List.mem_append.1 hf with hf | hf
      · exact h.laid f hf
      · obtain rfl := List.mem_singleton.1 hf
        exact Nat.zero_le _
  · exact h
def pushE (m : ArM) : Int := match m.fr.getLast? with | none => 6 | some f => if f.laid.length = f.size then 12 else 0
def push (m : ArM) (v : Int) : ArM := match m.fr.getLast? with
  | none => m
  | some f => if f.laid.length = f.size then m else ⟨m.n, m.fr.dropLast ++ [⟨f.size, f.laid ++ [v]⟩], m.high⟩
def popE (m : ArM) : Int := match m.fr.getLast? with | none => 6 | some f => if f.laid = [] then 10 else 0
def popV (m : ArM) : Int := match m.fr.getLast? with | none => 0 | some f => f.laid.getLast?.getD 0
def pop (m : ArM) : ArM := match m.fr.getLast? with
  | none => m
  | some f => if f.laid = [] then m else ⟨m.n, m.fr.dropLast ++ [⟨f.size, f.laid.dropLast⟩], m.high⟩
def closeE (m : ArM) : Int := if m.fr = [] then 6 else 0
def close (m : ArM) : ArM := ⟨m.n, m.fr.dropLast, m.high⟩
theorem snoc_last {m : ArM} {init : List FrM} {f : FrM} (h : m.fr = init ++ [f]) : m.fr.getLast? = some f ∧ m.fr.dropLast = init := by rw [h]; simp
theorem used_snoc {n high : Nat} {init : List FrM} {f : FrM} : ArM.used ⟨n, init ++ [f], high⟩ = usedL init + f.size := by
  show usedL (init ++ [f]) = _
  rw [usedL_append, usedL_one]
theorem Ok.turn {m : ArM} (h : m.Ok) {init : List FrM} {f f' : FrM} (hf : m.fr = init ++ [f]) (hs : f'.size = f.size) (hl : f'.laid.length ≤ f'.size) : Ok ⟨m.n, init ++ [f'], m.high⟩ := by
  have hu : m.used = usedL init + f.size := by unfold ArM.used; rw [hf, usedL_append, usedL_one]
  have h1 := h.used
  have h2 := h.high
  have hlen := h.few
  rw [hf] at hlen
  refine ⟨by rw [used_snoc, hs]; show _ ≤ m.n; omega, h.n, by rw [used_snoc, hs]; show _ ≤ m.high; omega, h.high2, ?_, by simpa using hlen⟩
  intro x hx
  rcases List.mem_append.1 hx with hx | hx
  · exact h.laid x (by rw [hf]; exact List.mem_append_left _ hx)
  · obtain rfl := List.mem_singleton.1 hx
    exact hl
theorem Ok.push {m : ArM} (h : m.Ok) (v : Int) : (m.push v).Ok := by
  rcases nil_or_snoc m.fr with e | ⟨init, f, e⟩
  · unfold ArM.push; rw [e]; exact h
  · obtain ⟨h1, h2⟩ := snoc_last e
    unfold ArM.push; rw [h1, h2]
    have hl := h.laid f (by rw [e]; simp)
    by_cases hh : f.laid.length = f.size
    · simp only [hh, if_true]; exact h
    · simp only [hh, if_false]
      exact h.turn e rfl (by simp; omega)
theorem Ok.pop {m : ArM} (h : m.Ok) : m.pop.Ok := by
  rcases nil_or_snoc m.fr with e | ⟨init, f, e⟩
  · unfold ArM.pop; rw [e]; exact h
  · obtain ⟨h1, h2⟩ := snoc_last e
    unfold ArM.pop; rw [h1, h2]
    have hl := h.laid f (by rw [e]; simp)
    by_cases hh : f.laid = []
    · simp only [hh, if_true]; exact h
    · simp only [hh, if_false]
      exact h.turn e rfl (by simp; omega)
theorem Ok.close {m : ArM} (h : m.Ok) : m.close.Ok := by
  rcases nil_or_snoc m.fr with e | ⟨init, f, e⟩
  · have : m.close = m := by unfold ArM.close; cases m; simp_all
    rw [this]; exact h
  · obtain ⟨h1, h2⟩ := snoc_last e
    have hu : m.used = usedL init + f.size := by unfold ArM.used; rw [e, usedL_append, usedL_one]
    have hu2 : m.close.used = usedL init := by unfold ArM.close ArM.used; simp only [h2]
    have a1 := h.used
    have a2 := h.high
    have a3 := h.few
    rw [e] at a3
    refine ⟨by rw [hu2]; show _ ≤ m.n; omega, h.n, by rw [hu2]; show _ ≤ m.high; omega, h.high2, ?_, ?_⟩
    · intro x hx
      unfold ArM.close at hx
      simp only [h2] at hx
      exact h.laid x (by rw [e]; exact List.mem_append_left _ hx)
    · unfold ArM.close
      simp only [h2]
      simp at a3
      omega
end ArM

/-! ### writing inside a row -/
section
variable {w0 w : World} {R : List Pr}
theorem Hd.setCells {b : Nat} {T : TypeId} {vs : List Value} : ∀ {a old rest : List Value} {o : Nat} {w : World} (_ : Hd w0 (cel b T (a ++ (old ++ rest)).toArray :: R) w) (_ : a.length = o) (_ : old.length = vs.length),
    Hd w0 (cel b T (a ++ (vs ++ rest)).toArray :: R) (w.setCells b o vs) := by
  induction vs with
  | nil =>
    intro a old rest o w H ho hl
    rw [List.eq_nil_of_length_eq_zero hl] at H
    exact H
  | cons v vs ih =>
    intro a old rest o w H ho hl
    cases old with
    | nil => cases hl
    | cons x old =>
      have H1 := H.set o v
      rw [set_off0 ho] at H1
      have H2 : Hd w0 (cel b T ((a ++ [v]) ++ (old ++ rest)).toArray :: R) (w.setCell ⟨b, o, none⟩ v) := by simpa using H1
      have H3 := ih H2 (o := o + 1) (by simp [ho]) (by simpa using hl)
      rw [World.setCells]
      simpa using H3

/-- append of one element within a row, at a slice that begins anywhere in it. -/
theorem wpList_append_in {P : Program} {ops : Array Oper} {rest : List Oper} {o : Oper} {a : Act} {Q : Exit → Act → World → Prop} (hgd : o.guard = none) (s x : Operand) (t : TypeId)
    (ho : o.op = .call { callee := .builtin .append, args := #[s, x], argTypes := #[t, t] })
    (e : TypeId) (z : Value) (bytes : Nat) (ht : P.underlying t = some (.slice e)) (hinfo : (P.info? e).map (fun i => (i.zero, i.size, i.bytes)) = some (some z, 1, bytes))
    (b off n cap : Nat) (hs : a.eval s = .slice (some ⟨b, off, none⟩) n cap) {T : TypeId} {pre post : List Value} {x0 : Value} (H : Hd w0 (cel b T (pre ++ (x0 :: post)).toArray :: R) w) (hpre : pre.length = off + n) (hroom : n + 1 ≤ cap)
    (ad : Addr) (c : Nat) (u : Value) (hx : a.eval x = .slice (some ad) 1 c) (hu : ∀ (j : Nat) (y : Value), [u][j]? = some y → w.cell? (ad.add j) = some y) (h1 : u.oneCell' = true)
    (h : ∀ w', Hd w0 (cel b T (pre ++ (u :: post)).toArray :: R) w' → wpList P ops Q rest (a.put o.dst (.slice (some ⟨b, off, none⟩) (n + 1) cap)) w') : wpList P ops Q (o :: rest) a w := by
  have hH := Hd.setCells (vs := [u]) (old := [x0]) (a := pre) (rest := post) (o := off + n) H hpre rfl
  refine wpList_append_room1 w hgd s x t t ho e z bytes ht hinfo b off n cap hs _ hx 1 [u] (Src.ofSlice w ht ad 1 c [u] rfl hu (by simpa using h1)) hroom ?_ ?_ (h _ hH)
  · intro j hj
    have hj0 : j = 0 := by simp at hj; exact hj
    subst hj0
    rw [Nat.add_zero, H.rd, get_off0 hpre]
    rfl
  · intro j _
    exact H.fr _

/-- clear of a piece of a row. -/
theorem wpList_clear_in {P : Program} {ops : Array Oper} {rest : List Oper} {o : Oper} {a : Act} {Q : Exit → Act → World → Prop} (hgd : o.guard = none) (s : Operand) (t : TypeId)
    (ho : o.op = .call { callee := .builtin .clear, args := #[s], argTypes := #[t] })
    (e : TypeId) (z : Value) (ht : P.underlying t = some (.slice e)) (hv : ∀ w, (zeroValue e).run P w = .ok z w) (hz : z.cells = #[z]) (h1 : z.oneCell' = true)
    (b off n cap : Nat) (hs : a.eval s = .slice (some ⟨b, off, none⟩) n cap) {T : TypeId} {pre old post : List Value} (H : Hd w0 (cel b T (pre ++ (old ++ post)).toArray :: R) w) (hpre : n = 0 ∨ pre.length = off) (hold : old.length = n)
    (h : ∀ w', Hd w0 (cel b T (pre ++ (List.replicate n z ++ post)).toArray :: R) w' → wpList P ops Q rest (a.put o.dst (.tuple #[])) w') : wpList P ops Q (o :: rest) a w :=
  wpList_plain hgd fun K hK => by
    by_cases h0 : n = 0
    · subst h0
      rw [List.eq_nil_of_length_eq_zero hold] at H
      have hr : (Builtin.clear_ #[t] o.type #[.slice (some ⟨b, off, none⟩) 0 cap]).run P w = .ok (.tuple #[]) w := by
        simp [Builtin.clear_, run_underlying ht]
      unfold Oper.wp execOp
      simp only [ho, resolve, invoke, builtin, Sem.run_bind, Sem.run_pure, Result.andThen_ok, List.map_toArray, List.map_cons, List.map_nil, hs, hr]
      exact hK _ _ (h w (by simpa using H))
    · have hp : pre.length = off := hpre.resolve_left h0
      have hr := Lib.run_clear_slice (P := P) w t e o.type z ht hv hz h1 b off n cap (by omega) (fun j hj => by
        rw [H.rd, get_off hp, List.getElem?_append_left (by omega), List.getElem?_eq_getElem (by omega)]; rfl) (fun j _ => H.fr _)
      have hH := Hd.setCells (vs := List.replicate n z) H hp (by simpa using hold)
      unfold Oper.wp execOp
      simp only [ho, resolve, invoke, builtin, Sem.run_bind, Sem.run_pure, Result.andThen_ok, List.map_toArray, List.map_cons, List.map_nil, hs, hr]
      exact hK _ _ (h _ hH)
end
end Go.Proofs.YtogcikilphakmaaGreatDoor
