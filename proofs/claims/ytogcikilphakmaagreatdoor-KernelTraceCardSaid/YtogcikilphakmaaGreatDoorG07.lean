/-
  Merged texts of one proof: Cpy, Key, Tab_hold.
-/
import Derived.Laws.CopyRow
import Derived.Laws.Strings
import Derived.Laws.Tables
import Derived.Test.YtogcikilphakmaaGreatDoorG03
import Derived.Test.YtogcikilphakmaaGreatDoorG06

/-
  Copying, appending and clearing inside rows of elements of any number of cells. No program in sight.
-/
namespace Go.Proofs.YtogcikilphakmaaGreatDoor
open Go.RowKit Spl

section
variable {P : Program} {w0 w : World} {R : List Pr}
theorem Hd.setRow {b : Nat} {T : TypeId} {C : Array Value} (H : Hd w0 (cel b T C :: R) w) (C' : Array Value) : Hd w0 (cel b T C' :: R) (w.setRow b C') :=
  H.upd (fun i => by
    by_cases hi : i = b
    · subst hi
      rw [if_pos rfl]
      exact setRow_heap w i C C' T (0, 0) H.heap
    · rw [if_neg hi]
      exact setRow_other w b i C' hi) ⟨setRow_os w b C', setRow_tape w b C', setRow_output w b C', by rw [setRow_size]; exact Nat.le_refl _⟩
theorem run_store_seg {g off : Nat} {T : TypeId} {pre old post news : List Value} (H : Hd w0 (cel g T (pre ++ (old ++ post)).toArray :: R) w) (hpre : pre.length = off) (hold : old.length = news.length) (h1 : ∀ u ∈ news, u.oneCell' = true) :
    (storeCells ⟨g, off, none⟩ news 0).run P w = .ok () (w.setRow g (pre ++ (news ++ post)).toArray) := by
  have hst := run_storeCells_at P g off T news 0 (pre ++ (old ++ post)).toArray w H.heap (by simp; omega) h1
  rw [hst]
  congr 2
  subst hpre
  rw [← hold]
  simp

/-- copy onto a piece of a row. -/
theorem wpList_copy_seg {ops : Array Oper} {rest : List Oper} {o : Oper} {a : Act} {Q : Exit → Act → World → Prop} (hgd : o.guard = none) (d s : Operand) (dT sT : TypeId)
    (ho : o.op = .call { callee := .builtin .copy, args := #[d, s], argTypes := #[dT, sT] })
    (e : TypeId) (i : TypeInfo) (size : Nat) (ht : P.underlying dT = some (.slice e)) (hi : P.info? e = some i) (hsz : i.size = size)
    (g off dn dc : Nat) (hd : a.eval d = .slice (some ⟨g, off, none⟩) dn dc) (ad : Addr) (sn sc : Nat) (hs : a.eval s = .slice (some ad) sn sc) (k : Nat) (hk : Nat.min sn dn = k)
    {T : TypeId} {pre old post : List Value} (news : List Value) (H : Hd w0 (cel g T (pre ++ (old ++ post)).toArray :: R) w) (hpre : pre.length = off) (hold : old.length = news.length) (hl : news.length = k * size)
    (hnews : ∀ (j : Nat) (u : Value), news[j]? = some u → w.cell? (ad.add j) = some u) (h1 : ∀ u ∈ news, u.oneCell' = true)
    (h : ∀ w', Hd w0 (cel g T (pre ++ (news ++ post)).toArray :: R) w' → wpList P ops Q rest (a.put o.dst (.int .i64 k)) w') : wpList P ops Q (o :: rest) a w :=
  wpList_plain hgd fun K hK => by
    have hld := run_loadCells_list (P := P) w ad news hnews
    rw [hl] at hld
    have hst := run_store_seg (P := P) H hpre hold h1
    have hr : (Builtin.copy_ #[dT, sT] o.type #[.slice (some ⟨g, off, none⟩) dn dc, .slice (some ad) sn sc]).run P w = .ok (.int .i64 k) (w.setRow g (pre ++ (news ++ post)).toArray) := by
      subst hsz
      simp [Builtin.copy_, run_underlying ht, Builtin.lenOf, Builtin.firstCells, sizeOf, typeInfo, hi, hk, hld, hst, goInt]
    unfold Oper.wp execOp
    simp only [ho, resolve, invoke, builtin, Sem.run_bind, Sem.run_pure, Result.andThen_ok, List.map_toArray, List.map_cons, List.map_nil, hd, hs, hr]
    exact hK _ _ (h _ (H.setRow _))

/-- append in place, of anything that can be read, onto a piece of a row. -/
theorem wpList_append_seg {ops : Array Oper} {rest : List Oper} {o : Oper} {a : Act} {Q : Exit → Act → World → Prop} (hgd : o.guard = none) (s x : Operand) (t : TypeId)
    (ho : o.op = .call { callee := .builtin .append, args := #[s, x], argTypes := #[t, t] })
    (e : TypeId) (i : TypeInfo) (size : Nat) (ht : P.underlying t = some (.slice e)) (hi : P.info? e = some i) (hsz : i.size = size)
    (g n cap : Nat) (hs : a.eval s = .slice (some ⟨g, 0, none⟩) n cap) (ad : Addr) (m c : Nat) (hx : a.eval x = .slice (some ad) m c) (hroom : n + m ≤ cap)
    {T : TypeId} {pre old post : List Value} (news : List Value) (H : Hd w0 (cel g T (pre ++ (old ++ post)).toArray :: R) w) (hpre : pre.length = n * size) (hold : old.length = news.length) (hl : news.length = m * size)
    (hnews : ∀ (j : Nat) (u : Value), news[j]? = some u → w.cell? (ad.add j) = some u) (h1 : ∀ u ∈ news, u.oneCell' = true)
    (h : ∀ w', Hd w0 (cel g T (pre ++ (news ++ post)).toArray :: R) w' → wpList P ops Q rest (a.put o.dst (.slice (some ⟨g, 0, none⟩) (n + m) cap)) w') : wpList P ops Q (o :: rest) a w :=
  wpList_plain hgd fun K hK => by
    have hld := run_loadCells_list (P := P) w ad news hnews
    rw [hl] at hld
    have hst := run_store_seg (P := P) H hpre hold h1
    have hadd : (⟨g, 0, none⟩ : Addr).add (n * size) = ⟨g, n * size, none⟩ := add0 _ _
    have hr : (Builtin.append_ #[t, t] o.type #[.slice (some ⟨g, 0, none⟩) n cap, .slice (some ad) m c]).run P w = .ok (.slice (some ⟨g, 0, none⟩) (n + m) cap) (w.setRow g (pre ++ (news ++ post)).toArray) := by
      subst hsz
      simp [Builtin.append_, run_underlying ht, Builtin.lenOf, Builtin.firstCells, sizeOf, typeInfo, hi, hld, hroom, hadd, hst]
    unfold Oper.wp execOp
    simp only [ho, resolve, invoke, builtin, Sem.run_bind, Sem.run_pure, Result.andThen_ok, List.map_toArray, List.map_cons, List.map_nil, hs, hx, hr]
    exact hK _ _ (h _ (H.setRow _))

/-- append(s, make([]T, m)...) where the room does not serve. -/
theorem wpList_append_zeros_grow {ops : Array Oper} {rest : List Oper} {o : Oper} {a : Act} {Q : Exit → Act → World → Prop} (hgd : o.guard = none) (s x : Operand) (t ti : TypeId)
    (ho : o.op = .call { callee := .builtin .append, args := #[s, x], argTypes := #[t, ti] })
    (e : TypeId) (i : TypeInfo) (z : Value) (size bytes : Nat) (ht : P.underlying t = some (.slice e)) {kk : IntKind} (hti : P.underlying ti = some (.int kk)) (hi : P.info? e = some i) (hz : i.zero = some z)
    (hsize : i.size = size) (hby : i.bytes = bytes) (hzs : z.cells.size = size) (hsz : 0 < size) (hb0 : 0 < bytes)
    (a0 : Addr) (n cap : Nat) (hs : a.eval s = .slice (some a0) n cap) (xs : List Value) (hxl : xs.length = n * size) (hxs : ∀ (j : Nat) (u : Value), xs[j]? = some u → w.cell? (a0.add j) = some u)
    (m : Nat) (kx : IntKind) (hx : a.eval x = .int kx m) (hm : 0 < m) (hgrow : cap < n + m) (hbytes : (n + m) * bytes ≤ 140737488355328) (H : Hd w0 R w)
    (h : ∀ cap' w', n + m ≤ cap' → Hd w0 (SlcC e size w.heap.size (n + m) cap' (xs ++ (Builtin.zeroCells z.cells m).toList) :: R) w' → wpList P ops Q rest (a.put o.dst (.slice (some ⟨w.heap.size, 0, none⟩) (n + m) cap')) w') : wpList P ops Q (o :: rest) a w :=
  wpList_plain hgd fun K hK => by
    subst hsize
    subst hby
    have hle : n + m ≤ 140737488355328 := Nat.le_trans (Nat.le_mul_of_pos_right _ hb0) hbytes
    have h63 : n + m ≤ maxLen := by simp only [maxLen]; omega
    have hw : IntKind.i64.wrap (m : Int) = m := by rw [IntKind.wrap_i64]; omega
    have hneg : ¬ ((m : Int) < 0) := by omega
    have hmb : m * i.bytes ≤ 140737488355328 := Nat.le_trans (Nat.mul_le_mul_right _ (Nat.le_add_left m n)) hbytes
    have hbig : ¬ (281474976710656 < (m : Int) * (i.bytes : Int)) := by
      rw [← Int.natCast_mul]
      omega
    have hsn : i.size ≠ 0 := by omega
    obtain ⟨news, hnews⟩ : ∃ news, news = (Builtin.zeroCells z.cells m).toList := ⟨_, rfl⟩
    have hl : news.length = m * i.size := by rw [hnews, Array.length_toList, size_zeroCells, hzs]
    have hna : Builtin.zeroCells z.cells m = news.toArray := by rw [hnews]
    have hlen : (xs ++ news).length = (n + m) * i.size := by rw [List.length_append, hxl, hl, Nat.add_mul]
    have hge := grownCap_ge w (n + m) cap e
    have hcm : grownCap w (n + m) cap e ≤ maxLen := grownCap_le_maxLen w (n + m) cap e h63
    have hA := H.drew.alloc (.cells (xs.toArray ++ news.toArray ++ Builtin.zeroCells z.cells (grownCap w (n + m) cap e - (n + m))) e)
    have harr : xs.toArray ++ news.toArray ++ Builtin.zeroCells z.cells (grownCap w (n + m) cap e - (n + m)) = ((xs ++ news) ++ (Builtin.zeroCells z.cells (grownCap w (n + m) cap e - (n + m))).toList).toArray := by
      apply Array.ext'
      simp
    have hr : (Builtin.append_ #[t, ti] o.type #[.slice (some a0) n cap, .int kx m]).run P w =
        .ok (.slice (some ⟨w.heap.size, 0, none⟩) (n + m) (grownCap w (n + m) cap e)) (w.drew.alloc (.cells (xs.toArray ++ news.toArray ++ Builtin.zeroCells z.cells (grownCap w (n + m) cap e - (n + m))) e)) := by
      have hfo : (Builtin.firstCells i.size n (.slice (some a0) n cap)).run P w.drew = .ok xs.toArray w.drew := run_firstCells_some (P := P) w.drew i.size n a0 n cap xs hxl (by simpa using hxs)
      have hn : ¬ (n + m ≤ cap) := by omega
      have h63' : ¬ (9223372036854775807 < ((n : Int) + (m : Int))) := by omega
      have hfit := growslice_fits hgrow hbytes
      have h48' : ¬ (281474976710656 < Builtin.nextslicecap (n + m) cap * i.bytes) := by omega
      have hmz : ¬ (m * i.size = 0) := Nat.mul_ne_zero (by omega) hsn
      simp [Builtin.append_, run_underlying ht, run_underlying hti, sizeOf, typeInfo, zeroValue, hi, hz, asInt, asIntOf, hw, hneg, hbig, hn, h63', h48', Question.forced, hfo, newRow, grownCap, hmz, hna]
      congr 2
      apply Array.ext'
      simp [List.append_assoc]
    rw [harr] at hA hr
    have hB := hA.slcC_mk hlen hge hcm (Nat.le_of_eq (Eq.symm (by
      rw [List.length_append, hlen, Array.length_toList, size_zeroCells, hzs, ← Nat.add_mul]
      congr 1
      omega)))
    rw [hnews] at hB
    unfold Oper.wp execOp
    simp only [ho, resolve, invoke, builtin, Sem.run_bind, Sem.run_pure, Result.andThen_ok, List.map_toArray, List.map_cons, List.map_nil, hs, hx, hr]
    rw [hnews]
    exact hK _ _ (h _ _ hge hB)

/-- clear of a piece of a row. -/
theorem wpList_clear_seg {ops : Array Oper} {rest : List Oper} {o : Oper} {a : Act} {Q : Exit → Act → World → Prop} (hgd : o.guard = none) (s : Operand) (t : TypeId)
    (ho : o.op = .call { callee := .builtin .clear, args := #[s], argTypes := #[t] })
    (e : TypeId) (i : TypeInfo) (z : Value) (size : Nat) (ht : P.underlying t = some (.slice e)) (hi : P.info? e = some i) (hz : i.zero = some z) (hzs : z.cells.size = size) (h1 : ∀ u ∈ z.cells, u.oneCell' = true)
    (g off n cap : Nat) (hs : a.eval s = .slice (some ⟨g, off, none⟩) n cap) (hn : 0 < n) {T : TypeId} {pre old post : List Value} (H : Hd w0 (cel g T (pre ++ (old ++ post)).toArray :: R) w) (hpre : pre.length = off) (hold : old.length = n * size)
    (h : ∀ w', Hd w0 (cel g T (pre ++ ((Builtin.zeroCells z.cells n).toList ++ post)).toArray :: R) w' → wpList P ops Q rest (a.put o.dst (.tuple #[])) w') : wpList P ops Q (o :: rest) a w :=
  wpList_plain hgd fun K hK => by
    have hone : ∀ u ∈ (Builtin.zeroCells z.cells n).toList, u.oneCell' = true := by
      intro u hu
      simp only [Builtin.zeroCells, Array.toList_map, List.mem_map] at hu
      obtain ⟨k, hk, rfl⟩ := hu
      have hpos : 0 < z.cells.size := by
        rcases Nat.eq_zero_or_pos z.cells.size with h0 | h0
        · simp [h0] at hk
        · exact h0
      have hlt := Nat.mod_lt k hpos
      rw [getElem!_pos z.cells _ hlt]
      exact h1 _ (Array.getElem_mem hlt)
    have hst := run_store_seg (P := P) (news := (Builtin.zeroCells z.cells n).toList) H hpre (by rw [hold, Array.length_toList, size_zeroCells, hzs]) hone
    have hn0 : n ≠ 0 := by omega
    have hr : (Builtin.clear_ #[t] o.type #[.slice (some ⟨g, off, none⟩) n cap]).run P w = .ok (.tuple #[]) (w.setRow g (pre ++ ((Builtin.zeroCells z.cells n).toList ++ post)).toArray) := by
      obtain ⟨n, rfl⟩ : ∃ k, n = k + 1 := ⟨n - 1, by omega⟩
      simp [Builtin.clear_, run_underlying ht, zeroValue, typeInfo, hi, hz, hst]
    unfold Oper.wp execOp
    simp only [ho, resolve, invoke, builtin, Sem.run_bind, Sem.run_pure, Result.andThen_ok, List.map_toArray, List.map_cons, List.map_nil, hs, hr]
    exact hK _ _ (h _ (H.setRow _))
end
end Go.Proofs.YtogcikilphakmaaGreatDoor

/-
  Keys in order, rows sorted by their keys, and where a key's row is or would be. No program in sight.
-/
namespace Go.Proofs.YtogcikilphakmaaGreatDoor
open Go.RowKit Spl

class KLt (K : Type) where
  lt : K → K → Bool
  irr : ∀ a, lt a a = false
  tr : ∀ {a b c}, lt a b = true → lt b c = true → lt a c = true
  tot : ∀ {a b}, lt a b = false → lt b a = false → a = b
instance : KLt Int where
  lt a b := decide (a < b)
  irr a := by simp
  tr h1 h2 := by simp at *; omega
  tot h1 h2 := by simp at *; omega
theorem bytes_ext {a b : ByteArray} (h : a.toList = b.toList) : a = b := by
  rw [ByteArray.toList_eq, ByteArray.toList_eq] at h
  exact ByteArray.ext (Array.ext' h)
theorem less_eq : ∀ (x y : List UInt8), Op.bytesLess x y = decide (x < y)
  | [], [] => by simp [Op.bytesLess]
  | _ :: _, [] => by simp [Op.bytesLess]
  | [], _ :: _ => by simp [Op.bytesLess]
  | a :: x, b :: y => by
    rw [Op.bytesLess, less_eq x y]
    simp only [List.cons_lt_cons_iff]
    by_cases h1 : a < b <;> by_cases h2 : a = b <;> by_cases h3 : x < y <;> simp [h1, h2, h3]
instance : KLt ByteArray where
  lt a b := Op.bytesLess a.toList b.toList
  irr a := by rw [less_eq]; simp
  tr {a b c} h1 h2 := by
    rw [less_eq] at *
    simp only [decide_eq_true_eq] at *
    exact List.lt_trans h1 h2
  tot {a b} h1 h2 := by
    rw [less_eq] at *
    simp only [decide_eq_false_iff_not] at *
    exact bytes_ext (List.le_antisymm h2 h1)
class Keyed (α : Type) (K : outParam Type) where
  key : α → K

instance : Keyed RowH Int := ⟨RowH.k⟩
instance : Keyed RowN ByteArray := ⟨RowN.k⟩
section
variable {α K : Type} [KLt K] [Keyed α K]
def Sorted (l : List α) : Prop := l.Pairwise fun x y => KLt.lt (Keyed.key x) (Keyed.key y) = true
def pos (l : List α) (k : K) : Nat := (l.takeWhile fun x => KLt.lt (Keyed.key x) k).length
/-- The row of a key. -/
def rowAt (l : List α) (k : K) : Option α := match l[pos l k]? with
  | none => none
  | some x => if KLt.lt k (Keyed.key x) then none else some x
theorem pos_le (l : List α) (k : K) : pos l k ≤ l.length := by
  unfold pos
  exact (List.takeWhile_sublist _).length_le
theorem pos_lt {l : List α} {k : K} : ∀ {t : Nat} {x : α}, l[t]? = some x → t < pos l k → KLt.lt (Keyed.key x) k = true := by
  induction l with
  | nil => intro t x h; simp at h
  | cons y l ih =>
    intro t x h ht
    unfold pos at ht
    rw [List.takeWhile_cons] at ht
    split at ht
    · rename_i hy
      cases t with
      | zero => simp at h; subst h; exact hy
      | succ t => exact ih (t := t) (by simpa using h) (by simpa [pos] using ht)
    · simp at ht
theorem pos_ge {l : List α} {k : K} (hs : Sorted l) : ∀ {t : Nat} {x : α}, l[t]? = some x → pos l k ≤ t → KLt.lt (Keyed.key x) k = false := by
  induction l with
  | nil => intro t x h; simp at h
  | cons y l ih =>
    intro t x h ht
    have hs2 := List.pairwise_cons.1 hs
    unfold pos at ht
    rw [List.takeWhile_cons] at ht
    split at ht
    · rename_i hy
      cases t with
      | zero => simp at ht
      | succ t => exact ih hs2.2 (t := t) (by simpa using h) (by simpa [pos] using ht)
    · rename_i hy
      have hy' : KLt.lt (Keyed.key y) k = false := by simpa using hy
      cases t with
      | zero => simp at h; subst h; exact hy'
      | succ t =>
        have hx : x ∈ l := List.mem_of_getElem? (i := t) (by simpa using h)
        have h1 := hs2.1 x hx
        cases hc : KLt.lt (Keyed.key x) k with
        | false => rfl
        | true => exact absurd (KLt.tr h1 hc) (by rw [hy']; simp)
theorem rowAt_some {l : List α} {k : K} {x : α} (hs : Sorted l) (h : rowAt l k = some x) : l[pos l k]? = some x ∧ Keyed.key x = k := by
  unfold rowAt at h
  split at h
  · cases h
  · rename_i y hy
    split at h
    · cases h
    · rename_i hc
      injection h with h
      subst h
      exact ⟨hy, KLt.tot (pos_ge hs hy (Nat.le_refl _)) (by simpa using hc)⟩
end
end Go.Proofs.YtogcikilphakmaaGreatDoor

/-
  shelf.Table[int, *keel/units.holder] over the separation logic: where a key is or would be. Every table, every key.
-/
namespace Go.Proofs.YtogcikilphakmaaGreatDoor
open Go.RowKit Spl

section
variable {w0 w : World} {R : List Pr} {v : Value} {l : List RowH}
/-- how two keys compare -/
def cmp_hold (x : RowH) (k : Int) : Int := if KLt.lt x.k k then -1 else if KLt.lt k x.k then 1 else 0
theorem cmpf_hold (H : Hd w0 R w) (x : RowH) (k : Int) : Calls Tryz.prog 198 #[.agg #[.int .i64 x.k, .pointer (some ⟨x.b, 0, none⟩)], .int .i64 k] w fun e w' => e = .returned (.int .i64 (cmp_hold x k)) ∧ Hd w0 R w' := by
  have HA : Hd w0 _ (w.alloc (.cells #[.int .i64 x.k, .pointer (some ⟨x.b, 0, none⟩)] 267)) := H.fol
  unfold cmp_hold
  cases h1 : KLt.lt x.k k with
  | true =>
    have g1 : x.k < k := by simpa [KLt.lt] using h1
    rw [if_pos rfl]
    clear h1
    go_enter Tryz.func198, Tryz.ntmps198
    go_wp2
    go_ret
    exact ⟨rfl, HA.re⟩
  | false =>
    have g1 : ¬ (x.k < k) := by simpa [KLt.lt] using h1
    rw [if_neg (by simp)]
    cases h2 : KLt.lt k x.k with
    | true =>
      have g2 : x.k > k := by simpa [KLt.lt] using h2
      rw [if_pos rfl]
      clear h1 h2
      go_enter Tryz.func198, Tryz.ntmps198
      go_wp2
      go_ret
      exact ⟨rfl, HA.re⟩
    | false =>
      have g2 : ¬ (x.k > k) := by simpa [KLt.lt] using h2
      rw [if_neg (by simp)]
      clear h1 h2
      go_enter Tryz.func198, Tryz.ntmps198
      go_wp2
      go_ret
      exact ⟨rfl, HA.re⟩

set_option maxRecDepth 20000 in
set_option maxHeartbeats 1600000 in
theorem bs_hold (H : Hd w0 (SlE 267 v l :: R) w) (hs : Sorted l) (hn : l.length ≤ 100000) (k : Int) : Calls Tryz.prog 197 #[v, .int .i64 k, .func (.func 198) #[] #[]] w fun e w' =>
    e = .returned (.tuple #[.int .i64 (pos l k), .bool (rowAt l k).isSome]) ∧ Hd w0 (SlE 267 v l :: R) w' := by
  obtain ⟨a, cap, rfl, -, -, -, -⟩ := H.slc_form
  have hO := Lib.hid (And.intro H (And.intro hs hn))
  clear H hs hn
  go_enter Tryz.func197, Tryz.ntmps197
  go_wp2
  go_loopw [9, 10] (fun vi vj wr => ∃ i j : Nat, vi = .int .i64 i ∧ vj = .int .i64 j ∧ i ≤ pos l k ∧ pos l k ≤ j ∧ j ≤ l.length ∧ Hd w0 (SlE 267 (.slice a l.length cap) l :: R) wr) (fun vi vj _ => (intOf vj).toNat - (intOf vi).toNat)
  case atStart => exact ⟨0, l.length, rfl, rfl, Nat.zero_le _, pos_le l k, Nat.le_refl _, hO.out.1⟩
  case round =>
    obtain ⟨i, j, rfl, rfl, hi, hj, hjn, H⟩ := hrel
    by_cases hij : i < j
    · obtain ⟨h, hh⟩ : ∃ h : Nat, h = (i + j) / 2 := ⟨_, rfl⟩
      have hlo : i ≤ h := by omega
      have hhi : h < j := by omega
      have n1 : (i : Int) < j := by omega
      have f1 : wrap64 ((i : Int) + j) = (i : Int) + j := IntWalk.wrap64_in _ (by have := hO.out.2.2; omega)
      have f1' : IntKind.i64.wrap ((i : Int) + j) = (i : Int) + j := IntWalk.i64_in _ (by have := hO.out.2.2; omega)
      have f2 : IntKind.u64.wrap ((i : Int) + j) = (i : Int) + j := IntWalk.u64_in _ (by have := hO.out.2.2; omega)
      have f3 : wrap64 (((i : Int) + j) / 2) = h := by rw [IntWalk.wrap64_in _ (by have := hO.out.2.2; omega)]; omega
      have f3' : IntKind.i64.wrap (((i : Int) + j) / 2) = h := by rw [IntWalk.i64_in _ (by have := hO.out.2.2; omega)]; omega
      have f4 : IntKind.i64.wrap ((h : Int) + 1) = (h : Int) + 1 := IntWalk.i64_in _ (by have := hO.out.2.2; omega)
      have n2 : ¬ ((h : Int) < 0) := by omega
      have n3 : (h : Int) < l.length := by omega
      have n4 : ¬ l.length ≤ h := by omega
      obtain ⟨x, hx⟩ : ∃ x, l[h]? = some x := ⟨l[h]'(by omega), List.getElem?_eq_getElem _⟩
      obtain ⟨g, cap2, hv, H2⟩ := H.slc_at (by omega)
      injection hv with hv _ hv2
      subst hv hv2
      have c0 := H2.slcC_rd (flat_at hx (j := 0) rfl)
      have c1 := H2.slcC_rd (flat_at hx (j := 1) rfl)
      simp only [Enc.size, Nat.add_zero] at c0 c1
      have hcmp := cmpf_hold H x k
      have hX := Lib.hid (And.intro hx (And.intro hh (And.intro hi (And.intro hj (And.intro hjn (And.intro hlo hhi))))))
      clear H2 H hx hh hi hj hjn hlo hhi
      cases hlt : KLt.lt x.k k with
      | true =>
        have hn : cmp_hold x k < 0 := by simp [cmp_hold, hlt]
        have hp : h + 1 ≤ pos l k := by
          rcases Nat.lt_or_ge h (pos l k) with h1 | h1
          · omega
          · have := pos_ge hO.out.2.1 hX.out.1 h1
            exact absurd hlt (by rw [show KLt.lt x.k k = false from this]; simp)
        clear hlt
        go_wp2_with fail
        refine hcmp.mono ?_
        rintro e w2 ⟨rfl, H3⟩
        clear hcmp
        go_wp2_with fail
        go_roundw
        case rel => exact ⟨h + 1, j, rfl, rfl, hp, hX.out.2.2.2.1, hX.out.2.2.2.2.1, H3⟩
        case measure => have := hX.out; simp [intOf]; omega
      | false =>
        have hn : ¬ (cmp_hold x k < 0) := by
          unfold cmp_hold
          rw [hlt, if_neg (by simp)]
          split <;> omega
        have hp : pos l k ≤ h := by
          rcases Nat.lt_or_ge h (pos l k) with h1 | h1
          · have := pos_lt hX.out.1 h1
            exact absurd hlt (by rw [show KLt.lt x.k k = true from this]; simp)
          · exact h1
        clear hlt
        go_wp2_with fail
        refine hcmp.mono ?_
        rintro e w2 ⟨rfl, H3⟩
        clear hcmp
        go_wp2_with fail
        go_roundw
        case rel => exact ⟨i, h, rfl, rfl, hX.out.2.2.1, hp, by have := hX.out; omega, H3⟩
        case measure => have := hX.out; simp [intOf]; omega
    · have n1 : ¬ ((i : Int) < j) := by omega
      obtain rfl : i = pos l k := by omega
      by_cases hin : pos l k < l.length
      · have n2 : ¬ (((pos l k : Nat) : Int) < 0) := by omega
        have n3 : ((pos l k : Nat) : Int) < l.length := by omega
        have n4 : ¬ l.length ≤ pos l k := by omega
        obtain ⟨x, hx⟩ : ∃ x, l[pos l k]? = some x := ⟨l[pos l k]'(by omega), List.getElem?_eq_getElem _⟩
        obtain ⟨g, cap2, hv, H2⟩ := H.slc_at (by omega)
        injection hv with hv _ hv2
        subst hv hv2
        have c0 := H2.slcC_rd (flat_at hx (j := 0) rfl)
        have c1 := H2.slcC_rd (flat_at hx (j := 1) rfl)
        simp only [Enc.size, Nat.add_zero] at c0 c1
        have hcmp := cmpf_hold H x k
        have hf : KLt.lt x.k k = false := pos_ge hO.out.2.1 hx (Nat.le_refl _)
        have he : (rowAt l k).isSome = (cmp_hold x k == 0) := by
          unfold rowAt cmp_hold
          rw [hx, hf, if_neg (by simp)]
          show (if KLt.lt k x.k = true then none else some x).isSome = _
          cases KLt.lt k x.k <;> rfl
        replace he := Lib.hid he
        clear H2 H hx hf hi hj hjn hij hin
        go_wp2_with fail
        refine hcmp.mono ?_
        rintro e w2 ⟨rfl, H3⟩
        clear hcmp
        go_wp2_with fail
        go_ret2
        exact ⟨by rw [he.out]; rfl, H3⟩
      · have n3 : ¬ (((pos l k : Nat) : Int) < l.length) := by omega
        have he : (rowAt l k).isSome = false := by
          unfold rowAt
          rw [List.getElem?_eq_none (by omega)]
          rfl
        replace he := Lib.hid he
        clear hi hj hjn hij hin
        go_wp2_with fail
        go_ret2
        exact ⟨by rw [he.out]; rfl, H⟩
end
end Go.Proofs.YtogcikilphakmaaGreatDoor
