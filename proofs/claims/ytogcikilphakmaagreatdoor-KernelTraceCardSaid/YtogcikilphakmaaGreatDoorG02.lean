/-
  Merged texts of one proof: Slc, Auto, Enc.
-/
import Derived.Test.YtogcikilphakmaaGreatDoorG01

/-
  Slices over the small separation logic: a slice value that has a block of its own; reading, storing, making, appending. No program in sight.
-/
namespace Go.Proofs.YtogcikilphakmaaGreatDoor
open Go.RowKit Spl

/-- Block g holds, at its head, the cells xs of n elements (of type e, `size` cells each), and room for cap elements in all. -/
def SlcC (e : TypeId) (size g n cap : Nat) (xs : List Value) : Pr := fun h =>
  xs.length = n * size ∧ n ≤ cap ∧ cap ≤ maxLen ∧ ∃ sp : List Value, cap * size ≤ (xs ++ sp).length ∧ cel g e (xs ++ sp).toArray h
/-- The slice value v of n elements has the cells xs, at the head of a block of its own; or it is nil and empty. -/
def Slc (e : TypeId) (size : Nat) (v : Value) (n : Nat) (xs : List Value) : Pr := fun h =>
  (v = .slice none 0 0 ∧ n = 0 ∧ xs = []) ∨ ∃ g cap, v = .slice (some ⟨g, 0, none⟩) n cap ∧ SlcC e size g n cap xs h

theorem lt_of_get? {α : Type} {l : List α} {j : Nat} {u : α} (h : l[j]? = some u) : j < l.length := (List.getElem?_eq_some_iff.1 h).1

section
variable {w0 w w' : World} {R : List Pr} {e : TypeId} {size g n cap : Nat} {v : Value} {xs : List Value}

theorem Hd.slcC (H : Hd w0 (SlcC e size g n cap xs :: R) w) : xs.length = n * size ∧ n ≤ cap ∧ cap ≤ maxLen ∧ ∃ sp : List Value, cap * size ≤ (xs ++ sp).length ∧ Hd w0 (cel g e (xs ++ sp).toArray :: R) w := by
  obtain ⟨hc, a, b, d, he, ⟨hl, h1, h2, sp, h3, h4⟩, hr⟩ := H
  exact ⟨hl, h1, h2, sp, h3, hc, a, b, d, he, h4, hr⟩
theorem Hd.slcC_mk {sp : List Value} (H : Hd w0 (cel g e (xs ++ sp).toArray :: R) w) (hl : xs.length = n * size) (h1 : n ≤ cap) (h2 : cap ≤ maxLen) (h3 : cap * size ≤ (xs ++ sp).length) :
    Hd w0 (SlcC e size g n cap xs :: R) w := H.mono fun _ h => ⟨hl, h1, h2, sp, h3, h⟩
theorem Hd.slcC_rd (H : Hd w0 (SlcC e size g n cap xs :: R) w) {j : Nat} {u : Value} (hj : xs[j]? = some u) : w.cell? ⟨g, j, none⟩ = some u := by
  obtain ⟨hl, h1, h2, sp, h3, hH⟩ := H.slcC
  rw [hH.rd]
  simp only [List.getElem?_toArray]
  rw [List.getElem?_append_left (lt_of_get? hj)]
  exact hj
theorem Hd.slcC_fr (H : Hd w0 (SlcC e size g n cap xs :: R) w) (j : Nat) : w.frozen? ⟨g, j, none⟩ = false := by
  obtain ⟨hl, h1, h2, sp, h3, hH⟩ := H.slcC
  exact hH.fr j
theorem Hd.slcC_lt (H : Hd w0 (SlcC e size g n cap xs :: R) w) : g < w.heap.size := by
  obtain ⟨hl, h1, h2, sp, h3, hH⟩ := H.slcC
  exact hH.lt
/-- A slice cut to another length within what it holds, and to another capacity. -/
theorem Hd.slcC_cut (H : Hd w0 (SlcC e size g n cap xs :: R) w) {k c : Nat} (hk : k ≤ n) (hkc : k ≤ c) (hc : c ≤ cap) : Hd w0 (SlcC e size g k c (xs.take (k * size)) :: R) w := by
  obtain ⟨hl, h1, h2, sp, h3, hH⟩ := H.slcC
  have hks : k * size ≤ n * size := Nat.mul_le_mul_right _ hk
  have hcs : c * size ≤ cap * size := Nat.mul_le_mul_right _ hc
  have e1 : xs ++ sp = xs.take (k * size) ++ (xs.drop (k * size) ++ sp) := by rw [← List.append_assoc, List.take_append_drop]
  rw [e1] at hH h3
  exact hH.slcC_mk (by rw [List.length_take]; omega) hkc (by omega) (by omega)
/-- An element's cell is written. -/
theorem Hd.slcC_set (H : Hd w0 (SlcC e size g n cap xs :: R) w) {j : Nat} (hj : j < xs.length) (u : Value) : Hd w0 (SlcC e size g n cap (xs.set j u) :: R) (w.setCell ⟨g, j, none⟩ u) := by
  obtain ⟨hl, h1, h2, sp, h3, hH⟩ := H.slcC
  have hs := hH.set j u
  have e1 : (xs ++ sp).toArray.setIfInBounds j u = (xs.set j u ++ sp).toArray := by
    apply Array.ext'
    simp [hj]
  rw [e1] at hs
  exact hs.slcC_mk (by simpa using hl) h1 h2 (by simpa using h3)

theorem Hd.slc (H : Hd w0 (Slc e size v n xs :: R) w) :
    (v = .slice none 0 0 ∧ n = 0 ∧ xs = [] ∧ Hd w0 R w) ∨ ∃ g cap, v = .slice (some ⟨g, 0, none⟩) n cap ∧ Hd w0 (SlcC e size g n cap xs :: R) w := by
  obtain ⟨hc, a, b, d, he, hs, hr⟩ := H
  rcases hs with ⟨hv, hn, hx⟩ | ⟨g, cap, hv, h⟩
  · refine .inl ⟨hv, hn, hx, hc, ?_⟩
    rw [he]
    exact sat_mono ⟨a, disj_symm d, join_comm d⟩ hr
  · exact .inr ⟨g, cap, hv, hc, a, b, d, he, h, hr⟩
theorem Hd.slc_len (H : Hd w0 (Slc e size v n xs :: R) w) : xs.length = n * size := by
  rcases H.slc with ⟨_, rfl, rfl, _⟩ | ⟨g, cap, _, h⟩
  · simp
  · exact h.slcC.1
theorem Hd.slc_nil (H : Hd w0 R w) (e : TypeId) (size : Nat) : Hd w0 (Slc e size (.slice none 0 0) 0 [] :: R) w :=
  ⟨H.1, fun _ => none, fun i => w.heap[i]?, fun _ => .inl rfl, by funext i; rfl, .inl ⟨rfl, rfl, rfl⟩, H.2⟩
theorem Hd.slc_mk (H : Hd w0 (SlcC e size g n cap xs :: R) w) : Hd w0 (Slc e size (.slice (some ⟨g, 0, none⟩) n cap) n xs :: R) w :=
  H.mono fun _ h => .inr ⟨g, cap, rfl, h⟩
/-- What a slice value looks like, and its cells, nil or not. -/
theorem Hd.slc_form (H : Hd w0 (Slc e size v n xs :: R) w) : ∃ a cap, v = .slice a n cap ∧ n ≤ cap ∧ cap ≤ maxLen ∧ xs.length = n * size ∧
    (0 < n → ∃ g, a = some ⟨g, 0, none⟩ ∧ ∀ (j : Nat) (u : Value), xs[j]? = some u → w.cell? ⟨g, j, none⟩ = some u) := by
  rcases H.slc with ⟨rfl, rfl, rfl, _⟩ | ⟨g, cap, rfl, h⟩
  · exact ⟨none, 0, rfl, Nat.le_refl _, Nat.zero_le _, by simp, fun h => absurd h (Nat.lt_irrefl _)⟩
  · obtain ⟨hl, h1, h2, _⟩ := h.slcC
    exact ⟨_, cap, rfl, h1, h2, hl, fun _ => ⟨g, rfl, fun j u hj => h.slcC_rd hj⟩⟩
/-- An element, where there is one: its slice is not nil. -/
theorem Hd.slc_at (H : Hd w0 (Slc e size v n xs :: R) w) (hn : 0 < n) : ∃ g cap, v = .slice (some ⟨g, 0, none⟩) n cap ∧ Hd w0 (SlcC e size g n cap xs :: R) w := by
  rcases H.slc with ⟨_, rfl, _, _⟩ | h
  · exact absurd hn (Nat.lt_irrefl _)
  · exact h
end

/-! ### make, append -/
section
variable {P : Program} {w0 w : World} {R : List Pr}

/-- A new row: n elements in it, room for c. -/
theorem Hd.made (H : Hd w0 R w) (e : TypeId) (z : Array Value) (size l c : Nat) (hlc : l ≤ c) (hc : c ≤ maxLen) (_hz : z.size = size) :
    Hd w0 (SlcC e size w.heap.size l c (madeCells z (l * size)).toList :: R) (w.alloc (.cells (madeCells z (c * size)) e)) := by
  have hA := H.alloc (.cells (madeCells z (c * size)) e)
  have hle : l * size ≤ c * size := Nat.mul_le_mul_right _ hlc
  have e1 : madeCells z (c * size) = ((madeCells z (l * size)).toList ++ (madeCells z (c * size)).toList.drop (l * size)).toArray := by
    apply Array.ext'
    have e2 : (madeCells z (l * size)).toList = (madeCells z (c * size)).toList.take (l * size) := by
      simp [madeCells, ← List.map_take, List.take_range, Nat.min_eq_left hle]
    rw [e2]
    simp
  rw [e1] at hA ⊢
  exact hA.slcC_mk (size := size) (by simp [size_madeCells]) hlc hc (by
    rw [List.length_append, List.length_drop, Array.length_toList, Array.length_toList, size_madeCells, size_madeCells]
    omega)

theorem madeCells_zero (z : Array Value) (size : Nat) : (madeCells z (0 * size)).toList = [] := by simp [madeCells]
/-- The cells of a slice that is read, nil or not, for an append that takes them. -/
theorem Hd.slc_news {e : TypeId} {size n cap : Nat} {a : Option Addr} {xs : List Value} (H : Hd w0 (Slc e size (.slice a n cap) n xs :: R) w) :
    (a = none → n = 0) ∧ ∀ ad, a = some ad → ∀ j u, xs[j]? = some u → w.cell? (ad.add j) = some u := by
  rcases H.slc with ⟨h, rfl, rfl, _⟩ | ⟨g, c, h, h2⟩
  · exact ⟨fun _ => rfl, fun _ _ _ _ hj => by simp at hj⟩
  · injection h with h3
    subst h3
    refine ⟨(fun h => nomatch h), fun ad had j u hj => ?_⟩
    obtain rfl := Option.some.inj had
    have hadd : (⟨g, 0, none⟩ : Addr).add j = ⟨g, j, none⟩ := by unfold Addr.add; split <;> simp_all
    rw [hadd]
    exact h2.slcC_rd hj

theorem wpList_make_slc {ops : Array Oper} {rest : List Oper} {o : Oper} {a : Act} {Q : Exit → Act → World → Prop}
    (hg : o.guard = none) (l c : Operand) (t : TypeId) (hop : o.op = Op.makeSlice t l c)
    (e : TypeId) (i : TypeInfo) (z : Value) (size : Nat) (h1 : P.underlying t = some (.slice e)) (h2 : P.info? e = some i) (h3 : i.zero = some z) (h4 : i.size = size) (h5 : z.cells.size = size)
    (kl kc : IntKind) (L C : Int) (m n : Nat) (hl : a.eval l = .int kl L) (hc : a.eval c = .int kc C) (hL : L = (m : Int)) (hC : C = (n : Int)) (hmn : m ≤ n) (b2 : i.bytes * n ≤ 281474976710656) (b3 : n ≤ maxLen)
    (H : Hd w0 R w)
    (hK : ∀ w', Hd w0 (SlcC e size w.heap.size m n (madeCells z.cells (m * size)).toList :: R) w' → wpList P ops Q rest (a.put o.dst (.slice (some ⟨w.heap.size, 0, none⟩) m n)) w') :
    wpList P ops Q (o :: rest) a w := by
  refine wpList_plain hg fun K hK' => ?_
  subst hL hC h4
  have h63' : (n : Int) ≤ 9223372036854775807 := by
    have h := b3
    simp [maxLen] at h
    omega
  have hb' : (i.bytes : Int) * (n : Int) ≤ 281474976710656 := by
    have h : ((i.bytes * n : Nat) : Int) ≤ 281474976710656 := by omega
    rwa [Int.natCast_mul] at h
  have hrun := run_make (P := P) w t e i z h1 h2 h3 kl kc m n (by omega) (by omega) hb' h63'
  simp only [Int.toNat_natCast] at hrun
  unfold Oper.wp
  simp [execOp, hop, hl, hc, hrun, Result.andThen]
  exact hK' _ _ (hK _ (H.made e z.cells i.size m n hmn b3 h5))

/-- The cell of a new block of one. -/
theorem one_new {w : World} {x : Value} {e : TypeId} {n : Nat} (hn : n = w.heap.size) : ∀ j u, [x][j]? = some u → (w.alloc (.cells #[x] e)).cell? ((⟨n, 0, none⟩ : Addr).add j) = some u := by
  subst hn
  exact cell_one_new _ _ _

theorem run_append_fits_slc (t ty e : TypeId) (i : TypeInfo) (size : Nat) (ht : P.underlying t = some (.slice e)) (hi : P.info? e = some i)
    (hsize : i.size = size) (g n cap : Nat) (xs : List Value) (H : Hd w0 (SlcC e size g n cap xs :: R) w)
    (a : Addr) (m c : Nat) (news : List Value) (hl : news.length = m * size) (hnews : ∀ j u, news[j]? = some u → w.cell? (a.add j) = some u) (h1 : ∀ u ∈ news, u.oneCell' = true)
    (hroom : n + m ≤ cap) :
    ∃ w', (Builtin.append_ #[t, t] ty #[.slice (some ⟨g, 0, none⟩) n cap, .slice (some a) m c]).run P w = .ok (.slice (some ⟨g, 0, none⟩) (n + m) cap) w' ∧ Hd w0 (SlcC e size g (n + m) cap (xs ++ news) :: R) w' := by
  subst hsize
  obtain ⟨hxl, hnc, hcm, sp, hcs, hH⟩ := H.slcC
  have hg := hH.heap
  have hlen : (xs ++ news).length = (n + m) * i.size := by rw [List.length_append, hxl, hl, Nat.add_mul]
  have hfit : n * i.size + news.length ≤ (xs ++ sp).toArray.size := by rw [hl, List.size_toArray, ← Nat.add_mul]; exact Nat.le_trans (Nat.mul_le_mul_right _ hroom) hcs
  have hr := run_append_room (P := P) w t ty e i ht hi g n cap (xs ++ sp).toArray hg a m c news hl hnews h1 hroom hfit
  have e1 : ((xs ++ sp).toArray.toList.take (n * i.size) ++ news ++ (xs ++ sp).toArray.toList.drop (n * i.size + news.length)).toArray = ((xs ++ news) ++ sp.drop news.length).toArray := by
    rw [← hxl]
    simp [List.take_left', List.drop_append]
  rw [e1] at hr
  refine ⟨_, hr, ?_⟩
  have hset : Hd w0 (cel g e ((xs ++ news) ++ sp.drop news.length).toArray :: R) (w.setRow g ((xs ++ news) ++ sp.drop news.length).toArray) :=
    hH.upd (fun k => by
      by_cases hk : k = g
      · subst hk; rw [if_pos rfl]; exact setRow_heap w k _ _ e _ hg
      · rw [if_neg hk]; exact setRow_other w g k _ hk) ⟨rfl, rfl, rfl, by simp [World.setRow]⟩
  refine hset.slcC_mk hlen hroom hcm ?_
  have h2 : (n + m) * i.size ≤ cap * i.size := Nat.mul_le_mul_right _ hroom
  rw [List.length_append] at hcs hlen
  rw [List.length_append, List.length_append, List.length_drop]
  omega

/-- .. what is appended may be nil. -/
theorem run_append_fits_any_slc (t ty e : TypeId) (i : TypeInfo) (size : Nat) (ht : P.underlying t = some (.slice e)) (hi : P.info? e = some i)
    (hsize : i.size = size) (g n cap : Nat) (xs : List Value) (H : Hd w0 (SlcC e size g n cap xs :: R) w)
    (ao : Option Addr) (m c : Nat) (news : List Value) (hl : news.length = m * size) (hnone : ao = none → m = 0) (hnews : ∀ ad, ao = some ad → ∀ j u, news[j]? = some u → w.cell? (ad.add j) = some u)
    (h1 : ∀ u ∈ news, u.oneCell' = true) (hroom : n + m ≤ cap) :
    ∃ w', (Builtin.append_ #[t, t] ty #[.slice (some ⟨g, 0, none⟩) n cap, .slice ao m c]).run P w = .ok (.slice (some ⟨g, 0, none⟩) (n + m) cap) w' ∧ Hd w0 (SlcC e size g (n + m) cap (xs ++ news) :: R) w' := by
  cases ao with
  | some a => exact run_append_fits_slc t ty e i size ht hi hsize g n cap xs H a m c news hl (hnews a rfl) h1 hroom
  | none =>
    obtain rfl := hnone rfl
    have hn : news = [] := List.eq_nil_of_length_eq_zero (by simpa using hl)
    subst hn
    obtain ⟨_, hnc, _, _⟩ := H.slcC
    refine ⟨w, ?_, by simpa using H⟩
    simp [Builtin.append_, run_underlying ht, sizeOf, typeInfo, hi, Builtin.lenOf, Builtin.firstCells, hnc, storeCells]

theorem run_append_slc (t ty e : TypeId) (i : TypeInfo) (z : Value) (size bytes : Nat) (ht : P.underlying t = some (.slice e)) (hi : P.info? e = some i) (hz : i.zero = some z)
    (hsize : i.size = size) (hby : i.bytes = bytes) (hzs : z.cells.size = size)
    (v : Value) (n : Nat) (xs : List Value) (H : Hd w0 (Slc e size v n xs :: R) w)
    (a : Addr) (m c : Nat) (news : List Value) (hl : news.length = m * size) (hnews : ∀ j u, news[j]? = some u → w.cell? (a.add j) = some u) (h1 : ∀ u ∈ news, u.oneCell' = true)
    (h63 : n + m ≤ maxLen) (hbytes : (n + m) * bytes ≤ 140737488355328) :
    ∃ v' w', (Builtin.append_ #[t, t] ty #[v, .slice (some a) m c]).run P w = .ok v' w' ∧ Hd w0 (Slc e size v' (n + m) (xs ++ news) :: R) w' := by
  subst hsize
  subst hby
  have hsmall : n + m ≤ 9223372036854775807 := by simp only [maxLen] at h63; omega
  have hxl := H.slc_len
  have hlen : (xs ++ news).length = (n + m) * i.size := by rw [List.length_append, hxl, hl, Nat.add_mul]
  have grown : ∀ (old : Nat), old < n + m → Hd w0 R w →
      Hd w0 (Slc e i.size (.slice (some ⟨w.heap.size, 0, none⟩) (n + m) (grownCap w (n + m) old e)) (n + m) (xs ++ news) :: R)
        (w.drew.alloc (.cells (xs.toArray ++ news.toArray ++ Builtin.zeroCells z.cells (grownCap w (n + m) old e - (n + m))) e)) := by
    intro old ho hR
    have hge := grownCap_ge w (n + m) old e
    have hcm : grownCap w (n + m) old e ≤ maxLen := grownCap_le_maxLen w (n + m) old e h63
    have hA := hR.drew.alloc (.cells (xs.toArray ++ news.toArray ++ Builtin.zeroCells z.cells (grownCap w (n + m) old e - (n + m))) e)
    have harr : xs.toArray ++ news.toArray ++ Builtin.zeroCells z.cells (grownCap w (n + m) old e - (n + m)) = ((xs ++ news) ++ (Builtin.zeroCells z.cells (grownCap w (n + m) old e - (n + m))).toList).toArray := by
      apply Array.ext'
      simp
    rw [harr] at hA ⊢
    refine (hA.slcC_mk hlen hge hcm (Nat.le_of_eq (Eq.symm ?_))).slc_mk
    rw [List.length_append, hlen, Array.length_toList, size_zeroCells, hzs, ← Nat.add_mul]
    congr 1
    omega
  rcases H.slc with ⟨rfl, rfl, rfl, hR⟩ | ⟨g, cap, rfl, hC⟩
  · by_cases hm : m = 0
    · subst hm
      have hn : news = [] := List.eq_nil_of_length_eq_zero (by simpa using hl)
      subst hn
      refine ⟨.slice none 0 0, w, ?_, hR.slc_nil e i.size⟩
      simp [Builtin.append_, run_underlying ht, sizeOf, typeInfo, hi, Builtin.lenOf, Builtin.firstCells, loadCells, loadCellsFrom]
    · have hr := run_append_nil (P := P) w t ty e i z ht hi hz a m c news hl hnews (by omega) (by omega) (by have hb := hbytes; simp only [Nat.zero_add] at hb; omega)
      have hgr := grown 0 (by omega) hR
      simp only [Nat.zero_add, List.nil_append, Array.empty_append] at hgr ⊢
      exact ⟨_, _, hr, hgr⟩
  · by_cases hroom : n + m ≤ cap
    · obtain ⟨w', hr, h2⟩ := run_append_fits_slc (P := P) t ty e i i.size ht hi rfl g n cap xs hC a m c news hl hnews h1 hroom
      exact ⟨_, w', hr, h2.slc_mk⟩
    · have holds : ∀ j u, xs[j]? = some u → w.cell? ((⟨g, 0, none⟩ : Addr).add j) = some u := by
        intro j u hj
        have hadd : (⟨g, 0, none⟩ : Addr).add j = ⟨g, j, none⟩ := by unfold Addr.add; split <;> simp_all
        rw [hadd]
        exact hC.slcC_rd hj
      have hr := run_append_grow (P := P) w t ty e i z ht hi hz ⟨g, 0, none⟩ n cap xs hxl holds a m c news hl hnews (by omega) (by omega) (growslice_fits (by omega) hbytes)
      exact ⟨_, _, hr, grown cap (by omega) hC.tail⟩

theorem wpList_append_fits_slc {ops : Array Oper} {rest : List Oper} {o : Oper} {a : Act} {Q : Exit → Act → World → Prop} (hgd : o.guard = none) (s x : Operand) (t : TypeId)
    (ho : o.op = .call { callee := .builtin .append, args := #[s, x], argTypes := #[t, t] })
    (e : TypeId) (i : TypeInfo) (size : Nat) (ht : P.underlying t = some (.slice e)) (hi : P.info? e = some i) (hsize : i.size = size)
    (g n cap : Nat) (xs : List Value) (hs : a.eval s = .slice (some ⟨g, 0, none⟩) n cap) (H : Hd w0 (SlcC e size g n cap xs :: R) w)
    (ad : Addr) (m c : Nat) (news : List Value) (hx : a.eval x = .slice (some ad) m c) (hl : news.length = m * size) (hnews : ∀ j u, news[j]? = some u → w.cell? (ad.add j) = some u) (h1 : ∀ u ∈ news, u.oneCell' = true)
    (hroom : n + m ≤ cap)
    (h : ∀ w', Hd w0 (SlcC e size g (n + m) cap (xs ++ news) :: R) w' → wpList P ops Q rest (a.put o.dst (.slice (some ⟨g, 0, none⟩) (n + m) cap)) w') : wpList P ops Q (o :: rest) a w :=
  wpList_plain hgd fun K hK => by
    obtain ⟨w', hr, h2⟩ := run_append_fits_slc (P := P) t o.type e i size ht hi hsize g n cap xs H ad m c news hl hnews h1 hroom
    unfold Oper.wp execOp
    simp only [ho, resolve, invoke, builtin, Sem.run_bind, Sem.run_pure, Result.andThen_ok, List.map_toArray, List.map_cons, List.map_nil, hs, hx, hr]
    exact hK _ _ (h w' h2)

theorem wpList_append_fits_any_slc {ops : Array Oper} {rest : List Oper} {o : Oper} {a : Act} {Q : Exit → Act → World → Prop} (hgd : o.guard = none) (s x : Operand) (t : TypeId)
    (ho : o.op = .call { callee := .builtin .append, args := #[s, x], argTypes := #[t, t] })
    (e : TypeId) (i : TypeInfo) (size : Nat) (ht : P.underlying t = some (.slice e)) (hi : P.info? e = some i) (hsize : i.size = size)
    (g n cap : Nat) (xs : List Value) (hs : a.eval s = .slice (some ⟨g, 0, none⟩) n cap) (H : Hd w0 (SlcC e size g n cap xs :: R) w)
    (ao : Option Addr) (m c : Nat) (news : List Value) (hx : a.eval x = .slice ao m c) (hl : news.length = m * size) (hnone : ao = none → m = 0) (hnews : ∀ ad, ao = some ad → ∀ j u, news[j]? = some u → w.cell? (ad.add j) = some u)
    (h1 : ∀ u ∈ news, u.oneCell' = true) (hroom : n + m ≤ cap)
    (h : ∀ w', Hd w0 (SlcC e size g (n + m) cap (xs ++ news) :: R) w' → wpList P ops Q rest (a.put o.dst (.slice (some ⟨g, 0, none⟩) (n + m) cap)) w') : wpList P ops Q (o :: rest) a w :=
  wpList_plain hgd fun K hK => by
    obtain ⟨w', hr, h2⟩ := run_append_fits_any_slc (P := P) t o.type e i size ht hi hsize g n cap xs H ao m c news hl hnone hnews h1 hroom
    unfold Oper.wp execOp
    simp only [ho, resolve, invoke, builtin, Sem.run_bind, Sem.run_pure, Result.andThen_ok, List.map_toArray, List.map_cons, List.map_nil, hs, hx, hr]
    exact hK _ _ (h w' h2)

theorem wpList_append_slc {ops : Array Oper} {rest : List Oper} {o : Oper} {a : Act} {Q : Exit → Act → World → Prop} (hgd : o.guard = none) (s x : Operand) (t : TypeId)
    (ho : o.op = .call { callee := .builtin .append, args := #[s, x], argTypes := #[t, t] })
    (e : TypeId) (i : TypeInfo) (z : Value) (size bytes : Nat) (ht : P.underlying t = some (.slice e)) (hi : P.info? e = some i) (hz : i.zero = some z)
    (hsize : i.size = size) (hby : i.bytes = bytes) (hzs : z.cells.size = size)
    (v : Value) (n : Nat) (xs : List Value) (hs : a.eval s = v) (H : Hd w0 (Slc e size v n xs :: R) w)
    (ad : Addr) (m c : Nat) (news : List Value) (hx : a.eval x = .slice (some ad) m c) (hl : news.length = m * size) (hnews : ∀ j u, news[j]? = some u → w.cell? (ad.add j) = some u) (h1 : ∀ u ∈ news, u.oneCell' = true)
    (h63 : n + m ≤ maxLen) (hbytes : (n + m) * bytes ≤ 140737488355328)
    (h : ∀ v' w', Hd w0 (Slc e size v' (n + m) (xs ++ news) :: R) w' → wpList P ops Q rest (a.put o.dst v') w') : wpList P ops Q (o :: rest) a w :=
  wpList_plain hgd fun K hK => by
    obtain ⟨v', w', hr, h2⟩ := run_append_slc (P := P) t o.type e i z size bytes ht hi hz hsize hby hzs v n xs H ad m c news hl hnews h1 h63 hbytes
    unfold Oper.wp execOp
    simp only [ho, resolve, invoke, builtin, Sem.run_bind, Sem.run_pure, Result.andThen_ok, List.map_toArray, List.map_cons, List.map_nil, hs, hx, hr]
    exact hK _ _ (h v' w' h2)
end
end Go.Proofs.YtogcikilphakmaaGreatDoor

/-
  The small separation logic, picked by key: an assertion found by its block or slice, a list of assertions brought into another order, the assertions followed through a world that the walk has spelled. No program in sight.
-/
namespace Go.Proofs.YtogcikilphakmaaGreatDoor
open Go.RowKit Spl

/-- What an assertion is asked by: a block, or a slice's value. -/
inductive Ky where
  | b (n : Nat)
  | v (x : Value)
class Key (P : Pr) (k : Ky) : Prop where
  tt : True
class Pick (k : Ky) (L : List Pr) (P : outParam Pr) (R : outParam (List Pr)) : Prop where
  perm : L.Perm (P :: R)
instance (priority := high) Pick.head {k : Ky} {P : Pr} {R : List Pr} [Key P k] : Pick k (P :: R) P R := ⟨List.Perm.refl _⟩
instance Pick.tail {k : Ky} {L : List Pr} {P Q : Pr} {R : List Pr} [h : Pick k L P R] : Pick k (Q :: L) P (Q :: R) := ⟨(h.perm.cons Q).trans (List.Perm.swap P Q R)⟩
instance Key.pt {b : Nat} {o : Obj} : Key (pt b o) (.b b) := ⟨trivial⟩
instance Key.slc {e : TypeId} {s n : Nat} {v : Value} {xs : List Value} : Key (Slc e s v n xs) (.v v) := ⟨trivial⟩
instance Key.slcC {e : TypeId} {s g n cap : Nat} {xs : List Value} : Key (SlcC e s g n cap xs) (.b g) := ⟨trivial⟩

class Take (P : Pr) (L : List Pr) (R : outParam (List Pr)) : Prop where
  perm : L.Perm (P :: R)
instance (priority := high) Take.head {P : Pr} {R : List Pr} : Take P (P :: R) R := ⟨List.Perm.refl _⟩
instance Take.tail {P Q : Pr} {L R : List Pr} [h : Take P L R] : Take P (Q :: L) (Q :: R) := ⟨(h.perm.cons Q).trans (List.Perm.swap P Q R)⟩
class Sub (M L : List Pr) : Prop where
  imp : ∀ {h : Hp}, sat L h → sat M h
instance (priority := high) Sub.same {L : List Pr} : Sub L L := ⟨fun h => h⟩
instance Sub.cons {P : Pr} {M L R : List Pr} [h : Take P L R] [s : Sub M R] : Sub (P :: M) L := ⟨fun hs => sat_cons_mono (fun _ h => h) (fun _ h => s.imp h) (sat_perm h.perm hs)⟩
instance (priority := low) Sub.drop {M L : List Pr} {X : Pr} [s : Sub M L] : Sub M (X :: L) := ⟨fun hs => s.imp (sat_tail hs)⟩
instance (priority := low) Sub.nil {L : List Pr} : Sub [] L := ⟨fun _ => trivial⟩

section
variable {w0 w w' : World} {L M R : List Pr} {P : Pr}
theorem Hd.pick {k : Ky} [h : Pick k L P R] (H : Hd w0 L w) : Hd w0 (P :: R) w := H.perm h.perm
theorem Hd.k (b : Nat) [h : Pick (.b b) L P R] (H : Hd w0 L w) : Hd w0 (P :: R) w := H.perm h.perm
theorem Hd.v (x : Value) [h : Pick (.v x) L P R] (H : Hd w0 L w) : Hd w0 (P :: R) w := H.perm h.perm
theorem Hd.re [s : Sub M L] (H : Hd w0 L w) : Hd w0 M w := ⟨H.1, s.imp H.2⟩
end

/-- A literal row with one of its values changed. -/
class SetL (l : List Value) (i : Nat) (v : Value) (l' : outParam (List Value)) : Prop where
  eq : l.set i v = l'
instance SetL.zero {a v : Value} {l : List Value} : SetL (a :: l) 0 v (v :: l) := ⟨rfl⟩
instance SetL.succ {a v : Value} {l l' : List Value} {i : Nat} [h : SetL l i v l'] : SetL (a :: l) (i + 1) v (a :: l') := ⟨by rw [List.set_cons_succ, h.eq]⟩
class SetA (c : Array Value) (i : Nat) (v : Value) (c' : outParam (Array Value)) : Prop where
  eq : c.setIfInBounds i v = c'
instance (priority := high) SetA.lit {l l' : List Value} {i : Nat} {v : Value} [h : SetL l i v l'] : SetA l.toArray i v l'.toArray := ⟨by rw [← h.eq]; simp⟩
instance (priority := low) SetA.any {c : Array Value} {i : Nat} {v : Value} : SetA c i v (c.setIfInBounds i v) := ⟨rfl⟩

/-- The size of a heap, in the walk's spelling. -/
class HSize (w : World) (n : outParam Nat) : Prop where
  eq : w.heap.size = n
instance (priority := low) HSize.any {w : World} : HSize w w.heap.size := ⟨rfl⟩
instance HSize.alloc {w : World} {o : Obj} {n : Nat} [h : HSize w n] : HSize (w.alloc o) (n + 1) := ⟨by rw [← h.eq]; unfold World.alloc; exact Array.size_push ..⟩
instance HSize.drew {w : World} {n : Nat} [h : HSize w n] : HSize w.drew n := ⟨h.eq⟩
instance HSize.drewN {w : World} {n k : Nat} [h : HSize w n] : HSize (w.drewN k) n := ⟨h.eq⟩
instance HSize.setCell {w : World} {n : Nat} {a : Addr} {v : Value} [h : HSize w n] : HSize (w.setCell a v) n := ⟨by rw [← h.eq]; simp [World.setCell]⟩

/-- The assertions followed from one world to a later one. -/
class Foll (w : World) (L : List Pr) (w' : World) (L' : outParam (List Pr)) : Prop where
  imp : ∀ {w0 : World}, Hd w0 L w → Hd w0 L' w'
instance (priority := high) Foll.same {w : World} {L : List Pr} : Foll w L w L := ⟨fun H => H⟩
instance Foll.drew {w w' : World} {L L' : List Pr} [h : Foll w L w' L'] : Foll w L w'.drew L' := ⟨fun H => (h.imp H).drew⟩
instance Foll.drewN {w w' : World} {L L' : List Pr} {n : Nat} [h : Foll w L w' L'] : Foll w L (w'.drewN n) L' := ⟨fun H => (h.imp H).drewN n⟩
instance Foll.alloc {w w' : World} {L L' : List Pr} {o : Obj} {n : Nat} [h : Foll w L w' L'] [s : HSize w' n] : Foll w L (w'.alloc o) (pt n o :: L') := ⟨fun H => s.eq ▸ (h.imp H).alloc o⟩
instance Foll.setCell {w w' : World} {L L' R : List Pr} {b i : Nat} {T : TypeId} {c c' : Array Value} {v : Value} [h : Foll w L w' L'] [p : Pick (.b b) L' (pt b (.cells c T (0, 0))) R] [s : SetA c i v c'] :
    Foll w L (w'.setCell ⟨b, i, none⟩ v) (pt b (.cells c' T (0, 0)) :: R) := ⟨fun H => s.eq ▸ ((h.imp H).perm p.perm).set i v⟩
theorem Hd.fol {w0 w w' : World} {L L' : List Pr} [h : Foll w L w' L'] (H : Hd w0 L w) : Hd w0 L' w' := h.imp H
theorem Hd.fin {w0 w w' : World} {L L' M : List Pr} [h : Foll w L w' L'] [s : Sub M L'] (H : Hd w0 L w) : Hd w0 M w' := (h.imp H).re

section
variable {w0 w : World} {R : List Pr} (b c g n cap : Nat) (T U e : TypeId) (v : Value) (xs : List Value)
example (H : Hd w0 (cel b T #[.int .i64 3, v] :: Slc e 1 v n xs :: R) w) : Hd w0 (Slc e 1 v n xs :: cel b T #[.int .i64 3, v] :: R) w := H.v v
example (H : Hd w0 (cel b T #[.int .i64 3, v] :: Slc e 1 v n xs :: R) w) : w.cell? ⟨b, 1, none⟩ = some v := (H.k b).rd 1
example (H : Hd w0 (cel b T #[.int .i64 3, v] :: Slc e 1 v n xs :: cel c U #[v] :: R) w) : Hd w0 (cel c U #[v] :: cel b T #[.int .i64 3, v] :: R) w := H.re
example (H : Hd w0 (cel b T #[.int .i64 3, v] :: Slc e 1 v n xs :: cel c U #[v, v] :: R) w) :
  Hd w0 (cel c U #[v, .int .i64 7] :: cel w.heap.size T #[v, v] :: cel b T #[.int .i64 3, v] :: R) (((w.alloc (.cells #[v, v] T)).drew.setCell ⟨c, 1, none⟩ (.int .i64 7))) := H.fin
end
end Go.Proofs.YtogcikilphakmaaGreatDoor

/-
  Rows of encoded things in slices: lists whose elements take some cells each. No program in sight.
-/
namespace Go.Proofs.YtogcikilphakmaaGreatDoor
open Go.RowKit Spl

/-- Things that lie in memory as so many cells. -/
class Enc (α : Type) where
  size : Nat
  cells : α → List Value
  len : ∀ x, (cells x).length = size
  one : ∀ x, ∀ u ∈ cells x, u.oneCell' = true

section
variable {α : Type} [Enc α]
def flat (l : List α) : List Value := l.flatMap Enc.cells
theorem flat_nil : flat ([] : List α) = [] := rfl
theorem flat_cons (x : α) (l : List α) : flat (x :: l) = Enc.cells x ++ flat l := rfl
theorem flat_append (a b : List α) : flat (a ++ b) = flat a ++ flat b := by simp [flat]
theorem flat_one (x : α) : flat [x] = Enc.cells x := by simp [flat]
theorem flat_len (l : List α) : (flat l).length = l.length * Enc.size α := by
  induction l with
  | nil => simp [flat]
  | cons x l ih => rw [flat_cons, List.length_append, Enc.len, ih, List.length_cons, Nat.add_mul, Nat.one_mul, Nat.add_comm]
theorem flat_oneCell (l : List α) : ∀ u ∈ flat l, u.oneCell' = true := by
  intro u hu
  obtain ⟨x, _, hx⟩ := List.mem_flatMap.1 hu
  exact Enc.one x u hx
theorem flat_at {l : List α} : ∀ {k : Nat} {x : α} (_ : l[k]? = some x) {j : Nat} {u : Value} (_ : (Enc.cells x)[j]? = some u), (flat l)[k * Enc.size α + j]? = some u := by
  induction l with
  | nil => intro k x h; simp at h
  | cons y l ih =>
    intro k x h j u hj
    rw [flat_cons]
    cases k with
    | zero =>
      simp at h; subst h
      rw [List.getElem?_append_left (by have := lt_of_get? hj; omega)]
      simpa using hj
    | succ k =>
      rw [List.getElem?_append_right (by rw [Enc.len, Nat.add_mul]; omega), Enc.len]
      have e : (k + 1) * Enc.size α + j - Enc.size α = k * Enc.size α + j := by rw [Nat.add_mul]; omega
      rw [e]
      exact ih (by simpa using h) hj
/-- One cell of one element turned. -/
theorem flat_set {l : List α} : ∀ {k : Nat} {x y : α} (_ : l[k]? = some x) {j : Nat} {v : Value} (_ : j < Enc.size α) (_ : (Enc.cells x).set j v = Enc.cells y), (flat l).set (k * Enc.size α + j) v = flat (l.set k y) := by
  induction l with
  | nil => intro k x y h; simp at h
  | cons z l ih =>
    intro k x y h j v hj hy
    rw [flat_cons]
    cases k with
    | zero =>
      simp at h; subst h
      rw [List.set_cons_zero, flat_cons, List.set_append, if_pos (by rw [Enc.len]; omega), Nat.zero_mul, Nat.zero_add, hy]
    | succ k =>
      rw [List.set_cons_succ, flat_cons, List.set_append, if_neg (by rw [Enc.len, Nat.add_mul]; omega), Enc.len]
      have e : (k + 1) * Enc.size α + j - Enc.size α = k * Enc.size α + j := by rw [Nat.add_mul]; omega
      rw [e, ih (by simpa using h) hj hy]
theorem flat_take (l : List α) (k : Nat) : (flat l).take (k * Enc.size α) = flat (l.take k) := by
  by_cases hk : k ≤ l.length
  · have e : flat l = flat (l.take k) ++ flat (l.drop k) := by rw [← flat_append, List.take_append_drop]
    rw [e, List.take_left']
    rw [flat_len, List.length_take, Nat.min_eq_left hk]
  · rw [List.take_of_length_le, List.take_of_length_le (by omega)]
    rw [flat_len]
    exact Nat.mul_le_mul_right _ (by omega)
theorem flat_drop (l : List α) (k : Nat) : (flat l).drop (k * Enc.size α) = flat (l.drop k) := by
  by_cases hk : k ≤ l.length
  · have e : flat l = flat (l.take k) ++ flat (l.drop k) := by rw [← flat_append, List.take_append_drop]
    rw [e, List.drop_left']
    rw [flat_len, List.length_take, Nat.min_eq_left hk]
  · rw [List.drop_of_length_le, List.drop_of_length_le (by omega)]
    · rfl
    · rw [flat_len]
      exact Nat.mul_le_mul_right _ (by omega)
end

instance encInt : Enc Int where
  size := 1
  cells x := [.int .i64 x]
  len _ := rfl
  one x u hu := by simp at hu; subst hu; rfl
theorem flat_int (l : List Int) : flat l = l.map (Value.int .i64) := by
  induction l with
  | nil => rfl
  | cons x l ih => rw [flat_cons, ih]; rfl

/-- A slice of encoded things. -/
abbrev SlE {α : Type} [Enc α] (e : TypeId) (v : Value) (l : List α) : Pr := Slc e (Enc.size α) v l.length (flat l)
abbrev SlEC {α : Type} [Enc α] (e : TypeId) (g cap : Nat) (l : List α) : Pr := SlcC e (Enc.size α) g l.length cap (flat l)
end Go.Proofs.YtogcikilphakmaaGreatDoor
