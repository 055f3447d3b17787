/-
  Chapter 10's scripts as the walks read them; few; plain facts on what is due.
-/
import Derived.Test.YtdppdmmcnlmdgaaRel6
namespace Go.Proofs.Ytdppdmmcnlmdgaa
open Go.RowKit Spl

/-- A task's fields. -/
structure TaskR where
  nm : ByteArray
  lv : Int
  fr : Int
  na : Option Addr
  nl : Nat
  nc : Nat
  cd : ByteArray
  p : Int
  f : Int
  g : Int
def TaskR.cells (t : TaskR) : List Value := [.string t.nm, .int .i64 t.lv, .int .i64 t.fr, .slice t.na t.nl t.nc, .string t.cd, .int .i64 t.p, .int .i64 t.f, .int .i64 t.g]
/-- A call of a script. -/
structure OpR where
  kd : Int
  n : Int
  t : TaskR
def OpR.cells (x : OpR) : List Value := .int .i64 x.kd :: .int .i64 x.n :: x.t.cells
/-- The slice value v reads as these calls. -/
def RdO (w : World) (v : Value) (ops : List OpR) : Prop := ∃ A cap, v = .slice A ops.length cap ∧ ops.length ≤ 140737488351232 ∧ ops.length ≤ cap ∧
  (0 < ops.length → ∃ b o, A = some ⟨b, o, none⟩ ∧ ∀ k x, ops[k]? = some x → ∀ j u, x.cells[j]? = some u → w.cell? ⟨b, o + (k * 10 + j), none⟩ = some u)
theorem RdO.keep {W w : World} {v : Value} {ops : List OpR} (h : RdO W v ops) (hb : Below W.heap.size W w) : RdO w v ops := by
  obtain ⟨A, cap, hv, hl, hl2, hc⟩ := h
  refine ⟨A, cap, hv, hl, hl2, fun hn => ?_⟩
  obtain ⟨b, o, hA, hcell⟩ := hc hn
  exact ⟨b, o, hA, fun k x hx j u hj => (hb.cell (p := ⟨b, o + (k * 10 + j), none⟩) (World.block_lt_of_cell? W _ (hcell k x hx j u hj))).trans (hcell k x hx j u hj)⟩
/-- The cells of the k-th call, as the walk spells their places. -/
theorem RdO.at_ {w : World} {A : Option Addr} {n cap : Nat} {ops : List OpR} (h : RdO w (.slice A n cap) ops) {k : Nat} {x : OpR} (hx : ops[k]? = some x) : ∃ b o, A = some ⟨b, o, none⟩ ∧
    w.cell? ⟨b, o + k * 10, none⟩ = some (.int .i64 x.kd) ∧ w.cell? ⟨b, o + k * 10 + 1, none⟩ = some (.int .i64 x.n) ∧
    w.cell? ⟨b, o + k * 10 + 2, none⟩ = some (.string x.t.nm) ∧ w.cell? ⟨b, o + k * 10 + 2 + 1, none⟩ = some (.int .i64 x.t.lv) ∧ w.cell? ⟨b, o + k * 10 + 2 + 2, none⟩ = some (.int .i64 x.t.fr) ∧
    w.cell? ⟨b, o + k * 10 + 2 + 3, none⟩ = some (.slice x.t.na x.t.nl x.t.nc) ∧ w.cell? ⟨b, o + k * 10 + 2 + 4, none⟩ = some (.string x.t.cd) ∧ w.cell? ⟨b, o + k * 10 + 2 + 5, none⟩ = some (.int .i64 x.t.p) ∧
    w.cell? ⟨b, o + k * 10 + 2 + 6, none⟩ = some (.int .i64 x.t.f) ∧ w.cell? ⟨b, o + k * 10 + 2 + 7, none⟩ = some (.int .i64 x.t.g) := by
  obtain ⟨A', cap', hv, _, _, hc⟩ := h
  injection hv with h1 h2 h3
  subst h1
  obtain ⟨b, o, hA, hcell⟩ := hc (by have := lt_of_get? hx; omega)
  have g := hcell k x hx
  exact ⟨b, o, hA, g 0 _ rfl, g 1 _ rfl, g 2 _ rfl, g 3 _ rfl, g 4 _ rfl, g 5 _ rfl, g 6 _ rfl, g 7 _ rfl, g 8 _ rfl, g 9 _ rfl⟩

theorem fewSpec {w : World} {v : Value} {ops : List OpR} (h : RdO w v ops) (n : Nat) (nI : Int) (hI : nI = n) (hn : n ≤ 1000) :
    Calls Try.prog 17 #[v, .int .i64 nI] w fun e w' => ∃ v', e = .returned v' ∧ (∀ w2, RdO w2 v ops → RdO w2 v' (ops.take n)) ∧ w = w' := by
  subst hI
  obtain ⟨A, cap, rfl, hl, hlc, hc⟩ := h
  by_cases hlt : n < ops.length
  · obtain ⟨b, o, rfl, hcell⟩ := hc (by omega)
    have hfin : ∀ w2, RdO w2 (.slice (some ⟨b, o, none⟩) ops.length cap) ops → RdO w2 (.slice (some ⟨b, o, none⟩) n cap) (ops.take n) := by
      intro w2 ⟨A', cap', hv, _, _, hc'⟩
      injection hv with hv1 hv2 hv3
      subst hv1
      have e : (ops.take n).length = n := by rw [List.length_take]; omega
      refine ⟨_, cap, by rw [e], by omega, by omega, fun _ => ?_⟩
      obtain ⟨b', o', hA', hcell'⟩ := hc' (by omega)
      refine ⟨b', o', hA', fun k x hx => hcell' k x ?_⟩
      have := lt_of_get? hx
      rw [List.getElem?_take] at hx
      split at hx
      · exact hx
      · cases hx
    have hncap : n ≤ cap := by omega
    clear hc hcell
    go_enter Try.func17, Try.ntmps17
    go_wp2
    go_ret
    exact ⟨_, rfl, hfin, rfl⟩
  · have hfin : ∀ w2, RdO w2 (.slice A ops.length cap) ops → RdO w2 (.slice A ops.length cap) (ops.take n) := by
      rw [List.take_of_length_le (by omega)]
      exact fun _ h => h
    clear hc
    go_enter Try.func17, Try.ntmps17
    go_wp2
    go_ret
    exact ⟨_, rfl, hfin, rfl⟩

/-! ### what is due, plainly -/
theorem dueIds_ge (now : Int) (l : List Pat) : ∀ k, ∀ x ∈ dueIds now k l, (k : Int) ≤ x := by
  induction l with
  | nil => intro k x hx; simp [dueIds] at hx
  | cons p l ih =>
    intro k x hx
    simp only [dueIds] at hx
    split at hx
    · rcases List.mem_cons.1 hx with rfl | hx
      · exact Int.le_refl _
      · have := ih (k + 1) x hx; omega
    · have := ih (k + 1) x hx; omega
theorem dueIds_rising (now : Int) (l : List Pat) : ∀ k, (dueIds now k l).Pairwise (· < ·) := by
  induction l with
  | nil => intro k; simp [dueIds]
  | cons p l ih =>
    intro k
    simp only [dueIds]
    split
    · refine List.Pairwise.cons (fun x hx => ?_) (ih (k + 1))
      have := dueIds_ge now l (k + 1) x hx
      omega
    · exact ih (k + 1)
theorem dueIds_bound (now : Int) (l : List Pat) : ∀ k, ∀ x ∈ dueIds now k l, x < (k : Int) + l.length := by
  induction l with
  | nil => intro k x hx; simp [dueIds] at hx
  | cons p l ih =>
    intro k x hx
    simp only [dueIds] at hx
    simp only [List.length_cons]
    split at hx
    · rcases List.mem_cons.1 hx with rfl | hx
      · omega
      · have := ih (k + 1) x hx; omega
    · have := ih (k + 1) x hx; omega
end Go.Proofs.Ytdppdmmcnlmdgaa
