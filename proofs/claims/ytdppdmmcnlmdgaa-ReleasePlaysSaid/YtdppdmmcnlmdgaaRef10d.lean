/-
  The reference of chapter 10 over the separation logic: its clock's Tick.
-/
import Derived.Test.YtdppdmmcnlmdgaaRef10c
import Derived.Test.YtdppdmmcnlmdgaaRel5
namespace Go.Proofs.Ytdppdmmcnlmdgaa
open Go.RowKit Spl

def dueR (t : Int) : Nat → List RowR → List Int
  | _, [] => []
  | k, r :: rs => if r.due t then (k : Int) :: dueR t (k + 1) rs else dueR t (k + 1) rs
def idsR (t : Int) (l : List RowR) (k : Nat) : List Int := dueR t 0 (l.take k)
theorem idsR_zero (t : Int) (l : List RowR) : idsR t l 0 = [] := by simp [idsR, dueR]
theorem idsR_all (t : Int) (l : List RowR) : idsR t l l.length = dueR t 0 l := by simp [idsR]
theorem dueR_append (t : Int) (a b : List RowR) : ∀ k, dueR t k (a ++ b) = dueR t k a ++ dueR t (k + a.length) b := by
  induction a with
  | nil => intro k; rfl
  | cons p a ih =>
    intro k
    simp only [List.cons_append, dueR, List.length_cons]
    have e : k + (a.length + 1) = k + 1 + a.length := by omega
    split <;> simp [ih, e]
theorem idsR_succ {t : Int} {l : List RowR} {k : Nat} {p : RowR} (h : l[k]? = some p) : idsR t l (k + 1) = idsR t l k ++ (if p.due t then [(k : Int)] else []) := by
  have hk := (List.getElem?_eq_some_iff.1 h).1
  have e1 : l.take (k + 1) = l.take k ++ [p] := by rw [List.take_add_one, h]; rfl
  unfold idsR
  rw [e1, dueR_append]
  have e : 0 + (l.take k).length = k := by simp; omega
  rw [e]
  rfl
theorem dueR_length (t : Int) (l : List RowR) : ∀ k, (dueR t k l).length ≤ l.length := by
  induction l with
  | nil => intro k; simp [dueR]
  | cons p l ih =>
    intro k
    have := ih (k + 1)
    simp only [dueR, List.length_cons]
    split <;> simp <;> omega
theorem idsR_length (t : Int) (l : List RowR) (k : Nat) : (idsR t l k).length ≤ l.length := by
  have := dueR_length t (l.take k) 0
  simp only [List.length_take] at this
  unfold idsR
  omega

namespace RClk
def atEnd (m : RClk) : Bool := decide (1099511627776 ≤ m.t)
def tick (m : RClk) : RClk := if m.atEnd then m else ⟨m.t + 1, m.l⟩
def tickL (m : RClk) : List Int := if m.atEnd then [] else dueR (m.t + 1) 0 m.l
def tickE (m : RClk) : Int := if m.atEnd then 1 else 0
end RClk

section
variable {w0 w : World} {R : List Pr} {c : Nat} {m : RClk}

set_option maxHeartbeats 2000000 in
theorem refTick (H : Hd w0 (RClock c m :: R) w) (hm : m.Ok) :
    Calls Try.prog 20 #[pp c] w fun e w' => ∃ x, e = .returned (.tuple #[x, .int .i64 m.tickE]) ∧
      Hd w0 (Slc 3 1 x m.tickL.length (m.tickL.map (Value.int .i64)) :: RClock c m.tick :: R) w' := by
  obtain ⟨v, H1⟩ := RClock.opened H
  have hlen := hm.len
  have n0 := hm.n0
  have c0 := H1.rd 0
  have f0 := H1.fr 0
  unfold pp
  by_cases he : 1099511627776 ≤ m.t
  · have h1 : m.tickL = [] := by simp [RClk.tickL, RClk.atEnd, he]
    have h2 : m.tickE = 1 := by simp [RClk.tickE, RClk.atEnd, he]
    have h3 : m.tick = m := by simp [RClk.tick, RClk.atEnd, he]
    rw [h1, h2, h3]
    clear h1 h2 h3 H1
    go_enter Try.func20, Try.ntmps20
    go_wp2
    go_ret2
    exact ⟨_, rfl, H.slc_nil _ _⟩
  · have h1 : m.tickL = dueR (m.t + 1) 0 m.l := by simp [RClk.tickL, RClk.atEnd, he]
    have h2 : m.tickE = 0 := by simp [RClk.tickE, RClk.atEnd, he]
    have h3 : m.tick = ⟨m.t + 1, m.l⟩ := by simp [RClk.tick, RClk.atEnd, he]
    rw [h1, h2, h3]
    clear h1 h2 h3
    obtain ⟨a, cap, rfl, _, _, _, _⟩ := H1.b2.slc_form
    have HS : Hd w0 (cel c 45 #[.int .i64 (m.t + 1), .slice a m.l.length cap] :: Slc 78 10 (.slice a m.l.length cap) m.l.length (rowsV m.l) :: _) _ := H1.set 0 (.int .i64 (m.t + 1))
    clear H H1
    go_enter Try.func20, Try.ntmps20
    go_wp2
    go_loopw [4, 5] (fun x i wr => ∃ k : Nat, k ≤ m.l.length ∧ i = .int .i64 k ∧
      Hd w0 (Slc 3 1 x (idsR (m.t + 1) m.l k).length ((idsR (m.t + 1) m.l k).map (Value.int .i64)) :: cel c 45 #[.int .i64 (m.t + 1), .slice a m.l.length cap] :: Slc 78 10 (.slice a m.l.length cap) m.l.length (rowsV m.l) :: R) wr) (fun _ i _ => m.l.length - (intOf i).toNat)
    case atStart =>
      refine ⟨0, Nat.zero_le _, rfl, ?_⟩
      rw [idsR_zero]
      exact HS.slc_nil _ _
    case round =>
      obtain ⟨k, hk, rfl, HI⟩ := hrel
      have d0 := HI.b2.rd 0
      have d1 := HI.b2.rd 1
      by_cases hlt : k < m.l.length
      · obtain ⟨r, hr⟩ : ∃ r, m.l[k]? = some r := ⟨m.l[k], List.getElem?_eq_getElem hlt⟩
        have hok := hm.row r (List.mem_of_getElem? hr)
        have hids := idsR_length (m.t + 1) m.l k
        have hsucc := idsR_succ (t := m.t + 1) hr
        obtain ⟨g, cap', hv, H2⟩ := HI.b3.slc_at (by omega)
        injection hv with e1 e2 e3
        subst e1 e3
        clear e2
        obtain ⟨a0, a1, a2, a3, a4, a5, a6, a7, a8, a9⟩ := row_at H2 hr
        have HD := HI.drew
        have hdue := refDue HD r (m.t + 1) m.t hok hm.n1 (by omega) (by omega)
        simp only [RowR.cells, TaskR.cells, List.cons_append, List.nil_append] at hdue
        obtain ⟨i0, hi, hz0, hz1, hz2⟩ := info_parts infoInt
        have hrow : ∀ {w : World} {X : Value}, Hd w0 (Slc 3 1 X (idsR (m.t + 1) m.l k).length ((idsR (m.t + 1) m.l k).map (Value.int .i64)) :: cel c 45 #[.int .i64 (m.t + 1), .slice (some ⟨g, 0, none⟩) m.l.length cap] :: Slc 78 10 (.slice (some ⟨g, 0, none⟩) m.l.length cap) m.l.length (rowsV m.l) :: R) w → RowAt w g (k * 10) r := by
          intro w X h
          obtain ⟨g', cap', hv, H2⟩ := h.b3.slc_at (by omega)
          injection hv with e1 e2 e3
          injection e1 with e4
          injection e4 with e5
          subst e5
          exact row_at H2 hr
        clear H2 hok HI hr
        cases hd : r.due (m.t + 1) with
        | true =>
          rw [hd] at hdue hsucc
          clear hd
          go_wp2_with fail
          go_region_held3 (fun w' => w'.cell? ⟨c, 0, none⟩ = some (.int .i64 (m.t + 1)) ∧ w'.cell? ⟨c, 1, none⟩ = some (.slice (some ⟨g, 0, none⟩) m.l.length cap) ∧ w'.cell? ⟨g, k * 10, none⟩ = some (.string r.t.nm) ∧ w'.cell? ⟨g, k * 10 + 1, none⟩ = some (.int .i64 r.t.lv) ∧ w'.cell? ⟨g, k * 10 + 2, none⟩ = some (.int .i64 r.t.fr) ∧ w'.cell? ⟨g, k * 10 + 3, none⟩ = some (.slice r.t.na r.t.nl r.t.nc) ∧ w'.cell? ⟨g, k * 10 + 4, none⟩ = some (.string r.t.cd) ∧ w'.cell? ⟨g, k * 10 + 5, none⟩ = some (.int .i64 r.t.p) ∧ w'.cell? ⟨g, k * 10 + 6, none⟩ = some (.int .i64 r.t.f) ∧ w'.cell? ⟨g, k * 10 + 7, none⟩ = some (.int .i64 r.t.g) ∧ w'.cell? ⟨g, k * 10 + 8, none⟩ = some (.int .i64 r.since) ∧ w'.cell? ⟨g, k * 10 + 9, none⟩ = some (.int .i64 r.last)) (go_keep)
            (first | (go_at_call 33; refine hdue.mono ?_; rintro e w2 ⟨rfl, H3⟩; have D0 := H3.b2.rd 0; have D1 := H3.b2.rd 1; obtain ⟨A0, A1, A2, A3, A4, A5, A6, A7, A8, A9⟩ := hrow H3))
          go_wp2_with (at_builtin; (refine wpList_append_slc rfl _ _ 30 rfl 3 i0 _ 1 8 Try.underlying30 hi hz0 hz1 hz2 rfl _ _ _ rfl ((H3.alloc _).b2) ⟨_, 0, none⟩ 1 1 [.int .i64 k] rfl rfl (one_new (by simp)) (by simp [Value.oneCell']) (by unfold maxLen; omega) (by omega) ?_); intro v' w3 H4)
          go_roundw
          case rel =>
            refine ⟨k + 1, by omega, by go_num, ?_⟩
            simp only [if_true] at hsucc
            rw [hsucc, List.map_append, List.length_append]
            exact H4.b2.tail
          case measure => simp [intOf]; omega
        | false =>
          rw [hd] at hdue hsucc
          clear hd
          go_wp2_with fail
          go_region_held3 (fun w' => w'.cell? ⟨c, 0, none⟩ = some (.int .i64 (m.t + 1)) ∧ w'.cell? ⟨c, 1, none⟩ = some (.slice (some ⟨g, 0, none⟩) m.l.length cap) ∧ w'.cell? ⟨g, k * 10, none⟩ = some (.string r.t.nm) ∧ w'.cell? ⟨g, k * 10 + 1, none⟩ = some (.int .i64 r.t.lv) ∧ w'.cell? ⟨g, k * 10 + 2, none⟩ = some (.int .i64 r.t.fr) ∧ w'.cell? ⟨g, k * 10 + 3, none⟩ = some (.slice r.t.na r.t.nl r.t.nc) ∧ w'.cell? ⟨g, k * 10 + 4, none⟩ = some (.string r.t.cd) ∧ w'.cell? ⟨g, k * 10 + 5, none⟩ = some (.int .i64 r.t.p) ∧ w'.cell? ⟨g, k * 10 + 6, none⟩ = some (.int .i64 r.t.f) ∧ w'.cell? ⟨g, k * 10 + 7, none⟩ = some (.int .i64 r.t.g) ∧ w'.cell? ⟨g, k * 10 + 8, none⟩ = some (.int .i64 r.since) ∧ w'.cell? ⟨g, k * 10 + 9, none⟩ = some (.int .i64 r.last)) (go_keep)
            (first | (go_at_call 33; refine hdue.mono ?_; rintro e w2 ⟨rfl, H3⟩; have D0 := H3.b2.rd 0; have D1 := H3.b2.rd 1; obtain ⟨A0, A1, A2, A3, A4, A5, A6, A7, A8, A9⟩ := hrow H3))
          go_wp2_with fail
          go_roundw
          case rel =>
            refine ⟨k + 1, by omega, by go_num, ?_⟩
            simp only [Bool.false_eq_true, if_false] at hsucc
            rw [hsucc, List.append_nil]
            exact H3
          case measure => simp [intOf]; omega
      · obtain rfl : k = m.l.length := by omega
        rw [idsR_all] at HI
        have HF : Hd w0 (Slc 3 1 _ (dueR (m.t + 1) 0 m.l).length ((dueR (m.t + 1) 0 m.l).map (Value.int .i64)) :: RClock c ⟨m.t + 1, m.l⟩ :: R) _ := (RClock.shut (m := ⟨m.t + 1, m.l⟩) HI.b3.b3).b2
        clear HI
        go_wp2
        go_ret2
        exact ⟨_, rfl, HF⟩
end
end Go.Proofs.Ytdppdmmcnlmdgaa
