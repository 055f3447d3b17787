/-
  Merged texts of one proof: UnI2, UnI3, UnI4, Hol1, Hol2, Hol3, SlcIn.
-/
import Derived.Test.YtogcikilphakmaaGreatDoorG09
import Derived.Test.YtogcikilphakmaaGreatDoorG32

/-
  The plain law of the resource table: Lock, pop and Store keep it.
-/
namespace Go.Proofs.YtogcikilphakmaaGreatDoor
open Go.RowKit Spl

theorem pos_cons {α K : Type} [KLt K] [Keyed α K] (y : α) (l : List α) (k : K) : pos (y :: l) k = if KLt.lt (Keyed.key y : K) k = true then pos l k + 1 else 0 := by
  unfold pos
  rw [List.takeWhile_cons]
  split <;> simp [*]
theorem sorted_ins {α K : Type} [KLt K] [Keyed α K] {l : List α} {k : K} {x : α} (hs : Sorted l) (hk : (Keyed.key x : K) = k) (hn : rowAt l k = none) : Sorted (l.take (pos l k) ++ x :: l.drop (pos l k)) := by
  induction l with
  | nil => exact List.pairwise_singleton ..
  | cons y l ih =>
    have h2 := List.pairwise_cons.1 hs
    by_cases hlt : KLt.lt (Keyed.key y : K) k = true
    · have hp : pos (y :: l) k = pos l k + 1 := by rw [pos_cons, if_pos hlt]
      have hn2 : rowAt l k = none := by
        unfold rowAt at hn ⊢
        rw [hp, List.getElem?_cons_succ] at hn
        exact hn
      rw [hp, List.take_succ_cons, List.drop_succ_cons, List.cons_append]
      refine List.pairwise_cons.2 ⟨?_, ih h2.2 hn2⟩
      intro z hz
      rcases List.mem_append.1 hz with h | h
      · exact h2.1 z (List.mem_of_mem_take h)
      · rcases List.mem_cons.1 h with e | h
        · subst e; rw [hk]; exact hlt
        · exact h2.1 z (List.mem_of_mem_drop h)
    · have hp : pos (y :: l) k = 0 := by rw [pos_cons, if_neg hlt]
      have hky : KLt.lt k (Keyed.key y : K) = true := by
        unfold rowAt at hn
        rw [hp, List.getElem?_cons_zero] at hn
        dsimp only at hn
        split at hn
        · assumption
        · cases hn
      rw [hp, List.take_zero, List.drop_zero, List.nil_append]
      refine List.pairwise_cons.2 ⟨?_, hs⟩
      intro z hz
      rw [hk]
      rcases List.mem_cons.1 hz with e | h
      · subst e; exact hky
      · exact KLt.tr hky (h2.1 z h)
theorem mem_ins {α : Type} {l : List α} {i : Nat} {x y : α} (h : y ∈ l.take i ++ x :: l.drop i) : y = x ∨ y ∈ l := by
  rcases List.mem_append.1 h with h | h
  · exact .inr (List.mem_of_mem_take h)
  · rcases List.mem_cons.1 h with e | h
    · exact .inl e
    · exact .inr (List.mem_of_mem_drop h)
theorem lockE_zero {m : UnM} {job n need : Int} {r : Nat} (hE : m.lockE job r n need = 0) : 0 ≤ job ∧ r < m.units.length ∧ 1 ≤ n ∧ n ≤ m.units[r]?.getD 0 ∧ n ≤ m.free[r]?.getD 0 := by
  unfold UnM.lockE at hE
  rw [Int.toNat_natCast] at hE
  by_cases a1 : job < 0 ∨ (r : Int) < 0 ∨ (m.units.length : Int) ≤ r ∨ n < 1 ∨ m.units[r]?.getD 0 < n
  · rw [if_pos a1] at hE; cases hE
  rw [if_neg a1] at hE
  split at hE
  · cases hE
  split at hE
  · cases hE
  omega
theorem UnM.Inv.locked {m : UnM} (h : m.Inv) {job n need : Int} {r : Nat} (hE : m.lockE job r n need = 0) : (m.locked job r n).Inv := by
  obtain ⟨z1, z2, z3, z4, z5⟩ := lockE_zero hE
  have hU : m.units[r]? = some m.units[r] := List.getElem?_eq_getElem z2
  have hF : m.free[r]? = some (m.free[r]'(by rw [h.fl]; exact z2)) := List.getElem?_eq_getElem _
  obtain ⟨F, hF0⟩ : ∃ F, m.free[r]? = some F := ⟨_, hF⟩
  obtain ⟨U, hU0⟩ : ∃ U, m.units[r]? = some U := ⟨_, hU⟩
  have hUb := h.uv U (List.mem_of_getElem? hU0)
  rw [hF0, Option.getD_some] at z5
  rw [hU0, Option.getD_some] at z4
  have hu16 := h.u16
  unfold UnM.locked
  rw [hF0, Option.getD_some]
  cases hrow : rowAt m.jobs job with
  | some j =>
    dsimp only
    obtain ⟨hpos, hkey⟩ := rowAt_some h.s hrow
    have hmem := List.mem_of_getElem? hpos
    have hl16 := h.hl j hmem
    obtain ⟨hd, hhd⟩ : ∃ hd, j.h.held[r]? = some hd := ⟨j.h.held[r]'(by omega), List.getElem?_eq_getElem _⟩
    rw [hhd, Option.getD_some]
    have hdv := h.hv j hmem r hd hhd
    have hks := set_keys (K := Int) (y := (⟨j.job, ⟨j.h.locks ++ [⟨(r : Int), n⟩], j.h.held.set r (hd + n)⟩⟩ : JobM)) hpos rfl
    refine ⟨h.u16, h.uv, h.cl, by rw [List.length_set]; exact h.fl, keys_sorted hks.symm h.s, ?_, ?_, ?_, ?_⟩
    · intro j' hj'
      rcases List.mem_or_eq_of_mem_set hj' with q | q
      · exact h.hl j' q
      · rw [q]; dsimp only; rw [List.length_set]; exact hl16
    · intro j' hj' k x hx
      rcases List.mem_or_eq_of_mem_set hj' with q | q
      · exact h.hv j' q k x hx
      · rw [q] at hx ⊢
        dsimp only at hx ⊢
        rw [lkSum_snoc]
        by_cases hk : r = k
        · subst hk
          rw [List.getElem?_set_self (lt_of_get? hhd)] at hx
          injection hx with hx
          dsimp only
          rw [if_pos rfl]
          omega
        · rw [List.getElem?_set_ne hk] at hx
          have := h.hv j hmem k x hx
          dsimp only
          rw [if_neg (by omega)]
          omega
    · intro j' hj'
      rcases List.mem_or_eq_of_mem_set hj' with q | q
      · exact h.lk j' q
      · rw [q]
        refine ⟨by simp, ?_⟩
        intro x hx
        rcases List.mem_append.1 hx with hx | hx
        · exact (h.lk j hmem).2 x hx
        · rw [List.mem_singleton.1 hx]
          dsimp only
          omega
    · intro k F' U' hF' hU'
      dsimp only at hF' hU' ⊢
      rw [heldSum_set hpos]
      dsimp only
      by_cases hk : r = k
      · subst hk
        rw [List.getElem?_set_self (lt_of_get? hF0)] at hF'
        injection hF' with hF'
        have h1 := h.fr r F U' hF0 hU'
        rw [List.getElem?_set_self (lt_of_get? hhd), hhd, Option.getD_some, Option.getD_some]
        omega
      · rw [List.getElem?_set_ne hk] at hF'
        have h1 := h.fr k F' U' hF' hU'
        rw [List.getElem?_set_ne hk]
        omega
  | none =>
    dsimp only
    rw [Int.zero_add]
    have h16 : (List.replicate 16 (0 : Int)).length = 16 := by simp
    refine ⟨h.u16, h.uv, h.cl, by rw [List.length_set]; exact h.fl, sorted_ins h.s rfl hrow, ?_, ?_, ?_, ?_⟩
    · intro j' hj'
      rcases mem_ins hj' with q | q
      · rw [q]; dsimp only; rw [List.length_set]; exact h16
      · exact h.hl j' q
    · intro j' hj' k x hx
      rcases mem_ins hj' with q | q
      · rw [q] at hx ⊢
        dsimp only at hx ⊢
        rw [lkSum_cons, lkSum_nil]
        dsimp only
        by_cases hk : r = k
        · subst hk
          rw [List.getElem?_set_self (by omega)] at hx
          injection hx with hx
          rw [if_pos rfl]
          omega
        · rw [List.getElem?_set_ne hk, List.getElem?_replicate] at hx
          rw [if_neg (by omega)]
          split at hx
          · injection hx with hx; omega
          · cases hx
      · exact h.hv j' q k x hx
    · intro j' hj'
      rcases mem_ins hj' with q | q
      · rw [q]
        refine ⟨by simp, ?_⟩
        intro x hx
        rw [List.mem_singleton.1 hx]
        dsimp only
        omega
      · exact h.lk j' q
    · intro k F' U' hF' hU'
      dsimp only at hF' hU' ⊢
      rw [heldSum_ins]
      dsimp only
      by_cases hk : r = k
      · subst hk
        rw [List.getElem?_set_self (lt_of_get? hF0)] at hF'
        injection hF' with hF'
        have h1 := h.fr r F U' hF0 hU'
        rw [List.getElem?_set_self (by omega), Option.getD_some]
        omega
      · rw [List.getElem?_set_ne hk] at hF'
        have h1 := h.fr k F' U' hF' hU'
        rw [List.getElem?_set_ne hk, List.getElem?_replicate]
        split <;> simp <;> omega
theorem UnM.Inv.stored {m : UnM} (h : m.Inv) (r : Nat) (v : Int) : (m.stored r v).Inv := ⟨h.u16, h.uv, by unfold UnM.stored; rw [List.length_set]; exact h.cl, h.fl, h.s, h.hl, h.hv, h.lk, h.fr⟩
end Go.Proofs.YtogcikilphakmaaGreatDoor

/-
  The plain law of the resource table: pop keeps it; a new table meets it.
-/
namespace Go.Proofs.YtogcikilphakmaaGreatDoor
open Go.RowKit Spl

theorem mem_erase {α : Type} {l : List α} {i : Nat} {x : α} (h : x ∈ l.eraseIdx i) : x ∈ l := (List.eraseIdx_sublist l i).mem h
theorem UnM.Inv.popped {m : UnM} (h : m.Inv) (job : Int) : (m.popped job).Inv := by
  unfold UnM.popped
  cases hrow : rowAt m.jobs job with
  | none => exact h
  | some j =>
    dsimp only
    obtain ⟨hpos, hkey⟩ := rowAt_some h.s hrow
    have hmem := List.mem_of_getElem? hpos
    have hl16 := h.hl j hmem
    obtain ⟨hne, hlk⟩ := h.lk j hmem
    obtain ⟨l, x, hl⟩ : ∃ l x, j.h.locks = l ++ [x] := ⟨_, _, (List.dropLast_concat_getLast hne).symm⟩
    have h1 : j.h.locks.getLast? = some x := by rw [hl]; simp
    have h2 : j.h.locks.length = l.length + 1 := by rw [hl]; simp
    have h3 : j.h.locks.dropLast = l := by rw [hl]; simp
    rw [h1]
    dsimp only
    rw [h2, h3]
    obtain ⟨x1, x2, x3, x4⟩ := hlk x (by rw [hl]; simp)
    have hu16 := h.u16
    obtain ⟨r, hr⟩ : ∃ r : Nat, x.res = r := ⟨x.res.toNat, by omega⟩
    rw [hr, Int.toNat_natCast]
    have hrl : r < m.units.length := by omega
    obtain ⟨F, hF0⟩ : ∃ F, m.free[r]? = some F := ⟨m.free[r]'(by rw [h.fl]; exact hrl), List.getElem?_eq_getElem _⟩
    obtain ⟨U, hU0⟩ : ∃ U, m.units[r]? = some U := ⟨m.units[r], List.getElem?_eq_getElem hrl⟩
    obtain ⟨hd, hhd⟩ : ∃ hd, j.h.held[r]? = some hd := ⟨j.h.held[r]'(by omega), List.getElem?_eq_getElem _⟩
    rw [hF0, hhd, Option.getD_some, Option.getD_some]
    have hlkl : ∀ y ∈ l, 0 ≤ y.res ∧ y.res < m.units.length ∧ 1 ≤ y.units ∧ y.units ≤ 255 := fun y hy => hlk y (by rw [hl]; exact List.mem_append_left _ hy)
    have hsum : ∀ (k : Nat) (v : Int), j.h.held[k]? = some v → v = lkSum l k + (if r = k then x.units else 0) := by
      intro k v hv
      have := h.hv j hmem k v hv
      rw [hl, lkSum_snoc] at this
      rw [this]
      by_cases hk : r = k
      · rw [if_pos hk, if_pos (by omega)]
      · rw [if_neg hk, if_neg (by omega)]
    have hFr := h.fr r F U hF0 hU0
    have hfar : ∀ (k : Nat), r ≠ k → (m.free.set r (F + x.units))[k]? = m.free[k]? := fun k hk => List.getElem?_set_ne hk
    by_cases hz : l.length = 0
    · rw [if_pos (by omega)]
      have hl0 : l = [] := List.eq_nil_of_length_eq_zero hz
      refine ⟨h.u16, h.uv, h.cl, by rw [List.length_set]; exact h.fl, h.s.sublist (List.eraseIdx_sublist _ _), ?_, ?_, ?_, ?_⟩
      · exact fun j' hj' => h.hl j' (mem_erase hj')
      · exact fun j' hj' => h.hv j' (mem_erase hj')
      · exact fun j' hj' => h.lk j' (mem_erase hj')
      · intro k F' U' hF' hU'
        dsimp only at hF' hU' ⊢
        rw [heldSum_erase hpos]
        by_cases hk : r = k
        · subst hk
          rw [List.getElem?_set_self (lt_of_get? hF0)] at hF'
          injection hF' with hF'
          rw [hU0] at hU'
          injection hU' with hU'
          have h4 := hsum r hd hhd
          rw [if_pos rfl, hl0, lkSum_nil] at h4
          rw [hhd, Option.getD_some]
          omega
        · rw [hfar k hk] at hF'
          have h4 := h.fr k F' U' hF' hU'
          cases hkd : j.h.held[k]? with
          | none => simp; omega
          | some v =>
            have h5 := hsum k v hkd
            rw [if_neg hk, hl0, lkSum_nil] at h5
            rw [Option.getD_some]
            omega
    · rw [if_neg (by omega)]
      have hks := set_keys (K := Int) (y := (⟨j.job, ⟨l, j.h.held.set r (hd - x.units)⟩⟩ : JobM)) hpos rfl
      refine ⟨h.u16, h.uv, h.cl, by rw [List.length_set]; exact h.fl, keys_sorted hks.symm h.s, ?_, ?_, ?_, ?_⟩
      · intro j' hj'
        rcases List.mem_or_eq_of_mem_set hj' with q | q
        · exact h.hl j' q
        · rw [q]; dsimp only; rw [List.length_set]; exact hl16
      · intro j' hj' k v hv
        rcases List.mem_or_eq_of_mem_set hj' with q | q
        · exact h.hv j' q k v hv
        · rw [q] at hv ⊢
          dsimp only at hv ⊢
          by_cases hk : r = k
          · subst hk
            rw [List.getElem?_set_self (lt_of_get? hhd)] at hv
            injection hv with hv
            have h4 := hsum r hd hhd
            rw [if_pos rfl] at h4
            omega
          · rw [List.getElem?_set_ne hk] at hv
            have h4 := hsum k v hv
            rw [if_neg hk] at h4
            omega
      · intro j' hj'
        rcases List.mem_or_eq_of_mem_set hj' with q | q
        · exact h.lk j' q
        · rw [q]
          exact ⟨fun e => hz (by rw [show l = [] from e]; rfl), hlkl⟩
      · intro k F' U' hF' hU'
        dsimp only at hF' hU' ⊢
        rw [heldSum_set hpos]
        dsimp only
        by_cases hk : r = k
        · subst hk
          rw [List.getElem?_set_self (lt_of_get? hF0)] at hF'
          injection hF' with hF'
          rw [hU0] at hU'
          injection hU' with hU'
          rw [List.getElem?_set_self (lt_of_get? hhd), hhd, Option.getD_some, Option.getD_some]
          omega
        · rw [hfar k hk] at hF'
          have h4 := h.fr k F' U' hF' hU'
          rw [List.getElem?_set_ne hk]
          omega
theorem UnM.Inv.popN {m : UnM} (h : m.Inv) (job : Int) : ∀ k, (m.popN job k).Inv
  | 0 => h
  | k + 1 => (UnM.Inv.popN h job k).popped job
theorem UnM.Inv.new {units : List Int} (hc : newUn units = 0) : (UnM.mk units units (List.replicate units.length 0) []).Inv := by
  unfold newUn at hc
  split at hc
  · cases hc
  rename_i h2
  split at hc
  · rename_i h3
    have hall : ∀ x ∈ units, 1 ≤ x ∧ x ≤ 255 := by
      intro x hx
      have := List.all_eq_true.1 h3 x hx
      simpa using this
    refine ⟨by dsimp only; omega, hall, by simp, rfl, List.Pairwise.nil, fun j hj => (by cases hj), fun j hj => (by cases hj), fun j hj => (by cases hj), ?_⟩
    intro r F U hF hU
    dsimp only at hF hU ⊢
    rw [hF] at hU
    injection hU with hU
    have := hall F (List.mem_of_getElem? hF)
    have e : heldSum [] r = 0 := rfl
    rw [e]
    omega
  · cases hc
end Go.Proofs.YtogcikilphakmaaGreatDoor

/-
  The plain law of the resource table gives what the walks ask: Ok, Ok2, Ok3.
-/
namespace Go.Proofs.YtogcikilphakmaaGreatDoor
open Go.RowKit Spl

def tot (f : Nat → Int) : Nat → Int
  | 0 => 0
  | n + 1 => tot f n + f n
theorem tot_add (f g : Nat → Int) : ∀ n, tot (fun r => f r + g r) n = tot f n + tot g n
  | 0 => rfl
  | n + 1 => by
    have := tot_add f g n
    show tot (fun r => f r + g r) n + (f n + g n) = (tot f n + f n) + (tot g n + g n)
    omega
theorem tot_le {f g : Nat → Int} : ∀ {n : Nat} (_ : ∀ r, r < n → f r ≤ g r), tot f n ≤ tot g n
  | 0, _ => Int.le_refl _
  | n + 1, h => by
    have h1 := tot_le (n := n) (fun r hr => h r (by omega))
    have h2 := h n (by omega)
    show tot f n + f n ≤ tot g n + g n
    omega
theorem tot_const (c : Int) : ∀ n : Nat, tot (fun _ => c) n = n * c
  | 0 => by simp [tot]
  | n + 1 => by
    show tot (fun _ => c) n + c = ((n + 1 : Nat) : Int) * c
    rw [tot_const c n]
    push_cast
    rw [Int.add_mul, Int.one_mul]
theorem tot_one (k : Nat) (u : Int) : ∀ n : Nat, tot (fun r => if (k : Int) = (r : Int) then u else 0) n = if k < n then u else 0
  | 0 => rfl
  | n + 1 => by
    have h1 := tot_one k u n
    show tot (fun r => if (k : Int) = (r : Int) then u else 0) n + (if (k : Int) = (n : Int) then u else 0) = _
    rw [h1]
    by_cases a : k < n
    · rw [if_pos a, if_neg (by omega), if_pos (by omega)]; omega
    · rw [if_neg a]
      by_cases b : k = n
      · rw [if_pos (by omega), if_pos (by omega)]; omega
      · rw [if_neg (by omega), if_neg (by omega)]; rfl
theorem lk_tot {l : List LockM} (h : ∀ x ∈ l, 0 ≤ x.res ∧ x.res < 16 ∧ 1 ≤ x.units) : (l.length : Int) ≤ tot (lkSum l) 16 := by
  induction l with
  | nil =>
    show (0 : Int) ≤ tot (fun r => lkSum [] r) 16
    have : tot (fun r => lkSum [] r) 16 = 0 := by rw [show (fun r => lkSum [] r) = fun _ => (0 : Int) from rfl, tot_const]; rfl
    omega
  | cons y l ih =>
    have h1 := ih (fun x hx => h x (List.mem_cons_of_mem _ hx))
    obtain ⟨a, b, c⟩ := h y (List.mem_cons_self ..)
    obtain ⟨k, hk⟩ : ∃ k : Nat, y.res = k := ⟨y.res.toNat, by omega⟩
    have e : tot (lkSum (y :: l)) 16 = tot (fun r => if (k : Int) = (r : Int) then y.units else 0) 16 + tot (lkSum l) 16 := by
      rw [← tot_add]
      congr 1
      funext r
      rw [lkSum_cons, hk]
    rw [e, tot_one, if_pos (by omega)]
    simp only [List.length_cons]
    omega
theorem UnM.Inv.lkTot {m : UnM} (h : m.Inv) : ∀ j ∈ m.jobs, (j.h.locks.length : Int) ≤ tot (fun r => j.h.held[r]?.getD 0) 16 := by
  intro j hj
  have h1 := lk_tot (l := j.h.locks) (fun x hx => by have := (h.lk j hj).2 x hx; have := h.u16; omega)
  refine Int.le_trans h1 (tot_le ?_)
  intro r hr
  have hlen := h.hl j hj
  have e : j.h.held[r]? = some (j.h.held[r]'(by omega)) := List.getElem?_eq_getElem _
  rw [e, Option.getD_some, ← h.hv j hj r _ e]
  exact Int.le_refl _
theorem held_tot {l : List JobM} (h : ∀ j ∈ l, (1 : Int) ≤ tot (fun r => j.h.held[r]?.getD 0) 16) : (l.length : Int) ≤ tot (heldSum l) 16 := by
  induction l with
  | nil =>
    show (0 : Int) ≤ tot (fun r => heldSum [] r) 16
    have : tot (fun r => heldSum [] r) 16 = 0 := by rw [show (fun r => heldSum [] r) = fun _ => (0 : Int) from rfl, tot_const]; rfl
    omega
  | cons y l ih =>
    have h1 := ih (fun x hx => h x (List.mem_cons_of_mem _ hx))
    have h2 := h y (List.mem_cons_self ..)
    have e : tot (heldSum (y :: l)) 16 = tot (fun r => y.h.held[r]?.getD 0) 16 + tot (heldSum l) 16 := by
      rw [← tot_add]
      rfl
    rw [e]
    simp only [List.length_cons]
    omega
theorem UnM.Inv.heldTop {m : UnM} (h : m.Inv) : tot (heldSum m.jobs) 16 ≤ 4080 := by
  have h1 : tot (heldSum m.jobs) 16 ≤ tot (fun _ => (255 : Int)) 16 := by
    refine tot_le ?_
    intro r _
    by_cases hlt : r < m.units.length
    · have hU : m.units[r]? = some m.units[r] := List.getElem?_eq_getElem hlt
      have hF : m.free[r]? = some (m.free[r]'(by rw [h.fl]; exact hlt)) := List.getElem?_eq_getElem _
      have h1 := h.fr r _ _ hF hU
      have h3 := h.uv _ (List.getElem_mem hlt)
      omega
    · have hz : ∀ l : List JobM, (∀ j ∈ l, j.h.held[r]?.getD 0 = 0) → heldSum l r = 0 := by
        intro l
        induction l with
        | nil => intro _; rfl
        | cons y l ih =>
          intro hl
          rw [heldSum_cons, ih (fun j hj => hl j (List.mem_cons_of_mem _ hj)), hl y (List.mem_cons_self ..)]
          rfl
      rw [hz m.jobs ?_]
      · omega
      · intro j hj
        cases hx : j.h.held[r]? with
        | none => rfl
        | some x =>
          rw [Option.getD_some, h.hv j hj r x hx]
          exact lkSum_far (n := m.units.length) (fun x hx => ((h.lk j hj).2 x hx).2.1) (by omega)
  rw [tot_const] at h1
  omega
theorem UnM.Inv.locksLe {m : UnM} (h : m.Inv) : ∀ j ∈ m.jobs, j.h.locks.length ≤ 5000 := by
  intro j hj
  have h1 := h.lkTot j hj
  have h2 : tot (fun r => j.h.held[r]?.getD 0) 16 ≤ tot (heldSum m.jobs) 16 := tot_le (fun r _ => heldSum_ge (fun j hj => h.pos j hj r) j hj)
  have h3 := h.heldTop
  omega
theorem UnM.Inv.jobsLe {m : UnM} (h : m.Inv) : m.jobs.length ≤ 5000 := by
  have h1 := held_tot (l := m.jobs) (fun j hj => by
    have h2 := h.lkTot j hj
    have h3 := List.length_pos_iff.2 (h.lk j hj).1
    omega)
  have h3 := h.heldTop
  omega
theorem UnM.Inv.ok {m : UnM} (h : m.Inv) : m.Ok := ⟨h.s, h.jobsLe, h.hl⟩
theorem UnM.Inv.ok2 {m : UnM} (h : m.Inv) : m.Ok2 := ⟨h.u16, h.fl, h.cl, h.uv, h.free, fun j hj => ⟨h.held j hj, h.locksLe j hj⟩⟩
end Go.Proofs.YtogcikilphakmaaGreatDoor

/-
  shelf.copied of the holders' rows; Table.All lays the function value.
-/
namespace Go.Proofs.YtogcikilphakmaaGreatDoor
open Go.RowKit Spl

theorem infoRowH : (Tryz.prog.info? 267).map (fun i => (i.zero, i.size, i.bytes)) = some (some (.agg #[.int .i64 0, .pointer none]), 2, 16) := by kernel_rfl
section
variable {w0 w : World} {R : List Pr} {l : List RowH}
set_option maxRecDepth 20000 in
set_option maxHeartbeats 4000000 in
theorem copied_hold (H : Hd w0 R w) (hn : l.length ≤ 100000) {n : Nat} (hnl : n = l.length) {A : Option Addr} {cap : Nat} (hA : A = none → l.length = 0)
    (hs : ∀ {w1 : World}, Hd w0 R w1 → ∀ ad, A = some ad → ∀ (j : Nat) (u : Value), (flat l)[j]? = some u → w1.cell? (ad.add j) = some u) :
    Calls Tryz.prog 143 #[.slice A n cap] w fun e w' => ∃ g, e = .returned (.slice (some ⟨g, 0, none⟩) l.length l.length) ∧ Hd w0 (SlEC 267 g l.length l :: R) w' := by
  subst hnl
  obtain ⟨i0, hi, hz0, hz1, hz2⟩ := info_parts infoRowH
  have hfl := Lib.hid (flat_len l)
  go_enter Tryz.func143, Tryz.ntmps143
  go_wp2_with (first | (at_make; refine wpList_make_slc rfl _ _ 224 rfl 267 i0 _ 2 Tryz.underlying224 hi hz0 hz1 rfl _ _ _ _ 0 l.length rfl rfl rfl rfl (by omega) (by rw [hz2]; omega) (by unfold maxLen; omega) H ?_; intro w1 H1; rw [madeCells_zero] at H1; have hs1 := hs H1.tail) | (at_builtin; refine wpList_append_fits_any_slc rfl _ _ 224 rfl 267 i0 2 Tryz.underlying224 hi hz1 _ 0 l.length [] rfl H1 _ l.length _ (flat l) rfl hfl.out hA hs1 (flat_oneCell l) (by omega) ?_; intro w2 H2; rw [Nat.zero_add]))
  go_ret
  exact ⟨_, rfl, by rw [List.nil_append, Nat.zero_add] at H2; exact H2⟩
theorem allH {t o : Nat} (H : Hd w0 R w) : Calls Tryz.prog 111 #[.pointer (some ⟨t, o, none⟩)] w fun e w' => ∃ b, e = .returned (.func (.func 142) #[] #[.pointer (some ⟨b, 0, none⟩)]) ∧ Hd w0 (cel b 263 #[.pointer (some ⟨t, o, none⟩)] :: R) w' := by
  have HA : Hd w0 _ (w.alloc (.cells #[.pointer (some ⟨t, o, none⟩)] 263)) := H.fol
  go_enter Tryz.func111, Tryz.ntmps111
  go_wp2_with fail
  go_ret
  exact ⟨_, rfl, HA⟩
end
end Go.Proofs.YtogcikilphakmaaGreatDoor

/-
  Table.All's closure hands out the holders' rows, one by one, to a body that never leaves.
-/
namespace Go.Proofs.YtogcikilphakmaaGreatDoor
open Go.RowKit Spl

attribute [local go_sem] Oper.semAt_some
section
variable {w0 : World} {R : List Pr} {l : List RowH}
set_option maxRecDepth 100000 in
set_option maxHeartbeats 4000000 in
theorem seqHold {b t : Nat} {vu vf vc vj : Value} (hn : l.length ≤ 100000) :
    SeqHd Tryz.prog 142 #[.pointer (some ⟨b, 0, none⟩)] (fun x : RowH => #[.int .i64 x.k, .pointer (some ⟨x.b, 0, none⟩)]) w0 (cel b 263 #[.pointer (some ⟨t, 3, none⟩)] :: cel t 228 #[vu, vf, vc, vj] :: SlE 267 vj l :: R) l := by
  intro lp Y W n H hY
  obtain ⟨a, c, rfl, -, -, -, -⟩ := (H.v vj).slc_form
  have c0 := (show _ = some (.pointer (some ⟨t, 3, none⟩)) from (H.k b).ce 0 rfl)
  have c1 := (show _ = some (.slice a l.length c) from (H.k t).ce 3 rfl)
  have H1 : Hd w0 (SlE 267 (.slice a l.length c) l :: Y 0 :: cel b 263 #[.pointer (some ⟨t, 3, none⟩)] :: cel t 228 #[vu, vf, vc, .slice a l.length c] :: R) W := H.re
  have hsrc := Src.slc H1
  have hcp : Calls Tryz.prog 143 #[.slice a l.length c] W fun e w' => ∃ g, e = .returned (.slice (some ⟨g, 0, none⟩) l.length l.length) ∧ Hd w0 (SlEC 267 g l.length l :: SlE 267 (.slice a l.length c) l :: Y 0 :: cel b 263 #[.pointer (some ⟨t, 3, none⟩)] :: cel t 228 #[vu, vf, vc, .slice a l.length c] :: R) w' := by
    rcases hsrc with ⟨h, h2⟩ | ⟨ad, c2, h, h2⟩
    · injection h with q1 q2 q3
      exact copied_hold H1 hn rfl (fun _ => q2) (fun _ ad h => by rw [q1] at h; cases h)
    · injection h with q1 q2 q3
      exact copied_hold H1 hn rfl (fun h => by rw [q1] at h; cases h) (fun H ad2 e j u hu => by rw [q1] at e; injection e with e; subst e; exact h2 H j u hu)
  have hcpI := callsIn_wide (n := n - 1).2 hcp
  clear hsrc hcp H H1
  refine callsIn_of_wp Tryz.func142 rfl trivial ?_ rfl
  simp only [Tryz.ntmps142, List.size_toArray, List.length_cons, List.length_nil, Nat.reduceAdd, Nat.reduceSub, Array.replicate_succ, Array.replicate_zero, List.push_toArray, List.append_toArray, List.nil_append, List.cons_append]
  gi_wp2_with (first | (refine ⟨trivial, fun h => (by cases h), ?_⟩; refine hcpI.mono ?_; rintro e W1 ⟨g, rfl, H2⟩))
  clear hcpI
  gi_loopw [11] (fun i wr => ∃ k : Nat, k ≤ l.length ∧ i = .int .i64 k ∧ Hd w0 (Y k :: SlEC 267 g l.length l :: SlE 267 (.slice a l.length c) l :: cel b 263 #[.pointer (some ⟨t, 3, none⟩)] :: cel t 228 #[vu, vf, vc, .slice a l.length c] :: R) wr) (fun i _ => l.length - (intOf i).toNat)
  case atStart => exact ⟨0, Nat.zero_le _, rfl, H2.re⟩
  case round =>
    obtain ⟨k, hk, rfl, HI⟩ := hrel
    by_cases hlt : k < l.length
    · obtain ⟨x, hx⟩ : ∃ x, l[k]? = some x := ⟨l[k], List.getElem?_eq_getElem hlt⟩
      have H5 : Hd w0 (SlEC 267 g l.length l :: Y k :: SlE 267 (.slice a l.length c) l :: cel b 263 #[.pointer (some ⟨t, 3, none⟩)] :: cel t 228 #[vu, vf, vc, .slice a l.length c] :: R) wr := HI.re
      have f0 := H5.slcC_rd (flat_at hx (j := 0) rfl)
      have f1 := H5.slcC_rd (flat_at hx (j := 1) rfl)
      simp only [Enc.size, Nat.add_zero] at f0 f1
      have HA : Hd w0 _ (wr.alloc (.cells #[.int .i64 x.k, .pointer (some ⟨x.b, 0, none⟩)] 267)) := HI.fol
      have q0 := (show _ = some (Value.int .i64 x.k) from HA.ce 0 rfl)
      have q1 := (show _ = some (Value.pointer (some ⟨x.b, 0, none⟩)) from HA.ce 1 rfl)
      obtain ⟨fn, tmps, assign, body, hy, hR⟩ := hY k x _ _ (n - 1) hx HA.b2
      have n4 : ¬ (k : Int) < 0 := by omega
      have n5 : (k : Int) < l.length := by omega
      have n6 : ¬ l.length ≤ k := by omega
      have g5 : IntKind.i64.wrap ((k : Int) + 1) = (k : Int) + 1 := IntWalk.i64_in _ (by omega)
      clear H5 HA HI
      gi_wp2
      refine ⟨fun h => (by cases h), ?_⟩
      refine hR.mono ?_
      rintro e W3 ⟨rfl, H6⟩
      gi_wp2
      refine ⟨⟨k + 1, by omega, by go_num, Hd.re H6⟩, by simp [intOf]; omega⟩
    · obtain rfl : k = l.length := by omega
      gi_wp2
      go_end0
      exact ⟨⟨_, rfl⟩, HI.re⟩
end
end Go.Proofs.YtogcikilphakmaaGreatDoor

/-
  slices.Clip of holds: the same list, no room behind it.
-/
namespace Go.Proofs.YtogcikilphakmaaGreatDoor
open Go.RowKit Spl

section
variable {w0 w : World} {R : List Pr} {l : List HoldM}
theorem Hd.clip {e : TypeId} {size g n cap : Nat} {xs : List Value} (H : Hd w0 (SlcC e size g n cap xs :: R) w) : Hd w0 (SlcC e size g n n xs :: R) w :=
  H.mono fun a h => by
    obtain ⟨h1, h2, h3, sp, h4, h5⟩ := h
    exact ⟨h1, Nat.le_refl _, by omega, sp, by have := Nat.mul_le_mul_right size h2; omega, h5⟩
set_option maxHeartbeats 1600000 in
theorem clip_hold {v : Value} (H : Hd w0 (SlE 242 v l :: R) w) :
    Calls Tryz.prog 112 #[v] w fun e w' => ∃ v', e = .returned v' ∧ Hd w0 (SlE 242 v' l :: R) w' := by
  rcases H.slc with ⟨rfl, -, -, -⟩ | ⟨g, c, rfl, HC⟩
  · go_enter Tryz.func112, Tryz.ntmps112
    go_wp2_with fail
    go_ret
    exact ⟨_, rfl, H⟩
  · have hcap := HC.slcC.2.1
    have n1 : (0 : Int) ≤ l.length := by omega
    have n2 : (l.length : Int) ≤ c := by omega
    go_enter Tryz.func112, Tryz.ntmps112
    go_wp2_with fail
    go_ret
    exact ⟨_, rfl, HC.clip.slc_mk⟩
end
end Go.Proofs.YtogcikilphakmaaGreatDoor

/-
  Append to an owned slice inside a fence. No program in sight.
-/
namespace Go.Proofs.YtogcikilphakmaaGreatDoor
open Go.RowKit Spl

section
variable {w0 w : World} {R L : List Pr} {P : Program} {F : Fence} {n : Nat}
theorem wpListIn_append_slc {ops : Array Oper} {rest : List Oper} {o : Oper} {a : Act} {Q : Exit → Act → World → Prop} (hgd : o.guard = none) (s x : Operand) (t : TypeId)
    (ho : o.op = .call { callee := .builtin .append, args := #[s, x], argTypes := #[t, t] })
    (e : TypeId) (i : TypeInfo) (z : Value) (size bytes : Nat) (ht : P.underlying t = some (.slice e)) (hi : P.info? e = some i) (hz : i.zero = some z)
    (hsize : i.size = size) (hby : i.bytes = bytes) (hzs : z.cells.size = size)
    (v : Value) (k : Nat) (xs : List Value) (hs : a.eval s = v) (H : Hd w0 (Slc e size v k xs :: R) w)
    (ad : Addr) (m c : Nat) (news : List Value) (hx : a.eval x = .slice (some ad) m c) (hl : news.length = m * size) (hnews : ∀ j u, news[j]? = some u → w.cell? (ad.add j) = some u) (h1 : ∀ u ∈ news, u.oneCell' = true)
    (h63 : k + m ≤ maxLen) (hbytes : (k + m) * bytes ≤ 140737488355328)
    (h : ∀ v' w', Hd w0 (Slc e size v' (k + m) (xs ++ news) :: R) w' → wpListIn F n P ops Q rest (a.put o.dst v') w') : wpListIn F n P ops Q (o :: rest) a w := by
  refine wpListIn_plain hgd fun K hK => ?_
  obtain ⟨v', w', hr, h2⟩ := run_append_slc (P := P) t o.type e i z size bytes ht hi hz hsize hby hzs v k xs H ad m c news hl hnews h1 h63 hbytes
  unfold Oper.wpIn
  refine ⟨?_, ?_⟩
  · simp [Oper.about, ho, resolve, Target.leads, Sem.run_pure]
  · rw [Oper.semAt_plain F _ _ (by rw [ho]; intro c hc'; cases hc')]
    simp [execOp, ho, resolve, invoke, builtin, hs, hx, hr, Result.andThen]
    exact hK _ _ (h v' w' h2)
end
end Go.Proofs.YtogcikilphakmaaGreatDoor
