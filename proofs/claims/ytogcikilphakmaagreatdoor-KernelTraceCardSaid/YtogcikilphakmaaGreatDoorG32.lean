/-
  Merged texts of one proof: Un9, Un10, Un11, UnI.
-/
import Derived.Test.YtogcikilphakmaaGreatDoorG04
import Derived.Test.YtogcikilphakmaaGreatDoorG06
import Derived.Test.YtogcikilphakmaaGreatDoorG29
import Derived.Test.YtogcikilphakmaaGreatDoorG31

/-
  units.Table: cell, Load, Store. Every table, every call.
-/
namespace Go.Proofs.YtogcikilphakmaaGreatDoor
open Go.RowKit Spl

def UnM.cellE (m : UnM) (job res : Int) : Int :=
  if job < 0 ∨ res < 0 ∨ (m.units.length : Int) ≤ res then 1
  else if (m.heldL job)[res.toNat]?.getD 0 = 0 then 23 else 0
def UnM.stored (m : UnM) (r : Nat) (v : Int) : UnM := ⟨m.units, m.free, m.cells.set r v, m.jobs⟩
section
variable {w0 w : World} {R : List Pr} {t : Nat} {m : UnM} {job res : Int}
theorem UnM.cellE_cases (m : UnM) (job res : Int) : m.cellE job res = 1 ∨ m.cellE job res = 23 ∨ (m.cellE job res = 0 ∧ ∃ r : Nat, res = r ∧ r < m.units.length) := by
  unfold UnM.cellE
  by_cases a : job < 0 ∨ res < 0 ∨ (m.units.length : Int) ≤ res
  · rw [if_pos a]; exact .inl rfl
  · rw [if_neg a]
    by_cases c : (m.heldL job)[res.toNat]?.getD 0 = 0
    · rw [if_pos c]; exact .inr (.inl rfl)
    · rw [if_neg c]; exact .inr (.inr ⟨rfl, res.toNat, by omega, by omega⟩)
set_option maxRecDepth 20000 in
set_option maxHeartbeats 4000000 in
theorem unCell (H : Hd w0 (UnP t m :: R) w) (hm : m.Ok) (h2 : m.Ok2) :
    Calls Tryz.prog 184 #[.pointer (some ⟨t, 0, none⟩), .int .i64 job, .int .i64 res] w fun e w' => e = .returned (.int .i64 (m.cellE job res)) ∧ Hd w0 (UnP t m :: R) w' := by
  obtain ⟨E, hE⟩ : ∃ E, m.cellE job res = E := ⟨_, rfl⟩
  rw [hE]
  unfold UnM.cellE at hE
  by_cases z1 : job < 0
  · rw [if_pos (.inl z1)] at hE
    subst hE
    go_enter Tryz.func184, Tryz.ntmps184
    go_wp2_with fail
    go_ret
    exact ⟨rfl, H⟩
  by_cases z2 : res < 0 ∨ (m.units.length : Int) ≤ res
  · have hno := unHasNo H res z2
    rw [if_pos (.inr z2)] at hE
    subst hE
    clear z2
    go_enter Tryz.func184, Tryz.ntmps184
    go_wp2_with fail
    refine hno.mono ?_
    rintro e w1 ⟨rfl, rfl⟩
    go_wp2_with fail
    go_ret
    exact ⟨rfl, H⟩
  obtain ⟨r, rfl⟩ : ∃ r : Nat, res = r := ⟨res.toNat, by omega⟩
  rw [if_neg (by omega), Int.toNat_natCast] at hE
  have hr : r < m.units.length := by omega
  have hyes := unHas H r hr
  clear z2
  have hlen := UnM.heldL_len hm job
  have hof := unOf H hm job
  obtain ⟨h, hh⟩ : ∃ h, (m.heldL job)[r]? = some h := ⟨(m.heldL job)[r]'(by have := h2.u; omega), List.getElem?_eq_getElem _⟩
  have hix := index_held hlen hh
  rw [hh, Option.getD_some] at hE
  obtain ⟨A, hA⟩ : ∃ A, heldA (m.heldL job) = A := ⟨_, rfl⟩
  rw [hA] at hof hix
  clear hA hh hlen hm h2
  by_cases z3 : h = 0
  · rw [if_pos z3] at hE
    subst hE
    go_enter Tryz.func184, Tryz.ntmps184
    go_wp2_with fail
    refine hyes.mono ?_
    rintro e w1 ⟨rfl, rfl⟩
    clear hyes
    go_wp2_with fail
    refine hof.mono ?_
    rintro e w2 ⟨rfl, H2⟩
    clear hof
    go_wp2_with fail
    go_ret
    exact ⟨rfl, H2⟩
  · rw [if_neg z3] at hE
    subst hE
    go_enter Tryz.func184, Tryz.ntmps184
    go_wp2_with fail
    refine hyes.mono ?_
    rintro e w1 ⟨rfl, rfl⟩
    clear hyes
    go_wp2_with fail
    refine hof.mono ?_
    rintro e w2 ⟨rfl, H2⟩
    clear hof
    go_wp2_with fail
    go_ret
    exact ⟨rfl, H2⟩
set_option maxRecDepth 20000 in
set_option maxHeartbeats 4000000 in
theorem unLoadNo (H : Hd w0 (UnP t m :: R) w) (hm : m.Ok) (h2 : m.Ok2) (hE : ¬ m.cellE job res = 0) :
    Calls Tryz.prog 165 #[.pointer (some ⟨t, 0, none⟩), .int .i64 job, .int .i64 res] w fun e w' => e = .returned (.tuple #[.int .i64 0, .int .i64 (m.cellE job res)]) ∧ Hd w0 (UnP t m :: R) w' := by
  have hc := unCell (job := job) (res := res) H hm h2
  obtain ⟨E, hEE⟩ : ∃ E, m.cellE job res = E := ⟨_, rfl⟩
  rw [hEE] at hc hE ⊢
  clear hEE hm h2 H
  go_enter Tryz.func165, Tryz.ntmps165
  go_wp2_with fail
  refine hc.mono ?_
  rintro e w1 ⟨rfl, H2⟩
  clear hc
  go_wp2_with fail
  go_ret2
  exact ⟨rfl, H2⟩
set_option maxRecDepth 20000 in
set_option maxHeartbeats 4000000 in
theorem unLoad {r : Nat} {n : Int} (H : Hd w0 (UnP t m :: R) w) (hm : m.Ok) (h2 : m.Ok2) (hE : m.cellE job r = 0) (hn : m.cells[r]? = some n) :
    Calls Tryz.prog 165 #[.pointer (some ⟨t, 0, none⟩), .int .i64 job, .int .i64 r] w fun e w' => e = .returned (.tuple #[.int .i64 n, .int .i64 0]) ∧ Hd w0 (UnP t m :: R) w' := by
  have hc := unCell (job := job) (res := r) H hm h2
  rw [hE] at hc
  clear hE hm h2 H
  go_enter Tryz.func165, Tryz.ntmps165
  go_wp2_with fail
  refine hc.mono ?_
  rintro e w1 ⟨rfl, H2⟩
  clear hc
  obtain ⟨⟨vu, vf, vc, vj, bs⟩, hb, H1⟩ := UnP.opened H2
  dsimp only at H1
  obtain ⟨g, cap, rfl, -, -, -, hcu⟩ := (H1.v vc).slE_at hn
  have u0 := hcu 0 _ rfl
  simp only [Enc.size, Nat.add_zero, Nat.mul_one] at u0
  have c0 := (show _ = some (.slice (some ⟨g, 0, none⟩) m.cells.length cap) from (H1.k t).ce 2 rfl)
  have hlt := lt_of_get? hn
  have n1 : ¬ (r : Int) < 0 := by omega
  have n2 : (r : Int) < m.cells.length := by omega
  have n3 : ¬ m.cells.length ≤ r := by omega
  clear hcu H1 hb hn
  go_wp2_with fail
  go_ret2
  exact ⟨rfl, H2⟩
set_option maxRecDepth 20000 in
set_option maxHeartbeats 4000000 in
theorem unStoreNo (H : Hd w0 (UnP t m :: R) w) (hm : m.Ok) (h2 : m.Ok2) {v : Int} (hE : ¬ m.cellE job res = 0) :
    Calls Tryz.prog 166 #[.pointer (some ⟨t, 0, none⟩), .int .i64 job, .int .i64 res, .int .i64 v] w fun e w' => e = .returned (.int .i64 (m.cellE job res)) ∧ Hd w0 (UnP t m :: R) w' := by
  have hc := unCell (job := job) (res := res) H hm h2
  obtain ⟨E, hEE⟩ : ∃ E, m.cellE job res = E := ⟨_, rfl⟩
  rw [hEE] at hc hE ⊢
  clear hEE hm h2 H
  go_enter Tryz.func166, Tryz.ntmps166
  go_wp2_with fail
  refine hc.mono ?_
  rintro e w1 ⟨rfl, H2⟩
  clear hc
  go_wp2_with fail
  go_ret
  exact ⟨rfl, H2⟩
set_option maxRecDepth 20000 in
set_option maxHeartbeats 4000000 in
theorem unStore {r : Nat} {n : Int} (H : Hd w0 (UnP t m :: R) w) (hm : m.Ok) (h2 : m.Ok2) {v : Int} (hE : m.cellE job r = 0) (hn : m.cells[r]? = some n) :
    Calls Tryz.prog 166 #[.pointer (some ⟨t, 0, none⟩), .int .i64 job, .int .i64 r, .int .i64 v] w fun e w' => e = .returned (.int .i64 0) ∧ Hd w0 (UnP t (m.stored r v) :: R) w' := by
  have hc := unCell (job := job) (res := r) H hm h2
  rw [hE] at hc
  clear hE hm h2 H
  go_enter Tryz.func166, Tryz.ntmps166
  go_wp2_with fail
  refine hc.mono ?_
  rintro e w1 ⟨rfl, H2⟩
  clear hc
  obtain ⟨⟨vu, vf, vc, vj, bs⟩, hb, H1⟩ := UnP.opened H2
  dsimp only at H1 hb
  obtain ⟨g, cap, rfl, -, -, HC, hcu⟩ := (H1.v vc).slE_at hn
  have u0 := hcu 0 _ rfl
  simp only [Enc.size, Nat.add_zero, Nat.mul_one] at u0
  have c0 := (show _ = some (.slice (some ⟨g, 0, none⟩) m.cells.length cap) from (H1.k t).ce 2 rfl)
  have hlt := lt_of_get? hn
  have n1 : ¬ (r : Int) < 0 := by omega
  have n2 : (r : Int) < m.cells.length := by omega
  have n3 : ¬ m.cells.length ≤ r := by omega
  have fx := HC.slcC_fr r
  have HS := HC.slcC_set (j := r) (by rw [flat_len]; simp [Enc.size]; omega) (.int .i64 v)
  have e5 : (flat m.cells).set r (.int .i64 v) = flat (m.cells.set r v) := by
    have := flat_set (l := m.cells) (k := r) (x := n) (y := v) hn (j := 0) (v := .int .i64 v) (by decide) rfl
    simpa [Enc.size] using this
  rw [e5] at HS
  clear hcu H1 hn HC
  go_wp2_with fail
  go_ret
  refine ⟨rfl, ?_⟩
  have HT := Hd.slc_mk HS
  refine UnP.shut (x := ⟨vu, vf, .slice (some ⟨g, 0, none⟩) m.cells.length cap, vj, bs⟩) ?_ hb
  dsimp only [UnM.stored]
  unfold SlE at HT ⊢
  rw [List.length_set]
  exact HT.re
end
end Go.Proofs.YtogcikilphakmaaGreatDoor

/-
  units.Table: Drop. Every table, every call.
-/
namespace Go.Proofs.YtogcikilphakmaaGreatDoor
open Go.RowKit Spl

theorem keys_pos {α K : Type} [KLt K] [Keyed α K] {l l' : List α} (h : l.map (Keyed.key : α → K) = l'.map Keyed.key) (k : K) : pos l k = pos l' k := by
  have e : ∀ l : List α, pos l k = ((l.map (Keyed.key : α → K)).takeWhile (fun a => KLt.lt a k)).length := by
    intro l
    rw [List.takeWhile_map, List.length_map]
    rfl
  rw [e l, e l', h]
theorem keys_sorted {α K : Type} [KLt K] [Keyed α K] {l l' : List α} (h : l.map (Keyed.key : α → K) = l'.map Keyed.key) (hs : Sorted l) : Sorted l' := by
  have e : ∀ l : List α, Sorted l ↔ (l.map (Keyed.key : α → K)).Pairwise (fun a b => KLt.lt a b = true) := by
    intro l
    rw [List.pairwise_map]
    exact Iff.rfl
  rw [e, ← h, ← e]
  exact hs
theorem set_keys {α K : Type} [KLt K] [Keyed α K] {l : List α} {i : Nat} {x y : α} (hx : l[i]? = some x) (hk : (Keyed.key y : K) = Keyed.key x) : (l.set i y).map (Keyed.key : α → K) = l.map Keyed.key := by
  rw [List.map_set]
  exact list_set_same (by rw [List.getElem?_map, hx, hk]; rfl)
theorem rowAt_set {α K : Type} [KLt K] [Keyed α K] {l : List α} {k : K} {x y : α} (hs : Sorted l) (h : rowAt l k = some x) (hk : (Keyed.key y : K) = Keyed.key x) : rowAt (l.set (pos l k) y) k = some y := by
  obtain ⟨h1, h2⟩ := rowAt_some hs h
  have hp := keys_pos (set_keys h1 hk) k
  unfold rowAt
  rw [hp, List.getElem?_set_self (lt_of_get? h1)]
  dsimp only
  rw [hk, h2, KLt.irr]
  rfl
def UnM.popN (m : UnM) (job : Int) : Nat → UnM
  | 0 => m
  | k + 1 => (m.popN job k).popped job
structure DropS (m0 : UnM) (job : Int) (L : List LockM) (k : Nat) (m : UnM) : Prop where
  ok : m.Ok
  row : ∃ j, rowAt m.jobs job = some j ∧ j.h.locks = L.take (L.length - k) ∧ ∀ x ∈ j.h.held, -(255 + 255 * (k : Int)) ≤ x ∧ x ≤ 255 + 255 * (k : Int)
  p : pos m.jobs job = pos m0.jobs job
  u : m.units = m0.units
  f : m.free.length = m0.units.length ∧ ∀ x ∈ m.free, -(255 + 255 * (k : Int)) ≤ x ∧ x ≤ 255 + 255 * (k : Int)
theorem take_last {α : Type} {L : List α} {k : Nat} (hk : k < L.length) : ∃ x, x ∈ L ∧ L.take (L.length - k) = L.take (L.length - (k + 1)) ++ [x] := by
  have e : L.length - k = (L.length - (k + 1)) + 1 := by omega
  refine ⟨L[L.length - (k + 1)]'(by omega), List.getElem_mem _, ?_⟩
  rw [e, List.take_add_one, List.getElem?_eq_getElem (by omega)]
  rfl
theorem mem_set_le {l : List Int} {i : Nat} {y a b : Int} (h : ∀ x ∈ l, a ≤ x ∧ x ≤ b) (hy : a ≤ y ∧ y ≤ b) : ∀ x ∈ l.set i y, a ≤ x ∧ x ≤ b := by
  intro x hx
  rcases List.mem_or_eq_of_mem_set hx with h1 | h1
  · exact h x h1
  · rw [h1]; exact hy
theorem DropS.step {m0 m : UnM} {job : Int} {L : List LockM} {k : Nat} (h : DropS m0 job L k m) (hL : ∀ x ∈ L, 0 ≤ x.res ∧ x.res < m0.units.length ∧ 1 ≤ x.units ∧ x.units ≤ 255) (h16 : m0.units.length ≤ 16) (hk : k + 1 < L.length) : DropS m0 job L (k + 1) (m.popped job) := by
  obtain ⟨j, hrow, hl, hh⟩ := h.row
  obtain ⟨x, hx, htk⟩ := take_last (L := L) (k := k) (by omega)
  obtain ⟨x1, x2, x3, x4⟩ := hL x hx
  have hl2 := hl.trans htk
  obtain ⟨hpos, hkey⟩ := rowAt_some h.ok.s hrow
  have h1 : j.h.locks.getLast? = some x := by rw [hl2]; simp
  have h2 : j.h.locks.length = L.length - (k + 1) + 1 := by rw [hl2]; simp
  have h3 : j.h.locks.dropLast = L.take (L.length - (k + 1)) := by rw [hl2]; simp
  obtain ⟨r, hr⟩ : ∃ r : Nat, x.res = r := ⟨x.res.toNat, by omega⟩
  have hlen := h.ok.h j (List.mem_of_getElem? hpos)
  obtain ⟨F, hF⟩ : ∃ F, m.free[r]? = some F := ⟨m.free[r]'(by rw [h.f.1]; omega), List.getElem?_eq_getElem _⟩
  obtain ⟨hd, hhd⟩ : ∃ hd, j.h.held[r]? = some hd := ⟨j.h.held[r]'(by omega), List.getElem?_eq_getElem _⟩
  have hFb := h.f.2 F (List.mem_of_getElem? hF)
  have hhb := hh hd (List.mem_of_getElem? hhd)
  have e9 : m.popped job = ⟨m.units, m.free.set r (F + x.units), m.cells, m.jobs.set (pos m.jobs job) ⟨j.job, ⟨L.take (L.length - (k + 1)), j.h.held.set r (hd - x.units)⟩⟩⟩ := by
    unfold UnM.popped
    rw [hrow]
    dsimp only
    rw [h1]
    dsimp only
    rw [h2, h3, if_neg (by omega), hr, Int.toNat_natCast, hF, hhd]
    rfl
  have hks := set_keys (K := Int) (y := (⟨j.job, ⟨L.take (L.length - (k + 1)), j.h.held.set r (hd - x.units)⟩⟩ : JobM)) hpos rfl
  rw [e9]
  refine ⟨⟨keys_sorted hks.symm h.ok.s, by rw [List.length_set]; exact h.ok.n, ?_⟩, ⟨_, rowAt_set h.ok.s hrow rfl, rfl, ?_⟩, (keys_pos hks job).trans h.p, h.u, ?_, ?_⟩
  · intro j' hj'
    rcases List.mem_or_eq_of_mem_set hj' with q | q
    · exact h.ok.h j' q
    · rw [q]; dsimp only; rw [List.length_set]; exact hlen
  · push_cast
    refine mem_set_le (fun x hx => ?_) (by omega)
    have := hh x hx
    omega
  · dsimp only; rw [List.length_set]; exact h.f.1
  · push_cast
    refine mem_set_le (fun x hx => ?_) (by omega)
    have := h.f.2 x hx
    omega
def UnM.locksN (m : UnM) (job : Int) : Nat :=
  match rowAt m.jobs job with
  | none => 0
  | some j => j.h.locks.length
section
variable {w0 w : World} {R : List Pr} {t : Nat} {m : UnM} {bs : List Nat} {job : Int}
theorem unLenB (H : Hd w0 (UnPB t m bs :: R) w) (hm : m.Ok) {j : JobM} {b : Nat} (hrow : rowAt m.jobs job = some j) (hbs : bs[pos m.jobs job]? = some b) : Calls Tryz.prog 185 #[.pointer (some ⟨b, 0, none⟩)] w fun e w' =>
    e = .returned (.int .i64 j.h.locks.length) ∧ w = w' := by
  obtain ⟨⟨vu, vf, vc, vj⟩, hb, H1⟩ := UnPB.opened H
  dsimp only at H1
  have hpos := (rowAt_some hm.s hrow).1
  have H5 : Hd w0 (all (List.zipWith hol bs m.jobs) :: cel t 228 #[vu, vf, vc, vj] :: SlE 3 vu m.units :: SlE 3 vf m.free :: SlE 3 vc m.cells :: SlE 267 vj (rowsOf m.jobs bs) :: R) w := H1.re
  obtain ⟨lv, H6⟩ := (H5.row_nth hbs hpos).out
  have H7 : Hd w0 (cel b 240 (lv :: j.h.held.map (Value.int .i64)).toArray :: SlE 296 lv j.h.locks :: all ((List.zipWith hol bs m.jobs).eraseIdx (pos m.jobs job)) :: cel t 228 #[vu, vf, vc, vj] :: SlE 3 vu m.units :: SlE 3 vf m.free :: SlE 3 vc m.cells :: SlE 267 vj (rowsOf m.jobs bs) :: R) w := H6.flat
  exact stkLen_lock (o := 0) H7 rfl
set_option maxRecDepth 20000 in
set_option maxHeartbeats 4000000 in
theorem unDrop (H : Hd w0 (UnP t m :: R) w) (hm : m.Ok) (h2 : m.Ok2) (h3 : m.Ok3) :
    Calls Tryz.prog 168 #[.pointer (some ⟨t, 0, none⟩), .int .i64 job] w fun e w' => e = .returned (.int .i64 (m.locksN job)) ∧ Hd w0 (UnP t (m.popN job (m.locksN job)) :: R) w' := by
  obtain ⟨bs, H⟩ := UnP.toB H
  unfold UnM.locksN
  cases hrow : rowAt m.jobs job with
  | none =>
    have hg := unGetNoB H hm hrow
    clear H
    go_enter Tryz.func168, Tryz.ntmps168
    go_wp2_with fail
    refine hg.mono ?_
    rintro e w1 ⟨rfl, H2⟩
    clear hg
    go_wp2_with fail
    go_ret
    exact ⟨rfl, UnPB.toP H2⟩
  | some j =>
    obtain ⟨b, hbs, hg⟩ := unGetB H hm hrow
    have hpos := (rowAt_some hm.s hrow).1
    have hmem := List.mem_of_getElem? hpos
    obtain ⟨hne, hlk⟩ := h3.k j hmem
    have hN0 : 0 < j.h.locks.length := List.length_pos_iff.2 hne
    have hN5 := (h2.hv j hmem).2
    have hS0 : DropS m job j.h.locks 0 m := ⟨hm, ⟨j, hrow, by simp, fun x hx => by have := (h2.hv j hmem).1 x hx; omega⟩, rfl, rfl, h2.f, fun x hx => by have := h2.fv x hx; omega⟩
    have hu := h2.u
    obtain ⟨L, hL⟩ : ∃ L, j.h.locks = L := ⟨_, rfl⟩
    have hlen0 := fun (w1 : World) (H2 : Hd w0 (UnPB t m bs :: R) w1) => unLenB H2 hm hrow hbs
    rw [hL] at hlk hN0 hN5 hS0
    dsimp only
    rw [hL] at hlen0 ⊢
    clear hne hL hmem H
    obtain ⟨N, hN⟩ : ∃ N, L.length = N := ⟨_, rfl⟩
    rw [hN] at hN0 hN5 hlen0 ⊢
    replace hlk := Lib.hid hlk
    have hlenH := Lib.hid hlen0
    clear hlen0
    go_enter Tryz.func168, Tryz.ntmps168
    go_wp2_with fail
    refine hg.mono ?_
    rintro e w1 ⟨rfl, H2⟩
    clear hg
    have hlen := hlenH.out _ H2
    clear hlenH
    go_wp2_with fail
    refine hlen.mono ?_
    rintro e w2 ⟨rfl, rfl⟩
    clear hlen
    go_wp2_with fail
    go_loopw [23] (fun i wr => ∃ k : Nat, k ≤ N ∧ i = .int .i64 k ∧ (k < N → DropS m job L k (m.popN job k) ∧ Hd w0 (UnPB t (m.popN job k) bs :: R) wr) ∧ (k = N → Hd w0 (UnP t (m.popN job k) :: R) wr)) (fun i _ => N - (intOf i).toNat)
    case atStart => exact ⟨0, Nat.zero_le _, rfl, fun _ => ⟨hS0, H2⟩, fun h => by omega⟩
    case round =>
      obtain ⟨k, hk, rfl, hA, hB⟩ := hrel
      by_cases hlt : k < N
      · obtain ⟨hS, HI⟩ := hA hlt
        clear hA hB
        obtain ⟨j', hrow', hl', hh'⟩ := hS.row
        obtain ⟨x, hx, htk⟩ := take_last (L := L) (k := k) (by omega)
        obtain ⟨x1, x2, x3, x4⟩ := hlk.out x hx
        have hl2 := hl'.trans htk
        have hbs' : bs[pos (m.popN job k).jobs job]? = some b := by rw [hS.p]; exact hbs
        obtain ⟨xr, n⟩ := x
        obtain ⟨r, rfl⟩ : ∃ r : Nat, xr = r := ⟨xr.toNat, by dsimp only at x1; omega⟩
        dsimp only at x2 x3 x4
        have hlen' := hS.ok.h j' (List.mem_of_getElem? (rowAt_some hS.ok.s hrow').1)
        obtain ⟨F, hF⟩ : ∃ F, (m.popN job k).free[r]? = some F := ⟨(m.popN job k).free[r]'(by rw [hS.f.1]; omega), List.getElem?_eq_getElem _⟩
        obtain ⟨hd, hhd⟩ : ∃ hd, j'.h.held[r]? = some hd := ⟨j'.h.held[r]'(by omega), List.getElem?_eq_getElem _⟩
        have hFb := hS.f.2 F (List.mem_of_getElem? hF)
        have hhb := hh' hd (List.mem_of_getElem? hhd)
        have hp := unPop HI hS.ok hrow' hbs' hl2 (by simp; omega) hhd hF (by omega)
        have g1 : IntKind.i64.wrap ((k : Int) + 1) = (k : Int) + 1 := IntWalk.i64_in _ (by omega)
        have hlti : (k : Int) < N := by omega
        clear hF hhd hl' htk hh' hFb hhb hlen' hx x1
        go_wp2_with fail
        refine hp.mono ?_
        rintro e w3 ⟨rfl, H4⟩
        clear hp
        go_wp2_with fail
        refine ⟨⟨k + 1, by omega, by go_num, fun hk1 => ⟨hS.step hlk.out hu (by omega), ?_⟩, fun hk1 => UnPB.toP H4⟩, by simp [intOf]; omega⟩
        rw [if_neg (by simp; omega)] at H4
        exact H4
      · obtain rfl : k = N := by omega
        have HF := hB rfl
        clear hA hB
        go_wp2_with fail
        go_ret
        exact ⟨rfl, HF⟩
end
end Go.Proofs.YtogcikilphakmaaGreatDoor

/-
  units.New. Every list.
-/
namespace Go.Proofs.YtogcikilphakmaaGreatDoor
open Go.RowKit Spl

def newUn (units : List Int) : Int := if (16 : Int) < units.length then 4 else if units.all (fun x => decide (1 ≤ x) && decide (x ≤ 255)) then 0 else 1
theorem Src.follow {α : Type} [Enc α] {w0 w : World} {X : Pr} {R : List Pr} {v : Value} {l : List α} (_ : Hd w0 (X :: R) w) (h : Hid (Src w0 R v l)) : Hid (Src w0 (X :: R) v l) := Lib.hid (h.out.of (fun H => H.tail))
theorem madeN {w0 w : World} {R : List Pr} (H : Hd w0 R w) (N : Nat) (hN : N ≤ 100000) : Hd w0 (SlE 3 (.slice (some ⟨w.heap.size, 0, none⟩) N N) (zeros N) :: R) (w.alloc (.cells (madeCells #[.int .i64 0] N) 3)) := by
  have h := H.made 3 #[.int .i64 0] 1 N N (Nat.le_refl _) (by unfold maxLen; omega) rfl
  rw [Nat.mul_one] at h
  have e : (madeCells #[Value.int .i64 0] N).toList = flat (zeros N) := by
    have := madeInts N
    rw [Nat.mul_one] at this
    exact this
  rw [e] at h
  have h2 := Hd.slc_mk h
  unfold SlE
  have : (zeros N).length = N := by simp [zeros]
  rw [this]
  exact h2
section
variable {w0 w : World} {R : List Pr}
set_option maxRecDepth 20000 in
set_option maxHeartbeats 1600000 in
theorem unNew (H : Hd w0 R w) {units : List Int} {v : Value} (hs : Srd w0 R v units) (hc : newUn units = 0) :
    Calls Tryz.prog 74 #[v] w fun e w' => ∃ t, e = .returned (.tuple #[.pointer (some ⟨t, 0, none⟩), .int .i64 0]) ∧ Hd w0 (UnP t ⟨units, units, List.replicate units.length 0, []⟩ :: R) w' := by
  unfold newUn at hc
  split at hc
  · cases hc
  rename_i h2
  have hall : ∀ x ∈ units, 1 ≤ x ∧ x ≤ 255 := by
    split at hc
    · rename_i h3
      intro x hx
      have := List.all_eq_true.1 h3 x hx
      simpa using this
    · cases hc
  obtain ⟨a, c, hv⟩ := hs.form
  subst hv
  have n3 : ¬ (16 : Int) < units.length := by omega
  replace hs := Lib.hid hs
  replace hall := Lib.hid hall
  clear h2 hc
  go_enter Tryz.func74, Tryz.ntmps74
  go_wp2_with fail
  go_loop [11] (fun x => ∃ k : Nat, k ≤ units.length ∧ x = .int .i64 k) (fun x => units.length - (intOf x).toNat)
  case atStart => exact ⟨0, Nat.zero_le _, rfl⟩
  case round =>
    obtain ⟨k, hk, rfl⟩ := hrel
    by_cases hlt : k < units.length
    · obtain ⟨x, hx⟩ : ∃ x, units[k]? = some x := ⟨units[k], List.getElem?_eq_getElem hlt⟩
      have hx2 := hall.out x (List.mem_of_getElem? hx)
      obtain ⟨g, c2, hv2, -, hcell⟩ := hs.out.at hx
      injection hv2 with q1 q2 q3
      subst q1; subst q3
      have f0 := hcell H 0 _ rfl
      simp only [Enc.size, Nat.add_zero, Nat.mul_one] at f0
      have n4 : ¬ (k : Int) < 0 := by omega
      have n5 : (k : Int) < units.length := by omega
      have n6 : ¬ units.length ≤ k := by omega
      have n7 : ¬ x < 1 := by omega
      have n8 : ¬ 255 < x := by omega
      have g5 : IntKind.i64.wrap ((k : Int) + 1) = (k : Int) + 1 := IntWalk.i64_in _ (by omega)
      clear hcell q2 hx hx2
      go_wp2_with fail
      go_round
      case rel => exact ⟨k + 1, by omega, by simp⟩
      case measure => simp [intOf]; omega
    · obtain rfl : k = units.length := by omega
      have hsr := Lib.hid hs.out.src
      clear hs hall
      obtain ⟨i0, hi, hz0, hz1, hz2⟩ := info_parts arInfoI
      go_wp2_with fail
      have H := H.drew
      have tok := Lib.hid True.intro
      have hmk : ∀ u : World, (Instr.makeSlice 26 (.int .i64 units.length) (.int .i64 units.length)).run Tryz.prog u = .ok (.slice (some ⟨u.heap.size, 0, none⟩) units.length units.length) (u.alloc (.cells (madeCells #[.int .i64 0] units.length) 3)) := fun u => by
        have h := run_make (P := Tryz.prog) u 26 3 i0 _ Tryz.underlying26 hi hz0 .i64 .i64 units.length units.length (by omega) (by omega) (by rw [hz2]; omega) (by omega)
        rw [hz1] at h
        simp only [Int.toNat_natCast, Nat.mul_one] at h
        exact h
      clear hi hz0 hz1 hz2
      go_region_held3 (fun _ => True) (trivial) (first | (go_at_call 43; clear tok; (first | (refine (clone_int H hsr.out (by omega)).mono ?_) | (have H := madeN H units.length (by omega); have hsr := Src.follow H hsr; refine (clone_int H hsr.out (by omega)).mono ?_)); rintro e w1 ⟨v1, rfl, H1⟩; obtain ⟨av1, cv1, rfl, -, -, -, -⟩ := H1.slc_form; have H := H1; have hsr := Src.follow H hsr) | (go_at_call 43; (first | (refine (clone_int H hsr.out (by omega)).mono ?_) | (have H := madeN H units.length (by omega); have hsr := Src.follow H hsr; refine (clone_int H hsr.out (by omega)).mono ?_)); rintro e w2 ⟨v2, rfl, H2⟩; obtain ⟨av2, cv2, rfl, -, -, -, -⟩ := H2.slc_form; have H := H2; have hsr := Src.follow H hsr))
      · have H := madeN H units.length (by omega)
        go_wp2_with fail
        go_ret2
        refine ⟨_, rfl, ?_⟩
        have HA : Hd w0 _ ((w2.alloc (.cells (madeCells #[.int .i64 0] units.length) 3)).alloc (.cells #[.slice av1 units.length cv1, .slice av2 units.length cv2, .slice (some ⟨w2.heap.size, 0, none⟩) units.length units.length, .slice none 0 0] 228)) := H.fol
        have HB := HA.slc_nil 267 2
        have HC : Hd w0 (SlE 267 (.slice none 0 0) ([] : List RowH) :: pt _ _ :: _) _ := HB
        refine UnP.shut (x := ⟨.slice av1 units.length cv1, .slice av2 units.length cv2, .slice (some ⟨w2.heap.size, 0, none⟩) units.length units.length, .slice none 0 0, []⟩) (m := ⟨units, units, zeros units.length, []⟩) ?_ rfl
        dsimp only
        show Hd w0 (cel _ _ _ :: SlE _ _ units :: SlE _ _ units :: SlE _ _ (zeros units.length) :: SlE _ _ ([] : List RowH) :: all [] :: R) _
        have HD : Hd w0 (all [] :: SlE 267 (.slice none 0 0) ([] : List RowH) :: pt _ _ :: _) _ := Hd.pack (L := []) HC
        exact HD.re
      · go_wp2_with fail
        go_ret2
        refine ⟨_, rfl, ?_⟩
        have HA : Hd w0 _ (w2.alloc (.cells #[.slice av1 units.length cv1, .slice av2 units.length cv2, .slice (some ⟨w1.heap.size, 0, none⟩) units.length units.length, .slice none 0 0] 228)) := H.fol
        have HB := HA.slc_nil 267 2
        have HC : Hd w0 (SlE 267 (.slice none 0 0) ([] : List RowH) :: pt _ _ :: _) _ := HB
        refine UnP.shut (x := ⟨.slice av1 units.length cv1, .slice av2 units.length cv2, .slice (some ⟨w1.heap.size, 0, none⟩) units.length units.length, .slice none 0 0, []⟩) (m := ⟨units, units, zeros units.length, []⟩) ?_ rfl
        dsimp only
        show Hd w0 (cel _ _ _ :: SlE _ _ units :: SlE _ _ units :: SlE _ _ (zeros units.length) :: SlE _ _ ([] : List RowH) :: all [] :: R) _
        have HD : Hd w0 (all [] :: SlE 267 (.slice none 0 0) ([] : List RowH) :: pt _ _ :: _) _ := Hd.pack (L := []) HC
        exact HD.re
      · go_wp2_with fail
        go_ret2
        refine ⟨_, rfl, ?_⟩
        have HA : Hd w0 _ (w2.alloc (.cells #[.slice av1 units.length cv1, .slice av2 units.length cv2, .slice (some ⟨w.heap.size, 0, none⟩) units.length units.length, .slice none 0 0] 228)) := H.fol
        have HB := HA.slc_nil 267 2
        have HC : Hd w0 (SlE 267 (.slice none 0 0) ([] : List RowH) :: pt _ _ :: _) _ := HB
        refine UnP.shut (x := ⟨.slice av1 units.length cv1, .slice av2 units.length cv2, .slice (some ⟨w.heap.size, 0, none⟩) units.length units.length, .slice none 0 0, []⟩) (m := ⟨units, units, zeros units.length, []⟩) ?_ rfl
        dsimp only
        show Hd w0 (cel _ _ _ :: SlE _ _ units :: SlE _ _ units :: SlE _ _ (zeros units.length) :: SlE _ _ ([] : List RowH) :: all [] :: R) _
        have HD : Hd w0 (all [] :: SlE 267 (.slice none 0 0) ([] : List RowH) :: pt _ _ :: SlE _ _ units :: SlE _ _ units :: SlE 3 (.slice (some ⟨w.heap.size, 0, none⟩) units.length units.length) (zeros units.length) :: R) _ := Hd.pack (L := []) HC
        exact HD.re
end
end Go.Proofs.YtogcikilphakmaaGreatDoor

/-
  The plain law of the resource table: what holds of every table that the calls can make.
-/
namespace Go.Proofs.YtogcikilphakmaaGreatDoor
open Go.RowKit Spl

def lkSum (l : List LockM) (r : Nat) : Int := (l.map fun x : LockM => if x.res = (r : Int) then x.units else 0).sum
def heldSum (l : List JobM) (r : Nat) : Int := (l.map fun j => j.h.held[r]?.getD 0).sum
structure UnM.Inv (m : UnM) : Prop where
  u16 : m.units.length ≤ 16
  uv : ∀ x ∈ m.units, 1 ≤ x ∧ x ≤ 255
  cl : m.cells.length = m.units.length
  fl : m.free.length = m.units.length
  s : Sorted m.jobs
  hl : ∀ j ∈ m.jobs, j.h.held.length = 16
  hv : ∀ j ∈ m.jobs, ∀ (r : Nat) (h : Int), j.h.held[r]? = some h → h = lkSum j.h.locks r
  lk : ∀ j ∈ m.jobs, j.h.locks ≠ [] ∧ ∀ x ∈ j.h.locks, 0 ≤ x.res ∧ x.res < m.units.length ∧ 1 ≤ x.units ∧ x.units ≤ 255
  fr : ∀ (r : Nat) (F U : Int), m.free[r]? = some F → m.units[r]? = some U → 0 ≤ F ∧ F + heldSum m.jobs r = U
theorem lkSum_nil (r : Nat) : lkSum [] r = 0 := rfl
theorem lkSum_cons (x : LockM) (l : List LockM) (r : Nat) : lkSum (x :: l) r = (if x.res = r then x.units else 0) + lkSum l r := rfl
theorem lkSum_snoc (x : LockM) (l : List LockM) (r : Nat) : lkSum (l ++ [x]) r = lkSum l r + (if x.res = r then x.units else 0) := by
  induction l with
  | nil => simp [lkSum]
  | cons y l ih => rw [List.cons_append, lkSum_cons, ih, lkSum_cons]; omega
theorem lkSum_nonneg {l : List LockM} (h : ∀ x ∈ l, 1 ≤ x.units) (r : Nat) : 0 ≤ lkSum l r := by
  induction l with
  | nil => exact Int.le_refl _
  | cons y l ih =>
    rw [lkSum_cons]
    have h1 := h y (List.mem_cons_self ..)
    have h2 := ih (fun x hx => h x (List.mem_cons_of_mem _ hx))
    split <;> omega
theorem lkSum_far {l : List LockM} {n r : Nat} (h : ∀ x ∈ l, x.res < (n : Int)) (hr : n ≤ r) : lkSum l r = 0 := by
  induction l with
  | nil => rfl
  | cons y l ih =>
    rw [lkSum_cons, ih (fun x hx => h x (List.mem_cons_of_mem _ hx))]
    have h1 := h y (List.mem_cons_self ..)
    rw [if_neg (by omega)]
    rfl
theorem heldSum_cons (j : JobM) (l : List JobM) (r : Nat) : heldSum (j :: l) r = j.h.held[r]?.getD 0 + heldSum l r := rfl
theorem heldSum_app (l1 l2 : List JobM) (r : Nat) : heldSum (l1 ++ l2) r = heldSum l1 r + heldSum l2 r := by
  induction l1 with
  | nil => simp [heldSum]
  | cons j l ih => rw [List.cons_append, heldSum_cons, ih, heldSum_cons]; omega
theorem heldSum_nonneg {l : List JobM} {r : Nat} (h : ∀ j ∈ l, 0 ≤ j.h.held[r]?.getD 0) : 0 ≤ heldSum l r := by
  induction l with
  | nil => exact Int.le_refl _
  | cons j l ih =>
    rw [heldSum_cons]
    have h1 := h j (List.mem_cons_self ..)
    have h2 := ih (fun x hx => h x (List.mem_cons_of_mem _ hx))
    omega
theorem heldSum_ge {l : List JobM} {r : Nat} (h : ∀ j ∈ l, 0 ≤ j.h.held[r]?.getD 0) : ∀ j ∈ l, j.h.held[r]?.getD 0 ≤ heldSum l r := by
  induction l with
  | nil => intro j hj; cases hj
  | cons k l ih =>
    intro j hj
    rw [heldSum_cons]
    have h1 := h k (List.mem_cons_self ..)
    have h3 := heldSum_nonneg (fun x hx => h x (List.mem_cons_of_mem _ hx))
    rcases List.mem_cons.1 hj with e | hj
    · subst e; omega
    · have := ih (fun x hx => h x (List.mem_cons_of_mem _ hx)) j hj
      omega
theorem heldSum_set {l : List JobM} {i : Nat} {j j' : JobM} (hj : l[i]? = some j) (r : Nat) : heldSum (l.set i j') r = heldSum l r - j.h.held[r]?.getD 0 + j'.h.held[r]?.getD 0 := by
  induction l generalizing i with
  | nil => simp at hj
  | cons k l ih =>
    cases i with
    | zero =>
      simp at hj
      subst hj
      rw [List.set_cons_zero, heldSum_cons, heldSum_cons]
      omega
    | succ i =>
      rw [List.set_cons_succ, heldSum_cons, heldSum_cons, ih (by simpa using hj)]
      omega
theorem heldSum_erase {l : List JobM} {i : Nat} {j : JobM} (hj : l[i]? = some j) (r : Nat) : heldSum (l.eraseIdx i) r = heldSum l r - j.h.held[r]?.getD 0 := by
  induction l generalizing i with
  | nil => simp at hj
  | cons k l ih =>
    cases i with
    | zero =>
      simp at hj
      subst hj
      rw [List.eraseIdx_cons_zero, heldSum_cons]
      omega
    | succ i =>
      rw [List.eraseIdx_cons_succ, heldSum_cons, heldSum_cons, ih (by simpa using hj)]
      omega
theorem heldSum_ins (l : List JobM) (i : Nat) (j : JobM) (r : Nat) : heldSum (l.take i ++ j :: l.drop i) r = heldSum l r + j.h.held[r]?.getD 0 := by
  rw [heldSum_app, heldSum_cons]
  have h : heldSum (l.take i ++ l.drop i) r = heldSum l r := by rw [List.take_append_drop]
  rw [heldSum_app] at h
  omega
theorem UnM.Inv.pos {m : UnM} (h : m.Inv) : ∀ j ∈ m.jobs, ∀ r : Nat, 0 ≤ j.h.held[r]?.getD 0 := by
  intro j hj r
  cases hr : j.h.held[r]? with
  | none => exact Int.le_refl _
  | some x =>
    rw [Option.getD_some, h.hv j hj r x hr]
    exact lkSum_nonneg (fun x hx => ((h.lk j hj).2 x hx).2.2.1) r
theorem UnM.Inv.held {m : UnM} (h : m.Inv) : ∀ j ∈ m.jobs, ∀ x ∈ j.h.held, 0 ≤ x ∧ x ≤ 255 := by
  intro j hj x hx
  obtain ⟨r, hr⟩ := List.getElem?_of_mem hx
  have h0 := h.pos j hj r
  rw [hr, Option.getD_some] at h0
  refine ⟨h0, ?_⟩
  by_cases hlt : r < m.units.length
  · have hU : m.units[r]? = some m.units[r] := List.getElem?_eq_getElem hlt
    have hF : m.free[r]? = some (m.free[r]'(by rw [h.fl]; exact hlt)) := List.getElem?_eq_getElem _
    have h1 := h.fr r _ _ hF hU
    have h2 := heldSum_ge (fun j hj => h.pos j hj r) j hj
    rw [hr, Option.getD_some] at h2
    have h3 := h.uv _ (List.getElem_mem hlt)
    omega
  · have h1 := h.hv j hj r x hr
    rw [lkSum_far (n := m.units.length) (fun x hx => ((h.lk j hj).2 x hx).2.1) (by omega)] at h1
    omega
theorem UnM.Inv.free {m : UnM} (h : m.Inv) : ∀ x ∈ m.free, 0 ≤ x ∧ x ≤ 255 := by
  intro x hx
  obtain ⟨r, hr⟩ := List.getElem?_of_mem hx
  have hlt := lt_of_get? hr
  rw [h.fl] at hlt
  have hU : m.units[r]? = some m.units[r] := List.getElem?_eq_getElem hlt
  have h1 := h.fr r _ _ hr hU
  have h2 := heldSum_nonneg (fun j hj => h.pos j hj r)
  have h3 := h.uv _ (List.getElem_mem hlt)
  omega
theorem UnM.Inv.ok3 {m : UnM} (h : m.Inv) : m.Ok3 := ⟨h.lk⟩
end Go.Proofs.YtogcikilphakmaaGreatDoor
