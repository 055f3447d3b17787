/-
  Merged texts of one proof: UnI4, Hol1, Hol2, Hol3, Hol4, InvU.
-/
import Derived.Test.YtogcikilphakmaaGreatDoorG11
import Derived.Test.YtogcikilphakmaaGreatDoorG23
import Derived.Test.YtogcikilphakmaaGreatDoorG35

/-
  The plain law of the resource table gives what the walks ask: Ok, Ok2, Ok3.
-/
namespace Go.Proofs.YtogcikilphakmaaGreatDoor
open Go.RowKit Spl

def tot (f : Nat → Int) : Nat → Int
  | 0 => 0
  | n + 1 => tot f n + f n
theorem tot_add (f g : Nat → Int) : ∀ n, tot (fun r => f r + g r) n = tot f n + tot g n
  | 0 => rfl
  | n + 1 => by
    have := tot_add f g n
    show tot (fun r => f r + g r) n + (f n + g n) = (tot f n + f n) + (tot g n + g n)
    omega
theorem tot_le {f g : Nat → Int} : ∀ {n : Nat} (_ : ∀ r, r < n → f r ≤ g r), tot f n ≤ tot g n
  | 0, _ => Int.le_refl _
  | n + 1, h => by
    have h1 := tot_le (n := n) (fun r hr => h r (by omega))
    have h2 := h n (by omega)
    show tot f n + f n ≤ tot g n + g n
    omega
theorem tot_const (c : Int) : ∀ n : Nat, tot (fun _ => c) n = n * c
  | 0 => by simp [tot]
  | n + 1 => by
    show tot (fun _ => c) n + c = ((n + 1 : Nat) : Int) * c
    rw [tot_const c n]
    push_cast
    rw [Int.add_mul, Int.one_mul]
theorem tot_one (k : Nat) (u : Int) : ∀ n : Nat, tot (fun r => if (k : Int) = (r : Int) then u else 0) n = if k < n then u else 0
  | 0 => rfl
  | n + 1 => by
    have h1 := tot_one k u n
    show tot (fun r => if (k : Int) = (r : Int) then u else 0) n + (if (k : Int) = (n : Int) then u else 0) = _
    rw [h1]
    by_cases a : k < n
    · rw [if_pos a, if_neg (by omega), if_pos (by omega)]; omega
    · rw [if_neg a]
      by_cases b : k = n
      · rw [if_pos (by omega), if_pos (by omega)]; omega
      · rw [if_neg (by omega), if_neg (by omega)]; rfl
theorem lk_tot {l : List LockM} (h : ∀ x ∈ l, 0 ≤ x.res ∧ x.res < 16 ∧ 1 ≤ x.units) : (l.length : Int) ≤ tot (lkSum l) 16 := by
  induction l with
  | nil =>
    show (0 : Int) ≤ tot (fun r => lkSum [] r) 16
    have : tot (fun r => lkSum [] r) 16 = 0 := by rw [show (fun r => lkSum [] r) = fun _ => (0 : Int) from rfl, tot_const]; rfl
    omega
  | cons y l ih =>
    have h1 := ih (fun x hx => h x (List.mem_cons_of_mem _ hx))
    obtain ⟨a, b, c⟩ := h y (List.mem_cons_self ..)
    obtain ⟨k, hk⟩ : ∃ k : Nat, y.res = k := ⟨y.res.toNat, by omega⟩
    have e : tot (lkSum (y :: l)) 16 = tot (fun r => if (k : Int) = (r : Int) then y.units else 0) 16 + tot (lkSum l) 16 := by
      rw [← tot_add]
      congr 1
      funext r
      rw [lkSum_cons, hk]
    rw [e, tot_one, if_pos (by omega)]
    simp only [List.length_cons]
    omega
theorem UnM.Inv.lkTot {m : UnM} (h : m.Inv) : ∀ j ∈ m.jobs, (j.h.locks.length : Int) ≤ tot (fun r => j.h.held[r]?.getD 0) 16 := by
  intro j hj
  have h1 := lk_tot (l := j.h.locks) (fun x hx => by have := (h.lk j hj).2 x hx; have := h.u16; omega)
  refine Int.le_trans h1 (tot_le ?_)
  intro r hr
  have hlen := h.hl j hj
  have e : j.h.held[r]? = some (j.h.held[r]'(by omega)) := List.getElem?_eq_getElem _
  rw [e, Option.getD_some, ← h.hv j hj r _ e]
  exact Int.le_refl _
theorem held_tot {l : List JobM} (h : ∀ j ∈ l, (1 : Int) ≤ tot (fun r => j.h.held[r]?.getD 0) 16) : (l.length : Int) ≤ tot (heldSum l) 16 := by
  induction l with
  | nil =>
    show (0 : Int) ≤ tot (fun r => heldSum [] r) 16
    have : tot (fun r => heldSum [] r) 16 = 0 := by rw [show (fun r => heldSum [] r) = fun _ => (0 : Int) from rfl, tot_const]; rfl
    omega
  | cons y l ih =>
    have h1 := ih (fun x hx => h x (List.mem_cons_of_mem _ hx))
    have h2 := h y (List.mem_cons_self ..)
    have e : tot (heldSum (y :: l)) 16 = tot (fun r => y.h.held[r]?.getD 0) 16 + tot (heldSum l) 16 := by
      rw [← tot_add]
      rfl
    rw [e]
    simp only [List.length_cons]
    omega
theorem UnM.Inv.heldTop {m : UnM} (h : m.Inv) : tot (heldSum m.jobs) 16 ≤ 4080 := by
  have h1 : tot (heldSum m.jobs) 16 ≤ tot (fun _ => (255 : Int)) 16 := by
    refine tot_le ?_
    intro r _
    by_cases hlt : r < m.units.length
    · have hU : m.units[r]? = some m.units[r] := List.getElem?_eq_getElem hlt
      have hF : m.free[r]? = some (m.free[r]'(by rw [h.fl]; exact hlt)) := List.getElem?_eq_getElem _
      have h1 := h.fr r _ _ hF hU
      have h3 := h.uv _ (List.getElem_mem hlt)
      omega
    · have hz : ∀ l : List JobM, (∀ j ∈ l, j.h.held[r]?.getD 0 = 0) → heldSum l r = 0 := by
        intro l
        induction l with
        | nil => intro _; rfl
        | cons y l ih =>
          intro hl
          rw [heldSum_cons, ih (fun j hj => hl j (List.mem_cons_of_mem _ hj)), hl y (List.mem_cons_self ..)]
          rfl
      rw [hz m.jobs ?_]
      · omega
      · intro j hj
        cases hx : j.h.held[r]? with
        | none => rfl
        | some x =>
          rw [Option.getD_some, h.hv j hj r x hx]
          exact lkSum_far (n := m.units.length) (fun x hx => ((h.lk j hj).2 x hx).2.1) (by omega)
  rw [tot_const] at h1
  omega
theorem UnM.Inv.locksLe {m : UnM} (h : m.Inv) : ∀ j ∈ m.jobs, j.h.locks.length ≤ 5000 := by
  intro j hj
  have h1 := h.lkTot j hj
  have h2 : tot (fun r => j.h.held[r]?.getD 0) 16 ≤ tot (heldSum m.jobs) 16 := tot_le (fun r _ => heldSum_ge (fun j hj => h.pos j hj r) j hj)
  have h3 := h.heldTop
  omega
theorem UnM.Inv.jobsLe {m : UnM} (h : m.Inv) : m.jobs.length ≤ 5000 := by
  have h1 := held_tot (l := m.jobs) (fun j hj => by
    have h2 := h.lkTot j hj
    have h3 := List.length_pos_iff.2 (h.lk j hj).1
    omega)
  have h3 := h.heldTop
  omega
theorem UnM.Inv.ok {m : UnM} (h : m.Inv) : m.Ok := ⟨h.s, h.jobsLe, h.hl⟩
theorem UnM.Inv.ok2 {m : UnM} (h : m.Inv) : m.Ok2 := ⟨h.u16, h.fl, h.cl, h.uv, h.free, fun j hj => ⟨h.held j hj, h.locksLe j hj⟩⟩
end Go.Proofs.YtogcikilphakmaaGreatDoor

/-
  shelf.copied of the holders' rows; Table.All lays the function value.
-/
namespace Go.Proofs.YtogcikilphakmaaGreatDoor
open Go.RowKit Spl

theorem infoRowH : (Tryz.prog.info? 267).map (fun i => (i.zero, i.size, i.bytes)) = some (some (.agg #[.int .i64 0, .pointer none]), 2, 16) := by kernel_rfl
section
variable {w0 w : World} {R : List Pr} {l : List RowH}
set_option maxRecDepth 20000 in
set_option maxHeartbeats 4000000 in
theorem copied_hold (H : Hd w0 R w) (hn : l.length ≤ 100000) {n : Nat} (hnl : n = l.length) {A : Option Addr} {cap : Nat} (hA : A = none → l.length = 0)
    (hs : ∀ {w1 : World}, Hd w0 R w1 → ∀ ad, A = some ad → ∀ (j : Nat) (u : Value), (flat l)[j]? = some u → w1.cell? (ad.add j) = some u) :
    Calls Tryz.prog 143 #[.slice A n cap] w fun e w' => ∃ g, e = .returned (.slice (some ⟨g, 0, none⟩) l.length l.length) ∧ Hd w0 (SlEC 267 g l.length l :: R) w' := by
  subst hnl
  obtain ⟨i0, hi, hz0, hz1, hz2⟩ := info_parts infoRowH
  have hfl := Lib.hid (flat_len l)
  go_enter Tryz.func143, Tryz.ntmps143
  go_wp2_with (first | (at_make; refine wpList_make_slc rfl _ _ 224 rfl 267 i0 _ 2 Tryz.underlying224 hi hz0 hz1 rfl _ _ _ _ 0 l.length rfl rfl rfl rfl (by omega) (by rw [hz2]; omega) (by unfold maxLen; omega) H ?_; intro w1 H1; rw [madeCells_zero] at H1; have hs1 := hs H1.tail) | (at_builtin; refine wpList_append_fits_any_slc rfl _ _ 224 rfl 267 i0 2 Tryz.underlying224 hi hz1 _ 0 l.length [] rfl H1 _ l.length _ (flat l) rfl hfl.out hA hs1 (flat_oneCell l) (by omega) ?_; intro w2 H2; rw [Nat.zero_add]))
  go_ret
  exact ⟨_, rfl, by rw [List.nil_append, Nat.zero_add] at H2; exact H2⟩
theorem allH {t o : Nat} (H : Hd w0 R w) : Calls Tryz.prog 111 #[.pointer (some ⟨t, o, none⟩)] w fun e w' => ∃ b, e = .returned (.func (.func 142) #[] #[.pointer (some ⟨b, 0, none⟩)]) ∧ Hd w0 (cel b 263 #[.pointer (some ⟨t, o, none⟩)] :: R) w' := by
  have HA : Hd w0 _ (w.alloc (.cells #[.pointer (some ⟨t, o, none⟩)] 263)) := H.fol
  go_enter Tryz.func111, Tryz.ntmps111
  go_wp2_with fail
  go_ret
  exact ⟨_, rfl, HA⟩
end
end Go.Proofs.YtogcikilphakmaaGreatDoor

/-
  Table.All's closure hands out the holders' rows, one by one, to a body that never leaves.
-/
namespace Go.Proofs.YtogcikilphakmaaGreatDoor
open Go.RowKit Spl

attribute [local go_sem] Oper.semAt_some
section
variable {w0 : World} {R : List Pr} {l : List RowH}
set_option maxRecDepth 100000 in
set_option maxHeartbeats 4000000 in
theorem seqHold {b t : Nat} {vu vf vc vj : Value} (hn : l.length ≤ 100000) :
    SeqHd Tryz.prog 142 #[.pointer (some ⟨b, 0, none⟩)] (fun x : RowH => #[.int .i64 x.k, .pointer (some ⟨x.b, 0, none⟩)]) w0 (cel b 263 #[.pointer (some ⟨t, 3, none⟩)] :: cel t 228 #[vu, vf, vc, vj] :: SlE 267 vj l :: R) l := by
  intro lp Y W n H hY
  obtain ⟨a, c, rfl, -, -, -, -⟩ := (H.v vj).slc_form
  have c0 := (show _ = some (.pointer (some ⟨t, 3, none⟩)) from (H.k b).ce 0 rfl)
  have c1 := (show _ = some (.slice a l.length c) from (H.k t).ce 3 rfl)
  have H1 : Hd w0 (SlE 267 (.slice a l.length c) l :: Y 0 :: cel b 263 #[.pointer (some ⟨t, 3, none⟩)] :: cel t 228 #[vu, vf, vc, .slice a l.length c] :: R) W := H.re
  have hsrc := Src.slc H1
  have hcp : Calls Tryz.prog 143 #[.slice a l.length c] W fun e w' => ∃ g, e = .returned (.slice (some ⟨g, 0, none⟩) l.length l.length) ∧ Hd w0 (SlEC 267 g l.length l :: SlE 267 (.slice a l.length c) l :: Y 0 :: cel b 263 #[.pointer (some ⟨t, 3, none⟩)] :: cel t 228 #[vu, vf, vc, .slice a l.length c] :: R) w' := by
    rcases hsrc with ⟨h, h2⟩ | ⟨ad, c2, h, h2⟩
    · injection h with q1 q2 q3
      exact copied_hold H1 hn rfl (fun _ => q2) (fun _ ad h => by rw [q1] at h; cases h)
    · injection h with q1 q2 q3
      exact copied_hold H1 hn rfl (fun h => by rw [q1] at h; cases h) (fun H ad2 e j u hu => by rw [q1] at e; injection e with e; subst e; exact h2 H j u hu)
  have hcpI := callsIn_wide (n := n - 1).2 hcp
  clear hsrc hcp H H1
  refine callsIn_of_wp Tryz.func142 rfl trivial ?_ rfl
  simp only [Tryz.ntmps142, List.size_toArray, List.length_cons, List.length_nil, Nat.reduceAdd, Nat.reduceSub, Array.replicate_succ, Array.replicate_zero, List.push_toArray, List.append_toArray, List.nil_append, List.cons_append]
  gi_wp2_with (first | (refine ⟨trivial, fun h => (by cases h), ?_⟩; refine hcpI.mono ?_; rintro e W1 ⟨g, rfl, H2⟩))
  clear hcpI
  gi_loopw [11] (fun i wr => ∃ k : Nat, k ≤ l.length ∧ i = .int .i64 k ∧ Hd w0 (Y k :: SlEC 267 g l.length l :: SlE 267 (.slice a l.length c) l :: cel b 263 #[.pointer (some ⟨t, 3, none⟩)] :: cel t 228 #[vu, vf, vc, .slice a l.length c] :: R) wr) (fun i _ => l.length - (intOf i).toNat)
  case atStart => exact ⟨0, Nat.zero_le _, rfl, H2.re⟩
  case round =>
    obtain ⟨k, hk, rfl, HI⟩ := hrel
    by_cases hlt : k < l.length
    · obtain ⟨x, hx⟩ : ∃ x, l[k]? = some x := ⟨l[k], List.getElem?_eq_getElem hlt⟩
      have H5 : Hd w0 (SlEC 267 g l.length l :: Y k :: SlE 267 (.slice a l.length c) l :: cel b 263 #[.pointer (some ⟨t, 3, none⟩)] :: cel t 228 #[vu, vf, vc, .slice a l.length c] :: R) wr := HI.re
      have f0 := H5.slcC_rd (flat_at hx (j := 0) rfl)
      have f1 := H5.slcC_rd (flat_at hx (j := 1) rfl)
      simp only [Enc.size, Nat.add_zero] at f0 f1
      have HA : Hd w0 _ (wr.alloc (.cells #[.int .i64 x.k, .pointer (some ⟨x.b, 0, none⟩)] 267)) := HI.fol
      have q0 := (show _ = some (Value.int .i64 x.k) from HA.ce 0 rfl)
      have q1 := (show _ = some (Value.pointer (some ⟨x.b, 0, none⟩)) from HA.ce 1 rfl)
      obtain ⟨fn, tmps, assign, body, hy, hR⟩ := hY k x _ _ (n - 1) hx HA.b2
      have n4 : ¬ (k : Int) < 0 := by omega
      have n5 : (k : Int) < l.length := by omega
      have n6 : ¬ l.length ≤ k := by omega
      have g5 : IntKind.i64.wrap ((k : Int) + 1) = (k : Int) + 1 := IntWalk.i64_in _ (by omega)
      clear H5 HA HI
      gi_wp2
      refine ⟨fun h => (by cases h), ?_⟩
      refine hR.mono ?_
      rintro e W3 ⟨rfl, H6⟩
      gi_wp2
      refine ⟨⟨k + 1, by omega, by go_num, Hd.re H6⟩, by simp [intOf]; omega⟩
    · obtain rfl : k = l.length := by omega
      gi_wp2
      go_end0
      exact ⟨⟨_, rfl⟩, HI.re⟩
end
end Go.Proofs.YtogcikilphakmaaGreatDoor

/-
  slices.Clip of holds: the same list, no room behind it.
-/
namespace Go.Proofs.YtogcikilphakmaaGreatDoor
open Go.RowKit Spl

section
variable {w0 w : World} {R : List Pr} {l : List HoldM}
theorem Hd.clip {e : TypeId} {size g n cap : Nat} {xs : List Value} (H : Hd w0 (SlcC e size g n cap xs :: R) w) : Hd w0 (SlcC e size g n n xs :: R) w :=
  H.mono fun a h => by
    obtain ⟨h1, h2, h3, sp, h4, h5⟩ := h
    exact ⟨h1, Nat.le_refl _, by omega, sp, by have := Nat.mul_le_mul_right size h2; omega, h5⟩
set_option maxHeartbeats 1600000 in
theorem clip_hold {v : Value} (H : Hd w0 (SlE 242 v l :: R) w) :
    Calls Tryz.prog 112 #[v] w fun e w' => ∃ v', e = .returned v' ∧ Hd w0 (SlE 242 v' l :: R) w' := by
  rcases H.slc with ⟨rfl, -, -, -⟩ | ⟨g, c, rfl, HC⟩
  · go_enter Tryz.func112, Tryz.ntmps112
    go_wp2_with fail
    go_ret
    exact ⟨_, rfl, H⟩
  · have hcap := HC.slcC.2.1
    have n1 : (0 : Int) ≤ l.length := by omega
    have n2 : (l.length : Int) ≤ c := by omega
    go_enter Tryz.func112, Tryz.ntmps112
    go_wp2_with fail
    go_ret
    exact ⟨_, rfl, HC.clip.slc_mk⟩
end
end Go.Proofs.YtogcikilphakmaaGreatDoor

/-
  units.Table.Holders. Every table.
-/
namespace Go.Proofs.YtogcikilphakmaaGreatDoor
open Go.RowKit Spl

attribute [local go_sem] Oper.semAt_some
def holdersM (m : UnM) (r : Nat) : List HoldM := m.jobs.filterMap fun j => if 0 < j.h.held[r]?.getD 0 then some ⟨j.job, j.h.held[r]?.getD 0⟩ else none
def holdTo (m : UnM) (r i : Nat) : List HoldM := (m.jobs.take i).filterMap fun j => if 0 < j.h.held[r]?.getD 0 then some ⟨j.job, j.h.held[r]?.getD 0⟩ else none
section
variable {w0 w : World} {R : List Pr} {t : Nat} {m : UnM}
theorem infoHold : (Tryz.prog.info? 242).map (fun i => (i.zero, i.size, i.bytes)) = some (some (.agg #[.int .i64 0, .int .i64 0]), 2, 16) := by kernel_rfl
set_option maxRecDepth 100000 in
set_option maxHeartbeats 4000000 in
theorem unHolders (H : Hd w0 (UnP t m :: R) w) (hm : m.Inv) {r : Nat} (hr : r < m.units.length) :
    Calls Tryz.prog 83 #[.pointer (some ⟨t, 0, none⟩), .int .i64 r] w fun e w' => ∃ v, e = .returned v ∧ Hd w0 (SlE 242 v (holdersM m r) :: UnP t m :: R) w' := by
  refine (callsIn_wide (n := 5)).1 ?_
  have HA : Hd w0 (UnP t m :: cel (w.heap.size + 1) 123 #[.slice none 0 0] :: cel w.heap.size 3 #[.int .i64 r] :: R) ((w.alloc (.cells #[.int .i64 r] 3)).alloc (.cells #[.slice none 0 0] 123)) := by
    have h : Hd w0 _ ((w.alloc (.cells #[.int .i64 r] 3)).alloc (.cells #[.slice none 0 0] 123)) := H.fol
    exact h.re
  have hhas := callsIn_wide (n := 4).2 (unHas HA r hr)
  have c0 := (show _ = some (Value.int .i64 r) from (HA.k w.heap.size).ce 0 rfl)
  refine callsIn_of_wp_marks Tryz.func83 rfl trivial ?_ rfl
  simp only [Tryz.ntmps83, List.size_toArray, List.length_cons, List.length_nil, Nat.reduceAdd, Nat.reduceSub, Array.replicate_succ, Array.replicate_zero, List.push_toArray, List.append_toArray, List.nil_append, List.cons_append]
  gi_wp2_with (first | (refine ⟨trivial, ?_⟩; gi_at_call 110; refine hhas.mono ?_; rintro e W1 ⟨rfl, rfl⟩) | (refine ⟨trivial, ?_⟩; gi_at_call 111; refine (callsIn_wide.2 (allH (t := t) (o := 3) HA)).mono ?_; rintro e W2 ⟨b, rfl, HB⟩))
  clear hhas c0 HA H
  obtain ⟨⟨vu, vf, vc, vj, bs⟩, hb, HC⟩ := UnP.opened HB.b2
  dsimp only at hb HC
  obtain ⟨p, hp⟩ : ∃ p, w.heap.size = p := ⟨_, rfl⟩
  rw [hp] at HC ⊢
  have HD : Hd w0 (all [ex fun v : Value => all [cel (p + 1) 123 #[v], SlE 242 v (holdTo m r 0)], cel p 3 #[.int .i64 r], all (List.zipWith hol bs m.jobs)] :: cel b 263 #[.pointer (some ⟨t, 3, none⟩)] :: cel t 228 #[vu, vf, vc, vj] :: SlE 267 vj (rowsOf m.jobs bs) :: SlE 3 vu m.units :: SlE 3 vf m.free :: SlE 3 vc m.cells :: R) W2 := by
    have HN : Hd w0 (SlE 242 (.slice none 0 0) (holdTo m r 0) :: _) W2 := HC.slc_nil 242 2
    have H2 : Hd w0 (cel (p + 1) 123 #[.slice none 0 0] :: SlE 242 (.slice none 0 0) (holdTo m r 0) :: cel p 3 #[.int .i64 r] :: all (List.zipWith hol bs m.jobs) :: cel b 263 #[.pointer (some ⟨t, 3, none⟩)] :: cel t 228 #[vu, vf, vc, vj] :: SlE 267 vj (rowsOf m.jobs bs) :: SlE 3 vu m.units :: SlE 3 vf m.free :: SlE 3 vc m.cells :: R) W2 := HN.re
    have H3 := Hd.into (S := fun v : Value => all [cel (p + 1) 123 #[v], SlE 242 v (holdTo m r 0)]) (.slice none 0 0) (Hd.pack (L := [_, _]) H2)
    exact Hd.pack (L := [_, _, _]) H3
  refine wpIn_rangeFunc_hd (gf := 142) (lb := #[.pointer (some ⟨b, 0, none⟩)]) rfl (enters_of Tryz.func142 (by kernel_rfl) rfl) (encs := fun x : RowH => #[.int .i64 x.k, .pointer (some ⟨x.b, 0, none⟩)]) (fun _ => rfl) (fun i => [ex fun v : Value => all [cel (p + 1) 123 #[v], SlE 242 v (holdTo m r i)], cel p 3 #[.int .i64 r], all (List.zipWith hol bs m.jobs)]) HD (seqHold (by rw [rowsOf_len hb]; have := hm.jobsLe; omega)) (fun x => { tmps := #[.pointer (some ⟨t, 0, none⟩), .int .i64 r, undef, .pointer (some ⟨p, 0, none⟩), .slice none 0 0, .pointer (some ⟨p + 1, 0, none⟩), .int .i64 x.k, .pointer (some ⟨x.b, 0, none⟩), undef, .pointer (some ⟨t, 0, none⟩), .int .i64 r, .bool true, .bool false, undef, .pointer (some ⟨t, 0, none⟩), .pointer (some ⟨t, 0, none⟩), .pointer (some ⟨t, 3, none⟩), .func (.func 142) #[] #[.pointer (some ⟨b, 0, none⟩)], .int .i64 x.k, .pointer (some ⟨x.b, 0, none⟩), undef, undef, undef, undef, undef, undef, undef, undef, undef, undef, undef, undef, undef, undef, undef, undef], defers := [] }) ?assign ?body ?done
  case assign =>
    intro l x W K hK
    gi_wp2
    exact hK
  case body =>
    intro lp i x X W hx HW
    obtain ⟨v, H5⟩ := Hd.out (R := [cel p 3 #[.int .i64 r], all (List.zipWith hol bs m.jobs)] ++ X) HW
    have H6 : Hd w0 (all (List.zipWith hol bs m.jobs) :: cel (p + 1) 123 #[v] :: SlE 242 v (holdTo m r i) :: cel p 3 #[.int .i64 r] :: X) W := by
      have h : Hd w0 (cel (p + 1) 123 #[v] :: SlE 242 v (holdTo m r i) :: cel p 3 #[.int .i64 r] :: all (List.zipWith hol bs m.jobs) :: X) W := H5.flat
      exact h.d4.re
    obtain ⟨j, b', hj, hb', rfl⟩ : ∃ j b', m.jobs[i]? = some j ∧ bs[i]? = some b' ∧ x = ⟨j.job, b'⟩ := by
      have hi := lt_of_get? hx
      rw [rowsOf_len hb] at hi
      have q1 : m.jobs[i]? = some m.jobs[i] := List.getElem?_eq_getElem hi
      have q2 : bs[i]? = some (bs[i]'(by omega)) := List.getElem?_eq_getElem _
      rw [rowsOf_at q1 q2] at hx
      exact ⟨_, _, q1, q2, (Option.some.inj hx).symm⟩
    obtain ⟨lv, H7⟩ := (H6.row_nth hb' hj).out
    have H8 : Hd w0 (cel b' 240 (lv :: j.h.held.map (Value.int .i64)).toArray :: SlE 296 lv j.h.locks :: all ((List.zipWith hol bs m.jobs).eraseIdx i) :: cel (p + 1) 123 #[v] :: SlE 242 v (holdTo m r i) :: cel p 3 #[.int .i64 r] :: X) W := H7.flat
    have h16 := hm.hl j (List.mem_of_getElem? hj)
    have hu := hm.u16
    obtain ⟨h, hh⟩ : ∃ h, j.h.held[r]? = some h := ⟨j.h.held[r]'(by omega), List.getElem?_eq_getElem _⟩
    have hC : ((lv :: j.h.held.map (Value.int .i64)).toArray)[1 + r]? = some (.int .i64 h) := by simp [Nat.add_comm 1 r, hh]
    have k0 := H8.ce (1 + r) hC
    have k1 := (show _ = some (Value.int .i64 r) from (H8.k p).ce 0 rfl)
    have k2 := (show _ = some v from (H8.k (p + 1)).ce 0 rfl)
    have n6 : (r : Int) < 16 := by omega
    have n7 : (0 : Int) ≤ r := by omega
    have n8 : ¬ (r : Int) < 0 := by omega
    have hp1 : holdTo m r (i + 1) = holdTo m r i ++ (if 0 < h then [⟨j.job, h⟩] else []) := by
      unfold holdTo
      rw [List.take_add_one, hj, List.filterMap_append]
      simp only [Option.toList_some, List.filterMap_cons, List.filterMap_nil, hh, Option.getD_some]
      by_cases hz : 0 < h
      · simp [hz]
      · simp [hz]
    obtain ⟨T, hT⟩ : ∃ T, holdTo m r i = T := ⟨_, rfl⟩
    have hTl : T.length ≤ 5000 := by
      rw [← hT]
      unfold holdTo
      refine Nat.le_trans (List.length_filterMap_le _ _) ?_
      have := hm.jobsLe
      rw [List.length_take]
      omega
    rw [hT] at hp1 H8
    rw [hp1]
    obtain ⟨i0, hi, hz0, hz1, hz2⟩ := info_parts infoHold
    have HB : ∀ (L : List Pr) (W' : World), Hd w0 (cel b' 240 (lv :: j.h.held.map (Value.int .i64)).toArray :: SlE 296 lv j.h.locks :: all ((List.zipWith hol bs m.jobs).eraseIdx i) :: L) W' → Hd w0 (all (List.zipWith hol bs m.jobs) :: L) W' := by
      intro L W' h
      have h2 : Hd w0 (hol b' j :: all ((List.zipWith hol bs m.jobs).eraseIdx i) :: L) W' := Hd.into lv (Hd.pack (L := [_, _]) h)
      exact h2.row_same hb' hj
    have n9 : ¬ (h : Int) ≤ -1 := by
      have := hm.pos j (List.mem_of_getElem? hj) r
      rw [hh] at this
      simp at this
      omega
    clear hp1 H5 H6 H7 hx hT hC
    replace HB := Lib.hid HB
    by_cases hz : 0 < h
    · rw [if_pos hz]
      have HP : Hd w0 _ (W.drew.alloc (.cells #[.int .i64 j.job, .int .i64 h] 242)) := H8.fol
      have y0 := (show _ = some v from (HP.k (p + 1)).ce 0 rfl)
      have hS : ∀ {v' : Value} {L : List Pr} {w : World}, Hd w0 (Slc 242 2 v' (T.length + 1) (flat T ++ [.int .i64 j.job, .int .i64 h]) :: L) w → Hd w0 (SlE 242 v' (T ++ [⟨j.job, h⟩]) :: L) w := by
        intro v' L w h2
        have e1 : (T ++ [(⟨j.job, h⟩ : HoldM)]).length = T.length + 1 := by simp
        have e2 : flat (T ++ [(⟨j.job, h⟩ : HoldM)]) = flat T ++ [.int .i64 j.job, .int .i64 h] := by rw [flat_append, flat_one]; rfl
        unfold SlE
        rw [e1, e2]
        exact h2
      gi_wp2
      gi_region
      all_goals gi_wp2_with (gi_at_builtin; refine wpListIn_append_slc rfl _ _ 123 rfl 242 i0 _ 2 16 Tryz.underlying123 hi hz0 hz1 hz2 rfl _ _ _ rfl (HP.v v) ⟨W.heap.size, 0, none⟩ 1 1 [.int .i64 j.job, .int .i64 h] rfl rfl (cel_news (HP.k W.heap.size)) (by simp [Value.oneCell']) (by unfold maxLen; omega) (by omega) ?_; intro v' w2 H4; have HF := hS H4; obtain ⟨l', hl'⟩ : ∃ l', T ++ [⟨j.job, h⟩] = l' := ⟨_, rfl⟩; rw [hl'] at HF; obtain ⟨a', c', rfl, -, -, -, -⟩ := HF.slc_form; replace hl' := Lib.hid hl'; have d0 := (HF.k (p + 1)).ce 0 rfl; have f0 := (HF.k (p + 1)).fr 0; clear H4)
      all_goals (
        rw [hl'.out]
        have HG0 : Hd w0 (cel b' 240 (lv :: j.h.held.map (Value.int .i64)).toArray :: SlE 296 lv j.h.locks :: all ((List.zipWith hol bs m.jobs).eraseIdx i) :: cel (p + 1) 123 #[.slice a' l'.length c'] :: SlE 242 (.slice a' l'.length c') l' :: cel p 3 #[.int .i64 r] :: X) (w2.setCell ⟨p + 1, 0, none⟩ (.slice a' l'.length c')) := Hd.fin HF
        have HG := HB.out _ _ HG0
        have HI : Hd w0 (cel (p + 1) 123 #[.slice a' l'.length c'] :: SlE 242 (.slice a' l'.length c') l' :: cel p 3 #[.int .i64 r] :: all (List.zipWith hol bs m.jobs) :: X) (w2.setCell ⟨p + 1, 0, none⟩ (.slice a' l'.length c')) := HG.re
        exact Hd.into (S := fun v : Value => all [cel (p + 1) 123 #[v], SlE 242 v l']) _ (Hd.pack (L := [_, _]) HI))
    · rw [if_neg hz]
      gi_wp2
      gi_region
      all_goals gi_wp2
      all_goals (
        rw [List.append_nil]
        have HF : Hd w0 _ W.drew := H8.fol
        have HG : Hd w0 (all (List.zipWith hol bs m.jobs) :: cel (p + 1) 123 #[v] :: SlE 242 v T :: cel p 3 #[.int .i64 r] :: X) W.drew := HB.out _ _ HF
        have HI : Hd w0 (cel (p + 1) 123 #[v] :: SlE 242 v T :: cel p 3 #[.int .i64 r] :: all (List.zipWith hol bs m.jobs) :: X) W.drew := HG.re
        exact Hd.into (S := fun v : Value => all [cel (p + 1) 123 #[v], SlE 242 v T]) v (Hd.pack (L := [_, _]) HI))
  case done =>
    intro D W HW
    obtain ⟨v, H5⟩ := Hd.out (R := [cel p 3 #[.int .i64 r], all (List.zipWith hol bs m.jobs)] ++ _) HW
    have H6 := H5.flat
    have c1 := (show _ = some v from H6.ce 0 rfl)
    have hcl := callsIn_wide (n := 4).2 (clip_hold H6.b2)
    gi_wp2_with (first | (refine ⟨trivial, ?_⟩; gi_at_call 112; refine hcl.mono ?_; rintro e W3 ⟨v', rfl, H7⟩))
    have e1 : holdTo m r (rowsOf m.jobs bs).length = holdersM m r := by unfold holdTo holdersM; rw [rowsOf_len hb, List.take_length]
    rw [e1] at H7
    have H9 : Hd w0 (SlE 242 v' (holdersM m r) :: cel (p + 1) 123 #[v] :: cel p 3 #[.int .i64 r] :: all (List.zipWith hol bs m.jobs) :: pt D (.deferred (some [])) :: cel b 263 #[.pointer (some ⟨t, 3, none⟩)] :: cel t 228 #[vu, vf, vc, vj] :: SlE 267 vj (rowsOf m.jobs bs) :: SlE 3 vu m.units :: SlE 3 vf m.free :: SlE 3 vc m.cells :: R) W3 := H7
    have H8 : Hd w0 (pt D (.deferred (some [])) :: SlE 242 v' (holdersM m r) :: cel t 228 #[vu, vf, vc, vj] :: SlE 3 vu m.units :: SlE 3 vf m.free :: SlE 3 vc m.cells :: SlE 267 vj (rowsOf m.jobs bs) :: all (List.zipWith hol bs m.jobs) :: R) W3 := H9.re
    refine leaves_mark H8 (fun W HW => ⟨_, results_tmp rfl _ _ _, v', rfl, ?_⟩)
    have HX : Hd w0 (cel t 228 #[vu, vf, vc, vj] :: SlE 3 vu m.units :: SlE 3 vf m.free :: SlE 3 vc m.cells :: SlE 267 vj (rowsOf m.jobs bs) :: all (List.zipWith hol bs m.jobs) :: SlE 242 v' (holdersM m r) :: R) W := HW.re
    exact (UnP.shut (x := ⟨vu, vf, vc, vj, bs⟩) HX hb).re
end
end Go.Proofs.YtogcikilphakmaaGreatDoor

/-
  The table's plain law: how many locks there are. No program in sight.
-/
namespace Go.Proofs.YtogcikilphakmaaGreatDoor
open Go.RowKit Spl

def locksAll (l : List JobM) : Nat := (l.map fun j => j.h.locks.length).sum
theorem locksAll_cons (j : JobM) (l : List JobM) : locksAll (j :: l) = j.h.locks.length + locksAll l := rfl
theorem locksAll_app (a b : List JobM) : locksAll (a ++ b) = locksAll a + locksAll b := by simp [locksAll]
theorem locksAll_set {l : List JobM} {i : Nat} {j j' : JobM} (h : l[i]? = some j) : locksAll (l.set i j') + j.h.locks.length = locksAll l + j'.h.locks.length := by
  unfold locksAll
  rw [List.map_set]
  exact sum_setN (by rw [List.getElem?_map, h]; rfl)
theorem locksAll_ins (l : List JobM) (i : Nat) (j : JobM) : locksAll (l.take i ++ j :: l.drop i) = locksAll l + j.h.locks.length := by
  have h : locksAll (l.take i ++ l.drop i) = locksAll l := by rw [List.take_append_drop]
  rw [locksAll_app] at h
  rw [locksAll_app, locksAll_cons]
  omega
theorem locksAll_erase : ∀ {l : List JobM} {i : Nat} {j : JobM} (_ : l[i]? = some j), locksAll (l.eraseIdx i) + j.h.locks.length = locksAll l
  | [], i, j, h => by simp at h
  | x :: l, 0, j, h => by
    simp at h; subst h
    rw [List.eraseIdx_cons_zero, locksAll_cons]; omega
  | x :: l, i + 1, j, h => by
    have := locksAll_erase (l := l) (i := i) (j := j) (by simpa using h)
    rw [List.eraseIdx_cons_succ, locksAll_cons, locksAll_cons]; omega
theorem locksAll_mem : ∀ {l : List JobM} {j : JobM}, j ∈ l → j.h.locks.length ≤ locksAll l
  | x :: l, j, h => by
    rw [locksAll_cons]
    rcases List.mem_cons.1 h with rfl | h
    · omega
    · have := locksAll_mem h; omega
theorem locksAll_tot : ∀ {l : List JobM} (_ : ∀ j ∈ l, (j.h.locks.length : Int) ≤ tot (fun r => j.h.held[r]?.getD 0) 16), (locksAll l : Int) ≤ tot (heldSum l) 16
  | [], _ => by
    have : heldSum [] = fun _ => (0 : Int) := by funext r; rfl
    rw [this, tot_const]
    simp [locksAll]
  | j :: l, h => by
    have h1 := h j (by simp)
    have h2 := locksAll_tot (l := l) (fun x hx => h x (by simp [hx]))
    have h3 : heldSum (j :: l) = fun r => j.h.held[r]?.getD 0 + heldSum l r := by funext r; rfl
    rw [locksAll_cons, h3, tot_add]
    push_cast
    omega
theorem UnM.Inv.locksTop {m : UnM} (h : m.Inv) : locksAll m.jobs ≤ 4080 := by
  have h1 := locksAll_tot h.lkTot
  have h2 := h.heldTop
  omega
theorem rowAt_cons {α K : Type} [KLt K] [Keyed α K] (y : α) (l : List α) (k : K) : rowAt (y :: l) k = if KLt.lt (Keyed.key y : K) k = true then rowAt l k else if KLt.lt k (Keyed.key y) = true then none else some y := by
  by_cases h : KLt.lt (Keyed.key y : K) k = true
  · rw [if_pos h]
    unfold rowAt
    rw [pos_cons, if_pos h, List.getElem?_cons_succ]
  · rw [if_neg h]
    unfold rowAt
    rw [pos_cons, if_neg h]
    rfl
theorem rowAt_erase {α K : Type} [KLt K] [Keyed α K] : ∀ {l : List α} {k : K} (_ : Sorted l) {x : α} (_ : rowAt l k = some x), rowAt (l.eraseIdx (pos l k)) k = none
  | [], k, hs, x, h => by cases h
  | y :: l, k, hs, x, h => by
    have h2 := List.pairwise_cons.1 hs
    rw [rowAt_cons] at h
    by_cases hl : KLt.lt (Keyed.key y : K) k = true
    · rw [if_pos hl] at h
      rw [pos_cons, if_pos hl, List.eraseIdx_cons_succ, rowAt_cons, if_pos hl]
      exact rowAt_erase h2.2 h
    · rw [if_neg hl] at h
      split at h
      · cases h
      · rename_i hg
        injection h with h
        subst h
        rw [pos_cons, if_neg hl, List.eraseIdx_cons_zero]
        have hk : (Keyed.key y : K) = k := KLt.tot (by simpa using hl) (by simpa using hg)
        cases l with
        | nil => rfl
        | cons z l =>
          have hz := h2.1 z (by simp)
          rw [hk] at hz
          rw [rowAt_cons, if_neg (fun hh => by have := KLt.tr hz hh; rw [KLt.irr] at this; cases this), if_pos hz]
theorem UnM.locksN_le {m : UnM} (h : m.Inv) (job : Int) : m.locksN job ≤ locksAll m.jobs := by
  unfold UnM.locksN
  cases hr : rowAt m.jobs job with
  | none => exact Nat.zero_le _
  | some j => exact locksAll_mem (List.mem_of_getElem? (rowAt_some h.s hr).1)
theorem UnM.locked_all {m : UnM} (h : m.Inv) (job : Int) (r : Nat) (n : Int) : locksAll (m.locked job r n).jobs = locksAll m.jobs + 1 ∧ (m.locked job r n).units = m.units := by
  unfold UnM.locked
  cases hr : rowAt m.jobs job with
  | none => exact ⟨by dsimp only; rw [locksAll_ins]; rfl, rfl⟩
  | some j =>
    refine ⟨?_, rfl⟩
    have := locksAll_set (j' := (⟨j.job, ⟨j.h.locks ++ [⟨r, n⟩], j.h.held.set r ((j.h.held[r]?.getD 0) + n)⟩⟩ : JobM)) (rowAt_some h.s hr).1
    dsimp only at this ⊢
    rw [List.length_append, List.length_singleton] at this
    omega
theorem UnM.popped_all {m : UnM} (h : m.Inv) (job : Int) : locksAll (m.popped job).jobs = locksAll m.jobs - (if m.locksN job = 0 then 0 else 1) ∧ (m.popped job).locksN job = m.locksN job - 1 ∧ (m.popped job).units = m.units := by
  unfold UnM.popped
  cases hr : rowAt m.jobs job with
  | none =>
    have h0 : m.locksN job = 0 := by unfold UnM.locksN; rw [hr]
    dsimp only
    rw [h0]
    exact ⟨rfl, rfl, rfl⟩
  | some j =>
    have h0 : m.locksN job = j.h.locks.length := by unfold UnM.locksN; rw [hr]
    obtain ⟨hp, hkey⟩ := rowAt_some h.s hr
    obtain ⟨hne, -⟩ := h.lk j (List.mem_of_getElem? hp)
    obtain ⟨l, x, hl⟩ : ∃ l x, j.h.locks = l ++ [x] := ⟨_, _, (List.dropLast_concat_getLast hne).symm⟩
    have h1 : j.h.locks.getLast? = some x := by rw [hl]; simp
    have h2 : j.h.locks.length = l.length + 1 := by rw [hl]; simp
    have h3 : j.h.locks.dropLast = l := by rw [hl]; simp
    dsimp only
    rw [h1]
    dsimp only
    rw [h0, h2, if_neg (show ¬ l.length + 1 = 0 by omega), h3]
    by_cases hz : l.length + 1 = 1
    · rw [if_pos hz]
      have := locksAll_erase hp
      refine ⟨by omega, ?_, rfl⟩
      unfold UnM.locksN
      dsimp only
      rw [rowAt_erase h.s hr]
      dsimp only
      omega
    · rw [if_neg hz]
      have := locksAll_set (j' := (⟨j.job, ⟨l, j.h.held.set x.res.toNat ((j.h.held[x.res.toNat]?.getD 0) - x.units)⟩⟩ : JobM)) hp
      refine ⟨by dsimp only at this ⊢; omega, ?_, rfl⟩
      unfold UnM.locksN
      dsimp only
      rw [rowAt_set (y := (⟨j.job, ⟨l, j.h.held.set x.res.toNat ((j.h.held[x.res.toNat]?.getD 0) - x.units)⟩⟩ : JobM)) h.s hr rfl]
      rfl
theorem UnM.popN_all {m : UnM} (h : m.Inv) (job : Int) : ∀ k, k ≤ m.locksN job → locksAll (m.popN job k).jobs + k = locksAll m.jobs ∧ (m.popN job k).locksN job = m.locksN job - k ∧ (m.popN job k).units = m.units
  | 0, _ => ⟨rfl, rfl, rfl⟩
  | k + 1, hk => by
    obtain ⟨a, b, c⟩ := UnM.popN_all h job k (by omega)
    obtain ⟨d, e, f⟩ := UnM.popped_all (h.popN job k) job
    have hle := UnM.locksN_le (h.popN job k) job
    rw [b] at d e hle
    rw [if_neg (by omega)] at d
    show locksAll ((m.popN job k).popped job).jobs + (k + 1) = _ ∧ ((m.popN job k).popped job).locksN job = _ ∧ ((m.popN job k).popped job).units = _
    rw [d, e, f]
    exact ⟨by omega, by omega, c⟩
theorem UnM.unlockE_lock {m : UnM} {job res : Int} (h : m.unlockE job res = 0) : 0 < m.locksN job := by
  unfold UnM.unlockE at h
  split at h
  · cases h
  · unfold UnM.locksN
    cases hr : rowAt m.jobs job with
    | none => rw [hr] at h; cases h
    | some j =>
      rw [hr] at h
      dsimp only at h ⊢
      cases hl : j.h.locks with
      | nil => rw [hl] at h; simp at h
      | cons x l => simp
end Go.Proofs.YtogcikilphakmaaGreatDoor
