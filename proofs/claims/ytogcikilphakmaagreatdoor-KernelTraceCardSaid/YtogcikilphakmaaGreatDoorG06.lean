/-
  Merged texts of one proof: Arena3, StkInt, More, Ceil, Clone.
-/
import Derived.BigQuiet
import Derived.Deep.QuietTactic
import Derived.Deep.RegionLaw
import Derived.IntWalk
import Derived.Lib.Hide
import Derived.Lib.SliceRun
import Derived.StillTailTactics
import Derived.Test.YtogcikilphakmaaGreatDoorG03
import Derived.Test.YtogcikilphakmaaGreatDoorG04
import Derived.Test.YtogcikilphakmaaGreatDoorG05
import Derived.Test.YtogcikilphakmaaGreatDoorRows

/-
  Package arena over the separation logic: Frame. Every arena.
-/
namespace Go.Proofs.YtogcikilphakmaaGreatDoor
open Go.RowKit Spl
section
variable {w0 w : World} {R : List Pr} {a : Nat} {m : ArM}

set_option maxRecDepth 20000 in
set_option maxHeartbeats 1600000 in
/-- Frame, where there is one: its words, in memory of its own. -/
theorem arFrame (H : Hd w0 (ArP a m :: R) w) (hm : m.Ok) (i : Nat) (f : FrM) (hi : m.fr[i]? = some f) :
    Calls Tryz.prog 38 #[.pointer (some ⟨a, 0, none⟩), .int .i64 i] w fun e w' => ∃ g, e = .returned (.tuple #[.slice (some ⟨g, 0, none⟩) f.laid.length f.laid.length, .bool true]) ∧ Hd w0 (SlEC 3 g f.laid.length f.laid :: ArP a m :: R) w' := by
  obtain ⟨g, v, H1⟩ := ArP.opened H
  have hil := lt_of_get? hi
  obtain ⟨h, cap, rfl, H2⟩ := (H1.v v).slc_at (by omega)
  have hfl := hm.laid f (List.mem_of_getElem? hi)
  have hb1 := hm.used
  have hb2 := hm.n
  have hfew := hm.few
  obtain ⟨oo, hoo⟩ : ∃ oo, oo = if f.size = 0 then 0 else 0 + usedL (m.fr.take i) := ⟨_, rfl⟩
  have hat := frs_at (g := g) hi 0
  rw [← hoo] at hat
  have hat2 := Lib.hid hat
  have c1 := (H2.k a).rd 1
  have ch := H2.slcC_rd hat
  have hlaid : ∀ (w1 : World) (L : List Pr), Hd w0 (SlcC 3 1 g m.n m.n (flat m.words) :: L) w1 → ∀ (j : Nat) (u : Value), (flat f.laid)[j]? = some u → w1.cell? ((⟨g, oo, none⟩ : Addr).add j) = some u := by
    intro w1 L h j u hj
    have hj1 := lt_of_get? hj
    rw [flat_len] at hj1
    have hj2 : j < f.laid.length := by simpa [Enc.size] using hj1
    have h0 : ¬ f.size = 0 := by omega
    rw [if_neg h0, Nat.zero_add] at hoo
    subst hoo
    have es : m.fr = m.fr.take i ++ (f :: m.fr.drop (i + 1)) := by
      obtain ⟨hi1, hi2⟩ := List.getElem?_eq_some_iff.1 hi
      rw [← hi2, ← List.drop_eq_getElem_cons hi1, List.take_append_drop]
    have hwl : (wordsL (m.fr.take i)).length = usedL (m.fr.take i) := wordsL_len (fun x hx => hm.laid x (List.mem_of_mem_take hx))
    rw [Addr.add_lit]
    refine h.slcC_rd ?_
    have ew : m.words = wordsL (m.fr.take i) ++ (f.laid ++ (zeros (f.size - f.laid.length) ++ (wordsL (m.fr.drop (i + 1)) ++ zeros (m.n - m.used)))) := by
      unfold ArM.words
      conv => lhs; rw [es]
      rw [wordsL_append]
      have : wordsL (f :: m.fr.drop (i + 1)) = f.words ++ wordsL (m.fr.drop (i + 1)) := rfl
      rw [this]
      unfold FrM.words
      simp
    rw [ew, flat_append, List.getElem?_append_right (by rw [flat_len, hwl]; simp [Enc.size]), flat_len, hwl]
    have e0 : usedL (m.fr.take i) + j - usedL (m.fr.take i) * Enc.size Int = j := by simp [Enc.size]
    rw [e0, flat_append, List.getElem?_append_left (lt_of_get? hj)]
    exact hj
  have hxl : f.laid.length ≤ 65536 := by
    have h1 := size_le_used (List.mem_of_getElem? hi)
    unfold ArM.used at hb1
    omega
  have hshut : ∀ (w' : World) (L : List Pr), Hd w0 (SlcC 26 1 h m.fr.length cap (frs g 0 m.fr) :: cel a 156 #[.slice (some ⟨g, 0, none⟩) m.n m.n, .slice (some ⟨h, 0, none⟩) m.fr.length cap, .int .i64 m.used, .int .i64 m.high] :: SlcC 3 1 g m.n m.n (flat m.words) :: L) w' → Hd w0 (ArP a m :: L) w' := by
    intro w' L H
    exact ArP.shut (g := g) (v := .slice (some ⟨h, 0, none⟩) m.fr.length cap) (H.slc_mk).re
  have n0 : ¬ ((i : Int) < 0) := by omega
  have n1 : (i : Int) < m.fr.length := by omega
  have n2 : ¬ m.fr.length ≤ i := by omega
  obtain ⟨i0, hinf, hz0, hz1, hz2⟩ := info_parts arInfoI
  have hfl2 := Lib.hid (flat_len f.laid)
  have hL := Lib.hid hlaid
  have hSh := Lib.hid hshut
  clear hoo hat H H1 hi hm hb1 hlaid hshut
  go_enter Tryz.func38, Tryz.ntmps38
  go_wp2_with fail
  refine wp_region_mix 16 [(0, true), (1, true), (2, true), (3, true), (4, true), (5, true), (6, true), (7, true), (9, true), (10, true), (11, true), (12, true), (13, true), (14, true), (15, true), (8, false)] (fun w' => w'.cell? ⟨a, 1, none⟩ = some (.slice (some ⟨h, 0, none⟩) m.fr.length cap) ∧ w'.cell? ⟨h, i, none⟩ = some (.slice (some ⟨g, oo, none⟩) f.laid.length f.size)) (by kernel_rfl) (by kernel_rfl) (⟨c1, ch⟩) (fun _ _ d _ _ h => by cases d <;> exact h) ?_
  simp only [List.drop_succ_cons, List.drop_zero]
  iterate 15 (refine mix_head (o := _) (v := ?_) (by (simp only [List.getElem?_toArray, List.getElem?_cons_succ, List.getElem?_cons_zero]); rfl) (by rfl) (fun w' hS => ?_) ?_; rotate_left 1; (focus ((try dsimp only at hS); (try go_split_ands); go_simp; (try with_reducible rfl))); (try simp only [Act.put, List.setIfInBounds_toArray, List.set_cons_zero, List.set_cons_succ]))
  refine mix_mid (o := _) (by (simp only [List.getElem?_toArray, List.getElem?_cons_succ, List.getElem?_cons_zero]); rfl) ?_
  go_wp2_with (at_make; (refine wpList_make_slc rfl _ _ 26 rfl 3 i0 _ 1 Tryz.underlying26 hinf hz0 hz1 rfl _ _ _ _ 0 f.laid.length rfl rfl rfl rfl (by omega) (by rw [hz2]; omega) (by unfold maxLen; omega) (Hd.fol H2) ?_); intro w1 H3; rw [madeCells_zero] at H3)
  have d1 := (H3.k a).rd 1
  have dh := (H3.k h).slcC_rd hat2.out
  refine mixQ_in ⟨d1, dh⟩ ?_
  refine mix_end ?_
  have hn1 := Lib.hid (hL.out _ _ (H3.k g))
  go_wp2_with (at_builtin; (refine wpList_append_fits_any_slc rfl _ _ 26 rfl 3 i0 1 Tryz.underlying26 hinf hz1 _ 0 f.laid.length [] rfl H3 _ f.laid.length _ (flat f.laid) rfl hfl2.out (by simp) (fun ad had => by obtain rfl := Option.some.inj had; exact hn1.out) (flat_oneCell f.laid) (by omega) ?_); intro w2 H4; rw [Nat.zero_add, List.nil_append] at H4)
  go_ret2
  refine ⟨_, rfl, ?_⟩
  have H5 : Hd w0 (SlcC 26 1 h m.fr.length cap (frs g 0 m.fr) :: cel a 156 #[.slice (some ⟨g, 0, none⟩) m.n m.n, .slice (some ⟨h, 0, none⟩) m.fr.length cap, .int .i64 m.used, .int .i64 m.high] :: SlcC 3 1 g m.n m.n (flat m.words) :: SlEC 3 w.heap.size f.laid.length f.laid :: R) w2 := H4.re
  exact (hSh.out _ _ H5).b2
end
end Go.Proofs.YtogcikilphakmaaGreatDoor

/-
  shelf.Stack of int over the separation logic. Every stack, every element.
-/
namespace Go.Proofs.YtogcikilphakmaaGreatDoor
open Go.RowKit Spl

theorem stkInfo_int : (Tryz.prog.info? 3).map (fun i => (i.zero, i.size, i.bytes)) = some (some (.int .i64 0), 1, 8) := by kernel_rfl
section
variable {w0 w : World} {R : List Pr} {s o T : Nat} {C : Array Value} {v : Value} {l : List Int}

/-- Push -/
theorem stkPush_int (H : Hd w0 (cel s T C :: SlE 3 v l :: R) w) (hC : C[o]? = some v) (hn : l.length ≤ 100000) (x : Int) :
    Calls Tryz.prog 178 #[.pointer (some ⟨s, o, none⟩), .int .i64 x] w fun e w' =>
      e = .returned (.tuple #[]) ∧ ∃ v', Hd w0 (cel s T (C.setIfInBounds o v') :: SlE 3 v' (l ++ [x]) :: R) w' := by
  have c0 : w.cell? ⟨s, o, none⟩ = some v := (H.rd o).trans hC
  obtain ⟨i0, hi, hz0, hz1, hz2⟩ := info_parts stkInfo_int
  have H2 := (H.alloc (.cells #[.int .i64 x] 3)).b3
  have hS : ∀ {v' : Value} {L : List Pr} {w : World}, Hd w0 (Slc 3 1 v' (l.length + 1) (flat l ++ [.int .i64 x]) :: L) w → Hd w0 (SlE 3 v' (l ++ [x]) :: L) w := by
    intro v' L w h
    have e1 : (l ++ [x]).length = l.length + 1 := by simp
    have e2 : flat (l ++ [x]) = flat l ++ [.int .i64 x] := by rw [flat_append, flat_one]; rfl
    unfold SlE
    rw [e1, e2]
    exact h
  go_enter Tryz.func178, Tryz.ntmps178
  go_wp2_with (at_builtin; refine wpList_append_slc rfl _ _ 26 rfl 3 i0 _ 1 8 Tryz.underlying26 hi hz0 hz1 hz2 rfl v _ _ rfl H2 ⟨w.heap.size, 0, none⟩ 1 1 [.int .i64 x] rfl rfl (cell_one_new _ _ _) (by simp [Value.oneCell']) (by unfold maxLen; omega) (by omega) ?_; intro v' w1 H3; obtain ⟨a', cap', rfl, _, _, _, _⟩ := H3.slc_form; have c1 := H3.b3.rd; have f1 := H3.b3.fr)
  go_end0
  exact ⟨rfl, _, (hS ((H3.b3.set o _).b3.tail.b2)).b2⟩

/-- At, where there is an element -/
theorem stkAt_int (H : Hd w0 (cel s T C :: SlE 3 v l :: R) w) (hC : C[o]? = some v) (hn : l.length ≤ 100000) (i : Nat) (x : Int) (hx : l[i]? = some x) :
    Calls Tryz.prog 101 #[.pointer (some ⟨s, o, none⟩), .int .i64 i] w fun e w' => e = .returned (.tuple #[.int .i64 x, .bool true]) ∧ w = w' := by
  have c0 : w.cell? ⟨s, o, none⟩ = some v := (H.rd o).trans hC
  have hi := lt_of_get? hx
  obtain ⟨g, cap, rfl, H2⟩ := H.b2.slc_at (by omega)
  have c1 : w.cell? ⟨g, i, none⟩ = some (.int .i64 x) := by
    have := H2.slcC_rd (flat_at hx (j := 0) (u := .int .i64 x) rfl)
    simpa [Enc.size] using this
  clear H H2 hx hC
  go_enter Tryz.func101, Tryz.ntmps101
  go_wp2
  go_ret2
  exact ⟨rfl, rfl⟩
/-- .. where there is none -/
theorem stkAtNo_int (H : Hd w0 (cel s T C :: SlE 3 v l :: R) w) (hC : C[o]? = some v) (i : Int) (h : i < 0 ∨ l.length ≤ i) :
    Calls Tryz.prog 101 #[.pointer (some ⟨s, o, none⟩), .int .i64 i] w fun e w' => e = .returned (.tuple #[.int .i64 0, .bool false]) ∧ w = w' := by
  have c0 : w.cell? ⟨s, o, none⟩ = some v := (H.rd o).trans hC
  obtain ⟨a, cap, rfl, _, _, _, _⟩ := H.b2.slc_form
  clear H hC
  rcases h with h | h
  · go_enter Tryz.func101, Tryz.ntmps101
    go_wp2
    go_ret2
    exact ⟨rfl, rfl⟩
  · have h0 : ¬ i < 0 := by omega
    go_enter Tryz.func101, Tryz.ntmps101
    go_wp2
    go_ret2
    exact ⟨rfl, rfl⟩

/-- Top, where there is an element -/
theorem stkTop_int {x : Int} (H : Hd w0 (cel s T C :: SlE 3 v (l ++ [x]) :: R) w) (hC : C[o]? = some v) (hn : l.length < 100000) :
    Calls Tryz.prog 65 #[.pointer (some ⟨s, o, none⟩)] w fun e w' => e = .returned (.tuple #[.int .i64 x, .bool true]) ∧ w = w' := by
  have hlen : (l ++ [x]).length = l.length + 1 := by simp
  have hat := stkAt_int H hC (by omega) l.length x (by simp)
  have c0 := (H.rd o).trans hC
  obtain ⟨g, cap, rfl, H2⟩ := H.b2.slc_at (by omega)
  rw [hlen] at c0
  clear H H2 hC hlen
  go_enter Tryz.func65, Tryz.ntmps65
  go_wp2_with fail
  refine hat.mono ?_
  rintro e w' ⟨rfl, rfl⟩
  go_wp2_with fail
  go_ret2
  exact ⟨rfl, rfl⟩
/-- .. where there is none -/
theorem stkTopNo_int (H : Hd w0 (cel s T C :: SlE 3 v ([] : List Int) :: R) w) (hC : C[o]? = some v) :
    Calls Tryz.prog 65 #[.pointer (some ⟨s, o, none⟩)] w fun e w' => e = .returned (.tuple #[.int .i64 0, .bool false]) ∧ w = w' := by
  have hat := stkAtNo_int H hC (-1) (.inl (by decide))
  have c0 := (H.rd o).trans hC
  obtain ⟨a, cap, rfl, _, _, _, _⟩ := H.b2.slc_form
  clear H hC
  go_enter Tryz.func65, Tryz.ntmps65
  go_wp2_with fail
  refine hat.mono ?_
  rintro e w' ⟨rfl, rfl⟩
  go_wp2_with fail
  go_ret2
  exact ⟨rfl, rfl⟩

set_option maxRecDepth 20000 in
set_option maxHeartbeats 800000 in
/-- Pop, where there is an element -/
theorem stkPop_int {x : Int} (H : Hd w0 (cel s T C :: SlE 3 v (l ++ [x]) :: R) w) (hC : C[o]? = some v) (hn : l.length < 100000) :
    Calls Tryz.prog 182 #[.pointer (some ⟨s, o, none⟩)] w fun e w' => e = .returned (.tuple #[.int .i64 x, .bool true]) ∧ ∃ v', Hd w0 (cel s T (C.setIfInBounds o v') :: SlE 3 v' l :: R) w' := by
  have hlen : (l ++ [x]).length = l.length + 1 := by simp
  have htop := stkTop_int H hC hn
  have c0 := (H.rd o).trans hC
  have f0 := H.fr o
  obtain ⟨g, cap, rfl, H2⟩ := H.b2.slc_at (by omega)
  have hcap := H2.slcC.2.1
  have hcm := H2.slcC.2.2.1
  rw [hlen] at c0 hcap
  have cg : w.cell? ⟨g, l.length, none⟩ = some (.int .i64 x) := by
    have := H2.slcC_rd (flat_at (l := l ++ [x]) (k := l.length) (x := x) (by simp) (j := 0) (u := .int .i64 x) rfl)
    simpa [Enc.size] using this
  have fg := H2.slcC_fr l.length
  have HS := H2.slcC_set (j := l.length) (by rw [flat_len, hlen]; simp [Enc.size]) (.int .i64 0)
  have HS2 := HS.slcC_cut (k := l.length) (c := cap) (by omega) (by omega) (Nat.le_refl _)
  have e1 : ((flat (l ++ [x])).set l.length (.int .i64 0)).take (l.length * Enc.size Int) = flat l := by
    rw [List.take_set_of_le (by simp [Enc.size]), flat_take, List.take_left' rfl]
  rw [e1] at HS2
  have d0 := (HS2.b2.rd o).trans hC
  have k0 := HS2.b2.fr o
  rw [hlen] at d0
  have HF := (HS2.b2.set o (.slice (some ⟨g, 0, none⟩) l.length cap)).b2.slc_mk.b2
  clear hcm
  have hw : IntKind.i64.wrap (l.length : Int) = l.length := IntWalk.i64_in _ (by omega)
  have hlt : (l.length : Int) < (l.length : Int) + 1 := by omega
  have hlc : l.length ≤ cap := by omega
  clear H H2 HS HS2 hC hlen e1
  go_enter Tryz.func182, Tryz.ntmps182
  go_wp2_with fail
  refine htop.mono ?_
  rintro e w' ⟨rfl, rfl⟩
  go_wp2_with fail
  refine wp_region_still_tail 12 (by kernel_rfl) (by kernel_rfl) ?_
  simp only [List.take_succ_cons, List.take_zero, List.drop_succ_cons, List.drop_zero, World.drew_eq]
  (repeat still_step)
  refine wpStill_nil ?_
  go_wp2_with fail
  refine wp_region_still_tail 14 (by kernel_rfl) (by kernel_rfl) ?_
  simp only [List.take_succ_cons, List.take_zero, List.drop_succ_cons, List.drop_zero, World.drew_eq]
  (repeat still_step)
  refine wpStill_nil ?_
  go_wp2_with fail
  go_ret2
  exact ⟨rfl, _, HF.drew.drew⟩
end
end Go.Proofs.YtogcikilphakmaaGreatDoor

/-
  Small words more: a cell of a literal row. No program in sight.
-/
namespace Go.Proofs.YtogcikilphakmaaGreatDoor
open Go.RowKit Spl
theorem Hd.ce {w0 w : World} {R : List Pr} {b T : Nat} {c : Array Value} (H : Hd w0 (cel b T c :: R) w) (i : Nat) {u : Value} (h : c[i]? = some u) : w.cell? ⟨b, i, none⟩ = some u := (H.rd i).trans h
end Go.Proofs.YtogcikilphakmaaGreatDoor

/-
  The system ceiling's stack over the separation logic: Top, Raise, Lower, Len.
-/
namespace Go.Proofs.YtogcikilphakmaaGreatDoor
open Go.RowKit Spl

def CeP (b : Nat) (l : List Int) : Pr := ex fun v : Value => all [cel b 152 #[v], SlE 3 v l]
instance (b : Nat) (l : List Int) : Key (CeP b l) (.b b) := ⟨trivial⟩
def topI (l : List Int) : Int := l.getLast?.getD 0
section
variable {w0 w : World} {R : List Pr} {b : Nat} {l : List Int}
theorem CeP.opened (H : Hd w0 (CeP b l :: R) w) : ∃ v, Hd w0 (cel b 152 #[v] :: SlE 3 v l :: R) w := by
  obtain ⟨v, H⟩ := H.out
  exact ⟨v, H.flat⟩
theorem CeP.shut {v : Value} (H : Hd w0 (cel b 152 #[v] :: SlE 3 v l :: R) w) : Hd w0 (CeP b l :: R) w :=
  Hd.into v (Hd.pack (L := [_, _]) H)
theorem ceTop (H : Hd w0 (CeP b l :: R) w) (hn : l.length ≤ 100000) : Calls Tryz.prog 37 #[.pointer (some ⟨b, 0, none⟩)] w fun e w' => e = .returned (.int .i64 (topI l)) ∧ w = w' := by
  obtain ⟨v, H1⟩ := CeP.opened H
  rcases nil_or_snoc l with rfl | ⟨a, x, rfl⟩
  · have hc := stkTopNo_int (o := 0) H1 rfl
    clear H H1
    go_enter Tryz.func37, Tryz.ntmps37
    go_wp2_with fail
    refine hc.mono ?_
    rintro e w' ⟨rfl, rfl⟩
    go_wp2_with fail
    go_ret
    exact ⟨rfl, rfl⟩
  · have hc := stkTop_int (o := 0) H1 rfl (by simp at hn; omega)
    have e1 : topI (a ++ [x]) = x := by simp [topI]
    rw [e1]
    clear H H1 e1
    go_enter Tryz.func37, Tryz.ntmps37
    go_wp2_with fail
    refine hc.mono ?_
    rintro e w' ⟨rfl, rfl⟩
    go_wp2_with fail
    go_ret
    exact ⟨rfl, rfl⟩

theorem ceRaise (H : Hd w0 (CeP b l :: R) w) (hn : l.length ≤ 10000) (x : Int) : Calls Tryz.prog 158 #[.pointer (some ⟨b, 0, none⟩), .int .i64 x] w fun e w' => e = .returned (.int .i64 (max x (topI l))) ∧ Hd w0 (CeP b (l ++ [max x (topI l)]) :: R) w' := by
  obtain ⟨v, H1⟩ := CeP.opened H
  have hc := ceTop H (by omega)
  clear H
  by_cases hx : x < topI l
  · have e : max x (topI l) = topI l := by omega
    rw [e]
    have hp := stkPush_int (o := 0) H1 rfl (by omega) (topI l)
    clear H1 hn e
    go_enter Tryz.func158, Tryz.ntmps158
    go_wp2_with fail
    refine hc.mono ?_
    rintro e w' ⟨rfl, rfl⟩
    clear hc
    go_wp2_with fail
    refine hp.mono ?_
    rintro e w' ⟨rfl, v', H2⟩
    go_wp2_with fail
    go_ret
    exact ⟨rfl, CeP.shut (v := v') H2⟩
  · have e : max x (topI l) = x := by omega
    rw [e]
    have hp := stkPush_int (o := 0) H1 rfl (by omega) x
    clear H1 hn e
    go_enter Tryz.func158, Tryz.ntmps158
    go_wp2_with fail
    refine hc.mono ?_
    rintro e w' ⟨rfl, rfl⟩
    clear hc
    go_wp2_with fail
    refine hp.mono ?_
    rintro e w' ⟨rfl, v', H2⟩
    go_wp2_with fail
    go_ret
    exact ⟨rfl, CeP.shut (v := v') H2⟩

theorem ceLower (H : Hd w0 (CeP b l :: R) w) (hn : l.length ≤ 10000) (hl : l ≠ []) : Calls Tryz.prog 162 #[.pointer (some ⟨b, 0, none⟩)] w fun e w' => e = .returned (.bool true) ∧ Hd w0 (CeP b l.dropLast :: R) w' := by
  obtain ⟨v, H1⟩ := CeP.opened H
  rcases nil_or_snoc l with rfl | ⟨a, x, rfl⟩
  · exact absurd rfl hl
  · have hc := stkPop_int (o := 0) H1 rfl (by simp at hn; omega)
    rw [List.dropLast_concat]
    clear H H1 hl
    go_enter Tryz.func162, Tryz.ntmps162
    go_wp2_with fail
    refine hc.mono ?_
    rintro e w' ⟨rfl, v', H2⟩
    go_wp2_with fail
    go_ret
    exact ⟨rfl, CeP.shut (v := v') H2⟩
end
end Go.Proofs.YtogcikilphakmaaGreatDoor

/-
  slices.Clone over the separation logic: of ints, of needs. The source is told by what it reads as.
-/
namespace Go.Proofs.YtogcikilphakmaaGreatDoor
open Go.RowKit Spl

/-- A slice that reads as a list in every world that keeps R. -/
def Src {α : Type} [Enc α] (w0 : World) (R : List Pr) (v : Value) (l : List α) : Prop :=
  (v = .slice none 0 0 ∧ l = []) ∨ ∃ ad c, v = .slice (some ad) l.length c ∧ ∀ {w1 : World}, Hd w0 R w1 → ∀ (j : Nat) (u : Value), (flat l)[j]? = some u → w1.cell? (ad.add j) = some u
theorem infoNeed : (Tryz.prog.info? 58).map (fun i => (i.zero, i.size, i.bytes)) = some (some (.agg #[.int .i64 0, .int .i64 0]), 2, 16) := by kernel_rfl
theorem Src.slc {α : Type} [Enc α] {w0 : World} {R : List Pr} {e : TypeId} {v : Value} {l : List α} {w : World} (H : Hd w0 (SlE e v l :: R) w) : Src w0 (SlE e v l :: R) v l := by
  rcases H.slc with ⟨h, h2, h3, _⟩ | ⟨g, c, h, _⟩
  · refine .inl ⟨h, ?_⟩
    exact List.eq_nil_of_length_eq_zero h2
  · subst h
    exact .inr ⟨_, c, rfl, fun H1 => H1.slc_news.2 _ rfl⟩
theorem Src.of {α : Type} [Enc α] {w0 : World} {R S : List Pr} {v : Value} {l : List α} (h : Src w0 R v l) (hs : ∀ {w1 : World}, Hd w0 S w1 → Hd w0 R w1) : Src w0 S v l := by
  rcases h with h | ⟨ad, c, h, h2⟩
  · exact .inl h
  · exact .inr ⟨ad, c, h, fun H => h2 (hs H)⟩
section
variable {w0 w : World} {R : List Pr} {v : Value}

set_option maxRecDepth 20000 in
set_option maxHeartbeats 800000 in
theorem clone_int {l : List Int} (H : Hd w0 R w) (hs : Src w0 R v l) (hn : l.length ≤ 100000) :
    Calls Tryz.prog 43 #[v] w fun e w' => ∃ v', e = .returned v' ∧ Hd w0 (SlE 3 v' l :: R) w' := by
  have qT : ∀ (w : World) (a : Option Addr) (n c : Nat), (binOp .eql 26 (.slice a n c) (.slice none 0 0)).run Tryz.prog w = .ok (.bool a.isNone) w := fun w a n c => Lib.run_eql_slice_nil w _ _ a n c 0 0 Tryz.underlying26
  rcases hs with ⟨rfl, rfl⟩ | ⟨ad, c, rfl, hs⟩
  · clear hn
    go_enter Tryz.func43, Tryz.ntmps43
    go_wp2
    go_ret
    exact ⟨_, rfl, H.slc_nil _ _⟩
  · obtain ⟨i0, hi, hz0, hz1, hz2⟩ := info_parts stkInfo_int
    have hA := H.alloc (.cells #[] 3)
    have H2 : Hd w0 (Slc 3 1 (.slice (some ⟨w.heap.size, 0, none⟩) 0 0) 0 [] :: R) (w.alloc (.cells #[] 3)) := (Hd.slcC_mk (sp := []) (xs := []) (size := 1) (n := 0) (cap := 0) hA rfl (Nat.le_refl _) (Nat.zero_le _) (by simp)).slc_mk
    have hnews := Lib.hid (hs hA.tail)
    have hfl := flat_len l
    replace hn := Lib.hid hn
    clear hs hA H
    have hlen := Lib.hid (Nat.zero_add l.length)
    go_enter Tryz.func43, Tryz.ntmps43
    go_wp2_with (at_builtin; refine wpList_append_slc rfl _ _ 26 rfl 3 i0 _ 1 8 Tryz.underlying26 hi hz0 hz1 hz2 rfl _ _ _ rfl H2 ad l.length c (flat l) rfl hfl hnews.out (flat_oneCell l) (by have := hn.out; unfold maxLen; omega) (by have := hn.out; omega) ?_; intro v' w2 H3; rw [hlen.out, List.nil_append] at H3)
    go_ret
    exact ⟨_, rfl, H3⟩

set_option maxRecDepth 20000 in
set_option maxHeartbeats 800000 in
theorem clone_need {l : List NeedM} (H : Hd w0 R w) (hs : Src w0 R v l) (hn : l.length ≤ 100000) :
    Calls Tryz.prog 50 #[v] w fun e w' => ∃ v', e = .returned v' ∧ Hd w0 (SlE 58 v' l :: R) w' := by
  have qT : ∀ (w : World) (a : Option Addr) (n c : Nat), (binOp .eql 31 (.slice a n c) (.slice none 0 0)).run Tryz.prog w = .ok (.bool a.isNone) w := fun w a n c => Lib.run_eql_slice_nil w _ _ a n c 0 0 Tryz.underlying31
  rcases hs with ⟨rfl, rfl⟩ | ⟨ad, c, rfl, hs⟩
  · clear hn
    go_enter Tryz.func50, Tryz.ntmps50
    go_wp2
    go_ret
    exact ⟨_, rfl, H.slc_nil _ _⟩
  · obtain ⟨i0, hi, hz0, hz1, hz2⟩ := info_parts infoNeed
    have hA := H.alloc (.cells #[] 58)
    have H2 : Hd w0 (Slc 58 2 (.slice (some ⟨w.heap.size, 0, none⟩) 0 0) 0 [] :: R) (w.alloc (.cells #[] 58)) := (Hd.slcC_mk (sp := []) (xs := []) (size := 2) (n := 0) (cap := 0) hA rfl (Nat.le_refl _) (Nat.zero_le _) (by simp)).slc_mk
    have hnews := Lib.hid (hs hA.tail)
    have hfl := flat_len l
    replace hn := Lib.hid hn
    clear hs hA H
    have hlen := Lib.hid (Nat.zero_add l.length)
    go_enter Tryz.func50, Tryz.ntmps50
    go_wp2_with (at_builtin; refine wpList_append_slc rfl _ _ 31 rfl 58 i0 _ 2 16 Tryz.underlying31 hi hz0 hz1 hz2 rfl _ _ _ rfl H2 ad l.length c (flat l) rfl hfl hnews.out (flat_oneCell l) (by have := hn.out; unfold maxLen; omega) (by have := hn.out; omega) ?_; intro v' w2 H3; rw [hlen.out, List.nil_append] at H3)
    go_ret
    exact ⟨_, rfl, H3⟩
end
end Go.Proofs.YtogcikilphakmaaGreatDoor
