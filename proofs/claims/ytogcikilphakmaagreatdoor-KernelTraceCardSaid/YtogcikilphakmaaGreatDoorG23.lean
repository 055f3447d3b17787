/-
  Merged texts of one proof: Code10, Code11.
-/
import Derived.Test.YtogcikilphakmaaGreatDoorG22

/-
  Package code: Parse. Every text.
-/
namespace Go.Proofs.YtogcikilphakmaaGreatDoor
open Go.RowKit Spl

def parseGo (s : ByteArray) : Nat → RdM → (Int × Int) × RdM
  | 0, m => ((0, 0), m)
  | n + 1, m =>
    if (wordAt s m.pos).size = 0 then ((0, 0), ⟨wEnd s m.pos, m.ops, m.opn⟩)
    else if beginsM m.ops.length m.opn (kindM (wordAt s m.pos)) = 0 then
      if (oneM s ⟨wEnd s m.pos, m.ops, m.opn⟩ (kindM (wordAt s m.pos))).1.2 = 0 then parseGo s n (oneM s ⟨wEnd s m.pos, m.ops, m.opn⟩ (kindM (wordAt s m.pos))).2
      else oneM s ⟨wEnd s m.pos, m.ops, m.opn⟩ (kindM (wordAt s m.pos))
    else (((wFrom s m.pos : Int), beginsM m.ops.length m.opn (kindM (wordAt s m.pos))), m)
/-- A text read: the operations; where it is wrong, and how. -/
def parseM (s : ByteArray) : List OpM × Int × Int :=
  if 4096 < s.size then ([], 0, 5)
  else let r := parseGo s (s.size + 1) ⟨0, [], 0⟩
    if r.1.2 = 0 then (if 0 < r.2.opn then ([], s.size, 31) else (r.2.ops, 0, 0)) else ([], r.1.1, r.1.2)
structure RdM.Ok (s : ByteArray) (m : RdM) : Prop where
  p : m.pos ≤ s.size
  n : m.ops.length ≤ 256
  q : 0 ≤ m.opn ∧ m.opn ≤ 4
theorem takeF_ge {s : ByteArray} : ∀ (l : List Nat) (i : Nat) (o : OpM), i ≤ s.size → i ≤ (takeF s l i o).2.1 := by
  intro l
  induction l with
  | nil => intro i o h; exact Nat.le_refl _
  | cons j l ih =>
    intro i o h
    have h2 := word_le h
    rw [takeF]
    split
    · exact Nat.le_trans (by omega) (ih _ _ h2.2.2)
    · show i ≤ wEnd s i; omega
theorem oneM_ok {s : ByteArray} {m : RdM} {k : Int} (h : m.Ok s) (hb : beginsM m.ops.length m.opn k = 0) : (oneM s m k).2.Ok s ∧ m.pos ≤ (oneM s m k).2.pos := by
  have hq := h.q
  have hn := h.n
  have h1 := takeF_le (fieldsOf (rowHas k)) m.pos ⟨k, 0, 0, 0⟩ h.p
  have h2 := takeF_ge (fieldsOf (rowHas k)) m.pos ⟨k, 0, 0, 0⟩ h.p
  have h3 := word_le h1
  unfold beginsM at hb
  split at hb
  · cases hb
  rename_i hn2
  split at hb
  · cases hb
  rename_i hk
  split at hb
  · cases hb
  rename_i hk2
  unfold oneM
  dsimp only
  split
  · split
    · split
      · exact ⟨⟨h3.2.2, by simp; omega, by show 0 ≤ m.opn + 1; omega, by show m.opn + 1 ≤ 4; omega⟩, by show _ ≤ wEnd s _; omega⟩
      · split
        · exact ⟨⟨h3.2.2, hn, hq⟩, by show _ ≤ wEnd s _; omega⟩
        · exact ⟨⟨h3.2.2, hn, hq⟩, by show _ ≤ wEnd s _; omega⟩
    · split
      · rename_i h11
        exact ⟨⟨h1, by simp; omega, by show 0 ≤ m.opn - 1; have : ¬ m.opn = 0 := fun e => hk (.inr ⟨h11, e⟩); omega, by show m.opn - 1 ≤ 4; omega⟩, h2⟩
      · exact ⟨⟨h1, by simp; omega, hq⟩, h2⟩
  · exact ⟨⟨h1, hn, hq⟩, h2⟩
section
variable {w0 w : World} {R : List Pr}

set_option maxRecDepth 20000 in
set_option maxHeartbeats 4000000 in
theorem cdParse [Lay w0 R] (H : Hd w0 R w) (s : ByteArray) : Calls Tryz.prog 84 #[.string s] w fun e w' => ∃ v, e = .returned (.tuple #[v, .int .i64 (parseM s).2.1, .int .i64 (parseM s).2.2]) ∧ Hd w0 (SlE 39 v (parseM s).1 :: R) w' := by
  by_cases hl : 4096 < s.size
  · have e1 : parseM s = ([], 0, 5) := by unfold parseM; rw [if_pos hl]
    rw [e1]
    have n1 : (4096 : Int) < s.size := by omega
    go_enter Tryz.func84, Tryz.ntmps84
    go_wp2_with fail
    (try simp only [Exit.inBlock, Exit.then])
    refine bodyPost_ret (results_tmp3 rfl _ _ _) rfl ⟨_, rfl, ?_⟩
    exact H.slc_nil _ _
  have n1 : ¬ (4096 : Int) < s.size := by omega
  obtain ⟨res, hres⟩ : ∃ res, parseM s = res := ⟨_, rfl⟩
  rw [hres]
  unfold parseM at hres
  rw [if_neg hl] at hres
  dsimp only at hres
  obtain ⟨T, hT⟩ : ∃ T, parseGo s (s.size + 1) ⟨0, [], 0⟩ = T := ⟨_, rfl⟩
  rw [hT] at hres
  have HS : Hd w0 _ (w.alloc (.cells #[.string s, .int .i64 0, .slice none 0 0, .int .i64 0] 246)) := (H.slc_nil 39 4).fol
  go_enter Tryz.func84, Tryz.ntmps84
  go_wp2_with fail
  go_loopw [6] (fun _ wr => ∃ (n : Nat) (m : RdM), m.Ok s ∧ s.size - m.pos < n ∧ T = parseGo s n m ∧ Hd w0 (RdP w.heap.size s m :: R) wr) (fun _ wr => s.size - intCell wr ⟨w.heap.size, 1, none⟩)
  case atStart => exact ⟨s.size + 1, ⟨0, [], 0⟩, ⟨Nat.zero_le _, by simp, by decide⟩, by simp, hT.symm, RdP.shut (m := ⟨0, [], 0⟩) (v := .slice none 0 0) (by exact HS)⟩
  case round =>
    clear HS hT
    obtain ⟨n, m, hm, hfu, ht, H1⟩ := hrel
    obtain ⟨ps, ops, opn⟩ := m
    obtain ⟨n, rfl⟩ : ∃ k, n = k + 1 := ⟨n - 1, by omega⟩
    obtain ⟨ov, H2⟩ := RdP.opened H1
    dsimp only at H2
    have hp : ps ≤ s.size := hm.p
    have hword := cdWord H2 hp (by omega)
    have hwl := word_le hp
    have hwz := wordAt_size hp
    have hms := Lib.hid (intCell_of ((H2.k w.heap.size).ce 1 rfl))
    obtain ⟨a', c', hov, -, -, -, -⟩ := H2.tail.slc_form
    subst hov
    rw [parseGo] at ht
    dsimp only at ht
    obtain ⟨F, hF⟩ : ∃ F, wFrom s ps = F := ⟨_, rfl⟩
    obtain ⟨E, hE⟩ : ∃ E, wEnd s ps = E := ⟨_, rfl⟩
    obtain ⟨V, hV⟩ : ∃ V, wordAt s ps = V := ⟨_, rfl⟩
    rw [hF, hE, hV] at hword ht
    rw [hV, hE, hF] at hwz
    rw [hF, hE] at hwl
    clear hF hE hV H1 H2
    by_cases hz : V.size = 0
    · rw [if_pos hz] at ht
      rw [ht] at hres
      dsimp only at hres
      rw [if_pos rfl] at hres
      have hV := empty_of_size hz
      subst hV
      by_cases hq : 0 < opn
      · rw [if_pos hq] at hres
        have hrs := hres
        clear hres ht hwz hz hms hm
        go_wp2_with fail
        refine hword.mono ?_
        rintro e w3 ⟨rfl, H5⟩
        clear hword
        have c0 := (H5.k w.heap.size).ce 3 rfl
        go_wp2_with fail
        (try simp only [Exit.inBlock, Exit.then])
        refine bodyPost_ret (results_tmp3 rfl _ _ _) rfl ⟨.slice none 0 0, by rw [← hrs]; rfl, ?_⟩
        rw [← hrs]
        exact H5.tail.tail.slc_nil _ _
      · rw [if_neg hq] at hres
        have hrs := hres
        clear hres ht hwz hz hms hm
        go_wp2_with fail
        refine hword.mono ?_
        rintro e w3 ⟨rfl, H5⟩
        clear hword
        have c0 := (H5.k w.heap.size).ce 3 rfl
        have c2 := (H5.k w.heap.size).ce 2 rfl
        go_wp2_with fail
        (try simp only [Exit.inBlock, Exit.then])
        refine bodyPost_ret (results_tmp3 rfl _ _ _) rfl ⟨_, by rw [← hrs]; rfl, ?_⟩
        rw [← hrs]
        exact H5.tail
    · rw [if_neg hz] at ht
      have hV := notEmpty_of_size hz
      obtain ⟨K, hK⟩ : ∃ K, kindM V = K := ⟨_, rfl⟩
      rw [hK] at ht
      by_cases hb : beginsM ops.length opn K = 0
      · rw [if_pos hb] at ht
        have hE : E ≤ s.size := hwl.2.2
        have hok := oneM_ok (s := s) (m := ⟨E, ops, opn⟩) (k := K) ⟨hE, hm.n, hm.q⟩ hb
        obtain ⟨r, hr⟩ : ∃ r, oneM s ⟨E, ops, opn⟩ K = r := ⟨_, rfl⟩
        rw [hr] at ht hok
        have hE2 : E ≤ s.size := hE
        have hnn := Lib.hid (show ops.length ≤ 1000 from Nat.le_trans hm.n (by decide))
        have hqq := Lib.hid (show -1000 ≤ opn ∧ opn ≤ 1000 from ⟨by have := hm.q.1; dsimp only at this; omega, by have := hm.q.2; dsimp only at this; omega⟩)
        have hgt : ps < E := by omega
        by_cases he : r.1.2 = 0
        · rw [if_pos he] at ht
          replace ht := Lib.hid ht
          replace hres := Lib.hid hres
          replace hok := Lib.hid hok
          have hfu2 := Lib.hid (show s.size - r.2.pos < n by have h1 := hok.out.2; dsimp only at h1 hfu; omega)
          have hlt := Lib.hid (show s.size - r.2.pos < s.size - ps by have h1 := hok.out.2; have h2 := hok.out.1.p; dsimp only at h1; omega)
          clear hm hwz hz hwl hfu
          go_wp2_with fail
          refine hword.mono ?_
          rintro e w3 ⟨rfl, H5⟩
          clear hword
          have hkc := cdKindOf H5 V
          rw [hK] at hkc
          go_wp2_with fail
          refine hkc.mono ?_
          rintro e w4 ⟨rfl, H6⟩
          clear hkc
          have hbc := cdBegins (kind := K) H6
          rw [hb] at hbc
          have hoc := cdOne (RdP.shut (m := ⟨E, ops, opn⟩) H6) hE2 (by omega) hnn.out hqq.out K
          rw [hr] at hoc
          go_wp2_with fail
          refine hbc.mono ?_
          rintro e w5 ⟨rfl, rfl⟩
          clear hbc
          go_wp2_with fail
          refine hoc.mono ?_
          rintro e w6 ⟨rfl, H7⟩
          clear hoc H6 H5
          rw [he]
          obtain ⟨v7, H8⟩ := RdP.opened H7
          have hm2 := Lib.hid (intCell_of ((H8.k w.heap.size).ce 1 rfl))
          clear H8
          go_wp2_with fail
          go_roundw
          case rel => exact ⟨n, r.2, hok.out.1, hfu2.out, ht.out, by exact H7⟩
          case measure =>
            have e1 := hm2.out
            have e2 := hms.out
            have e3 := hlt.out
            simp only [Int.toNat_natCast] at e1 e2
            rw [e1, e2]; exact e3
        · rw [if_neg he] at ht
          rw [ht] at hres
          rw [if_neg he] at hres
          have hrs := hres
          clear hm hwz hz hwl hfu hres ht hms hok
          go_wp2_with fail
          refine hword.mono ?_
          rintro e w3 ⟨rfl, H5⟩
          clear hword
          have hkc := cdKindOf H5 V
          rw [hK] at hkc
          go_wp2_with fail
          refine hkc.mono ?_
          rintro e w4 ⟨rfl, H6⟩
          clear hkc
          have hbc := cdBegins (kind := K) H6
          rw [hb] at hbc
          have hoc := cdOne (RdP.shut (m := ⟨E, ops, opn⟩) H6) hE2 (by omega) hnn.out hqq.out K
          rw [hr] at hoc
          go_wp2_with fail
          refine hbc.mono ?_
          rintro e w5 ⟨rfl, rfl⟩
          clear hbc
          go_wp2_with fail
          refine hoc.mono ?_
          rintro e w6 ⟨rfl, H7⟩
          clear hoc H6 H5
          go_wp2_with fail
          (try simp only [Exit.inBlock, Exit.then])
          refine bodyPost_ret (results_tmp3 rfl _ _ _) rfl ⟨.slice none 0 0, by rw [← hrs]; rfl, ?_⟩
          rw [← hrs]
          exact H7.tail.slc_nil _ _
      · rw [if_neg hb] at ht
        rw [ht] at hres
        dsimp only at hres
        rw [if_neg hb] at hres
        have hrs := hres
        obtain ⟨B, hB⟩ : ∃ B, beginsM ops.length opn K = B := ⟨_, rfl⟩
        rw [hB] at hrs hb
        clear hres ht hwz hz hms hm
        go_wp2_with fail
        refine hword.mono ?_
        rintro e w3 ⟨rfl, H5⟩
        clear hword
        have hkc := cdKindOf H5 V
        rw [hK] at hkc
        go_wp2_with fail
        refine hkc.mono ?_
        rintro e w4 ⟨rfl, H6⟩
        clear hkc
        have hbc := cdBegins (kind := K) H6
        rw [hB] at hbc
        go_wp2_with fail
        refine hbc.mono ?_
        rintro e w5 ⟨rfl, rfl⟩
        clear hbc
        go_wp2_with fail
        (try simp only [Exit.inBlock, Exit.then])
        refine bodyPost_ret (results_tmp3 rfl _ _ _) rfl ⟨.slice none 0 0, by rw [← hrs]; rfl, ?_⟩
        rw [← hrs]
        exact H6.tail.tail.slc_nil _ _
end
end Go.Proofs.YtogcikilphakmaaGreatDoor

/-
  Package code: the walker's step, with and without somebody told.
-/
namespace Go.Proofs.YtogcikilphakmaaGreatDoor
open Go.RowKit Spl

structure WkM where
  out : List OpM
  over : Bool
/-- A step further; false: no more. -/
def stepW (m : WkM) (o : OpM) : Bool × WkM := if m.out.length = 4096 then (false, ⟨m.out, true⟩) else (true, ⟨m.out ++ [o], m.over⟩)
/-- Who is told: nobody, or a list in a box. -/
inductive TellM where
  | nobody
  | box (b : Nat)
def TellM.v : TellM → Value
  | .nobody => .nilFunc
  | .box b => .func (.func 119) #[] #[.pointer (some ⟨b, 0, none⟩)]
def TellP : TellM → List OpM → Pr
  | .nobody, _ => fact True
  | .box b, l => ex fun v : Value => all [cel b 125 #[v], SlE 39 v l]
def WkP (b : Nat) (pv ev : Value) (t : TellM) (m : WkM) : Pr := all [cel b 279 #[pv, .int .i64 m.out.length, .bool m.over, ev, t.v], TellP t m.out]
instance (b : Nat) (pv ev : Value) (t : TellM) (m : WkM) : Key (WkP b pv ev t m) (.b b) := ⟨trivial⟩
section
variable {w0 w : World} {R : List Pr} {b : Nat} {pv ev : Value} {t : TellM} {m : WkM}
theorem WkP.opened (H : Hd w0 (WkP b pv ev t m :: R) w) : Hd w0 (cel b 279 #[pv, .int .i64 m.out.length, .bool m.over, ev, t.v] :: TellP t m.out :: R) w := H.flat
theorem WkP.shut (H : Hd w0 (cel b 279 #[pv, .int .i64 m.out.length, .bool m.over, ev, t.v] :: TellP t m.out :: R) w) : Hd w0 (WkP b pv ev t m :: R) w := Hd.pack (L := [_, _]) H

theorem TellP.opened {tb : Nat} {l : List OpM} (H : Hd w0 (TellP (.box tb) l :: R) w) : ∃ v, Hd w0 (cel tb 125 #[v] :: SlE 39 v l :: R) w := by
  obtain ⟨v, H⟩ := H.out
  exact ⟨v, H.flat⟩
theorem TellP.shut {tb : Nat} {l : List OpM} {v : Value} (H : Hd w0 (cel tb 125 #[v] :: SlE 39 v l :: R) w) : Hd w0 (TellP (.box tb) l :: R) w := Hd.into v (Hd.pack (L := [_, _]) H)
set_option maxRecDepth 20000 in
set_option maxHeartbeats 1600000 in
/-- One more is told. -/
theorem cdTold {tb : Nat} {l : List OpM} (H : Hd w0 (TellP (.box tb) l :: R) w) (hn : l.length ≤ 10000) (o : OpM) :
    Calls Tryz.prog 119 #[.agg #[.int .i64 o.kind, .int .i64 o.res, .int .i64 o.n, .int .i64 o.v], .pointer (some ⟨tb, 0, none⟩)] w fun e w' => e = .returned (.tuple #[]) ∧ Hd w0 (TellP (.box tb) (l ++ [o]) :: R) w' := by
  obtain ⟨v, H1⟩ := H.out
  replace H1 : Hd w0 (cel tb 125 #[v] :: SlE 39 v l :: R) w := H1.flat
  have H2 : Hd w0 _ (w.alloc (.cells #[.int .i64 o.kind, .int .i64 o.res, .int .i64 o.n, .int .i64 o.v] 39)) := H1.fol
  have hf := H2.facts
  simp only [Nat.reduceAdd] at hf
  go_split_ands
  have HP : Hd w0 _ ((w.alloc (.cells #[.int .i64 o.kind, .int .i64 o.res, .int .i64 o.n, .int .i64 o.v] 39)).alloc (.cells #[.int .i64 o.kind, .int .i64 o.res, .int .i64 o.n, .int .i64 o.v] 39)) := H2.fol
  obtain ⟨i0, hi, hz0, hz1, hz2⟩ := info_parts cdInfoOp
  have hS : ∀ {v' : Value} {L : List Pr} {w : World}, Hd w0 (Slc 39 4 v' (l.length + 1) (flat l ++ [.int .i64 o.kind, .int .i64 o.res, .int .i64 o.n, .int .i64 o.v]) :: L) w → Hd w0 (SlE 39 v' (l ++ [o]) :: L) w := by
    intro v' L w h
    have e1 : (l ++ [o]).length = l.length + 1 := by simp
    have e2 : flat (l ++ [o]) = flat l ++ [.int .i64 o.kind, .int .i64 o.res, .int .i64 o.n, .int .i64 o.v] := by rw [flat_append, flat_one]; rfl
    unfold SlE
    rw [e1, e2]
    exact h
  clear H H1
  go_enter Tryz.func119, Tryz.ntmps119
  go_wp2_with (at_builtin; refine wpList_append_slc rfl _ _ 125 rfl 39 i0 _ 4 32 Tryz.underlying125 hi hz0 hz1 hz2 rfl _ _ _ rfl (HP.v v) ⟨w.heap.size + 1, 0, none⟩ 1 1 [.int .i64 o.kind, .int .i64 o.res, .int .i64 o.n, .int .i64 o.v] rfl rfl (cel_news (HP.k (w.heap.size + 1))) (by simp [Value.oneCell']) (by unfold maxLen; omega) (by omega) ?_; intro v' w2 H4; have HF := hS H4; obtain ⟨l', hl'⟩ : ∃ l', l ++ [o] = l' := ⟨_, rfl⟩; rw [hl'] at HF; obtain ⟨a', c', rfl, -, -, -, -⟩ := HF.slc_form; replace hl' := Lib.hid hl'; have d0 := (HF.k tb).ce 0 rfl; have f0 := (HF.k tb).fr 0)
  go_end0
  rw [hl'.out]
  exact ⟨rfl, TellP.shut (v := .slice a' l'.length c') (by exact Hd.fin HF)⟩

set_option maxRecDepth 20000 in
set_option maxHeartbeats 1600000 in
theorem cdStep (H : Hd w0 (WkP b pv ev t m :: R) w) (hn : m.out.length ≤ 4096) (o : OpM) :
    Calls Tryz.prog 149 #[.pointer (some ⟨b, 0, none⟩), .agg #[.int .i64 o.kind, .int .i64 o.res, .int .i64 o.n, .int .i64 o.v]] w fun e w' => e = .returned (.bool (stepW m o).1) ∧ Hd w0 (WkP b pv ev t (stepW m o).2 :: R) w' := by
  have H1 := WkP.opened H
  obtain ⟨out, over⟩ := m
  dsimp only at H1 hn
  have H2 : Hd w0 _ (w.alloc (.cells #[.int .i64 o.kind, .int .i64 o.res, .int .i64 o.n, .int .i64 o.v] 39)) := H1.fol
  have hf := H2.facts
  simp only [Nat.reduceAdd] at hf
  go_split_ands
  clear H
  by_cases h4 : out.length = 4096
  · have e1 : stepW ⟨out, over⟩ o = (false, ⟨out, true⟩) := by unfold stepW; rw [if_pos h4]
    rw [e1]
    have n1 : (out.length : Int) = 4096 := by omega
    clear e1
    go_enter Tryz.func149, Tryz.ntmps149
    go_wp2_with fail
    go_ret
    exact ⟨rfl, WkP.shut (m := ⟨out, true⟩) (by exact Hd.fin H1)⟩
  · have e1 : stepW ⟨out, over⟩ o = (true, ⟨out ++ [o], over⟩) := by unfold stepW; rw [if_neg h4]
    rw [e1]
    have n1 : ¬ (out.length : Int) = 4096 := by omega
    have g5 : IntKind.i64.wrap ((out.length : Int) + 1) = (out.length : Int) + 1 := IntWalk.i64_in _ (by omega)
    have H3 : Hd w0 _ ((w.alloc (.cells #[.int .i64 o.kind, .int .i64 o.res, .int .i64 o.n, .int .i64 o.v] 39)).setCell ⟨b, 1, none⟩ (.int .i64 ((out.length : Int) + 1))) := H2.fol
    have hg := H3.facts
    simp only [Nat.reduceAdd] at hg
    go_split_ands
    have elen := Lib.hid (show ((out ++ [o]).length : Int) = (out.length : Int) + 1 by simp)
    have qN : ∀ w, (binOp .neq 252 .nilFunc .nilFunc).run Tryz.prog w = .ok (.bool false) w := fun w => by kernel_rfl
    have qF : ∀ tb w, (binOp .neq 252 (.func (.func 119) #[] #[.pointer (some ⟨tb, 0, none⟩)]) .nilFunc).run Tryz.prog w = .ok (.bool true) w := fun tb w => by kernel_rfl
    cases t with
    | nobody =>
      simp only [TellM.v] at *
      go_enter Tryz.func149, Tryz.ntmps149
      go_wp2_with fail
      go_ret
      refine ⟨rfl, WkP.shut (m := ⟨out ++ [o], over⟩) (t := .nobody) ?_⟩
      dsimp only
      rw [elen.out]
      exact (Hd.put trivial (by exact Hd.fin H3 : Hd w0 (cel b 279 #[pv, .int .i64 ((out.length : Int) + 1), .bool over, ev, .nilFunc] :: R) _)).b2
    | box tb =>
      simp only [TellM.v] at *
      have c4 := (H3.k b).ce 4 rfl
      have o0 := (H3.k w.heap.size).ce 0 rfl
      have o1 := (H3.k w.heap.size).ce 1 rfl
      have o2 := (H3.k w.heap.size).ce 2 rfl
      have o3 := (H3.k w.heap.size).ce 3 rfl
      have hcall := cdTold (tb := tb) (l := out) (R := cel b 279 #[pv, .int .i64 ((out.length : Int) + 1), .bool over, ev, .func (.func 119) #[] #[.pointer (some ⟨tb, 0, none⟩)]] :: cel w.heap.size 39 #[.int .i64 o.kind, .int .i64 o.res, .int .i64 o.n, .int .i64 o.v] :: R) ((H3.re : Hd w0 (TellP (.box tb) out :: cel b 279 #[pv, .int .i64 ((out.length : Int) + 1), .bool over, ev, .func (.func 119) #[] #[.pointer (some ⟨tb, 0, none⟩)]] :: cel w.heap.size 39 #[.int .i64 o.kind, .int .i64 o.res, .int .i64 o.n, .int .i64 o.v] :: R) _).drew) (by omega) o
      go_enter Tryz.func149, Tryz.ntmps149
      go_wp2_with fail
      refine wp_region_mix0 [(0, true), (1, true), (2, true), (3, true), (4, true), (5, false)] (fun w' => w'.cell? ⟨b, 4, none⟩ = some (.func (.func 119) #[] #[.pointer (some ⟨tb, 0, none⟩)]) ∧ w'.cell? ⟨w.heap.size, 0, none⟩ = some (.int .i64 o.kind) ∧ w'.cell? ⟨w.heap.size, 1, none⟩ = some (.int .i64 o.res) ∧ w'.cell? ⟨w.heap.size, 2, none⟩ = some (.int .i64 o.n) ∧ w'.cell? ⟨w.heap.size, 3, none⟩ = some (.int .i64 o.v)) (by kernel_rfl) (by kernel_rfl) (⟨c4, o0, o1, o2, o3⟩) (fun _ _ d _ _ h => by cases d <;> exact h) ?_
      iterate 5 (refine mix_head (o := _) (v := ?_) (by (simp only [List.getElem?_toArray, List.getElem?_cons_succ, List.getElem?_cons_zero]); rfl) (by rfl) (fun w' hS => ?_) ?_; rotate_left 1; (focus ((try dsimp only at hS); (try go_split_ands); go_simp; (try with_reducible rfl))); (try simp only [Act.put, List.setIfInBounds_toArray, List.set_cons_zero, List.set_cons_succ]))
      refine mix_mid (o := _) (by (simp only [List.getElem?_toArray, List.getElem?_cons_succ, List.getElem?_cons_zero]); rfl) ?_
      go_wp2_with fail
      refine hcall.mono ?_
      rintro e w2 ⟨rfl, H4⟩
      clear hcall H3 H1 H2
      have e4 := (H4.k b).ce 4 rfl
      have p0 := (H4.k w.heap.size).ce 0 rfl
      have p1 := (H4.k w.heap.size).ce 1 rfl
      have p2 := (H4.k w.heap.size).ce 2 rfl
      have p3 := (H4.k w.heap.size).ce 3 rfl
      go_wp2_with fail
      refine mixQ_in ⟨e4, p0, p1, p2, p3⟩ ?_
      refine mix_end ?_
      (try dsimp only)
      go_wp2_with fail
      go_ret
      refine ⟨rfl, WkP.shut (m := ⟨out ++ [o], over⟩) (t := .box tb) ?_⟩
      dsimp only
      rw [elen.out]
      exact (H4.re : Hd w0 (cel b 279 #[pv, .int .i64 ((out.length : Int) + 1), .bool over, ev, .func (.func 119) #[] #[.pointer (some ⟨tb, 0, none⟩)]] :: TellP (.box tb) (out ++ [o]) :: R) _)
end
end Go.Proofs.YtogcikilphakmaaGreatDoor
