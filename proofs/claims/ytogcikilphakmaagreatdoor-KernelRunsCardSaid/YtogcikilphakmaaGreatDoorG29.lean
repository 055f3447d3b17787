/-
  Merged texts of one proof: Code10, Code11, Code12, Code13.
-/
import Derived.Test.YtogcikilphakmaaGreatDoorG27

/-
  Package code: Parse. Every text.
-/
namespace Go.Proofs.YtogcikilphakmaaGreatDoor
open Go.RowKit Spl

def parseGo (s : ByteArray) : Nat → RdM → (Int × Int) × RdM
  | 0, m => ((0, 0), m)
  | n + 1, m =>
    if (wordAt s m.pos).size = 0 then ((0, 0), ⟨wEnd s m.pos, m.ops, m.opn⟩)
    else if beginsM m.ops.length m.opn (kindM (wordAt s m.pos)) = 0 then
      if (oneM s ⟨wEnd s m.pos, m.ops, m.opn⟩ (kindM (wordAt s m.pos))).1.2 = 0 then parseGo s n (oneM s ⟨wEnd s m.pos, m.ops, m.opn⟩ (kindM (wordAt s m.pos))).2
      else oneM s ⟨wEnd s m.pos, m.ops, m.opn⟩ (kindM (wordAt s m.pos))
    else (((wFrom s m.pos : Int), beginsM m.ops.length m.opn (kindM (wordAt s m.pos))), m)
/-- A text read: the operations; where it is wrong, and how. -/
def parseM (s : ByteArray) : List OpM × Int × Int :=
  if 4096 < s.size then ([], 0, 5)
  else let r := parseGo s (s.size + 1) ⟨0, [], 0⟩
    if r.1.2 = 0 then (if 0 < r.2.opn then ([], s.size, 31) else (r.2.ops, 0, 0)) else ([], r.1.1, r.1.2)
structure RdM.Ok (s : ByteArray) (m : RdM) : Prop where
  p : m.pos ≤ s.size
  n : m.ops.length ≤ 256
  q : 0 ≤ m.opn ∧ m.opn ≤ 4
theorem takeF_ge {s : ByteArray} : ∀ (l : List Nat) (i : Nat) (o : OpM), i ≤ s.size → i ≤ (takeF s l i o).2.1 := by
  intro l
  induction l with
  | nil => intro i o h; exact Nat.le_refl _
  | cons j l ih =>
    intro i o h
    have h2 := word_le h
    rw [takeF]
    split
    · exact Nat.le_trans (by omega) (ih _ _ h2.2.2)
    · show i ≤ wEnd s i; omega
theorem oneM_ok {s : ByteArray} {m : RdM} {k : Int} (h : m.Ok s) (hb : beginsM m.ops.length m.opn k = 0) : (oneM s m k).2.Ok s ∧ m.pos ≤ (oneM s m k).2.pos := by
  have hq := h.q
  have hn := h.n
  have h1 := takeF_le (fieldsOf (rowHas k)) m.pos ⟨k, 0, 0, 0⟩ h.p
  have h2 := takeF_ge (fieldsOf (rowHas k)) m.pos ⟨k, 0, 0, 0⟩ h.p
  have h3 := word_le h1
  unfold beginsM at hb
  split at hb
  · cases hb
  rename_i hn2
  split at hb
  · cases hb
  rename_i hk
  split at hb
  · cases hb
  rename_i hk2
  unfold oneM
  dsimp only
  split
  · split
    · split
      · exact ⟨⟨h3.2.2, by simp; omega, by show 0 ≤ m.opn + 1; omega, by show m.opn + 1 ≤ 4; omega⟩, by show _ ≤ wEnd s _; omega⟩
      · split
        · exact ⟨⟨h3.2.2, hn, hq⟩, by show _ ≤ wEnd s _; omega⟩
        · exact ⟨⟨h3.2.2, hn, hq⟩, by show _ ≤ wEnd s _; omega⟩
    · split
      · rename_i h11
        exact ⟨⟨h1, by simp; omega, by show 0 ≤ m.opn - 1; have : ¬ m.opn = 0 := fun e => hk (.inr ⟨h11, e⟩); omega, by show m.opn - 1 ≤ 4; omega⟩, h2⟩
      · exact ⟨⟨h1, by simp; omega, hq⟩, h2⟩
  · exact ⟨⟨h1, hn, hq⟩, h2⟩
section
variable {w0 w : World} {R : List Pr}

set_option maxRecDepth 20000 in
set_option maxHeartbeats 4000000 in
theorem cdParse [Lay w0 R] (H : Hd w0 R w) (s : ByteArray) : Calls Tryz.prog 84 #[.string s] w fun e w' => ∃ v, e = .returned (.tuple #[v, .int .i64 (parseM s).2.1, .int .i64 (parseM s).2.2]) ∧ Hd w0 (SlE 39 v (parseM s).1 :: R) w' := by
  by_cases hl : 4096 < s.size
  · have e1 : parseM s = ([], 0, 5) := by unfold parseM; rw [if_pos hl]
    rw [e1]
    have n1 : (4096 : Int) < s.size := by omega
    go_enter Tryz.func84, Tryz.ntmps84
    go_wp2_with fail
    (try simp only [Exit.inBlock, Exit.then])
    refine bodyPost_ret (results_tmp3 rfl _ _ _) rfl ⟨_, rfl, ?_⟩
    exact H.slc_nil _ _
  have n1 : ¬ (4096 : Int) < s.size := by omega
  obtain ⟨res, hres⟩ : ∃ res, parseM s = res := ⟨_, rfl⟩
  rw [hres]
  unfold parseM at hres
  rw [if_neg hl] at hres
  dsimp only at hres
  obtain ⟨T, hT⟩ : ∃ T, parseGo s (s.size + 1) ⟨0, [], 0⟩ = T := ⟨_, rfl⟩
  rw [hT] at hres
  have HS : Hd w0 _ (w.alloc (.cells #[.string s, .int .i64 0, .slice none 0 0, .int .i64 0] 246)) := (H.slc_nil 39 4).fol
  go_enter Tryz.func84, Tryz.ntmps84
  go_wp2_with fail
  go_loopw [6] (fun _ wr => ∃ (n : Nat) (m : RdM), m.Ok s ∧ s.size - m.pos < n ∧ T = parseGo s n m ∧ Hd w0 (RdP w.heap.size s m :: R) wr) (fun _ wr => s.size - intCell wr ⟨w.heap.size, 1, none⟩)
  case atStart => exact ⟨s.size + 1, ⟨0, [], 0⟩, ⟨Nat.zero_le _, by simp, by decide⟩, by simp, hT.symm, RdP.shut (m := ⟨0, [], 0⟩) (v := .slice none 0 0) (by exact HS)⟩
  case round =>
    clear HS hT
    obtain ⟨n, m, hm, hfu, ht, H1⟩ := hrel
    obtain ⟨ps, ops, opn⟩ := m
    obtain ⟨n, rfl⟩ : ∃ k, n = k + 1 := ⟨n - 1, by omega⟩
    obtain ⟨ov, H2⟩ := RdP.opened H1
    dsimp only at H2
    have hp : ps ≤ s.size := hm.p
    have hword := cdWord H2 hp (by omega)
    have hwl := word_le hp
    have hwz := wordAt_size hp
    have hms := Lib.hid (intCell_of ((H2.k w.heap.size).ce 1 rfl))
    obtain ⟨a', c', hov, -, -, -, -⟩ := H2.tail.slc_form
    subst hov
    rw [parseGo] at ht
    dsimp only at ht
    obtain ⟨F, hF⟩ : ∃ F, wFrom s ps = F := ⟨_, rfl⟩
    obtain ⟨E, hE⟩ : ∃ E, wEnd s ps = E := ⟨_, rfl⟩
    obtain ⟨V, hV⟩ : ∃ V, wordAt s ps = V := ⟨_, rfl⟩
    rw [hF, hE, hV] at hword ht
    rw [hV, hE, hF] at hwz
    rw [hF, hE] at hwl
    clear hF hE hV H1 H2
    by_cases hz : V.size = 0
    · rw [if_pos hz] at ht
      rw [ht] at hres
      dsimp only at hres
      rw [if_pos rfl] at hres
      have hV := empty_of_size hz
      subst hV
      by_cases hq : 0 < opn
      · rw [if_pos hq] at hres
        have hrs := hres
        clear hres ht hwz hz hms hm
        go_wp2_with fail
        refine hword.mono ?_
        rintro e w3 ⟨rfl, H5⟩
        clear hword
        have c0 := (H5.k w.heap.size).ce 3 rfl
        go_wp2_with fail
        (try simp only [Exit.inBlock, Exit.then])
        refine bodyPost_ret (results_tmp3 rfl _ _ _) rfl ⟨.slice none 0 0, by rw [← hrs]; rfl, ?_⟩
        rw [← hrs]
        exact H5.tail.tail.slc_nil _ _
      · rw [if_neg hq] at hres
        have hrs := hres
        clear hres ht hwz hz hms hm
        go_wp2_with fail
        refine hword.mono ?_
        rintro e w3 ⟨rfl, H5⟩
        clear hword
        have c0 := (H5.k w.heap.size).ce 3 rfl
        have c2 := (H5.k w.heap.size).ce 2 rfl
        go_wp2_with fail
        (try simp only [Exit.inBlock, Exit.then])
        refine bodyPost_ret (results_tmp3 rfl _ _ _) rfl ⟨_, by rw [← hrs]; rfl, ?_⟩
        rw [← hrs]
        exact H5.tail
    · rw [if_neg hz] at ht
      have hV := notEmpty_of_size hz
      obtain ⟨K, hK⟩ : ∃ K, kindM V = K := ⟨_, rfl⟩
      rw [hK] at ht
      by_cases hb : beginsM ops.length opn K = 0
      · rw [if_pos hb] at ht
        have hE : E ≤ s.size := hwl.2.2
        have hok := oneM_ok (s := s) (m := ⟨E, ops, opn⟩) (k := K) ⟨hE, hm.n, hm.q⟩ hb
        obtain ⟨r, hr⟩ : ∃ r, oneM s ⟨E, ops, opn⟩ K = r := ⟨_, rfl⟩
        rw [hr] at ht hok
        have hE2 : E ≤ s.size := hE
        have hnn := Lib.hid (show ops.length ≤ 1000 from Nat.le_trans hm.n (by decide))
        have hqq := Lib.hid (show -1000 ≤ opn ∧ opn ≤ 1000 from ⟨by have := hm.q.1; dsimp only at this; omega, by have := hm.q.2; dsimp only at this; omega⟩)
        have hgt : ps < E := by omega
        by_cases he : r.1.2 = 0
        · rw [if_pos he] at ht
          replace ht := Lib.hid ht
          replace hres := Lib.hid hres
          replace hok := Lib.hid hok
          have hfu2 := Lib.hid (show s.size - r.2.pos < n by have h1 := hok.out.2; dsimp only at h1 hfu; omega)
          have hlt := Lib.hid (show s.size - r.2.pos < s.size - ps by have h1 := hok.out.2; have h2 := hok.out.1.p; dsimp only at h1; omega)
          clear hm hwz hz hwl hfu
          go_wp2_with fail
          refine hword.mono ?_
          rintro e w3 ⟨rfl, H5⟩
          clear hword
          have hkc := cdKindOf H5 V
          rw [hK] at hkc
          go_wp2_with fail
          refine hkc.mono ?_
          rintro e w4 ⟨rfl, H6⟩
          clear hkc
          have hbc := cdBegins (kind := K) H6
          rw [hb] at hbc
          have hoc := cdOne (RdP.shut (m := ⟨E, ops, opn⟩) H6) hE2 (by omega) hnn.out hqq.out K
          rw [hr] at hoc
          go_wp2_with fail
          refine hbc.mono ?_
          rintro e w5 ⟨rfl, rfl⟩
          clear hbc
          go_wp2_with fail
          refine hoc.mono ?_
          rintro e w6 ⟨rfl, H7⟩
          clear hoc H6 H5
          rw [he]
          obtain ⟨v7, H8⟩ := RdP.opened H7
          have hm2 := Lib.hid (intCell_of ((H8.k w.heap.size).ce 1 rfl))
          clear H8
          go_wp2_with fail
          go_roundw
          case rel => exact ⟨n, r.2, hok.out.1, hfu2.out, ht.out, by exact H7⟩
          case measure =>
            have e1 := hm2.out
            have e2 := hms.out
            have e3 := hlt.out
            simp only [Int.toNat_natCast] at e1 e2
            rw [e1, e2]; exact e3
        · rw [if_neg he] at ht
          rw [ht] at hres
          rw [if_neg he] at hres
          have hrs := hres
          clear hm hwz hz hwl hfu hres ht hms hok
          go_wp2_with fail
          refine hword.mono ?_
          rintro e w3 ⟨rfl, H5⟩
          clear hword
          have hkc := cdKindOf H5 V
          rw [hK] at hkc
          go_wp2_with fail
          refine hkc.mono ?_
          rintro e w4 ⟨rfl, H6⟩
          clear hkc
          have hbc := cdBegins (kind := K) H6
          rw [hb] at hbc
          have hoc := cdOne (RdP.shut (m := ⟨E, ops, opn⟩) H6) hE2 (by omega) hnn.out hqq.out K
          rw [hr] at hoc
          go_wp2_with fail
          refine hbc.mono ?_
          rintro e w5 ⟨rfl, rfl⟩
          clear hbc
          go_wp2_with fail
          refine hoc.mono ?_
          rintro e w6 ⟨rfl, H7⟩
          clear hoc H6 H5
          go_wp2_with fail
          (try simp only [Exit.inBlock, Exit.then])
          refine bodyPost_ret (results_tmp3 rfl _ _ _) rfl ⟨.slice none 0 0, by rw [← hrs]; rfl, ?_⟩
          rw [← hrs]
          exact H7.tail.slc_nil _ _
      · rw [if_neg hb] at ht
        rw [ht] at hres
        dsimp only at hres
        rw [if_neg hb] at hres
        have hrs := hres
        obtain ⟨B, hB⟩ : ∃ B, beginsM ops.length opn K = B := ⟨_, rfl⟩
        rw [hB] at hrs hb
        clear hres ht hwz hz hms hm
        go_wp2_with fail
        refine hword.mono ?_
        rintro e w3 ⟨rfl, H5⟩
        clear hword
        have hkc := cdKindOf H5 V
        rw [hK] at hkc
        go_wp2_with fail
        refine hkc.mono ?_
        rintro e w4 ⟨rfl, H6⟩
        clear hkc
        have hbc := cdBegins (kind := K) H6
        rw [hB] at hbc
        go_wp2_with fail
        refine hbc.mono ?_
        rintro e w5 ⟨rfl, rfl⟩
        clear hbc
        go_wp2_with fail
        (try simp only [Exit.inBlock, Exit.then])
        refine bodyPost_ret (results_tmp3 rfl _ _ _) rfl ⟨.slice none 0 0, by rw [← hrs]; rfl, ?_⟩
        rw [← hrs]
        exact H6.tail.tail.slc_nil _ _
end
end Go.Proofs.YtogcikilphakmaaGreatDoor

/-
  Package code: the walker's step, with and without somebody told.
-/
namespace Go.Proofs.YtogcikilphakmaaGreatDoor
open Go.RowKit Spl

structure WkM where
  out : List OpM
  over : Bool
/-- A step further; false: no more. -/
def stepW (m : WkM) (o : OpM) : Bool × WkM := if m.out.length = 4096 then (false, ⟨m.out, true⟩) else (true, ⟨m.out ++ [o], m.over⟩)
/-- Who is told: nobody, or a list in a box. -/
inductive TellM where
  | nobody
  | box (b : Nat)
def TellM.v : TellM → Value
  | .nobody => .nilFunc
  | .box b => .func (.func 119) #[] #[.pointer (some ⟨b, 0, none⟩)]
def TellP : TellM → List OpM → Pr
  | .nobody, _ => fact True
  | .box b, l => ex fun v : Value => all [cel b 125 #[v], SlE 39 v l]
def WkP (b : Nat) (pv ev : Value) (t : TellM) (m : WkM) : Pr := all [cel b 279 #[pv, .int .i64 m.out.length, .bool m.over, ev, t.v], TellP t m.out]
instance (b : Nat) (pv ev : Value) (t : TellM) (m : WkM) : Key (WkP b pv ev t m) (.b b) := ⟨trivial⟩
section
variable {w0 w : World} {R : List Pr} {b : Nat} {pv ev : Value} {t : TellM} {m : WkM}
theorem WkP.opened (H : Hd w0 (WkP b pv ev t m :: R) w) : Hd w0 (cel b 279 #[pv, .int .i64 m.out.length, .bool m.over, ev, t.v] :: TellP t m.out :: R) w := H.flat
theorem WkP.shut (H : Hd w0 (cel b 279 #[pv, .int .i64 m.out.length, .bool m.over, ev, t.v] :: TellP t m.out :: R) w) : Hd w0 (WkP b pv ev t m :: R) w := Hd.pack (L := [_, _]) H

theorem TellP.opened {tb : Nat} {l : List OpM} (H : Hd w0 (TellP (.box tb) l :: R) w) : ∃ v, Hd w0 (cel tb 125 #[v] :: SlE 39 v l :: R) w := by
  obtain ⟨v, H⟩ := H.out
  exact ⟨v, H.flat⟩
theorem TellP.shut {tb : Nat} {l : List OpM} {v : Value} (H : Hd w0 (cel tb 125 #[v] :: SlE 39 v l :: R) w) : Hd w0 (TellP (.box tb) l :: R) w := Hd.into v (Hd.pack (L := [_, _]) H)
set_option maxRecDepth 20000 in
set_option maxHeartbeats 1600000 in
/-- One more is told. -/
theorem cdTold {tb : Nat} {l : List OpM} (H : Hd w0 (TellP (.box tb) l :: R) w) (hn : l.length ≤ 10000) (o : OpM) :
    Calls Tryz.prog 119 #[.agg #[.int .i64 o.kind, .int .i64 o.res, .int .i64 o.n, .int .i64 o.v], .pointer (some ⟨tb, 0, none⟩)] w fun e w' => e = .returned (.tuple #[]) ∧ Hd w0 (TellP (.box tb) (l ++ [o]) :: R) w' := by
  obtain ⟨v, H1⟩ := H.out
  replace H1 : Hd w0 (cel tb 125 #[v] :: SlE 39 v l :: R) w := H1.flat
  have H2 : Hd w0 _ (w.alloc (.cells #[.int .i64 o.kind, .int .i64 o.res, .int .i64 o.n, .int .i64 o.v] 39)) := H1.fol
  have hf := H2.facts
  simp only [Nat.reduceAdd] at hf
  go_split_ands
  have HP : Hd w0 _ ((w.alloc (.cells #[.int .i64 o.kind, .int .i64 o.res, .int .i64 o.n, .int .i64 o.v] 39)).alloc (.cells #[.int .i64 o.kind, .int .i64 o.res, .int .i64 o.n, .int .i64 o.v] 39)) := H2.fol
  obtain ⟨i0, hi, hz0, hz1, hz2⟩ := info_parts cdInfoOp
  have hS : ∀ {v' : Value} {L : List Pr} {w : World}, Hd w0 (Slc 39 4 v' (l.length + 1) (flat l ++ [.int .i64 o.kind, .int .i64 o.res, .int .i64 o.n, .int .i64 o.v]) :: L) w → Hd w0 (SlE 39 v' (l ++ [o]) :: L) w := by
    intro v' L w h
    have e1 : (l ++ [o]).length = l.length + 1 := by simp
    have e2 : flat (l ++ [o]) = flat l ++ [.int .i64 o.kind, .int .i64 o.res, .int .i64 o.n, .int .i64 o.v] := by rw [flat_append, flat_one]; rfl
    unfold SlE
    rw [e1, e2]
    exact h
  clear H H1
  go_enter Tryz.func119, Tryz.ntmps119
  go_wp2_with (at_builtin; refine wpList_append_slc rfl _ _ 125 rfl 39 i0 _ 4 32 Tryz.underlying125 hi hz0 hz1 hz2 rfl _ _ _ rfl (HP.v v) ⟨w.heap.size + 1, 0, none⟩ 1 1 [.int .i64 o.kind, .int .i64 o.res, .int .i64 o.n, .int .i64 o.v] rfl rfl (cel_news (HP.k (w.heap.size + 1))) (by simp [Value.oneCell']) (by unfold maxLen; omega) (by omega) ?_; intro v' w2 H4; have HF := hS H4; obtain ⟨l', hl'⟩ : ∃ l', l ++ [o] = l' := ⟨_, rfl⟩; rw [hl'] at HF; obtain ⟨a', c', rfl, -, -, -, -⟩ := HF.slc_form; replace hl' := Lib.hid hl'; have d0 := (HF.k tb).ce 0 rfl; have f0 := (HF.k tb).fr 0)
  go_end0
  rw [hl'.out]
  exact ⟨rfl, TellP.shut (v := .slice a' l'.length c') (by exact Hd.fin HF)⟩

set_option maxRecDepth 20000 in
set_option maxHeartbeats 1600000 in
theorem cdStep (H : Hd w0 (WkP b pv ev t m :: R) w) (hn : m.out.length ≤ 4096) (o : OpM) :
    Calls Tryz.prog 149 #[.pointer (some ⟨b, 0, none⟩), .agg #[.int .i64 o.kind, .int .i64 o.res, .int .i64 o.n, .int .i64 o.v]] w fun e w' => e = .returned (.bool (stepW m o).1) ∧ Hd w0 (WkP b pv ev t (stepW m o).2 :: R) w' := by
  have H1 := WkP.opened H
  obtain ⟨out, over⟩ := m
  dsimp only at H1 hn
  have H2 : Hd w0 _ (w.alloc (.cells #[.int .i64 o.kind, .int .i64 o.res, .int .i64 o.n, .int .i64 o.v] 39)) := H1.fol
  have hf := H2.facts
  simp only [Nat.reduceAdd] at hf
  go_split_ands
  clear H
  by_cases h4 : out.length = 4096
  · have e1 : stepW ⟨out, over⟩ o = (false, ⟨out, true⟩) := by unfold stepW; rw [if_pos h4]
    rw [e1]
    have n1 : (out.length : Int) = 4096 := by omega
    clear e1
    go_enter Tryz.func149, Tryz.ntmps149
    go_wp2_with fail
    go_ret
    exact ⟨rfl, WkP.shut (m := ⟨out, true⟩) (by exact Hd.fin H1)⟩
  · have e1 : stepW ⟨out, over⟩ o = (true, ⟨out ++ [o], over⟩) := by unfold stepW; rw [if_neg h4]
    rw [e1]
    have n1 : ¬ (out.length : Int) = 4096 := by omega
    have g5 : IntKind.i64.wrap ((out.length : Int) + 1) = (out.length : Int) + 1 := IntWalk.i64_in _ (by omega)
    have H3 : Hd w0 _ ((w.alloc (.cells #[.int .i64 o.kind, .int .i64 o.res, .int .i64 o.n, .int .i64 o.v] 39)).setCell ⟨b, 1, none⟩ (.int .i64 ((out.length : Int) + 1))) := H2.fol
    have hg := H3.facts
    simp only [Nat.reduceAdd] at hg
    go_split_ands
    have elen := Lib.hid (show ((out ++ [o]).length : Int) = (out.length : Int) + 1 by simp)
    have qN : ∀ w, (binOp .neq 252 .nilFunc .nilFunc).run Tryz.prog w = .ok (.bool false) w := fun w => by kernel_rfl
    have qF : ∀ tb w, (binOp .neq 252 (.func (.func 119) #[] #[.pointer (some ⟨tb, 0, none⟩)]) .nilFunc).run Tryz.prog w = .ok (.bool true) w := fun tb w => by kernel_rfl
    cases t with
    | nobody =>
      simp only [TellM.v] at *
      go_enter Tryz.func149, Tryz.ntmps149
      go_wp2_with fail
      go_ret
      refine ⟨rfl, WkP.shut (m := ⟨out ++ [o], over⟩) (t := .nobody) ?_⟩
      dsimp only
      rw [elen.out]
      exact (Hd.put trivial (by exact Hd.fin H3 : Hd w0 (cel b 279 #[pv, .int .i64 ((out.length : Int) + 1), .bool over, ev, .nilFunc] :: R) _)).b2
    | box tb =>
      simp only [TellM.v] at *
      have c4 := (H3.k b).ce 4 rfl
      have o0 := (H3.k w.heap.size).ce 0 rfl
      have o1 := (H3.k w.heap.size).ce 1 rfl
      have o2 := (H3.k w.heap.size).ce 2 rfl
      have o3 := (H3.k w.heap.size).ce 3 rfl
      have hcall := cdTold (tb := tb) (l := out) (R := cel b 279 #[pv, .int .i64 ((out.length : Int) + 1), .bool over, ev, .func (.func 119) #[] #[.pointer (some ⟨tb, 0, none⟩)]] :: cel w.heap.size 39 #[.int .i64 o.kind, .int .i64 o.res, .int .i64 o.n, .int .i64 o.v] :: R) ((H3.re : Hd w0 (TellP (.box tb) out :: cel b 279 #[pv, .int .i64 ((out.length : Int) + 1), .bool over, ev, .func (.func 119) #[] #[.pointer (some ⟨tb, 0, none⟩)]] :: cel w.heap.size 39 #[.int .i64 o.kind, .int .i64 o.res, .int .i64 o.n, .int .i64 o.v] :: R) _).drew) (by omega) o
      go_enter Tryz.func149, Tryz.ntmps149
      go_wp2_with fail
      refine wp_region_mix0 [(0, true), (1, true), (2, true), (3, true), (4, true), (5, false)] (fun w' => w'.cell? ⟨b, 4, none⟩ = some (.func (.func 119) #[] #[.pointer (some ⟨tb, 0, none⟩)]) ∧ w'.cell? ⟨w.heap.size, 0, none⟩ = some (.int .i64 o.kind) ∧ w'.cell? ⟨w.heap.size, 1, none⟩ = some (.int .i64 o.res) ∧ w'.cell? ⟨w.heap.size, 2, none⟩ = some (.int .i64 o.n) ∧ w'.cell? ⟨w.heap.size, 3, none⟩ = some (.int .i64 o.v)) (by kernel_rfl) (by kernel_rfl) (⟨c4, o0, o1, o2, o3⟩) (fun _ _ d _ _ h => by cases d <;> exact h) ?_
      iterate 5 (refine mix_head (o := _) (v := ?_) (by (simp only [List.getElem?_toArray, List.getElem?_cons_succ, List.getElem?_cons_zero]); rfl) (by rfl) (fun w' hS => ?_) ?_; rotate_left 1; (focus ((try dsimp only at hS); (try go_split_ands); go_simp; (try with_reducible rfl))); (try simp only [Act.put, List.setIfInBounds_toArray, List.set_cons_zero, List.set_cons_succ]))
      refine mix_mid (o := _) (by (simp only [List.getElem?_toArray, List.getElem?_cons_succ, List.getElem?_cons_zero]); rfl) ?_
      go_wp2_with fail
      refine hcall.mono ?_
      rintro e w2 ⟨rfl, H4⟩
      clear hcall H3 H1 H2
      have e4 := (H4.k b).ce 4 rfl
      have p0 := (H4.k w.heap.size).ce 0 rfl
      have p1 := (H4.k w.heap.size).ce 1 rfl
      have p2 := (H4.k w.heap.size).ce 2 rfl
      have p3 := (H4.k w.heap.size).ce 3 rfl
      go_wp2_with fail
      refine mixQ_in ⟨e4, p0, p1, p2, p3⟩ ?_
      refine mix_end ?_
      (try dsimp only)
      go_wp2_with fail
      go_ret
      refine ⟨rfl, WkP.shut (m := ⟨out ++ [o], over⟩) (t := .box tb) ?_⟩
      dsimp only
      rw [elen.out]
      exact (H4.re : Hd w0 (cel b 279 #[pv, .int .i64 ((out.length : Int) + 1), .bool over, ev, .func (.func 119) #[] #[.pointer (some ⟨tb, 0, none⟩)]] :: TellP (.box tb) (out ++ [o]) :: R) _)
end
end Go.Proofs.YtogcikilphakmaaGreatDoor

/-
  Package code: the walker's part. Every program that is right, every count of steps so far.
-/
namespace Go.Proofs.YtogcikilphakmaaGreatDoor
open Go.RowKit Spl

/-- So often; no more where nothing stands in it. -/
def repW (g : WkM → Bool × WkM) (begin : Option Nat) : Nat → WkM → Bool × WkM
  | 0, m => (true, m)
  | n + 1, m => if (g m).1 = false then g m else if begin = some (g m).2.out.length then (true, (g m).2) else repW g begin n (g m).2
def partW (p : List OpM) (ends : List Int) : Nat → Nat → Nat → WkM → Bool × WkM
  | 0, _, _, m => (true, m)
  | f + 1, i, to, m =>
    if i < to then
      match p[i]? with
      | none => (true, m)
      | some o =>
        if o.kind = 10 then
          let r := repW (partW p ends f (i + 1) (ends.getD i 0).toNat) (some m.out.length) o.n.toNat m
          if r.1 = false then r else partW p ends f ((ends.getD i 0).toNat + 1) to r.2
        else if o.kind = 5 then
          let r := repW (fun m => stepW m ⟨5, 0, 1, 0⟩) none o.n.toNat m
          if r.1 = false then r else partW p ends f (i + 1) to r.2
        else if o.kind = 9 then (false, (stepW m o).2)
        else if (stepW m o).1 = false then stepW m o else partW p ends f (i + 1) to (stepW m o).2
    else (true, m)
structure WOk (p : List OpM) (ends : List Int) : Prop where
  len : ends.length = p.length
  few : p.length ≤ 256
  n : ∀ o ∈ p, o.kind = 10 ∨ o.kind = 5 → 0 ≤ o.n ∧ o.n ≤ 4096
  e : ∀ (i : Nat) (o : OpM), p[i]? = some o → o.kind = 10 → ∃ e : Nat, ends[i]? = some (e : Int) ∧ i < e ∧ e < p.length
theorem stepW_le {m : WkM} {o : OpM} (h : m.out.length ≤ 4096) : (stepW m o).2.out.length ≤ 4096 := by
  unfold stepW
  split
  · exact h
  · simp; omega
theorem repW_le {g : WkM → Bool × WkM} {b : Option Nat} (hg : ∀ m : WkM, m.out.length ≤ 4096 → (g m).2.out.length ≤ 4096) : ∀ (n : Nat) (m : WkM), m.out.length ≤ 4096 → (repW g b n m).2.out.length ≤ 4096 := by
  intro n
  induction n with
  | zero => intro m h; exact h
  | succ n ih =>
    intro m h
    rw [repW]
    split
    · exact hg m h
    · split
      · exact hg m h
      · exact ih _ (hg m h)
theorem partW_le {p : List OpM} {ends : List Int} : ∀ (f i to : Nat) (m : WkM), m.out.length ≤ 4096 → (partW p ends f i to m).2.out.length ≤ 4096 := by
  intro f
  induction f with
  | zero => intro i to m h; exact h
  | succ f ih =>
    intro i to m h
    rw [partW]
    split
    · split
      · exact h
      · rename_i o _
        have h1 := repW_le (b := some m.out.length) (ih (i + 1) (ends.getD i 0).toNat) o.n.toNat m h
        have h2 := repW_le (g := fun m => stepW m ⟨5, 0, 1, 0⟩) (b := none) (fun m h => stepW_le h) o.n.toNat m h
        split
        · dsimp only
          split
          · exact h1
          · exact ih _ _ _ h1
        · split
          · dsimp only
            split
            · exact h2
            · exact ih _ _ _ h2
          · split
            · exact stepW_le h
            · split
              · exact stepW_le h
              · exact ih _ _ _ (stepW_le h)
    · exact h
section
variable {w0 w : World} {R : List Pr} {b : Nat} {pv ev : Value} {t : TellM}

set_option maxRecDepth 20000 in
set_option maxHeartbeats 4000000 in
theorem cdPart {p : List OpM} {ends : List Int} (hk : WOk p ends) (hp : Srd w0 R pv p) (he : Srd w0 R ev ends) : ∀ (F : Nat) {w : World} {m : WkM} (i to : Nat), p.length - i < F → i ≤ p.length → to ≤ p.length → m.out.length ≤ 4096 → Hd w0 (WkP b pv ev t m :: R) w →
    Calls Tryz.prog 148 #[.pointer (some ⟨b, 0, none⟩), .int .i64 i, .int .i64 to] w fun e w' => e = .returned (.bool (partW p ends F i to m).1) ∧ Hd w0 (WkP b pv ev t (partW p ends F i to m).2 :: R) w' := by
  intro F
  induction F using Nat.strongRecOn with
  | ind F IH =>
  intro w m i0 to hF hi0 hto hm H
  obtain ⟨res, hres⟩ : ∃ res, partW p ends F i0 to m = res := ⟨_, rfl⟩
  rw [hres]
  replace IH := Lib.hid IH
  go_enter Tryz.func148, Tryz.ntmps148
  go_wp2_with fail
  go_loopw [7] (fun x wr => ∃ (f i : Nat) (m : WkM), f ≤ F ∧ p.length - i < f ∧ i ≤ p.length ∧ m.out.length ≤ 4096 ∧ x = .int .i64 i ∧ partW p ends f i to m = res ∧ Hd w0 (WkP b pv ev t m :: R) wr) (fun x _ => p.length + 1 - (intOf x).toNat)
  case atStart => exact ⟨F, i0, m, Nat.le_refl _, hF, hi0, hm, rfl, hres, H⟩
  case round =>
    clear hres hF hi0 hm H
    obtain ⟨f, i, m, hfF, hfi, hi, hm, rfl, hres, H⟩ := hrel
    obtain ⟨f, rfl⟩ : ∃ k, f = k + 1 := ⟨f - 1, by omega⟩
    rw [partW] at hres
    by_cases hlt : i < to
    · rw [if_pos hlt] at hres
      have hil : i < p.length := by omega
      obtain ⟨o, ho⟩ : ∃ o, p[i]? = some o := ⟨p[i], List.getElem?_eq_getElem hil⟩
      rw [ho] at hres
      dsimp only at hres
      obtain ⟨g, c2, hpv, -, hcell⟩ := hp.at ho
      have f0 := hcell H.tail 0 _ rfl
      have f1 := hcell H.tail 1 _ rfl
      have f2 := hcell H.tail 2 _ rfl
      have f3 := hcell H.tail 3 _ rfl
      simp only [Enc.size, Nat.add_zero] at f0 f1 f2 f3
      have H1 := WkP.opened H
      have c0 : wr.cell? ⟨b, 0, none⟩ = some pv := (H1.k b).ce 0 rfl
      have c1 : wr.cell? ⟨b, 1, none⟩ = some (.int .i64 m.out.length) := (H1.k b).ce 1 rfl
      rw [hpv] at c0
      have n1 : ¬ (i : Int) < 0 := by omega
      have n2 : (i : Int) < p.length := by omega
      have n3 : ¬ p.length ≤ i := by omega
      have n4 : (i : Int) < to := by omega
      have g5 : IntKind.i64.wrap ((i : Int) + 1) = (i : Int) + 1 := IntWalk.i64_in _ (by have := hk.few; omega)
      by_cases h10 : o.kind = 10
      · rw [if_pos h10] at hres
        have hnn := hk.n o (List.mem_of_getElem? ho) (.inl h10)
        obtain ⟨e, hek, hie, hel⟩ := hk.e i o ho h10
        obtain ⟨ok, ores, on, ov⟩ := o
        dsimp only at h10 hres f0 f1 f2 f3 hnn
        subst h10
        obtain ⟨N, rfl⟩ : ∃ N : Nat, on = N := ⟨on.toNat, by omega⟩
        rw [Int.toNat_natCast] at hres
        have hed : (ends.getD i 0).toNat = e := by simp [List.getD_eq_getElem?_getD, hek]
        rw [hed] at hres
        obtain ⟨T, hT⟩ : ∃ T, repW (partW p ends f (i + 1) e) (some m.out.length) N m = T := ⟨_, rfl⟩
        rw [hT] at hres
        have H2 : Hd w0 _ (wr.alloc (.cells #[.int .i64 10, .int .i64 ores, .int .i64 N, .int .i64 ov] 39)) := H.fol
        have y1 : (wr.alloc (.cells #[.int .i64 10, .int .i64 ores, .int .i64 N, .int .i64 ov] 39)).cell? ⟨b, 1, none⟩ = some (.int .i64 m.out.length) := ((WkP.opened (H2.k b)).k b).ce 1 rfl
        obtain ⟨g2, c3, hev, -, hcell2⟩ := he.at hek
        have hlen2 := hk.len
        obtain ⟨B, hB⟩ : ∃ B : Nat, m.out.length = B := ⟨_, rfl⟩
        rw [hB] at c1 y1 hT
        have g7 : IntKind.i64.wrap ((e : Int) + 1) = (e : Int) + 1 := IntWalk.i64_in _ (by have := hk.few; omega)
        have q5 : (i : Int) < ends.length := by omega
        have q6 : ¬ ends.length ≤ i := by omega
        clear hcell H1 ho hed hek
        replace IH := Lib.hid IH.out
        replace hp := Lib.hid hp
        replace he := Lib.hid he
        replace hk := Lib.hid hk
        replace hcell2 := Lib.hid (fun w1 (h : Hd w0 R w1) => hcell2 h 0 _ rfl)
        go_wp2_with fail
        go_loopw [37] (fun x wv => ∃ (j : Nat) (m' : WkM), j ≤ N ∧ x = .int .i64 j ∧ m'.out.length ≤ 4096 ∧ T = repW (partW p ends f (i + 1) e) (some B) (N - j) m' ∧ Hd w0 (WkP b pv ev t m' :: R) wv) (fun x _ => N - (intOf x).toNat)
        case atStart => exact ⟨0, m, Nat.zero_le _, rfl, hm, hT.symm, by exact H2.re⟩
        case round =>
          clear H2 hT c0 c1 y1
          obtain ⟨j, m', hj, rfl, hm', ht, H3⟩ := hrel
          have g6 : IntKind.i64.wrap ((j : Int) + 1) = (j : Int) + 1 := IntWalk.i64_in _ (by omega)
          have H4 := WkP.opened H3
          have d3 := (show _ = some ev from (H4.k b).ce 3 rfl)
          have d4 := hcell2.out _ H3.tail
          simp only [Enc.size, Nat.add_zero, Nat.mul_one] at d4
          rw [hev] at d3
          clear H4
          by_cases hjN : j < N
          · have hcall := IH.out f (by omega) (i + 1) e (by omega) (by omega) (by omega) hm' H3
            rw [show ((i + 1 : Nat) : Int) = (i : Int) + 1 from rfl] at hcall
            have q1 : (j : Int) < N := by omega
            rw [show N - j = (N - (j + 1)) + 1 by omega, repW] at ht
            have hle := Lib.hid (partW_le (p := p) (ends := ends) f (i + 1) e m' hm')
            obtain ⟨r, hr⟩ : ∃ r, partW p ends f (i + 1) e m' = r := ⟨_, rfl⟩
            rw [hr] at hcall ht hle
            cases hb : r.1 with
            | false =>
              rw [hb, if_pos rfl] at ht
              rw [ht, hb, if_pos rfl] at hres
              rw [hb] at hcall
              clear hr ht H3 IH
              go_wp2_with fail
              refine hcall.mono ?_
              rintro e w1 ⟨rfl, H4⟩
              go_wp2_with fail
              go_ret
              exact ⟨ret_bool (by rw [← hres]; exact hb), by rw [← hres]; exact H4⟩
            | true =>
              rw [hb, if_neg (by decide)] at ht
              rw [hb] at hcall
              clear hr H3
              by_cases hB2 : B = r.2.out.length
              · rw [if_pos (by rw [hB2])] at ht
                rw [ht, if_neg (by simp)] at hres
                replace hres := Lib.hid hres
                clear ht
                go_wp2_with fail
                refine hcall.mono ?_
                rintro e1 w1 ⟨rfl, H4⟩
                clear hcall
                have H5 := WkP.opened H4
                have x1 : w1.cell? ⟨b, 1, none⟩ = some (.int .i64 r.2.out.length) := (H5.k b).ce 1 rfl
                have x3 : w1.cell? ⟨b, 3, none⟩ = some ev := (H5.k b).ce 3 rfl
                have x4 := hcell2.out _ H4.tail
                simp only [Enc.size, Nat.add_zero, Nat.mul_one] at x4
                rw [hev] at x3
                have q9 : (r.2.out.length : Int) = B := by omega
                clear H5
                go_wp2_with fail
                go_roundw
                case rel => exact ⟨f, e + 1, r.2, by omega, by omega, by omega, hle.out, by simp, hres.out, H4⟩
                case measure => simp [intOf]; omega
              · rw [if_neg (by intro h; injection h with h; exact hB2 h)] at ht
                replace ht := Lib.hid ht
                replace hres := Lib.hid hres
                go_wp2_with fail
                refine hcall.mono ?_
                rintro e1 w1 ⟨rfl, H4⟩
                clear hcall
                have H5 := WkP.opened H4
                have x1 : w1.cell? ⟨b, 1, none⟩ = some (.int .i64 r.2.out.length) := (H5.k b).ce 1 rfl
                have q9 : ¬ (r.2.out.length : Int) = B := by omega
                clear H5
                go_wp2_with fail
                go_roundw
                case rel => exact ⟨j + 1, r.2, by omega, by simp, hle.out, ht.out, H4⟩
                case measure => simp [intOf]; omega
          · obtain rfl : j = N := by omega
            rw [Nat.sub_self, repW] at ht
            rw [ht, if_neg (by simp)] at hres
            replace hres := Lib.hid hres
            clear ht IH
            go_wp2_with fail
            go_roundw
            case rel => exact ⟨f, e + 1, m', by omega, by omega, by omega, hm', by simp, hres.out, H3⟩
            case measure => simp [intOf]; omega
      · rw [if_neg h10] at hres
        by_cases h5 : o.kind = 5
        · rw [if_pos h5] at hres
          have hnn := hk.n o (List.mem_of_getElem? ho) (.inr h5)
          obtain ⟨ok, ores, on, ov⟩ := o
          dsimp only at h10 h5 hres f0 f1 f2 f3 hnn
          subst h5
          obtain ⟨N, rfl⟩ : ∃ N : Nat, on = N := ⟨on.toNat, by omega⟩
          rw [Int.toNat_natCast] at hres
          obtain ⟨T, hT⟩ : ∃ T, repW (fun m => stepW m ⟨5, 0, 1, 0⟩) none N m = T := ⟨_, rfl⟩
          rw [hT] at hres
          have H2 : Hd w0 _ (wr.alloc (.cells #[.int .i64 5, .int .i64 ores, .int .i64 N, .int .i64 ov] 39)) := H.fol
          clear hcell H1 ho
          replace IH := Lib.hid IH
          replace hp := Lib.hid hp
          replace he := Lib.hid he
          replace hk := Lib.hid hk
          go_wp2_with fail
          go_loopw [69] (fun x wv => ∃ (j : Nat) (m' : WkM), j ≤ N ∧ x = .int .i64 j ∧ m'.out.length ≤ 4096 ∧ T = repW (fun m => stepW m ⟨5, 0, 1, 0⟩) none (N - j) m' ∧ Hd w0 (WkP b pv ev t m' :: R) wv) (fun x _ => N - (intOf x).toNat)
          case atStart => exact ⟨0, m, Nat.zero_le _, rfl, hm, hT.symm, by exact H2.re⟩
          case round =>
            clear H2 hT c0 c1
            obtain ⟨j, m', hj, rfl, hm', ht, H3⟩ := hrel
            have g6 : IntKind.i64.wrap ((j : Int) + 1) = (j : Int) + 1 := IntWalk.i64_in _ (by omega)
            by_cases hjN : j < N
            · have hcall := cdStep H3 hm' ⟨5, 0, 1, 0⟩
              have q1 : (j : Int) < N := by omega
              rw [show N - j = (N - (j + 1)) + 1 by omega, repW] at ht
              have hle := Lib.hid (stepW_le (o := ⟨5, 0, 1, 0⟩) hm')
              obtain ⟨r, hr⟩ : ∃ r, stepW m' ⟨5, 0, 1, 0⟩ = r := ⟨_, rfl⟩
              (try dsimp only at ht)
              rw [hr] at hcall ht hle
              cases hb : r.1 with
              | false =>
                rw [hb, if_pos rfl] at ht
                rw [ht, hb, if_pos rfl] at hres
                rw [hb] at hcall
                clear hr ht H3
                go_wp2_with fail
                refine hcall.mono ?_
                rintro e w1 ⟨rfl, H4⟩
                go_wp2_with fail
                go_ret
                exact ⟨ret_bool (by rw [← hres]; exact hb), by rw [← hres]; exact H4⟩
              | true =>
                rw [hb, if_neg (by decide), if_neg (by simp)] at ht
                rw [hb] at hcall
                replace ht := Lib.hid ht
                replace hres := Lib.hid hres
                clear hr H3
                go_wp2_with fail
                refine hcall.mono ?_
                rintro e w1 ⟨rfl, H4⟩
                go_wp2_with fail
                go_roundw
                case rel => exact ⟨j + 1, r.2, by omega, by simp, hle.out, ht.out, H4⟩
                case measure => simp [intOf]; omega
            · obtain rfl : j = N := by omega
              rw [Nat.sub_self, repW] at ht
              rw [ht, if_neg (by simp)] at hres
              replace hres := Lib.hid hres
              clear ht
              go_wp2_with fail
              go_roundw
              case rel => exact ⟨f, i + 1, m', by omega, by omega, by omega, hm', by simp, hres.out, H3⟩
              case measure => simp [intOf]; omega
        · rw [if_neg h5] at hres
          obtain ⟨ok, ores, on, ov⟩ := o
          dsimp only at h10 h5 hres f0 f1 f2 f3
          have H2 : Hd w0 _ (wr.alloc (.cells #[.int .i64 ok, .int .i64 ores, .int .i64 on, .int .i64 ov] 39)) := H.fol
          have hcall := cdStep (H2.re : Hd w0 (WkP b pv ev t m :: R) _) hm ⟨ok, ores, on, ov⟩
          clear hcell H1 H2 ho
          by_cases h9 : ok = 9
          · subst h9
            rw [if_pos rfl] at hres
            clear hp he hk IH
            go_wp2_with fail
            refine hcall.mono ?_
            rintro e w1 ⟨rfl, H3⟩
            go_wp2_with fail
            go_ret
            exact ⟨ret_bool (by rw [← hres]), by rw [← hres]; exact H3⟩
          · rw [if_neg h9] at hres
            have hle := Lib.hid (stepW_le (o := ⟨ok, ores, on, ov⟩) hm)
            obtain ⟨r, hr⟩ : ∃ r, stepW m ⟨ok, ores, on, ov⟩ = r := ⟨_, rfl⟩
            rw [hr] at hcall hres hle
            cases hb : r.1 with
            | false =>
              rw [hb, if_pos rfl] at hres
              rw [hb] at hcall
              clear hp he hk IH hr
              go_wp2_with fail
              refine hcall.mono ?_
              rintro e w1 ⟨rfl, H3⟩
              go_wp2_with fail
              go_ret
              exact ⟨ret_bool (by rw [← hres]; exact hb), by rw [← hres]; exact H3⟩
            | true =>
              rw [hb, if_neg (by decide)] at hres
              rw [hb] at hcall
              replace hres := Lib.hid hres
              clear hr
              replace hp := Lib.hid hp
              replace he := Lib.hid he
              replace hk := Lib.hid hk
              go_wp2_with fail
              refine hcall.mono ?_
              rintro e w1 ⟨rfl, H3⟩
              go_wp2_with fail
              go_roundw
              case rel => exact ⟨f, i + 1, r.2, by omega, by omega, by omega, hle.out, by simp, hres.out, H3⟩
              case measure => simp [intOf]; omega
    · rw [if_neg hlt] at hres
      have n1 : ¬ (i : Int) < to := by omega
      clear hp he hk IH
      go_wp2_with fail
      go_ret
      exact ⟨ret_bool (by rw [← hres]), by rw [← hres]; exact H⟩
end
end Go.Proofs.YtogcikilphakmaaGreatDoor

/-
  Package code: where each repeat ends (plain law).
-/
namespace Go.Proofs.YtogcikilphakmaaGreatDoor
open Go.RowKit Spl

def endsGo : List OpM → Nat → List Int → List Int → List Int × List Int
  | [], _, e, o => (e, o)
  | x :: l, i, e, o => if x.kind = 10 then endsGo l (i + 1) e (o ++ [(i : Int)])
    else if x.kind = 11 then endsGo l (i + 1) (e.set (o.getLast?.getD 0).toNat i) o.dropLast
    else endsGo l (i + 1) e o
def zerosI (n : Nat) : List Int := List.replicate n 0
def endsOf (p : List OpM) : List Int := (endsGo p 0 (zerosI p.length) []).1
structure EInv (p : List OpM) (k : Nat) (e o : List Int) : Prop where
  len : e.length = p.length
  op : ∀ x ∈ o, ∃ j : Nat, x = j ∧ j < k
  c : ∀ (i : Nat) (y : OpM), i < k → p[i]? = some y → y.kind = 10 → (i : Int) ∈ o ∨ ∃ x : Nat, e[i]? = some (x : Int) ∧ i < x ∧ x < k
theorem EInv.open_ {p : List OpM} {k : Nat} {e o : List Int} {y : OpM} (h : EInv p k e o) (hy : p[k]? = some y) : EInv p (k + 1) e (o ++ [(k : Int)]) := by
  refine ⟨h.len, fun x hx => ?_, fun i z hi hz h10 => ?_⟩
  · rcases List.mem_append.1 hx with hx | hx
    · obtain ⟨j, e1, e2⟩ := h.op x hx; exact ⟨j, e1, by omega⟩
    · rw [List.mem_singleton] at hx; exact ⟨k, hx, by omega⟩
  · by_cases e1 : i = k
    · subst e1; exact .inl (by simp)
    · rcases h.c i z (by omega) hz h10 with h1 | ⟨x, h1, h2, h3⟩
      · exact .inl (List.mem_append_left _ h1)
      · exact .inr ⟨x, h1, h2, by omega⟩
theorem EInv.skip {p : List OpM} {k : Nat} {e o : List Int} {y : OpM} (h : EInv p k e o) (hy : p[k]? = some y) (hn : ¬ y.kind = 10) : EInv p (k + 1) e o := by
  refine ⟨h.len, fun x hx => ?_, fun i z hi hz h10 => ?_⟩
  · obtain ⟨j, e1, e2⟩ := h.op x hx; exact ⟨j, e1, by omega⟩
  · by_cases e1 : i = k
    · subst e1; rw [hy] at hz; injection hz with hz; subst hz; exact absurd h10 hn
    · rcases h.c i z (by omega) hz h10 with h1 | ⟨x, h1, h2, h3⟩
      · exact .inl h1
      · exact .inr ⟨x, h1, h2, by omega⟩
theorem EInv.close {p : List OpM} {k j : Nat} {e o : List Int} {y : OpM} (h : EInv p k e (o ++ [(j : Int)])) (hy : p[k]? = some y) (hn : ¬ y.kind = 10) : EInv p (k + 1) (e.set j k) o := by
  have hj : j < k := by
    obtain ⟨j', e1, e2⟩ := h.op (j : Int) (by simp)
    omega
  have hk : k < p.length := lt_of_get? hy
  refine ⟨by rw [List.length_set]; exact h.len, fun x hx => ?_, fun i z hi hz h10 => ?_⟩
  · obtain ⟨j', e1, e2⟩ := h.op x (List.mem_append_left _ hx); exact ⟨j', e1, by omega⟩
  · by_cases e1 : i = k
    · subst e1; rw [hy] at hz; injection hz with hz; subst hz; exact absurd h10 hn
    · by_cases e2 : i = j
      · subst e2
        refine .inr ⟨k, ?_, hj, by omega⟩
        rw [List.getElem?_set_self (by rw [h.len]; omega)]
      · rcases h.c i z (by omega) hz h10 with h1 | ⟨x, h1, h2, h3⟩
        · rcases List.mem_append.1 h1 with h1 | h1
          · exact .inl h1
          · rw [List.mem_singleton] at h1; exact absurd (by omega) e2
        · exact .inr ⟨x, by rw [List.getElem?_set_ne (Ne.symm e2)]; exact h1, h2, by omega⟩
theorem EInv.start (p : List OpM) : EInv p 0 (zerosI p.length) [] := ⟨by simp [zerosI], fun x hx => by simp at hx, fun i y hi => absurd hi (Nat.not_lt_zero _)⟩
theorem checkGo_ne {l : List OpM} : ∀ {i n : Nat}, (checkGo l i n).2 = 0 → ∀ o ∈ l, fieldsM o = true := by
  induction l with
  | nil => intro i n h o ho; simp at ho
  | cons x l ih =>
    intro i n h o ho
    rw [checkGo] at h
    cases hf : fieldsM x with
    | false => rw [if_pos hf] at h; simp at h
    | true =>
      rw [if_neg (by rw [hf]; decide)] at h
      rcases List.mem_cons.1 ho with rfl | ho
      · exact hf
      · split at h
        · split at h
          · simp at h
          · exact ih h o ho
        · split at h
          · split at h
            · simp at h
            · exact ih h o ho
          · exact ih h o ho
theorem fields_n {o : OpM} (h : fieldsM o = true) (hk : o.kind = 10 ∨ o.kind = 5) : 0 ≤ o.n ∧ o.n ≤ 4096 := by
  have h4 : rowHas o.kind = 4 := by rcases hk with e | e <;> rw [e] <;> rfl
  unfold fieldsM at h
  rw [if_neg (by omega), if_neg (by rw [h4]; decide), if_neg (by rw [h4]; decide), if_neg (by rw [h4]; decide), if_pos h4] at h
  simp at h
  omega
theorem checkM_len {p : List OpM} (h : (checkM p).2 = 0) : p.length ≤ 256 := by
  unfold checkM at h
  split at h
  · simp at h
  · omega
theorem checkM_go {p : List OpM} (h : (checkM p).2 = 0) : (checkGo p 0 0).2 = 0 := by
  unfold checkM at h
  split at h
  · simp at h
  · exact h
theorem EInv.ok {p : List OpM} {e : List Int} (h : EInv p p.length e []) (hc : (checkM p).2 = 0) : WOk p e :=
  ⟨h.len, checkM_len hc, fun o ho hk => fields_n (checkGo_ne (checkM_go hc) o ho) hk, fun i o hi h10 => by
    rcases h.c i o (lt_of_get? hi) hi h10 with h1 | ⟨x, h1, h2, h3⟩
    · simp at h1
    · exact ⟨x, h1, h2, h3⟩⟩
/-- The steps that are walked, from none on. -/
def walkM (p : List OpM) : WkM :=
  if (partW p (endsOf p) (p.length + 1) 0 p.length ⟨[], false⟩).1 then (stepW (partW p (endsOf p) (p.length + 1) 0 p.length ⟨[], false⟩).2 ⟨9, 0, 0, 0⟩).2
  else (partW p (endsOf p) (p.length + 1) 0 p.length ⟨[], false⟩).2
def stepsM (p : List OpM) : List OpM × Int := if (checkM p).2 = 0 then (if (walkM p).over then ([], 5) else ((walkM p).out, 0)) else ([], (checkM p).2)
end Go.Proofs.YtogcikilphakmaaGreatDoor
