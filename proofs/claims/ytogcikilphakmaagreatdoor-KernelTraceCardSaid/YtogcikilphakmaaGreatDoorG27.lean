/-
  Merged texts of one proof: Code9.
-/
import Derived.Test.YtogcikilphakmaaGreatDoorG25

/-
  Package code: the reader's one. Every text, every place, every kind.
-/
namespace Go.Proofs.YtogcikilphakmaaGreatDoor
open Go.RowKit Spl

structure RdM where
  pos : Nat
  ops : List OpM
  opn : Int
def fieldsOf (h : Int) : List Nat := if h = 1 then [1, 2] else if h = 2 then [1] else if h = 3 then [3] else if h = 4 then [2] else []
def takeF (s : ByteArray) : List Nat → Nat → OpM → (Int × Int) × Nat × OpM
  | [], i, o => ((0, 0), i, o)
  | j :: l, i, o => if (fieldM s i o j).1.2 = 0 then takeF s l (wEnd s i) (fieldM s i o j).2 else ((fieldM s i o j).1, wEnd s i, (fieldM s i o j).2)
/-- An operation read behind its first word. -/
def oneM (s : ByteArray) (m : RdM) (kind : Int) : (Int × Int) × RdM :=
  let r := takeF s (fieldsOf (rowHas kind)) m.pos ⟨kind, 0, 0, 0⟩
  if r.1.2 = 0 then
    if kind = 10 then
      if (wordAt s r.2.1).toList == [123] then ((0, 0), ⟨wEnd s r.2.1, m.ops ++ [r.2.2], m.opn + 1⟩)
      else if (wordAt s r.2.1).size = 0 then (((s.size : Int), 31), ⟨wEnd s r.2.1, m.ops, m.opn⟩)
      else (((wFrom s r.2.1 : Int), 30), ⟨wEnd s r.2.1, m.ops, m.opn⟩)
    else if kind = 11 then ((0, 0), ⟨r.2.1, m.ops ++ [r.2.2], m.opn - 1⟩)
    else ((0, 0), ⟨r.2.1, m.ops ++ [r.2.2], m.opn⟩)
  else (r.1, ⟨r.2.1, m.ops, m.opn⟩)
def RdP (b : Nat) (s : ByteArray) (m : RdM) : Pr := ex fun v : Value => all [cel b 246 #[.string s, .int .i64 m.pos, v, .int .i64 m.opn], SlE 39 v m.ops]
instance (b : Nat) (s : ByteArray) (m : RdM) : Key (RdP b s m) (.b b) := ⟨trivial⟩
theorem cdInfoOp : (Tryz.prog.info? 39).map (fun i => (i.zero, i.size, i.bytes)) = some (some (.agg #[.int .i64 0, .int .i64 0, .int .i64 0, .int .i64 0]), 4, 32) := by kernel_rfl
def ptrJ (ob j : Nat) : Value := .pointer (some ⟨ob, j, none⟩)
theorem ret_iis {a b c d : Int} {x y : Int × Int} (h : y = x) (ha : x.1 = a) (hb : x.2 = b) (hc : y.1 = c) (hd : y.2 = d) : Ending.returned (.tuple #[.int .i64 a, .int .i64 b]) = Ending.returned (.tuple #[.int .i64 c, .int .i64 d]) := by subst h ha hb hc hd; rfl
theorem takeF_le {s : ByteArray} : ∀ (l : List Nat) (i : Nat) (o : OpM), i ≤ s.size → (takeF s l i o).2.1 ≤ s.size := by
  intro l
  induction l with
  | nil => intro i o h; exact h
  | cons j l ih =>
    intro i o h
    have h2 := (word_le h).2.2
    rw [takeF]
    split
    · exact ih _ _ h2
    · exact h2
theorem fieldM_kind {s : ByteArray} {i j : Nat} {o : OpM} : (fieldM s i o j).2.kind = o.kind := by
  have hp : ∀ n, (o.put j n).kind = o.kind := fun n => by unfold OpM.put; split <;> rfl
  unfold fieldM
  split
  · rfl
  · dsimp only
    split
    · exact hp _
    · split
      · split <;> exact hp _
      · split <;> exact hp _
section
variable {w0 w : World} {R : List Pr} {b : Nat} {s : ByteArray} {m : RdM}
theorem RdP.opened (H : Hd w0 (RdP b s m :: R) w) : ∃ v, Hd w0 (cel b 246 #[.string s, .int .i64 m.pos, v, .int .i64 m.opn] :: SlE 39 v m.ops :: R) w := by
  obtain ⟨v, H⟩ := H.out
  exact ⟨v, H.flat⟩
theorem RdP.shut {v : Value} (H : Hd w0 (cel b 246 #[.string s, .int .i64 m.pos, v, .int .i64 m.opn] :: SlE 39 v m.ops :: R) w) : Hd w0 (RdP b s m :: R) w :=
  Hd.into v (Hd.pack (L := [_, _]) H)

set_option maxRecDepth 20000 in
set_option maxHeartbeats 4000000 in
theorem cdOne [Lay w0 R] (H : Hd w0 (RdP b s m :: R) w) (ha : m.pos ≤ s.size) (hs : s.size ≤ 100000) (hn : m.ops.length ≤ 1000) (hq : -1000 ≤ m.opn ∧ m.opn ≤ 1000) (kind : Int) :
    Calls Tryz.prog 116 #[.pointer (some ⟨b, 0, none⟩), .int .i64 kind] w fun e w' => e = .returned (.tuple #[.int .i64 (oneM s m kind).1.1, .int .i64 (oneM s m kind).1.2]) ∧ Hd w0 (RdP b s (oneM s m kind).2 :: R) w' := by
  obtain ⟨ov, H1⟩ := RdP.opened H
  obtain ⟨ps, ops, opn⟩ := m
  dsimp only at ha hn hq H1
  have H2 : Hd w0 _ (w.alloc (.cells #[.int .i64 kind, .int .i64 0, .int .i64 0, .int .i64 0] 39)) := H1.fol
  have hrow := cdRowOf H2 kind
  obtain ⟨W, hW⟩ : ∃ W, rowW kind = W := ⟨_, rfl⟩
  obtain ⟨h, hh⟩ : ∃ h, rowHas kind = h := ⟨_, rfl⟩
  obtain ⟨bb, hbb⟩ : ∃ bb, decide (1 ≤ kind ∧ kind ≤ 11) = bb := ⟨_, rfl⟩
  rw [hW, hh, hbb] at hrow
  clear hW hbb H H1 H2
  obtain ⟨res, hres⟩ : ∃ res, oneM s ⟨ps, ops, opn⟩ kind = res := ⟨_, rfl⟩
  rw [hres]
  unfold oneM at hres
  dsimp only at hres
  rw [hh] at hres
  have hk10 : kind = 10 → h = 4 := fun e => by rw [← hh, e]; rfl
  have hk11 : kind = 11 → h = 0 := fun e => by rw [← hh, e]; rfl
  clear hh
  have hsplit : h = 1 ∨ (¬ h = 1 ∧ (h = 2 ∨ (¬ h = 2 ∧ (h = 3 ∨ (¬ h = 3 ∧ (h = 4 ∨ ¬ h = 4)))))) := by omega
  go_enter Tryz.func116, Tryz.ntmps116
  go_wp2_with fail
  refine hrow.mono ?_
  rintro e w1 ⟨rfl, H3⟩
  clear hrow
  have HA : Hd w0 _ (w1.alloc (.cells #[.string W, .int .i64 h] 270)) := H3.fol
  have hf := HA.facts
  simp only [Nat.reduceAdd] at hf
  go_split_ands
  rcases hsplit with h1 | ⟨h1, h2 | ⟨h2, h3 | ⟨h3, h4 | h4⟩⟩⟩
  · subst h1
    have hfo : fieldsOf 1 = [1, 2] := by rfl
    rw [hfo] at hres
    clear hfo
    obtain ⟨T, hT⟩ : ∃ T, takeF s [1, 2] ps ⟨kind, 0, 0, 0⟩ = T := ⟨_, rfl⟩
    rw [hT] at hres
    go_wp2_with fail
    go_loopw [44] (fun i wr => ∃ (k p : Nat) (o : OpM), k ≤ 2 ∧ i = .int .i64 k ∧ p ≤ s.size ∧ T = takeF s (List.drop k [1, 2]) p o ∧ o.kind = kind ∧ Hd w0 (cel b 246 #[.string s, .int .i64 p, ov, .int .i64 opn] :: SlE 39 ov ops :: cel w.heap.size 39 #[.int .i64 o.kind, .int .i64 o.res, .int .i64 o.n, .int .i64 o.v] :: cel (w1.heap.size + 1) 274 #[.pointer (some ⟨w.heap.size, 1, none⟩), .pointer (some ⟨w.heap.size, 2, none⟩)] :: R) wr) (fun i _ => 2 - (intOf i).toNat)
    case atStart => exact ⟨0, ps, ⟨kind, 0, 0, 0⟩, by omega, rfl, ha, hT.symm, rfl, by exact Hd.fin HA⟩
    case round =>
      clear HA H3
      obtain ⟨k, p, o, hk, rfl, hp, ht, hok, H1⟩ := hrel
      have hkk : k = 0 ∨ k = 1 ∨ k = 2 := by omega
      rcases hkk with rfl | rfl | rfl
      · clear hk
        have hf := H1.facts
        simp only [Nat.reduceAdd] at hf
        go_split_ands
        have hcall := cdField (b := b) (ob := w.heap.size) (o := o) (at0 := p) (j := 1) (ov := ov) (op := .int .i64 opn) (R := SlE 39 ov ops :: cel (w1.heap.size + 1) 274 #[.pointer (some ⟨w.heap.size, 1, none⟩), .pointer (some ⟨w.heap.size, 2, none⟩)] :: R) (H1.re) hp hs (by decide)
        obtain ⟨r, hr⟩ : ∃ r, fieldM s p o 1 = r := ⟨_, rfl⟩
        have hrk : r.2.kind = kind := by rw [← hr, fieldM_kind]; exact hok
        rw [hr] at hcall
        have ht2 := ht
        rw [show List.drop 0 [1, 2] = 1 :: List.drop 1 [1, 2] from rfl, takeF, hr] at ht2
        by_cases hz : r.1.2 = 0
        · rw [if_pos hz] at ht2
          rw [hz] at hcall
          replace ht2 := Lib.hid ht2
          replace hres := Lib.hid hres
          have hwl := Lib.hid (word_le hp).2.2
          clear ht hok hr H1
          go_wp2_with fail
          refine hcall.mono ?_
          rintro e w3 ⟨rfl, H4⟩
          clear hcall
          go_wp2_with fail
          go_roundw
          case rel => exact ⟨1, wEnd s p, r.2, by omega, by simp, hwl.out, ht2.out, hrk, by exact H4.re⟩
          case measure => simp [intOf]
        · rw [if_neg hz] at ht2
          rw [ht2] at hres
          dsimp only at hres
          rw [if_neg hz] at hres
          subst hres
          clear ht ht2 hok hr H1
          go_wp2_with fail
          refine hcall.mono ?_
          rintro e w3 ⟨rfl, H4⟩
          clear hcall
          go_wp2_with fail
          go_ret2
          exact ⟨rfl, RdP.shut (m := ⟨wEnd s p, ops, opn⟩) (v := ov) H4.re⟩
      · clear hk
        have hf := H1.facts
        simp only [Nat.reduceAdd] at hf
        go_split_ands
        have hcall := cdField (b := b) (ob := w.heap.size) (o := o) (at0 := p) (j := 2) (ov := ov) (op := .int .i64 opn) (R := SlE 39 ov ops :: cel (w1.heap.size + 1) 274 #[.pointer (some ⟨w.heap.size, 1, none⟩), .pointer (some ⟨w.heap.size, 2, none⟩)] :: R) (H1.re) hp hs (by decide)
        obtain ⟨r, hr⟩ : ∃ r, fieldM s p o 2 = r := ⟨_, rfl⟩
        have hrk : r.2.kind = kind := by rw [← hr, fieldM_kind]; exact hok
        rw [hr] at hcall
        have ht2 := ht
        rw [show List.drop 1 [1, 2] = 2 :: List.drop 2 [1, 2] from rfl, takeF, hr] at ht2
        by_cases hz : r.1.2 = 0
        · rw [if_pos hz] at ht2
          rw [hz] at hcall
          replace ht2 := Lib.hid ht2
          replace hres := Lib.hid hres
          have hwl := Lib.hid (word_le hp).2.2
          clear ht hok hr H1
          go_wp2_with fail
          refine hcall.mono ?_
          rintro e w3 ⟨rfl, H4⟩
          clear hcall
          go_wp2_with fail
          go_roundw
          case rel => exact ⟨2, wEnd s p, r.2, by omega, by simp, hwl.out, ht2.out, hrk, by exact H4.re⟩
          case measure => simp [intOf]
        · rw [if_neg hz] at ht2
          rw [ht2] at hres
          dsimp only at hres
          rw [if_neg hz] at hres
          subst hres
          clear ht ht2 hok hr H1
          go_wp2_with fail
          refine hcall.mono ?_
          rintro e w3 ⟨rfl, H4⟩
          clear hcall
          go_wp2_with fail
          go_ret2
          exact ⟨rfl, RdP.shut (m := ⟨wEnd s p, ops, opn⟩) (v := ov) H4.re⟩
      · rw [show List.drop 2 [1, 2] = [] from rfl, takeF] at ht
        rw [ht] at hres
        dsimp only at hres
        rw [if_pos rfl] at hres
        rw [if_neg (show ¬ kind = 10 from fun e => absurd (hk10 e) (by decide)), if_neg (show ¬ kind = 11 from fun e => absurd (hk11 e) (by decide))] at hres
        have q10 : ¬ kind = 10 := fun e => absurd (hk10 e) (by decide)
        have q11 : ¬ kind = 11 := fun e => absurd (hk11 e) (by decide)
        have hrs := hres
        clear hres ht hk hk10 hk11 hok hT
        have d2 := (H1.k b).ce 2 rfl
        have o0 := (H1.k w.heap.size).ce 0 rfl
        have o1 := (H1.k w.heap.size).ce 1 rfl
        have o2 := (H1.k w.heap.size).ce 2 rfl
        have o3 := (H1.k w.heap.size).ce 3 rfl
        have HP : Hd w0 _ ((wr.alloc (.cells #[.int .i64 o.kind, .int .i64 o.res, .int .i64 o.n, .int .i64 o.v] 39)).drew) := H1.fol
        obtain ⟨i0, hi, hz0, hz1, hz2⟩ := info_parts cdInfoOp
        have hS : ∀ {v' : Value} {L : List Pr} {w : World}, Hd w0 (Slc 39 4 v' (ops.length + 1) (flat ops ++ [.int .i64 o.kind, .int .i64 o.res, .int .i64 o.n, .int .i64 o.v]) :: L) w → Hd w0 (SlE 39 v' (ops ++ [o]) :: L) w := by
          intro v' L w h
          have e1 : (ops ++ [o]).length = ops.length + 1 := by simp
          have e2 : flat (ops ++ [o]) = flat ops ++ [.int .i64 o.kind, .int .i64 o.res, .int .i64 o.n, .int .i64 o.v] := by rw [flat_append, flat_one]; rfl
          unfold SlE
          rw [e1, e2]
          exact h
        go_wp2_with fail
        refine wp_region_mix 8 [(0, true), (1, true), (2, true), (3, true), (4, true), (5, true), (6, false), (7, false)] (fun w' => w'.cell? ⟨b, 2, none⟩ = some ov ∧ w'.cell? ⟨w.heap.size, 0, none⟩ = some (.int .i64 o.kind) ∧ w'.cell? ⟨w.heap.size, 1, none⟩ = some (.int .i64 o.res) ∧ w'.cell? ⟨w.heap.size, 2, none⟩ = some (.int .i64 o.n) ∧ w'.cell? ⟨w.heap.size, 3, none⟩ = some (.int .i64 o.v)) (by kernel_rfl) (by kernel_rfl) (⟨d2, o0, o1, o2, o3⟩) (fun _ _ d _ _ h => by cases d <;> exact h) ?_
        simp only [List.drop_succ_cons, List.drop_zero]
        iterate 6 (refine mix_head (o := _) (v := ?_) (by (simp only [List.getElem?_toArray, List.getElem?_cons_succ, List.getElem?_cons_zero]); rfl) (by rfl) (fun w' hS => ?_) ?_; rotate_left 1; (focus ((try dsimp only at hS); (try go_split_ands); go_simp; (try with_reducible rfl))); (try simp only [Act.put, List.setIfInBounds_toArray, List.set_cons_zero, List.set_cons_succ]))
        refine mix_mid (o := _) (by (simp only [List.getElem?_toArray, List.getElem?_cons_succ, List.getElem?_cons_zero]); rfl) ?_
        go_wp2_with fail
        refine mixQ_in (by exact ⟨((Hd.fol H1 : Hd w0 _ _).k b).ce 2 rfl, ((Hd.fol H1 : Hd w0 _ _).k w.heap.size).ce 0 rfl, ((Hd.fol H1 : Hd w0 _ _).k w.heap.size).ce 1 rfl, ((Hd.fol H1 : Hd w0 _ _).k w.heap.size).ce 2 rfl, ((Hd.fol H1 : Hd w0 _ _).k w.heap.size).ce 3 rfl⟩) ?_
        refine mix_mid (o := _) (by (simp only [List.getElem?_toArray, List.getElem?_cons_succ, List.getElem?_cons_zero]); rfl) ?_
        refine wpList_append_slc rfl _ _ 125 rfl 39 i0 _ 4 32 Tryz.underlying125 hi hz0 hz1 hz2 rfl _ _ _ rfl (HP.v ov) ⟨wr.heap.size, 0, none⟩ 1 1 [.int .i64 o.kind, .int .i64 o.res, .int .i64 o.n, .int .i64 o.v] rfl rfl (cel_news (HP.k wr.heap.size)) (by simp [Value.oneCell']) (by unfold maxLen; omega) (by omega) ?_
        intro v' w2 H4
        have HF := hS H4
        obtain ⟨l', hl'⟩ : ∃ l', ops ++ [o] = l' := ⟨_, rfl⟩
        rw [hl'] at HF hrs
        clear H4 HP hS
        obtain ⟨a', c', rfl, -, -, -, -⟩ := HF.slc_form
        replace hl' := Lib.hid hl'
        have d2 := (HF.k b).ce 2 rfl
        have f2 := (HF.k b).fr 2
        have o0 := (HF.k w.heap.size).ce 0 rfl
        have o1 := (HF.k w.heap.size).ce 1 rfl
        have o2 := (HF.k w.heap.size).ce 2 rfl
        have o3 := (HF.k w.heap.size).ce 3 rfl
        refine mixQ_in ⟨d2, o0, o1, o2, o3⟩ ?_
        refine mix_end ?_
        (try dsimp only)
        go_wp2_with fail
        go_ret2
        refine ⟨ret_ii (by rw [← hrs]) (by rw [← hrs]), ?_⟩
        rw [← hrs]
        exact RdP.shut (m := ⟨p, l', opn⟩) (v := .slice a' l'.length c') (by exact Hd.fin HF)
  · subst h2
    have hfo : fieldsOf 2 = [1] := by rfl
    rw [hfo] at hres
    clear hfo
    obtain ⟨T, hT⟩ : ∃ T, takeF s [1] ps ⟨kind, 0, 0, 0⟩ = T := ⟨_, rfl⟩
    rw [hT] at hres
    go_wp2_with fail
    go_loopw [44] (fun i wr => ∃ (k p : Nat) (o : OpM), k ≤ 1 ∧ i = .int .i64 k ∧ p ≤ s.size ∧ T = takeF s (List.drop k [1]) p o ∧ o.kind = kind ∧ Hd w0 (cel b 246 #[.string s, .int .i64 p, ov, .int .i64 opn] :: SlE 39 ov ops :: cel w.heap.size 39 #[.int .i64 o.kind, .int .i64 o.res, .int .i64 o.n, .int .i64 o.v] :: cel (w1.heap.size + 1) 274 #[.pointer (some ⟨w.heap.size, 1, none⟩)] :: R) wr) (fun i _ => 1 - (intOf i).toNat)
    case atStart => exact ⟨0, ps, ⟨kind, 0, 0, 0⟩, by omega, rfl, ha, hT.symm, rfl, by exact Hd.fin HA⟩
    case round =>
      clear HA H3
      obtain ⟨k, p, o, hk, rfl, hp, ht, hok, H1⟩ := hrel
      have hkk : k = 0 ∨ k = 1 := by omega
      rcases hkk with rfl | rfl
      · clear hk
        have hf := H1.facts
        simp only [Nat.reduceAdd] at hf
        go_split_ands
        have hcall := cdField (b := b) (ob := w.heap.size) (o := o) (at0 := p) (j := 1) (ov := ov) (op := .int .i64 opn) (R := SlE 39 ov ops :: cel (w1.heap.size + 1) 274 #[.pointer (some ⟨w.heap.size, 1, none⟩)] :: R) (H1.re) hp hs (by decide)
        obtain ⟨r, hr⟩ : ∃ r, fieldM s p o 1 = r := ⟨_, rfl⟩
        have hrk : r.2.kind = kind := by rw [← hr, fieldM_kind]; exact hok
        rw [hr] at hcall
        have ht2 := ht
        rw [show List.drop 0 [1] = 1 :: List.drop 1 [1] from rfl, takeF, hr] at ht2
        by_cases hz : r.1.2 = 0
        · rw [if_pos hz] at ht2
          rw [hz] at hcall
          replace ht2 := Lib.hid ht2
          replace hres := Lib.hid hres
          have hwl := Lib.hid (word_le hp).2.2
          clear ht hok hr H1
          go_wp2_with fail
          refine hcall.mono ?_
          rintro e w3 ⟨rfl, H4⟩
          clear hcall
          go_wp2_with fail
          go_roundw
          case rel => exact ⟨1, wEnd s p, r.2, by omega, by simp, hwl.out, ht2.out, hrk, by exact H4.re⟩
          case measure => simp [intOf]
        · rw [if_neg hz] at ht2
          rw [ht2] at hres
          dsimp only at hres
          rw [if_neg hz] at hres
          subst hres
          clear ht ht2 hok hr H1
          go_wp2_with fail
          refine hcall.mono ?_
          rintro e w3 ⟨rfl, H4⟩
          clear hcall
          go_wp2_with fail
          go_ret2
          exact ⟨rfl, RdP.shut (m := ⟨wEnd s p, ops, opn⟩) (v := ov) H4.re⟩
      · rw [show List.drop 1 [1] = [] from rfl, takeF] at ht
        rw [ht] at hres
        dsimp only at hres
        rw [if_pos rfl] at hres
        rw [if_neg (show ¬ kind = 10 from fun e => absurd (hk10 e) (by decide)), if_neg (show ¬ kind = 11 from fun e => absurd (hk11 e) (by decide))] at hres
        have q10 : ¬ kind = 10 := fun e => absurd (hk10 e) (by decide)
        have q11 : ¬ kind = 11 := fun e => absurd (hk11 e) (by decide)
        have hrs := hres
        clear hres ht hk hk10 hk11 hok hT
        have d2 := (H1.k b).ce 2 rfl
        have o0 := (H1.k w.heap.size).ce 0 rfl
        have o1 := (H1.k w.heap.size).ce 1 rfl
        have o2 := (H1.k w.heap.size).ce 2 rfl
        have o3 := (H1.k w.heap.size).ce 3 rfl
        have HP : Hd w0 _ ((wr.alloc (.cells #[.int .i64 o.kind, .int .i64 o.res, .int .i64 o.n, .int .i64 o.v] 39)).drew) := H1.fol
        obtain ⟨i0, hi, hz0, hz1, hz2⟩ := info_parts cdInfoOp
        have hS : ∀ {v' : Value} {L : List Pr} {w : World}, Hd w0 (Slc 39 4 v' (ops.length + 1) (flat ops ++ [.int .i64 o.kind, .int .i64 o.res, .int .i64 o.n, .int .i64 o.v]) :: L) w → Hd w0 (SlE 39 v' (ops ++ [o]) :: L) w := by
          intro v' L w h
          have e1 : (ops ++ [o]).length = ops.length + 1 := by simp
          have e2 : flat (ops ++ [o]) = flat ops ++ [.int .i64 o.kind, .int .i64 o.res, .int .i64 o.n, .int .i64 o.v] := by rw [flat_append, flat_one]; rfl
          unfold SlE
          rw [e1, e2]
          exact h
        go_wp2_with fail
        refine wp_region_mix 8 [(0, true), (1, true), (2, true), (3, true), (4, true), (5, true), (6, false), (7, false)] (fun w' => w'.cell? ⟨b, 2, none⟩ = some ov ∧ w'.cell? ⟨w.heap.size, 0, none⟩ = some (.int .i64 o.kind) ∧ w'.cell? ⟨w.heap.size, 1, none⟩ = some (.int .i64 o.res) ∧ w'.cell? ⟨w.heap.size, 2, none⟩ = some (.int .i64 o.n) ∧ w'.cell? ⟨w.heap.size, 3, none⟩ = some (.int .i64 o.v)) (by kernel_rfl) (by kernel_rfl) (⟨d2, o0, o1, o2, o3⟩) (fun _ _ d _ _ h => by cases d <;> exact h) ?_
        simp only [List.drop_succ_cons, List.drop_zero]
        iterate 6 (refine mix_head (o := _) (v := ?_) (by (simp only [List.getElem?_toArray, List.getElem?_cons_succ, List.getElem?_cons_zero]); rfl) (by rfl) (fun w' hS => ?_) ?_; rotate_left 1; (focus ((try dsimp only at hS); (try go_split_ands); go_simp; (try with_reducible rfl))); (try simp only [Act.put, List.setIfInBounds_toArray, List.set_cons_zero, List.set_cons_succ]))
        refine mix_mid (o := _) (by (simp only [List.getElem?_toArray, List.getElem?_cons_succ, List.getElem?_cons_zero]); rfl) ?_
        go_wp2_with fail
        refine mixQ_in (by exact ⟨((Hd.fol H1 : Hd w0 _ _).k b).ce 2 rfl, ((Hd.fol H1 : Hd w0 _ _).k w.heap.size).ce 0 rfl, ((Hd.fol H1 : Hd w0 _ _).k w.heap.size).ce 1 rfl, ((Hd.fol H1 : Hd w0 _ _).k w.heap.size).ce 2 rfl, ((Hd.fol H1 : Hd w0 _ _).k w.heap.size).ce 3 rfl⟩) ?_
        refine mix_mid (o := _) (by (simp only [List.getElem?_toArray, List.getElem?_cons_succ, List.getElem?_cons_zero]); rfl) ?_
        refine wpList_append_slc rfl _ _ 125 rfl 39 i0 _ 4 32 Tryz.underlying125 hi hz0 hz1 hz2 rfl _ _ _ rfl (HP.v ov) ⟨wr.heap.size, 0, none⟩ 1 1 [.int .i64 o.kind, .int .i64 o.res, .int .i64 o.n, .int .i64 o.v] rfl rfl (cel_news (HP.k wr.heap.size)) (by simp [Value.oneCell']) (by unfold maxLen; omega) (by omega) ?_
        intro v' w2 H4
        have HF := hS H4
        obtain ⟨l', hl'⟩ : ∃ l', ops ++ [o] = l' := ⟨_, rfl⟩
        rw [hl'] at HF hrs
        clear H4 HP hS
        obtain ⟨a', c', rfl, -, -, -, -⟩ := HF.slc_form
        replace hl' := Lib.hid hl'
        have d2 := (HF.k b).ce 2 rfl
        have f2 := (HF.k b).fr 2
        have o0 := (HF.k w.heap.size).ce 0 rfl
        have o1 := (HF.k w.heap.size).ce 1 rfl
        have o2 := (HF.k w.heap.size).ce 2 rfl
        have o3 := (HF.k w.heap.size).ce 3 rfl
        refine mixQ_in ⟨d2, o0, o1, o2, o3⟩ ?_
        refine mix_end ?_
        (try dsimp only)
        go_wp2_with fail
        go_ret2
        refine ⟨ret_ii (by rw [← hrs]) (by rw [← hrs]), ?_⟩
        rw [← hrs]
        exact RdP.shut (m := ⟨p, l', opn⟩) (v := .slice a' l'.length c') (by exact Hd.fin HF)
  · subst h3
    have hfo : fieldsOf 3 = [3] := by rfl
    rw [hfo] at hres
    clear hfo
    obtain ⟨T, hT⟩ : ∃ T, takeF s [3] ps ⟨kind, 0, 0, 0⟩ = T := ⟨_, rfl⟩
    rw [hT] at hres
    go_wp2_with fail
    go_loopw [44] (fun i wr => ∃ (k p : Nat) (o : OpM), k ≤ 1 ∧ i = .int .i64 k ∧ p ≤ s.size ∧ T = takeF s (List.drop k [3]) p o ∧ o.kind = kind ∧ Hd w0 (cel b 246 #[.string s, .int .i64 p, ov, .int .i64 opn] :: SlE 39 ov ops :: cel w.heap.size 39 #[.int .i64 o.kind, .int .i64 o.res, .int .i64 o.n, .int .i64 o.v] :: cel (w1.heap.size + 1) 274 #[.pointer (some ⟨w.heap.size, 3, none⟩)] :: R) wr) (fun i _ => 1 - (intOf i).toNat)
    case atStart => exact ⟨0, ps, ⟨kind, 0, 0, 0⟩, by omega, rfl, ha, hT.symm, rfl, by exact Hd.fin HA⟩
    case round =>
      clear HA H3
      obtain ⟨k, p, o, hk, rfl, hp, ht, hok, H1⟩ := hrel
      have hkk : k = 0 ∨ k = 1 := by omega
      rcases hkk with rfl | rfl
      · clear hk
        have hf := H1.facts
        simp only [Nat.reduceAdd] at hf
        go_split_ands
        have hcall := cdField (b := b) (ob := w.heap.size) (o := o) (at0 := p) (j := 3) (ov := ov) (op := .int .i64 opn) (R := SlE 39 ov ops :: cel (w1.heap.size + 1) 274 #[.pointer (some ⟨w.heap.size, 3, none⟩)] :: R) (H1.re) hp hs (by decide)
        obtain ⟨r, hr⟩ : ∃ r, fieldM s p o 3 = r := ⟨_, rfl⟩
        have hrk : r.2.kind = kind := by rw [← hr, fieldM_kind]; exact hok
        rw [hr] at hcall
        have ht2 := ht
        rw [show List.drop 0 [3] = 3 :: List.drop 1 [3] from rfl, takeF, hr] at ht2
        by_cases hz : r.1.2 = 0
        · rw [if_pos hz] at ht2
          rw [hz] at hcall
          replace ht2 := Lib.hid ht2
          replace hres := Lib.hid hres
          have hwl := Lib.hid (word_le hp).2.2
          clear ht hok hr H1
          go_wp2_with fail
          refine hcall.mono ?_
          rintro e w3 ⟨rfl, H4⟩
          clear hcall
          go_wp2_with fail
          go_roundw
          case rel => exact ⟨1, wEnd s p, r.2, by omega, by simp, hwl.out, ht2.out, hrk, by exact H4.re⟩
          case measure => simp [intOf]
        · rw [if_neg hz] at ht2
          rw [ht2] at hres
          dsimp only at hres
          rw [if_neg hz] at hres
          subst hres
          clear ht ht2 hok hr H1
          go_wp2_with fail
          refine hcall.mono ?_
          rintro e w3 ⟨rfl, H4⟩
          clear hcall
          go_wp2_with fail
          go_ret2
          exact ⟨rfl, RdP.shut (m := ⟨wEnd s p, ops, opn⟩) (v := ov) H4.re⟩
      · rw [show List.drop 1 [3] = [] from rfl, takeF] at ht
        rw [ht] at hres
        dsimp only at hres
        rw [if_pos rfl] at hres
        rw [if_neg (show ¬ kind = 10 from fun e => absurd (hk10 e) (by decide)), if_neg (show ¬ kind = 11 from fun e => absurd (hk11 e) (by decide))] at hres
        have q10 : ¬ kind = 10 := fun e => absurd (hk10 e) (by decide)
        have q11 : ¬ kind = 11 := fun e => absurd (hk11 e) (by decide)
        have hrs := hres
        clear hres ht hk hk10 hk11 hok hT
        have d2 := (H1.k b).ce 2 rfl
        have o0 := (H1.k w.heap.size).ce 0 rfl
        have o1 := (H1.k w.heap.size).ce 1 rfl
        have o2 := (H1.k w.heap.size).ce 2 rfl
        have o3 := (H1.k w.heap.size).ce 3 rfl
        have HP : Hd w0 _ ((wr.alloc (.cells #[.int .i64 o.kind, .int .i64 o.res, .int .i64 o.n, .int .i64 o.v] 39)).drew) := H1.fol
        obtain ⟨i0, hi, hz0, hz1, hz2⟩ := info_parts cdInfoOp
        have hS : ∀ {v' : Value} {L : List Pr} {w : World}, Hd w0 (Slc 39 4 v' (ops.length + 1) (flat ops ++ [.int .i64 o.kind, .int .i64 o.res, .int .i64 o.n, .int .i64 o.v]) :: L) w → Hd w0 (SlE 39 v' (ops ++ [o]) :: L) w := by
          intro v' L w h
          have e1 : (ops ++ [o]).length = ops.length + 1 := by simp
          have e2 : flat (ops ++ [o]) = flat ops ++ [.int .i64 o.kind, .int .i64 o.res, .int .i64 o.n, .int .i64 o.v] := by rw [flat_append, flat_one]; rfl
          unfold SlE
          rw [e1, e2]
          exact h
        go_wp2_with fail
        refine wp_region_mix 8 [(0, true), (1, true), (2, true), (3, true), (4, true), (5, true), (6, false), (7, false)] (fun w' => w'.cell? ⟨b, 2, none⟩ = some ov ∧ w'.cell? ⟨w.heap.size, 0, none⟩ = some (.int .i64 o.kind) ∧ w'.cell? ⟨w.heap.size, 1, none⟩ = some (.int .i64 o.res) ∧ w'.cell? ⟨w.heap.size, 2, none⟩ = some (.int .i64 o.n) ∧ w'.cell? ⟨w.heap.size, 3, none⟩ = some (.int .i64 o.v)) (by kernel_rfl) (by kernel_rfl) (⟨d2, o0, o1, o2, o3⟩) (fun _ _ d _ _ h => by cases d <;> exact h) ?_
        simp only [List.drop_succ_cons, List.drop_zero]
        iterate 6 (refine mix_head (o := _) (v := ?_) (by (simp only [List.getElem?_toArray, List.getElem?_cons_succ, List.getElem?_cons_zero]); rfl) (by rfl) (fun w' hS => ?_) ?_; rotate_left 1; (focus ((try dsimp only at hS); (try go_split_ands); go_simp; (try with_reducible rfl))); (try simp only [Act.put, List.setIfInBounds_toArray, List.set_cons_zero, List.set_cons_succ]))
        refine mix_mid (o := _) (by (simp only [List.getElem?_toArray, List.getElem?_cons_succ, List.getElem?_cons_zero]); rfl) ?_
        go_wp2_with fail
        refine mixQ_in (by exact ⟨((Hd.fol H1 : Hd w0 _ _).k b).ce 2 rfl, ((Hd.fol H1 : Hd w0 _ _).k w.heap.size).ce 0 rfl, ((Hd.fol H1 : Hd w0 _ _).k w.heap.size).ce 1 rfl, ((Hd.fol H1 : Hd w0 _ _).k w.heap.size).ce 2 rfl, ((Hd.fol H1 : Hd w0 _ _).k w.heap.size).ce 3 rfl⟩) ?_
        refine mix_mid (o := _) (by (simp only [List.getElem?_toArray, List.getElem?_cons_succ, List.getElem?_cons_zero]); rfl) ?_
        refine wpList_append_slc rfl _ _ 125 rfl 39 i0 _ 4 32 Tryz.underlying125 hi hz0 hz1 hz2 rfl _ _ _ rfl (HP.v ov) ⟨wr.heap.size, 0, none⟩ 1 1 [.int .i64 o.kind, .int .i64 o.res, .int .i64 o.n, .int .i64 o.v] rfl rfl (cel_news (HP.k wr.heap.size)) (by simp [Value.oneCell']) (by unfold maxLen; omega) (by omega) ?_
        intro v' w2 H4
        have HF := hS H4
        obtain ⟨l', hl'⟩ : ∃ l', ops ++ [o] = l' := ⟨_, rfl⟩
        rw [hl'] at HF hrs
        clear H4 HP hS
        obtain ⟨a', c', rfl, -, -, -, -⟩ := HF.slc_form
        replace hl' := Lib.hid hl'
        have d2 := (HF.k b).ce 2 rfl
        have f2 := (HF.k b).fr 2
        have o0 := (HF.k w.heap.size).ce 0 rfl
        have o1 := (HF.k w.heap.size).ce 1 rfl
        have o2 := (HF.k w.heap.size).ce 2 rfl
        have o3 := (HF.k w.heap.size).ce 3 rfl
        refine mixQ_in ⟨d2, o0, o1, o2, o3⟩ ?_
        refine mix_end ?_
        (try dsimp only)
        go_wp2_with fail
        go_ret2
        refine ⟨ret_ii (by rw [← hrs]) (by rw [← hrs]), ?_⟩
        rw [← hrs]
        exact RdP.shut (m := ⟨p, l', opn⟩) (v := .slice a' l'.length c') (by exact Hd.fin HF)
  · subst h4
    have hfo : fieldsOf 4 = [2] := by rfl
    rw [hfo] at hres
    clear hfo
    obtain ⟨T, hT⟩ : ∃ T, takeF s [2] ps ⟨kind, 0, 0, 0⟩ = T := ⟨_, rfl⟩
    rw [hT] at hres
    go_wp2_with fail
    go_loopw [44] (fun i wr => ∃ (k p : Nat) (o : OpM), k ≤ 1 ∧ i = .int .i64 k ∧ p ≤ s.size ∧ T = takeF s (List.drop k [2]) p o ∧ o.kind = kind ∧ Hd w0 (cel b 246 #[.string s, .int .i64 p, ov, .int .i64 opn] :: SlE 39 ov ops :: cel w.heap.size 39 #[.int .i64 o.kind, .int .i64 o.res, .int .i64 o.n, .int .i64 o.v] :: cel (w1.heap.size + 1) 274 #[.pointer (some ⟨w.heap.size, 2, none⟩)] :: R) wr) (fun i _ => 1 - (intOf i).toNat)
    case atStart => exact ⟨0, ps, ⟨kind, 0, 0, 0⟩, by omega, rfl, ha, hT.symm, rfl, by exact Hd.fin HA⟩
    case round =>
      clear HA H3
      obtain ⟨k, p, o, hk, rfl, hp, ht, hok, H1⟩ := hrel
      have hkk : k = 0 ∨ k = 1 := by omega
      rcases hkk with rfl | rfl
      · clear hk
        have hf := H1.facts
        simp only [Nat.reduceAdd] at hf
        go_split_ands
        have hcall := cdField (b := b) (ob := w.heap.size) (o := o) (at0 := p) (j := 2) (ov := ov) (op := .int .i64 opn) (R := SlE 39 ov ops :: cel (w1.heap.size + 1) 274 #[.pointer (some ⟨w.heap.size, 2, none⟩)] :: R) (H1.re) hp hs (by decide)
        obtain ⟨r, hr⟩ : ∃ r, fieldM s p o 2 = r := ⟨_, rfl⟩
        have hrk : r.2.kind = kind := by rw [← hr, fieldM_kind]; exact hok
        rw [hr] at hcall
        have ht2 := ht
        rw [show List.drop 0 [2] = 2 :: List.drop 1 [2] from rfl, takeF, hr] at ht2
        by_cases hz : r.1.2 = 0
        · rw [if_pos hz] at ht2
          rw [hz] at hcall
          replace ht2 := Lib.hid ht2
          replace hres := Lib.hid hres
          have hwl := Lib.hid (word_le hp).2.2
          clear ht hok hr H1
          go_wp2_with fail
          refine hcall.mono ?_
          rintro e w3 ⟨rfl, H4⟩
          clear hcall
          go_wp2_with fail
          go_roundw
          case rel => exact ⟨1, wEnd s p, r.2, by omega, by simp, hwl.out, ht2.out, hrk, by exact H4.re⟩
          case measure => simp [intOf]
        · rw [if_neg hz] at ht2
          rw [ht2] at hres
          dsimp only at hres
          rw [if_neg hz] at hres
          subst hres
          clear ht ht2 hok hr H1
          go_wp2_with fail
          refine hcall.mono ?_
          rintro e w3 ⟨rfl, H4⟩
          clear hcall
          go_wp2_with fail
          go_ret2
          exact ⟨rfl, RdP.shut (m := ⟨wEnd s p, ops, opn⟩) (v := ov) H4.re⟩
      · rw [show List.drop 1 [2] = [] from rfl, takeF] at ht
        rw [ht] at hres
        dsimp only at hres
        rw [if_pos rfl] at hres
        have q11 : ¬ kind = 11 := fun e => absurd (hk11 e) (by decide)
        by_cases q10 : kind = 10
        · rw [if_pos q10] at hres
          have hword := cdWord (ov := ov) (op := .int .i64 opn) H1 hp hs
          obtain ⟨F, hF⟩ : ∃ F, wFrom s p = F := ⟨_, rfl⟩
          obtain ⟨E, hE⟩ : ∃ E, wEnd s p = E := ⟨_, rfl⟩
          obtain ⟨V, hV⟩ : ∃ V, wordAt s p = V := ⟨_, rfl⟩
          rw [hF, hE, hV] at hword hres
          clear hF hE hV ht hk hk10 hk11 hok hT H1
          subst q10
          cases hb : (V.toList == [123]) with
          | true =>
            rw [hb, if_pos rfl] at hres
            have hrs := hres
            have g5 : IntKind.i64.wrap (opn + 1) = opn + 1 := IntWalk.i64_in _ (by omega)
            clear hres
            go_wp2_with fail
            refine hword.mono ?_
            rintro e w3 ⟨rfl, H5⟩
            clear hword
            have c0 := (H5.k b).ce 3 rfl
            have f0 := (H5.k b).fr 3
            have H1 : Hd w0 _ (w3.setCell ⟨b, 3, none⟩ (.int .i64 (opn + 1))) := H5.fol
            have d2 := (H1.k b).ce 2 rfl
            have o0 := (H1.k w.heap.size).ce 0 rfl
            have o1 := (H1.k w.heap.size).ce 1 rfl
            have o2 := (H1.k w.heap.size).ce 2 rfl
            have o3 := (H1.k w.heap.size).ce 3 rfl
            have HP : Hd w0 _ (((w3.setCell ⟨b, 3, none⟩ (.int .i64 (opn + 1))).alloc (.cells #[.int .i64 o.kind, .int .i64 o.res, .int .i64 o.n, .int .i64 o.v] 39)).drew) := H1.fol
            obtain ⟨i0, hi, hz0, hz1, hz2⟩ := info_parts cdInfoOp
            have hS : ∀ {v' : Value} {L : List Pr} {w : World}, Hd w0 (Slc 39 4 v' (ops.length + 1) (flat ops ++ [.int .i64 o.kind, .int .i64 o.res, .int .i64 o.n, .int .i64 o.v]) :: L) w → Hd w0 (SlE 39 v' (ops ++ [o]) :: L) w := by
              intro v' L w h
              have e1 : (ops ++ [o]).length = ops.length + 1 := by simp
              have e2 : flat (ops ++ [o]) = flat ops ++ [.int .i64 o.kind, .int .i64 o.res, .int .i64 o.n, .int .i64 o.v] := by rw [flat_append, flat_one]; rfl
              unfold SlE
              rw [e1, e2]
              exact h
            go_wp2_with fail
            refine wp_region_mix 8 [(0, true), (1, true), (2, true), (3, true), (4, true), (5, true), (6, false), (7, false)] (fun w' => w'.cell? ⟨b, 2, none⟩ = some ov ∧ w'.cell? ⟨w.heap.size, 0, none⟩ = some (.int .i64 o.kind) ∧ w'.cell? ⟨w.heap.size, 1, none⟩ = some (.int .i64 o.res) ∧ w'.cell? ⟨w.heap.size, 2, none⟩ = some (.int .i64 o.n) ∧ w'.cell? ⟨w.heap.size, 3, none⟩ = some (.int .i64 o.v)) (by kernel_rfl) (by kernel_rfl) (⟨d2, o0, o1, o2, o3⟩) (fun _ _ d _ _ h => by cases d <;> exact h) ?_
            simp only [List.drop_succ_cons, List.drop_zero]
            iterate 6 (refine mix_head (o := _) (v := ?_) (by (simp only [List.getElem?_toArray, List.getElem?_cons_succ, List.getElem?_cons_zero]); rfl) (by rfl) (fun w' hS => ?_) ?_; rotate_left 1; (focus ((try dsimp only at hS); (try go_split_ands); go_simp; (try with_reducible rfl))); (try simp only [Act.put, List.setIfInBounds_toArray, List.set_cons_zero, List.set_cons_succ]))
            refine mix_mid (o := _) (by (simp only [List.getElem?_toArray, List.getElem?_cons_succ, List.getElem?_cons_zero]); rfl) ?_
            go_wp2_with fail
            refine mixQ_in (by exact ⟨((Hd.fol H1 : Hd w0 _ _).k b).ce 2 rfl, ((Hd.fol H1 : Hd w0 _ _).k w.heap.size).ce 0 rfl, ((Hd.fol H1 : Hd w0 _ _).k w.heap.size).ce 1 rfl, ((Hd.fol H1 : Hd w0 _ _).k w.heap.size).ce 2 rfl, ((Hd.fol H1 : Hd w0 _ _).k w.heap.size).ce 3 rfl⟩) ?_
            refine mix_mid (o := _) (by (simp only [List.getElem?_toArray, List.getElem?_cons_succ, List.getElem?_cons_zero]); rfl) ?_
            refine wpList_append_slc rfl _ _ 125 rfl 39 i0 _ 4 32 Tryz.underlying125 hi hz0 hz1 hz2 rfl _ _ _ rfl (HP.v ov) ⟨w3.heap.size, 0, none⟩ 1 1 [.int .i64 o.kind, .int .i64 o.res, .int .i64 o.n, .int .i64 o.v] rfl rfl (cel_news (HP.k w3.heap.size)) (by simp [Value.oneCell']) (by unfold maxLen; omega) (by omega) ?_
            intro v' w2 H4
            have HF := hS H4
            obtain ⟨l', hl'⟩ : ∃ l', ops ++ [o] = l' := ⟨_, rfl⟩
            rw [hl'] at HF hrs
            clear H4 HP hS
            obtain ⟨a', c', rfl, -, -, -, -⟩ := HF.slc_form
            replace hl' := Lib.hid hl'
            have d2 := (HF.k b).ce 2 rfl
            have f2 := (HF.k b).fr 2
            have o0 := (HF.k w.heap.size).ce 0 rfl
            have o1 := (HF.k w.heap.size).ce 1 rfl
            have o2 := (HF.k w.heap.size).ce 2 rfl
            have o3 := (HF.k w.heap.size).ce 3 rfl
            refine mixQ_in ⟨d2, o0, o1, o2, o3⟩ ?_
            refine mix_end ?_
            (try dsimp only)
            go_wp2_with fail
            go_ret2
            refine ⟨ret_ii (by rw [← hrs]) (by rw [← hrs]), ?_⟩
            rw [← hrs]
            exact RdP.shut (m := ⟨E, l', opn + 1⟩) (v := .slice a' l'.length c') (by exact Hd.fin HF)
          | false =>
            rw [hb, if_neg (by decide)] at hres
            by_cases hz : V.size = 0
            · rw [if_pos hz] at hres
              have hrs := hres
              have hV := empty_of_size hz
              subst hV
              clear hres hz
              go_wp2_with fail
              refine hword.mono ?_
              rintro e w3 ⟨rfl, H5⟩
              clear hword
              have c0 := (H5.k b).ce 0 rfl
              go_wp2_with fail
              go_ret2
              refine ⟨ret_ii (by rw [← hrs]) (by rw [← hrs]), ?_⟩
              rw [← hrs]
              exact RdP.shut (m := ⟨E, ops, opn⟩) (v := ov) (by exact Hd.fin H5)
            · rw [if_neg hz] at hres
              have hrs := hres
              have hV := notEmpty_of_size hz
              clear hres hz
              go_wp2_with fail
              refine hword.mono ?_
              rintro e w3 ⟨rfl, H5⟩
              clear hword
              go_wp2_with fail
              go_ret2
              refine ⟨ret_ii (by rw [← hrs]) (by rw [← hrs]), ?_⟩
              rw [← hrs]
              exact RdP.shut (m := ⟨E, ops, opn⟩) (v := ov) (by exact Hd.fin H5)
        · rw [if_neg q10, if_neg q11] at hres
          have hrs := hres
          clear hres ht hk hk10 hk11 hok hT
          have d2 := (H1.k b).ce 2 rfl
          have o0 := (H1.k w.heap.size).ce 0 rfl
          have o1 := (H1.k w.heap.size).ce 1 rfl
          have o2 := (H1.k w.heap.size).ce 2 rfl
          have o3 := (H1.k w.heap.size).ce 3 rfl
          have HP : Hd w0 _ ((wr.alloc (.cells #[.int .i64 o.kind, .int .i64 o.res, .int .i64 o.n, .int .i64 o.v] 39)).drew) := H1.fol
          obtain ⟨i0, hi, hz0, hz1, hz2⟩ := info_parts cdInfoOp
          have hS : ∀ {v' : Value} {L : List Pr} {w : World}, Hd w0 (Slc 39 4 v' (ops.length + 1) (flat ops ++ [.int .i64 o.kind, .int .i64 o.res, .int .i64 o.n, .int .i64 o.v]) :: L) w → Hd w0 (SlE 39 v' (ops ++ [o]) :: L) w := by
            intro v' L w h
            have e1 : (ops ++ [o]).length = ops.length + 1 := by simp
            have e2 : flat (ops ++ [o]) = flat ops ++ [.int .i64 o.kind, .int .i64 o.res, .int .i64 o.n, .int .i64 o.v] := by rw [flat_append, flat_one]; rfl
            unfold SlE
            rw [e1, e2]
            exact h
          go_wp2_with fail
          refine wp_region_mix 8 [(0, true), (1, true), (2, true), (3, true), (4, true), (5, true), (6, false), (7, false)] (fun w' => w'.cell? ⟨b, 2, none⟩ = some ov ∧ w'.cell? ⟨w.heap.size, 0, none⟩ = some (.int .i64 o.kind) ∧ w'.cell? ⟨w.heap.size, 1, none⟩ = some (.int .i64 o.res) ∧ w'.cell? ⟨w.heap.size, 2, none⟩ = some (.int .i64 o.n) ∧ w'.cell? ⟨w.heap.size, 3, none⟩ = some (.int .i64 o.v)) (by kernel_rfl) (by kernel_rfl) (⟨d2, o0, o1, o2, o3⟩) (fun _ _ d _ _ h => by cases d <;> exact h) ?_
          simp only [List.drop_succ_cons, List.drop_zero]
          iterate 6 (refine mix_head (o := _) (v := ?_) (by (simp only [List.getElem?_toArray, List.getElem?_cons_succ, List.getElem?_cons_zero]); rfl) (by rfl) (fun w' hS => ?_) ?_; rotate_left 1; (focus ((try dsimp only at hS); (try go_split_ands); go_simp; (try with_reducible rfl))); (try simp only [Act.put, List.setIfInBounds_toArray, List.set_cons_zero, List.set_cons_succ]))
          refine mix_mid (o := _) (by (simp only [List.getElem?_toArray, List.getElem?_cons_succ, List.getElem?_cons_zero]); rfl) ?_
          go_wp2_with fail
          refine mixQ_in (by exact ⟨((Hd.fol H1 : Hd w0 _ _).k b).ce 2 rfl, ((Hd.fol H1 : Hd w0 _ _).k w.heap.size).ce 0 rfl, ((Hd.fol H1 : Hd w0 _ _).k w.heap.size).ce 1 rfl, ((Hd.fol H1 : Hd w0 _ _).k w.heap.size).ce 2 rfl, ((Hd.fol H1 : Hd w0 _ _).k w.heap.size).ce 3 rfl⟩) ?_
          refine mix_mid (o := _) (by (simp only [List.getElem?_toArray, List.getElem?_cons_succ, List.getElem?_cons_zero]); rfl) ?_
          refine wpList_append_slc rfl _ _ 125 rfl 39 i0 _ 4 32 Tryz.underlying125 hi hz0 hz1 hz2 rfl _ _ _ rfl (HP.v ov) ⟨wr.heap.size, 0, none⟩ 1 1 [.int .i64 o.kind, .int .i64 o.res, .int .i64 o.n, .int .i64 o.v] rfl rfl (cel_news (HP.k wr.heap.size)) (by simp [Value.oneCell']) (by unfold maxLen; omega) (by omega) ?_
          intro v' w2 H4
          have HF := hS H4
          obtain ⟨l', hl'⟩ : ∃ l', ops ++ [o] = l' := ⟨_, rfl⟩
          rw [hl'] at HF hrs
          clear H4 HP hS
          obtain ⟨a', c', rfl, -, -, -, -⟩ := HF.slc_form
          replace hl' := Lib.hid hl'
          have d2 := (HF.k b).ce 2 rfl
          have f2 := (HF.k b).fr 2
          have o0 := (HF.k w.heap.size).ce 0 rfl
          have o1 := (HF.k w.heap.size).ce 1 rfl
          have o2 := (HF.k w.heap.size).ce 2 rfl
          have o3 := (HF.k w.heap.size).ce 3 rfl
          refine mixQ_in ⟨d2, o0, o1, o2, o3⟩ ?_
          refine mix_end ?_
          (try dsimp only)
          go_wp2_with fail
          go_ret2
          refine ⟨ret_ii (by rw [← hrs]) (by rw [← hrs]), ?_⟩
          rw [← hrs]
          exact RdP.shut (m := ⟨p, l', opn⟩) (v := .slice a' l'.length c') (by exact Hd.fin HF)
  · have hfo : fieldsOf h = [] := by unfold fieldsOf; rw [if_neg h1, if_neg h2, if_neg h3, if_neg h4]
    rw [hfo] at hres
    clear hfo
    obtain ⟨T, hT⟩ : ∃ T, takeF s [] ps ⟨kind, 0, 0, 0⟩ = T := ⟨_, rfl⟩
    rw [hT] at hres
    go_wp2_with fail
    go_loopw [44] (fun i wr => ∃ (k p : Nat) (o : OpM), k ≤ 0 ∧ i = .int .i64 k ∧ p ≤ s.size ∧ T = takeF s (List.drop k []) p o ∧ o.kind = kind ∧ Hd w0 (cel b 246 #[.string s, .int .i64 p, ov, .int .i64 opn] :: SlE 39 ov ops :: cel w.heap.size 39 #[.int .i64 o.kind, .int .i64 o.res, .int .i64 o.n, .int .i64 o.v] :: R) wr) (fun i _ => 0 - (intOf i).toNat)
    case atStart => exact ⟨0, ps, ⟨kind, 0, 0, 0⟩, by omega, rfl, ha, hT.symm, rfl, by exact Hd.fin HA⟩
    case round =>
      clear HA H3
      obtain ⟨k, p, o, hk, rfl, hp, ht, hok, H1⟩ := hrel
      obtain rfl : k = 0 := by omega
      · rw [show List.drop 0 [] = [] from rfl, takeF] at ht
        rw [ht] at hres
        dsimp only at hres
        rw [if_pos rfl] at hres
        have q10 : ¬ kind = 10 := fun e => absurd (hk10 e) h4
        by_cases q11 : kind = 11
        · rw [if_neg q10, if_pos q11] at hres
          have hrs := hres
          have g5 : IntKind.i64.wrap (opn - 1) = opn - 1 := IntWalk.i64_in _ (by omega)
          have H1' := H1
          clear H1
          have c0 := (H1'.k b).ce 3 rfl
          have f0 := (H1'.k b).fr 3
          have H1 : Hd w0 _ (wr.setCell ⟨b, 3, none⟩ (.int .i64 (opn - 1))) := H1'.fol
          clear hres ht hk hk10 hk11 hok hT
          have d2 := (H1.k b).ce 2 rfl
          have o0 := (H1.k w.heap.size).ce 0 rfl
          have o1 := (H1.k w.heap.size).ce 1 rfl
          have o2 := (H1.k w.heap.size).ce 2 rfl
          have o3 := (H1.k w.heap.size).ce 3 rfl
          have HP : Hd w0 _ (((wr.setCell ⟨b, 3, none⟩ (.int .i64 (opn - 1))).alloc (.cells #[.int .i64 o.kind, .int .i64 o.res, .int .i64 o.n, .int .i64 o.v] 39)).drew) := H1.fol
          obtain ⟨i0, hi, hz0, hz1, hz2⟩ := info_parts cdInfoOp
          have hS : ∀ {v' : Value} {L : List Pr} {w : World}, Hd w0 (Slc 39 4 v' (ops.length + 1) (flat ops ++ [.int .i64 o.kind, .int .i64 o.res, .int .i64 o.n, .int .i64 o.v]) :: L) w → Hd w0 (SlE 39 v' (ops ++ [o]) :: L) w := by
            intro v' L w h
            have e1 : (ops ++ [o]).length = ops.length + 1 := by simp
            have e2 : flat (ops ++ [o]) = flat ops ++ [.int .i64 o.kind, .int .i64 o.res, .int .i64 o.n, .int .i64 o.v] := by rw [flat_append, flat_one]; rfl
            unfold SlE
            rw [e1, e2]
            exact h
          go_wp2_with fail
          refine wp_region_mix 8 [(0, true), (1, true), (2, true), (3, true), (4, true), (5, true), (6, false), (7, false)] (fun w' => w'.cell? ⟨b, 2, none⟩ = some ov ∧ w'.cell? ⟨w.heap.size, 0, none⟩ = some (.int .i64 o.kind) ∧ w'.cell? ⟨w.heap.size, 1, none⟩ = some (.int .i64 o.res) ∧ w'.cell? ⟨w.heap.size, 2, none⟩ = some (.int .i64 o.n) ∧ w'.cell? ⟨w.heap.size, 3, none⟩ = some (.int .i64 o.v)) (by kernel_rfl) (by kernel_rfl) (⟨d2, o0, o1, o2, o3⟩) (fun _ _ d _ _ h => by cases d <;> exact h) ?_
          simp only [List.drop_succ_cons, List.drop_zero]
          iterate 6 (refine mix_head (o := _) (v := ?_) (by (simp only [List.getElem?_toArray, List.getElem?_cons_succ, List.getElem?_cons_zero]); rfl) (by rfl) (fun w' hS => ?_) ?_; rotate_left 1; (focus ((try dsimp only at hS); (try go_split_ands); go_simp; (try with_reducible rfl))); (try simp only [Act.put, List.setIfInBounds_toArray, List.set_cons_zero, List.set_cons_succ]))
          refine mix_mid (o := _) (by (simp only [List.getElem?_toArray, List.getElem?_cons_succ, List.getElem?_cons_zero]); rfl) ?_
          go_wp2_with fail
          refine mixQ_in (by exact ⟨((Hd.fol H1 : Hd w0 _ _).k b).ce 2 rfl, ((Hd.fol H1 : Hd w0 _ _).k w.heap.size).ce 0 rfl, ((Hd.fol H1 : Hd w0 _ _).k w.heap.size).ce 1 rfl, ((Hd.fol H1 : Hd w0 _ _).k w.heap.size).ce 2 rfl, ((Hd.fol H1 : Hd w0 _ _).k w.heap.size).ce 3 rfl⟩) ?_
          refine mix_mid (o := _) (by (simp only [List.getElem?_toArray, List.getElem?_cons_succ, List.getElem?_cons_zero]); rfl) ?_
          refine wpList_append_slc rfl _ _ 125 rfl 39 i0 _ 4 32 Tryz.underlying125 hi hz0 hz1 hz2 rfl _ _ _ rfl (HP.v ov) ⟨wr.heap.size, 0, none⟩ 1 1 [.int .i64 o.kind, .int .i64 o.res, .int .i64 o.n, .int .i64 o.v] rfl rfl (cel_news (HP.k wr.heap.size)) (by simp [Value.oneCell']) (by unfold maxLen; omega) (by omega) ?_
          intro v' w2 H4
          have HF := hS H4
          obtain ⟨l', hl'⟩ : ∃ l', ops ++ [o] = l' := ⟨_, rfl⟩
          rw [hl'] at HF hrs
          clear H4 HP hS
          obtain ⟨a', c', rfl, -, -, -, -⟩ := HF.slc_form
          replace hl' := Lib.hid hl'
          have d2 := (HF.k b).ce 2 rfl
          have f2 := (HF.k b).fr 2
          have o0 := (HF.k w.heap.size).ce 0 rfl
          have o1 := (HF.k w.heap.size).ce 1 rfl
          have o2 := (HF.k w.heap.size).ce 2 rfl
          have o3 := (HF.k w.heap.size).ce 3 rfl
          refine mixQ_in ⟨d2, o0, o1, o2, o3⟩ ?_
          refine mix_end ?_
          (try dsimp only)
          go_wp2_with fail
          go_ret2
          refine ⟨ret_ii (by rw [← hrs]) (by rw [← hrs]), ?_⟩
          rw [← hrs]
          exact RdP.shut (m := ⟨p, l', opn - 1⟩) (v := .slice a' l'.length c') (by exact Hd.fin HF)
        · rw [if_neg q10, if_neg q11] at hres
          have hrs := hres
          clear hres ht hk hk10 hk11 hok hT
          have d2 := (H1.k b).ce 2 rfl
          have o0 := (H1.k w.heap.size).ce 0 rfl
          have o1 := (H1.k w.heap.size).ce 1 rfl
          have o2 := (H1.k w.heap.size).ce 2 rfl
          have o3 := (H1.k w.heap.size).ce 3 rfl
          have HP : Hd w0 _ ((wr.alloc (.cells #[.int .i64 o.kind, .int .i64 o.res, .int .i64 o.n, .int .i64 o.v] 39)).drew) := H1.fol
          obtain ⟨i0, hi, hz0, hz1, hz2⟩ := info_parts cdInfoOp
          have hS : ∀ {v' : Value} {L : List Pr} {w : World}, Hd w0 (Slc 39 4 v' (ops.length + 1) (flat ops ++ [.int .i64 o.kind, .int .i64 o.res, .int .i64 o.n, .int .i64 o.v]) :: L) w → Hd w0 (SlE 39 v' (ops ++ [o]) :: L) w := by
            intro v' L w h
            have e1 : (ops ++ [o]).length = ops.length + 1 := by simp
            have e2 : flat (ops ++ [o]) = flat ops ++ [.int .i64 o.kind, .int .i64 o.res, .int .i64 o.n, .int .i64 o.v] := by rw [flat_append, flat_one]; rfl
            unfold SlE
            rw [e1, e2]
            exact h
          go_wp2_with fail
          refine wp_region_mix 8 [(0, true), (1, true), (2, true), (3, true), (4, true), (5, true), (6, false), (7, false)] (fun w' => w'.cell? ⟨b, 2, none⟩ = some ov ∧ w'.cell? ⟨w.heap.size, 0, none⟩ = some (.int .i64 o.kind) ∧ w'.cell? ⟨w.heap.size, 1, none⟩ = some (.int .i64 o.res) ∧ w'.cell? ⟨w.heap.size, 2, none⟩ = some (.int .i64 o.n) ∧ w'.cell? ⟨w.heap.size, 3, none⟩ = some (.int .i64 o.v)) (by kernel_rfl) (by kernel_rfl) (⟨d2, o0, o1, o2, o3⟩) (fun _ _ d _ _ h => by cases d <;> exact h) ?_
          simp only [List.drop_succ_cons, List.drop_zero]
          iterate 6 (refine mix_head (o := _) (v := ?_) (by (simp only [List.getElem?_toArray, List.getElem?_cons_succ, List.getElem?_cons_zero]); rfl) (by rfl) (fun w' hS => ?_) ?_; rotate_left 1; (focus ((try dsimp only at hS); (try go_split_ands); go_simp; (try with_reducible rfl))); (try simp only [Act.put, List.setIfInBounds_toArray, List.set_cons_zero, List.set_cons_succ]))
          refine mix_mid (o := _) (by (simp only [List.getElem?_toArray, List.getElem?_cons_succ, List.getElem?_cons_zero]); rfl) ?_
          go_wp2_with fail
          refine mixQ_in (by exact ⟨((Hd.fol H1 : Hd w0 _ _).k b).ce 2 rfl, ((Hd.fol H1 : Hd w0 _ _).k w.heap.size).ce 0 rfl, ((Hd.fol H1 : Hd w0 _ _).k w.heap.size).ce 1 rfl, ((Hd.fol H1 : Hd w0 _ _).k w.heap.size).ce 2 rfl, ((Hd.fol H1 : Hd w0 _ _).k w.heap.size).ce 3 rfl⟩) ?_
          refine mix_mid (o := _) (by (simp only [List.getElem?_toArray, List.getElem?_cons_succ, List.getElem?_cons_zero]); rfl) ?_
          refine wpList_append_slc rfl _ _ 125 rfl 39 i0 _ 4 32 Tryz.underlying125 hi hz0 hz1 hz2 rfl _ _ _ rfl (HP.v ov) ⟨wr.heap.size, 0, none⟩ 1 1 [.int .i64 o.kind, .int .i64 o.res, .int .i64 o.n, .int .i64 o.v] rfl rfl (cel_news (HP.k wr.heap.size)) (by simp [Value.oneCell']) (by unfold maxLen; omega) (by omega) ?_
          intro v' w2 H4
          have HF := hS H4
          obtain ⟨l', hl'⟩ : ∃ l', ops ++ [o] = l' := ⟨_, rfl⟩
          rw [hl'] at HF hrs
          clear H4 HP hS
          obtain ⟨a', c', rfl, -, -, -, -⟩ := HF.slc_form
          replace hl' := Lib.hid hl'
          have d2 := (HF.k b).ce 2 rfl
          have f2 := (HF.k b).fr 2
          have o0 := (HF.k w.heap.size).ce 0 rfl
          have o1 := (HF.k w.heap.size).ce 1 rfl
          have o2 := (HF.k w.heap.size).ce 2 rfl
          have o3 := (HF.k w.heap.size).ce 3 rfl
          refine mixQ_in ⟨d2, o0, o1, o2, o3⟩ ?_
          refine mix_end ?_
          (try dsimp only)
          go_wp2_with fail
          go_ret2
          refine ⟨ret_ii (by rw [← hrs]) (by rw [← hrs]), ?_⟩
          rw [← hrs]
          exact RdP.shut (m := ⟨p, l', opn⟩) (v := .slice a' l'.length c') (by exact Hd.fin HF)
end
end Go.Proofs.YtogcikilphakmaaGreatDoor
