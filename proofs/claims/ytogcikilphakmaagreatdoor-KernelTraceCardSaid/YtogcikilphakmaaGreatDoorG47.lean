/-
  Merged texts of one proof: Ke4a, Ke4, Ke4b.
-/
import Derived.Test.YtogcikilphakmaaGreatDoorG35
import Derived.Test.YtogcikilphakmaaGreatDoorG44

/-
  Package kernel: Check. Every kernel, every task.
-/
namespace Go.Proofs.YtogcikilphakmaaGreatDoor
open Go.RowKit Spl

abbrev taskA (x : TaskM) (nv : Value) : Value := .agg #[.string x.nm, .int .i64 x.lv, .int .i64 x.fr, nv, .string x.cd, .int .i64 x.p, .int .i64 x.f, .int .i64 x.g]
def KeM.busy (m : KeM) (x : TaskM) : Bool := x.needs.any fun n => decide (0 < (holdersM m.dp.co.un n.res.toNat).length)
def KeM.checkE (m : KeM) (x : TaskM) : Int := if checkTk m.tk x = 0 ∨ checkTk m.tk x = 25 then (if m.busy x = true then 24 else checkTk m.tk x) else checkTk m.tk x
theorem needsM_zero {u : List Int} : ∀ {l : List NeedM} {pr : Option Int} (_ : needsM u l pr = 0), ∀ x ∈ l, 0 ≤ x.res ∧ x.res < u.length
  | [], _, _ => fun x hx => by cases hx
  | y :: l, pr, h => by
    rw [needsM_cons] at h
    intro x hx
    by_cases h1 : y.res < 0 ∨ (u.length : Int) ≤ y.res ∨ y.units < 1 ∨ (u[y.res.toNat]?.getD 0) < y.units
    · rw [if_pos h1] at h; cases h
    · rw [if_neg h1] at h
      have h3 : needsM u l (some y.res) = 0 := by
        cases pr with
        | none => rw [if_neg (by simp)] at h; exact h
        | some p =>
          dsimp only at h
          by_cases h2 : decide (y.res ≤ p) = true
          · rw [if_pos h2] at h; omega
          · rw [if_neg h2] at h; exact h
      rcases List.mem_cons.1 hx with rfl | hx
      · omega
      · exact needsM_zero h3 x hx
theorem checkTk_needs {m : TkM} {x : TaskM} (h : checkTk m x = 0 ∨ checkTk m x = 25) (hs : ¬ (stepsOf x.cd).2 = 25) : ∀ n ∈ x.needs, 0 ≤ n.res ∧ n.res < m.units.length := by
  unfold checkTk at h
  by_cases h1 : (stepsOf x.cd).2 = 0
  · rw [if_pos h1] at h
    by_cases h2 : legalM x.nm = true
    · rw [if_pos h2] at h
      by_cases h3 : (rowAt m.names x.nm).isSome = true
      · rw [if_pos h3] at h; omega
      · rw [if_neg h3] at h
        by_cases h4 : x.lv < 1 ∨ 32 < x.lv ∨ x.fr < 0 ∨ 4096 < x.fr ∨ timesOk x.p x.f x.g = false
        · rw [if_pos h4] at h; omega
        · rw [if_neg h4] at h
          by_cases h5 : needsM m.units x.needs none = 0
          · exact needsM_zero h5
          · rw [if_neg h5] at h
            exfalso
            have h6 : ∀ (l : List NeedM) (pr : Option Int), needsM m.units l pr = 0 ∨ needsM m.units l pr = 1 ∨ needsM m.units l pr = 21 := by
              intro l
              induction l with
              | nil => intro pr; exact .inl rfl
              | cons y l ih =>
                intro pr
                rw [needsM_cons]
                by_cases h7 : y.res < 0 ∨ (m.units.length : Int) ≤ y.res ∨ y.units < 1 ∨ (m.units[y.res.toNat]?.getD 0) < y.units
                · rw [if_pos h7]; exact .inr (.inl rfl)
                · rw [if_neg h7]
                  cases pr with
                  | none => rw [if_neg (by simp)]; exact ih _
                  | some p =>
                    dsimp only
                    by_cases h2 : decide (y.res ≤ p) = true
                    · rw [if_pos h2]; exact .inr (.inr rfl)
                    · rw [if_neg h2]; exact ih _
            have := h6 x.needs none
            omega
    · rw [if_neg h2] at h; omega
  · rw [if_neg h1] at h
    omega
theorem checkGo_no25 : ∀ (l : List OpM) (i n : Nat), ¬ (checkGo l i n).2 = 25
  | [], i, n => by unfold checkGo; split <;> simp
  | o :: l, i, n => by
    unfold checkGo
    split
    · simp
    · split
      · split
        · simp
        · exact checkGo_no25 l _ _
      · split
        · split
          · simp
          · exact checkGo_no25 l _ _
        · exact checkGo_no25 l _ _
theorem fieldM_no25 (s : ByteArray) (i : Nat) (o : OpM) (j : Nat) : ¬ (fieldM s i o j).1.2 = 25 := by
  unfold fieldM
  split
  · simp
  · dsimp only
    split
    · first | (show ¬ (0 : Int) = 25; decide) | (show ¬ (31 : Int) = 25; decide) | (show ¬ (30 : Int) = 25; decide)
    · split
      · split
        · first | (show ¬ (0 : Int) = 25; decide) | (show ¬ (31 : Int) = 25; decide) | (show ¬ (30 : Int) = 25; decide)
        · first | (show ¬ (0 : Int) = 25; decide) | (show ¬ (31 : Int) = 25; decide) | (show ¬ (30 : Int) = 25; decide)
      · split
        · first | (show ¬ (0 : Int) = 25; decide) | (show ¬ (31 : Int) = 25; decide) | (show ¬ (30 : Int) = 25; decide)
        · first | (show ¬ (0 : Int) = 25; decide) | (show ¬ (31 : Int) = 25; decide) | (show ¬ (30 : Int) = 25; decide)
theorem takeF_no25 (s : ByteArray) : ∀ (l : List Nat) (i : Nat) (o : OpM), ¬ (takeF s l i o).1.2 = 25
  | [], _, _ => by unfold takeF; simp
  | j :: l, i, o => by
    unfold takeF
    split
    · exact takeF_no25 s l _ _
    · exact fieldM_no25 s i o j
theorem oneM_no25 (s : ByteArray) (m : RdM) (k : Int) : ¬ (oneM s m k).1.2 = 25 := by
  unfold oneM
  dsimp only
  by_cases h1 : (takeF s (fieldsOf (rowHas k)) m.pos ⟨k, 0, 0, 0⟩).1.2 = 0
  · rw [if_pos h1]
    by_cases h2 : k = 10
    · rw [if_pos h2]
      split
      · first | (show ¬ (0 : Int) = 25; decide) | (show ¬ (31 : Int) = 25; decide) | (show ¬ (30 : Int) = 25; decide)
      · split
        · first | (show ¬ (0 : Int) = 25; decide) | (show ¬ (31 : Int) = 25; decide) | (show ¬ (30 : Int) = 25; decide)
        · first | (show ¬ (0 : Int) = 25; decide) | (show ¬ (31 : Int) = 25; decide) | (show ¬ (30 : Int) = 25; decide)
    · rw [if_neg h2]
      split
      · first | (show ¬ (0 : Int) = 25; decide) | (show ¬ (31 : Int) = 25; decide) | (show ¬ (30 : Int) = 25; decide)
      · first | (show ¬ (0 : Int) = 25; decide) | (show ¬ (31 : Int) = 25; decide) | (show ¬ (30 : Int) = 25; decide)
  · rw [if_neg h1]
    exact takeF_no25 s _ _ _
theorem parseGo_no25 (s : ByteArray) : ∀ (n : Nat) (m : RdM), ¬ (parseGo s n m).1.2 = 25
  | 0, _ => by unfold parseGo; simp
  | n + 1, m => by
    unfold parseGo
    split
    · simp
    · split
      · split
        · exact parseGo_no25 s n _
        · exact oneM_no25 s _ _
      · dsimp only
        unfold beginsM
        split
        · simp
        · split
          · simp
          · split <;> simp
theorem stepsOf_no25 (s : ByteArray) : ¬ (stepsOf s).2 = 25 := by
  have hs : ∀ p, ¬ (stepsM p).2 = 25 := by
    intro p
    unfold stepsM
    split
    · split <;> simp
    · unfold checkM
      split
      · simp
      · exact checkGo_no25 _ _ _
  have hp : ¬ (parseM s).2.2 = 25 := by
    unfold parseM
    split
    · simp
    · dsimp only
      split
      · split <;> simp
      · exact parseGo_no25 s _ _
  unfold stepsOf
  split
  · exact hs _
  · exact hp
structure KeC (m : KeM) : Prop where
  t : m.tk.Ok
  u : m.dp.co.un.Inv
  uu : m.dp.co.un.units = m.tk.units
end Go.Proofs.YtogcikilphakmaaGreatDoor

/-
  Package kernel: Check. Every kernel, every task.
-/
namespace Go.Proofs.YtogcikilphakmaaGreatDoor
open Go.RowKit Spl

section
variable {w0 w : World} {R : List Pr} {S : Hp} {z : KeV} {m : KeM}
set_option maxRecDepth 20000 in
set_option maxHeartbeats 4000000 in
theorem keCheckA [Lay w0 R] (H : Hd w0 (KeL z S m R) w) (h : KeC m) (x : TaskM) {nv : Value} (hs : Srg w0 R nv x.needs) (hL : x.needs.length ≤ 100000) {E : Int} (hE : checkTk m.tk x = E) (h0 : ¬ E = 0) (h25 : ¬ E = 25) :
    Calls Tryz.prog 26 #[.pointer (some ⟨z.k, 0, none⟩), taskA x nv] w fun e w' => e = .returned (.int .i64 E) ∧ Hd w0 (KeL z S m R) w' := by
  obtain ⟨k, cl, rg, y⟩ := z
  obtain ⟨a, c, hv⟩ := hs.form
  subst hv
  have H0 : Hd w0 _ (w.alloc (.cells #[.string x.nm, .int .i64 x.lv, .int .i64 x.fr, .slice a x.needs.length c, .string x.cd, .int .i64 x.p, .int .i64 x.f, .int .i64 x.g] 33)) := H.fol
  have H1 : Hd w0 (TkP y.x.t m.tk S :: cel w.heap.size 33 #[.string x.nm, .int .i64 x.lv, .int .i64 x.fr, .slice a x.needs.length c, .string x.cd, .int .i64 x.p, .int .i64 x.f, .int .i64 x.g] :: cel k 55 #[.pointer (some ⟨y.x.l, 0, none⟩), .pointer (some ⟨y.x.t, 0, none⟩), .pointer (some ⟨y.d, 0, none⟩), .pointer (some ⟨cl, 0, none⟩), .pointer (some ⟨rg, 0, none⟩)] :: Clock cl m.ck :: RingP rg m.ev :: cel y.d 78 #[.pointer (some ⟨y.x.l, 0, none⟩), .pointer (some ⟨y.x.t, 0, none⟩), .pointer (some ⟨y.c, 0, none⟩), .pointer (some ⟨y.q, 0, none⟩), .int .i64 m.dp.count] ::
    cel y.c 112 (coreRow y.c y.x.l) :: LkP y.x S m.dp.co :: WqP y.q m.dp.wq :: ro S :: R) _ := H0.re
  have hc := tkCheck H1.drew h.t x (hs.of fun h => by exact (Hd.re h : Hd w0 R _)) (by omega)
  rw [hE] at hc
  have k1 := (show _ = some (Value.pointer (some ⟨y.x.t, 0, none⟩)) from (H0.k k).ce 1 rfl)
  have hf := (H0.k w.heap.size).fact1
  simp only [Nat.reduceAdd] at hf
  go_split_ands
  have b1 : (E != 0 && E != 25) = true := by simp [h0, h25]
  replace hs := Lib.hid hs
  replace hE := Lib.hid hE
  clear H H1
  go_enter Tryz.func26, Tryz.ntmps26
  go_wp2_with fail
  refine wp_region_mix 5 [(0, true), (1, true), (2, true), (3, true), (4, true)] (fun w' => w'.cell? ⟨k, 1, none⟩ = some (.pointer (some ⟨y.x.t, 0, none⟩)) ∧ w'.cell? ⟨w.heap.size, 0, none⟩ = some (.string x.nm) ∧ w'.cell? ⟨w.heap.size, 1, none⟩ = some (.int .i64 x.lv) ∧ w'.cell? ⟨w.heap.size, 2, none⟩ = some (.int .i64 x.fr) ∧ w'.cell? ⟨w.heap.size, 3, none⟩ = some (.slice a x.needs.length c) ∧ w'.cell? ⟨w.heap.size, 4, none⟩ = some (.string x.cd) ∧ w'.cell? ⟨w.heap.size, 5, none⟩ = some (.int .i64 x.p) ∧ w'.cell? ⟨w.heap.size, 6, none⟩ = some (.int .i64 x.f) ∧ w'.cell? ⟨w.heap.size, 7, none⟩ = some (.int .i64 x.g)) (by kernel_rfl) (by kernel_rfl) (⟨k1, (show _ = some _ from (H0.drew.k w.heap.size).ce 0 rfl), (show _ = some _ from (H0.drew.k w.heap.size).ce 1 rfl), (show _ = some _ from (H0.drew.k w.heap.size).ce 2 rfl), (show _ = some _ from (H0.drew.k w.heap.size).ce 3 rfl), (show _ = some _ from (H0.drew.k w.heap.size).ce 4 rfl), (show _ = some _ from (H0.drew.k w.heap.size).ce 5 rfl), (show _ = some _ from (H0.drew.k w.heap.size).ce 6 rfl), (show _ = some _ from (H0.drew.k w.heap.size).ce 7 rfl)⟩) (fun _ _ d _ _ h => by cases d <;> exact h) ?_
  simp only [List.drop_succ_cons, List.drop_zero]
  iterate 5 (refine mix_head (o := _) (v := ?_) (by (simp only [List.getElem?_toArray, List.getElem?_cons_succ, List.getElem?_cons_zero]); rfl) (by rfl) (fun w' hS => ?_) ?_; rotate_left 1; (focus ((try dsimp only at hS); (try go_split_ands); go_simp; (try with_reducible rfl))); (try simp only [Act.put, List.setIfInBounds_toArray, List.set_cons_zero, List.set_cons_succ]))
  refine mix_end ?_
  (try dsimp only)
  go_wp2_with fail
  refine hc.mono ?_
  rintro e w1 ⟨rfl, H2⟩
  clear hc
  go_wp2_with fail
  go_ret
  exact ⟨rfl, H2.re⟩
set_option maxRecDepth 20000 in
set_option maxHeartbeats 4000000 in
theorem keCheckB0 [Lay w0 R] (H : Hd w0 (KeL z S m R) w) (h : KeC m) (x : TaskM) {nv : Value} (hs : Srg w0 R nv x.needs) (hL : x.needs.length ≤ 100000) (hE : checkTk m.tk x = 0) :
    Calls Tryz.prog 26 #[.pointer (some ⟨z.k, 0, none⟩), taskA x nv] w fun e w' => e = .returned (.int .i64 (if m.busy x = true then 24 else 0)) ∧ Hd w0 (KeL z S m R) w' := by
  obtain ⟨k, cl, rg, y⟩ := z
  obtain ⟨a, c, hv⟩ := hs.form
  subst hv
  have H0 : Hd w0 _ (w.alloc (.cells #[.string x.nm, .int .i64 x.lv, .int .i64 x.fr, .slice a x.needs.length c, .string x.cd, .int .i64 x.p, .int .i64 x.f, .int .i64 x.g] 33)) := H.fol
  have H1 : Hd w0 (TkP y.x.t m.tk S :: cel w.heap.size 33 #[.string x.nm, .int .i64 x.lv, .int .i64 x.fr, .slice a x.needs.length c, .string x.cd, .int .i64 x.p, .int .i64 x.f, .int .i64 x.g] :: cel k 55 #[.pointer (some ⟨y.x.l, 0, none⟩), .pointer (some ⟨y.x.t, 0, none⟩), .pointer (some ⟨y.d, 0, none⟩), .pointer (some ⟨cl, 0, none⟩), .pointer (some ⟨rg, 0, none⟩)] :: Clock cl m.ck :: RingP rg m.ev :: cel y.d 78 #[.pointer (some ⟨y.x.l, 0, none⟩), .pointer (some ⟨y.x.t, 0, none⟩), .pointer (some ⟨y.c, 0, none⟩), .pointer (some ⟨y.q, 0, none⟩), .int .i64 m.dp.count] ::
    cel y.c 112 (coreRow y.c y.x.l) :: LkP y.x S m.dp.co :: WqP y.q m.dp.wq :: ro S :: R) _ := H0.re
  have hc := tkCheck H1.drew h.t x (hs.of fun h => by exact (Hd.re h : Hd w0 R _)) (by omega)
  rw [hE] at hc
  have k1 := (show _ = some (Value.pointer (some ⟨y.x.t, 0, none⟩)) from (H0.k k).ce 1 rfl)
  have hf := (H0.k w.heap.size).fact1
  simp only [Nat.reduceAdd] at hf
  go_split_ands
  have hnr := checkTk_needs (by rw [hE]; decide) (stepsOf_no25 x.cd)
  obtain ⟨V, hV⟩ : ∃ V : Int, (if m.busy x = true then 24 else 0) = V := ⟨_, rfl⟩
  rw [hV]
  replace hV := Lib.hid hV
  replace hnr := Lib.hid hnr
  have hho := fun (w1 : World) (X : List Pr) (r : Nat) (hr : r < m.dp.co.un.units.length) (h1 : Hd w0 (LkP y.x S m.dp.co :: X) w1) => lkHolders h1 h.u hr
  replace hho := Lib.hid hho
  have huu := Lib.hid h.uu
  replace hs := Lib.hid hs
  replace hE := Lib.hid hE
  clear H H1
  go_enter Tryz.func26, Tryz.ntmps26
  go_wp2_with fail
  refine wp_region_mix 5 [(0, true), (1, true), (2, true), (3, true), (4, true)] (fun w' => w'.cell? ⟨k, 1, none⟩ = some (.pointer (some ⟨y.x.t, 0, none⟩)) ∧ w'.cell? ⟨w.heap.size, 0, none⟩ = some (.string x.nm) ∧ w'.cell? ⟨w.heap.size, 1, none⟩ = some (.int .i64 x.lv) ∧ w'.cell? ⟨w.heap.size, 2, none⟩ = some (.int .i64 x.fr) ∧ w'.cell? ⟨w.heap.size, 3, none⟩ = some (.slice a x.needs.length c) ∧ w'.cell? ⟨w.heap.size, 4, none⟩ = some (.string x.cd) ∧ w'.cell? ⟨w.heap.size, 5, none⟩ = some (.int .i64 x.p) ∧ w'.cell? ⟨w.heap.size, 6, none⟩ = some (.int .i64 x.f) ∧ w'.cell? ⟨w.heap.size, 7, none⟩ = some (.int .i64 x.g)) (by kernel_rfl) (by kernel_rfl) (⟨k1, (show _ = some _ from (H0.drew.k w.heap.size).ce 0 rfl), (show _ = some _ from (H0.drew.k w.heap.size).ce 1 rfl), (show _ = some _ from (H0.drew.k w.heap.size).ce 2 rfl), (show _ = some _ from (H0.drew.k w.heap.size).ce 3 rfl), (show _ = some _ from (H0.drew.k w.heap.size).ce 4 rfl), (show _ = some _ from (H0.drew.k w.heap.size).ce 5 rfl), (show _ = some _ from (H0.drew.k w.heap.size).ce 6 rfl), (show _ = some _ from (H0.drew.k w.heap.size).ce 7 rfl)⟩) (fun _ _ d _ _ h => by cases d <;> exact h) ?_
  simp only [List.drop_succ_cons, List.drop_zero]
  iterate 5 (refine mix_head (o := _) (v := ?_) (by (simp only [List.getElem?_toArray, List.getElem?_cons_succ, List.getElem?_cons_zero]); rfl) (by rfl) (fun w' hS => ?_) ?_; rotate_left 1; (focus ((try dsimp only at hS); (try go_split_ands); go_simp; (try with_reducible rfl))); (try simp only [Act.put, List.setIfInBounds_toArray, List.set_cons_zero, List.set_cons_succ]))
  refine mix_end ?_
  (try dsimp only)
  go_wp2_with fail
  refine hc.mono ?_
  rintro e w1 ⟨rfl, H2⟩
  clear hc H0
  have k3 := (show _ = some (Value.slice a x.needs.length c) from (H2.k w.heap.size).ce 3 rfl)
  have H3 : Hd w0 (LkP y.x S m.dp.co :: cel w.heap.size 33 #[.string x.nm, .int .i64 x.lv, .int .i64 x.fr, .slice a x.needs.length c, .string x.cd, .int .i64 x.p, .int .i64 x.f, .int .i64 x.g] :: cel k 55 #[.pointer (some ⟨y.x.l, 0, none⟩), .pointer (some ⟨y.x.t, 0, none⟩), .pointer (some ⟨y.d, 0, none⟩), .pointer (some ⟨cl, 0, none⟩), .pointer (some ⟨rg, 0, none⟩)] :: Clock cl m.ck :: RingP rg m.ev :: cel y.d 78 #[.pointer (some ⟨y.x.l, 0, none⟩), .pointer (some ⟨y.x.t, 0, none⟩), .pointer (some ⟨y.c, 0, none⟩), .pointer (some ⟨y.q, 0, none⟩), .int .i64 m.dp.count] :: cel y.c 112 (coreRow y.c y.x.l) :: WqP y.q m.dp.wq :: TkP y.x.t m.tk S :: ro S :: R) w1 := H2.re
  go_wp2_with fail
  go_loopw [24] (fun v wr => ∃ q : Nat, q ≤ x.needs.length ∧ v = .int .i64 q ∧ (∀ (i : Nat) (n : NeedM), i < q → x.needs[i]? = some n → ¬ 0 < (holdersM m.dp.co.un n.res.toNat).length) ∧ Hd w0 (LkP y.x S m.dp.co :: cel w.heap.size 33 #[.string x.nm, .int .i64 x.lv, .int .i64 x.fr, .slice a x.needs.length c, .string x.cd, .int .i64 x.p, .int .i64 x.f, .int .i64 x.g] :: cel k 55 #[.pointer (some ⟨y.x.l, 0, none⟩), .pointer (some ⟨y.x.t, 0, none⟩), .pointer (some ⟨y.d, 0, none⟩), .pointer (some ⟨cl, 0, none⟩), .pointer (some ⟨rg, 0, none⟩)] :: Clock cl m.ck :: RingP rg m.ev :: cel y.d 78 #[.pointer (some ⟨y.x.l, 0, none⟩), .pointer (some ⟨y.x.t, 0, none⟩), .pointer (some ⟨y.c, 0, none⟩), .pointer (some ⟨y.q, 0, none⟩), .int .i64 m.dp.count] :: cel y.c 112 (coreRow y.c y.x.l) :: WqP y.q m.dp.wq :: TkP y.x.t m.tk S :: ro S :: R) wr) (fun v _ => x.needs.length - (intOf v).toNat)
  case atStart => exact ⟨0, Nat.zero_le _, rfl, fun i n hi => by omega, H3⟩
  case round =>
    clear H3 H2 k3
    obtain ⟨q, hq, rfl, hno, H4⟩ := hrel
    by_cases hlt : q < x.needs.length
    · obtain ⟨n, hn⟩ : ∃ n, x.needs[q]? = some n := ⟨x.needs[q], List.getElem?_eq_getElem hlt⟩
      obtain ⟨g2, go2, c2, hnv, -, hcell⟩ := (hs.out).at hn
      injection hnv with q1 q2 q3
      subst q1
      subst q3
      clear q2
      have hR : Hd w0 R wr := H4.re
      have f0 := hcell hR 0 _ rfl
      have f1 := hcell hR 1 _ rfl
      simp only [Enc.size, Nat.add_zero] at f0 f1
      have n1 : (q : Int) < x.needs.length := by omega
      have n2 : ¬ (q : Int) < 0 := by omega
      have n3 : ¬ x.needs.length ≤ q := by omega
      have g6 : IntKind.i64.wrap ((q : Int) + 1) = (q : Int) + 1 := IntWalk.i64_in _ (by omega)
      have hb := hnr.out n (List.mem_of_getElem? hn)
      obtain ⟨r, hr⟩ : ∃ r : Nat, n.res = r := ⟨n.res.toNat, by omega⟩
      have hrt : n.res.toNat = r := by omega
      have H5 : Hd w0 _ (wr.alloc (.cells #[.int .i64 n.res, .int .i64 n.units] 58)) := H4.fol
      have H5a : Hd w0 (LkP y.x S m.dp.co :: cel wr.heap.size 58 #[.int .i64 n.res, .int .i64 n.units] :: cel w.heap.size 33 #[.string x.nm, .int .i64 x.lv, .int .i64 x.fr, .slice (some ⟨g2, go2, none⟩) x.needs.length c, .string x.cd, .int .i64 x.p, .int .i64 x.f, .int .i64 x.g] :: cel k 55 #[.pointer (some ⟨y.x.l, 0, none⟩), .pointer (some ⟨y.x.t, 0, none⟩), .pointer (some ⟨y.d, 0, none⟩), .pointer (some ⟨cl, 0, none⟩), .pointer (some ⟨rg, 0, none⟩)] :: Clock cl m.ck :: RingP rg m.ev :: cel y.d 78 #[.pointer (some ⟨y.x.l, 0, none⟩), .pointer (some ⟨y.x.t, 0, none⟩), .pointer (some ⟨y.c, 0, none⟩), .pointer (some ⟨y.q, 0, none⟩), .int .i64 m.dp.count] :: cel y.c 112 (coreRow y.c y.x.l) :: WqP y.q m.dp.wq :: TkP y.x.t m.tk S :: ro S :: R) (wr.alloc (.cells #[.int .i64 n.res, .int .i64 n.units] 58)) := H5.re
      have hcl := hho.out _ _ r (by rw [huu.out]; omega) H5a.drew
      rw [← hr] at hcl
      have d0 := (show _ = some (Value.int .i64 n.res) from (H5a.k wr.heap.size).ce 0 rfl)
      have d1 := (show _ = some (Value.pointer (some ⟨y.x.l, 0, none⟩)) from (H5a.k k).ce 0 rfl)
      replace hr := Lib.hid hr
      replace hno := Lib.hid hno
      replace hn := Lib.hid hn
      clear hcell hR H4 H5
      go_wp2_with fail
      refine wp_region_still_tail 6 (by kernel_rfl) (by kernel_rfl) ?_
      simp only [List.take_succ_cons, List.take_zero, List.drop_succ_cons, List.drop_zero, World.drew_eq]
      (repeat still_step)
      refine wpStill_nil ?_
      go_wp2_with fail
      refine hcl.mono ?_
      rintro e w3 ⟨v, rfl, H6⟩
      clear hcl
      obtain ⟨a3, c3, rfl, -, -, -, -⟩ := H6.slc_form
      obtain ⟨P, hP⟩ : ∃ P, (holdersM m.dp.co.un r).length = P := ⟨_, rfl⟩
      rw [hP] at H6
      by_cases hp0 : 0 < P
      · have p1 : (0 : Int) < P := by omega
        have hbz : m.busy x = true := by
          unfold KeM.busy
          rw [List.any_eq_true]
          exact ⟨n, List.mem_of_getElem? hn.out, by rw [hrt, hP]; simpa using hp0⟩
        replace hP := Lib.hid hP
        replace hbz := Lib.hid hbz
        rw [hP.out]
        go_wp2_with fail
        go_ret
        exact ⟨ret_int (by rw [← hV.out, if_pos hbz.out]), H6.re⟩
      · have p1 : ¬ (0 : Int) < P := by omega
        have hP0 : ¬ 0 < (holdersM m.dp.co.un n.res.toNat).length := by rw [hrt, hP]; exact hp0
        replace hP := Lib.hid hP
        replace hP0 := Lib.hid hP0
        rw [hP.out]
        go_wp2_with fail
        go_roundw
        case rel =>
          refine ⟨q + 1, by omega, by simp, fun i n2 hi hn2 => ?_, H6.re⟩
          by_cases hiq : i = q
          · subst hiq
            have := hn.out
            rw [hn2] at this
            injection this with this
            rw [this]
            exact hP0.out
          · exact hno.out i n2 (by omega) hn2
        case measure => simp [intOf]; omega
    · obtain rfl : q = x.needs.length := by omega
      have hbz : ¬ m.busy x = true := by
        unfold KeM.busy
        rw [List.any_eq_true]
        rintro ⟨n, hn, hh⟩
        obtain ⟨i, hi, rfl⟩ := List.mem_iff_getElem.1 hn
        have := hno i _ hi (List.getElem?_eq_getElem hi)
        simp at hh
        omega
      replace hbz := Lib.hid hbz
      go_wp2_with fail
      go_ret
      exact ⟨ret_int (by rw [← hV.out, if_neg hbz.out]), H4.re⟩
end
end Go.Proofs.YtogcikilphakmaaGreatDoor

/-
  Package kernel: Check where the stack is too small. Every kernel, every task.
-/
namespace Go.Proofs.YtogcikilphakmaaGreatDoor
open Go.RowKit Spl

section
variable {w0 w : World} {R : List Pr} {S : Hp} {z : KeV} {m : KeM}
set_option maxRecDepth 20000 in
set_option maxHeartbeats 4000000 in
theorem keCheckB25 [Lay w0 R] (H : Hd w0 (KeL z S m R) w) (h : KeC m) (x : TaskM) {nv : Value} (hs : Srg w0 R nv x.needs) (hL : x.needs.length ≤ 100000) (hE : checkTk m.tk x = 25) :
    Calls Tryz.prog 26 #[.pointer (some ⟨z.k, 0, none⟩), taskA x nv] w fun e w' => e = .returned (.int .i64 (if m.busy x = true then 24 else 25)) ∧ Hd w0 (KeL z S m R) w' := by
  obtain ⟨k, cl, rg, y⟩ := z
  obtain ⟨a, c, hv⟩ := hs.form
  subst hv
  have H0 : Hd w0 _ (w.alloc (.cells #[.string x.nm, .int .i64 x.lv, .int .i64 x.fr, .slice a x.needs.length c, .string x.cd, .int .i64 x.p, .int .i64 x.f, .int .i64 x.g] 33)) := H.fol
  have H1 : Hd w0 (TkP y.x.t m.tk S :: cel w.heap.size 33 #[.string x.nm, .int .i64 x.lv, .int .i64 x.fr, .slice a x.needs.length c, .string x.cd, .int .i64 x.p, .int .i64 x.f, .int .i64 x.g] :: cel k 55 #[.pointer (some ⟨y.x.l, 0, none⟩), .pointer (some ⟨y.x.t, 0, none⟩), .pointer (some ⟨y.d, 0, none⟩), .pointer (some ⟨cl, 0, none⟩), .pointer (some ⟨rg, 0, none⟩)] :: Clock cl m.ck :: RingP rg m.ev :: cel y.d 78 #[.pointer (some ⟨y.x.l, 0, none⟩), .pointer (some ⟨y.x.t, 0, none⟩), .pointer (some ⟨y.c, 0, none⟩), .pointer (some ⟨y.q, 0, none⟩), .int .i64 m.dp.count] ::
    cel y.c 112 (coreRow y.c y.x.l) :: LkP y.x S m.dp.co :: WqP y.q m.dp.wq :: ro S :: R) _ := H0.re
  have hc := tkCheck H1.drew h.t x (hs.of fun h => by exact (Hd.re h : Hd w0 R _)) (by omega)
  rw [hE] at hc
  have k1 := (show _ = some (Value.pointer (some ⟨y.x.t, 0, none⟩)) from (H0.k k).ce 1 rfl)
  have hf := (H0.k w.heap.size).fact1
  simp only [Nat.reduceAdd] at hf
  go_split_ands
  have hnr := checkTk_needs (by rw [hE]; decide) (stepsOf_no25 x.cd)
  obtain ⟨V, hV⟩ : ∃ V : Int, (if m.busy x = true then 24 else 25) = V := ⟨_, rfl⟩
  rw [hV]
  replace hV := Lib.hid hV
  replace hnr := Lib.hid hnr
  have hho := fun (w1 : World) (X : List Pr) (r : Nat) (hr : r < m.dp.co.un.units.length) (h1 : Hd w0 (LkP y.x S m.dp.co :: X) w1) => lkHolders h1 h.u hr
  replace hho := Lib.hid hho
  have huu := Lib.hid h.uu
  replace hs := Lib.hid hs
  replace hE := Lib.hid hE
  clear H H1
  go_enter Tryz.func26, Tryz.ntmps26
  go_wp2_with fail
  refine wp_region_mix 5 [(0, true), (1, true), (2, true), (3, true), (4, true)] (fun w' => w'.cell? ⟨k, 1, none⟩ = some (.pointer (some ⟨y.x.t, 0, none⟩)) ∧ w'.cell? ⟨w.heap.size, 0, none⟩ = some (.string x.nm) ∧ w'.cell? ⟨w.heap.size, 1, none⟩ = some (.int .i64 x.lv) ∧ w'.cell? ⟨w.heap.size, 2, none⟩ = some (.int .i64 x.fr) ∧ w'.cell? ⟨w.heap.size, 3, none⟩ = some (.slice a x.needs.length c) ∧ w'.cell? ⟨w.heap.size, 4, none⟩ = some (.string x.cd) ∧ w'.cell? ⟨w.heap.size, 5, none⟩ = some (.int .i64 x.p) ∧ w'.cell? ⟨w.heap.size, 6, none⟩ = some (.int .i64 x.f) ∧ w'.cell? ⟨w.heap.size, 7, none⟩ = some (.int .i64 x.g)) (by kernel_rfl) (by kernel_rfl) (⟨k1, (show _ = some _ from (H0.drew.k w.heap.size).ce 0 rfl), (show _ = some _ from (H0.drew.k w.heap.size).ce 1 rfl), (show _ = some _ from (H0.drew.k w.heap.size).ce 2 rfl), (show _ = some _ from (H0.drew.k w.heap.size).ce 3 rfl), (show _ = some _ from (H0.drew.k w.heap.size).ce 4 rfl), (show _ = some _ from (H0.drew.k w.heap.size).ce 5 rfl), (show _ = some _ from (H0.drew.k w.heap.size).ce 6 rfl), (show _ = some _ from (H0.drew.k w.heap.size).ce 7 rfl)⟩) (fun _ _ d _ _ h => by cases d <;> exact h) ?_
  simp only [List.drop_succ_cons, List.drop_zero]
  iterate 5 (refine mix_head (o := _) (v := ?_) (by (simp only [List.getElem?_toArray, List.getElem?_cons_succ, List.getElem?_cons_zero]); rfl) (by rfl) (fun w' hS => ?_) ?_; rotate_left 1; (focus ((try dsimp only at hS); (try go_split_ands); go_simp; (try with_reducible rfl))); (try simp only [Act.put, List.setIfInBounds_toArray, List.set_cons_zero, List.set_cons_succ]))
  refine mix_end ?_
  (try dsimp only)
  go_wp2_with fail
  refine hc.mono ?_
  rintro e w1 ⟨rfl, H2⟩
  clear hc H0
  have k3 := (show _ = some (Value.slice a x.needs.length c) from (H2.k w.heap.size).ce 3 rfl)
  have H3 : Hd w0 (LkP y.x S m.dp.co :: cel w.heap.size 33 #[.string x.nm, .int .i64 x.lv, .int .i64 x.fr, .slice a x.needs.length c, .string x.cd, .int .i64 x.p, .int .i64 x.f, .int .i64 x.g] :: cel k 55 #[.pointer (some ⟨y.x.l, 0, none⟩), .pointer (some ⟨y.x.t, 0, none⟩), .pointer (some ⟨y.d, 0, none⟩), .pointer (some ⟨cl, 0, none⟩), .pointer (some ⟨rg, 0, none⟩)] :: Clock cl m.ck :: RingP rg m.ev :: cel y.d 78 #[.pointer (some ⟨y.x.l, 0, none⟩), .pointer (some ⟨y.x.t, 0, none⟩), .pointer (some ⟨y.c, 0, none⟩), .pointer (some ⟨y.q, 0, none⟩), .int .i64 m.dp.count] :: cel y.c 112 (coreRow y.c y.x.l) :: WqP y.q m.dp.wq :: TkP y.x.t m.tk S :: ro S :: R) w1 := H2.re
  go_wp2_with fail
  go_loopw [24] (fun v wr => ∃ q : Nat, q ≤ x.needs.length ∧ v = .int .i64 q ∧ (∀ (i : Nat) (n : NeedM), i < q → x.needs[i]? = some n → ¬ 0 < (holdersM m.dp.co.un n.res.toNat).length) ∧ Hd w0 (LkP y.x S m.dp.co :: cel w.heap.size 33 #[.string x.nm, .int .i64 x.lv, .int .i64 x.fr, .slice a x.needs.length c, .string x.cd, .int .i64 x.p, .int .i64 x.f, .int .i64 x.g] :: cel k 55 #[.pointer (some ⟨y.x.l, 0, none⟩), .pointer (some ⟨y.x.t, 0, none⟩), .pointer (some ⟨y.d, 0, none⟩), .pointer (some ⟨cl, 0, none⟩), .pointer (some ⟨rg, 0, none⟩)] :: Clock cl m.ck :: RingP rg m.ev :: cel y.d 78 #[.pointer (some ⟨y.x.l, 0, none⟩), .pointer (some ⟨y.x.t, 0, none⟩), .pointer (some ⟨y.c, 0, none⟩), .pointer (some ⟨y.q, 0, none⟩), .int .i64 m.dp.count] :: cel y.c 112 (coreRow y.c y.x.l) :: WqP y.q m.dp.wq :: TkP y.x.t m.tk S :: ro S :: R) wr) (fun v _ => x.needs.length - (intOf v).toNat)
  case atStart => exact ⟨0, Nat.zero_le _, rfl, fun i n hi => by omega, H3⟩
  case round =>
    clear H3 H2 k3
    obtain ⟨q, hq, rfl, hno, H4⟩ := hrel
    by_cases hlt : q < x.needs.length
    · obtain ⟨n, hn⟩ : ∃ n, x.needs[q]? = some n := ⟨x.needs[q], List.getElem?_eq_getElem hlt⟩
      obtain ⟨g2, go2, c2, hnv, -, hcell⟩ := (hs.out).at hn
      injection hnv with q1 q2 q3
      subst q1
      subst q3
      clear q2
      have hR : Hd w0 R wr := H4.re
      have f0 := hcell hR 0 _ rfl
      have f1 := hcell hR 1 _ rfl
      simp only [Enc.size, Nat.add_zero] at f0 f1
      have n1 : (q : Int) < x.needs.length := by omega
      have n2 : ¬ (q : Int) < 0 := by omega
      have n3 : ¬ x.needs.length ≤ q := by omega
      have g6 : IntKind.i64.wrap ((q : Int) + 1) = (q : Int) + 1 := IntWalk.i64_in _ (by omega)
      have hb := hnr.out n (List.mem_of_getElem? hn)
      obtain ⟨r, hr⟩ : ∃ r : Nat, n.res = r := ⟨n.res.toNat, by omega⟩
      have hrt : n.res.toNat = r := by omega
      have H5 : Hd w0 _ (wr.alloc (.cells #[.int .i64 n.res, .int .i64 n.units] 58)) := H4.fol
      have H5a : Hd w0 (LkP y.x S m.dp.co :: cel wr.heap.size 58 #[.int .i64 n.res, .int .i64 n.units] :: cel w.heap.size 33 #[.string x.nm, .int .i64 x.lv, .int .i64 x.fr, .slice (some ⟨g2, go2, none⟩) x.needs.length c, .string x.cd, .int .i64 x.p, .int .i64 x.f, .int .i64 x.g] :: cel k 55 #[.pointer (some ⟨y.x.l, 0, none⟩), .pointer (some ⟨y.x.t, 0, none⟩), .pointer (some ⟨y.d, 0, none⟩), .pointer (some ⟨cl, 0, none⟩), .pointer (some ⟨rg, 0, none⟩)] :: Clock cl m.ck :: RingP rg m.ev :: cel y.d 78 #[.pointer (some ⟨y.x.l, 0, none⟩), .pointer (some ⟨y.x.t, 0, none⟩), .pointer (some ⟨y.c, 0, none⟩), .pointer (some ⟨y.q, 0, none⟩), .int .i64 m.dp.count] :: cel y.c 112 (coreRow y.c y.x.l) :: WqP y.q m.dp.wq :: TkP y.x.t m.tk S :: ro S :: R) (wr.alloc (.cells #[.int .i64 n.res, .int .i64 n.units] 58)) := H5.re
      have hcl := hho.out _ _ r (by rw [huu.out]; omega) H5a.drew
      rw [← hr] at hcl
      have d0 := (show _ = some (Value.int .i64 n.res) from (H5a.k wr.heap.size).ce 0 rfl)
      have d1 := (show _ = some (Value.pointer (some ⟨y.x.l, 0, none⟩)) from (H5a.k k).ce 0 rfl)
      replace hr := Lib.hid hr
      replace hno := Lib.hid hno
      replace hn := Lib.hid hn
      clear hcell hR H4 H5
      go_wp2_with fail
      refine wp_region_still_tail 6 (by kernel_rfl) (by kernel_rfl) ?_
      simp only [List.take_succ_cons, List.take_zero, List.drop_succ_cons, List.drop_zero, World.drew_eq]
      (repeat still_step)
      refine wpStill_nil ?_
      go_wp2_with fail
      refine hcl.mono ?_
      rintro e w3 ⟨v, rfl, H6⟩
      clear hcl
      obtain ⟨a3, c3, rfl, -, -, -, -⟩ := H6.slc_form
      obtain ⟨P, hP⟩ : ∃ P, (holdersM m.dp.co.un r).length = P := ⟨_, rfl⟩
      rw [hP] at H6
      by_cases hp0 : 0 < P
      · have p1 : (0 : Int) < P := by omega
        have hbz : m.busy x = true := by
          unfold KeM.busy
          rw [List.any_eq_true]
          exact ⟨n, List.mem_of_getElem? hn.out, by rw [hrt, hP]; simpa using hp0⟩
        replace hP := Lib.hid hP
        replace hbz := Lib.hid hbz
        rw [hP.out]
        go_wp2_with fail
        go_ret
        exact ⟨ret_int (by rw [← hV.out, if_pos hbz.out]), H6.re⟩
      · have p1 : ¬ (0 : Int) < P := by omega
        have hP0 : ¬ 0 < (holdersM m.dp.co.un n.res.toNat).length := by rw [hrt, hP]; exact hp0
        replace hP := Lib.hid hP
        replace hP0 := Lib.hid hP0
        rw [hP.out]
        go_wp2_with fail
        go_roundw
        case rel =>
          refine ⟨q + 1, by omega, by simp, fun i n2 hi hn2 => ?_, H6.re⟩
          by_cases hiq : i = q
          · subst hiq
            have := hn.out
            rw [hn2] at this
            injection this with this
            rw [this]
            exact hP0.out
          · exact hno.out i n2 (by omega) hn2
        case measure => simp [intOf]; omega
    · obtain rfl : q = x.needs.length := by omega
      have hbz : ¬ m.busy x = true := by
        unfold KeM.busy
        rw [List.any_eq_true]
        rintro ⟨n, hn, hh⟩
        obtain ⟨i, hi, rfl⟩ := List.mem_iff_getElem.1 hn
        have := hno i _ hi (List.getElem?_eq_getElem hi)
        simp at hh
        omega
      replace hbz := Lib.hid hbz
      go_wp2_with fail
      go_ret
      exact ⟨ret_int (by rw [← hV.out, if_neg hbz.out]), H4.re⟩
end
end Go.Proofs.YtogcikilphakmaaGreatDoor
