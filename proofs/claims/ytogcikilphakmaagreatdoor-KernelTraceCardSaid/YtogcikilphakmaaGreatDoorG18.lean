/-
  Merged texts of one proof: Un2, Row, Code1, Code2, Code3, Code4.
-/
import Derived.Laws.Tables
import Derived.Test.YtogcikilphakmaaGreatDoorG09
import Derived.Test.YtogcikilphakmaaGreatDoorG17
import Derived.Test.YtogcikilphakmaaGreatDoorRows
import Derived.WalkLawsBesides
import Derived.WalkSpells

/-
  units.Table: of.
-/
namespace Go.Proofs.YtogcikilphakmaaGreatDoor
open Go.RowKit Spl
def UnM.heldL (m : UnM) (job : Int) : List Int := match rowAt m.jobs job with
  | some j => j.h.held
  | none => List.replicate 16 0
structure UnM.Ok (m : UnM) : Prop where
  s : Sorted m.jobs
  n : m.jobs.length ≤ 5000
  h : ∀ j ∈ m.jobs, j.h.held.length = 16
theorem rowsOf_row {jobs : List JobM} {bs : List Nat} {k : Int} (h : bs.length = jobs.length) {j : JobM} (hj : rowAt jobs k = some j) : ∃ b, bs[pos jobs k]? = some b ∧ rowAt (rowsOf jobs bs) k = some ⟨j.job, b⟩ := by
  unfold rowAt at hj ⊢
  rw [rowsOf_pos h]
  cases hq : jobs[pos jobs k]? with
  | none => rw [hq] at hj; cases hj
  | some y =>
    obtain ⟨b, hb⟩ : ∃ b, bs[pos jobs k]? = some b := ⟨bs[pos jobs k]'(by have := lt_of_get? hq; omega), List.getElem?_eq_getElem _⟩
    refine ⟨b, hb, ?_⟩
    rw [rowsOf_at hq hb]
    rw [hq] at hj
    show (if KLt.lt k y.job = true then none else some (⟨y.job, b⟩ : RowH)) = _
    have h2 : (if KLt.lt k y.job = true then none else some y) = some j := hj
    split at h2
    · cases h2
    · rename_i hc
      injection h2 with h2
      subst h2
      rw [if_neg hc]
theorem rowsOf_none {jobs : List JobM} {bs : List Nat} {k : Int} (h : bs.length = jobs.length) (hj : rowAt jobs k = none) : rowAt (rowsOf jobs bs) k = none := by
  unfold rowAt at hj ⊢
  rw [rowsOf_pos h]
  cases hq : jobs[pos jobs k]? with
  | none =>
    have : (rowsOf jobs bs)[pos jobs k]? = none := by
      rw [List.getElem?_eq_none_iff] at hq ⊢
      rw [rowsOf_len h]; exact hq
    rw [this]
  | some y =>
    obtain ⟨b, hb⟩ : ∃ b, bs[pos jobs k]? = some b := ⟨bs[pos jobs k]'(by have := lt_of_get? hq; omega), List.getElem?_eq_getElem _⟩
    rw [rowsOf_at hq hb]
    rw [hq] at hj
    show (if KLt.lt k y.job = true then none else some (⟨y.job, b⟩ : RowH)) = none
    have h2 : (if KLt.lt k y.job = true then none else some y) = none := hj
    split at h2
    · rename_i hc
      rw [if_pos hc]
    · cases h2
end Go.Proofs.YtogcikilphakmaaGreatDoor

/-
  Great literal rows in the walk: built, laid, stored whole, in the separation logic's words. No program in sight.
-/
namespace Go.Proofs.YtogcikilphakmaaGreatDoor
open Go.RowKit Spl

section
variable {P : Program} {w0 w : World} {R : List Pr} {ops : Array Oper} {rest : List Oper} {o : Oper} {a : Act} {Q : Exit → Act → World → Prop}
theorem wpList_build_row (hg : o.guard = none) (t : TypeId) (parts : Array (Nat × Operand)) (ho : o.op = .build t parts) (cells : Array Value)
    (hf : P.built t (parts.map fun (i, x) => (i, a.eval x)).toList = some cells)
    (h : wpList P ops Q rest (a.put o.dst (.agg cells)) w) : wpList P ops Q (o :: rest) a w :=
  wpList_plain hg fun _ hK => wp_build t parts ho (by rw [hf]; rfl) (by rw [hf]; exact hK _ _ h)
theorem wpList_store_all {t g : Nat} {old cells : Array Value} (H : Hd w0 (cel g t old :: R) w) (hgd : o.guard = none) (ty : TypeId) (x y : Operand) (ho : o.op = .store ty x y)
    (hx : a.eval x = .pointer (some ⟨g, 0, none⟩)) (hy : a.eval y = .agg cells)
    (hi : (P.info? ty).map (·.size) = some cells.size) (hold : old.size = cells.size) (h1 : cells.all (·.oneCell') = true)
    (h : ∀ w', Hd w0 (cel g t cells :: R) w' → wpList P ops Q rest (a.put o.dst undef) w') : wpList P ops Q (o :: rest) a w := by
  refine wpList_plain hgd fun _ hK => wp_store_row ty x y ho g cells hx hy t old H.heap hi hold h1 (hK _ _ (h _ ?_))
  refine H.upd (fun i => ?_) ⟨rfl, rfl, rfl, by simp [World.setRow]⟩
  by_cases hi : i = g
  · subst hi
    rw [setRow_heap w i old cells t (0, 0) H.heap]; simp
  · rw [setRow_other w g i cells hi]; simp [hi]
theorem wpList_alloc_row {n : Nat} [hs : HSize w n] (hgd : o.guard = none) (ty : TypeId) (ho : o.op = .alloc ty) (v : Value) (hz : (P.info? ty).bind (·.zero) = some v)
    (h : wpList P ops Q rest (a.put o.dst (.pointer (some ⟨n, 0, none⟩))) (w.alloc (.cells v.cells ty))) : wpList P ops Q (o :: rest) a w := by
  have hn := hs.eq
  subst hn
  refine wpList_plain hgd fun K hK => ?_
  unfold Oper.wp execOp
  cases hq : P.info? ty with
  | none => simp [hq] at hz
  | some i =>
    simp [hq] at hz
    simp only [ho]
    simp [Instr.alloc, zeroValue, typeInfo, hq, hz, go_sem]
    exact hK _ _ h
end
end Go.Proofs.YtogcikilphakmaaGreatDoor

/-
  Package code: Legal, blank. Every string.
-/
namespace Go.Proofs.YtogcikilphakmaaGreatDoor
open Go.RowKit Spl

def letterB (c : Nat) : Bool := decide (97 ≤ c) && decide (c ≤ 122)
def legalAt (i c : Nat) : Bool := letterB c || (i != 0 && (c == 45 || (decide (48 ≤ c) && decide (c ≤ 57))))
def legalTo (s : ByteArray) (k : Nat) : Prop := ∀ i, i < k → legalAt i (s.data.toList[i]?.getD 0).toNat = true
def legalM (s : ByteArray) : Bool := decide (1 ≤ s.size) && decide (s.size ≤ 32) && (List.range s.size).all fun i => legalAt i (s.data.toList[i]?.getD 0).toNat
theorem legalM_all {s : ByteArray} (h1 : 1 ≤ s.size) (h2 : s.size ≤ 32) (h : legalTo s s.size) : legalM s = true := by
  simp only [legalM, h1, h2, decide_true, Bool.true_and, List.all_eq_true, List.mem_range]
  exact h
theorem legalM_not {s : ByteArray} {k : Nat} (hk : k < s.size) (h : legalAt k (s.data.toList[k]?.getD 0).toNat = false) : legalM s = false := by
  simp only [legalM, Bool.and_eq_false_iff]
  refine .inr ?_
  rw [List.all_eq_false]
  exact ⟨k, List.mem_range.2 hk, by rw [h]; decide⟩
theorem byte_at {s : ByteArray} {k : Nat} (h : k < s.size) : s[k] = s.data.toList[k]?.getD 0 := by
  have : k < s.data.size := h
  show s.data[k] = _
  rw [Array.getElem?_toList, Array.getElem?_eq_getElem this]; rfl
theorem legalTo_succ {s : ByteArray} {k : Nat} {c : UInt8} (h : legalTo s k) (hc : s.data.toList[k]?.getD 0 = c) (hk : legalAt k c.toNat = true) : legalTo s (k + 1) := by
  intro i hi
  by_cases e : i = k
  · subst e; rw [hc]; exact hk
  · exact h i (by omega)
section
variable {w0 w : World}

def blankB (c : Int) : Bool := c == 9 || c == 10 || c == 13 || c == 32 || c == 59
theorem cdBlank (c : Int) : Calls Tryz.prog 144 #[.int .u8 c] w fun e w' => e = .returned (.bool (blankB c)) ∧ w = w' := by
  go_enter Tryz.func144, Tryz.ntmps144
  go_wp2
  all_goals (go_ret; refine ⟨?_, rfl⟩; simp_all [blankB])

set_option maxHeartbeats 1000000 in
theorem cdLegal (s : ByteArray) : Calls Tryz.prog 78 #[.string s] w fun e w' => e = .returned (.bool (legalM s)) ∧ w = w' := by
  by_cases h1 : s.size < 1
  · have e : legalM s = false := by simp [legalM]; omega
    rw [e]
    go_enter Tryz.func78, Tryz.ntmps78
    go_wp2
    go_ret
    exact ⟨rfl, rfl⟩
  by_cases h2 : 32 < s.size
  · have e : legalM s = false := by simp [legalM]; omega
    rw [e]
    go_enter Tryz.func78, Tryz.ntmps78
    go_wp2
    go_ret
    exact ⟨rfl, rfl⟩
  go_enter Tryz.func78, Tryz.ntmps78
  go_wp2
  go_loop [15] (fun i => ∃ k : Nat, k ≤ s.size ∧ i = .int .i64 k ∧ legalTo s k) (fun i => s.size - (intOf i).toNat)
  case atStart => exact ⟨0, Nat.zero_le _, rfl, fun i h => absurd h (Nat.not_lt_zero _)⟩
  case round =>
    obtain ⟨k, hk, rfl, hl⟩ := hrel
    by_cases hlt : k < s.size
    · obtain ⟨c, hc⟩ : ∃ c, s[k] = c := ⟨_, rfl⟩
      have hc2 : s.data[k] = c := hc
      have hb : (s.data.toList[k]?.getD 0) = c := by rw [← byte_at hlt]; exact hc
      have n0 : (0 : Int) ≤ k := by omega
      have n1 : (k : Int) < s.size := by omega
      have g5 : IntKind.i64.wrap ((k : Int) + 1) = (k : Int) + 1 := IntWalk.i64_in _ (by omega)
      have hyes := Lib.hid (fun h => legalTo_succ (c := c) hl hb h)
      have hno := Lib.hid (fun h => legalM_not hlt (by rw [hb]; exact h))
      have split : (97 ≤ (c.toNat : Int) ∧ (c.toNat : Int) ≤ 122) ∨ (((97 ≤ (c.toNat : Int) ∧ ¬ (c.toNat : Int) ≤ 122) ∨ ¬ 97 ≤ (c.toNat : Int)) ∧ (((k : Int) = 0) ∨ (¬ (k : Int) = 0 ∧ ((c.toNat : Int) = 45 ∨ (¬ (c.toNat : Int) = 45 ∧ ((c.toNat : Int) < 48 ∨ (¬ (c.toNat : Int) < 48 ∧ (57 < (c.toNat : Int) ∨ ¬ 57 < (c.toNat : Int))))))))) := by omega
      clear hl hb
      rcases Nat.eq_zero_or_pos k with rfl | hk0
      · replace split : (97 ≤ (c.toNat : Int) ∧ (c.toNat : Int) ≤ 122) ∨ ((97 ≤ (c.toNat : Int) ∧ ¬ (c.toNat : Int) ≤ 122) ∨ ¬ 97 ≤ (c.toNat : Int)) := by omega
        rcases split with ⟨a1, a2⟩ | ⟨a1, a2⟩ | a1
        all_goals
          go_wp2
          all_goals first
            | (go_round
               case rel => exact ⟨1, by omega, by simp, hyes.out (by simp only [legalAt, letterB, Bool.or_eq_true, Bool.and_eq_true, decide_eq_true_eq, beq_iff_eq, bne_iff_ne, ne_eq]; omega)⟩
               case measure => simp [intOf]; omega)
            | (go_ret; exact ⟨congrArg (fun b => Ending.returned (.bool b)) (hno.out (by rw [Bool.eq_false_iff]; simp only [legalAt, letterB, Bool.or_eq_true, Bool.and_eq_true, decide_eq_true_eq, beq_iff_eq, bne_iff_ne, ne_eq, not_true_eq_false, false_and, or_false]; omega)).symm, rfl⟩)
      · have n2 : ¬ (k : Int) = 0 := by omega
        replace split : (97 ≤ (c.toNat : Int) ∧ (c.toNat : Int) ≤ 122) ∨ (((97 ≤ (c.toNat : Int) ∧ ¬ (c.toNat : Int) ≤ 122) ∨ ¬ 97 ≤ (c.toNat : Int)) ∧ ((c.toNat : Int) = 45 ∨ (¬ (c.toNat : Int) = 45 ∧ ((c.toNat : Int) < 48 ∨ (¬ (c.toNat : Int) < 48 ∧ (57 < (c.toNat : Int) ∨ ¬ 57 < (c.toNat : Int))))))) := by omega
        rcases split with ⟨a1, a2⟩ | ⟨⟨a1, a2⟩ | a1, a4 | ⟨a4, a5 | ⟨a5, a6 | a6⟩⟩⟩
        all_goals
          go_wp2
          all_goals first
            | (go_ret; exact ⟨congrArg (fun b => Ending.returned (.bool b)) (hno.out (by rw [Bool.eq_false_iff]; simp only [legalAt, letterB, Bool.or_eq_true, Bool.and_eq_true, decide_eq_true_eq, beq_iff_eq, bne_iff_ne, ne_eq]; omega)).symm, rfl⟩)
            | (go_round
               case rel => exact ⟨k + 1, by omega, by simp, hyes.out (by simp only [legalAt, letterB, Bool.or_eq_true, Bool.and_eq_true, decide_eq_true_eq, beq_iff_eq, bne_iff_ne, ne_eq]; omega)⟩
               case measure => simp [intOf]; omega)
            | (exfalso; simp_all; try omega)
    · obtain rfl : k = s.size := by omega
      have e := legalM_all (by omega) (by omega) hl
      go_wp2
      go_ret
      exact ⟨rfl, rfl⟩
end
end Go.Proofs.YtogcikilphakmaaGreatDoor

/-
  Package code: rowOf, kindOf. Every number, every string.
-/
namespace Go.Proofs.YtogcikilphakmaaGreatDoor
open Go.RowKit Spl

def rowW (k : Int) : ByteArray :=
  if k = 1 then ⟨#[108, 111, 99, 107]⟩ else if k = 2 then ⟨#[117, 110, 108, 111, 99, 107]⟩ else if k = 3 then ⟨#[112, 117, 115, 104]⟩ else if k = 4 then ⟨#[112, 111, 112]⟩
  else if k = 5 then ⟨#[119, 111, 114, 107]⟩ else if k = 6 then ⟨#[108, 111, 97, 100]⟩ else if k = 7 then ⟨#[115, 116, 111, 114, 101]⟩ else if k = 8 then ⟨#[97, 100, 100]⟩
  else if k = 9 then ⟨#[102, 105, 110, 105, 115, 104]⟩ else if k = 10 then ⟨#[114, 101, 112, 101, 97, 116]⟩ else if k = 11 then ⟨#[125]⟩ else ⟨#[]⟩
def rowHas (k : Int) : Int :=
  if k = 1 then 1 else if k = 2 then 2 else if k = 3 then 3 else if k = 4 then 0 else if k = 5 then 4 else if k = 6 then 2 else if k = 7 then 2 else if k = 8 then 0 else if k = 9 then 0 else if k = 10 then 4 else 0
def rowC12 : Array Value := #[.string ⟨#[]⟩, .int .i64 0, .string ⟨#[108, 111, 99, 107]⟩, .int .i64 1, .string ⟨#[117, 110, 108, 111, 99, 107]⟩, .int .i64 2, .string ⟨#[112, 117, 115, 104]⟩, .int .i64 3, .string ⟨#[112, 111, 112]⟩, .int .i64 0, .string ⟨#[119, 111, 114, 107]⟩, .int .i64 4, .string ⟨#[108, 111, 97, 100]⟩, .int .i64 2, .string ⟨#[115, 116, 111, 114, 101]⟩, .int .i64 2, .string ⟨#[97, 100, 100]⟩, .int .i64 0, .string ⟨#[102, 105, 110, 105, 115, 104]⟩, .int .i64 0, .string ⟨#[114, 101, 112, 101, 97, 116]⟩, .int .i64 4, .string ⟨#[125]⟩, .int .i64 0]
def rowZ12 : Array Value := #[.string ⟨#[]⟩, .int .i64 0, .string ⟨#[]⟩, .int .i64 0, .string ⟨#[]⟩, .int .i64 0, .string ⟨#[]⟩, .int .i64 0, .string ⟨#[]⟩, .int .i64 0, .string ⟨#[]⟩, .int .i64 0, .string ⟨#[]⟩, .int .i64 0, .string ⟨#[]⟩, .int .i64 0, .string ⟨#[]⟩, .int .i64 0, .string ⟨#[]⟩, .int .i64 0, .string ⟨#[]⟩, .int .i64 0, .string ⟨#[]⟩, .int .i64 0]
theorem rowC12_at {n : Nat} (h1 : 1 ≤ n) (h2 : n ≤ 11) : rowC12[n * 2]? = some (.string (rowW n)) ∧ rowC12[n * 2 + 1]? = some (.int .i64 (rowHas n)) := by
  have hk2 : n = 1 ∨ n = 2 ∨ n = 3 ∨ n = 4 ∨ n = 5 ∨ n = 6 ∨ n = 7 ∨ n = 8 ∨ n = 9 ∨ n = 10 ∨ n = 11 := by omega
  rcases hk2 with rfl | rfl | rfl | rfl | rfl | rfl | rfl | rfl | rfl | rfl | rfl <;> exact ⟨rfl, rfl⟩
section
variable {w0 w : World} {R : List Pr}

set_option maxRecDepth 20000 in
set_option maxHeartbeats 1600000 in
theorem cdRowOf (H : Hd w0 R w) (k : Int) : Calls Tryz.prog 145 #[.int .i64 k] w fun e w' => e = .returned (.tuple #[.agg #[.string (rowW k), .int .i64 (rowHas k)], .bool (decide (1 ≤ k ∧ k ≤ 11))]) ∧ Hd w0 R w' := by
  obtain ⟨C, hC⟩ : ∃ C : Array Value, rowC12 = C := ⟨_, rfl⟩
  obtain ⟨Z, hZ⟩ : ∃ Z : Array Value, rowZ12 = Z := ⟨_, rfl⟩
  have hZc : (Value.agg Z).cells = Z := rfl
  have hC1 := Lib.hid (show C.all (·.oneCell') = true by rw [← hC]; simp [rowC12, Value.oneCell'])
  have hC2 := Lib.hid (show C.size = 24 by rw [← hC]; rfl)
  have hC3 := Lib.hid (show Z.size = 24 by rw [← hZ]; rfl)
  have hC4 : ∀ {n : Nat}, 1 ≤ n → n ≤ 11 → C[n * 2]? = some (.string (rowW n)) ∧ C[n * 2 + 1]? = some (.int .i64 (rowHas n)) := fun h1 h2 => by rw [← hC]; exact rowC12_at h1 h2
  replace hC4 : Hid (∀ n : Nat, 1 ≤ n → n ≤ 11 → C[n * 2]? = some (.string (rowW n)) ∧ C[n * 2 + 1]? = some (.int .i64 (rowHas n))) := Lib.hid (fun n => hC4)
  have HA : Hd w0 _ ((w.alloc (.cells #[.string ⟨#[]⟩, .int .i64 0] 270)).alloc (.cells Z 290)) := H.fol
  replace hC := Lib.hid hC
  replace hZ := Lib.hid hZ
  by_cases hk : 1 ≤ k ∧ k ≤ 11
  · obtain ⟨n, rfl⟩ : ∃ n : Nat, k = n := ⟨k.toNat, by omega⟩
    have hn1 : ¬ (n : Int) < 1 := by omega
    have hn2 : ¬ (11 : Int) < n := by omega
    have hn3 : (n : Int) < 12 := by omega
    have hn4 : (0 : Int) ≤ n := by omega
    have e3 : decide (1 ≤ (n : Int) ∧ (n : Int) ≤ 11) = true := by simp; omega
    have hat := Lib.hid (hC4.out n (by omega) (by omega))
    rw [e3]
    clear hk e3 hC4
    go_enter Tryz.func145, Tryz.ntmps145
    go_wp2_with (first
          | (refine wpList_build_row rfl 290 _ rfl C (by rw [← hC.out]; kernel_rfl) ?_)
          | (refine wpList_alloc_row rfl 290 rfl (.agg Z) (by rw [← hZ.out]; kernel_rfl) ?_; refine wpList_store_all (cells := C) (HA.k (w.heap.size + 1)) rfl 290 _ _ rfl rfl rfl (by rw [hC2.out]; kernel_rfl) (hC3.out.trans hC2.out.symm) hC1.out ?_; intro w1 H1; have hf := H1.facts; simp only [Nat.reduceAdd] at hf; go_split_ands; have u1 := (H1.k (w.heap.size + 1)).ce (n * 2) hat.out.1; have u2 := (H1.k (w.heap.size + 1)).ce (n * 2 + 1) hat.out.2))
    (try simp only [Exit.inBlock, Exit.then])
    refine bodyPost_ret (results_row_tmp rfl _ _ w.heap.size 270 #[.string (rowW n), .int .i64 (rowHas n)] (0, 0) _ rfl (by exact ((Hd.fol H1 : Hd w0 _ _).k w.heap.size).heap) Tryz.underlying270 rfl (by kernel_rfl)) rfl ⟨rfl, Hd.fin H1⟩
  · have n : ∀ j : Int, 1 ≤ j → j ≤ 11 → ¬ k = j := fun j h1 h2 h3 => hk ⟨by omega, by omega⟩
    have e1 : rowW k = ⟨#[]⟩ := by simp only [rowW, n 1 (by decide) (by decide), n 2 (by decide) (by decide), n 3 (by decide) (by decide), n 4 (by decide) (by decide), n 5 (by decide) (by decide), n 6 (by decide) (by decide), n 7 (by decide) (by decide), n 8 (by decide) (by decide), n 9 (by decide) (by decide), n 10 (by decide) (by decide), n 11 (by decide) (by decide), if_false]
    have e2 : rowHas k = 0 := by simp only [rowHas, n 1 (by decide) (by decide), n 2 (by decide) (by decide), n 3 (by decide) (by decide), n 4 (by decide) (by decide), n 5 (by decide) (by decide), n 6 (by decide) (by decide), n 7 (by decide) (by decide), n 8 (by decide) (by decide), n 9 (by decide) (by decide), n 10 (by decide) (by decide), if_false]
    clear n
    have e3 : decide (1 ≤ k ∧ k ≤ 11) = false := by simp; omega
    rw [e1, e2, e3]
    have hk2 : k < 1 ∨ (¬ k < 1 ∧ 11 < k) := by omega
    clear e1 e2 e3 hk hC4
    rcases hk2 with h | ⟨h, h2⟩
    all_goals
      go_enter Tryz.func145, Tryz.ntmps145
      go_wp2_with (first
            | (refine wpList_build_row rfl 290 _ rfl C (by rw [← hC.out]; kernel_rfl) ?_)
            | (refine wpList_alloc_row rfl 290 rfl (.agg Z) (by rw [← hZ.out]; kernel_rfl) ?_; refine wpList_store_all (cells := C) (HA.k (w.heap.size + 1)) rfl 290 _ _ rfl rfl rfl (by rw [hC2.out]; kernel_rfl) (hC3.out.trans hC2.out.symm) hC1.out ?_; intro w1 H1; have hf := H1.facts; simp only [Nat.reduceAdd] at hf; go_split_ands))
      (try simp only [Exit.inBlock, Exit.then])
      refine bodyPost_ret (results_row_tmp rfl _ _ w.heap.size 270 #[.string ⟨#[]⟩, .int .i64 0] (0, 0) _ rfl (by exact ((Hd.fol H1 : Hd w0 _ _).k w.heap.size).heap) Tryz.underlying270 rfl (by kernel_rfl)) rfl ⟨rfl, Hd.fin H1⟩
end
end Go.Proofs.YtogcikilphakmaaGreatDoor

/-
  Package code: kindOf. Every string.
-/
namespace Go.Proofs.YtogcikilphakmaaGreatDoor
open Go.RowKit Spl

def kindM (s : ByteArray) : Int := match (List.range 11).find? fun i : Nat => (rowW ((i : Int) + 1)).toList == s.toList with
  | some i => (i : Int) + 1
  | none => 0
theorem find_first {p : Nat → Bool} {n k : Nat} (hk : k < n) (h : ∀ j, j < k → p j = false) (hp : p k = true) : (List.range n).find? p = some k := by
  rw [List.find?_eq_some_iff_append]
  refine ⟨hp, List.range k, (List.range n).drop (k + 1), ?_, fun a ha => by simp [h a (List.mem_range.1 ha)]⟩
  have e : List.range n = (List.range n).take k ++ (List.range n).drop k := (List.take_append_drop _ _).symm
  have e2 : (List.range n).drop k = k :: (List.range n).drop (k + 1) := by
    rw [List.drop_eq_getElem_cons (by simpa using hk)]; simp
  have e3 : (List.range n).take k = List.range k := by rw [List.take_range, Nat.min_eq_left (by omega)]
  rw [e3, e2] at e
  exact e
theorem kindM_hit {s : ByteArray} {k : Nat} (hk : k < 11) (h : ∀ j : Nat, j < k → ((rowW ((j : Int) + 1)).toList == s.toList) = false) (hp : ((rowW ((k : Int) + 1)).toList == s.toList) = true) : kindM s = (k : Int) + 1 := by
  unfold kindM; rw [find_first (p := fun i : Nat => (rowW ((i : Int) + 1)).toList == s.toList) hk h hp]
theorem kindM_miss {s : ByteArray} (h : ∀ j : Nat, j < 11 → ((rowW ((j : Int) + 1)).toList == s.toList) = false) : kindM s = 0 := by
  unfold kindM
  have : (List.range 11).find? (fun i : Nat => (rowW ((i : Int) + 1)).toList == s.toList) = none := by
    rw [List.find?_eq_none]
    intro x hx
    rw [h x (List.mem_range.1 hx)]; simp
  rw [this]
section
variable {w0 w : World} {R : List Pr}

set_option maxRecDepth 20000 in
set_option maxHeartbeats 1600000 in
theorem cdKindOf (H : Hd w0 R w) (s : ByteArray) : Calls Tryz.prog 114 #[.string s] w fun e w' => e = .returned (.int .i64 (kindM s)) ∧ Hd w0 R w' := by
  go_enter Tryz.func114, Tryz.ntmps114
  go_wp2_with fail
  go_loopw [3] (fun i wr => ∃ k : Nat, k ≤ 11 ∧ i = .int .i64 ((k : Int) + 1) ∧ (∀ j : Nat, j < k → ((rowW ((j : Int) + 1)).toList == s.toList) = false) ∧ Hd w0 R wr) (fun i _ => 12 - (intOf i).toNat)
  case atStart => exact ⟨0, by omega, rfl, fun j h => absurd h (Nat.not_lt_zero _), H⟩
  case round =>
    obtain ⟨k, hk, rfl, hno, H1⟩ := hrel
    by_cases hlt : k < 11
    · have hcall := cdRowOf H1 ((k : Int) + 1)
      have e1 : decide (1 ≤ (k : Int) + 1 ∧ (k : Int) + 1 ≤ 11) = true := by simp; omega
      rw [e1] at hcall
      have n1 : (k : Int) + 1 ≤ 11 := by omega
      have g5 : IntKind.i64.wrap ((k : Int) + 1 + 1) = (k : Int) + 1 + 1 := IntWalk.i64_in _ (by omega)
      obtain ⟨W, hW⟩ : ∃ W, rowW ((k : Int) + 1) = W := ⟨_, rfl⟩
      rw [hW] at hcall
      replace hno := Lib.hid hno
      cases hb : (W.toList == s.toList) with
      | true =>
        have hK := Lib.hid (kindM_hit hlt hno.out (by rw [hW]; exact hb))
        clear hno hlt hk e1 H1 H
        go_wp2_with fail
        refine hcall.mono ?_
        rintro e w1 ⟨rfl, H2⟩
        clear hcall
        have HA : Hd w0 _ (w1.alloc (.cells #[.string W, .int .i64 (rowHas ((k : Int) + 1))] 270)) := H2.fol
        have hf := HA.facts
        simp only [Nat.reduceAdd] at hf
        go_split_ands
        go_wp2_with fail
        go_ret
        exact ⟨ret_int hK.out, HA.re⟩
      | false =>
        have hno2 : ∀ j : Nat, j < k + 1 → ((rowW ((j : Int) + 1)).toList == s.toList) = false := fun j hj => by
          by_cases e : j = k
          · subst e; rw [hW]; exact hb
          · exact hno.out j (by omega)
        replace hno2 := Lib.hid hno2
        clear hno e1 H1 H
        go_wp2_with fail
        refine hcall.mono ?_
        rintro e w1 ⟨rfl, H2⟩
        clear hcall
        have HA : Hd w0 _ (w1.alloc (.cells #[.string W, .int .i64 (rowHas ((k : Int) + 1))] 270)) := H2.fol
        have hf := HA.facts
        simp only [Nat.reduceAdd] at hf
        go_split_ands
        go_wp2_with fail
        go_roundw
        case rel => exact ⟨k + 1, by omega, by simp, hno2.out, HA.re⟩
        case measure => simp [intOf]; omega
    · obtain rfl : k = 11 := by omega
      have hK := kindM_miss hno
      clear hno
      go_wp2_with fail
      go_ret
      exact ⟨ret_int hK, H1⟩
end
end Go.Proofs.YtogcikilphakmaaGreatDoor

/-
  Package code: fields. Every operation.
-/
namespace Go.Proofs.YtogcikilphakmaaGreatDoor
open Go.RowKit Spl

def fieldsM (o : OpM) : Bool :=
  if ¬ (1 ≤ o.kind ∧ o.kind ≤ 11) then false
  else if rowHas o.kind = 1 then (decide (0 ≤ o.res) && decide (o.res < 16)) && decide (1 ≤ o.n) && decide (o.n ≤ 255) && decide (o.v = 0)
  else if rowHas o.kind = 2 then (decide (0 ≤ o.res) && decide (o.res < 16)) && decide (o.n = 0) && decide (o.v = 0)
  else if rowHas o.kind = 3 then decide (o.res = 0) && decide (o.n = 0)
  else if rowHas o.kind = 4 then decide (o.res = 0) && decide (1 ≤ o.n) && decide (o.n ≤ 4096) && decide (o.v = 0)
  else decide (o.res = 0) && decide (o.n = 0) && decide (o.v = 0)
section
variable {w0 w : World} {R : List Pr}

set_option maxRecDepth 20000 in
set_option maxHeartbeats 1600000 in
theorem cdFields (H : Hd w0 R w) (o : OpM) : Calls Tryz.prog 172 #[.agg #[.int .i64 o.kind, .int .i64 o.res, .int .i64 o.n, .int .i64 o.v]] w fun e w' => e = .returned (.bool (fieldsM o)) ∧ Hd w0 R w' := by
  obtain ⟨k, r, n, v⟩ := o
  have HB : Hd w0 _ (w.alloc (.cells #[.int .i64 k, .int .i64 r, .int .i64 n, .int .i64 v] 39)) := H.fol
  have hcall := cdRowOf HB k
  obtain ⟨W, hW⟩ : ∃ W, rowW k = W := ⟨_, rfl⟩
  obtain ⟨h, hh⟩ : ∃ h, rowHas k = h := ⟨_, rfl⟩
  have hF : fieldsM ⟨k, r, n, v⟩ = (if ¬ (1 ≤ k ∧ k ≤ 11) then false
    else if h = 1 then (decide (0 ≤ r) && decide (r < 16)) && decide (1 ≤ n) && decide (n ≤ 255) && decide (v = 0)
    else if h = 2 then (decide (0 ≤ r) && decide (r < 16)) && decide (n = 0) && decide (v = 0)
    else if h = 3 then decide (r = 0) && decide (n = 0)
    else if h = 4 then decide (r = 0) && decide (1 ≤ n) && decide (n ≤ 4096) && decide (v = 0)
    else decide (r = 0) && decide (n = 0) && decide (v = 0)) := by unfold fieldsM; rw [hh]
  rw [hF]
  rw [hW, hh] at hcall
  clear hF hW hh HB
  by_cases hk : 1 ≤ k ∧ k ≤ 11
  · rw [if_neg (by simpa using hk)]
    rw [show decide (1 ≤ k ∧ k ≤ 11) = true by simpa using hk] at hcall
    clear hk
    have hs : h = 1 ∨ (¬ h = 1 ∧ (h = 2 ∨ (¬ h = 2 ∧ (h = 3 ∨ (¬ h = 3 ∧ (h = 4 ∨ ¬ h = 4)))))) := by omega
    go_enter Tryz.func172, Tryz.ntmps172
    go_wp2_with fail
    refine hcall.mono ?_
    rintro e w1 ⟨rfl, H2⟩
    clear hcall
    have HA : Hd w0 _ (w1.alloc (.cells #[.string W, .int .i64 h] 270)) := H2.fol
    have hf := HA.facts
    simp only [Nat.reduceAdd] at hf
    go_split_ands
    rcases hs with h1 | ⟨h1, h2 | ⟨h2, h3 | ⟨h3, h4 | h4⟩⟩⟩
    · subst h1
      go_wp2_with fail
      all_goals (go_ret; exact ⟨ret_bool (by first | rfl | (simp; done) | (simp; omega)), HA.re⟩)
    · subst h2
      go_wp2_with fail
      all_goals (go_ret; exact ⟨ret_bool (by first | rfl | (simp; done) | (simp; omega)), HA.re⟩)
    · subst h3
      go_wp2_with fail
      all_goals (go_ret; exact ⟨ret_bool (by first | rfl | (simp; done) | (simp; omega)), HA.re⟩)
    · subst h4
      go_wp2_with fail
      all_goals (go_ret; exact ⟨ret_bool (by first | rfl | (simp; done) | (simp; omega)), HA.re⟩)
    · go_wp2_with fail
      all_goals (go_ret; exact ⟨ret_bool (by first | rfl | (simp; done) | (simp; omega)), HA.re⟩)
  · rw [if_pos hk]
    rw [show decide (1 ≤ k ∧ k ≤ 11) = false by simpa using hk] at hcall
    clear hk
    go_enter Tryz.func172, Tryz.ntmps172
    go_wp2_with fail
    refine hcall.mono ?_
    rintro e w1 ⟨rfl, H2⟩
    clear hcall
    have HA : Hd w0 _ (w1.alloc (.cells #[.string W, .int .i64 h] 270)) := H2.fol
    have hf := HA.facts
    simp only [Nat.reduceAdd] at hf
    go_split_ands
    go_wp2_with fail
    all_goals (go_ret; exact ⟨ret_bool (by first | rfl | (simp; done) | (simp; omega)), HA.re⟩)
end
end Go.Proofs.YtogcikilphakmaaGreatDoor
