/-
  Package release over the separation logic: times, Add. Every clock, every task.
-/
import Derived.Test.YtdppdmmcnlmdgaaRel3
import Derived.Deep.RegionHeld3
namespace Go.Proofs.Ytdppdmmcnlmdgaa
open Go.RowKit Spl

/-- A task's value: the fields that release doesn't look at, and the three that it does. -/
def taskV (nm lv fr nd cd : Value) (p f g : Int) : Value := .agg #[nm, lv, fr, nd, cd, .int .i64 p, .int .i64 f, .int .i64 g]

def TimesTo (p f g : Int) (k : Nat) : Prop := k = 0 ∨ (k = 1 ∧ 0 ≤ p ∧ p ≤ 1048576) ∨ (k = 2 ∧ 0 ≤ p ∧ p ≤ 1048576 ∧ 0 ≤ f ∧ f ≤ 1048576) ∨ (k = 3 ∧ 0 ≤ p ∧ p ≤ 1048576 ∧ 0 ≤ f ∧ f ≤ 1048576 ∧ 0 ≤ g ∧ g ≤ 1048576)
theorem times_no {p f g : Int} (h : ¬ ((0 ≤ p ∧ p ≤ 1048576) ∧ (0 ≤ f ∧ f ≤ 1048576) ∧ (0 ≤ g ∧ g ≤ 1048576))) : timesOk p f g = false := by
  cases e : timesOk p f g with
  | false => rfl
  | true => have := timesOk_iff.1 e; exact absurd ⟨this.1, this.2.1, this.2.2.1⟩ h
theorem times_last {p f g : Int} (h1 : 0 ≤ p) (h2 : p ≤ 1048576) (h3 : 0 ≤ f) (h4 : f ≤ 1048576) (h5 : 0 ≤ g) (h6 : g ≤ 1048576) :
    timesOk p f g = ((decide (p = 0) || decide (g = 0)) && (decide (0 < p) == decide (0 < f))) := by
  simp [timesOk, tOk, h1, h2, h3, h4, h5, h6]
section
variable {w0 w : World} {R : List Pr} {c : Nat} {m : Clk}

set_option maxHeartbeats 400000 in
theorem relTimes (H : Hd w0 R w) (nm lv fr nd cd : Value) (p f g : Int) :
    Calls Try.prog 28 #[taskV nm lv fr nd cd p f g] w fun e w' => e = .returned (.bool (timesOk p f g)) ∧ Hd w0 R w' := by
  have i0 : ∀ w, (Instr.index 82 (.agg #[.int .i64 p, .int .i64 f, .int .i64 g]) (.int .i64 0)).run Try.prog w = .ok (.int .i64 p) w := fun _ => by kernel_rfl
  have i1 : ∀ w, (Instr.index 82 (.agg #[.int .i64 p, .int .i64 f, .int .i64 g]) (.int .i64 1)).run Try.prog w = .ok (.int .i64 f) w := fun _ => by kernel_rfl
  have i2 : ∀ w, (Instr.index 82 (.agg #[.int .i64 p, .int .i64 f, .int .i64 g]) (.int .i64 2)).run Try.prog w = .ok (.int .i64 g) w := fun _ => by kernel_rfl
  unfold taskV
  go_enter Try.func28, Try.ntmps28
  go_wp2
  have HA := H.alloc (.cells #[nm, lv, fr, nd, cd, .int .i64 p, .int .i64 f, .int .i64 g] 29)
  go_loop [12] (fun i => ∃ k : Nat, i = .int .i64 k ∧ TimesTo p f g k) (fun i => 3 - (intOf i).toNat)
  case atStart => exact ⟨0, rfl, .inl rfl⟩
  case round =>
    obtain ⟨k, rfl, hk⟩ := hrel
    rcases hk with rfl | ⟨rfl, h1, h2⟩ | ⟨rfl, h1, h2, h3, h4⟩ | ⟨rfl, h1, h2, h3, h4, h5, h6⟩
    · go_wp2
      all_goals first
        | (go_round
           case rel => exact ⟨1, rfl, .inr (.inl ⟨rfl, by omega, by omega⟩)⟩
           case measure => simp [intOf])
        | (go_ret; exact ⟨by rw [times_no (by omega)]; rfl, HA.tail⟩)
    · go_wp2
      all_goals first
        | (go_round
           case rel => exact ⟨2, rfl, .inr (.inr (.inl ⟨rfl, h1, h2, by omega, by omega⟩))⟩
           case measure => simp [intOf])
        | (go_ret; exact ⟨by rw [times_no (by omega)]; rfl, HA.tail⟩)
    · go_wp2
      all_goals first
        | (go_round
           case rel => exact ⟨3, rfl, .inr (.inr (.inr ⟨rfl, h1, h2, h3, h4, by omega, by omega⟩))⟩
           case measure => simp [intOf])
        | (go_ret; exact ⟨by rw [times_no (by omega)]; rfl, HA.tail⟩)
    · have hV := times_last h1 h2 h3 h4 h5 h6
      by_cases e1 : p = 0
      · subst e1
        by_cases e3 : 0 < f
        · have hv : timesOk 0 f g = false := by rw [hV]; simp [e3]
          clear hV
          go_wp2
          go_ret
          exact ⟨by first | rfl | (rw [hv]; rfl), HA.tail⟩
        · have hv : timesOk 0 f g = true := by rw [hV]; simp [e3]
          clear hV
          go_wp2
          go_ret
          exact ⟨by first | rfl | (rw [hv]; rfl), HA.tail⟩
      · have e1' : (p == 0) = false := by simpa using e1
        have e2' : 0 < p := by omega
        by_cases e3 : g = 0
        · subst e3
          by_cases e4 : 0 < f
          · have hv : timesOk p f 0 = true := by rw [hV]; simp [e4, e2']
            clear hV
            go_wp2
            go_ret
            exact ⟨by first | rfl | (rw [hv]; rfl), HA.tail⟩
          · have hv : timesOk p f 0 = false := by rw [hV]; simp [e4, e2']
            clear hV
            go_wp2
            go_ret
            exact ⟨by first | rfl | (rw [hv]; rfl), HA.tail⟩
        · have e3' : (g == 0) = false := by simpa using e3
          have hv : timesOk p f g = false := by rw [hV]; simp [e1, e3]
          clear hV
          go_wp2
          go_ret
          exact ⟨by first | rfl | (rw [hv]; rfl), HA.tail⟩

theorem clkAdd (H : Hd w0 (Clock c m :: R) w) (hm : m.Ok) (nm : ByteArray) (lv fr : Int) (na : Option Addr) (nl nc : Nat) (cd : ByteArray) (p f g : Int) :
    Calls Try.prog 9 #[pp c, taskV (.string nm) (.int .i64 lv) (.int .i64 fr) (.slice na nl nc) (.string cd) p f g] w fun e w' =>
      e = .returned (.tuple #[.int .i64 (m.addN p f g), .int .i64 (m.addE p f g)]) ∧ Hd w0 (Clock c (m.add p f g) :: R) w' := by
  obtain ⟨v, bs, hl, H1⟩ := Clock.opened H
  have hlen := hm.len
  have HB := (H1.alloc (.cells #[.string nm, .int .i64 lv, .int .i64 fr, .slice na nl nc, .string cd, .int .i64 p, .int .i64 f, .int .i64 g] 29)).b2
  have hcall := patLen (o := 1) (HB.d2.d2.b3.b2) rfl
  unfold pp
  by_cases hf : m.full = true
  · have h1 : m.addN p f g = -1 := by simp [Clk.addN, hf]
    have h2 : m.addE p f g = 4 := by simp [Clk.addE, hf]
    have h3 : m.add p f g = m := by simp [Clk.add, hf]
    have h64 : 64 ≤ m.l.length := by simpa [Clk.full] using hf
    rw [h1, h2, h3]
    clear h1 h2 h3 hf
    unfold taskV
    go_enter Try.func9, Try.ntmps9
    go_wp2_with (go_at_call 27; refine hcall.mono ?_; rintro e w' ⟨rfl, rfl⟩)
    go_ret2
    exact ⟨rfl, Clock.shut HB.b2.tail hl⟩
  · have HC : Hd w0 (cel c 69 #[.int .i64 m.now, v] :: Slc 70 1 v m.l.length (bs.map pp) :: pt w.heap.size _ :: _) _ := HB.b3.b2
    have htimes := relTimes HC (.string nm) (.int .i64 lv) (.int .i64 fr) (.slice na nl nc) (.string cd) p f g
    have h64 : m.l.length < 64 := by simpa [Clk.full] using hf
    cases ht : timesOk p f g with
    | false =>
      have h1 : m.addN p f g = -1 := by simp [Clk.addN, hf, ht]
      have h2 : m.addE p f g = 1 := by simp [Clk.addE, hf, ht]
      have h3 : m.add p f g = m := by simp [Clk.add, hf, ht]
      rw [h1, h2, h3]
      rw [ht] at htimes
      clear h1 h2 h3 hf ht
      unfold taskV at htimes ⊢
      go_enter Try.func9, Try.ntmps9
      go_wp2_with (first | (go_at_call 27; refine hcall.mono ?_; rintro e w' ⟨rfl, rfl⟩) | (go_at_call 28; refine htimes.mono ?_; rintro e w1 ⟨rfl, H3⟩))
      go_ret2
      exact ⟨rfl, Clock.shut H3.b3.tail hl⟩
    | true =>
      have h1 : m.addN p f g = m.l.length := by simp [Clk.addN, hf, ht]
      have h2 : m.addE p f g = 0 := by simp [Clk.addE, hf, ht]
      have h3 : m.add p f g = ⟨m.now, m.l ++ [⟨p, g, m.now + f, 0, false⟩]⟩ := by simp [Clk.add, hf, ht]
      obtain ⟨t1, t2, t3, t4, t5⟩ := timesOk_iff.1 ht
      have n0 := hm.n0; have n1 := hm.n1
      rw [h1, h2, h3]
      rw [ht] at htimes
      clear h1 h2 h3 hf ht
      unfold taskV at htimes ⊢
      go_enter Try.func9, Try.ntmps9
      go_wp2_with (first | (go_at_call 27; refine hcall.mono ?_; rintro e w' ⟨rfl, rfl⟩; clear hcall) | (go_at_call 28; refine htimes.mono ?_; rintro e w1 ⟨rfl, H3⟩; clear htimes; have c1 := H3.rd 0; have c2 := H3.b3.rd))
      have HP := ((H3.alloc (.cells #[.int .i64 p, .int .i64 g, .int .i64 (m.now + f), .int .i64 0, .bool false] 74)).drew).d3
      have hs : IntKind.i64.wrap (m.now + f) = m.now + f := IntWalk.i64_in _ (by omega)
      go_region_held3 (fun w' => w'.cell? ⟨c, 0, none⟩ = some (.int .i64 m.now) ∧ w'.cell? ⟨w.heap.size, 5, none⟩ = some (.int .i64 p) ∧ w'.cell? ⟨w.heap.size, 6, none⟩ = some (.int .i64 f) ∧ w'.cell? ⟨w.heap.size, 7, none⟩ = some (.int .i64 g)) (go_keep)
        (first | (go_at_call 29; refine (patPush (o := 1) HP rfl (by omega) _).mono ?_; rintro e w2 ⟨rfl, v', H4⟩; have c3 := H4.rd 0; have c4 := H4.b4.rd))
      clear hs HP
      have hcall2 := patLen (o := 1) H4 rfl
      go_wp2_with (go_at_call 27; refine hcall2.mono ?_; rintro e w' ⟨rfl, rfl⟩)
      go_ret2
      refine ⟨by simp, ?_⟩
      have H5 : Hd w0 (patB w1.heap.size ⟨p, g, m.now + f, 0, false⟩ :: all (List.zipWith patB bs m.l) :: _) _ := H4.b4.tail.b4.b4
      have H6 := (H5.row_snoc hl).d3
      have e1 : (m.l ++ [(⟨p, g, m.now + f, 0, false⟩ : Pat)]).length = m.l.length + 1 := by simp
      have e2 : bs.map pp ++ [pp w1.heap.size] = (bs ++ [w1.heap.size]).map pp := by simp
      rw [e2, ← e1] at H6
      exact Clock.shut (m := ⟨m.now, m.l ++ [⟨p, g, m.now + f, 0, false⟩]⟩) H6 (by simp [hl])
end
end Go.Proofs.Ytdppdmmcnlmdgaa
