/-
  Package release over the separation logic: a clock in memory; New, Now, of, Ready, Note, Last, Next. Every clock.
-/
import Derived.Test.YtdppdmmcnlmdgaaRel1
import Derived.Test.YtdppdmmcnlmdgaaRelM
namespace Go.Proofs.Ytdppdmmcnlmdgaa
open Go.RowKit Spl

def Pat.cells (p : Pat) : Array Value := #[.int .i64 p.period, .int .i64 p.gap, .int .i64 p.due, .int .i64 p.last, .bool p.has]
def patB (b : Nat) (p : Pat) : Pr := cel b 74 p.cells
/-- A clock at block c. -/
def Clock (c : Nat) (m : Clk) : Pr := ex fun va : Value × List Nat => all [fact (va.2.length = m.l.length), cel c 69 #[.int .i64 m.now, va.1], Slc 70 1 va.1 m.l.length (va.2.map pp), all (List.zipWith patB va.2 m.l)]

section
variable {w0 w : World} {R : List Pr} {c : Nat} {m : Clk}
theorem Clock.opened (H : Hd w0 (Clock c m :: R) w) : ∃ v bs, bs.length = m.l.length ∧
    Hd w0 (cel c 69 #[.int .i64 m.now, v] :: Slc 70 1 v m.l.length (bs.map pp) :: all (List.zipWith patB bs m.l) :: R) w := by
  obtain ⟨⟨v, bs⟩, H⟩ := H.out
  have H2 := H.flat
  exact ⟨v, bs, Hd.get H2, H2.tail⟩
theorem Clock.shut {v : Value} {bs : List Nat} (H : Hd w0 (cel c 69 #[.int .i64 m.now, v] :: Slc 70 1 v m.l.length (bs.map pp) :: all (List.zipWith patB bs m.l) :: R) w) (h : bs.length = m.l.length) :
    Hd w0 (Clock c m :: R) w := Hd.into (v, bs) (Hd.pack (L := [_, _, _, _]) (H.put h))

theorem clkNew (H : Hd w0 R w) : Calls Try.prog 8 #[] w fun e w' => ∃ c, e = .returned (pp c) ∧ Hd w0 (Clock c ⟨0, []⟩ :: R) w' := by
  go_enter Try.func8, Try.ntmps8
  go_wp2
  go_ret
  refine ⟨_, rfl, Clock.shut (v := .slice none 0 0) (bs := []) ?_ rfl⟩
  exact (((H.alloc (.cells #[.int .i64 0, .slice none 0 0] 69)).all_nil).slc_nil _ 1).b3
theorem clkNow (H : Hd w0 (Clock c m :: R) w) : Calls Try.prog 12 #[pp c] w fun e w' => e = .returned (.int .i64 m.now) ∧ w = w' := by
  obtain ⟨v, bs, hl, H1⟩ := Clock.opened H
  have c0 := H1.rd 0
  unfold pp
  clear H H1
  go_enter Try.func12, Try.ntmps12
  go_wp2
  go_ret
  exact ⟨rfl, rfl⟩

theorem clkOf_in {v : Value} {bs : List Nat} {n : Int} {k : Nat} (H : Hd w0 (cel c 69 #[.int .i64 n, v] :: Slc 70 1 v k (bs.map pp) :: R) w) (hk : k ≤ 1000) (i b : Nat) (hb : bs[i]? = some b) :
    Calls Try.prog 31 #[pp c, .int .i64 i] w fun e w' => e = .returned (pp b) ∧ w = w' := by
  have hcall := patAt_in (o := 1) H rfl (by omega) i b (by simp [hb])
  unfold pp at hcall ⊢
  go_enter Try.func31, Try.ntmps31
  go_wp2_with (go_at_call 38; refine hcall.mono ?_; rintro e w' ⟨rfl, rfl⟩)
  go_ret
  exact ⟨rfl, rfl⟩
theorem clkOf_out {v : Value} {bs : List Nat} {n : Int} {k : Nat} (H : Hd w0 (cel c 69 #[.int .i64 n, v] :: Slc 70 1 v k (bs.map pp) :: R) w) (i : Int) (hb : i < 0 ∨ k ≤ i) :
    Calls Try.prog 31 #[pp c, .int .i64 i] w fun e w' => e = .returned (.pointer none) ∧ w = w' := by
  have hcall := patAt_out (o := 1) H rfl i hb
  unfold pp
  go_enter Try.func31, Try.ntmps31
  go_wp2_with (go_at_call 38; refine hcall.mono ?_; rintro e w' ⟨rfl, rfl⟩)
  go_ret
  exact ⟨rfl, rfl⟩
end
end Go.Proofs.Ytdppdmmcnlmdgaa
