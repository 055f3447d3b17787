/-
  shows of chapter 10: true, where the clocks are alike.
-/
import Derived.Test.YtdppdmmcnlmdgaaRef10e
import Derived.Test.YtdppdmmcnlmdgaaRel3
import Derived.Deep.RegionHeld3
namespace Go.Proofs.Ytdppdmmcnlmdgaa
open Go.RowKit Spl
section
variable {w0 w : World} {R : List Pr} {c d : Nat} {m : Clk} {q : RClk}

set_option maxHeartbeats 2000000 in
theorem showsSpec (H : Hd w0 (Clock c m :: RClock d q :: R) w) (hr : RelC m q) (hm : m.Ok) (id : Int) :
    Calls Try.prog 24 #[pp c, pp d, .int .i64 id] w fun e w' => e = .returned (.bool true) ∧ Hd w0 (Clock c m :: RClock d q :: R) w' := by
  have hq := hr.ok hm
  have k1 := clkLast H hm id
  have k2 := refLast H.b2 hq id
  have k3 := clkNext H hm id
  have k4 := refNext H.b2 hq id
  rw [hr.last_eq] at k2
  rw [hr.next_eq] at k4
  have k5 := fun {w : World} (H : Hd w0 (Clock c m :: RClock d q :: R) w) => clkNow H
  have k6 := fun {w : World} (H : Hd w0 (Clock c m :: RClock d q :: R) w) => clkReady H hm id
  have k7 := fun {w : World} (H : Hd w0 (RClock d q :: Clock c m :: R) w) => refReady H hq id
  simp only [hr.ready_eq] at k7
  have ht : ∀ {w : World}, Hd w0 (Clock c m :: RClock d q :: R) w → w.cell? ⟨d, 0, none⟩ = some (.int .i64 m.now) := by
    intro w H
    obtain ⟨v, H1⟩ := RClock.opened H.b2
    rw [hr.1]
    exact H1.rd 0
  generalize (m.last id).1 = x1 at k1 k2
  generalize (m.last id).2 = x2 at k1 k2
  generalize (m.next id).1 = x3 at k3 k4
  generalize (m.next id).2 = x4 at k3 k4
  generalize m.ready id = x5 at k6 k7
  clear hr hm hq
  unfold pp at *
  go_enter Try.func24, Try.ntmps24
  go_wp2_with (first | (go_at_call 15; refine k1.mono ?_; rintro e w' ⟨rfl, rfl⟩; clear k1) | (go_at_call 34; refine k2.mono ?_; rintro e w' ⟨rfl, rfl⟩; clear k2) | (go_at_call 16; refine k3.mono ?_; rintro e w' ⟨rfl, rfl⟩; clear k3) | (go_at_call 35; refine k4.mono ?_; rintro e w2 ⟨rfl, H2⟩; clear k4; have t2 := ht H2.b2))
  have HD := H2.b2.drew
  go_region_held3 (fun w' => w'.cell? ⟨d, 0, none⟩ = some (.int .i64 m.now)) (go_keep)
    (first | (go_at_call 12; refine (k5 HD).mono ?_; rintro e w3 ⟨rfl, rfl⟩) | (go_at_call 13; refine (k6 HD).mono ?_; rintro e w4 ⟨rfl, H4⟩; have t4 := ht H4) | (go_at_call 22; refine (k7 H4.b2).mono ?_; rintro e w5 ⟨rfl, H5⟩; have t5 := ht H5.b2))
  go_wp2_with fail
  go_ret
  exact ⟨rfl, H5.b2⟩
end
end Go.Proofs.Ytdppdmmcnlmdgaa
