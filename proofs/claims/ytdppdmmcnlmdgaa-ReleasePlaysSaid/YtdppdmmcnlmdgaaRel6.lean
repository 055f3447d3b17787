/-
  Package release: its calls with answers reckoned; chapter 10's runs come out true.
-/
import Derived.Test.YtdppdmmcnlmdgaaRel5
import Derived.Test.YtdppdmmcnlmdgaaBook1
namespace Go.Proofs.Ytdppdmmcnlmdgaa
open Go.RowKit Spl

section
variable {w0 w : World} {R : List Pr} {c : Nat} {m m' : Clk}
theorem clkAdd' {n er : Int} (H : Hd w0 (Clock c m :: R) w) (hm : m.Ok) (nm : ByteArray) (lv fr : Int) (na : Option Addr) (nl nc : Nat) (cd : ByteArray) (p f g : Int) (h1 : m.add p f g = m') (h2 : m.addN p f g = n) (h3 : m.addE p f g = er) :
    Calls Try.prog 9 #[.pointer (some ⟨c, 0, none⟩), .agg #[.string nm, .int .i64 lv, .int .i64 fr, .slice na nl nc, .string cd, .int .i64 p, .int .i64 f, .int .i64 g]] w fun e w' =>
      e = .returned (.tuple #[.int .i64 n, .int .i64 er]) ∧ Hd w0 (Clock c m' :: R) w' := by
  subst h1 h2 h3; exact clkAdd H hm nm lv fr na nl nc cd p f g
theorem clkTick' {l : List Int} {er : Int} (H : Hd w0 (Clock c m :: R) w) (hm : m.Ok) (h1 : m.tick = m') (h2 : m.tickL = l) (h3 : m.tickE = er) :
    Calls Try.prog 10 #[.pointer (some ⟨c, 0, none⟩)] w fun e w' => ∃ a, e = .returned (.tuple #[.slice a l.length l.length, .int .i64 er]) ∧
      Hd w0 (Slc 3 1 (.slice a l.length l.length) l.length (ints l) :: Clock c m' :: R) w' := by
  subst h1 h2 h3; exact clkTick H hm
theorem clkReady' {id r : Int} (H : Hd w0 (Clock c m :: R) w) (hm : m.Ok) (h1 : m.ready id = r) :
    Calls Try.prog 13 #[.pointer (some ⟨c, 0, none⟩), .int .i64 id] w fun e w' => e = .returned (.int .i64 r) ∧ Hd w0 (Clock c m :: R) w' := by
  subst h1; exact clkReady H hm id
theorem clkNote' {id r : Int} (H : Hd w0 (Clock c m :: R) w) (hm : m.Ok) (h1 : m.note id = m') (h2 : m.noteE id = r) :
    Calls Try.prog 14 #[.pointer (some ⟨c, 0, none⟩), .int .i64 id] w fun e w' => e = .returned (.int .i64 r) ∧ Hd w0 (Clock c m' :: R) w' := by
  subst h1 h2; exact clkNote H hm id
theorem clkLast' {id r : Int} {b : Bool} (H : Hd w0 (Clock c m :: R) w) (hm : m.Ok) (h1 : m.last id = (r, b)) :
    Calls Try.prog 15 #[.pointer (some ⟨c, 0, none⟩), .int .i64 id] w fun e w' => e = .returned (.tuple #[.int .i64 r, .bool b]) ∧ w = w' := by
  have := clkLast H hm id
  rw [h1] at this
  exact this
theorem clkNext' {id r : Int} {b : Bool} (H : Hd w0 (Clock c m :: R) w) (hm : m.Ok) (h1 : m.next id = (r, b)) :
    Calls Try.prog 16 #[.pointer (some ⟨c, 0, none⟩), .int .i64 id] w fun e w' => e = .returned (.tuple #[.int .i64 r, .bool b]) ∧ w = w' := by
  have := clkNext H hm id
  rw [h1] at this
  exact this
theorem clkNow' (H : Hd w0 (Clock c m :: R) w) : Calls Try.prog 12 #[.pointer (some ⟨c, 0, none⟩)] w fun e w' => e = .returned (.int .i64 m.now) ∧ w = w' := clkNow H
end

/-- The clock of the chapter's runs. -/
def runC (now d l1 : Int) (h1 : Bool) : Clk := ⟨now, [⟨3, 0, d, 0, false⟩, ⟨0, 4, 0, l1, h1⟩, ⟨0, 0, 0, 0, false⟩]⟩
theorem runC_ok (now d l1 : Int) (h1 : Bool) (a : 0 ≤ now) (b : now ≤ 100) (e : now < d) (f : d ≤ 100) (g : 0 ≤ l1) (h : l1 ≤ now) : (runC now d l1 h1).Ok :=
  ⟨a, by show now ≤ _; omega, by show 3 ≤ 64; decide, fun p hp => by
    simp only [runC, List.mem_cons, List.not_mem_nil, or_false] at hp
    rcases hp with rfl | rfl | rfl
    all_goals constructor
    all_goals first | (show (0 : Int) ≤ _; decide) | (simp only [runC]; omega) | (intro _; simp only [runC]; omega) | (intro hh; cases hh)⟩

def RunsTo (w0 : World) (R : List Pr) (c k : Nat) (wr : World) : Prop :=
  (k = 1 ∧ Hd w0 (Clock c (runC 0 2 0 false) :: R) wr) ∨ (k = 2 ∧ Hd w0 (Clock c (runC 1 2 0 false) :: R) wr) ∨ (k = 3 ∧ Hd w0 (Clock c (runC 2 5 0 false) :: R) wr) ∨
  (k = 4 ∧ Hd w0 (Clock c (runC 3 5 0 false) :: R) wr) ∨ (k = 5 ∧ Hd w0 (Clock c (runC 4 5 0 false) :: R) wr) ∨ (k = 6 ∧ Hd w0 (Clock c (runC 5 8 0 false) :: R) wr)

def wrongC : Array Value := #[.string ⟨#[]⟩, .int .i64 0, .int .i64 0, .slice none 0 0, .string ⟨#[]⟩, .int .i64 3, .int .i64 0, .int .i64 0,
  .string ⟨#[]⟩, .int .i64 0, .int .i64 0, .slice none 0 0, .string ⟨#[]⟩, .int .i64 3, .int .i64 1, .int .i64 1,
  .string ⟨#[]⟩, .int .i64 0, .int .i64 0, .slice none 0 0, .string ⟨#[]⟩, .int .i64 0, .int .i64 0, .int .i64 (-1),
  .string ⟨#[]⟩, .int .i64 0, .int .i64 0, .slice none 0 0, .string ⟨#[]⟩, .int .i64 0, .int .i64 1, .int .i64 0,
  .string ⟨#[]⟩, .int .i64 0, .int .i64 0, .slice none 0 0, .string ⟨#[]⟩, .int .i64 1048577, .int .i64 1, .int .i64 0]
def WrongI (w0 : World) (R : List Pr) (c b : Nat) (wr : World) : Prop := Hd w0 (Clock c (runC 9 11 5 true) :: cel b 29 wrongC :: R) wr

section
variable {w0 w : World} {R : List Pr}
set_option maxRecDepth 100000 in
set_option maxHeartbeats 4000000 in
theorem runs_spec (H : Hd w0 R w) : Calls Try.prog 3 #[] w fun e w' => e = .returned (.bool true) ∧ Hd w0 R w' := by
  have o0 : Clk.Ok ⟨0, []⟩ := Clk.Ok.new
  go_enter Try.func3, Try.ntmps3
  go_wp2_with (go_at_call 8; refine (clkNew H).mono ?_; rintro e w1 ⟨c, rfl, H1⟩; clear H; unfold pp)
  go_wp2_with fail
  refine (clkAdd' H1 o0 _ _ _ _ _ _ _ 3 2 0 (m' := ⟨0, [⟨3, 0, 2, 0, false⟩]⟩) (n := 0) (er := 0) rfl rfl rfl).mono ?_
  rintro e w2 ⟨rfl, H2⟩
  have o1 := o0.add 3 2 0
  go_wp2_with fail
  refine (clkAdd' H2 o1 _ _ _ _ _ _ _ 0 0 4 (m' := ⟨0, [⟨3, 0, 2, 0, false⟩, ⟨0, 4, 0, 0, false⟩]⟩) (n := 1) (er := 0) rfl rfl rfl).mono ?_
  rintro e w3 ⟨rfl, H3⟩
  have o2 := o1.add 0 0 4
  go_wp2_with fail
  refine (clkAdd' H3 o2 _ _ _ _ _ _ _ 0 0 0 (m' := runC 0 2 0 false) (n := 2) (er := 0) rfl rfl rfl).mono ?_
  rintro e w4 ⟨rfl, H4⟩
  clear H1 H2 H3 o0 o1 o2
  go_wp2_with fail
  go_loopw [8] (fun i wr => ∃ k : Nat, RunsTo w0 R c k wr ∧ i = .int .i64 k) (fun i _ => 6 - (intOf i).toNat)
  case atStart => exact ⟨1, .inl ⟨rfl, H4⟩, rfl⟩
  case round =>
    obtain ⟨k, hk, rfl⟩ := hrel
    clear H4
    rcases hk with ⟨rfl, HK⟩ | ⟨rfl, HK⟩ | ⟨rfl, HK⟩ | ⟨rfl, HK⟩ | ⟨rfl, HK⟩ | ⟨rfl, HK⟩
    · have ok := runC_ok 0 2 0 false (by decide) (by decide) (by decide) (by decide) (by decide) (by decide)
      go_wp2_with fail
      refine (clkTick' HK ok (m' := runC 1 2 0 false) (l := []) (er := 0) rfl rfl rfl).mono ?_
      rintro e w5 ⟨a, rfl, H5⟩
      clear ok HK
      go_wp2_with fail
      refine (clkNow' (c := c) H5.tail).mono ?_
      rintro e w7 ⟨rfl, rfl⟩
      have en : (runC 1 2 0 false).now = 1 := rfl
      rw [en]
      go_wp2_with fail
      go_roundw
      case rel => exact ⟨2, .inr (.inl ⟨rfl, H5.tail⟩), rfl⟩
      case measure => simp [intOf]
    · have ok := runC_ok 1 2 0 false (by decide) (by decide) (by decide) (by decide) (by decide) (by decide)
      go_wp2_with fail
      refine (clkTick' HK ok (m' := runC 2 5 0 false) (l := [0]) (er := 0) rfl rfl rfl).mono ?_
      rintro e w5 ⟨a, rfl, H5⟩
      clear ok HK
      have q1 := Rds.of_slc (xs := ints [0]) H5 (by decide)
      have q2 : Rds (w5.alloc (.cells #[.int .i64 0] 3)) (.slice (some ⟨w5.heap.size, 0, none⟩) 1 1) (ints [0]) := ⟨_, 1, rfl, by decide, fun _ => ⟨_, 0, rfl, fun j u hj => by
        have := one_new (w := w5) (x := .int .i64 0) (e := 3) rfl j u hj
        simpa [Addr.add_lit] using this⟩⟩
      have q3 : Rds (w5.alloc (.cells #[.int .i64 0] 3)) (.slice a 1 1) (ints [0]) := Rds.of_slc (xs := ints [0]) (H5.alloc _).b2 (by decide)
      go_wp2_with fail
      refine (sameInt q3 q2).mono ?_
      rintro e w6 ⟨rfl, n6, rfl⟩
      have H6 := ((H5.alloc (.cells #[.int .i64 0] 3)).drewN n6).b2.tail.tail
      go_wp2_with fail
      refine (clkNow' H6).mono ?_
      rintro e w7 ⟨rfl, rfl⟩
      have en : (runC 2 5 0 false).now = 2 := rfl
      rw [en]
      go_wp2_with fail
      go_roundw
      case rel => exact ⟨3, .inr (.inr (.inl ⟨rfl, H6⟩)), rfl⟩
      case measure => simp [intOf]
    · have ok := runC_ok 2 5 0 false (by decide) (by decide) (by decide) (by decide) (by decide) (by decide)
      go_wp2_with fail
      refine (clkTick' HK ok (m' := runC 3 5 0 false) (l := []) (er := 0) rfl rfl rfl).mono ?_
      rintro e w5 ⟨a, rfl, H5⟩
      clear ok HK
      go_wp2_with fail
      refine (clkNow' (c := c) H5.tail).mono ?_
      rintro e w7 ⟨rfl, rfl⟩
      have en : (runC 3 5 0 false).now = 3 := rfl
      rw [en]
      go_wp2_with fail
      go_roundw
      case rel => exact ⟨4, .inr (.inr (.inr (.inl ⟨rfl, H5.tail⟩))), rfl⟩
      case measure => simp [intOf]
    · have ok := runC_ok 3 5 0 false (by decide) (by decide) (by decide) (by decide) (by decide) (by decide)
      go_wp2_with fail
      refine (clkTick' HK ok (m' := runC 4 5 0 false) (l := []) (er := 0) rfl rfl rfl).mono ?_
      rintro e w5 ⟨a, rfl, H5⟩
      clear ok HK
      go_wp2_with fail
      refine (clkNow' (c := c) H5.tail).mono ?_
      rintro e w7 ⟨rfl, rfl⟩
      have en : (runC 4 5 0 false).now = 4 := rfl
      rw [en]
      go_wp2_with fail
      go_roundw
      case rel => exact ⟨5, .inr (.inr (.inr (.inr (.inl ⟨rfl, H5.tail⟩)))), rfl⟩
      case measure => simp [intOf]
    · have ok := runC_ok 4 5 0 false (by decide) (by decide) (by decide) (by decide) (by decide) (by decide)
      go_wp2_with fail
      refine (clkTick' HK ok (m' := runC 5 8 0 false) (l := [0]) (er := 0) rfl rfl rfl).mono ?_
      rintro e w5 ⟨a, rfl, H5⟩
      clear ok HK
      have q1 := Rds.of_slc (xs := ints [0]) H5 (by decide)
      have q2 : Rds (w5.alloc (.cells #[.int .i64 0] 3)) (.slice (some ⟨w5.heap.size, 0, none⟩) 1 1) (ints [0]) := ⟨_, 1, rfl, by decide, fun _ => ⟨_, 0, rfl, fun j u hj => by
        have := one_new (w := w5) (x := .int .i64 0) (e := 3) rfl j u hj
        simpa [Addr.add_lit] using this⟩⟩
      have q3 : Rds (w5.alloc (.cells #[.int .i64 0] 3)) (.slice a 1 1) (ints [0]) := Rds.of_slc (xs := ints [0]) (H5.alloc _).b2 (by decide)
      go_wp2_with fail
      refine (sameInt q3 q2).mono ?_
      rintro e w6 ⟨rfl, n6, rfl⟩
      have H6 := ((H5.alloc (.cells #[.int .i64 0] 3)).drewN n6).b2.tail.tail
      go_wp2_with fail
      refine (clkNow' H6).mono ?_
      rintro e w7 ⟨rfl, rfl⟩
      have en : (runC 5 8 0 false).now = 5 := rfl
      rw [en]
      go_wp2_with fail
      go_roundw
      case rel => exact ⟨6, .inr (.inr (.inr (.inr (.inr ⟨rfl, H6⟩)))), rfl⟩
      case measure => simp [intOf]
    · have ok := runC_ok 5 8 0 false (by decide) (by decide) (by decide) (by decide) (by decide) (by decide)
      go_wp2_with fail
      refine (clkReady' HK ok (r := 40) rfl).mono ?_
      rintro e x1 ⟨rfl, A1⟩
      go_wp2_with fail
      refine (clkReady' A1 ok (r := 0) rfl).mono ?_
      rintro e x2 ⟨rfl, A2⟩
      clear A1
      go_wp2_with fail
      refine (clkReady' A2 ok (r := 0) rfl).mono ?_
      rintro e x3 ⟨rfl, A3⟩
      clear A2
      go_wp2_with fail
      refine (clkReady' A3 ok (r := 1) rfl).mono ?_
      rintro e x4 ⟨rfl, A4⟩
      clear A3
      go_wp2_with fail
      refine (clkNote' A4 ok (m' := runC 5 8 5 true) (r := 0) rfl rfl).mono ?_
      rintro e x5 ⟨rfl, A5⟩
      clear A4 ok
      have ok := runC_ok 5 8 5 true (by decide) (by decide) (by decide) (by decide) (by decide) (by decide)
      go_wp2_with fail
      refine (clkNote' A5 ok (m' := runC 5 8 5 true) (r := 1) rfl rfl).mono ?_
      rintro e x6 ⟨rfl, A6⟩
      clear A5
      go_wp2_with fail
      refine (clkTick' A6 ok (m' := runC 6 8 5 true) (l := []) (er := 0) rfl rfl rfl).mono ?_
      rintro e y0 ⟨a0, rfl, B0⟩
      clear ok A6
      have ok := runC_ok 6 8 5 true (by decide) (by decide) (by decide) (by decide) (by decide) (by decide)
      go_wp2_with fail
      refine (clkTick' B0.tail ok (m' := runC 7 8 5 true) (l := []) (er := 0) rfl rfl rfl).mono ?_
      rintro e y1 ⟨a1, rfl, B1⟩
      clear ok B0
      have ok := runC_ok 7 8 5 true (by decide) (by decide) (by decide) (by decide) (by decide) (by decide)
      go_wp2_with fail
      refine (clkTick' B1.tail ok (m' := runC 8 11 5 true) (l := [0]) (er := 0) rfl rfl rfl).mono ?_
      rintro e y2 ⟨a2, rfl, B2⟩
      clear ok B1
      have ok := runC_ok 8 11 5 true (by decide) (by decide) (by decide) (by decide) (by decide) (by decide)
      go_wp2_with fail
      refine (clkReady' B2.tail ok (r := 41) rfl).mono ?_
      rintro e x7 ⟨rfl, A7⟩
      clear B2
      go_wp2_with fail
      refine (clkTick' A7 ok (m' := runC 9 11 5 true) (l := []) (er := 0) rfl rfl rfl).mono ?_
      rintro e x8 ⟨a8, rfl, B8⟩
      clear ok A7
      have ok := runC_ok 9 11 5 true (by decide) (by decide) (by decide) (by decide) (by decide) (by decide)
      go_wp2_with fail
      refine (clkReady' B8.tail ok (r := 0) rfl).mono ?_
      rintro e x9 ⟨rfl, A9⟩
      clear B8
      go_wp2_with fail
      refine (clkLast' A9 ok (r := 5) (b := true) rfl).mono ?_
      rintro e z1 ⟨rfl, rfl⟩
      go_wp2_with fail
      refine (clkLast' A9 ok (r := 0) (b := false) rfl).mono ?_
      rintro e z2 ⟨rfl, rfl⟩
      go_wp2_with fail
      refine (clkNext' A9 ok (r := 11) (b := true) rfl).mono ?_
      rintro e z3 ⟨rfl, rfl⟩
      go_wp2_with fail
      refine (clkNext' A9 ok (r := 0) (b := false) rfl).mono ?_
      rintro e z4 ⟨rfl, rfl⟩
      have HW : WrongI w0 R c x9.heap.size (x9.alloc (.cells wrongC 29)) := (A9.alloc _).b2
      unfold wrongC at HW
      clear A9
      go_wp2_with fail
      go_loopw [22] (fun i wr => ∃ k : Nat, k ≤ 5 ∧ i = .int .i64 k ∧ WrongI w0 R c x9.heap.size wr) (fun i _ => 5 - (intOf i).toNat)
      case atStart => exact ⟨0, by decide, rfl, HW⟩
      case round =>
        obtain ⟨k, hk, rfl, HL⟩ := hrel
        clear HW
        have rdw : ∀ j, _ = wrongC[j]? := (Hd.b2 HL).rd
        unfold WrongI at HL
        simp only [wrongC] at rdw
        obtain rfl | rfl | rfl | rfl | rfl | rfl : k = 0 ∨ k = 1 ∨ k = 2 ∨ k = 3 ∨ k = 4 ∨ k = 5 := by omega
        · go_wp2_with fail
          refine (clkAdd' HL ok _ _ _ _ _ _ _ 3 0 (0) (m' := runC 9 11 5 true) (n := -1) (er := 1) rfl rfl rfl).mono ?_
          rintro e v1 ⟨rfl, HM⟩
          clear HL rdw ok
          go_wp2_with fail
          go_roundw
          case rel => exact ⟨1, by decide, rfl, HM⟩
          case measure => simp [intOf]
        · go_wp2_with fail
          refine (clkAdd' HL ok _ _ _ _ _ _ _ 3 1 (1) (m' := runC 9 11 5 true) (n := -1) (er := 1) rfl rfl rfl).mono ?_
          rintro e v1 ⟨rfl, HM⟩
          clear HL rdw ok
          go_wp2_with fail
          go_roundw
          case rel => exact ⟨2, by decide, rfl, HM⟩
          case measure => simp [intOf]
        · go_wp2_with fail
          refine (clkAdd' HL ok _ _ _ _ _ _ _ 0 0 (-1) (m' := runC 9 11 5 true) (n := -1) (er := 1) rfl rfl rfl).mono ?_
          rintro e v1 ⟨rfl, HM⟩
          clear HL rdw ok
          go_wp2_with fail
          go_roundw
          case rel => exact ⟨3, by decide, rfl, HM⟩
          case measure => simp [intOf]
        · go_wp2_with fail
          refine (clkAdd' HL ok _ _ _ _ _ _ _ 0 1 (0) (m' := runC 9 11 5 true) (n := -1) (er := 1) rfl rfl rfl).mono ?_
          rintro e v1 ⟨rfl, HM⟩
          clear HL rdw ok
          go_wp2_with fail
          go_roundw
          case rel => exact ⟨4, by decide, rfl, HM⟩
          case measure => simp [intOf]
        · go_wp2_with fail
          refine (clkAdd' HL ok _ _ _ _ _ _ _ 1048577 1 (0) (m' := runC 9 11 5 true) (n := -1) (er := 1) rfl rfl rfl).mono ?_
          rintro e v1 ⟨rfl, HM⟩
          clear HL rdw ok
          go_wp2_with fail
          go_roundw
          case rel => exact ⟨5, by decide, rfl, HM⟩
          case measure => simp [intOf]
        · go_wp2_with fail
          go_ret
          exact ⟨rfl, HL.tail.tail⟩
end
end Go.Proofs.Ytdppdmmcnlmdgaa
