/-
  Merged texts of one proof: Arena, Arena2, Arena3.
-/
import Derived.BigQuiet
import Derived.Deep.QuietTactic
import Derived.Deep.RegionHeld3
import Derived.Deep.RegionLaw
import Derived.Deep.RegionWith
import Derived.IntWalk
import Derived.Lib.Hide
import Derived.StillTailTactics
import Derived.Test.YtogcikilphakmaaGreatDoorG02
import Derived.Test.YtogcikilphakmaaGreatDoorG05
import Derived.Test.YtogcikilphakmaaGreatDoorRows

/-
  Package arena over the separation logic: New, Room, last, Depth, Push, Pop, Open, Close, Frame. Every arena.
-/
namespace Go.Proofs.YtogcikilphakmaaGreatDoor
open Go.RowKit Spl

theorem arInfoI : (Tryz.prog.info? 3).map (fun i => (i.zero, i.size, i.bytes)) = some (some (.int .i64 0), 1, 8) := by kernel_rfl
theorem arInfoS : (Tryz.prog.info? 26).map (fun i => (i.zero, i.size, i.bytes)) = some (some (.slice none 0 0), 1, 24) := by kernel_rfl

/-- An arena at block a. -/
def ArP (a : Nat) (m : ArM) : Pr := ex fun x : Nat × Value => all [cel a 156 #[.slice (some ⟨x.1, 0, none⟩) m.n m.n, x.2, .int .i64 m.used, .int .i64 m.high], SlcC 3 1 x.1 m.n m.n (flat m.words), Slc 26 1 x.2 m.fr.length (frs x.1 0 m.fr)]
instance (a : Nat) (m : ArM) : Key (ArP a m) (.b a) := ⟨trivial⟩

section
variable {w0 w : World} {R : List Pr} {a : Nat} {m : ArM}
theorem ArP.opened (H : Hd w0 (ArP a m :: R) w) : ∃ g v, Hd w0 (cel a 156 #[.slice (some ⟨g, 0, none⟩) m.n m.n, v, .int .i64 m.used, .int .i64 m.high] :: SlcC 3 1 g m.n m.n (flat m.words) :: Slc 26 1 v m.fr.length (frs g 0 m.fr) :: R) w := by
  obtain ⟨⟨g, v⟩, H⟩ := H.out
  exact ⟨g, v, H.flat⟩
theorem ArP.shut {g : Nat} {v : Value} (H : Hd w0 (cel a 156 #[.slice (some ⟨g, 0, none⟩) m.n m.n, v, .int .i64 m.used, .int .i64 m.high] :: SlcC 3 1 g m.n m.n (flat m.words) :: Slc 26 1 v m.fr.length (frs g 0 m.fr) :: R) w) : Hd w0 (ArP a m :: R) w :=
  Hd.into (g, v) (Hd.pack (L := [_, _, _]) H)

theorem madeInts (n : Nat) : (madeCells (Value.int .i64 0).cells (n * 1)).toList = flat (zeros n) := by
  rw [flat_int]
  simp [madeCells, zeros, Value.cells]
  apply List.ext_getElem
  · simp
  · intro i h1 h2
    simp [Nat.mod_one]
set_option maxHeartbeats 400000 in
theorem arNew (H : Hd w0 R w) (n : Nat) (hn : n ≤ 65536) :
    Calls Tryz.prog 72 #[.int .i64 n] w fun e w' => ∃ a, e = .returned (.tuple #[.pointer (some ⟨a, 0, none⟩), .int .i64 0]) ∧ Hd w0 (ArP a (ArM.new n) :: R) w' := by
  obtain ⟨i0, hi, hz0, hz1, hz2⟩ := info_parts arInfoI
  have h1 : ¬ ((65536 : Int) < n) := by omega
  have h2 : ¬ ((n : Int) < 0) := by omega
  go_enter Tryz.func72, Tryz.ntmps72
  go_wp2_with (at_make; refine wpList_make_slc rfl _ _ 26 rfl 3 i0 _ 1 Tryz.underlying26 hi hz0 hz1 rfl _ _ _ _ n n rfl rfl rfl rfl (by omega) (by rw [hz2]; omega) (by unfold maxLen; omega) H ?_; intro w1 H1; rw [madeInts] at H1)
  go_ret2
  refine ⟨_, rfl, ArP.shut (m := ArM.new n) (g := w.heap.size) (v := .slice none 0 0) ?_⟩
  have H2 := (H1.alloc (.cells #[.slice (some ⟨w.heap.size, 0, none⟩) n n, .slice none 0 0, .int .i64 0, .int .i64 0] 156)).slc_nil 26 1
  have H3 : Hd w0 (cel w1.heap.size 156 #[.slice (some ⟨w.heap.size, 0, none⟩) n n, .slice none 0 0, .int .i64 0, .int .i64 0] :: SlcC 3 1 w.heap.size n n (flat (zeros n)) :: Slc 26 1 (.slice none 0 0) 0 [] :: R) _ := H2.re
  exact H3

theorem arRoom (H : Hd w0 (ArP a m :: R) w) (hm : m.Ok) :
    Calls Tryz.prog 128 #[.pointer (some ⟨a, 0, none⟩)] w fun e w' => e = .returned (.int .i64 ((m.n : Int) - m.used)) ∧ ∃ n, w' = w.drewN n := by
  obtain ⟨g, v, H1⟩ := ArP.opened H
  have c0 := H1.rd 0
  have c2 := H1.rd 2
  have h1 := hm.used
  have h2 := hm.n
  have hw : IntKind.i64.wrap ((m.n : Int) - m.used) = (m.n : Int) - m.used := IntWalk.i64_in _ (by omega)
  clear H H1 hm
  go_enter Tryz.func128, Tryz.ntmps128
  go_wp2_with (go_quiet (fail))
  go_ret
  exact ⟨rfl, _, rfl⟩
theorem arDepth (H : Hd w0 (ArP a m :: R) w) :
    Calls Tryz.prog 167 #[.pointer (some ⟨a, 0, none⟩)] w fun e w' => e = .returned (.int .i64 m.fr.length) ∧ w = w' := by
  obtain ⟨g, v, H1⟩ := ArP.opened H
  have c1 := H1.rd 1
  obtain ⟨x, cap, rfl, _, _, _, _⟩ := (H1.v v).slc_form
  clear H H1
  go_enter Tryz.func167, Tryz.ntmps167
  go_wp2
  go_ret
  exact ⟨rfl, rfl⟩

/-- The last frame's place. -/
theorem arLast {T h k cap : Nat} {wv u hi : Value} (H : Hd w0 (cel a T #[wv, .slice (some ⟨h, 0, none⟩) (k + 1) cap, u, hi] :: R) w) (hk : k ≤ 100000) :
    Calls Tryz.prog 183 #[.pointer (some ⟨a, 0, none⟩)] w fun e w' => e = .returned (.pointer (some ⟨h, k, none⟩)) ∧ ∃ n, w' = w.drewN n := by
  have c1 := H.rd 1
  have hw : IntKind.i64.wrap (k : Int) = k := IntWalk.i64_in _ (by omega)
  have hlt : (k : Int) < (k : Int) + 1 := by omega
  have hne : ((k : Int) + 1 == 0) = false := by rw [beq_eq_false_iff_ne]; omega
  clear H
  go_enter Tryz.func183, Tryz.ntmps183
  go_wp2_with (go_quiet (fail))
  go_ret
  exact ⟨rfl, _, rfl⟩
theorem arLastNo {T cap : Nat} {x : Option Addr} {wv u hi : Value} (H : Hd w0 (cel a T #[wv, .slice x 0 cap, u, hi] :: R) w) :
    Calls Tryz.prog 183 #[.pointer (some ⟨a, 0, none⟩)] w fun e w' => e = .returned (.pointer none) ∧ w = w' := by
  have c1 := H.rd 1
  clear H
  go_enter Tryz.func183, Tryz.ntmps183
  go_wp2
  go_ret
  exact ⟨rfl, rfl⟩

/-- What stands open where there is a frame. -/
theorem ArP.snoc (H : Hd w0 (ArP a m :: R) w) (hm : m.Ok) {init : List FrM} {f : FrM} (e : m.fr = init ++ [f]) :
    ∃ g h cap, init.length + 1 ≤ cap ∧ f.laid.length ≤ f.size ∧ Hd w0 (cel a 156 #[.slice (some ⟨g, 0, none⟩) m.n m.n, .slice (some ⟨h, 0, none⟩) (init.length + 1) cap, .int .i64 m.used, .int .i64 m.high] ::
      SlcC 3 1 g m.n m.n (flat m.words) :: SlcC 26 1 h (init.length + 1) cap (frs g 0 init ++ [.slice (some ⟨g, if f.size = 0 then 0 else usedL init, none⟩) f.laid.length f.size]) :: R) w := by
  obtain ⟨g, v, H1⟩ := ArP.opened H
  have hlen : m.fr.length = init.length + 1 := by rw [e]; simp
  obtain ⟨h, cap, rfl, H2⟩ := (H1.v v).slc_at (by omega)
  have hc := H2.slcC.2.1
  have e2 : frs g 0 m.fr = frs g 0 init ++ [.slice (some ⟨g, if f.size = 0 then 0 else usedL init, none⟩) f.laid.length f.size] := by
    rw [e, frs_append]; simp [frs]
  rw [hlen] at hc
  rw [e2, hlen] at H2
  exact ⟨g, h, cap, hc, hm.laid f (by rw [e]; simp), H2.re⟩
/-- .. and shut again, the last frame turned. -/
theorem ArP.unsnoc {g h cap : Nat} {init : List FrM} {f : FrM} {n high : Nat} (H : Hd w0 (cel a 156 #[.slice (some ⟨g, 0, none⟩) n n, .slice (some ⟨h, 0, none⟩) (init.length + 1) cap, .int .i64 ((usedL init + f.size : Nat) : Int), .int .i64 high] ::
      SlcC 3 1 g n n (flat (ArM.words ⟨n, init ++ [f], high⟩)) :: SlcC 26 1 h (init.length + 1) cap (frs g 0 init ++ [.slice (some ⟨g, if f.size = 0 then 0 else usedL init, none⟩) f.laid.length f.size]) :: R) w) :
    Hd w0 (ArP a ⟨n, init ++ [f], high⟩ :: R) w := by
  refine ArP.shut (m := ⟨n, init ++ [f], high⟩) (g := g) (v := .slice (some ⟨h, 0, none⟩) (init.length + 1) cap) ?_
  have e2 : frs g 0 (init ++ [f]) = frs g 0 init ++ [.slice (some ⟨g, if f.size = 0 then 0 else usedL init, none⟩) f.laid.length f.size] := by
    rw [frs_append]; simp [frs]
  have e3 : (init ++ [f]).length = init.length + 1 := by simp
  show Hd w0 (cel a 156 #[.slice (some ⟨g, 0, none⟩) n n, .slice (some ⟨h, 0, none⟩) (init.length + 1) cap, .int .i64 (ArM.used ⟨n, init ++ [f], high⟩ : Nat), .int .i64 high] :: SlcC 3 1 g n n (flat (ArM.words ⟨n, init ++ [f], high⟩)) :: Slc 26 1 (.slice (some ⟨h, 0, none⟩) (init.length + 1) cap) (init ++ [f]).length (frs g 0 (init ++ [f])) :: R) w
  rw [e2, e3, ArM.used_snoc]
  exact ((H.k h).slc_mk).re

/-- The last frame turned, in the walk's spelling. -/
theorem ArP.turned {g h cap : Nat} {init : List FrM} {f f' : FrM} {sp : List Value} (H : Hd w0 (cel a 156 #[.slice (some ⟨g, 0, none⟩) m.n m.n, .slice (some ⟨h, 0, none⟩) (init.length + 1) cap, .int .i64 m.used, .int .i64 m.high] ::
      cel g 3 (flat (ArM.words ⟨m.n, init ++ [f'], m.high⟩) ++ sp).toArray :: SlcC 26 1 h (init.length + 1) cap (frs g 0 init ++ [.slice (some ⟨g, usedL init, none⟩) f'.laid.length f.size]) :: R) w)
    (hm : m.Ok) (e : m.fr = init ++ [f]) (h0 : ¬ f.size = 0) (hs : f'.size = f.size) (hl : f'.laid.length ≤ f'.size) (hsp : m.n * 1 ≤ (flat (ArM.words ⟨m.n, init ++ [f'], m.high⟩) ++ sp).length) :
    Hd w0 (ArP a ⟨m.n, init ++ [f'], m.high⟩ :: R) w := by
  have hu : m.used = usedL init + f'.size := by rw [hs]; unfold ArM.used; rw [e, usedL_append, usedL_one]
  have hok := hm.turn e hs hl
  have hwl := ArM.words_len hok
  have H2 : Hd w0 (SlcC 3 1 g m.n m.n (flat (ArM.words ⟨m.n, init ++ [f'], m.high⟩)) :: _) w := (H.k g).slcC_mk (by rw [flat_len, hwl]; rfl) (Nat.le_refl _) (by unfold maxLen; have := hm.n; omega) hsp
  have e1 : Value.slice (some ⟨g, usedL init, none⟩) f'.laid.length f.size = .slice (some ⟨g, if f'.size = 0 then 0 else usedL init, none⟩) f'.laid.length f'.size := by
    rw [if_neg (by rw [hs]; exact h0), hs]
  rw [e1, hu] at H2
  exact ArP.unsnoc (g := g) (h := h) (cap := cap) H2.re

set_option maxHeartbeats 800000 in
theorem arPush (H : Hd w0 (ArP a m :: R) w) (hm : m.Ok) (v : Int) :
    Calls Tryz.prog 163 #[.pointer (some ⟨a, 0, none⟩), .int .i64 v] w fun e w' => e = .returned (.int .i64 (m.pushE)) ∧ Hd w0 (ArP a (m.push v) :: R) w' := by
  rcases nil_or_snoc m.fr with e | ⟨init, f, e⟩
  · have e1 : m.pushE = 6 := by unfold ArM.pushE; rw [e]; rfl
    have e2 : m.push v = m := by unfold ArM.push; rw [e]; rfl
    rw [e1, e2]
    obtain ⟨g, u, H1⟩ := ArP.opened H
    obtain ⟨x, cap, rfl, _, _, _, _⟩ := (H1.v u).slc_form
    rw [e] at H1
    have hl := arLastNo H1
    clear H1 e1 e2 e
    go_enter Tryz.func163, Tryz.ntmps163
    go_wp2_with fail
    refine hl.mono ?_
    rintro e w' ⟨rfl, rfl⟩
    go_wp2_with fail
    go_ret
    exact ⟨rfl, H⟩
  · obtain ⟨h1, h2⟩ := ArM.snoc_last e
    have hfew := hm.few
    rw [e] at hfew
    simp at hfew
    obtain ⟨g, h, cap, hcap, hfl, H1⟩ := ArP.snoc H hm e
    have hl := arLast H1 (by omega)
    have hH2 := H1.k h
    have ch := hH2.slcC_rd (j := init.length) (u := .slice (some ⟨g, if f.size = 0 then 0 else usedL init, none⟩) f.laid.length f.size) (by rw [List.getElem?_append_right (by rw [frs_len]; omega), frs_len]; simp)
    have fh := hH2.slcC_fr init.length
    have hb1 := hm.used
    have hb2 := hm.n
    have hu : m.used = usedL init + f.size := by unfold ArM.used; rw [e, usedL_append, usedL_one]
    by_cases hh : f.laid.length = f.size
    · have e1 : m.pushE = 12 := by unfold ArM.pushE; rw [h1]; simp [hh]
      have e2 : m.push v = m := by unfold ArM.push; rw [h1]; simp [hh]
      rw [e1, e2]
      have hb : ((f.laid.length : Int) == f.size) = true := by rw [hh]; simp
      generalize (if f.size = 0 then 0 else usedL init) = oo at ch
      clear hH2 H1 e1 e2 e h1 h2 hh hu hm
      go_enter Tryz.func163, Tryz.ntmps163
      go_wp2_with fail
      refine hl.mono ?_
      rintro e w' ⟨rfl, n, rfl⟩
      go_wp2_with (go_quiet (fail))
      go_ret
      exact ⟨rfl, H.fin⟩
    · have e1 : m.pushE = 0 := by unfold ArM.pushE; rw [h1]; simp [hh]
      have e2 : m.push v = ⟨m.n, init ++ [⟨f.size, f.laid ++ [v]⟩], m.high⟩ := by unfold ArM.push; rw [h1]; simp [hh, h2]
      rw [e1, e2]
      have hb : ((f.laid.length : Int) == f.size) = false := by rw [beq_eq_false_iff_ne]; omega
      have hs0 : ¬ f.size = 0 := by omega
      rw [if_neg hs0] at ch
      have HG : Hd w0 (SlcC 3 1 g m.n m.n (flat m.words) :: _) w := H1.k g
      obtain ⟨_, _, hmx, sp, hsp, HG2⟩ := HG.slcC
      have ew : flat m.words ++ sp = flat (wordsL init ++ f.laid) ++ (.int .i64 0 :: (flat (zeros (f.size - f.laid.length - 1) ++ zeros (m.n - m.used)) ++ sp)) := by
        have ez : zeros (f.size - f.laid.length) = 0 :: zeros (f.size - f.laid.length - 1) := by
          obtain ⟨k, hk⟩ : ∃ k, f.size - f.laid.length = k + 1 := ⟨f.size - f.laid.length - 1, by omega⟩
          rw [hk]; rfl
        unfold ArM.words
        rw [e, wordsL_append, wordsL_one]
        unfold FrM.words
        rw [ez]
        simp [flat_append, flat_cons, Enc.cells]
      rw [ew] at HG2 hsp
      have hpre : (flat (wordsL init ++ f.laid)).length = usedL init + f.laid.length := by
        rw [flat_len, List.length_append, wordsL_len (fun x hx => hm.laid x (by rw [e]; exact List.mem_append_left _ hx))]
        simp [Enc.size]
      have hroom : f.laid.length + 1 ≤ f.size := by omega
      have hE := Lib.hid (And.intro e (And.intro hu ew))
      clear hH2 H1 e1 e2 e h1 h2 hh hu ew HG H
      go_enter Tryz.func163, Tryz.ntmps163
      go_wp2_with fail
      refine hl.mono ?_
      rintro e w' ⟨rfl, n, rfl⟩
      go_wp2_with (first | go_quiet (fail) | (at_builtin; (refine wpList_append_in rfl _ _ 26 rfl 3 _ 8 Tryz.underlying26 arInfoI g (usedL init) f.laid.length f.size rfl ((Hd.fol HG2 : Hd w0 _ _).k g) hpre hroom ⟨_, 0, none⟩ 1 (.int .i64 v) rfl (one_new (by simp)) rfl ?_); intro w2 H2; have p0 := (H2.k h).slcC_rd (j := init.length) (u := .slice (some ⟨g, usedL init, none⟩) f.laid.length f.size) (by rw [List.getElem?_append_right (by rw [frs_len]; omega), frs_len]; simp [hs0]); have p1 := (H2.k h).slcC_fr init.length))
      go_ret
      refine ⟨rfl, ?_⟩
      obtain ⟨e, hu, ew⟩ := hE.out
      have H3 := (H2.k h).slcC_set (j := init.length) (by rw [List.length_append, frs_len]; simp) (.slice (some ⟨g, usedL init, none⟩) (f.laid.length + 1) f.size)
      have es : (frs g 0 init ++ [Value.slice (some ⟨g, if f.size = 0 then 0 else usedL init, none⟩) f.laid.length f.size]).set init.length (.slice (some ⟨g, usedL init, none⟩) (f.laid.length + 1) f.size) = frs g 0 init ++ [.slice (some ⟨g, usedL init, none⟩) (f.laid ++ [v]).length f.size] := by
        rw [List.set_append, if_neg (by rw [frs_len]; omega), frs_len]; simp
      have ew2 : flat (wordsL init ++ f.laid) ++ (.int .i64 v :: (flat (zeros (f.size - f.laid.length - 1) ++ zeros (m.n - m.used)) ++ sp)) = flat (ArM.words ⟨m.n, init ++ [⟨f.size, f.laid ++ [v]⟩], m.high⟩) ++ sp := by
        unfold ArM.words
        rw [ArM.used_snoc, wordsL_append, wordsL_one, hu]
        unfold FrM.words
        have : f.size - (f.laid ++ [v]).length = f.size - f.laid.length - 1 := by simp; omega
        show _ = flat (_ ++ ((f.laid ++ [v]) ++ zeros (f.size - (f.laid ++ [v]).length)) ++ _) ++ sp
        rw [this]
        simp [flat_append, flat_cons, Enc.cells]
      rw [es] at H3
      rw [ew2] at H3
      exact ArP.turned (g := g) (h := h) (cap := cap) (sp := sp) H3.re hm e hs0 rfl (by simp; omega) (by rw [← ew2]; simpa using hsp)

set_option maxHeartbeats 1600000 in
theorem arPop (H : Hd w0 (ArP a m :: R) w) (hm : m.Ok) :
    Calls Tryz.prog 164 #[.pointer (some ⟨a, 0, none⟩)] w fun e w' => e = .returned (.tuple #[.int .i64 m.popV, .int .i64 m.popE]) ∧ Hd w0 (ArP a m.pop :: R) w' := by
  rcases nil_or_snoc m.fr with e | ⟨init, f, e⟩
  · have e1 : m.popE = 6 := by unfold ArM.popE; rw [e]; rfl
    have e3 : m.popV = 0 := by unfold ArM.popV; rw [e]; rfl
    have e2 : m.pop = m := by unfold ArM.pop; rw [e]; rfl
    rw [e1, e2, e3]
    obtain ⟨g, u, H1⟩ := ArP.opened H
    obtain ⟨x, cap, rfl, _, _, _, _⟩ := (H1.v u).slc_form
    rw [e] at H1
    have hl := arLastNo H1
    clear H1 e1 e2 e3 e
    go_enter Tryz.func164, Tryz.ntmps164
    go_wp2_with fail
    refine hl.mono ?_
    rintro e w' ⟨rfl, rfl⟩
    go_wp2_with fail
    go_ret2
    exact ⟨rfl, H⟩
  · obtain ⟨h1, h2⟩ := ArM.snoc_last e
    have hfew := hm.few
    rw [e] at hfew
    simp at hfew
    obtain ⟨g, h, cap, hcap, hfl, H1⟩ := ArP.snoc H hm e
    have hl := arLast H1 (by omega)
    have hb1 := hm.used
    have hb2 := hm.n
    have hu : m.used = usedL init + f.size := by unfold ArM.used; rw [e, usedL_append, usedL_one]
    rcases nil_or_snoc f.laid with hf | ⟨l, x, hf⟩
    · have e1 : m.popE = 10 := by unfold ArM.popE; rw [h1]; simp [hf]
      have e3 : m.popV = 0 := by unfold ArM.popV; rw [h1]; simp [hf]
      have e2 : m.pop = m := by unfold ArM.pop; rw [h1]; simp [hf]
      rw [e1, e2, e3]
      rw [hf] at H1
      have hH2 := H1.k h
      have ch := hH2.slcC_rd (j := init.length) (u := .slice (some ⟨g, if f.size = 0 then 0 else usedL init, none⟩) 0 f.size) (by rw [List.getElem?_append_right (by rw [frs_len]; omega), frs_len]; simp)
      generalize (if f.size = 0 then 0 else usedL init) = oo at ch
      clear hH2 H1 e1 e2 e3 e h1 h2 hu hm hf
      go_enter Tryz.func164, Tryz.ntmps164
      go_wp2_with fail
      refine hl.mono ?_
      rintro e w' ⟨rfl, n, rfl⟩
      go_wp2_with fail
      go_ret2
      exact ⟨rfl, H.fin⟩
    · have hne : ¬ f.laid = [] := by rw [hf]; simp
      have e1 : m.popE = 0 := by unfold ArM.popE; rw [h1]; simp [hne]
      have e3 : m.popV = x := by unfold ArM.popV; rw [h1]; simp [hf]
      have e2 : m.pop = ⟨m.n, init ++ [⟨f.size, l⟩], m.high⟩ := by unfold ArM.pop; rw [h1]; simp [hf, h2]
      rw [e1, e2, e3]
      have hll : f.laid.length = l.length + 1 := by rw [hf]; simp
      have hs0 : ¬ f.size = 0 := by omega
      rw [hll, if_neg hs0] at H1
      have HG : Hd w0 (SlcC 3 1 g m.n m.n (flat m.words) :: _) w := H1.k g
      obtain ⟨_, _, hmx, sp, hsp, HG2⟩ := HG.slcC
      have ew : flat m.words ++ sp = flat (wordsL init ++ l) ++ (.int .i64 x :: (flat (zeros (f.size - f.laid.length) ++ zeros (m.n - m.used)) ++ sp)) := by
        unfold ArM.words
        rw [e, wordsL_append, wordsL_one]
        unfold FrM.words
        rw [hf]
        simp [flat_append, flat_cons, Enc.cells]
      rw [ew] at HG2 hsp
      have hpre : (flat (wordsL init ++ l)).length = usedL init + l.length := by
        rw [flat_len, List.length_append, wordsL_len (fun x hx => hm.laid x (by rw [e]; exact List.mem_append_left _ hx))]
        simp [Enc.size]
      have hroom : l.length < f.size := by omega
      have hroom2 : l.length ≤ f.size := by omega
      have hlt : (l.length : Int) < (l.length : Int) + 1 := by omega
      have hbl : l.length ≤ 65536 := by omega
      have hbn : ((l.length : Int) + 1 == 0) = false := by rw [beq_eq_false_iff_ne]; omega
      have hE := Lib.hid (And.intro e (And.intro hu (And.intro ew (And.intro hf hll))))
      have hM := Lib.hid hm
      clear H1 e1 e2 e3 e h1 h2 hu ew HG H hf hll hne hm
      go_enter Tryz.func164, Tryz.ntmps164
      go_wp2_with fail
      refine hl.mono ?_
      rintro e w' ⟨rfl, n, rfl⟩
      have HA : Hd w0 _ (w.drewN n) := HG2.fol
      have cg := ((HA.k g).rd (usedL init + l.length)).trans (get_off0 hpre)
      have fg := (HA.k g).fr (usedL init + l.length)
      rw [List.getElem?_cons_zero] at cg
      have ch := (HA.k h).slcC_rd (j := init.length) (u := .slice (some ⟨g, usedL init, none⟩) (l.length + 1) f.size) (by rw [List.getElem?_append_right (by rw [frs_len]; omega), frs_len]; simp)
      have HB : Hd w0 _ ((w.drewN n).setCell ⟨g, usedL init + l.length, none⟩ (.int .i64 0)) := HA.fol
      rw [set_off0 hpre, List.set_cons_zero] at HB
      have dh := (HB.k h).slcC_rd (j := init.length) (u := .slice (some ⟨g, usedL init, none⟩) (l.length + 1) f.size) (by rw [List.getElem?_append_right (by rw [frs_len]; omega), frs_len]; simp)
      have fh := (HB.k h).slcC_fr init.length
      clear HA
      go_wp2_with fail
      go_ret2
      refine ⟨rfl, ?_⟩
      obtain ⟨e, hu, ew, hf, hll⟩ := hE.out
      have H3 := (HB.k h).slcC_set (j := init.length) (by rw [List.length_append, frs_len]; simp) (.slice (some ⟨g, usedL init, none⟩) l.length f.size)
      have es : (frs g 0 init ++ [Value.slice (some ⟨g, usedL init, none⟩) (l.length + 1) f.size]).set init.length (.slice (some ⟨g, usedL init, none⟩) l.length f.size) = frs g 0 init ++ [.slice (some ⟨g, usedL init, none⟩) l.length f.size] := by
        rw [List.set_append, if_neg (by rw [frs_len]; omega), frs_len]; simp
      have ew2 : flat (wordsL init ++ l) ++ (.int .i64 0 :: (flat (zeros (f.size - f.laid.length) ++ zeros (m.n - m.used)) ++ sp)) = flat (ArM.words ⟨m.n, init ++ [⟨f.size, l⟩], m.high⟩) ++ sp := by
        unfold ArM.words
        rw [ArM.used_snoc, wordsL_append, wordsL_one, hu]
        unfold FrM.words
        have : zeros (f.size - l.length) = 0 :: zeros (f.size - f.laid.length) := by
          obtain ⟨k, hk⟩ : ∃ k, f.size - f.laid.length = k ∧ f.size - l.length = k + 1 := ⟨f.size - f.laid.length, rfl, by omega⟩
          rw [hk.1, hk.2]; rfl
        show _ = flat (_ ++ (l ++ zeros (f.size - l.length)) ++ _) ++ sp
        rw [this]
        simp [flat_append, flat_cons, Enc.cells]
      rw [es] at H3
      rw [ew2] at H3
      exact ArP.turned (g := g) (h := h) (cap := cap) (sp := sp) H3.re hM.out e hs0 rfl hroom2 (by rw [← ew2]; simpa using hsp)
end
end Go.Proofs.YtogcikilphakmaaGreatDoor

/-
  Package arena over the separation logic: Open, Close. Every arena.
-/
namespace Go.Proofs.YtogcikilphakmaaGreatDoor
open Go.RowKit Spl
section
variable {w0 w : World} {R : List Pr} {a : Nat} {m : ArM}

theorem frs_snoc (g : Nat) (l : List FrM) (s : Nat) : frs g 0 (l ++ [⟨s, []⟩]) = frs g 0 l ++ [.slice (some ⟨g, if s = 0 then 0 else usedL l, none⟩) 0 s] := by
  rw [frs_append]; simp [frs]

set_option maxRecDepth 20000 in
set_option maxHeartbeats 3200000 in
theorem arOpen (H : Hd w0 (ArP a m :: R) w) (hm : m.Ok) (hfew : m.fr.length < 10000) (size : Int) :
    Calls Tryz.prog 97 #[.pointer (some ⟨a, 0, none⟩), .int .i64 size] w fun e w' => e = .returned (.int .i64 (m.openE size)) ∧ Hd w0 (ArP a (m.openF size) :: R) w' := by
  have hroom := arRoom H hm
  by_cases hn : size < 0
  · have e1 : m.openE size = 1 := by unfold ArM.openE; rw [if_pos hn]
    have e2 : m.openF size = m := by unfold ArM.openF; rw [e1]; rfl
    rw [e1, e2]
    clear e1 e2
    go_enter Tryz.func97, Tryz.ntmps97
    go_wp2
    go_ret
    exact ⟨rfl, H⟩
  · by_cases hbig : (m.n : Int) - m.used < size
    · have e1 : m.openE size = 11 := by unfold ArM.openE; rw [if_neg hn, if_pos hbig]
      have e2 : m.openF size = m := by unfold ArM.openF; rw [e1]; rfl
      rw [e1, e2]
      clear e1 e2
      go_enter Tryz.func97, Tryz.ntmps97
      go_wp2_with fail
      refine hroom.mono ?_
      rintro e w' ⟨rfl, n, rfl⟩
      go_wp2_with fail
      go_ret
      exact ⟨rfl, H.fin⟩
    · obtain ⟨s, rfl⟩ : ∃ s : Nat, size = s := ⟨size.toNat, by omega⟩
      have e1 : m.openE s = 0 := by unfold ArM.openE; rw [if_neg hn, if_neg hbig]
      have e2 : m.openF s = ⟨m.n, m.fr ++ [⟨s, []⟩], max m.high (m.used + s)⟩ := by unfold ArM.openF; rw [e1]; simp
      rw [e1, e2]
      have hu := hm.used
      have hN := hm.n
      have hhi := hm.high2
      obtain ⟨g, v, H1⟩ := ArP.opened H
      obtain ⟨x, cap, rfl, _, _, _, _⟩ := (H1.v v).slc_form
      have c0 := H1.rd 0
      have c1 := H1.rd 1
      have c2 := H1.rd 2
      have hw : IntKind.i64.wrap ((m.used : Int) + s) = (m.used : Int) + s := IntWalk.i64_in _ (by omega)
      have b1 : (m.used : Int) ≤ (m.used : Int) + s := by omega
      have b2 : (m.used : Int) + s ≤ m.n := by omega
      have b3 : (0 : Int) ≤ (m.used : Int) + s := by omega
      have b4 : ((m.used : Int) + s).toNat = m.used + s := by omega
      have hM := Lib.hid hm
      obtain ⟨i0, hi, hz0, hz1, hz2⟩ := info_parts arInfoS
      obtain ⟨A, hA⟩ : ∃ A : Nat, A = if s = 0 then 0 else m.used := ⟨_, rfl⟩
      have hA' := Lib.hid hA
      have hfit : ∀ {w' : World} {v' : Value} {L : List Pr}, Hd w0 (Slc 26 1 v' (m.fr.length + 1) (frs g 0 m.fr ++ [.slice (some ⟨g, A, none⟩) 0 s]) :: cel a 156 #[.slice (some ⟨g, 0, none⟩) m.n m.n, v', .int .i64 ((m.used : Int) + s), .int .i64 (max m.high (m.used + s) : Nat)] :: SlcC 3 1 g m.n m.n (flat m.words) :: L) w' →
          Hd w0 (ArP a ⟨m.n, m.fr ++ [⟨s, []⟩], max m.high (m.used + s)⟩ :: L) w' := by
        intro w' v' L h
        have hu2 : ArM.used ⟨m.n, m.fr ++ [⟨s, []⟩], max m.high (m.used + s)⟩ = m.used + s := ArM.used_snoc
        have hw2 : ArM.words ⟨m.n, m.fr ++ [⟨s, []⟩], max m.high (m.used + s)⟩ = m.words := by
          unfold ArM.words
          rw [hu2, wordsL_append, wordsL_one]
          unfold FrM.words
          show wordsL m.fr ++ ([] ++ zeros (s - 0)) ++ zeros (m.n - (m.used + s)) = _
          rw [List.nil_append, List.append_assoc, ← zeros_add, show s - 0 + (m.n - (m.used + s)) = m.n - m.used from by omega]
        refine ArP.shut (m := ⟨m.n, m.fr ++ [⟨s, []⟩], max m.high (m.used + s)⟩) (g := g) (v := v') ?_
        show Hd w0 (cel a 156 #[.slice (some ⟨g, 0, none⟩) m.n m.n, v', .int .i64 (ArM.used ⟨m.n, m.fr ++ [⟨s, []⟩], max m.high (m.used + s)⟩ : Nat), .int .i64 (max m.high (m.used + s) : Nat)] :: SlcC 3 1 g m.n m.n (flat (ArM.words ⟨m.n, m.fr ++ [⟨s, []⟩], max m.high (m.used + s)⟩)) :: Slc 26 1 v' (m.fr ++ [(⟨s, []⟩ : FrM)]).length (frs g 0 (m.fr ++ [⟨s, []⟩])) :: L) w'
        have e3 : (m.fr ++ [(⟨s, []⟩ : FrM)]).length = m.fr.length + 1 := by simp
        have e4 : (if s = 0 then 0 else usedL m.fr) = A := hA.symm
        rw [hu2, hw2, frs_snoc, e3, e4, Int.natCast_add]
        exact h.re
      clear hm e1 e2 hn hbig H
      by_cases hs0 : s = 0
      · subst hs0
        rw [if_pos rfl] at hA
        subst hA
        have hw0 : IntKind.i64.wrap (m.used : Int) = m.used := IntWalk.i64_in _ (by omega)
        clear hw b1 b2 b3 b4
        go_enter Tryz.func97, Tryz.ntmps97
        go_wp2_with fail
        refine hroom.mono ?_
        rintro e w' ⟨rfl, n, rfl⟩
        go_wp2_with fail
        refine wp_region_mix 26 [(0, true), (1, true), (2, true), (3, true), (4, true), (5, true), (6, true), (7, true), (8, true), (9, true), (10, true), (11, true), (12, true), (13, true), (14, true), (15, true), (16, true), (17, true), (18, true), (19, true), (20, true), (21, true), (22, true), (23, true), (24, false), (25, false)] (fun w' => w'.cell? ⟨a, 0, none⟩ = some (.slice (some ⟨g, 0, none⟩) m.n m.n) ∧ w'.cell? ⟨a, 1, none⟩ = some (.slice x m.fr.length cap) ∧ w'.cell? ⟨a, 2, none⟩ = some (.int .i64 m.used)) (by kernel_rfl) (by kernel_rfl) (⟨c0, c1, c2⟩) (fun _ _ d _ _ h => by cases d <;> exact h) ?_
        simp only [List.drop_succ_cons, List.drop_zero]
        iterate 24 (refine mix_head (o := _) (v := ?_) (by (simp only [List.getElem?_toArray, List.getElem?_cons_succ, List.getElem?_cons_zero]); rfl) (by rfl) (fun w' hS => ?_) ?_; rotate_left 1; (focus ((try dsimp only at hS); (try go_split_ands); go_simp; (try with_reducible rfl))); (try simp only [Act.put, List.setIfInBounds_toArray, List.set_cons_zero, List.set_cons_succ]))
        refine mix_mid (o := _) (by (simp only [List.getElem?_toArray, List.getElem?_cons_succ, List.getElem?_cons_zero]); rfl) ?_
        go_wp2_with fail
        refine mixQ_in ⟨by go_keep, by go_keep, by go_keep⟩ ?_
        refine mix_mid (o := _) (by (simp only [List.getElem?_toArray, List.getElem?_cons_succ, List.getElem?_cons_zero]); rfl) ?_
        go_wp2_with (at_builtin; (refine wpList_append_slc rfl _ _ 154 rfl 26 i0 _ 1 24 Tryz.underlying154 hi hz0 hz1 hz2 rfl _ _ _ rfl ((Hd.fol H1 : Hd w0 _ _).v (.slice x m.fr.length cap)) ⟨_, 0, none⟩ 1 1 [.slice (some ⟨g, 0, none⟩) 0 0] rfl rfl (one_new (by simp)) (by simp [Value.oneCell']) (by unfold maxLen; omega) (by omega) ?_); intro v' w2 H4; obtain ⟨a', cap', rfl, _, _, _, _⟩ := H4.slc_form)
        have hk := H4.k a
        have d0 := hk.rd 0
        have d1 := hk.rd 1
        have d2 := hk.rd 2
        have d3 := hk.rd 3
        have f1 := hk.fr 1
        have f2 := hk.fr 2
        have f3 := hk.fr 3
        clear hk
        refine mixQ_in ⟨d0, d1, d2⟩ ?_
        refine mix_end ?_
        clear c0 c1 c2
        have H5 : Hd w0 _ (w2.setCell ⟨a, 1, none⟩ (.slice a' (m.fr.length + 1) cap')) := H4.fol
        go_wp2_with fail
        refine wp_region_still_tail 12 (by kernel_rfl) (by kernel_rfl) ?_
        simp only [List.take_succ_cons, List.take_zero, List.drop_succ_cons, List.drop_zero, World.drew_eq]
        (repeat still_step)
        refine wpStill_nil ?_
        go_wp2_with fail
        all_goals
          go_ret
          refine ⟨rfl, hfit (v' := .slice a' (m.fr.length + 1) cap') ?_⟩
          first
            | (rw [show ((max m.high (m.used + 0) : Nat) : Int) = (m.used : Int) + ((0 : Nat) : Int) from by omega]; rw [Int.natCast_zero, Int.add_zero]; exact H4.fin)
            | (rw [show ((max m.high (m.used + 0) : Nat) : Int) = (m.high : Int) from by omega]; rw [Int.natCast_zero, Int.add_zero]; exact H4.fin)
      · rw [if_neg hs0] at hA
        subst hA
        go_enter Tryz.func97, Tryz.ntmps97
        go_wp2_with fail
        refine hroom.mono ?_
        rintro e w' ⟨rfl, n, rfl⟩
        go_wp2_with fail
        refine wp_region_mix 26 [(0, true), (1, true), (2, true), (3, true), (4, true), (5, true), (6, true), (7, true), (8, true), (9, true), (10, true), (11, true), (12, true), (13, true), (14, true), (15, true), (16, true), (17, true), (18, true), (19, true), (20, true), (21, true), (22, true), (23, true), (24, false), (25, false)] (fun w' => w'.cell? ⟨a, 0, none⟩ = some (.slice (some ⟨g, 0, none⟩) m.n m.n) ∧ w'.cell? ⟨a, 1, none⟩ = some (.slice x m.fr.length cap) ∧ w'.cell? ⟨a, 2, none⟩ = some (.int .i64 m.used)) (by kernel_rfl) (by kernel_rfl) (⟨c0, c1, c2⟩) (fun _ _ d _ _ h => by cases d <;> exact h) ?_
        simp only [List.drop_succ_cons, List.drop_zero]
        iterate 24 (refine mix_head (o := _) (v := ?_) (by (simp only [List.getElem?_toArray, List.getElem?_cons_succ, List.getElem?_cons_zero]); rfl) (by rfl) (fun w' hS => ?_) ?_; rotate_left 1; (focus ((try dsimp only at hS); (try go_split_ands); go_simp; (try with_reducible rfl))); (try simp only [Act.put, List.setIfInBounds_toArray, List.set_cons_zero, List.set_cons_succ]))
        refine mix_mid (o := _) (by (simp only [List.getElem?_toArray, List.getElem?_cons_succ, List.getElem?_cons_zero]); rfl) ?_
        go_wp2_with fail
        refine mixQ_in ⟨by go_keep, by go_keep, by go_keep⟩ ?_
        refine mix_mid (o := _) (by (simp only [List.getElem?_toArray, List.getElem?_cons_succ, List.getElem?_cons_zero]); rfl) ?_
        go_wp2_with (at_builtin; (refine wpList_append_slc rfl _ _ 154 rfl 26 i0 _ 1 24 Tryz.underlying154 hi hz0 hz1 hz2 rfl _ _ _ rfl ((Hd.fol H1 : Hd w0 _ _).v (.slice x m.fr.length cap)) ⟨_, 0, none⟩ 1 1 [.slice (some ⟨g, m.used, none⟩) 0 s] rfl rfl (one_new (by simp)) (by simp [Value.oneCell']) (by unfold maxLen; omega) (by omega) ?_); intro v' w2 H4; obtain ⟨a', cap', rfl, _, _, _, _⟩ := H4.slc_form)
        have hk := H4.k a
        have d0 := hk.rd 0
        have d1 := hk.rd 1
        have d2 := hk.rd 2
        have d3 := hk.rd 3
        have f1 := hk.fr 1
        have f2 := hk.fr 2
        have f3 := hk.fr 3
        clear hk
        refine mixQ_in ⟨d0, d1, d2⟩ ?_
        refine mix_end ?_
        clear c0 c1 c2
        have H5 : Hd w0 _ (w2.setCell ⟨a, 1, none⟩ (.slice a' (m.fr.length + 1) cap')) := H4.fol
        go_wp2_with fail
        refine wp_region_still_tail 12 (by kernel_rfl) (by kernel_rfl) ?_
        simp only [List.take_succ_cons, List.take_zero, List.drop_succ_cons, List.drop_zero, World.drew_eq]
        (repeat still_step)
        refine wpStill_nil ?_
        go_wp2_with fail
        all_goals
          go_ret
          refine ⟨rfl, hfit (v' := .slice a' (m.fr.length + 1) cap') ?_⟩
          first
            | (rw [show ((max m.high (m.used + s) : Nat) : Int) = (m.used : Int) + ((s : Nat) : Int) from by omega]; exact H4.fin)
            | (rw [show ((max m.high (m.used + s) : Nat) : Int) = (m.high : Int) from by omega]; exact H4.fin)

set_option maxRecDepth 20000 in
set_option maxHeartbeats 1600000 in
theorem arClose (H : Hd w0 (ArP a m :: R) w) (hm : m.Ok) :
    Calls Tryz.prog 170 #[.pointer (some ⟨a, 0, none⟩)] w fun e w' => e = .returned (.int .i64 m.closeE) ∧ Hd w0 (ArP a m.close :: R) w' := by
  rcases nil_or_snoc m.fr with e | ⟨init, f, e⟩
  · have e1 : m.closeE = 6 := by unfold ArM.closeE; rw [if_pos e]
    have e2 : m.close = m := by unfold ArM.close; cases m; simp_all
    rw [e1, e2]
    obtain ⟨g, u, H1⟩ := ArP.opened H
    obtain ⟨x, cap, rfl, _, _, _, _⟩ := (H1.v u).slc_form
    rw [e] at H1
    have hl := arLastNo H1
    clear H1 e1 e2 e
    go_enter Tryz.func170, Tryz.ntmps170
    go_wp2_with fail
    refine hl.mono ?_
    rintro e w' ⟨rfl, rfl⟩
    go_wp2_with fail
    go_ret
    exact ⟨rfl, H⟩
  · obtain ⟨h1, h2⟩ := ArM.snoc_last e
    have hfew := hm.few
    rw [e] at hfew
    simp at hfew
    obtain ⟨g, h, cap, hcap, hfl, H1⟩ := ArP.snoc H hm e
    have hl := arLast H1 (by omega)
    have hb1 := hm.used
    have hb2 := hm.n
    have hu : m.used = usedL init + f.size := by unfold ArM.used; rw [e, usedL_append, usedL_one]
    have e1 : m.closeE = 0 := by unfold ArM.closeE; rw [if_neg (by rw [e]; simp)]
    have e2 : m.close = ⟨m.n, init, m.high⟩ := by unfold ArM.close; rw [h2]
    rw [e1, e2]
    have HG : Hd w0 (SlcC 3 1 g m.n m.n (flat m.words) :: _) w := H1.k g
    obtain ⟨_, _, hmx, sp, hsp, HG2⟩ := HG.slcC
    have hli := wordsL_len (l := init) (fun x hx => hm.laid x (by rw [e]; exact List.mem_append_left _ hx))
    have ew : flat m.words ++ sp = flat (wordsL init) ++ (flat f.words ++ (flat (zeros (m.n - m.used)) ++ sp)) := by
      unfold ArM.words
      rw [e, wordsL_append, wordsL_one]
      simp [flat_append]
    rw [ew] at HG2 hsp
    obtain ⟨oo, hoo⟩ : ∃ oo, oo = if f.size = 0 then 0 else usedL init := ⟨_, rfl⟩
    rw [← hoo] at H1 HG2
    have hpre : f.size = 0 ∨ (flat (wordsL init)).length = oo := by
      by_cases h0 : f.size = 0
      · exact .inl h0
      · right; rw [hoo, if_neg h0, flat_len, hli]; simp [Enc.size]
    have hold : (flat f.words).length = f.size := by rw [flat_len, FrM.words_len hfl]; simp [Enc.size]
    have hfin : ∀ {w' : World} {L : List Pr}, Hd w0 (cel a 156 #[.slice (some ⟨g, 0, none⟩) m.n m.n, .slice (some ⟨h, 0, none⟩) init.length cap, .int .i64 ((m.used : Int) - f.size), .int .i64 m.high] :: cel g 3 (flat (wordsL init) ++ (List.replicate f.size (Value.int .i64 0) ++ (flat (zeros (m.n - m.used)) ++ sp))).toArray ::
        SlcC 26 1 h (init.length + 1) cap (frs g 0 init ++ [.slice (some ⟨g, oo, none⟩) f.laid.length f.size]) :: L) w' → Hd w0 (ArP a ⟨m.n, init, m.high⟩ :: L) w' := by
      intro w' L H
      have ez : flat (wordsL init) ++ (List.replicate f.size (Value.int .i64 0) ++ (flat (zeros (m.n - m.used)) ++ sp)) = flat (ArM.words ⟨m.n, init, m.high⟩) ++ sp := by
        unfold ArM.words
        show _ = flat (wordsL init ++ zeros (m.n - usedL init)) ++ sp
        have er : (List.replicate f.size (Value.int .i64 0)) = flat (zeros f.size) := by rw [flat_int]; simp [zeros]
        rw [er, show m.n - usedL init = f.size + (m.n - m.used) from by omega, zeros_add]
        simp [flat_append]
      rw [ez] at H
      have hwl : (ArM.words ⟨m.n, init, m.high⟩).length = m.n := by
        unfold ArM.words
        show (wordsL init ++ zeros (m.n - usedL init)).length = m.n
        rw [List.length_append, hli, zeros_len]; omega
      have H2 : Hd w0 (SlcC 3 1 g m.n m.n (flat (ArM.words ⟨m.n, init, m.high⟩)) :: _) w' := (H.k g).slcC_mk (by rw [flat_len, hwl]; rfl) (Nat.le_refl _) (by unfold maxLen; omega) (by rw [List.length_append, flat_len, hwl]; simp [Enc.size])
      have H3 := ((H2.k h).slcC_cut (k := init.length) (c := cap) (by omega) (by omega) (Nat.le_refl _)).slc_mk
      rw [show (frs g 0 init ++ [Value.slice (some ⟨g, oo, none⟩) f.laid.length f.size]).take (init.length * 1) = frs g 0 init from by rw [Nat.mul_one]; exact List.take_left' (frs_len g init 0)] at H3
      refine ArP.shut (m := ⟨m.n, init, m.high⟩) (g := g) (v := .slice (some ⟨h, 0, none⟩) init.length cap) ?_
      show Hd w0 (cel a 156 #[.slice (some ⟨g, 0, none⟩) m.n m.n, .slice (some ⟨h, 0, none⟩) init.length cap, .int .i64 (usedL init : Nat), .int .i64 m.high] :: SlcC 3 1 g m.n m.n (flat (ArM.words ⟨m.n, init, m.high⟩)) :: Slc 26 1 (.slice (some ⟨h, 0, none⟩) init.length cap) init.length (frs g 0 init) :: L) w'
      rw [show ((usedL init : Nat) : Int) = (m.used : Int) - f.size from by omega]
      exact H3.re
    have hb3 : (f.size : Int) ≤ m.used := by omega
    have hw1 : IntKind.i64.wrap ((m.used : Int) - f.size) = (m.used : Int) - f.size := IntWalk.i64_in _ (by omega)
    have hw2 : IntKind.i64.wrap (init.length : Int) = init.length := IntWalk.i64_in _ (by omega)
    have hlt : (init.length : Int) < (init.length : Int) + 1 := by omega
    have hlc : init.length ≤ cap := by omega
    have ch := (H1.k h).slcC_rd (j := init.length) (u := .slice (some ⟨g, oo, none⟩) f.laid.length f.size) (by rw [List.getElem?_append_right (by rw [frs_len]; omega), frs_len]; simp)
    clear e1 e2 e h1 h2 hu ew HG H hm hoo hsp hmx hli H1
    go_enter Tryz.func170, Tryz.ntmps170
    go_wp2_with fail
    refine hl.mono ?_
    rintro e w' ⟨rfl, n, rfl⟩
    go_wp2_with fail
    refine wp_region_still_tail 8 (by kernel_rfl) (by kernel_rfl) ?_
    simp only [List.take_succ_cons, List.take_zero, List.drop_succ_cons, List.drop_zero, World.drew_eq]
    (repeat still_step)
    refine wpStill_nil ?_
    refine wpList_clear_in rfl _ 26 rfl 3 (.int .i64 0) Tryz.underlying26 Tryz.zeroValue3 rfl rfl g oo f.size f.size rfl ((Hd.fol HG2 : Hd w0 _ _).k g) hpre hold ?_
    intro w2 H2
    have hk := H2.k a
    have c1 := hk.rd 1
    have c2 := hk.rd 2
    have f1 := hk.fr 1
    have f2 := hk.fr 2
    have ch2 := (H2.k h).slcC_rd (j := init.length) (u := .slice (some ⟨g, oo, none⟩) f.laid.length f.size) (by rw [List.getElem?_append_right (by rw [frs_len]; omega), frs_len]; simp)
    have H3 : Hd w0 _ (w2.setCell ⟨a, 2, none⟩ (.int .i64 ((m.used : Int) - f.size))) := H2.fol
    have d1 := (H3.k a).rd 1
    clear hk
    go_wp2_with fail
    refine wp_region_still_tail 11 (by kernel_rfl) (by kernel_rfl) ?_
    simp only [List.take_succ_cons, List.take_zero, List.drop_succ_cons, List.drop_zero, World.drew_eq]
    (repeat still_step)
    refine wpStill_nil ?_
    go_wp2_with fail
    refine wp_region_still_tail 14 (by kernel_rfl) (by kernel_rfl) ?_
    simp only [List.take_succ_cons, List.take_zero, List.drop_succ_cons, List.drop_zero, World.drew_eq]
    (repeat still_step)
    refine wpStill_nil ?_
    go_wp2_with fail
    go_ret
    refine ⟨rfl, hfin ?_⟩
    exact H3.fin

end
end Go.Proofs.YtogcikilphakmaaGreatDoor

/-
  Package arena over the separation logic: Frame. Every arena.
-/
namespace Go.Proofs.YtogcikilphakmaaGreatDoor
open Go.RowKit Spl
section
variable {w0 w : World} {R : List Pr} {a : Nat} {m : ArM}

set_option maxRecDepth 20000 in
set_option maxHeartbeats 1600000 in
/-- Frame, where there is one: its words, in memory of its own. -/
theorem arFrame (H : Hd w0 (ArP a m :: R) w) (hm : m.Ok) (i : Nat) (f : FrM) (hi : m.fr[i]? = some f) :
    Calls Tryz.prog 38 #[.pointer (some ⟨a, 0, none⟩), .int .i64 i] w fun e w' => ∃ g, e = .returned (.tuple #[.slice (some ⟨g, 0, none⟩) f.laid.length f.laid.length, .bool true]) ∧ Hd w0 (SlEC 3 g f.laid.length f.laid :: ArP a m :: R) w' := by
  obtain ⟨g, v, H1⟩ := ArP.opened H
  have hil := lt_of_get? hi
  obtain ⟨h, cap, rfl, H2⟩ := (H1.v v).slc_at (by omega)
  have hfl := hm.laid f (List.mem_of_getElem? hi)
  have hb1 := hm.used
  have hb2 := hm.n
  have hfew := hm.few
  obtain ⟨oo, hoo⟩ : ∃ oo, oo = if f.size = 0 then 0 else 0 + usedL (m.fr.take i) := ⟨_, rfl⟩
  have hat := frs_at (g := g) hi 0
  rw [← hoo] at hat
  have hat2 := Lib.hid hat
  have c1 := (H2.k a).rd 1
  have ch := H2.slcC_rd hat
  have hlaid : ∀ (w1 : World) (L : List Pr), Hd w0 (SlcC 3 1 g m.n m.n (flat m.words) :: L) w1 → ∀ (j : Nat) (u : Value), (flat f.laid)[j]? = some u → w1.cell? ((⟨g, oo, none⟩ : Addr).add j) = some u := by
    intro w1 L h j u hj
    have hj1 := lt_of_get? hj
    rw [flat_len] at hj1
    have hj2 : j < f.laid.length := by simpa [Enc.size] using hj1
    have h0 : ¬ f.size = 0 := by omega
    rw [if_neg h0, Nat.zero_add] at hoo
    subst hoo
    have es : m.fr = m.fr.take i ++ (f :: m.fr.drop (i + 1)) := by
      obtain ⟨hi1, hi2⟩ := List.getElem?_eq_some_iff.1 hi
      rw [← hi2, ← List.drop_eq_getElem_cons hi1, List.take_append_drop]
    have hwl : (wordsL (m.fr.take i)).length = usedL (m.fr.take i) := wordsL_len (fun x hx => hm.laid x (List.mem_of_mem_take hx))
    rw [Addr.add_lit]
    refine h.slcC_rd ?_
    have ew : m.words = wordsL (m.fr.take i) ++ (f.laid ++ (zeros (f.size - f.laid.length) ++ (wordsL (m.fr.drop (i + 1)) ++ zeros (m.n - m.used)))) := by
      unfold ArM.words
      conv => lhs; rw [es]
      rw [wordsL_append]
      have : wordsL (f :: m.fr.drop (i + 1)) = f.words ++ wordsL (m.fr.drop (i + 1)) := rfl
      rw [this]
      unfold FrM.words
      simp
    rw [ew, flat_append, List.getElem?_append_right (by rw [flat_len, hwl]; simp [Enc.size]), flat_len, hwl]
    have e0 : usedL (m.fr.take i) + j - usedL (m.fr.take i) * Enc.size Int = j := by simp [Enc.size]
    rw [e0, flat_append, List.getElem?_append_left (lt_of_get? hj)]
    exact hj
  have hxl : f.laid.length ≤ 65536 := by
    have h1 := size_le_used (List.mem_of_getElem? hi)
    unfold ArM.used at hb1
    omega
  have hshut : ∀ (w' : World) (L : List Pr), Hd w0 (SlcC 26 1 h m.fr.length cap (frs g 0 m.fr) :: cel a 156 #[.slice (some ⟨g, 0, none⟩) m.n m.n, .slice (some ⟨h, 0, none⟩) m.fr.length cap, .int .i64 m.used, .int .i64 m.high] :: SlcC 3 1 g m.n m.n (flat m.words) :: L) w' → Hd w0 (ArP a m :: L) w' := by
    intro w' L H
    exact ArP.shut (g := g) (v := .slice (some ⟨h, 0, none⟩) m.fr.length cap) (H.slc_mk).re
  have n0 : ¬ ((i : Int) < 0) := by omega
  have n1 : (i : Int) < m.fr.length := by omega
  have n2 : ¬ m.fr.length ≤ i := by omega
  obtain ⟨i0, hinf, hz0, hz1, hz2⟩ := info_parts arInfoI
  have hfl2 := Lib.hid (flat_len f.laid)
  have hL := Lib.hid hlaid
  have hSh := Lib.hid hshut
  clear hoo hat H H1 hi hm hb1 hlaid hshut
  go_enter Tryz.func38, Tryz.ntmps38
  go_wp2_with fail
  refine wp_region_mix 16 [(0, true), (1, true), (2, true), (3, true), (4, true), (5, true), (6, true), (7, true), (9, true), (10, true), (11, true), (12, true), (13, true), (14, true), (15, true), (8, false)] (fun w' => w'.cell? ⟨a, 1, none⟩ = some (.slice (some ⟨h, 0, none⟩) m.fr.length cap) ∧ w'.cell? ⟨h, i, none⟩ = some (.slice (some ⟨g, oo, none⟩) f.laid.length f.size)) (by kernel_rfl) (by kernel_rfl) (⟨c1, ch⟩) (fun _ _ d _ _ h => by cases d <;> exact h) ?_
  simp only [List.drop_succ_cons, List.drop_zero]
  iterate 15 (refine mix_head (o := _) (v := ?_) (by (simp only [List.getElem?_toArray, List.getElem?_cons_succ, List.getElem?_cons_zero]); rfl) (by rfl) (fun w' hS => ?_) ?_; rotate_left 1; (focus ((try dsimp only at hS); (try go_split_ands); go_simp; (try with_reducible rfl))); (try simp only [Act.put, List.setIfInBounds_toArray, List.set_cons_zero, List.set_cons_succ]))
  refine mix_mid (o := _) (by (simp only [List.getElem?_toArray, List.getElem?_cons_succ, List.getElem?_cons_zero]); rfl) ?_
  go_wp2_with (at_make; (refine wpList_make_slc rfl _ _ 26 rfl 3 i0 _ 1 Tryz.underlying26 hinf hz0 hz1 rfl _ _ _ _ 0 f.laid.length rfl rfl rfl rfl (by omega) (by rw [hz2]; omega) (by unfold maxLen; omega) (Hd.fol H2) ?_); intro w1 H3; rw [madeCells_zero] at H3)
  have d1 := (H3.k a).rd 1
  have dh := (H3.k h).slcC_rd hat2.out
  refine mixQ_in ⟨d1, dh⟩ ?_
  refine mix_end ?_
  have hn1 := Lib.hid (hL.out _ _ (H3.k g))
  go_wp2_with (at_builtin; (refine wpList_append_fits_any_slc rfl _ _ 26 rfl 3 i0 1 Tryz.underlying26 hinf hz1 _ 0 f.laid.length [] rfl H3 _ f.laid.length _ (flat f.laid) rfl hfl2.out (by simp) (fun ad had => by obtain rfl := Option.some.inj had; exact hn1.out) (flat_oneCell f.laid) (by omega) ?_); intro w2 H4; rw [Nat.zero_add, List.nil_append] at H4)
  go_ret2
  refine ⟨_, rfl, ?_⟩
  have H5 : Hd w0 (SlcC 26 1 h m.fr.length cap (frs g 0 m.fr) :: cel a 156 #[.slice (some ⟨g, 0, none⟩) m.n m.n, .slice (some ⟨h, 0, none⟩) m.fr.length cap, .int .i64 m.used, .int .i64 m.high] :: SlcC 3 1 g m.n m.n (flat m.words) :: SlEC 3 w.heap.size f.laid.length f.laid :: R) w2 := H4.re
  exact (hSh.out _ _ H5).b2
end
end Go.Proofs.YtogcikilphakmaaGreatDoor
