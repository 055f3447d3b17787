/-
  Merged texts of one proof: Arena.
-/
import Derived.BigQuiet
import Derived.Deep.QuietTactic
import Derived.Deep.RegionLaw
import Derived.Deep.RegionWith
import Derived.IntWalk
import Derived.Lib.Hide
import Derived.StillTailTactics
import Derived.Test.YtogcikilphakmaaGreatDoorG03
import Derived.Test.YtogcikilphakmaaGreatDoorRows

/-
  Package arena over the separation logic: New, Room, last, Depth, Push, Pop, Open, Close, Frame. Every arena.
-/
namespace Go.Proofs.YtogcikilphakmaaGreatDoor
open Go.RowKit Spl

theorem arInfoI : (Tryz.prog.info? 3).map (fun i => (i.zero, i.size, i.bytes)) = some (some (.int .i64 0), 1, 8) := by kernel_rfl
theorem arInfoS : (Tryz.prog.info? 26).map (fun i => (i.zero, i.size, i.bytes)) = some (some (.slice none 0 0), 1, 24) := by kernel_rfl

/-- An arena at block a. -/
def ArP (a : Nat) (m : ArM) : Pr := ex fun x : Nat × Value => all [cel a 156 #[.slice (some ⟨x.1, 0, none⟩) m.n m.n, x.2, .int .i64 m.used, .int .i64 m.high], SlcC 3 1 x.1 m.n m.n (flat m.words), Slc 26 1 x.2 m.fr.length (frs x.1 0 m.fr)]
instance (a : Nat) (m : ArM) : Key (ArP a m) (.b a) := ⟨trivial⟩

section
variable {w0 w : World} {R : List Pr} {a : Nat} {m : ArM}
theorem ArP.opened (H : Hd w0 (ArP a m :: R) w) : ∃ g v, Hd w0 (cel a 156 #[.slice (some ⟨g, 0, none⟩) m.n m.n, v, .int .i64 m.used, .int .i64 m.high] :: SlcC 3 1 g m.n m.n (flat m.words) :: Slc 26 1 v m.fr.length (frs g 0 m.fr) :: R) w := by
  obtain ⟨⟨g, v⟩, H⟩ := H.out
  exact ⟨g, v, H.flat⟩
theorem ArP.shut {g : Nat} {v : Value} (H : Hd w0 (cel a 156 #[.slice (some ⟨g, 0, none⟩) m.n m.n, v, .int .i64 m.used, .int .i64 m.high] :: SlcC 3 1 g m.n m.n (flat m.words) :: Slc 26 1 v m.fr.length (frs g 0 m.fr) :: R) w) : Hd w0 (ArP a m :: R) w :=
  Hd.into (g, v) (Hd.pack (L := [_, _, _]) H)

theorem madeInts (n : Nat) : (madeCells (Value.int .i64 0).cells (n * 1)).toList = flat (zeros n) := by
  rw [flat_int]
  simp [madeCells, zeros, Value.cells]
  apply List.ext_getElem
  · simp
  · intro i h1 h2
    simp [Nat.mod_one]
set_option maxHeartbeats 400000 in
theorem arNew (H : Hd w0 R w) (n : Nat) (hn : n ≤ 65536) :
    Calls Tryz.prog 72 #[.int .i64 n] w fun e w' => ∃ a, e = .returned (.tuple #[.pointer (some ⟨a, 0, none⟩), .int .i64 0]) ∧ Hd w0 (ArP a (ArM.new n) :: R) w' := by
  obtain ⟨i0, hi, hz0, hz1, hz2⟩ := info_parts arInfoI
  have h1 : ¬ ((65536 : Int) < n) := by omega
  have h2 : ¬ ((n : Int) < 0) := by omega
  go_enter Tryz.func72, Tryz.ntmps72
  go_wp2_with (at_make; refine wpList_make_slc rfl _ _ 26 rfl 3 i0 _ 1 Tryz.underlying26 hi hz0 hz1 rfl _ _ _ _ n n rfl rfl rfl rfl (by omega) (by rw [hz2]; omega) (by unfold maxLen; omega) H ?_; intro w1 H1; rw [madeInts] at H1)
  go_ret2
  refine ⟨_, rfl, ArP.shut (m := ArM.new n) (g := w.heap.size) (v := .slice none 0 0) ?_⟩
  have H2 := (H1.alloc (.cells #[.slice (some ⟨w.heap.size, 0, none⟩) n n, .slice none 0 0, .int .i64 0, .int .i64 0] 156)).slc_nil 26 1
  have H3 : Hd w0 (cel w1.heap.size 156 #[.slice (some ⟨w.heap.size, 0, none⟩) n n, .slice none 0 0, .int .i64 0, .int .i64 0] :: SlcC 3 1 w.heap.size n n (flat (zeros n)) :: Slc 26 1 (.slice none 0 0) 0 [] :: R) _ := H2.re
  exact H3

theorem arRoom (H : Hd w0 (ArP a m :: R) w) (hm : m.Ok) :
    Calls Tryz.prog 128 #[.pointer (some ⟨a, 0, none⟩)] w fun e w' => e = .returned (.int .i64 ((m.n : Int) - m.used)) ∧ ∃ n, w' = w.drewN n := by
  obtain ⟨g, v, H1⟩ := ArP.opened H
  have c0 := H1.rd 0
  have c2 := H1.rd 2
  have h1 := hm.used
  have h2 := hm.n
  have hw : IntKind.i64.wrap ((m.n : Int) - m.used) = (m.n : Int) - m.used := IntWalk.i64_in _ (by omega)
  clear H H1 hm
  go_enter Tryz.func128, Tryz.ntmps128
  go_wp2_with (go_quiet (fail))
  go_ret
  exact ⟨rfl, _, rfl⟩
theorem arDepth (H : Hd w0 (ArP a m :: R) w) :
    Calls Tryz.prog 167 #[.pointer (some ⟨a, 0, none⟩)] w fun e w' => e = .returned (.int .i64 m.fr.length) ∧ w = w' := by
  obtain ⟨g, v, H1⟩ := ArP.opened H
  have c1 := H1.rd 1
  obtain ⟨x, cap, rfl, _, _, _, _⟩ := (H1.v v).slc_form
  clear H H1
  go_enter Tryz.func167, Tryz.ntmps167
  go_wp2
  go_ret
  exact ⟨rfl, rfl⟩

/-- The last frame's place. -/
theorem arLast {T h k cap : Nat} {wv u hi : Value} (H : Hd w0 (cel a T #[wv, .slice (some ⟨h, 0, none⟩) (k + 1) cap, u, hi] :: R) w) (hk : k ≤ 100000) :
    Calls Tryz.prog 183 #[.pointer (some ⟨a, 0, none⟩)] w fun e w' => e = .returned (.pointer (some ⟨h, k, none⟩)) ∧ ∃ n, w' = w.drewN n := by
  have c1 := H.rd 1
  have hw : IntKind.i64.wrap (k : Int) = k := IntWalk.i64_in _ (by omega)
  have hlt : (k : Int) < (k : Int) + 1 := by omega
  have hne : ((k : Int) + 1 == 0) = false := by rw [beq_eq_false_iff_ne]; omega
  clear H
  go_enter Tryz.func183, Tryz.ntmps183
  go_wp2_with (go_quiet (fail))
  go_ret
  exact ⟨rfl, _, rfl⟩
theorem arLastNo {T cap : Nat} {x : Option Addr} {wv u hi : Value} (H : Hd w0 (cel a T #[wv, .slice x 0 cap, u, hi] :: R) w) :
    Calls Tryz.prog 183 #[.pointer (some ⟨a, 0, none⟩)] w fun e w' => e = .returned (.pointer none) ∧ w = w' := by
  have c1 := H.rd 1
  clear H
  go_enter Tryz.func183, Tryz.ntmps183
  go_wp2
  go_ret
  exact ⟨rfl, rfl⟩

/-- What stands open where there is a frame. -/
theorem ArP.snoc (H : Hd w0 (ArP a m :: R) w) (hm : m.Ok) {init : List FrM} {f : FrM} (e : m.fr = init ++ [f]) :
    ∃ g h cap, init.length + 1 ≤ cap ∧ f.laid.length ≤ f.size ∧ Hd w0 (cel a 156 #[.slice (some ⟨g, 0, none⟩) m.n m.n, .slice (some ⟨h, 0, none⟩) (init.length + 1) cap, .int .i64 m.used, .int .i64 m.high] ::
      SlcC 3 1 g m.n m.n (flat m.words) :: SlcC 26 1 h (init.length + 1) cap (frs g 0 init ++ [.slice (some ⟨g, if f.size = 0 then 0 else usedL init, none⟩) f.laid.length f.size]) :: R) w := by
  obtain ⟨g, v, H1⟩ := ArP.opened H
  have hlen : m.fr.length = init.length + 1 := by rw [e]; simp
  obtain ⟨h, cap, rfl, H2⟩ := (H1.v v).slc_at (by omega)
  have hc := H2.slcC.2.1
  have e2 : frs g 0 m.fr = frs g 0 init ++ [.slice (some ⟨g, if f.size = 0 then 0 else usedL init, none⟩) f.laid.length f.size] := by
    rw [e, frs_append]; simp [frs]
  rw [hlen] at hc
  rw [e2, hlen] at H2
  exact ⟨g, h, cap, hc, hm.laid f (by rw [e]; simp), H2.re⟩
/-- .. and shut again, the last frame turned. -/
theorem ArP.unsnoc {g h cap : Nat} {init : List FrM} {f : FrM} {n high : Nat} (H : Hd w0 (cel a 156 #[.slice (some ⟨g, 0, none⟩) n n, .slice (some ⟨h, 0, none⟩) (init.length + 1) cap, .int .i64 ((usedL init + f.size : Nat) : Int), .int .i64 high] ::
      SlcC 3 1 g n n (flat (ArM.words ⟨n, init ++ [f], high⟩)) :: SlcC 26 1 h (init.length + 1) cap (frs g 0 init ++ [.slice (some ⟨g, if f.size = 0 then 0 else usedL init, none⟩) f.laid.length f.size]) :: R) w) :
    Hd w0 (ArP a ⟨n, init ++ [f], high⟩ :: R) w := by
  refine ArP.shut (m := ⟨n, init ++ [f], high⟩) (g := g) (v := .slice (some ⟨h, 0, none⟩) (init.length + 1) cap) ?_
  have e2 : frs g 0 (init ++ [f]) = frs g 0 init ++ [.slice (some ⟨g, if f.size = 0 then 0 else usedL init, none⟩) f.laid.length f.size] := by
    rw [frs_append]; simp [frs]
  have e3 : (init ++ [f]).length = init.length + 1 := by simp
  show Hd w0 (cel a 156 #[.slice (some ⟨g, 0, none⟩) n n, .slice (some ⟨h, 0, none⟩) (init.length + 1) cap, .int .i64 (ArM.used ⟨n, init ++ [f], high⟩ : Nat), .int .i64 high] :: SlcC 3 1 g n n (flat (ArM.words ⟨n, init ++ [f], high⟩)) :: Slc 26 1 (.slice (some ⟨h, 0, none⟩) (init.length + 1) cap) (init ++ [f]).length (frs g 0 (init ++ [f])) :: R) w
  rw [e2, e3, ArM.used_snoc]
  exact ((H.k h).slc_mk).re

/-- The last frame turned, in the walk's spelling. -/
theorem ArP.turned {g h cap : Nat} {init : List FrM} {f f' : FrM} {sp : List Value} (H : Hd w0 (cel a 156 #[.slice (some ⟨g, 0, none⟩) m.n m.n, .slice (some ⟨h, 0, none⟩) (init.length + 1) cap, .int .i64 m.used, .int .i64 m.high] ::
      cel g 3 (flat (ArM.words ⟨m.n, init ++ [f'], m.high⟩) ++ sp).toArray :: SlcC 26 1 h (init.length + 1) cap (frs g 0 init ++ [.slice (some ⟨g, usedL init, none⟩) f'.laid.length f.size]) :: R) w)
    (hm : m.Ok) (e : m.fr = init ++ [f]) (h0 : ¬ f.size = 0) (hs : f'.size = f.size) (hl : f'.laid.length ≤ f'.size) (hsp : m.n * 1 ≤ (flat (ArM.words ⟨m.n, init ++ [f'], m.high⟩) ++ sp).length) :
    Hd w0 (ArP a ⟨m.n, init ++ [f'], m.high⟩ :: R) w := by
  have hu : m.used = usedL init + f'.size := by rw [hs]; unfold ArM.used; rw [e, usedL_append, usedL_one]
  have hok := hm.turn e hs hl
  have hwl := ArM.words_len hok
  have H2 : Hd w0 (SlcC 3 1 g m.n m.n (flat (ArM.words ⟨m.n, init ++ [f'], m.high⟩)) :: _) w := (H.k g).slcC_mk (by rw [flat_len, hwl]; rfl) (Nat.le_refl _) (by unfold maxLen; have := hm.n; omega) hsp
  have e1 : Value.slice (some ⟨g, usedL init, none⟩) f'.laid.length f.size = .slice (some ⟨g, if f'.size = 0 then 0 else usedL init, none⟩) f'.laid.length f'.size := by
    rw [if_neg (by rw [hs]; exact h0), hs]
  rw [e1, hu] at H2
  exact ArP.unsnoc (g := g) (h := h) (cap := cap) H2.re

set_option maxHeartbeats 800000 in
theorem arPush (H : Hd w0 (ArP a m :: R) w) (hm : m.Ok) (v : Int) :
    Calls Tryz.prog 163 #[.pointer (some ⟨a, 0, none⟩), .int .i64 v] w fun e w' => e = .returned (.int .i64 (m.pushE)) ∧ Hd w0 (ArP a (m.push v) :: R) w' := by
  rcases nil_or_snoc m.fr with e | ⟨init, f, e⟩
  · have e1 : m.pushE = 6 := by unfold ArM.pushE; rw [e]; rfl
    have e2 : m.push v = m := by unfold ArM.push; rw [e]; rfl
    rw [e1, e2]
    obtain ⟨g, u, H1⟩ := ArP.opened H
    obtain ⟨x, cap, rfl, _, _, _, _⟩ := (H1.v u).slc_form
    rw [e] at H1
    have hl := arLastNo H1
    clear H1 e1 e2 e
    go_enter Tryz.func163, Tryz.ntmps163
    go_wp2_with fail
    refine hl.mono ?_
    rintro e w' ⟨rfl, rfl⟩
    go_wp2_with fail
    go_ret
    exact ⟨rfl, H⟩
  · obtain ⟨h1, h2⟩ := ArM.snoc_last e
    have hfew := hm.few
    rw [e] at hfew
    simp at hfew
    obtain ⟨g, h, cap, hcap, hfl, H1⟩ := ArP.snoc H hm e
    have hl := arLast H1 (by omega)
    have hH2 := H1.k h
    have ch := hH2.slcC_rd (j := init.length) (u := .slice (some ⟨g, if f.size = 0 then 0 else usedL init, none⟩) f.laid.length f.size) (by rw [List.getElem?_append_right (by rw [frs_len]; omega), frs_len]; simp)
    have fh := hH2.slcC_fr init.length
    have hb1 := hm.used
    have hb2 := hm.n
    have hu : m.used = usedL init + f.size := by unfold ArM.used; rw [e, usedL_append, usedL_one]
    by_cases hh : f.laid.length = f.size
    · have e1 : m.pushE = 12 := by unfold ArM.pushE; rw [h1]; simp [hh]
      have e2 : m.push v = m := by unfold ArM.push; rw [h1]; simp [hh]
      rw [e1, e2]
      have hb : ((f.laid.length : Int) == f.size) = true := by rw [hh]; simp
      generalize (if f.size = 0 then 0 else usedL init) = oo at ch
      clear hH2 H1 e1 e2 e h1 h2 hh hu hm
      go_enter Tryz.func163, Tryz.ntmps163
      go_wp2_with fail
      refine hl.mono ?_
      rintro e w' ⟨rfl, n, rfl⟩
      go_wp2_with (go_quiet (fail))
      go_ret
      exact ⟨rfl, H.fin⟩
    · have e1 : m.pushE = 0 := by unfold ArM.pushE; rw [h1]; simp [hh]
      have e2 : m.push v = ⟨m.n, init ++ [⟨f.size, f.laid ++ [v]⟩], m.high⟩ := by unfold ArM.push; rw [h1]; simp [hh, h2]
      rw [e1, e2]
      have hb : ((f.laid.length : Int) == f.size) = false := by rw [beq_eq_false_iff_ne]; omega
      have hs0 : ¬ f.size = 0 := by omega
      rw [if_neg hs0] at ch
      have HG : Hd w0 (SlcC 3 1 g m.n m.n (flat m.words) :: _) w := H1.k g
      obtain ⟨_, _, hmx, sp, hsp, HG2⟩ := HG.slcC
      have ew : flat m.words ++ sp = flat (wordsL init ++ f.laid) ++ (.int .i64 0 :: (flat (zeros (f.size - f.laid.length - 1) ++ zeros (m.n - m.used)) ++ sp)) := by
        have ez : zeros (f.size - f.laid.length) = 0 :: zeros (f.size - f.laid.length - 1) := by
          obtain ⟨k, hk⟩ : ∃ k, f.size - f.laid.length = k + 1 := ⟨f.size - f.laid.length - 1, by omega⟩
          rw [hk]; rfl
        unfold ArM.words
        rw [e, wordsL_append, wordsL_one]
        unfold FrM.words
        rw [ez]
        simp [flat_append, flat_cons, Enc.cells]
      rw [ew] at HG2 hsp
      have hpre : (flat (wordsL init ++ f.laid)).length = usedL init + f.laid.length := by
        rw [flat_len, List.length_append, wordsL_len (fun x hx => hm.laid x (by rw [e]; exact List.mem_append_left _ hx))]
        simp [Enc.size]
      have hroom : f.laid.length + 1 ≤ f.size := by omega
      have hE := Lib.hid (And.intro e (And.intro hu ew))
      clear hH2 H1 e1 e2 e h1 h2 hh hu ew HG H
      go_enter Tryz.func163, Tryz.ntmps163
      go_wp2_with fail
      refine hl.mono ?_
      rintro e w' ⟨rfl, n, rfl⟩
      go_wp2_with (first | go_quiet (fail) | (at_builtin; (refine wpList_append_in rfl _ _ 26 rfl 3 _ 8 Tryz.underlying26 arInfoI g (usedL init) f.laid.length f.size rfl ((Hd.fol HG2 : Hd w0 _ _).k g) hpre hroom ⟨_, 0, none⟩ 1 (.int .i64 v) rfl (one_new (by simp)) rfl ?_); intro w2 H2; have p0 := (H2.k h).slcC_rd (j := init.length) (u := .slice (some ⟨g, usedL init, none⟩) f.laid.length f.size) (by rw [List.getElem?_append_right (by rw [frs_len]; omega), frs_len]; simp [hs0]); have p1 := (H2.k h).slcC_fr init.length))
      go_ret
      refine ⟨rfl, ?_⟩
      obtain ⟨e, hu, ew⟩ := hE.out
      have H3 := (H2.k h).slcC_set (j := init.length) (by rw [List.length_append, frs_len]; simp) (.slice (some ⟨g, usedL init, none⟩) (f.laid.length + 1) f.size)
      have es : (frs g 0 init ++ [Value.slice (some ⟨g, if f.size = 0 then 0 else usedL init, none⟩) f.laid.length f.size]).set init.length (.slice (some ⟨g, usedL init, none⟩) (f.laid.length + 1) f.size) = frs g 0 init ++ [.slice (some ⟨g, usedL init, none⟩) (f.laid ++ [v]).length f.size] := by
        rw [List.set_append, if_neg (by rw [frs_len]; omega), frs_len]; simp
      have ew2 : flat (wordsL init ++ f.laid) ++ (.int .i64 v :: (flat (zeros (f.size - f.laid.length - 1) ++ zeros (m.n - m.used)) ++ sp)) = flat (ArM.words ⟨m.n, init ++ [⟨f.size, f.laid ++ [v]⟩], m.high⟩) ++ sp := by
        unfold ArM.words
        rw [ArM.used_snoc, wordsL_append, wordsL_one, hu]
        unfold FrM.words
        have : f.size - (f.laid ++ [v]).length = f.size - f.laid.length - 1 := by simp; omega
        show _ = flat (_ ++ ((f.laid ++ [v]) ++ zeros (f.size - (f.laid ++ [v]).length)) ++ _) ++ sp
        rw [this]
        simp [flat_append, flat_cons, Enc.cells]
      rw [es] at H3
      rw [ew2] at H3
      exact ArP.turned (g := g) (h := h) (cap := cap) (sp := sp) H3.re hm e hs0 rfl (by simp; omega) (by rw [← ew2]; simpa using hsp)

set_option maxHeartbeats 1600000 in
theorem arPop (H : Hd w0 (ArP a m :: R) w) (hm : m.Ok) :
    Calls Tryz.prog 164 #[.pointer (some ⟨a, 0, none⟩)] w fun e w' => e = .returned (.tuple #[.int .i64 m.popV, .int .i64 m.popE]) ∧ Hd w0 (ArP a m.pop :: R) w' := by
  rcases nil_or_snoc m.fr with e | ⟨init, f, e⟩
  · have e1 : m.popE = 6 := by unfold ArM.popE; rw [e]; rfl
    have e3 : m.popV = 0 := by unfold ArM.popV; rw [e]; rfl
    have e2 : m.pop = m := by unfold ArM.pop; rw [e]; rfl
    rw [e1, e2, e3]
    obtain ⟨g, u, H1⟩ := ArP.opened H
    obtain ⟨x, cap, rfl, _, _, _, _⟩ := (H1.v u).slc_form
    rw [e] at H1
    have hl := arLastNo H1
    clear H1 e1 e2 e3 e
    go_enter Tryz.func164, Tryz.ntmps164
    go_wp2_with fail
    refine hl.mono ?_
    rintro e w' ⟨rfl, rfl⟩
    go_wp2_with fail
    go_ret2
    exact ⟨rfl, H⟩
  · obtain ⟨h1, h2⟩ := ArM.snoc_last e
    have hfew := hm.few
    rw [e] at hfew
    simp at hfew
    obtain ⟨g, h, cap, hcap, hfl, H1⟩ := ArP.snoc H hm e
    have hl := arLast H1 (by omega)
    have hb1 := hm.used
    have hb2 := hm.n
    have hu : m.used = usedL init + f.size := by unfold ArM.used; rw [e, usedL_append, usedL_one]
    rcases nil_or_snoc f.laid with hf | ⟨l, x, hf⟩
    · have e1 : m.popE = 10 := by unfold ArM.popE; rw [h1]; simp [hf]
      have e3 : m.popV = 0 := by unfold ArM.popV; rw [h1]; simp [hf]
      have e2 : m.pop = m := by unfold ArM.pop; rw [h1]; simp [hf]
      rw [e1, e2, e3]
      rw [hf] at H1
      have hH2 := H1.k h
      have ch := hH2.slcC_rd (j := init.length) (u := .slice (some ⟨g, if f.size = 0 then 0 else usedL init, none⟩) 0 f.size) (by rw [List.getElem?_append_right (by rw [frs_len]; omega), frs_len]; simp)
      generalize (if f.size = 0 then 0 else usedL init) = oo at ch
      clear hH2 H1 e1 e2 e3 e h1 h2 hu hm hf
      go_enter Tryz.func164, Tryz.ntmps164
      go_wp2_with fail
      refine hl.mono ?_
      rintro e w' ⟨rfl, n, rfl⟩
      go_wp2_with fail
      go_ret2
      exact ⟨rfl, H.fin⟩
    · have hne : ¬ f.laid = [] := by rw [hf]; simp
      have e1 : m.popE = 0 := by unfold ArM.popE; rw [h1]; simp [hne]
      have e3 : m.popV = x := by unfold ArM.popV; rw [h1]; simp [hf]
      have e2 : m.pop = ⟨m.n, init ++ [⟨f.size, l⟩], m.high⟩ := by unfold ArM.pop; rw [h1]; simp [hf, h2]
      rw [e1, e2, e3]
      have hll : f.laid.length = l.length + 1 := by rw [hf]; simp
      have hs0 : ¬ f.size = 0 := by omega
      rw [hll, if_neg hs0] at H1
      have HG : Hd w0 (SlcC 3 1 g m.n m.n (flat m.words) :: _) w := H1.k g
      obtain ⟨_, _, hmx, sp, hsp, HG2⟩ := HG.slcC
      have ew : flat m.words ++ sp = flat (wordsL init ++ l) ++ (.int .i64 x :: (flat (zeros (f.size - f.laid.length) ++ zeros (m.n - m.used)) ++ sp)) := by
        unfold ArM.words
        rw [e, wordsL_append, wordsL_one]
        unfold FrM.words
        rw [hf]
        simp [flat_append, flat_cons, Enc.cells]
      rw [ew] at HG2 hsp
      have hpre : (flat (wordsL init ++ l)).length = usedL init + l.length := by
        rw [flat_len, List.length_append, wordsL_len (fun x hx => hm.laid x (by rw [e]; exact List.mem_append_left _ hx))]
        simp [Enc.size]
      have hroom : l.length < f.size := by omega
      have hroom2 : l.length ≤ f.size := by omega
      have hlt : (l.length : Int) < (l.length : Int) + 1 := by omega
      have hbl : l.length ≤ 65536 := by omega
      have hbn : ((l.length : Int) + 1 == 0) = false := by rw [beq_eq_false_iff_ne]; omega
      have hE := Lib.hid (And.intro e (And.intro hu (And.intro ew (And.intro hf hll))))
      have hM := Lib.hid hm
      clear H1 e1 e2 e3 e h1 h2 hu ew HG H hf hll hne hm
      go_enter Tryz.func164, Tryz.ntmps164
      go_wp2_with fail
      refine hl.mono ?_
      rintro e w' ⟨rfl, n, rfl⟩
      have HA : Hd w0 _ (w.drewN n) := HG2.fol
      have cg := ((HA.k g).rd (usedL init + l.length)).trans (get_off0 hpre)
      have fg := (HA.k g).fr (usedL init + l.length)
      rw [List.getElem?_cons_zero] at cg
      have ch := (HA.k h).slcC_rd (j := init.length) (u := .slice (some ⟨g, usedL init, none⟩) (l.length + 1) f.size) (by rw [List.getElem?_append_right (by rw [frs_len]; omega), frs_len]; simp)
      have HB : Hd w0 _ ((w.drewN n).setCell ⟨g, usedL init + l.length, none⟩ (.int .i64 0)) := HA.fol
      rw [set_off0 hpre, List.set_cons_zero] at HB
      have dh := (HB.k h).slcC_rd (j := init.length) (u := .slice (some ⟨g, usedL init, none⟩) (l.length + 1) f.size) (by rw [List.getElem?_append_right (by rw [frs_len]; omega), frs_len]; simp)
      have fh := (HB.k h).slcC_fr init.length
      clear HA
      go_wp2_with fail
      go_ret2
      refine ⟨rfl, ?_⟩
      obtain ⟨e, hu, ew, hf, hll⟩ := hE.out
      have H3 := (HB.k h).slcC_set (j := init.length) (by rw [List.length_append, frs_len]; simp) (.slice (some ⟨g, usedL init, none⟩) l.length f.size)
      have es : (frs g 0 init ++ [Value.slice (some ⟨g, usedL init, none⟩) (l.length + 1) f.size]).set init.length (.slice (some ⟨g, usedL init, none⟩) l.length f.size) = frs g 0 init ++ [.slice (some ⟨g, usedL init, none⟩) l.length f.size] := by
        rw [List.set_append, if_neg (by rw [frs_len]; omega), frs_len]; simp
      have ew2 : flat (wordsL init ++ l) ++ (.int .i64 0 :: (flat (zeros (f.size - f.laid.length) ++ zeros (m.n - m.used)) ++ sp)) = flat (ArM.words ⟨m.n, init ++ [⟨f.size, l⟩], m.high⟩) ++ sp := by
        unfold ArM.words
        rw [ArM.used_snoc, wordsL_append, wordsL_one, hu]
        unfold FrM.words
        have : zeros (f.size - l.length) = 0 :: zeros (f.size - f.laid.length) := by
          obtain ⟨k, hk⟩ : ∃ k, f.size - f.laid.length = k ∧ f.size - l.length = k + 1 := ⟨f.size - f.laid.length, rfl, by omega⟩
          rw [hk.1, hk.2]; rfl
        show _ = flat (_ ++ (l ++ zeros (f.size - l.length)) ++ _) ++ sp
        rw [this]
        simp [flat_append, flat_cons, Enc.cells]
      rw [es] at H3
      rw [ew2] at H3
      exact ArP.turned (g := g) (h := h) (cap := cap) (sp := sp) H3.re hM.out e hs0 rfl hroom2 (by rw [← ew2]; simpa using hsp)
end
end Go.Proofs.YtogcikilphakmaaGreatDoor
