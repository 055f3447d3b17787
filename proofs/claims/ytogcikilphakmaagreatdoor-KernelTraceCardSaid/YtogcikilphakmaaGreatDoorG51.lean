/-
  Merged texts of one proof: Ke9, Ke10, KeI, KrM.
-/
import Derived.Test.YtogcikilphakmaaGreatDoorG18
import Derived.Test.YtogcikilphakmaaGreatDoorG33
import Derived.Test.YtogcikilphakmaaGreatDoorG46
import Derived.Test.YtogcikilphakmaaGreatDoorG48
import Derived.Test.YtogcikilphakmaaGreatDoorG50

/-
  kernel.Tick. Every kernel.
-/
namespace Go.Proofs.YtogcikilphakmaaGreatDoor
open Go.RowKit Spl

attribute [local go_sem] Oper.semAt_some
section
variable {w0 w : World} {R : List Pr} {S : Hp} {m : KeM} {z : KeV}
set_option maxRecDepth 20000 in
set_option maxHeartbeats 4000000 in
theorem keTickNo (H : Hd w0 (KeL z S m R) w) {n : Int} (hc : 0 ≤ m.ck.now ∧ m.ck.now ≤ 1099511627776) (hn : n < 1 ∨ 1000 < n ∨ 1099511627776 - m.ck.now < n) :
    Calls Tryz.prog 11 #[.pointer (some ⟨z.k, 0, none⟩), .int .i64 n] w fun e w' => e = .returned (.tuple #[.slice none 0 0, .int .i64 1]) ∧ w = w' := by
  obtain ⟨k, cl, rg, y⟩ := z
  have hcn := clkNow (H.k cl)
  have k3 := (show _ = some (Value.pointer (some ⟨cl, 0, none⟩)) from (H.k k).ce 3 rfl)
  have g1 : IntKind.i64.wrap (1099511627776 - m.ck.now) = 1099511627776 - m.ck.now := IntWalk.i64_in _ (by omega)
  obtain ⟨NW, hNW⟩ : ∃ NW, m.ck.now = NW := ⟨_, rfl⟩
  rw [hNW] at hcn g1 hn
  clear hNW H hc
  by_cases n1 : n < 1
  · clear hn
    go_enter Tryz.func11, Tryz.ntmps11
    go_wp2_with fail
    go_ret2
    exact ⟨rfl, rfl⟩
  · by_cases n2 : (1000 : Int) < n
    · clear hn
      go_enter Tryz.func11, Tryz.ntmps11
      go_wp2_with fail
      go_ret2
      exact ⟨rfl, rfl⟩
    · have n3 : 1099511627776 - NW < n := by omega
      clear hn
      go_enter Tryz.func11, Tryz.ntmps11
      go_wp2_with fail
      refine hcn.mono ?_
      rintro e w1 ⟨rfl, rfl⟩
      clear hcn
      go_wp2_with fail
      go_ret2
      exact ⟨rfl, rfl⟩
theorem KeM.ticks_succ {n : Nat} {m : KeM} : m.ticks (n + 1) = (m.tick1.1 ++ (m.tick1.2.ticks n).1, (m.tick1.2.ticks n).2) := rfl
theorem KeM.dues_cons {m : KeM} {i : Int} {l : List Int} : m.dues (i :: l) = (m.gets i.toNat ++ ((m.due i.toNat).dues l).1, ((m.due i.toNat).dues l).2) := rfl
set_option maxRecDepth 20000 in
set_option maxHeartbeats 8000000 in
theorem keTick {n i K : Nat} (P : Nat → KeM → Prop) (hR : ∀ k m, k ≤ K → P k m → KeR m) (hT : ∀ k m, k < K → P k m → P (k + 1) m.tickE) (hD : ∀ k m (j : Nat), k < K → j < m.tk.rows.length → P k m → P (k + 1) (m.due j))
    (hK : i + 65 * n ≤ K) (H : Hd w0 (KeL z S m R) w) (hm : P i m) (h1 : 1 ≤ n) (h2 : n ≤ 1000) (h3 : (n : Int) ≤ 1099511627776 - m.ck.now) :
    Calls Tryz.prog 11 #[.pointer (some ⟨z.k, 0, none⟩), .int .i64 n] w fun e w' => ∃ v, e = .returned (.tuple #[v, .int .i64 0]) ∧ Hd w0 (SlE 37 v (m.ticks n).1 :: KeL z S (m.ticks n).2 R) w' := by
  obtain ⟨k, cl, rg, y⟩ := z
  have hc0 := (hR _ _ (by omega) hm).k
  have hc1 := hc0.n0
  have hc2 := hc0.n1
  have hcn := clkNow (H.k cl)
  have k3 := (show _ = some (Value.pointer (some ⟨cl, 0, none⟩)) from (H.k k).ce 3 rfl)
  have g1 : IntKind.i64.wrap (1099511627776 - m.ck.now) = 1099511627776 - m.ck.now := IntWalk.i64_in _ (by omega)
  obtain ⟨T, hT0⟩ : ∃ T, m.ticks n = T := ⟨_, rfl⟩
  rw [hT0]
  obtain ⟨NW, hNW⟩ : ∃ NW, m.ck.now = NW := ⟨_, rfl⟩
  rw [hNW] at hcn g1 h3
  have n1 : ¬ (n : Int) < 1 := by omega
  have n2 : ¬ (1000 : Int) < n := by omega
  have n3 : ¬ 1099511627776 - NW < n := by omega
  obtain ⟨i0, hwi, hwz0, hwz1, hwz2⟩ := info_parts qInfo_wait
  replace hR := Lib.hid hR
  replace hT := Lib.hid hT
  replace hD := Lib.hid hD
  replace hT0 := Lib.hid hT0
  replace hm := Lib.hid hm
  replace hK := Lib.hid hK
  clear hNW hc0 hc1 hc2 h3
  go_enter Tryz.func11, Tryz.ntmps11
  go_wp2_with fail
  refine hcn.mono ?_
  rintro e w1 ⟨rfl, rfl⟩
  clear hcn k3
  go_wp2_with fail
  go_loopw [6, 30] (fun v y1 wr => ∃ (q : Nat) (v' : Value) (g : List WaitM) (mk : KeM) (c : Nat), q ≤ n ∧ y1 = .int .i64 q ∧ v' = v ∧ T = (g ++ (mk.ticks (n - q)).1, (mk.ticks (n - q)).2) ∧ P c mk ∧ c ≤ i + 65 * q ∧ g.length ≤ 64 * q ∧ Hd w0 (SlE 37 v' g :: KeL ⟨k, cl, rg, y⟩ S mk R) wr) (fun _ y1 _ => n - (intOf y1).toNat)
  case atStart => exact ⟨0, _, [], m, i, Nat.zero_le _, rfl, rfl, by rw [Nat.sub_zero, hT0.out]; rfl, hm.out, by omega, by simp, H.slc_nil 37 3⟩
  case round =>
    obtain ⟨q, v, g, mk, c, hq, rfl, rfl, hTq, hPc, hc, hg, H1⟩ := hrel
    clear H
    by_cases hlt : q < n
    · obtain ⟨q', hq'⟩ : ∃ q', n - q = q' + 1 := ⟨n - q - 1, by omega⟩
      have hKc : c + 65 ≤ K := by have := hK.out; omega
      have hRc := hR.out _ _ (by omega) hPc
      have hPt := hT.out _ _ (by omega) hPc
      have hRt := hR.out _ _ (by omega) hPt
      have hRm : KeR { mk with ck := mk.ck.tick } := ⟨hRc.t, hRc.q, hRc.c, hRc.k.tick, hRc.e, by show mk.ck.tick.l.length = _; rw [← hRc.n]; unfold Clk.tick; split <;> simp⟩
      rw [hq', KeM.ticks_succ] at hTq
      obtain ⟨L, hL⟩ : ∃ L, mk.ck.tickL = L := ⟨_, rfl⟩
      have hLin : ∀ x ∈ L, 0 ≤ x ∧ x < mk.tk.rows.length := fun x hx => by rw [← hRc.n]; exact tickL_in (by rw [hL]; exact hx)
      have hLl : L.length ≤ 64 := by have := tickL_len mk.ck; rw [hL] at this; have := hRc.k.len; omega
      have hct := clkTick (show Hd w0 (Clock cl mk.ck :: SlE 37 v g :: cel k 55 #[.pointer (some ⟨y.x.l, 0, none⟩), .pointer (some ⟨y.x.t, 0, none⟩), .pointer (some ⟨y.d, 0, none⟩), .pointer (some ⟨cl, 0, none⟩), .pointer (some ⟨rg, 0, none⟩)] :: RingP rg mk.ev :: DpL y mk.tk S mk.dp R) wr from H1.re) hRc.k
      rw [hL] at hct
      obtain ⟨er, her⟩ : ∃ er, mk.ck.tickE = er := ⟨_, rfl⟩
      rw [her] at hct
      have k4 := (show _ = some (Value.pointer (some ⟨cl, 0, none⟩)) from (H1.k k).ce 3 rfl)
      unfold KeM.tick1 at hTq
      rw [hL] at hTq
      have hev := fun (w1 : World) (X : List Pr) (h1 : Hd w0 (KeL ⟨k, cl, rg, y⟩ S { mk with ck := mk.ck.tick } X) w1) => keEvent h1 hRm.e evTick
      obtain ⟨me, hme⟩ : ∃ me, mk.tickE = me := ⟨_, rfl⟩
      have hev' : KeM.event { mk with ck := mk.ck.tick } evTick = me := hme
      have htk : me.tk = mk.tk := by rw [← hme]; rfl
      rw [hev'] at hev
      rw [hme] at hTq hPt hRt
      rw [← htk] at hLin
      obtain ⟨N, hN⟩ : ∃ N, L.length = N := ⟨_, rfl⟩
      rw [hN] at hct hLl
      replace hev := Lib.hid hev
      replace hTq := Lib.hid hTq
      replace hPt := Lib.hid hPt
      replace hN := Lib.hid hN
      replace hLin := Lib.hid hLin
      have n4 : (q : Int) < n := by omega
      have g6 : IntKind.i64.wrap ((q : Int) + 1) = (q : Int) + 1 := IntWalk.i64_in _ (by omega)
      replace hq' := Lib.hid hq'
      clear hRt hRm hRc hPc hL hme hev' htk her H1
      go_wp2_with fail
      refine hct.mono ?_
      rintro e w1 ⟨A, rfl, H2⟩
      clear hct k4
      have hec := hev.out _ (Slc 3 1 (.slice A N N) N (L.map (Value.int .i64)) :: SlE 37 v g :: R) H2.re
      go_wp2_with fail
      refine hec.mono ?_
      rintro e w2 ⟨rfl, H3⟩
      clear hec H2
      go_wp2_with fail
      go_loopw [6, 45] (fun u y2 wq => ∃ (s : Nat) (u' : Value) (g2 : List WaitM) (mt : KeM), s ≤ N ∧ y2 = .int .i64 s ∧ u' = u ∧ (g ++ (me.dues L).1, (me.dues L).2) = (g2 ++ (mt.dues (L.drop s)).1, (mt.dues (L.drop s)).2) ∧ P (c + 1 + s) mt ∧ mt.tk.rows.length = me.tk.rows.length ∧ g2.length ≤ 64 * q + s ∧ Hd w0 (SlE 37 u' g2 :: Slc 3 1 (.slice A N N) N (L.map (Value.int .i64)) :: KeL ⟨k, cl, rg, y⟩ S mt R) wq) (fun _ y2 _ => N - (intOf y2).toNat)
      case atStart => exact ⟨0, _, g, me, Nat.zero_le _, rfl, rfl, rfl, hPt.out, rfl, by omega, H3.re⟩
      case round =>
        obtain ⟨s, u, g2, mt, hs, rfl, rfl, hTs, hPs, hrows, hg2, H4⟩ := hrel
        clear H3
        by_cases hls : s < N
        · obtain ⟨x, hx⟩ : ∃ x, L[s]? = some x := ⟨L[s]'(by rw [hN.out]; exact hls), List.getElem?_eq_getElem _⟩
          obtain ⟨hx1, hx2⟩ := hLin.out x (List.mem_of_getElem? hx)
          obtain ⟨j, rfl⟩ := Int.eq_ofNat_of_zero_le hx1
          obtain ⟨rw_, hr⟩ : ∃ r, mt.tk.rows[j]? = some r := ⟨mt.tk.rows[j]'(by rw [hrows]; omega), List.getElem?_eq_getElem _⟩
          have hRs := hR.out _ _ (by omega) hPs
          have hPd := hD.out _ _ j (by omega) (by rw [hrows]; omega) hPs
          have hdr : L.drop s = (j : Int) :: L.drop (s + 1) := drop_at hx
          rw [hdr, KeM.dues_cons, Int.toNat_natCast] at hTs
          have d4 : Hd w0 (Slc 3 1 (.slice A N N) N (L.map (Value.int .i64)) :: SlE 37 u g2 :: KeL ⟨k, cl, rg, y⟩ S mt R) _ := H4.re
          obtain ⟨la, lc, hv, H5⟩ := d4.slc_at (by omega)
          injection hv with e1 e2 e3
          clear e2
          subst e1
          subst e3
          have d5 := H5.slcC_rd (j := s) (u := .int .i64 j) (by rw [List.getElem?_map, hx]; rfl)
          have n5 : (s : Int) < N := by omega
          have n6 : ¬ (s : Int) < 0 := by omega
          have n7 : ¬ N ≤ s := by omega
          have g7 : IntKind.i64.wrap ((s : Int) + 1) = (s : Int) + 1 := IntWalk.i64_in _ (by omega)
          have hdtk := KeM.due_tk mt j
          by_cases hE : mt.dp.releaseE mt.tk j = 0
          · have hdc := keDueB (show Hd w0 (KeL ⟨k, cl, rg, y⟩ S mt (SlE 37 u g2 :: SlcC 3 1 la N N (L.map (Value.int .i64)) :: R)) _ from H5.re) hRs hr hE
            have hdue : mt.due j = mt.took j := by unfold KeM.due; rw [if_pos hE]
            have hgets : mt.gets j = [⟨mt.dp.count, j, rw_.t.lv⟩] := by unfold KeM.gets; rw [if_pos hE, hr]; rfl
            rw [hgets] at hTs
            rw [hdue] at hPd hTs hdtk
            obtain ⟨mu, hmu⟩ : ∃ mu, mt.took j = mu := ⟨_, rfl⟩
            rw [hmu] at hdc hPd hTs hdtk
            rw [← hdtk] at hrows
            obtain ⟨ct, hct⟩ : ∃ ct, mt.dp.count = ct := ⟨_, rfl⟩
            rw [hct] at hdc hTs
            obtain ⟨lv, hlv⟩ : ∃ lv, rw_.t.lv = lv := ⟨_, rfl⟩
            rw [hlv] at hdc hTs
            replace hTs := Lib.hid hTs
            replace hPd := Lib.hid hPd
            replace hrows := Lib.hid hrows
            replace hg2 := Lib.hid hg2
            clear hRs hPs hr hE hdr H4 d4 H5 hdue hgets hmu hct hlv hx hx1 hx2 hdtk
            go_wp2_with fail
            refine hdc.mono ?_
            rintro e w3 ⟨rfl, H6⟩
            clear hdc d5
            have HP : Hd w0 _ (w3.alloc (.cells #[.int .i64 ct, .int .i64 j, .int .i64 lv] 37)) := H6.fol
            have hf := (HP.k w3.heap.size).fact1
            simp only [Nat.reduceAdd] at hf
            go_split_ands
            have HQ : Hd w0 _ ((w3.alloc (.cells #[.int .i64 ct, .int .i64 j, .int .i64 lv] 37)).alloc (.cells #[.int .i64 ct, .int .i64 j, .int .i64 lv] 37)) := HP.fol
            have hQ := Lib.hid HQ
            clear HP HQ H6
            go_wp2_with (at_builtin; refine wpList_append_slc rfl _ _ 45 rfl 37 i0 _ 3 24 Tryz.underlying45 hwi hwz0 hwz1 hwz2 rfl _ _ _ rfl (show Hd w0 (Slc 37 3 u g2.length (flat g2) :: _) _ from hQ.out.v u) ⟨w3.heap.size + 1, 0, none⟩ 1 1 [.int .i64 ct, .int .i64 j, .int .i64 lv] rfl rfl (cel_news (hQ.out.k (w3.heap.size + 1))) (by simp [Value.oneCell']) (by have := hg2.out; unfold maxLen; omega) (by have := hg2.out; omega) ?_; intro v' w5 H20; have H21 := slE_snocW (x := ⟨ct, j, lv⟩) H20)
            go_roundw
            case rel => exact ⟨s + 1, _, _, mu, by omega, by simp, rfl, by rw [hTs.out, List.append_assoc], by rw [← Nat.add_assoc]; exact hPd.out, hrows.out, by have := hg2.out; rw [List.length_append, List.length_singleton]; omega, ((Hd.re H21 : Hd w0 (SlcC 3 1 la N N (L.map (Value.int .i64)) :: SlE 37 v' (g2 ++ [⟨ct, j, lv⟩]) :: KeL ⟨k, cl, rg, y⟩ S mu R) _).slc_mk).re⟩
            case measure => simp [intOf]; omega
          · obtain ⟨E, hE0⟩ : ∃ E, mt.dp.releaseE mt.tk j = E := ⟨_, rfl⟩
            have hdc := keDueA (show Hd w0 (KeL ⟨k, cl, rg, y⟩ S mt (SlE 37 u g2 :: SlcC 3 1 la N N (L.map (Value.int .i64)) :: R)) _ from H5.re) hRs hr rfl hE
            have hdue : mt.due j = mt.event (evLost j) := by unfold KeM.due; rw [if_neg hE]
            have hgets : mt.gets j = [] := by unfold KeM.gets; rw [if_neg hE]
            rw [hgets] at hTs
            rw [hdue] at hPd hTs hdtk
            obtain ⟨mu, hmu⟩ : ∃ mu, mt.event (evLost j) = mu := ⟨_, rfl⟩
            rw [hmu] at hdc hPd hTs hdtk
            rw [← hdtk] at hrows
            replace hTs := Lib.hid hTs
            replace hPd := Lib.hid hPd
            replace hrows := Lib.hid hrows
            replace hg2 := Lib.hid hg2
            clear hRs hPs hr hE hE0 hdr H4 d4 H5 hdue hgets hmu hx hx1 hx2 hdtk
            go_wp2_with fail
            refine hdc.mono ?_
            rintro e w3 ⟨rfl, H6⟩
            clear hdc d5
            have H7 : Hd w0 (Slc 3 1 (.slice (some ⟨la, 0, none⟩) N N) N (L.map (Value.int .i64)) :: SlE 37 u g2 :: KeL ⟨k, cl, rg, y⟩ S mu R) w3 := (Hd.re H6 : Hd w0 (SlcC 3 1 la N N (L.map (Value.int .i64)) :: SlE 37 u g2 :: KeL ⟨k, cl, rg, y⟩ S mu R) w3).slc_mk
            go_wp2_with fail
            go_roundw
            case rel => exact ⟨s + 1, _, g2, mu, by omega, by simp, rfl, hTs.out, by rw [← Nat.add_assoc]; exact hPd.out, hrows.out, by have := hg2.out; omega, Hd.fin H7⟩
            case measure => simp [intOf]; omega
        · obtain rfl : s = N := by omega
          have hd0 : L.drop s = [] := by rw [List.drop_eq_nil_iff, hN.out]; exact Nat.le_refl _
          rw [hd0] at hTs
          have e1 : g ++ (me.dues L).1 = g2 := by have := congrArg Prod.fst hTs; simpa [KeM.dues] using this
          have e2 : (me.dues L).2 = mt := by have := congrArg Prod.snd hTs; simpa [KeM.dues] using this
          replace hTq := hTq.out
          rw [e2, ← List.append_assoc, e1] at hTq
          replace hTq := Lib.hid hTq
          replace hPs := Lib.hid hPs
          clear hd0 hTs e1 e2 hrows
          go_wp2_with fail
          go_roundw
          case rel => exact ⟨q + 1, _, g2, mt, _, by omega, by simp, rfl, by rw [hTq.out, show n - (q + 1) = q' by have := hq'.out; omega], hPs.out, by omega, by omega, H4.re⟩
          case measure => simp [intOf]; omega
    · obtain rfl : q = n := by omega
      rw [Nat.sub_self] at hTq
      have e1 : T.1 = g := by rw [hTq]; simp [KeM.ticks]
      have e2 : T.2 = mk := by rw [hTq]; rfl
      replace e1 := Lib.hid e1
      replace e2 := Lib.hid e2
      clear hTq hPc
      rcases H1.slc with ⟨rfl, hz, -, -⟩ | ⟨ga, ca, rfl, HC⟩
      · rw [hz] at *
        go_wp2_with fail
        go_ret2
        exact ⟨_, rfl, by rw [e1.out, e2.out]; exact H1⟩
      · have hcap := HC.slcC.2.1
        have m1 : (0 : Int) ≤ g.length := by omega
        have m2 : (g.length : Int) ≤ ca := by omega
        go_wp2_with fail
        go_ret2
        exact ⟨_, rfl, by rw [e1.out, e2.out]; exact HC.clip.slc_mk⟩
end
end Go.Proofs.YtogcikilphakmaaGreatDoor

/-
  tasks.New and kernel.New where they refuse; kernel.Run where it refuses. Every number, every list.
-/
namespace Go.Proofs.YtogcikilphakmaaGreatDoor
open Go.RowKit Spl

attribute [local go_sem] Oper.semAt_some
section
variable {w0 w : World} {R : List Pr} {S : Hp} {m : KeM} {z : KeV}
set_option maxRecDepth 20000 in
set_option maxHeartbeats 1600000 in
theorem tkNewNo (H : Hd w0 R w) {words : Int} {units : List Int} {v : Value} (hs : Srd w0 R v units) {E : Int} (hc : newTk words units = E) (h0 : ¬ E = 0) :
    Calls Tryz.prog 22 #[.int .i64 words, v] w fun e w' => e = .returned (.tuple #[.pointer none, .int .i64 E]) ∧ w = w' := by
  obtain ⟨a, c, hv⟩ := hs.form
  subst hv
  unfold newTk at hc
  by_cases n1 : words < 0
  · rw [if_pos (.inl n1)] at hc
    subst hc
    clear hs
    go_enter Tryz.func22, Tryz.ntmps22
    go_wp2_with fail
    go_ret2
    exact ⟨rfl, rfl⟩
  · by_cases n2 : 65536 < words
    · rw [if_pos (.inr n2)] at hc
      subst hc
      clear hs
      go_enter Tryz.func22, Tryz.ntmps22
      go_wp2_with fail
      go_ret2
      exact ⟨rfl, rfl⟩
    · rw [if_neg (by omega)] at hc
      by_cases n3 : (16 : Int) < units.length
      · rw [if_pos n3] at hc
        subst hc
        clear hs
        go_enter Tryz.func22, Tryz.ntmps22
        go_wp2_with fail
        go_ret2
        exact ⟨rfl, rfl⟩
      · rw [if_neg n3] at hc
        split at hc
        · exact absurd hc.symm h0
        · rename_i hall
          subst hc
          replace hs := Lib.hid hs
          replace hall : Hid (¬ ∀ (j : Nat) (y : Int), units[j]? = some y → 1 ≤ y ∧ y ≤ 255) := Lib.hid fun hh => hall (List.all_eq_true.2 fun x hx => by
            obtain ⟨j, hj⟩ := List.getElem?_of_mem hx
            have := hh j x hj
            simp; omega)
          clear h0
          go_enter Tryz.func22, Tryz.ntmps22
          go_wp2_with fail
          go_loop [21] (fun x => ∃ k : Nat, k ≤ units.length ∧ x = .int .i64 k ∧ Hid (∀ (j : Nat) (y : Int), j < k → units[j]? = some y → 1 ≤ y ∧ y ≤ 255)) (fun x => units.length - (intOf x).toNat)
          case atStart => exact ⟨0, Nat.zero_le _, rfl, Lib.hid fun j y hj => absurd hj (Nat.not_lt_zero _)⟩
          case round =>
            obtain ⟨k, hk, rfl, hbef⟩ := hrel
            by_cases hlt : k < units.length
            · obtain ⟨x, hx⟩ : ∃ x, units[k]? = some x := ⟨units[k], List.getElem?_eq_getElem hlt⟩
              obtain ⟨g, c2, hv2, -, hcell⟩ := hs.out.at hx
              injection hv2 with q1 q2 q3
              subst q1; subst q3
              have f0 := hcell H 0 _ rfl
              simp only [Enc.size, Nat.add_zero, Nat.mul_one] at f0
              have n4 : ¬ (k : Int) < 0 := by omega
              have n5 : (k : Int) < units.length := by omega
              have n6 : ¬ units.length ≤ k := by omega
              have g5 : IntKind.i64.wrap ((k : Int) + 1) = (k : Int) + 1 := IntWalk.i64_in _ (by omega)
              replace hx := Lib.hid hx
              clear hcell q2
              by_cases n7 : x < 1
              · go_wp2_with fail
                go_ret2
                exact ⟨rfl, rfl⟩
              · by_cases n8 : 255 < x
                · go_wp2_with fail
                  go_ret2
                  exact ⟨rfl, rfl⟩
                · go_wp2_with fail
                  go_round
                  case rel =>
                    refine ⟨k + 1, by omega, by simp, Lib.hid fun j y hj hy => ?_⟩
                    by_cases hjk : j = k
                    · subst hjk
                      rw [hx.out] at hy
                      injection hy with hy
                      omega
                    · exact hbef.out j y (by omega) hy
                  case measure => simp [intOf]; omega
            · exact absurd (fun j y hy => hbef.out j y (by have := lt_of_get? hy; omega) hy) hall.out
set_option maxRecDepth 20000 in
set_option maxHeartbeats 1600000 in
theorem keNewNo (H : Hd w0 R w) {words : Int} {units : List Int} {v : Value} (hs : Srd w0 R v units) {E : Int} (hc : newTk words units = E) (h0 : ¬ E = 0) :
    Calls Tryz.prog 5 #[.agg #[.int .i64 words, v]] w fun e w' => e = .returned (.tuple #[.pointer none, .int .i64 E]) ∧ Hd w0 R w' := by
  obtain ⟨a, c, hv⟩ := hs.form
  subst hv
  have H0 : Hd w0 _ (w.alloc (.cells #[.int .i64 words, .slice a units.length c] 28)) := H.fol
  have h1 := tkNewNo H0 (hs.of fun h => h.tail) hc h0
  have hf := (H0.k w.heap.size).fact1
  simp only [Nat.reduceAdd] at hf
  go_split_ands
  replace hs := Lib.hid hs
  replace hc := Lib.hid hc
  clear H
  go_enter Tryz.func5, Tryz.ntmps5
  go_wp2_with fail
  refine h1.mono ?_
  rintro e w1 ⟨rfl, rfl⟩
  clear h1
  go_wp2_with fail
  go_ret2
  exact ⟨rfl, H0.re⟩
set_option maxRecDepth 20000 in
theorem keRunNo {n : Int} (hn : n < 0 ∨ 4096 < n) (w : World) (k : Nat) :
    Calls Tryz.prog 14 #[.pointer (some ⟨k, 0, none⟩), .int .i64 n] w fun e w' => e = .returned (.tuple #[.int .i64 0, .int .i64 1]) ∧ w = w' := by
  by_cases n1 : n < 0
  · clear hn
    go_enter Tryz.func14, Tryz.ntmps14
    go_wp2_with fail
    go_ret2
    exact ⟨rfl, rfl⟩
  · have n2 : 4096 < n := by omega
    clear hn
    go_enter Tryz.func14, Tryz.ntmps14
    go_wp2_with fail
    go_ret2
    exact ⟨rfl, rfl⟩
end
end Go.Proofs.YtogcikilphakmaaGreatDoor

/-
  The kernel's calls under its plain law: Register, Release, Tick, Step, Run, Left. Every kernel that calls can make.
-/
namespace Go.Proofs.YtogcikilphakmaaGreatDoor
open Go.RowKit Spl

theorem allL_in {qs : List (List WaitM)} : ∀ {n : Nat} {y : WaitM × Nat}, y ∈ allL qs n → ∃ (k : Nat) (l : List WaitM), qs[k]? = some l ∧ y.1 ∈ l
  | 0, y, h => by cases h
  | n + 1, y, h => by
    have h2 : y ∈ (qs[n]?.getD []).map (fun x => (x, n + 1)) ++ allL qs n := h
    rcases List.mem_append.1 h2 with h3 | h3
    · obtain ⟨x, hx, rfl⟩ := List.mem_map.1 h3
      cases hq : qs[n]? with
      | none => rw [hq] at hx; cases hx
      | some l => rw [hq] at hx; exact ⟨n, l, hq, hx⟩
    · exact allL_in h3
theorem listQ_in {qs : List (List WaitM)} {x : WaitM} (h : x ∈ listQ qs) : ∃ (k : Nat) (l : List WaitM), qs[k]? = some l ∧ x ∈ l := by
  obtain ⟨y, hy, rfl⟩ := List.mem_map.1 h
  exact allL_in hy
namespace KeI
variable {m : KeM} {n : Nat}
theorem dues : ∀ {l : List Int} {m : KeM} {n : Nat} (_ : KeI m n) (_ : n + l.length ≤ 4611686018427387904), KeI (m.dues l).2 (n + l.length)
  | [], m, n, h, hn => h
  | i :: l, m, n, h, hn => by
    rw [List.length_cons] at hn ⊢
    have := dues (l := l) (h.due (by omega) i.toNat) (by omega)
    rw [show n + (l.length + 1) = n + 1 + l.length by omega]
    exact this
theorem tick1 (h : KeI m n) (hn : n + 65 ≤ 4611686018427387904) : KeI m.tick1.2 (n + 65) := by
  have h1 := tickL_len m.ck
  have h2 := h.k.len
  exact (dues (l := m.ck.tickL) (h.tickE (by omega)) (by omega)).more (by omega)
theorem ticks : ∀ {k : Nat} {m : KeM} {n : Nat} (_ : KeI m n) (_ : n + 65 * k ≤ 4611686018427387904), KeI (m.ticks k).2 (n + 65 * k)
  | 0, m, n, h, hn => h
  | k + 1, m, n, h, hn => by
    have := ticks (k := k) (h.tick1 (by omega)) (by omega)
    rw [show n + 65 * (k + 1) = n + 65 + 65 * k by omega]
    exact this
theorem run : ∀ {k : Nat} {m : KeM} {n : Nat} (_ : KeI m n) (_ : n + 3 * k ≤ 4611686018427387904), KeI (m.run k).2 (n + 3 * k)
  | 0, m, n, h, hn => h
  | k + 1, m, n, h, hn => by
    unfold KeM.run
    split
    · exact (h.step (by omega)).more (by omega)
    · have := run (k := k) (h.step (by omega)) (by omega)
      rw [show n + 3 * (k + 1) = n + 3 + 3 * k by omega]
      exact this
theorem lokJ (h : KeI m n) : ∀ j ∈ m.dp.co.jobs, LOk m.tk j.task j.pos := by
  intro j hj
  obtain ⟨r, hr, e1, e2⟩ := (h.d.c.j j hj).r
  have := (h.d.c.j j hj).p
  rw [← e2] at this
  refine ⟨by omega, r, by rw [Int.toNat_natCast]; exact hr, by omega, by omega⟩
theorem lokQ (h : KeI m n) {k : Nat} {l : List WaitM} {x : WaitM} (hk : m.dp.wq.qs[k]? = some l) (hx : x ∈ l) : LOk m.tk x.task 0 := by
  obtain ⟨r, hr, e⟩ := h.d.r k l x hk hx
  exact ⟨(h.d.q.e k l x hk hx).1, r, hr, by omega, by omega⟩
end KeI
section
variable {w0 w : World} {R : List Pr} {S : Hp} {m : KeM} {z : KeV} {k : Nat}
theorem keStepI (H : Hd w0 (KeL z S m R) w) (h : KeI m k) (hk : k + 4 ≤ 4611686018427387904) :
    Calls Tryz.prog 10 #[.pointer (some ⟨z.k, 0, none⟩)] w fun e w' => e = .returned (.agg (didA m.step.1)) ∧ ∃ S', Le S S' ∧ Hd w0 (KeL z S' m.step.2 R) w' :=
  keStep H h.dpS h.e (by have := h.eg; omega)
theorem keRunI {n : Nat} (H : Hd w0 (KeL z S m R) w) (h : KeI m k) (hn : n ≤ 4096) (hk : k + 3 * n + 4 ≤ 4611686018427387904) :
    Calls Tryz.prog 14 #[.pointer (some ⟨z.k, 0, none⟩), .int .i64 n] w fun e w' => e = .returned (.tuple #[.int .i64 (m.run n).1, .int .i64 0]) ∧ ∃ S', Le S S' ∧ Hd w0 (KeL z S' (m.run n).2 R) w' :=
  keRun (i := 0) (fun i m => KeI m (k + 3 * i)) (fun i m hi hP => ⟨hP.dpS, hP.e, by have := hP.eg; omega⟩) (fun i m hi hP => by
    have := hP.step (by omega)
    rw [show k + 3 * (i + 1) = k + 3 * i + 3 by omega]
    exact this) H h hn
theorem keTickI {n : Nat} (H : Hd w0 (KeL z S m R) w) (h : KeI m k) (h1 : 1 ≤ n) (h2 : n ≤ 1000) (h3 : (n : Int) ≤ 1099511627776 - m.ck.now) (hk : k + 65 * n + 1 ≤ 4611686018427387904) :
    Calls Tryz.prog 11 #[.pointer (some ⟨z.k, 0, none⟩), .int .i64 n] w fun e w' => ∃ v, e = .returned (.tuple #[v, .int .i64 0]) ∧ Hd w0 (SlE 37 v (m.ticks n).1 :: KeL z S (m.ticks n).2 R) w' :=
  keTick (i := k) (K := k + 65 * n) (fun i m => KeI m i) (fun i m hi hP => hP.keR (by omega)) (fun i m hi hP => hP.tickE (by omega)) (fun i m j hi _ hP => hP.due (by omega) j) (Nat.le_refl _) H h h1 h2 h3
theorem keReleaseI (H : Hd w0 (KeL z S m R) w) (h : KeI m k) (hk : k + 1 ≤ 4611686018427387904) (task : Int) :
    Calls Tryz.prog 9 #[.pointer (some ⟨z.k, 0, none⟩), .int .i64 task] w fun r w' => r = .returned (.tuple #[.int .i64 (if m.releaseE task = 0 then m.dp.count else -1), .int .i64 (m.releaseE task)]) ∧ Hd w0 (KeL z S (m.release task) R) w' := by
  have hR := h.keR (by omega)
  unfold KeM.release
  by_cases hr : m.ck.ready task = 0
  · obtain ⟨i, r, rfl, hrow⟩ := ready_pos hR hr
    have e1 : m.releaseE i = m.dp.releaseE m.tk i := by unfold KeM.releaseE; rw [if_pos hr, Int.toNat_natCast]
    rw [e1, Int.toNat_natCast]
    by_cases hD : m.dp.releaseE m.tk i = 0
    · rw [hD, if_pos rfl, if_pos rfl]
      exact keReleaseC H hR hrow hr hD
    · rw [if_neg hD, if_neg hD]
      exact keReleaseB H hR hrow hr rfl hD
  · have e1 : m.releaseE task = m.ck.ready task := by unfold KeM.releaseE; rw [if_neg hr]
    rw [e1, if_neg hr, if_neg hr]
    exact keReleaseA H hR rfl hr
theorem keRegisterI [Lay w0 R] (H : Hd w0 (KeL z S m R) w) (h : KeI m k) (hk : k + 1 ≤ 4611686018427387904) (x : TaskM) {nv : Value} (hs : Srd w0 R nv x.needs) (hL : x.needs.length ≤ 100000) :
    Calls Tryz.prog 6 #[.pointer (some ⟨z.k, 0, none⟩), taskA x nv] w fun e w' => e = .returned (.tuple #[.int .i64 (if m.checkE x = 0 then m.tk.rows.length else -1), .int .i64 (m.checkE x)]) ∧ ∃ S', Le S S' ∧ Hd w0 (KeL z S' (m.register x) R) w' :=
  keRegister H h.keC (h.keR (by omega)) x hs hL
theorem keLeftI (H : Hd w0 (KeL z S m R) w) (h : KeI m k) :
    Calls Tryz.prog 17 #[.pointer (some ⟨z.k, 0, none⟩)] w fun e w' => e = .returned (.int .i64 m.left) ∧ Hd w0 (KeL z S m R) w' :=
  keLeft H h.t.t h.d.q.ok (by have := (h.d.c.few h.t.t).1; omega) h.lokJ (fun x hx => by
    obtain ⟨i, l, hl, hxl⟩ := listQ_in hx
    exact h.lokQ hl hxl)
end
end Go.Proofs.YtogcikilphakmaaGreatDoor

/-
  KernelRuns' states, reckoned. No program in sight.
-/
namespace Go.Proofs.YtogcikilphakmaaGreatDoor
open Go.RowKit Spl

def loT : TaskM := ⟨⟨#[108, 111]⟩, 1, 4, [⟨0, 1⟩], ⟨#[108, 111, 99, 107, 32, 48, 32, 49, 59, 32, 112, 117, 115, 104, 32, 53, 59, 32, 115, 116, 111, 114, 101, 32, 48, 59, 32, 117, 110, 108, 111, 99, 107, 32, 48]⟩, 0, 0, 0⟩
def hiT : TaskM := ⟨⟨#[104, 105]⟩, 3, 6, [⟨0, 1⟩], ⟨#[108, 111, 99, 107, 32, 48, 32, 49, 59, 32, 108, 111, 97, 100, 32, 48]⟩, 3, 2, 0⟩
def x1T : TaskM := ⟨⟨#[120]⟩, 2, 1, [], ⟨#[]⟩, 0, 0, 0⟩
def x2T : TaskM := ⟨⟨#[120]⟩, 3, 6, [], ⟨#[]⟩, 0, 0, 0⟩
def y1T : TaskM := ⟨⟨#[121]⟩, 1, 0, [⟨0, 1⟩], ⟨#[]⟩, 0, 0, 0⟩
def y2T : TaskM := ⟨⟨#[121]⟩, 1, 0, [], ⟨#[]⟩, 0, 0, 0⟩
def q0 : KeM := KeM.new 10 [1]
def q1 : KeM := q0.register loT
def q2 : KeM := q1.register hiT
def q3 : KeM := q2.register x2T
def q4 : KeM := q3.release 0
def q5 : KeM := q4.step.2
def q6 : KeM := (q5.ticks 2).2
def q7 : KeM := q6.register y2T
def q8 : KeM := (q7.run 5).2
def q9 : KeM := (q8.run 9).2
theorem q0_new : newTk 10 [1] = 0 ∧ newTk (-1) [] = 1 := by decide
theorem q0_lo : q0.checkE loT = 0 := by kernel_rfl
theorem q1_hi : q1.checkE hiT = 0 ∧ q1.tk.rows.length = 1 := ⟨by kernel_rfl, by kernel_rfl⟩
theorem q2_x1 : q2.checkE x1T = 25 := by kernel_rfl
theorem q2_x2 : q2.checkE x2T = 0 ∧ q2.tk.rows.length = 2 := ⟨by kernel_rfl, by kernel_rfl⟩
theorem q3_r : q3.releaseE 0 = 0 ∧ q3.dp.count = 0 := ⟨by kernel_rfl, by kernel_rfl⟩
theorem q4_s : q4.step.1.started = true ∧ q4.step.1.done.op.kind = 1 := ⟨by kernel_rfl, by kernel_rfl⟩
theorem q5_t : (q5.ticks 2).1 = [⟨1, 1, 3⟩] ∧ q5.ck.now = 0 ∧ topI q6.dp.co.ce = 3 := ⟨by kernel_rfl, by kernel_rfl, by kernel_rfl⟩
theorem q6_y : q6.checkE y1T = 24 ∧ q6.checkE y2T = 0 ∧ q6.tk.rows.length = 3 := ⟨by kernel_rfl, by kernel_rfl, by kernel_rfl⟩
theorem q7_r : (q7.run 5).1 = 5 := by kernel_rfl
theorem q8_r : (q8.run 9).1 = 2 ∧ q9.left = 0 := ⟨by kernel_rfl, by kernel_rfl⟩
theorem q9_e : q9.releaseE 1 = 40 ∧ q9.releaseE 9 = 1 ∧ q9.ck.now = 2 ∧ q9.ev.gone = 0 := ⟨by kernel_rfl, by kernel_rfl, by kernel_rfl, by kernel_rfl⟩
theorem q9_v : (q9.ev.l.map (·.kind)).take 7 = [1, 1, 1, 2, 4, 5, 7] := by kernel_rfl
theorem q8_f : placeM q8.dp.co.jobs 1 = (1 : Nat) ∧ q8.dp.co.ar.fr[1]? = some ⟨6, [5]⟩ := ⟨by kernel_rfl, by kernel_rfl⟩
theorem q_inv : KeI q0 0 ∧ KeI q1 1 ∧ KeI q2 2 ∧ KeI q3 3 ∧ KeI q4 4 ∧ KeI q5 7 ∧ KeI q6 137 ∧ KeI q7 138 ∧ KeI q8 153 ∧ KeI q9 180 := by
  have h0 : KeI q0 0 := KeI.new (by decide) (by decide)
  have h1 : KeI q1 1 := h0.register (by decide) loT
  have h2 : KeI q2 2 := h1.register (by decide) hiT
  have h3 : KeI q3 3 := h2.register (by decide) x2T
  have h4 : KeI q4 4 := h3.release (by decide) 0
  have h5 : KeI q5 7 := h4.step (by decide)
  have h6 : KeI q6 137 := h5.ticks (k := 2) (by decide)
  have h7 : KeI q7 138 := h6.register (by decide) y2T
  have h8 : KeI q8 153 := h7.run (k := 5) (by decide)
  have h9 : KeI q9 180 := h8.run (k := 9) (by decide)
  exact ⟨h0, h1, h2, h3, h4, h5, h6, h7, h8, h9⟩
/-- All that the walk asks, of letters. -/
structure Sc13 (p0 p1 p2 p3 p4 p5 p6 p7 p8 p9 : KeM) : Prop where
  e0 : KeM.new 10 [1] = p0
  e1 : p0.register loT = p1
  e2 : p1.register hiT = p2
  e3 : p2.register x2T = p3
  e4 : p3.release 0 = p4
  e5 : p4.step.2 = p5
  e6 : (p5.ticks 2).2 = p6
  e7 : p6.register y2T = p7
  e8 : (p7.run 5).2 = p8
  e9 : (p8.run 9).2 = p9
  i0 : KeI p0 0
  i1 : KeI p1 1
  i2 : KeI p2 2
  i3 : KeI p3 3
  i4 : KeI p4 4
  i5 : KeI p5 7
  i6 : KeI p6 137
  i7 : KeI p7 138
  i8 : KeI p8 153
  i9 : KeI p9 180
  r0 : p0.checkE loT = 0
  r0l : p0.tk.rows.length = 0
  r1 : p1.checkE hiT = 0
  r1l : p1.tk.rows.length = 1
  r2 : p2.checkE x1T = 25
  r2x : p2.checkE x2T = 0
  r2l : p2.tk.rows.length = 2
  r3 : p3.releaseE 0 = 0
  r3c : p3.dp.count = 0
  r4 : p4.step.1.started = true
  r4k : p4.step.1.done.op.kind = 1
  r5 : (p5.ticks 2).1 = [⟨1, 1, 3⟩]
  r5n : p5.ck.now = 0
  r6 : topI p6.dp.co.ce = 3
  r6y : p6.checkE y1T = 24
  r6z : p6.checkE y2T = 0
  r6l : p6.tk.rows.length = 3
  r7 : (p7.run 5).1 = 5
  r8 : (p8.run 9).1 = 2
  r8p : placeM p8.dp.co.jobs 1 = (1 : Nat)
  r8f : p8.dp.co.ar.fr[1]? = some ⟨6, [5]⟩
  r9l : p9.left = 0
  r9a : p9.releaseE 1 = 40
  r9b : p9.releaseE 9 = 1
  r9n : p9.ck.now = 2
  r9g : p9.ev.gone = 0
  r9v : (p9.ev.l.map (·.kind)).take 7 = [1, 1, 1, 2, 4, 5, 7]
theorem sc13 : ∃ p0 p1 p2 p3 p4 p5 p6 p7 p8 p9 : KeM, Sc13 p0 p1 p2 p3 p4 p5 p6 p7 p8 p9 :=
  ⟨q0, q1, q2, q3, q4, q5, q6, q7, q8, q9, rfl, rfl, rfl, rfl, rfl, rfl, rfl, rfl, rfl, rfl,
    q_inv.1, q_inv.2.1, q_inv.2.2.1, q_inv.2.2.2.1, q_inv.2.2.2.2.1, q_inv.2.2.2.2.2.1, q_inv.2.2.2.2.2.2.1, q_inv.2.2.2.2.2.2.2.1, q_inv.2.2.2.2.2.2.2.2.1, q_inv.2.2.2.2.2.2.2.2.2,
    q0_lo, by kernel_rfl, q1_hi.1, q1_hi.2, q2_x1, q2_x2.1, q2_x2.2, q3_r.1, q3_r.2, q4_s.1, q4_s.2, q5_t.1, q5_t.2.1, q5_t.2.2, q6_y.1, q6_y.2.1, q6_y.2.2, q7_r, q8_r.1, q8_f.1, q8_f.2, q8_r.2, q9_e.1, q9_e.2.1, q9_e.2.2.1, q9_e.2.2.2, q9_v⟩
end Go.Proofs.YtogcikilphakmaaGreatDoor
