/-
  Merged texts of one proof: Ke9.
-/
import Derived.Test.YtogcikilphakmaaGreatDoorG11
import Derived.Test.YtogcikilphakmaaGreatDoorG30
import Derived.Test.YtogcikilphakmaaGreatDoorG36
import Derived.Test.YtogcikilphakmaaGreatDoorG49

/-
  kernel.Tick. Every kernel.
-/
namespace Go.Proofs.YtogcikilphakmaaGreatDoor
open Go.RowKit Spl

attribute [local go_sem] Oper.semAt_some
section
variable {w0 w : World} {R : List Pr} {S : Hp} {m : KeM} {z : KeV}
set_option maxRecDepth 20000 in
set_option maxHeartbeats 4000000 in
theorem keTickNo (H : Hd w0 (KeL z S m R) w) {n : Int} (hc : 0 ≤ m.ck.now ∧ m.ck.now ≤ 1099511627776) (hn : n < 1 ∨ 1000 < n ∨ 1099511627776 - m.ck.now < n) :
    Calls Tryz.prog 11 #[.pointer (some ⟨z.k, 0, none⟩), .int .i64 n] w fun e w' => e = .returned (.tuple #[.slice none 0 0, .int .i64 1]) ∧ w = w' := by
  obtain ⟨k, cl, rg, y⟩ := z
  have hcn := clkNow (H.k cl)
  have k3 := (show _ = some (Value.pointer (some ⟨cl, 0, none⟩)) from (H.k k).ce 3 rfl)
  have g1 : IntKind.i64.wrap (1099511627776 - m.ck.now) = 1099511627776 - m.ck.now := IntWalk.i64_in _ (by omega)
  obtain ⟨NW, hNW⟩ : ∃ NW, m.ck.now = NW := ⟨_, rfl⟩
  rw [hNW] at hcn g1 hn
  clear hNW H hc
  by_cases n1 : n < 1
  · clear hn
    go_enter Tryz.func11, Tryz.ntmps11
    go_wp2_with fail
    go_ret2
    exact ⟨rfl, rfl⟩
  · by_cases n2 : (1000 : Int) < n
    · clear hn
      go_enter Tryz.func11, Tryz.ntmps11
      go_wp2_with fail
      go_ret2
      exact ⟨rfl, rfl⟩
    · have n3 : 1099511627776 - NW < n := by omega
      clear hn
      go_enter Tryz.func11, Tryz.ntmps11
      go_wp2_with fail
      refine hcn.mono ?_
      rintro e w1 ⟨rfl, rfl⟩
      clear hcn
      go_wp2_with fail
      go_ret2
      exact ⟨rfl, rfl⟩
theorem KeM.ticks_succ {n : Nat} {m : KeM} : m.ticks (n + 1) = (m.tick1.1 ++ (m.tick1.2.ticks n).1, (m.tick1.2.ticks n).2) := rfl
theorem KeM.dues_cons {m : KeM} {i : Int} {l : List Int} : m.dues (i :: l) = (m.gets i.toNat ++ ((m.due i.toNat).dues l).1, ((m.due i.toNat).dues l).2) := rfl
set_option maxRecDepth 20000 in
set_option maxHeartbeats 8000000 in
theorem keTick {n i K : Nat} (P : Nat → KeM → Prop) (hR : ∀ k m, k ≤ K → P k m → KeR m) (hT : ∀ k m, k < K → P k m → P (k + 1) m.tickE) (hD : ∀ k m (j : Nat), k < K → j < m.tk.rows.length → P k m → P (k + 1) (m.due j))
    (hK : i + 65 * n ≤ K) (H : Hd w0 (KeL z S m R) w) (hm : P i m) (h1 : 1 ≤ n) (h2 : n ≤ 1000) (h3 : (n : Int) ≤ 1099511627776 - m.ck.now) :
    Calls Tryz.prog 11 #[.pointer (some ⟨z.k, 0, none⟩), .int .i64 n] w fun e w' => ∃ v, e = .returned (.tuple #[v, .int .i64 0]) ∧ Hd w0 (SlE 37 v (m.ticks n).1 :: KeL z S (m.ticks n).2 R) w' := by
  obtain ⟨k, cl, rg, y⟩ := z
  have hc0 := (hR _ _ (by omega) hm).k
  have hc1 := hc0.n0
  have hc2 := hc0.n1
  have hcn := clkNow (H.k cl)
  have k3 := (show _ = some (Value.pointer (some ⟨cl, 0, none⟩)) from (H.k k).ce 3 rfl)
  have g1 : IntKind.i64.wrap (1099511627776 - m.ck.now) = 1099511627776 - m.ck.now := IntWalk.i64_in _ (by omega)
  obtain ⟨T, hT0⟩ : ∃ T, m.ticks n = T := ⟨_, rfl⟩
  rw [hT0]
  obtain ⟨NW, hNW⟩ : ∃ NW, m.ck.now = NW := ⟨_, rfl⟩
  rw [hNW] at hcn g1 h3
  have n1 : ¬ (n : Int) < 1 := by omega
  have n2 : ¬ (1000 : Int) < n := by omega
  have n3 : ¬ 1099511627776 - NW < n := by omega
  obtain ⟨i0, hwi, hwz0, hwz1, hwz2⟩ := info_parts qInfo_wait
  replace hR := Lib.hid hR
  replace hT := Lib.hid hT
  replace hD := Lib.hid hD
  replace hT0 := Lib.hid hT0
  replace hm := Lib.hid hm
  replace hK := Lib.hid hK
  clear hNW hc0 hc1 hc2 h3
  go_enter Tryz.func11, Tryz.ntmps11
  go_wp2_with fail
  refine hcn.mono ?_
  rintro e w1 ⟨rfl, rfl⟩
  clear hcn k3
  go_wp2_with fail
  go_loopw [6, 30] (fun v y1 wr => ∃ (q : Nat) (v' : Value) (g : List WaitM) (mk : KeM) (c : Nat), q ≤ n ∧ y1 = .int .i64 q ∧ v' = v ∧ T = (g ++ (mk.ticks (n - q)).1, (mk.ticks (n - q)).2) ∧ P c mk ∧ c ≤ i + 65 * q ∧ g.length ≤ 64 * q ∧ Hd w0 (SlE 37 v' g :: KeL ⟨k, cl, rg, y⟩ S mk R) wr) (fun _ y1 _ => n - (intOf y1).toNat)
  case atStart => exact ⟨0, _, [], m, i, Nat.zero_le _, rfl, rfl, by rw [Nat.sub_zero, hT0.out]; rfl, hm.out, by omega, by simp, H.slc_nil 37 3⟩
  case round =>
    obtain ⟨q, v, g, mk, c, hq, rfl, rfl, hTq, hPc, hc, hg, H1⟩ := hrel
    clear H
    by_cases hlt : q < n
    · obtain ⟨q', hq'⟩ : ∃ q', n - q = q' + 1 := ⟨n - q - 1, by omega⟩
      have hKc : c + 65 ≤ K := by have := hK.out; omega
      have hRc := hR.out _ _ (by omega) hPc
      have hPt := hT.out _ _ (by omega) hPc
      have hRt := hR.out _ _ (by omega) hPt
      have hRm : KeR { mk with ck := mk.ck.tick } := ⟨hRc.t, hRc.q, hRc.c, hRc.k.tick, hRc.e, by show mk.ck.tick.l.length = _; rw [← hRc.n]; unfold Clk.tick; split <;> simp⟩
      rw [hq', KeM.ticks_succ] at hTq
      obtain ⟨L, hL⟩ : ∃ L, mk.ck.tickL = L := ⟨_, rfl⟩
      have hLin : ∀ x ∈ L, 0 ≤ x ∧ x < mk.tk.rows.length := fun x hx => by rw [← hRc.n]; exact tickL_in (by rw [hL]; exact hx)
      have hLl : L.length ≤ 64 := by have := tickL_len mk.ck; rw [hL] at this; have := hRc.k.len; omega
      have hct := clkTick (show Hd w0 (Clock cl mk.ck :: SlE 37 v g :: cel k 55 #[.pointer (some ⟨y.x.l, 0, none⟩), .pointer (some ⟨y.x.t, 0, none⟩), .pointer (some ⟨y.d, 0, none⟩), .pointer (some ⟨cl, 0, none⟩), .pointer (some ⟨rg, 0, none⟩)] :: RingP rg mk.ev :: DpL y mk.tk S mk.dp R) wr from H1.re) hRc.k
      rw [hL] at hct
      obtain ⟨er, her⟩ : ∃ er, mk.ck.tickE = er := ⟨_, rfl⟩
      rw [her] at hct
      have k4 := (show _ = some (Value.pointer (some ⟨cl, 0, none⟩)) from (H1.k k).ce 3 rfl)
      unfold KeM.tick1 at hTq
      rw [hL] at hTq
      have hev := fun (w1 : World) (X : List Pr) (h1 : Hd w0 (KeL ⟨k, cl, rg, y⟩ S { mk with ck := mk.ck.tick } X) w1) => keEvent h1 hRm.e evTick
      obtain ⟨me, hme⟩ : ∃ me, mk.tickE = me := ⟨_, rfl⟩
      have hev' : KeM.event { mk with ck := mk.ck.tick } evTick = me := hme
      have htk : me.tk = mk.tk := by rw [← hme]; rfl
      rw [hev'] at hev
      rw [hme] at hTq hPt hRt
      rw [← htk] at hLin
      obtain ⟨N, hN⟩ : ∃ N, L.length = N := ⟨_, rfl⟩
      rw [hN] at hct hLl
      replace hev := Lib.hid hev
      replace hTq := Lib.hid hTq
      replace hPt := Lib.hid hPt
      replace hN := Lib.hid hN
      replace hLin := Lib.hid hLin
      have n4 : (q : Int) < n := by omega
      have g6 : IntKind.i64.wrap ((q : Int) + 1) = (q : Int) + 1 := IntWalk.i64_in _ (by omega)
      replace hq' := Lib.hid hq'
      clear hRt hRm hRc hPc hL hme hev' htk her H1
      go_wp2_with fail
      refine hct.mono ?_
      rintro e w1 ⟨A, rfl, H2⟩
      clear hct k4
      have hec := hev.out _ (Slc 3 1 (.slice A N N) N (L.map (Value.int .i64)) :: SlE 37 v g :: R) H2.re
      go_wp2_with fail
      refine hec.mono ?_
      rintro e w2 ⟨rfl, H3⟩
      clear hec H2
      go_wp2_with fail
      go_loopw [6, 45] (fun u y2 wq => ∃ (s : Nat) (u' : Value) (g2 : List WaitM) (mt : KeM), s ≤ N ∧ y2 = .int .i64 s ∧ u' = u ∧ (g ++ (me.dues L).1, (me.dues L).2) = (g2 ++ (mt.dues (L.drop s)).1, (mt.dues (L.drop s)).2) ∧ P (c + 1 + s) mt ∧ mt.tk.rows.length = me.tk.rows.length ∧ g2.length ≤ 64 * q + s ∧ Hd w0 (SlE 37 u' g2 :: Slc 3 1 (.slice A N N) N (L.map (Value.int .i64)) :: KeL ⟨k, cl, rg, y⟩ S mt R) wq) (fun _ y2 _ => N - (intOf y2).toNat)
      case atStart => exact ⟨0, _, g, me, Nat.zero_le _, rfl, rfl, rfl, hPt.out, rfl, by omega, H3.re⟩
      case round =>
        obtain ⟨s, u, g2, mt, hs, rfl, rfl, hTs, hPs, hrows, hg2, H4⟩ := hrel
        clear H3
        by_cases hls : s < N
        · obtain ⟨x, hx⟩ : ∃ x, L[s]? = some x := ⟨L[s]'(by rw [hN.out]; exact hls), List.getElem?_eq_getElem _⟩
          obtain ⟨hx1, hx2⟩ := hLin.out x (List.mem_of_getElem? hx)
          obtain ⟨j, rfl⟩ := Int.eq_ofNat_of_zero_le hx1
          obtain ⟨rw_, hr⟩ : ∃ r, mt.tk.rows[j]? = some r := ⟨mt.tk.rows[j]'(by rw [hrows]; omega), List.getElem?_eq_getElem _⟩
          have hRs := hR.out _ _ (by omega) hPs
          have hPd := hD.out _ _ j (by omega) (by rw [hrows]; omega) hPs
          have hdr : L.drop s = (j : Int) :: L.drop (s + 1) := drop_at hx
          rw [hdr, KeM.dues_cons, Int.toNat_natCast] at hTs
          have d4 : Hd w0 (Slc 3 1 (.slice A N N) N (L.map (Value.int .i64)) :: SlE 37 u g2 :: KeL ⟨k, cl, rg, y⟩ S mt R) _ := H4.re
          obtain ⟨la, lc, hv, H5⟩ := d4.slc_at (by omega)
          injection hv with e1 e2 e3
          clear e2
          subst e1
          subst e3
          have d5 := H5.slcC_rd (j := s) (u := .int .i64 j) (by rw [List.getElem?_map, hx]; rfl)
          have n5 : (s : Int) < N := by omega
          have n6 : ¬ (s : Int) < 0 := by omega
          have n7 : ¬ N ≤ s := by omega
          have g7 : IntKind.i64.wrap ((s : Int) + 1) = (s : Int) + 1 := IntWalk.i64_in _ (by omega)
          have hdtk := KeM.due_tk mt j
          by_cases hE : mt.dp.releaseE mt.tk j = 0
          · have hdc := keDueB (show Hd w0 (KeL ⟨k, cl, rg, y⟩ S mt (SlE 37 u g2 :: SlcC 3 1 la N N (L.map (Value.int .i64)) :: R)) _ from H5.re) hRs hr hE
            have hdue : mt.due j = mt.took j := by unfold KeM.due; rw [if_pos hE]
            have hgets : mt.gets j = [⟨mt.dp.count, j, rw_.t.lv⟩] := by unfold KeM.gets; rw [if_pos hE, hr]; rfl
            rw [hgets] at hTs
            rw [hdue] at hPd hTs hdtk
            obtain ⟨mu, hmu⟩ : ∃ mu, mt.took j = mu := ⟨_, rfl⟩
            rw [hmu] at hdc hPd hTs hdtk
            rw [← hdtk] at hrows
            obtain ⟨ct, hct⟩ : ∃ ct, mt.dp.count = ct := ⟨_, rfl⟩
            rw [hct] at hdc hTs
            obtain ⟨lv, hlv⟩ : ∃ lv, rw_.t.lv = lv := ⟨_, rfl⟩
            rw [hlv] at hdc hTs
            replace hTs := Lib.hid hTs
            replace hPd := Lib.hid hPd
            replace hrows := Lib.hid hrows
            replace hg2 := Lib.hid hg2
            clear hRs hPs hr hE hdr H4 d4 H5 hdue hgets hmu hct hlv hx hx1 hx2 hdtk
            go_wp2_with fail
            refine hdc.mono ?_
            rintro e w3 ⟨rfl, H6⟩
            clear hdc d5
            have HP : Hd w0 _ (w3.alloc (.cells #[.int .i64 ct, .int .i64 j, .int .i64 lv] 37)) := H6.fol
            have hf := (HP.k w3.heap.size).fact1
            simp only [Nat.reduceAdd] at hf
            go_split_ands
            have HQ : Hd w0 _ ((w3.alloc (.cells #[.int .i64 ct, .int .i64 j, .int .i64 lv] 37)).alloc (.cells #[.int .i64 ct, .int .i64 j, .int .i64 lv] 37)) := HP.fol
            have hQ := Lib.hid HQ
            clear HP HQ H6
            go_wp2_with (at_builtin; refine wpList_append_slc rfl _ _ 45 rfl 37 i0 _ 3 24 Tryz.underlying45 hwi hwz0 hwz1 hwz2 rfl _ _ _ rfl (show Hd w0 (Slc 37 3 u g2.length (flat g2) :: _) _ from hQ.out.v u) ⟨w3.heap.size + 1, 0, none⟩ 1 1 [.int .i64 ct, .int .i64 j, .int .i64 lv] rfl rfl (cel_news (hQ.out.k (w3.heap.size + 1))) (by simp [Value.oneCell']) (by have := hg2.out; unfold maxLen; omega) (by have := hg2.out; omega) ?_; intro v' w5 H20; have H21 := slE_snocW (x := ⟨ct, j, lv⟩) H20)
            go_roundw
            case rel => exact ⟨s + 1, _, _, mu, by omega, by simp, rfl, by rw [hTs.out, List.append_assoc], by rw [← Nat.add_assoc]; exact hPd.out, hrows.out, by have := hg2.out; rw [List.length_append, List.length_singleton]; omega, ((Hd.re H21 : Hd w0 (SlcC 3 1 la N N (L.map (Value.int .i64)) :: SlE 37 v' (g2 ++ [⟨ct, j, lv⟩]) :: KeL ⟨k, cl, rg, y⟩ S mu R) _).slc_mk).re⟩
            case measure => simp [intOf]; omega
          · obtain ⟨E, hE0⟩ : ∃ E, mt.dp.releaseE mt.tk j = E := ⟨_, rfl⟩
            have hdc := keDueA (show Hd w0 (KeL ⟨k, cl, rg, y⟩ S mt (SlE 37 u g2 :: SlcC 3 1 la N N (L.map (Value.int .i64)) :: R)) _ from H5.re) hRs hr rfl hE
            have hdue : mt.due j = mt.event (evLost j) := by unfold KeM.due; rw [if_neg hE]
            have hgets : mt.gets j = [] := by unfold KeM.gets; rw [if_neg hE]
            rw [hgets] at hTs
            rw [hdue] at hPd hTs hdtk
            obtain ⟨mu, hmu⟩ : ∃ mu, mt.event (evLost j) = mu := ⟨_, rfl⟩
            rw [hmu] at hdc hPd hTs hdtk
            rw [← hdtk] at hrows
            replace hTs := Lib.hid hTs
            replace hPd := Lib.hid hPd
            replace hrows := Lib.hid hrows
            replace hg2 := Lib.hid hg2
            clear hRs hPs hr hE hE0 hdr H4 d4 H5 hdue hgets hmu hx hx1 hx2 hdtk
            go_wp2_with fail
            refine hdc.mono ?_
            rintro e w3 ⟨rfl, H6⟩
            clear hdc d5
            have H7 : Hd w0 (Slc 3 1 (.slice (some ⟨la, 0, none⟩) N N) N (L.map (Value.int .i64)) :: SlE 37 u g2 :: KeL ⟨k, cl, rg, y⟩ S mu R) w3 := (Hd.re H6 : Hd w0 (SlcC 3 1 la N N (L.map (Value.int .i64)) :: SlE 37 u g2 :: KeL ⟨k, cl, rg, y⟩ S mu R) w3).slc_mk
            go_wp2_with fail
            go_roundw
            case rel => exact ⟨s + 1, _, g2, mu, by omega, by simp, rfl, hTs.out, by rw [← Nat.add_assoc]; exact hPd.out, hrows.out, by have := hg2.out; omega, Hd.fin H7⟩
            case measure => simp [intOf]; omega
        · obtain rfl : s = N := by omega
          have hd0 : L.drop s = [] := by rw [List.drop_eq_nil_iff, hN.out]; exact Nat.le_refl _
          rw [hd0] at hTs
          have e1 : g ++ (me.dues L).1 = g2 := by have := congrArg Prod.fst hTs; simpa [KeM.dues] using this
          have e2 : (me.dues L).2 = mt := by have := congrArg Prod.snd hTs; simpa [KeM.dues] using this
          replace hTq := hTq.out
          rw [e2, ← List.append_assoc, e1] at hTq
          replace hTq := Lib.hid hTq
          replace hPs := Lib.hid hPs
          clear hd0 hTs e1 e2 hrows
          go_wp2_with fail
          go_roundw
          case rel => exact ⟨q + 1, _, g2, mt, _, by omega, by simp, rfl, by rw [hTq.out, show n - (q + 1) = q' by have := hq'.out; omega], hPs.out, by omega, by omega, H4.re⟩
          case measure => simp [intOf]; omega
    · obtain rfl : q = n := by omega
      rw [Nat.sub_self] at hTq
      have e1 : T.1 = g := by rw [hTq]; simp [KeM.ticks]
      have e2 : T.2 = mk := by rw [hTq]; rfl
      replace e1 := Lib.hid e1
      replace e2 := Lib.hid e2
      clear hTq hPc
      rcases H1.slc with ⟨rfl, hz, -, -⟩ | ⟨ga, ca, rfl, HC⟩
      · rw [hz] at *
        go_wp2_with fail
        go_ret2
        exact ⟨_, rfl, by rw [e1.out, e2.out]; exact H1⟩
      · have hcap := HC.slcC.2.1
        have m1 : (0 : Int) ≤ g.length := by omega
        have m2 : (g.length : Int) ≤ ca := by omega
        go_wp2_with fail
        go_ret2
        exact ⟨_, rfl, by rw [e1.out, e2.out]; exact HC.clip.slc_mk⟩
end
end Go.Proofs.YtogcikilphakmaaGreatDoor
