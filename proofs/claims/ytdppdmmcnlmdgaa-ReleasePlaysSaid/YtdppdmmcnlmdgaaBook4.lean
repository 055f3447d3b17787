/-
  Package keelbook: a book of lists of ints: Apart with the marks of Ints. Every book that keeps few.
-/
import Derived.Test.YtdppdmmcnlmdgaaBook3
namespace Go.Proofs.Ytdppdmmcnlmdgaa
open Go.RowKit Spl

/-- The contents of the lists, the first k marked. -/
structure Marked (av : List Value) (N k : Nat) (cs : List (List Int)) : Prop where
  len : cs.length = N
  fit : ∀ (j : Nat) (v : Value) (l : List Int), av[j]? = some v → cs[j]? = some l → l.length ≤ 64 ∧ ∃ a, v = .slice a l.length l.length
  done : ∀ (j : Nat) (l : List Int), j < k → cs[j]? = some l → ∀ (t : Nat) (x : Int), l[t]? = some x → x = -1000 - (j : Int)
theorem Marked.next {av : List Value} {N k : Nat} {cs : List (List Int)} (h : Marked av N k cs) {l l' : List Int} (hk : cs[k]? = some l) (hl : l'.length = l.length) (hm : ∀ (t : Nat) (x : Int), l'[t]? = some x → x = -1000 - (k : Int)) : Marked av N (k + 1) (cs.set k l') := by
  have hlt := lt_of_get? hk
  refine ⟨by simp [h.len], fun j v u hv hu => ?_, fun j u hj hu => ?_⟩
  · by_cases e : j = k
    · subst e
      rw [List.getElem?_set_self hlt] at hu
      obtain rfl := Option.some.inj hu
      rw [hl]
      exact h.fit j v l hv hk
    · rw [List.getElem?_set_ne (fun h => e h.symm)] at hu
      exact h.fit j v u hv hu
  · by_cases e : j = k
    · subst e
      rw [List.getElem?_set_self hlt] at hu
      obtain rfl := Option.some.inj hu
      exact hm
    · rw [List.getElem?_set_ne (fun h => e h.symm)] at hu
      exact h.done j u (by omega) hu
section
variable {w0 w : World} {R : List Pr} {b N : Nat}

set_option maxRecDepth 20000 in
set_option maxHeartbeats 4000000 in
theorem bookApart (H : Hd w0 (BookP b N :: R) w) (hN : N ≤ 1000) :
    Calls Try.prog 25 #[pp b, .func (.func 26) #[] #[]] w fun e w' => e = .returned (.bool true) ∧ Hd w0 R w' := by
  have hst := bookStays H hN
  unfold pp at *
  clear H
  go_enter Try.func25, Try.ntmps25
  go_wp2_with (go_at_call 36; refine hst.mono ?_; rintro e w1 ⟨rfl, H⟩; clear hst)
  obtain ⟨x, hx, H1⟩ := BookP.opened H
  obtain ⟨v1, v2, av, cv, ls, hd⟩ := x
  obtain ⟨x1, x2, x3, x4, x5, x6⟩ := hx
  simp only at *
  obtain ⟨a1, k1, rfl, _, _, _, _⟩ := H1.b2.slc_form
  have H2 := H1.b3.tail.b3.b3.b3
  clear H H1
  have HM : Marked av N 0 ls := ⟨x3, x6, fun _ _ h => by omega⟩
  go_loopw [5] (fun i wr => ∃ (k : Nat) (cs : List (List Int)), k ≤ N ∧ i = .int .i64 k ∧ Marked av N k cs ∧ Hd w0 (cel b 48 #[.slice a1 N k1, v2, .int .i64 hd, .bool false] :: Slc 30 1 (.slice a1 N k1) N av :: all (List.zipWith kl av cs) :: R) wr) (fun i _ => N - (intOf i).toNat)
  case atStart => exact ⟨0, ls, Nat.zero_le _, rfl, HM, H2.b4.tail⟩
  case round =>
    obtain ⟨k, cs, hk, rfl, hM, HI⟩ := hrel
    clear HM H2 x6 x3 x2
    have d0 := HI.rd 0
    simp only [List.size_toArray, List.length_cons, List.length_nil, List.getElem?_toArray, List.getElem?_cons_zero] at d0
    by_cases hlt : k < N
    · obtain ⟨A, hA⟩ : ∃ A, av[k]? = some A := ⟨av[k]'(by omega), List.getElem?_eq_getElem _⟩
      obtain ⟨l, hl⟩ : ∃ l, cs[k]? = some l := ⟨cs[k]'(by have := hM.len; omega), List.getElem?_eq_getElem _⟩
      obtain ⟨hl64, aa, rfl⟩ := hM.fit k A l hA hl
      obtain ⟨g1, k1', hv, H2⟩ := HI.b2.slc_at (by omega)
      injection hv with e1 e2 e5
      subst e1 e5
      clear e2
      have cA := H2.slcC_rd hA
      clear H2
      have HJ := HI.b3.row_nth hA hl
      clear HI
      go_wp2_with (go_quiet (fail))
      go_loopw [7] (fun j wr => ∃ (q : Nat) (l' : List Int), q ≤ l.length ∧ j = .int .i64 q ∧ l'.length = l.length ∧ (∀ (t : Nat) (x : Int), t < q → l'[t]? = some x → x = -1000 - (k : Int)) ∧ Hd w0 (kl (.slice aa l.length l.length) l' :: all ((List.zipWith kl av cs).eraseIdx k) :: cel b 48 #[.slice (some ⟨g1, 0, none⟩) N k1, v2, .int .i64 hd, .bool false] :: Slc 30 1 (.slice (some ⟨g1, 0, none⟩) N k1) N av :: R) wr) (fun j _ => l.length - (intOf j).toNat)
      case atStart => exact ⟨0, l, Nat.zero_le _, rfl, rfl, fun _ _ h => by omega, HJ.drewN _⟩
      case round =>
        obtain ⟨q, l', hq, rfl, hl', hmk, HK⟩ := hrel
        clear HJ cA d0
        by_cases hqt : q < l.length
        · have hkn : (k : Int) ≤ 1000000 := by omega
          have hint := fun (w : World) => intsSpec (w := w) (k : Int) (q : Int) (by omega) hkn
          unfold kl at HK
          rw [hl'] at HK
          obtain ⟨g, k2, hv, HC⟩ := HK.slc_at (by omega)
          injection hv with e1 e2 e5
          subst e1 e5
          clear e2
          have hcell := HC.slcC_rd (j := q) (u := (ints l')[q]'(by rw [ints_len]; omega)) (List.getElem?_eq_getElem _)
          have hfr := HC.slcC_fr q
          have HS := HC.slcC_set (j := q) (by rw [ints_len]; omega) (.int .i64 (-1000 - (k : Int)))
          have e6 : (ints l').set q (.int .i64 (-1000 - (k : Int))) = ints (l'.set q (-1000 - (k : Int))) := by simp [ints, List.map_set]
          rw [e6] at HS
          have HT := HS.slc_mk
          clear HK HC HS e6
          go_wp2_with (go_at_call 26; refine (hint _).mono ?_; rintro e w2 ⟨rfl, rfl⟩)
          go_roundw
          case rel =>
            refine ⟨q + 1, l'.set q (-1000 - (k : Int)), by omega, by go_num, by simp [hl'], fun t x ht hx => ?_, ?_⟩
            · by_cases e : t = q
              · subst e
                rw [List.getElem?_set_self (by omega)] at hx
                exact (Option.some.inj hx).symm
              · rw [List.getElem?_set_ne (fun h => e h.symm)] at hx
                exact hmk t x (by omega) hx
            · unfold kl
              rw [List.length_set, hl']
              exact HT
          case measure => simp [intOf]; omega
        · obtain rfl : q = l.length := by omega
          have hn := hM.next hl hl' (fun t x hx => hmk t x (by have := lt_of_get? hx; omega) hx)
          have HB := (HK.row_back hA hl).b3.b3
          clear HK
          go_wp2
          go_roundw
          case rel => exact ⟨k + 1, _, by omega, by go_num, hn, by first | exact HB | exact HB.b2⟩
          case measure => simp [intOf]; omega
    · obtain rfl : k = N := by omega
      go_wp2
      clear d0
      go_loopw [8] (fun i wr => ∃ (q : Nat), q ≤ k ∧ i = .int .i64 q ∧ Hd w0 (cel b 48 #[.slice a1 k k1, v2, .int .i64 hd, .bool false] :: Slc 30 1 (.slice a1 k k1) k av :: all (List.zipWith kl av cs) :: R) wr) (fun i _ => k - (intOf i).toNat)
      case atStart => exact ⟨0, Nat.zero_le _, rfl, HI⟩
      case round =>
        obtain ⟨q, hq, rfl, HJ⟩ := hrel
        clear HI
        have d0 := HJ.rd 0
        simp only [List.size_toArray, List.length_cons, List.length_nil, List.getElem?_toArray, List.getElem?_cons_zero] at d0
        by_cases hqk : q < k
        · obtain ⟨A, hA⟩ : ∃ A, av[q]? = some A := ⟨av[q]'(by omega), List.getElem?_eq_getElem _⟩
          obtain ⟨l, hl⟩ : ∃ l, cs[q]? = some l := ⟨cs[q]'(by have := hM.len; omega), List.getElem?_eq_getElem _⟩
          obtain ⟨hl64, aa, rfl⟩ := hM.fit q A l hA hl
          have hdone := hM.done q l hqk hl
          obtain ⟨g1, k1', hv, H2⟩ := HJ.b2.slc_at (by omega)
          injection hv with e1 e2 e5
          subst e1 e5
          clear e2
          have cA := H2.slcC_rd hA
          have HR := HJ.b3.row_nth hA hl
          clear H2 HJ
          go_wp2_with (go_quiet (fail))
          go_loopw [10] (fun j wr => ∃ (t : Nat), t ≤ l.length ∧ j = .int .i64 t ∧ Hd w0 (kl (.slice aa l.length l.length) l :: all ((List.zipWith kl av cs).eraseIdx q) :: cel b 48 #[.slice (some ⟨g1, 0, none⟩) k k1, v2, .int .i64 hd, .bool false] :: Slc 30 1 (.slice (some ⟨g1, 0, none⟩) k k1) k av :: R) wr) (fun j _ => l.length - (intOf j).toNat)
          case atStart => exact ⟨0, Nat.zero_le _, rfl, HR.drewN _⟩
          case round =>
            obtain ⟨t, ht, rfl, HK⟩ := hrel
            clear HR cA d0
            by_cases htl : t < l.length
            · have hint := fun (w : World) => intsSpec (w := w) (q : Int) (t : Int) (by omega) (by omega)
              have hmk : l[t]? = some (-1000 - (q : Int)) := by
                have h1 := List.getElem?_eq_getElem htl
                rw [h1, hdone t _ h1]
              have HX := HK
              unfold kl at HX
              obtain ⟨g, k2, hv, HC⟩ := HX.slc_at (by omega)
              injection hv with e1 e2 e5
              subst e1 e5
              clear e2
              have hcell := HC.slcC_rd (ints_at hmk)
              clear HX HC hmk hdone
              go_wp2_with fail
              go_region_held3 (fun w' => w'.cell? ⟨g, t, none⟩ = some (.int .i64 (-1000 - (q : Int)))) (go_keep) (first | (go_at_call 26; refine (hint _).mono ?_; rintro e w2 ⟨rfl, rfl⟩))
              go_wp2_with fail
              go_roundw
              case rel => exact ⟨t + 1, by omega, by go_num, HK.drewN _⟩
              case measure => simp [intOf]; omega
            · obtain rfl : t = l.length := by omega
              have HB := (HK.row_same hA hl).b3.b3
              clear HK
              go_wp2
              go_roundw
              case rel => exact ⟨q + 1, by omega, by go_num, by first | exact HB | exact HB.b2⟩
              case measure => simp [intOf]; omega
        · obtain rfl : q = k := by omega
          have d1 := HJ.rd 1
          have d2 := HJ.rd 2
          have f0 := HJ.fr
          have HF := ((((((HJ.set 0 (.slice none 0 0)).set 1 (.slice none 0 0)).set 2 (.int .i64 0)).tail).tail).tail)
          clear HJ
          go_wp2
          go_ret
          exact ⟨rfl, HF⟩
end
end Go.Proofs.Ytdppdmmcnlmdgaa
