/-
  Package keelbook: a book of lists of ints: Keep. Every book that keeps few.
-/
import Derived.Test.YtdppdmmcnlmdgaaBook1
import Derived.Test.YtdppdmmcnlmdgaaRel5
import Derived.Test.YtdppdmmcnlmdgaaRef10c
import Derived.Deep.RegionLaw
namespace Go.Proofs.Ytdppdmmcnlmdgaa
open Go.RowKit Spl

theorem run_append_any_slc {P : Program} {w0 w : World} {R : List Pr} (t ty e : TypeId) (i : TypeInfo) (z : Value) (size bytes : Nat) (ht : P.underlying t = some (.slice e)) (hi : P.info? e = some i) (hz : i.zero = some z)
    (hsize : i.size = size) (hby : i.bytes = bytes) (hzs : z.cells.size = size)
    (v : Value) (n : Nat) (xs : List Value) (H : Hd w0 (Slc e size v n xs :: R) w)
    (ao : Option Addr) (m c : Nat) (news : List Value) (hl : news.length = m * size) (hnone : ao = none → m = 0) (hnews : ∀ ad, ao = some ad → ∀ j u, news[j]? = some u → w.cell? (ad.add j) = some u) (h1 : ∀ u ∈ news, u.oneCell' = true)
    (h63 : n + m ≤ maxLen) (hbytes : (n + m) * bytes ≤ 140737488355328) :
    ∃ v' w', (Builtin.append_ #[t, t] ty #[v, .slice ao m c]).run P w = .ok v' w' ∧ Hd w0 (Slc e size v' (n + m) (xs ++ news) :: R) w' := by
  cases ao with
  | some a => exact run_append_slc t ty e i z size bytes ht hi hz hsize hby hzs v n xs H a m c news hl (hnews a rfl) h1 h63 hbytes
  | none =>
    obtain rfl := hnone rfl
    have hn : news = [] := List.eq_nil_of_length_eq_zero (by simpa using hl)
    subst hn
    rcases H.slc with ⟨rfl, rfl, rfl, hR⟩ | ⟨g, cap, rfl, hC⟩
    · refine ⟨.slice none 0 0, w, ?_, hR.slc_nil e size⟩
      simp [Builtin.append_, run_underlying ht, sizeOf, typeInfo, hi, Builtin.lenOf, Builtin.firstCells, loadCells, loadCellsFrom]
    · obtain ⟨_, hnc, _, _⟩ := hC.slcC
      refine ⟨_, w, ?_, by simpa using H⟩
      simp [Builtin.append_, run_underlying ht, sizeOf, typeInfo, hi, Builtin.lenOf, Builtin.firstCells, hnc, storeCells]
theorem step_append_any_slc {P : Program} {w0 w : World} {R : List Pr} {ops : Array Oper} {o : Oper} {a : Act} {K : Act → World → Prop} {Q : Exit → Act → World → Prop} {E : Prop} (hgd : o.guard = none) (s x : Operand) (t : TypeId)
    (ho : o.op = .call { callee := .builtin .append, args := #[s, x], argTypes := #[t, t] })
    (e : TypeId) (i : TypeInfo) (z : Value) (size bytes : Nat) (ht : P.underlying t = some (.slice e)) (hi : P.info? e = some i) (hz : i.zero = some z)
    (hsize : i.size = size) (hby : i.bytes = bytes) (hzs : z.cells.size = size)
    (v : Value) (n : Nat) (xs : List Value) (hs : a.eval s = v) (H : Hd w0 (Slc e size v n xs :: R) w)
    (ao : Option Addr) (m c : Nat) (news : List Value) (hx : a.eval x = .slice ao m c) (hl : news.length = m * size) (hnone : ao = none → m = 0) (hnews : ∀ ad, ao = some ad → ∀ j u, news[j]? = some u → w.cell? (ad.add j) = some u) (h1 : ∀ u ∈ news, u.oneCell' = true)
    (h63 : n + m ≤ maxLen) (hbytes : (n + m) * bytes ≤ 140737488355328)
    (h : ∀ v' w', Hd w0 (Slc e size v' (n + m) (xs ++ news) :: R) w' → K (a.put o.dst v') w') : if Region.wanted o (yielded ops a.tmps) = true then o.wp P a w K Q else E := by
  simp only [Region.wanted, hgd, if_true]
  obtain ⟨v', w', hr, h2⟩ := run_append_any_slc (P := P) t o.type e i z size bytes ht hi hz hsize hby hzs v n xs H ao m c news hl hnone hnews h1 h63 hbytes
  unfold Oper.wp execOp
  simp only [ho, resolve, invoke, builtin, Sem.run_bind, Sem.run_pure, Result.andThen_ok, List.map_toArray, List.map_cons, List.map_nil, hs, hx, hr]
  exact h v' w' h2

theorem infoInts : (Try.prog.info? 30).map (fun i => (i.zero, i.size, i.bytes)) = some (some (.slice none 0 0), 1, 24) := by kernel_rfl

def kl (v : Value) (l : List Int) : Pr := Slc 3 1 v l.length (ints l)
/-- What a book holds. -/
structure BookR where
  v1 : Value
  v2 : Value
  av : List Value
  cv : List Value
  ls : List (List Int)
  hd : Int
structure BookR.Fit (x : BookR) (N : Nat) : Prop where
  a : x.av.length = N
  c : x.cv.length = N
  l : x.ls.length = N
  h0 : 0 ≤ x.hd
  h1 : x.hd ≤ 65 * N
  full : ∀ (k : Nat) (v : Value) (l : List Int), x.av[k]? = some v → x.ls[k]? = some l → l.length ≤ 64 ∧ ∃ a, v = .slice a l.length l.length
/-- A book of N lists at block b. -/
def BookP (b N : Nat) : Pr := ex fun x : BookR => all [fact (x.Fit N), cel b 48 #[x.v1, x.v2, .int .i64 x.hd, .bool false], Slc 30 1 x.v1 N x.av, Slc 30 1 x.v2 N x.cv, all (List.zipWith kl x.av x.ls), all (List.zipWith kl x.cv x.ls)]
section
variable {w0 w : World} {R : List Pr} {b N : Nat}
theorem BookP.opened (H : Hd w0 (BookP b N :: R) w) : ∃ x : BookR, x.Fit N ∧ Hd w0 (cel b 48 #[x.v1, x.v2, .int .i64 x.hd, .bool false] :: Slc 30 1 x.v1 N x.av :: Slc 30 1 x.v2 N x.cv :: all (List.zipWith kl x.av x.ls) :: all (List.zipWith kl x.cv x.ls) :: R) w := by
  obtain ⟨x, H⟩ := H.out
  have H2 := H.flat
  exact ⟨x, Hd.get H2, H2.tail⟩
theorem BookP.shut (x : BookR) (h : x.Fit N) (H : Hd w0 (cel b 48 #[x.v1, x.v2, .int .i64 x.hd, .bool false] :: Slc 30 1 x.v1 N x.av :: Slc 30 1 x.v2 N x.cv :: all (List.zipWith kl x.av x.ls) :: all (List.zipWith kl x.cv x.ls) :: R) w) :
    Hd w0 (BookP b N :: R) w := Hd.into x (Hd.pack (L := [_, _, _, _, _, _]) (H.put h))

set_option maxHeartbeats 2000000 in
set_option maxRecDepth 20000 in
theorem bookKeep {ad : Option Addr} {l : List Int} (H : Hd w0 (BookP b N :: Slc 3 1 (.slice ad l.length l.length) l.length (ints l) :: R) w) (hN : N < 1000) (hl : l.length ≤ 64) :
    Calls Try.prog 21 #[pp b, .slice ad l.length l.length] w fun e w' => e = .returned (.tuple #[]) ∧ Hd w0 (BookP b (N + 1) :: R) w' := by
  obtain ⟨x, hx, H1⟩ := BookP.opened H
  obtain ⟨v1, v2, av, cv, ls, hd⟩ := x
  obtain ⟨x1, x2, x3, x4, x5, x6⟩ := hx
  simp only at *
  have c0 := H1.rd 0
  have c1 := H1.rd 1
  have f0 := H1.fr 0
  obtain ⟨i0, hi, hz0, hz1, hz2⟩ := info_parts infoInts
  obtain ⟨i1, hj, hy0, hy1, hy2⟩ := info_parts infoInt
  have HA := (H1.alloc (.cells #[.slice ad l.length l.length] 30)).b3
  unfold pp
  go_enter Try.func21, Try.ntmps21
  go_wp2_with (at_builtin; (refine wpList_append_slc rfl _ _ 46 rfl 30 i0 _ 1 24 Try.underlying46 hi hz0 hz1 hz2 rfl _ _ _ rfl HA ⟨_, 0, none⟩ 1 1 [.slice ad l.length l.length] rfl rfl (cell_one_new _ _ _) (by simp [Value.oneCell']) (by unfold maxLen; omega) (by omega) ?_); intro v1' w1 H2; obtain ⟨a1, k1, rfl, _, _, _, _⟩ := H2.slc_form; have d0 := H2.b3.rd 0; have d1 := H2.b3.rd 1; have e0 := H2.b3.fr 0)
  have H3 := (H2.b3.set 0 (.slice a1 (N + 1) k1)).drew
  have g1 := H3.rd 1
  obtain ⟨n1, n2⟩ := (H3.b7).slc_news
  have HN := H3.slc_nil 3 1
  simp only [List.setIfInBounds_toArray, List.set_cons_zero, List.size_toArray, List.length_cons, List.length_nil, List.getElem?_toArray, List.getElem?_cons_zero, List.getElem?_cons_succ] at g1
  go_region_law (first | ((refine step_append_any_slc rfl _ _ 30 rfl 3 i1 _ 1 8 Try.underlying30 hj hy0 hy1 hy2 rfl _ _ _ rfl HN _ l.length l.length (ints l) rfl (by simp [ints]) n1 n2 (by simp [ints, Value.oneCell']) (by unfold maxLen; omega) (by omega) ?_); intro u w2 H4; rw [Nat.zero_add, List.nil_append] at H4; obtain ⟨a2, k2, rfl, _, _, _, _⟩ := H4.slc_form; have q1 := H4.b2.rd 1; have HP := (H4.alloc (.cells #[.slice a2 l.length k2] 30)).b6; have q2 := HP.b4.rd 1; simp only [List.setIfInBounds_toArray, List.set_cons_zero, List.size_toArray, List.length_cons, List.length_nil, List.getElem?_toArray, List.getElem?_cons_zero, List.getElem?_cons_succ] at q1 q2) | ((refine step_append_slc rfl _ _ 46 rfl 30 i0 _ 1 24 Try.underlying46 hi hz0 hz1 hz2 rfl _ _ _ rfl HP ⟨_, 0, none⟩ 1 1 _ rfl rfl (cell_one_new _ _ _) (by simp [Value.oneCell']) (by unfold maxLen; omega) (by omega) ?_); intro v2' w3 H5; obtain ⟨a3, k3, rfl, _, _, _, _⟩ := H5.slc_form; have r1 := H5.b4.rd 1; have s1 := H5.b4.fr 1; simp only [List.setIfInBounds_toArray, List.set_cons_zero, List.size_toArray, List.length_cons, List.length_nil, List.getElem?_toArray, List.getElem?_cons_zero, List.getElem?_cons_succ] at r1))
  all_goals
    have H6 := H5.b4.set 1 (.slice a3 (N + 1) k3)
    have p2 := H6.rd 2
    have p3 := H6.fr 2
    have H7 := H6.set 2 (.int .i64 (hd + l.length + 1))
    have p4 := H7.rd 0
    have p5 := H7.rd 2
    simp only [List.setIfInBounds_toArray, List.set_cons_zero, List.set_cons_succ, List.size_toArray, List.length_cons, List.length_nil, List.getElem?_toArray, List.getElem?_cons_zero, List.getElem?_cons_succ] at p2 p4 p5
    have fin : ∀ {wf : World}, Hd w0 _ wf → Hd w0 (BookP b (N + 1) :: R) wf := fun {wf} (h : Hd w0 (cel b 48 #[.slice a1 (N + 1) k1, .slice a3 (N + 1) k3, .int .i64 (hd + l.length + 1), .bool false] :: Slc 30 1 (.slice a3 (N + 1) k3) (N + 1) (cv ++ [.slice a2 l.length k2]) :: pt w2.heap.size (.cells #[.slice a2 l.length k2] 30) :: kl (.slice a2 l.length k2) l :: Slc 30 1 (.slice a1 (N + 1) k1) (N + 1) (av ++ [.slice ad l.length l.length]) :: pt w.heap.size (.cells #[.slice ad l.length l.length] 30) :: all (List.zipWith kl av ls) :: all (List.zipWith kl cv ls) :: kl (.slice ad l.length l.length) l :: R) wf) => by
      have h1 := h.b3.tail.b5.tail.b7.b6.b2.row_snoc (by rw [x1, x3])
      have h2 := h1.d6.b3.b5.b2.row_snoc (by rw [x2, x3])
      refine BookP.shut ⟨.slice a1 (N + 1) k1, .slice a3 (N + 1) k3, av ++ [.slice ad l.length l.length], cv ++ [.slice a2 l.length k2], ls ++ [l], hd + l.length + 1⟩ ⟨by simp [x1], by simp [x2], by simp [x3], by show 0 ≤ hd + l.length + 1; omega, by show hd + l.length + 1 ≤ _; omega, ?_⟩ h2.d5.b3.b2
      intro k v l' hv hl'
      by_cases hk : k < N
      · rw [List.getElem?_append_left (by omega)] at hv hl'
        exact x6 k v l' hv hl'
      · rw [List.getElem?_append_right (by omega)] at hv hl'
        have hk0 : k = N := by
          have := lt_of_get? hl'
          simp at this; omega
        subst hk0
        rw [x1] at hv; rw [x3] at hl'
        simp at hv hl'
        subst hv hl'
        exact ⟨hl, _, rfl⟩
    have HF := fin H7
    clear fin H H1 H2 H3 H4 H5 H6 H7 HA HN HP x6 n1 n2
    go_wp2_with fail
    go_loopw [36] (fun _ wr => wr.cell? ⟨b, 0, none⟩ = some (.slice a1 (N + 1) k1) ∧ wr.cell? ⟨b, 2, none⟩ = some (.int .i64 (hd + l.length + 1)) ∧ Hd w0 (BookP b (N + 1) :: R) wr) (fun _ _ => 0)
    case atStart => exact ⟨p4, p5, HF⟩
    case round =>
      obtain ⟨u1, u2, HG⟩ := hrel
      clear HF p2 p3 p4 p5 d0 d1 e0 g1 q1 q2 s1 r1
      have hz : ¬ (1000000 < hd + l.length + 1) := by omega
      have hz2 : ¬ (4000 < N + 1) := by omega
      go_wp2
      all_goals
        go_end0
        exact ⟨rfl, HG⟩
end
end Go.Proofs.Ytdppdmmcnlmdgaa
