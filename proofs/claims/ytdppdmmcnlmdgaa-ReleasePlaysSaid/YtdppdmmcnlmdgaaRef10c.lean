/-
  The reference of chapter 10 over the separation logic: its clock's Note, Add.
-/
import Derived.Test.YtdppdmmcnlmdgaaRef10b
import Derived.Deep.RegionLaw
namespace Go.Proofs.Ytdppdmmcnlmdgaa
open Go.RowKit Spl

theorem add0 (b j : Nat) : (⟨b, 0, none⟩ : Addr).add j = ⟨b, j, none⟩ := by unfold Addr.add; split <;> simp_all
namespace RClk
def full (m : RClk) : Bool := decide (64 ≤ m.l.length)
def add (m : RClk) (t : TaskR) : RClk := if m.full then m else if timesOk t.p t.f t.g then ⟨m.t, m.l ++ [⟨t, m.t, -1⟩]⟩ else m
def addN (m : RClk) (t : TaskR) : Int := if m.full then -1 else if timesOk t.p t.f t.g then m.l.length else -1
def addE (m : RClk) (t : TaskR) : Int := if m.full then 4 else if timesOk t.p t.f t.g then 0 else 1
end RClk
theorem step_append_slc {P : Program} {w0 w : World} {R : List Pr} {ops : Array Oper} {o : Oper} {a : Act} {K : Act → World → Prop} {Q : Exit → Act → World → Prop} {E : Prop} (hgd : o.guard = none) (s x : Operand) (t : TypeId)
    (ho : o.op = .call { callee := .builtin .append, args := #[s, x], argTypes := #[t, t] })
    (e : TypeId) (i : TypeInfo) (z : Value) (size bytes : Nat) (ht : P.underlying t = some (.slice e)) (hi : P.info? e = some i) (hz : i.zero = some z)
    (hsize : i.size = size) (hby : i.bytes = bytes) (hzs : z.cells.size = size)
    (v : Value) (n : Nat) (xs : List Value) (hs : a.eval s = v) (H : Hd w0 (Slc e size v n xs :: R) w)
    (ad : Addr) (m c : Nat) (news : List Value) (hx : a.eval x = .slice (some ad) m c) (hl : news.length = m * size) (hnews : ∀ j u, news[j]? = some u → w.cell? (ad.add j) = some u) (h1 : ∀ u ∈ news, u.oneCell' = true)
    (h63 : n + m ≤ maxLen) (hbytes : (n + m) * bytes ≤ 140737488355328)
    (h : ∀ v' w', Hd w0 (Slc e size v' (n + m) (xs ++ news) :: R) w' → K (a.put o.dst v') w') : if Region.wanted o (yielded ops a.tmps) = true then o.wp P a w K Q else E := by
  simp only [Region.wanted, hgd, if_true]
  obtain ⟨v', w', hr, h2⟩ := run_append_slc (P := P) t o.type e i z size bytes ht hi hz hsize hby hzs v n xs H ad m c news hl hnews h1 h63 hbytes
  unfold Oper.wp execOp
  simp only [ho, resolve, invoke, builtin, Sem.run_bind, Sem.run_pure, Result.andThen_ok, List.map_toArray, List.map_cons, List.map_nil, hs, hx, hr]
  exact h v' w' h2
theorem infoRow' : (Try.prog.info? 78).map (fun i => (i.zero, i.size, i.bytes)) = some (some (.agg #[.string ⟨#[]⟩, .int .i64 0, .int .i64 0, .slice none 0 0, .string ⟨#[]⟩, .int .i64 0, .int .i64 0, .int .i64 0, .int .i64 0, .int .i64 0]), 10, 112) := by kernel_rfl
section
variable {w0 w : World} {R : List Pr} {c : Nat} {m : RClk}

theorem cel_news {b T : Nat} {C : Array Value} (H : Hd w0 (cel b T C :: R) w) : ∀ j u, C.toList[j]? = some u → w.cell? ((⟨b, 0, none⟩ : Addr).add j) = some u := by
  intro j u hj
  rw [add0]
  exact (H.rd j).trans (by simpa using hj)

set_option maxHeartbeats 1600000 in
theorem refNote (H : Hd w0 (RClock c m :: R) w) (hm : m.Ok) (id : Int) :
    Calls Try.prog 23 #[pp c, .int .i64 id] w fun e w' => e = .returned (.int .i64 (m.noteE id)) ∧ Hd w0 (RClock c (m.note id) :: R) w' := by
  obtain ⟨v, H1⟩ := RClock.opened H
  have hlen := hm.len
  have c0 := H1.rd 0
  have c1 := H1.rd 1
  unfold pp
  rcases m.at?_cases id with ⟨hn, ho⟩ | ⟨i, p, rfl, hp, hi⟩
  · have hr : m.noteE id = 1 := by simp [RClk.noteE, hn]
    have hr2 : m.note id = m := by simp [RClk.note, hn]
    rw [hr, hr2]
    obtain ⟨a, cap, rfl, _, _, _, _⟩ := H1.b2.slc_form
    clear hr hr2 hn hm H1
    rcases ho with ho | ho
    · go_enter Try.func23, Try.ntmps23
      go_wp2
      go_ret
      exact ⟨rfl, H⟩
    · have h0 : ¬ id < 0 := by omega
      go_enter Try.func23, Try.ntmps23
      go_wp2
      go_ret
      exact ⟨rfl, H⟩
  · have hlt := lt_of_get? hi
    obtain ⟨g, cap, rfl, H2⟩ := H1.b2.slc_at (by omega)
    have f9 := H2.slcC_fr (i * 10 + 9)
    have a9 := (row_at H2 hi).a9
    have HS := H2.slcC_set (j := i * 10 + 9) (by rw [rowsV_len]; omega) (.int .i64 m.t)
    rw [rowsV_set hi] at HS
    have hr : m.noteE i = 0 := by simp [RClk.noteE, hp]
    have hr2 : m.note i = ⟨m.t, m.l.set i { p with last := m.t }⟩ := by simp [RClk.note, hp]
    have e : (m.l.set i { p with last := m.t }).length = m.l.length := by simp
    have HF := (RClock.shut (m := ⟨m.t, m.l.set i { p with last := m.t }⟩) (by rw [e]; exact HS.slc_mk.b2)).drew
    rw [hr, hr2]
    clear hr hr2 hp hi hm H1 H2 HS e
    go_enter Try.func23, Try.ntmps23
    go_wp2_with (first | go_quiet (fail) | (refine wp_region_still_tail 11 (by kernel_rfl) (by kernel_rfl) ?_; simp only [List.take_succ_cons, List.take_zero, List.drop_succ_cons, List.drop_zero, World.drew_eq]; (repeat still_step); refine wpStill_nil ?_))
    go_ret
    exact ⟨rfl, HF⟩

set_option maxHeartbeats 1600000 in
theorem refAdd (H : Hd w0 (RClock c m :: R) w) (hm : m.Ok) (t : TaskR) :
    Calls Try.prog 18 #[pp c, taskV (.string t.nm) (.int .i64 t.lv) (.int .i64 t.fr) (.slice t.na t.nl t.nc) (.string t.cd) t.p t.f t.g] w fun e w' =>
      e = .returned (.tuple #[.int .i64 (m.addN t), .int .i64 (m.addE t)]) ∧ Hd w0 (RClock c (m.add t) :: R) w' := by
  obtain ⟨v, H1⟩ := RClock.opened H
  have hlen := hm.len
  have HB := (H1.alloc (.cells #[.string t.nm, .int .i64 t.lv, .int .i64 t.fr, .slice t.na t.nl t.nc, .string t.cd, .int .i64 t.p, .int .i64 t.f, .int .i64 t.g] 29)).b3.b3
  obtain ⟨a, cap, rfl, _, _, _, _⟩ := H1.b2.slc_form
  have c0 := HB.rd 0
  have c1 := HB.rd 1
  unfold pp
  by_cases hf : m.full = true
  · have h1 : m.addN t = -1 := by simp [RClk.addN, hf]
    have h2 : m.addE t = 4 := by simp [RClk.addE, hf]
    have h3 : m.add t = m := by simp [RClk.add, hf]
    have h64 : 64 ≤ m.l.length := by simpa [RClk.full] using hf
    rw [h1, h2, h3]
    clear h1 h2 h3 hf
    unfold taskV
    go_enter Try.func18, Try.ntmps18
    go_wp2_with fail
    go_ret2
    exact ⟨rfl, RClock.shut HB.b3.tail⟩
  · have htimes := refPattern HB (.string t.nm) (.int .i64 t.lv) (.int .i64 t.fr) (.slice t.na t.nl t.nc) (.string t.cd) t.p t.f t.g
    have h64 : m.l.length < 64 := by simpa [RClk.full] using hf
    cases ht : timesOk t.p t.f t.g with
    | false =>
      have h1 : m.addN t = -1 := by simp [RClk.addN, hf, ht]
      have h2 : m.addE t = 1 := by simp [RClk.addE, hf, ht]
      have h3 : m.add t = m := by simp [RClk.add, hf, ht]
      rw [h1, h2, h3]
      rw [ht] at htimes
      clear h1 h2 h3 hf ht
      unfold taskV
      go_enter Try.func18, Try.ntmps18
      go_wp2_with (go_at_call 32; refine htimes.mono ?_; rintro e w1 ⟨rfl, H3⟩)
      go_ret2
      exact ⟨rfl, RClock.shut H3.b3.tail⟩
    | true =>
      have h1 : m.addN t = m.l.length := by simp [RClk.addN, hf, ht]
      have h2 : m.addE t = 0 := by simp [RClk.addE, hf, ht]
      have h3 : m.add t = ⟨m.t, m.l ++ [⟨t, m.t, -1⟩]⟩ := by simp [RClk.add, hf, ht]
      have n0 := hm.n0; have n1 := hm.n1
      rw [h1, h2, h3]
      rw [ht] at htimes
      clear h1 h2 h3 hf ht
      obtain ⟨i0, hi, hz0, hz1, hz2⟩ := info_parts infoRow'
      unfold taskV
      go_enter Try.func18, Try.ntmps18
      go_wp2_with (go_at_call 32; refine htimes.mono ?_; rintro e w1 ⟨rfl, H3⟩; clear htimes; have c3 := H3.rd 0; have c4 := H3.rd 1; have c5 := H3.b3.rd)
      have HP := ((H3.alloc (.cells #[.string t.nm, .int .i64 t.lv, .int .i64 t.fr, .slice t.na t.nl t.nc, .string t.cd, .int .i64 t.p, .int .i64 t.f, .int .i64 t.g, .int .i64 m.t, .int .i64 (-1)] 78)).drew).b3
      have hnews := cel_news HP.b2
      have b0 := c5 0; have b1 := c5 1; have b2 := c5 2; have b3 := c5 3; have b4 := c5 4; have b5 := c5 5; have b6 := c5 6; have b7 := c5 7
      clear c5
      simp only [List.size_toArray, List.length_cons, List.length_nil, List.getElem?_toArray, List.getElem?_cons_zero, List.getElem?_cons_succ] at c3 c4 b0 b1 b2 b3 b4 b5 b6 b7
      have g1 := HP.b3.rd 1
      simp only [List.size_toArray, List.length_cons, List.length_nil, List.getElem?_toArray, List.getElem?_cons_zero, List.getElem?_cons_succ] at g1
      go_region_law (first | ((refine step_append_slc rfl _ _ 43 rfl 78 i0 _ 10 112 Try.underlying43 hi hz0 hz1 hz2 rfl _ _ _ rfl HP ⟨_, 0, none⟩ 1 1 _ rfl rfl hnews (by simp [Value.oneCell']) (by unfold maxLen; omega) (by omega) ?_); intro v' w2 H4; obtain ⟨a', cap', rfl, _, _, _, _⟩ := H4.slc_form; have d1 := H4.b3.rd 1; have f6 := H4.b3.fr 1; simp only [List.size_toArray, List.length_cons, List.length_nil, List.getElem?_toArray, List.getElem?_cons_zero, List.getElem?_cons_succ] at d1))
      all_goals
        have HF := (((((H4.b3.set 1 (.slice a' (m.l.length + 1) cap')).b3).tail).b3).tail)
        have e1 : (m.l ++ [(⟨t, m.t, -1⟩ : RowR)]).length = m.l.length + 1 := by simp
        have e2 : rowsV m.l ++ [Value.string t.nm, .int .i64 t.lv, .int .i64 t.fr, .slice t.na t.nl t.nc, .string t.cd, .int .i64 t.p, .int .i64 t.f, .int .i64 t.g, .int .i64 m.t, .int .i64 (-1)] = rowsV (m.l ++ [(⟨t, m.t, -1⟩ : RowR)]) := by rw [rowsV_snoc]; rfl
        have HG := RClock.shut (m := ⟨m.t, m.l ++ [⟨t, m.t, -1⟩]⟩) (by rw [e1]; rw [e2] at HF; exact HF)
        clear HF e1 e2 H4 HP H3 H HB H1
        go_wp2_with fail
        go_ret2
        exact ⟨by simp, HG⟩
end
end Go.Proofs.Ytdppdmmcnlmdgaa
