/-
  Merged texts of one proof: Co5, Co6, Co7, Co8, Co9, Co10, Co11.
-/
import Derived.Test.YtogcikilphakmaaGreatDoorG36
import Derived.Test.YtogcikilphakmaaGreatDoorG39
import Derived.Test.YtogcikilphakmaaGreatDoorG40

/-
  Package core: operations, over, New. Every table.
-/
namespace Go.Proofs.YtogcikilphakmaaGreatDoor
open Go.RowKit Spl

abbrev opsRow (c : Nat) : Array Value := #[.nilFunc, .func (.func 133) #[.pointer (some ⟨c, 0, none⟩)] #[], .func (.func 134) #[.pointer (some ⟨c, 0, none⟩)] #[],
  .func (.func 135) #[.pointer (some ⟨c, 0, none⟩)] #[], .func (.func 136) #[.pointer (some ⟨c, 0, none⟩)] #[], .func (.func 137) #[.pointer (some ⟨c, 0, none⟩)] #[],
  .func (.func 138) #[.pointer (some ⟨c, 0, none⟩)] #[], .func (.func 139) #[.pointer (some ⟨c, 0, none⟩)] #[], .func (.func 140) #[.pointer (some ⟨c, 0, none⟩)] #[],
  .func (.func 141) #[.pointer (some ⟨c, 0, none⟩)] #[], .nilFunc, .nilFunc]
theorem opsRow_one (c : Nat) : (opsRow c).all (·.oneCell') = true := all_oneCell_toArray fun v hv => by
  simp only [List.mem_cons, List.not_mem_nil, or_false] at hv
  rcases hv with rfl | rfl | rfl | rfl | rfl | rfl | rfl | rfl | rfl | rfl | rfl | rfl <;> rfl
section
variable {w0 w : World} {R : List Pr} {c : Nat} {x : CoV} {vj : Value} {tk : TkM} {S : Hp} {m : CoM}
theorem wpList_store_part {P : Program} {ops : Array Oper} {rest : List Oper} {o : Oper} {a : Act} {Q : Exit → Act → World → Prop} {T g off : Nat} {pre old post : List Value} {cells : Array Value} (H : Hd w0 (cel g T (pre ++ (old ++ post)).toArray :: R) w) (hpre : pre.length = off) (hold : old.length = cells.size)
    (hgd : o.guard = none) (ty : TypeId) (y z : Operand) (ho : o.op = .store ty y z) (hy : a.eval y = .pointer (some ⟨g, off, none⟩)) (hz : a.eval z = .agg cells)
    (hi : (P.info? ty).map (·.size) = some cells.size) (h1 : cells.all (·.oneCell') = true)
    (h : ∀ w', Hd w0 (cel g T (pre ++ (cells.toList ++ post)).toArray :: R) w' → wpList P ops Q rest (a.put o.dst undef) w') : wpList P ops Q (o :: rest) a w := by
  refine wpList_store_mid hgd ty y z ho g off cells hy hz ?_ hi h1 (h _ (Hd.setCells H hpre (by rw [hold]; simp)))
  intro j hj
  refine ⟨?_, H.fr _⟩
  rw [H.rd, List.getElem?_toArray, List.getElem?_append_right (by omega), List.getElem?_append_left (by omega), List.getElem?_eq_getElem (by omega)]
  rfl
set_option maxRecDepth 20000 in
set_option maxHeartbeats 4000000 in
theorem coOperations (H : Hd w0 R w) (c : Nat) : Calls Tryz.prog 107 #[.pointer (some ⟨c, 0, none⟩)] w fun e w' => e = .returned (.agg (opsRow c)) ∧ Hd w0 R w' := by
  have H2 : Hd w0 _ (w.alloc (.cells #[.nilFunc, .nilFunc, .nilFunc, .nilFunc, .nilFunc, .nilFunc, .nilFunc, .nilFunc, .nilFunc, .nilFunc, .nilFunc, .nilFunc] 110)) := H.fol
  go_enter Tryz.func107, Tryz.ntmps107
  go_wp2_with (first | ((refine wpList_store_all (cells := opsRow c) (H2.k w.heap.size) rfl 110 _ _ rfl rfl rfl (by kernel_rfl) rfl (opsRow_one _) ?_); intro w4 H9))
  (try simp only [Exit.inBlock, Exit.then])
  refine bodyPost_ret (results_row rfl _ _ w.heap.size 110 (opsRow c) (0, 0) _ (by rfl) (by exact ((Hd.fol H9 : Hd w0 _ _).k w.heap.size).heap) Tryz.underlying110 rfl (by kernel_rfl)) rfl ⟨rfl, ?_⟩
  exact Hd.fin H9
set_option maxRecDepth 20000 in
set_option maxHeartbeats 4000000 in
theorem coOver (H : Hd w0 R w) (l : Nat) : Calls Tryz.prog 76 #[.pointer (some ⟨l, 0, none⟩)] w fun e w' => ∃ c, e = .returned (.pointer (some ⟨c, 0, none⟩)) ∧ Hd w0 (cel c 112 (coreRow c l) :: R) w' := by
  have H2 : Hd w0 _ (w.alloc (.cells #[.pointer (some ⟨l, 0, none⟩), .nilFunc, .nilFunc, .nilFunc, .nilFunc, .nilFunc, .nilFunc, .nilFunc, .nilFunc, .nilFunc, .nilFunc, .nilFunc, .nilFunc] 112)) := H.fol
  have ho := coOperations H2 w.heap.size
  go_enter Tryz.func76, Tryz.ntmps76
  go_wp2_with fail
  refine ho.mono ?_
  rintro e w1 ⟨rfl, H3⟩
  clear ho
  go_wp2_with (first | ((refine wpList_store_part (pre := [.pointer (some ⟨l, 0, none⟩)]) (old := [.nilFunc, .nilFunc, .nilFunc, .nilFunc, .nilFunc, .nilFunc, .nilFunc, .nilFunc, .nilFunc, .nilFunc, .nilFunc, .nilFunc]) (post := []) (cells := opsRow w.heap.size) H3 rfl rfl rfl 110 _ _ rfl rfl rfl (by kernel_rfl) (opsRow_one _) ?_); intro w4 H9))
  go_ret
  exact ⟨_, rfl, H9⟩
end
end Go.Proofs.YtogcikilphakmaaGreatDoor

/-
  Package core: New. Every table.
-/
namespace Go.Proofs.YtogcikilphakmaaGreatDoor
open Go.RowKit Spl

def CoM.new (tk : TkM) : CoM := ⟨ArM.new tk.words.toNat, ⟨tk.units, tk.units, List.replicate tk.units.length 0, []⟩, [], []⟩
section
variable {w0 w : World} {R : List Pr} {tk : TkM} {S : Hp}
set_option maxRecDepth 20000 in
set_option maxHeartbeats 4000000 in
theorem coNew {t : Nat} (H : Hd w0 (TkP t tk S :: ro S :: R) w) (ht : tk.Ok) :
    Calls Tryz.prog 44 #[.pointer (some ⟨t, 0, none⟩)] w fun e w' => ∃ (c : Nat) (x : CoV), x.t = t ∧ e = .returned (.tuple #[.pointer (some ⟨c, 0, none⟩), .int .i64 0]) ∧
      Hd w0 (cel c 112 (coreRow c x.l) :: LkP x S (CoM.new tk) :: TkP t tk S :: ro S :: R) w' := by
  have hw := tkWords H
  obtain ⟨n, hn⟩ : ∃ n : Nat, tk.words = n := ⟨tk.words.toNat, by have := ht.w; omega⟩
  rw [hn] at hw
  have hn2 : n ≤ 65536 := by have := ht.w; omega
  have hnu : newUn tk.units = 0 := by
    unfold newUn
    rw [if_neg (by have := ht.u; omega), if_pos (by simpa using ht.uv)]
  have hnew : CoM.new tk = ⟨ArM.new n, ⟨tk.units, tk.units, List.replicate tk.units.length 0, []⟩, [], []⟩ := by
    unfold CoM.new
    rw [hn, Int.toNat_natCast]
  rw [hnew]
  have ha := arNew H n hn2
  obtain ⟨U, hU⟩ : ∃ U, tk.units = U := ⟨_, rfl⟩
  obtain ⟨N, hN⟩ : ∃ N, U.length = N := ⟨_, rfl⟩
  rw [hU] at hnu ⊢
  replace hU := Lib.hid hU
  replace hN := Lib.hid hN
  clear H hn hnew
  go_enter Tryz.func44, Tryz.ntmps44
  go_wp2_with fail
  refine hw.mono ?_
  rintro e w1 ⟨rfl, rfl⟩
  clear hw
  go_wp2_with fail
  refine ha.mono ?_
  rintro e w1 ⟨a, rfl, H1⟩
  clear ha
  have hu := tkUnits H1.b2 ht
  rw [hU.out, hN.out] at hu
  go_wp2_with fail
  refine hu.mono ?_
  rintro e w2 ⟨g, rfl, H2⟩
  clear hu
  have h3 : Hd w0 (SlEC 3 g N U :: ArP a (ArM.new n) :: TkP t tk S :: ro S :: R) w2 := H2.re
  have H3 : Hd w0 (SlE 3 (.slice (some ⟨g, 0, none⟩) N N) U :: ArP a (ArM.new n) :: TkP t tk S :: ro S :: R) w2 := by
    have h := h3.slc_mk
    rw [hN.out] at h
    unfold SlE
    rw [hN.out]
    exact h
  have hs := Srd.slE H3
  have hnw := unNew H3 hs hnu
  go_wp2_with fail
  refine hnw.mono ?_
  rintro e w3 ⟨u, rfl, H4⟩
  clear hnw hs
  have H5 : Hd w0 _ ((w3.alloc (.cells #[.slice none 0 0] 152)).alloc (.cells #[.pointer (some ⟨t, 0, none⟩), .pointer (some ⟨a, 0, none⟩), .pointer (some ⟨u, 0, none⟩), .pointer (some ⟨w3.heap.size, 0, none⟩), .slice none 0 0] 94)) := H4.fol
  have hov := coOver H5 (w3.heap.size + 1)
  go_wp2_with fail
  refine hov.mono ?_
  rintro e w4 ⟨c, rfl, H6⟩
  clear hov
  go_wp2_with fail
  go_ret2
  refine ⟨c, ⟨w3.heap.size + 1, t, a, u, w3.heap.size⟩, rfl, rfl, ?_⟩
  have H7 : Hd w0 (SlE 3 (.slice none 0 0) ([] : List Int) :: _) w4 := H6.slc_nil 3 1
  have H8 : Hd w0 (cel w3.heap.size 152 #[.slice none 0 0] :: SlE 3 (.slice none 0 0) ([] : List Int) :: cel c 112 (coreRow c (w3.heap.size + 1)) :: cel (w3.heap.size + 1) 94 (lookRow ⟨w3.heap.size + 1, t, a, u, w3.heap.size⟩ (.slice none 0 0)) :: UnP u ⟨U, U, List.replicate U.length 0, []⟩ :: ArP a (ArM.new n) :: TkP t tk S :: ro S :: R) w4 := H7.re
  have H9 := CeP.shut H8
  have H10 : Hd w0 (SlE 158 (.slice none 0 0) ([] : List Ptr) :: _) w4 := H9.slc_nil 158 1
  have H11 : Hd w0 (all [] :: _) w4 := Hd.all_nil H10
  have H12 : Hd w0 (cel (w3.heap.size + 1) 94 (lookRow ⟨w3.heap.size + 1, t, a, u, w3.heap.size⟩ (.slice none 0 0)) :: ArP a (ArM.new n) :: UnP u ⟨U, U, List.replicate U.length 0, []⟩ :: CeP w3.heap.size [] :: SlE 158 (.slice none 0 0) ([] : List Ptr) :: all [] :: cel c 112 (coreRow c (w3.heap.size + 1)) :: TkP t tk S :: ro S :: R) w4 := H11.re
  exact (LkP.shut (x := ⟨w3.heap.size + 1, t, a, u, w3.heap.size⟩) (m := ⟨ArM.new n, ⟨U, U, List.replicate U.length 0, []⟩, [], []⟩) (bs := []) H12 rfl).b2
end
end Go.Proofs.YtogcikilphakmaaGreatDoor

/-
  Package core: place, Running, Ceiling, Holders, Frame, Top of the started jobs. Every core.
-/
namespace Go.Proofs.YtogcikilphakmaaGreatDoor
open Go.RowKit Spl

section
variable {w0 w : World} {R : List Pr} {x : CoV} {S : Hp}
abbrev stRow (j : StM) (v : Value) : Array Value := #[.int .i64 j.job, .int .i64 j.task, .int .i64 j.level, .int .i64 j.pos, v]
theorem LkP.snoc {m : CoM} {js : List StM} {j : StM} (H : Hd w0 (LkP x S m :: R) w) (hj : m.jobs = js ++ [j]) : ∃ (vj : Value) (bs : List Nat) (b : Nat) (v : Value), bs.length = js.length ∧ RoE S 39 v j.steps ∧
    Hd w0 (cel x.l 94 (lookRow x vj) :: ArP x.a m.ar :: UnP x.u m.un :: CeP x.c m.ce :: SlE 158 vj (bs.map Ptr.mk ++ [⟨b⟩]) :: all (List.zipWith (stB S) bs js) :: cel b 162 (stRow j v) :: R) w := by
  obtain ⟨vj, bs0, hb, H1⟩ := LkP.opened H
  rw [hj] at hb H1
  obtain ⟨bs, b, rfl⟩ : ∃ bs b, bs0 = bs ++ [b] := by
    rcases nil_or_snoc bs0 with h | ⟨bs, b, h⟩
    · rw [h] at hb; simp at hb
    · exact ⟨bs, b, h⟩
  have hb2 : bs.length = js.length := by simpa using hb
  rw [List.zipWith_append hb2, List.map_append] at H1
  have H2 : Hd w0 (all (List.zipWith (stB S) bs js ++ [stB S b j]) :: cel x.l 94 (lookRow x vj) :: ArP x.a m.ar :: UnP x.u m.un :: CeP x.c m.ce :: SlE 158 vj (bs.map Ptr.mk ++ [⟨b⟩]) :: R) w := by
    have h := H1.b6
    exact h
  have H3 : Hd w0 (all ([stB S b j] ++ List.zipWith (stB S) bs js) :: _) w := H2.all_perm List.perm_append_comm
  have H4 : Hd w0 (stB S b j :: (List.zipWith (stB S) bs js ++ (cel x.l 94 (lookRow x vj) :: ArP x.a m.ar :: UnP x.u m.un :: CeP x.c m.ce :: SlE 158 vj (bs.map Ptr.mk ++ [⟨b⟩]) :: R))) w := H3.flat
  obtain ⟨v, H5⟩ := H4.out
  have H6 : Hd w0 (fact (RoE S 39 v j.steps) :: cel b 162 (stRow j v) :: (List.zipWith (stB S) bs js ++ (cel x.l 94 (lookRow x vj) :: ArP x.a m.ar :: UnP x.u m.un :: CeP x.c m.ce :: SlE 158 vj (bs.map Ptr.mk ++ [⟨b⟩]) :: R))) w := H5.flat
  have H7 : Hd w0 (List.zipWith (stB S) bs js ++ (cel b 162 (stRow j v) :: cel x.l 94 (lookRow x vj) :: ArP x.a m.ar :: UnP x.u m.un :: CeP x.c m.ce :: SlE 158 vj (bs.map Ptr.mk ++ [⟨b⟩]) :: R)) w := H6.tail.perm List.perm_middle.symm
  have H8 := Hd.pack H7
  exact ⟨vj, bs, b, v, hb2, H6.get, H8.re⟩
theorem LkP.unsnoc {ar : ArM} {un : UnM} {ce : List Int} {js : List StM} {j : StM} {vj : Value} {bs : List Nat} {b : Nat} {v : Value} (H : Hd w0 (cel x.l 94 (lookRow x vj) :: ArP x.a ar :: UnP x.u un :: CeP x.c ce :: SlE 158 vj (bs.map Ptr.mk ++ [⟨b⟩]) :: all (List.zipWith (stB S) bs js) :: cel b 162 (stRow j v) :: R) w)
    (hb : bs.length = js.length) (hv : RoE S 39 v j.steps) : Hd w0 (LkP x S ⟨ar, un, ce, js ++ [j]⟩ :: R) w := by
  have H1 : Hd w0 (cel b 162 (stRow j v) :: all (List.zipWith (stB S) bs js) :: cel x.l 94 (lookRow x vj) :: ArP x.a ar :: UnP x.u un :: CeP x.c ce :: SlE 158 vj (bs.map Ptr.mk ++ [⟨b⟩]) :: R) w := H.re
  have H2 : Hd w0 (stB S b j :: all (List.zipWith (stB S) bs js) :: cel x.l 94 (lookRow x vj) :: ArP x.a ar :: UnP x.u un :: CeP x.c ce :: SlE 158 vj (bs.map Ptr.mk ++ [⟨b⟩]) :: R) w := Hd.into v (Hd.pack (L := [_, _]) (Hd.put hv H1))
  have H3 := H2.row_snoc hb
  have H4 : Hd w0 (cel x.l 94 (lookRow x vj) :: ArP x.a ar :: UnP x.u un :: CeP x.c ce :: SlE 158 vj (bs.map Ptr.mk ++ [⟨b⟩]) :: all (List.zipWith (stB S) (bs ++ [b]) (js ++ [j])) :: R) w := H3.re
  refine LkP.shut (m := ⟨ar, un, ce, js ++ [j]⟩) (vj := vj) (bs := bs ++ [b]) ?_ (by simp [hb])
  rw [List.map_append]
  exact H4
end
section
variable {w0 w : World} {R : List Pr} {x : CoV} {tk : TkM} {S : Hp} {m : CoM}
set_option maxRecDepth 20000 in
set_option maxHeartbeats 1600000 in
theorem lkCeiling (H : Hd w0 (LkP x S m :: R) w) (hl : m.ce.length ≤ 100000) : Calls Tryz.prog 12 #[.pointer (some ⟨x.l, 0, none⟩)] w fun e w' => e = .returned (.int .i64 (topI m.ce)) ∧ w = w' := by
  obtain ⟨vj, bs, hb, H1⟩ := LkP.opened H
  obtain ⟨l, t, a, u, ce⟩ := x
  have hc := ceTop (H1.k ce) hl
  have c3 := (show _ = some (Value.pointer (some ⟨ce, 0, none⟩)) from (H1.k l).ce 3 rfl)
  go_enter Tryz.func12, Tryz.ntmps12
  go_wp2_with fail
  refine hc.mono ?_
  rintro e w1 ⟨rfl, rfl⟩
  clear hc
  go_wp2_with fail
  go_ret
  exact ⟨rfl, rfl⟩
set_option maxRecDepth 20000 in
set_option maxHeartbeats 1600000 in
theorem lkHolders (H : Hd w0 (LkP x S m :: R) w) (hu : m.un.Inv) {r : Nat} (hr : r < m.un.units.length) : Calls Tryz.prog 47 #[.pointer (some ⟨x.l, 0, none⟩), .int .i64 r] w fun e w' => ∃ v, e = .returned v ∧ Hd w0 (SlE 242 v (holdersM m.un r) :: LkP x S m :: R) w' := by
  obtain ⟨vj, bs, hb, H1⟩ := LkP.opened H
  obtain ⟨l, t, a, u, ce⟩ := x
  have hc := unHolders (H1.k u) hu hr
  have c3 := (show _ = some (Value.pointer (some ⟨u, 0, none⟩)) from (H1.k l).ce 2 rfl)
  go_enter Tryz.func47, Tryz.ntmps47
  go_wp2_with fail
  refine hc.mono ?_
  rintro e w1 ⟨v, rfl, H2⟩
  clear hc
  go_wp2_with fail
  go_ret
  refine ⟨v, rfl, ?_⟩
  have H3 : Hd w0 (cel l 94 (lookRow ⟨l, t, a, u, ce⟩ vj) :: ArP a m.ar :: UnP u m.un :: CeP ce m.ce :: SlE 158 vj (bs.map Ptr.mk) :: all (List.zipWith (stB S) bs m.jobs) :: SlE 242 v (holdersM m.un r) :: R) w1 := H2.re
  exact (LkP.shut (x := ⟨l, t, a, u, ce⟩) H3 hb).b2
set_option maxRecDepth 20000 in
set_option maxHeartbeats 1600000 in
theorem lkRunningNo (H : Hd w0 (LkP x S m :: R) w) (hj : m.jobs = []) : Calls Tryz.prog 95 #[.pointer (some ⟨x.l, 0, none⟩)] w fun e w' => e = .returned (.tuple #[actV ⟨0, 0, 0, 0⟩, .bool false]) ∧ Hd w0 (LkP x S m :: R) w' := by
  obtain ⟨vj, bs, hb, H1⟩ := LkP.opened H
  obtain ⟨l, t, a, u, ce⟩ := x
  have hbs : bs = [] := List.eq_nil_of_length_eq_zero (by rw [hb, hj]; rfl)
  subst hbs
  have H2 : Hd w0 _ (w.alloc (.cells #[.int .i64 0, .int .i64 0, .int .i64 0, .int .i64 0] 160)) := H1.fol
  have hc := stkTopNo_started (o := 4) ((H2.v vj).k l) rfl
  have hf := H2.facts
  simp only [Nat.reduceAdd] at hf
  go_split_ands
  go_enter Tryz.func95, Tryz.ntmps95
  go_wp2_with fail
  refine hc.mono ?_
  rintro e w1 ⟨rfl, rfl⟩
  clear hc
  go_wp2_with fail
  refine bodyPost_ret (results_row_tmp rfl _ _ w.heap.size 160 #[.int .i64 0, .int .i64 0, .int .i64 0, .int .i64 0] (0, 0) _ (by rfl) (by exact (H2.k w.heap.size).heap) Tryz.underlying160 rfl (by kernel_rfl)) rfl ⟨rfl, ?_⟩
  exact LkP.shut (x := ⟨l, t, a, u, ce⟩) (vj := vj) (bs := []) (by exact H2.re) hb
set_option maxRecDepth 20000 in
set_option maxHeartbeats 4000000 in
theorem lkRunning (H : Hd w0 (LkP x S m :: R) w) {js : List StM} {j : StM} (hj : m.jobs = js ++ [j]) (hn : js.length ≤ 1000) : Calls Tryz.prog 95 #[.pointer (some ⟨x.l, 0, none⟩)] w fun e w' => e = .returned (.tuple #[actV j.act, .bool true]) ∧ Hd w0 (LkP x S m :: R) w' := by
  obtain ⟨vj, bs, b, v, hb, hv, H1⟩ := LkP.snoc H hj
  obtain ⟨l, t, a, u, ce⟩ := x
  have hm : m = ⟨m.ar, m.un, m.ce, js ++ [j]⟩ := by rw [← hj]
  have H2 : Hd w0 _ (w.alloc (.cells #[.int .i64 0, .int .i64 0, .int .i64 0, .int .i64 0] 160)) := H1.fol
  have hc := stkTop_started (o := 4) ((H2.v vj).k l) rfl (by rw [List.length_map]; omega)
  have hf := H2.facts
  simp only [Nat.reduceAdd] at hf
  go_split_ands
  replace hm := Lib.hid hm
  replace hj := Lib.hid hj
  replace hb := Lib.hid hb
  go_enter Tryz.func95, Tryz.ntmps95
  go_wp2_with fail
  refine hc.mono ?_
  rintro e w1 ⟨rfl, rfl⟩
  clear hc
  go_wp2_with fail
  have H3 : Hd w0 _ (w.alloc (.cells #[.int .i64 j.job, .int .i64 j.task, .int .i64 j.level, .int .i64 j.pos] 160)) := H1.fol
  refine bodyPost_ret (results_row_tmp rfl _ _ w.heap.size 160 #[.int .i64 j.job, .int .i64 j.task, .int .i64 j.level, .int .i64 j.pos] (0, 0) _ (by rfl) (by exact (H3.k w.heap.size).heap) Tryz.underlying160 rfl (by kernel_rfl)) rfl ⟨rfl, ?_⟩
  rw [hm.out]
  exact LkP.unsnoc (x := ⟨l, t, a, u, ce⟩) (bs := bs) (b := b) (v := v) (vj := vj) (by exact H3.re) hb.out hv
end
end Go.Proofs.YtogcikilphakmaaGreatDoor

/-
  Package core: place, Frame. Every core.
-/
namespace Go.Proofs.YtogcikilphakmaaGreatDoor
open Go.RowKit Spl

theorem placeM_hit {jobs : List StM} {job : Int} {k : Nat} {j : StM} (h : ∀ (i : Nat) (y : StM), i < k → jobs[i]? = some y → ¬ y.job = job) (hk : jobs[k]? = some j) (e : j.job = job) : placeM jobs job = k := by
  have h2 : jobs.findIdx? (fun j => j.job == job) = some k := by
    rw [List.findIdx?_eq_some_iff_getElem]
    obtain ⟨hkl, hke⟩ := List.getElem?_eq_some_iff.1 hk
    refine ⟨hkl, by rw [hke]; simpa using e, fun i hi => ?_⟩
    have := h i _ hi (List.getElem?_eq_getElem (by omega))
    simpa using this
  unfold placeM
  rw [h2]
theorem placeM_miss {jobs : List StM} {job : Int} (h : ∀ (i : Nat) (y : StM), i < jobs.length → jobs[i]? = some y → ¬ y.job = job) : placeM jobs job = -1 := by
  have h2 : jobs.findIdx? (fun j => j.job == job) = none := by
    rw [List.findIdx?_eq_none_iff]
    intro y hy
    obtain ⟨i, hi, rfl⟩ := List.mem_iff_getElem.1 hy
    have := h i _ hi (List.getElem?_eq_getElem hi)
    simpa using this
  unfold placeM
  rw [h2]
section
variable {w0 w : World} {R : List Pr} {x : CoV} {S : Hp} {m : CoM}
set_option maxRecDepth 20000 in
set_option maxHeartbeats 4000000 in
theorem lkPlace (H : Hd w0 (LkP x S m :: R) w) (hn : m.jobs.length ≤ 1000) (job : Int) : Calls Tryz.prog 39 #[.pointer (some ⟨x.l, 0, none⟩), .int .i64 job] w fun e w' => e = .returned (.int .i64 (placeM m.jobs job)) ∧ Hd w0 (LkP x S m :: R) w' := by
  obtain ⟨vj, bs, hb, H1⟩ := LkP.opened H
  obtain ⟨l, t, a, u, ce⟩ := x
  have hc := stkList_started (o := 4) ((H1.v vj).k l) rfl (by rw [List.length_map]; omega)
  rw [List.length_map] at hc
  obtain ⟨N, hN⟩ : ∃ N, bs.length = N := ⟨_, rfl⟩
  rw [hN] at hc hb
  have hJ : m.jobs.length = N := hb.symm
  have hN1 : N ≤ 1000 := by omega
  replace hb := Lib.hid hb
  replace hN := Lib.hid hN
  obtain ⟨P, hP⟩ : ∃ P, placeM m.jobs job = P := ⟨_, rfl⟩
  rw [hP]
  replace hP := Lib.hid hP
  replace hJ := Lib.hid hJ
  clear H hn
  go_enter Tryz.func39, Tryz.ntmps39
  go_wp2_with fail
  refine hc.mono ?_
  rintro e w1 ⟨g, rfl, H2⟩
  clear hc H1
  go_wp2_with fail
  have H3 : Hd w0 (all (List.zipWith (stB S) bs m.jobs) :: SlcC 158 1 g N N (flat (bs.map Ptr.mk)) :: cel l 94 (lookRow ⟨l, t, a, u, ce⟩ vj) :: ArP a m.ar :: UnP u m.un :: CeP ce m.ce :: SlE 158 vj (bs.map Ptr.mk) :: R) w1 := by
    have h : Hd w0 (SlcC 158 (Enc.size Ptr) g (bs.map Ptr.mk).length N (flat (bs.map Ptr.mk)) :: _) w1 := H2
    rw [List.length_map, hN.out] at h
    have h2 : Hd w0 (SlcC 158 1 g N N (flat (bs.map Ptr.mk)) :: _) w1 := h
    exact h2.re
  clear H2
  go_loopw [12] (fun y wr => ∃ k : Nat, k ≤ N ∧ y = .int .i64 k ∧ (∀ (i : Nat) (y : StM), i < k → m.jobs[i]? = some y → ¬ y.job = job) ∧ wr = w1) (fun y _ => N - (intOf y).toNat)
  case atStart => exact ⟨0, Nat.zero_le _, rfl, fun i y h => by omega, rfl⟩
  case round =>
    obtain ⟨k, hk, rfl, hno, rfl⟩ := hrel
    by_cases hlt : k < N
    · obtain ⟨j, hj⟩ : ∃ j, m.jobs[k]? = some j := ⟨m.jobs[k]'(by rw [hJ.out]; exact hlt), List.getElem?_eq_getElem _⟩
      obtain ⟨b, hbk⟩ : ∃ b, bs[k]? = some b := ⟨bs[k]'(by rw [hN.out]; exact hlt), List.getElem?_eq_getElem _⟩
      obtain ⟨v, H4⟩ := (H3.row_nth hbk hj).out
      have H5 : Hd w0 (fact (RoE S 39 v j.steps) :: cel b 162 (stRow j v) :: _) wr := H4.flat
      have d0 := (show _ = some (Value.int .i64 j.job) from (H5.k b).ce 0 rfl)
      have d1 : wr.cell? ⟨g, k, none⟩ = some (.pointer (some ⟨b, 0, none⟩)) := by
        have h1 : (bs.map Ptr.mk)[k]? = some ⟨b⟩ := by simp [hbk]
        have := (show Hd w0 (SlcC 158 1 g N N (flat (bs.map Ptr.mk)) :: R) wr from H3.re).slcC_rd (flat_at h1 (j := 0) rfl)
        simpa only [Enc.size, Nat.mul_one, Nat.add_zero] using this
      have n1 : (k : Int) < N := by omega
      have n2 : ¬ (k : Int) < 0 := by omega
      have n3 : ¬ N ≤ k := by omega
      have g6 : IntKind.i64.wrap ((k : Int) + 1) = (k : Int) + 1 := IntWalk.i64_in _ (by omega)
      replace hno := Lib.hid hno
      replace H3 := Lib.hid H3
      clear H4 H5
      by_cases he : j.job = job
      · have hpk := placeM_hit hno.out hj he
        rw [hP.out] at hpk
        replace hpk := Lib.hid hpk
        replace hj := Lib.hid hj
        go_wp2_with fail
        go_ret
        exact ⟨ret_int hpk.out, LkP.shut (x := ⟨l, t, a, u, ce⟩) (vj := vj) (bs := bs) H3.out.re (by rw [hN.out, hJ.out])⟩
      · replace hj := Lib.hid hj
        go_wp2_with fail
        go_roundw
        case rel =>
          refine ⟨k + 1, by omega, by simp, fun i y hi hy => ?_, by first | trivial | rfl⟩
          by_cases hik : i = k
          · subst hik
            have h2 := hj.out
            rw [hy] at h2
            injection h2 with h2
            rw [h2]
            exact he
          · exact hno.out i y (by omega) hy
        case measure => simp [intOf]; omega
    · obtain rfl : k = N := by omega
      have hpk := placeM_miss (jobs := m.jobs) (job := job) (by rw [hJ.out]; exact hno)
      rw [hP.out] at hpk
      replace hpk := Lib.hid hpk
      go_wp2_with fail
      go_ret
      exact ⟨ret_int hpk.out, LkP.shut (x := ⟨l, t, a, u, ce⟩) (vj := vj) (bs := bs) H3.re (by rw [hN.out, hJ.out])⟩
end
end Go.Proofs.YtogcikilphakmaaGreatDoor

/-
  Package core: Frame of a started job. Every core.
-/
namespace Go.Proofs.YtogcikilphakmaaGreatDoor
open Go.RowKit Spl

section
variable {w0 w : World} {R : List Pr} {x : CoV} {S : Hp} {m : CoM}
set_option maxRecDepth 20000 in
set_option maxHeartbeats 4000000 in
theorem lkFrame (H : Hd w0 (LkP x S m :: R) w) (hm : m.ar.Ok) (hn : m.jobs.length ≤ 1000) {job : Int} {i : Nat} {f : FrM} (hp : placeM m.jobs job = i) (hf : m.ar.fr[i]? = some f) :
    Calls Tryz.prog 15 #[.pointer (some ⟨x.l, 0, none⟩), .int .i64 job] w fun e w' => ∃ v, e = .returned (.tuple #[v, .bool true]) ∧ Hd w0 (SlE 3 v f.laid :: LkP x S m :: R) w' := by
  have hc := lkPlace H.drew hn job
  rw [hp] at hc
  obtain ⟨vj, bs, hb, H1⟩ := LkP.opened H
  have k1 := (show _ = some (Value.pointer (some ⟨x.a, 0, none⟩)) from H1.ce 1 rfl)
  clear H1
  have hfa := fun (w1 : World) (L : List Pr) (h : Hd w0 (ArP x.a m.ar :: L) w1) => arFrame h hm i f hf
  replace hfa := Lib.hid hfa
  replace hp := Lib.hid hp
  replace hb := Lib.hid hb
  replace H := Lib.hid H
  clear hf
  obtain ⟨l, t, a, u, ce⟩ := x
  go_enter Tryz.func15, Tryz.ntmps15
  go_wp2_with fail
  refine wp_region_mix 10 [(0, true), (1, true), (2, true), (3, true), (4, true), (5, true), (6, false), (7, false), (8, true), (9, true)] (fun w' => w'.cell? ⟨l, 1, none⟩ = some (.pointer (some ⟨a, 0, none⟩))) (by kernel_rfl) (by kernel_rfl) (k1) (fun _ _ d _ _ h => by cases d <;> exact h) ?_
  simp only [List.drop_succ_cons, List.drop_zero]
  iterate 6 (refine mix_head (o := _) (v := ?_) (by (simp only [List.getElem?_toArray, List.getElem?_cons_succ, List.getElem?_cons_zero]); rfl) (by rfl) (fun w' hS => ?_) ?_; rotate_left 1; (focus ((try dsimp only at hS); (try go_split_ands); go_simp; (try with_reducible rfl))); (try simp only [Act.put, List.setIfInBounds_toArray, List.set_cons_zero, List.set_cons_succ]))
  refine mix_mid (o := _) (by (simp only [List.getElem?_toArray, List.getElem?_cons_succ, List.getElem?_cons_zero]); rfl) ?_
  go_wp2_with fail
  refine hc.mono ?_
  rintro e w1 ⟨rfl, H2⟩
  clear hc
  obtain ⟨vj2, bs2, hb2, H3⟩ := LkP.opened H2
  have k2 := (show _ = some (Value.pointer (some ⟨a, 0, none⟩)) from H3.ce 1 rfl)
  have hfr := hfa.out _ _ H3.b2
  replace hb2 := Lib.hid hb2
  go_wp2_with fail
  refine mixQ_in k2 ?_
  refine mix_mid (o := _) (by (simp only [List.getElem?_toArray, List.getElem?_cons_succ, List.getElem?_cons_zero]); rfl) ?_
  go_wp2_with fail
  refine hfr.mono ?_
  rintro e w2 ⟨g, rfl, H4⟩
  clear hfr
  have H5 : Hd w0 (SlE 3 (.slice (some ⟨g, 0, none⟩) f.laid.length f.laid.length) f.laid :: _) w2 := H4.slc_mk
  obtain ⟨F, hF⟩ : ∃ F, f.laid.length = F := ⟨_, rfl⟩
  rw [hF] at H5
  rw [hF]
  replace hF := Lib.hid hF
  have k3 := (show _ = some (Value.pointer (some ⟨a, 0, none⟩)) from (H5.k l).ce 1 rfl)
  go_wp2_with fail
  refine mixQ_in k3 ?_
  iterate 2 (refine mix_head (o := _) (v := ?_) (by (simp only [List.getElem?_toArray, List.getElem?_cons_succ, List.getElem?_cons_zero]); rfl) (by rfl) (fun w' hS => ?_) ?_; rotate_left 1; (focus ((try dsimp only at hS); (try go_split_ands); go_simp; (try with_reducible rfl))); (try simp only [Act.put, List.setIfInBounds_toArray, List.set_cons_zero, List.set_cons_succ]))
  refine mix_end ?_
  (try dsimp only)
  go_wp2_with fail
  go_ret2
  refine ⟨_, rfl, ?_⟩
  have H6 : Hd w0 (cel l 94 (lookRow ⟨l, t, a, u, ce⟩ vj2) :: ArP a m.ar :: UnP u m.un :: CeP ce m.ce :: SlE 158 vj2 (bs2.map Ptr.mk) :: all (List.zipWith (stB S) bs2 m.jobs) :: SlE 3 (.slice (some ⟨g, 0, none⟩) F F) f.laid :: R) w2 := H5.re
  exact (LkP.shut (x := ⟨l, t, a, u, ce⟩) H6 hb2.out).b2
end
end Go.Proofs.YtogcikilphakmaaGreatDoor

/-
  Package core: Start of a job that finds room. Every core.
-/
namespace Go.Proofs.YtogcikilphakmaaGreatDoor
open Go.RowKit Spl

def CoM.begun (m : CoM) (job : Int) (i : Nat) (r : RowM) : CoM := ⟨m.ar.openF r.t.fr, m.un, m.ce, m.jobs ++ [⟨job, i, r.t.lv, 0, r.steps⟩]⟩
section
variable {w0 w : World} {R : List Pr} {c : Nat} {x : CoV} {tk : TkM} {S : Hp} {m : CoM}
set_option maxRecDepth 20000 in
set_option maxHeartbeats 4000000 in
theorem coStart (H : Hd w0 (cel c 112 (coreRow c x.l) :: LkP x S m :: TkP x.t tk S :: ro S :: R) w) (ht : tk.Ok) (ha : m.ar.Ok) (hfew : m.ar.fr.length < 10000) (hn : m.jobs.length ≤ 1000) {i : Nat} {r : RowM} (hr : tk.rows[i]? = some r) {job : Int} (hj : 0 ≤ job)
    (hp : placeM m.jobs job = -1) (ho : m.ar.openE r.t.fr = 0) :
    Calls Tryz.prog 62 #[.pointer (some ⟨c, 0, none⟩), .int .i64 i, .int .i64 job] w fun e w' => e = .returned (.int .i64 0) ∧
      ∃ S', Le S S' ∧ Hd w0 (cel c 112 (coreRow c x.l) :: LkP x S' (m.begun job i r) :: TkP x.t tk S' :: ro S' :: R) w' := by
  have hget := tkGet (show Hd w0 (TkP x.t tk S :: ro S :: cel c 112 (coreRow c x.l) :: LkP x S m :: R) w from H.re) ht hr
  obtain ⟨vj, bs, hb, H1⟩ := LkP.opened H.b2
  have k0 := (show _ = some (Value.pointer (some ⟨x.l, 0, none⟩)) from (H1.k c).ce 0 rfl)
  have k1 := (show _ = some (Value.pointer (some ⟨x.t, 0, none⟩)) from H1.ce 0 rfl)
  clear H1 H
  have hst := fun (w1 : World) (L : List Pr) (h : Hd w0 (TkP x.t tk S :: ro S :: L) w1) => tkSteps h ht hr
  have hpl := fun (w1 : World) (L : List Pr) (h : Hd w0 (LkP x S m :: L) w1) => lkPlace h hn job
  rw [hp] at hpl
  have hbg : m.begun job i r = ⟨m.ar.openF r.t.fr, m.un, m.ce, m.jobs ++ [⟨job, i, r.t.lv, 0, r.steps⟩]⟩ := rfl
  obtain ⟨⟨nm, lv, fr, nds, cd, p, f, gg⟩, stp⟩ := r
  dsimp only at hget hst ho hbg
  rw [hbg]
  replace hst := Lib.hid hst
  replace hpl := Lib.hid hpl
  replace hb := Lib.hid hb
  replace hp := Lib.hid hp
  replace ho := Lib.hid ho
  clear hr hbg
  obtain ⟨l, t, a, u, ce⟩ := x
  dsimp only at k0 k1
  have n1 : ¬ job < 0 := by omega
  go_enter Tryz.func62, Tryz.ntmps62
  go_wp2_with fail
  refine hget.mono ?_
  rintro e w1 ⟨v, rfl, H2⟩
  clear hget k0 k1
  obtain ⟨a1, c1, rfl, -, -, -, -⟩ := H2.slc_form
  have H3a : Hd w0 _ (w1.alloc (.cells #[.string nm, .int .i64 lv, .int .i64 fr, .slice a1 nds.length c1, .string cd, .int .i64 p, .int .i64 f, .int .i64 gg] 33)) := H2.fol
  have H3 : Hd w0 (LkP ⟨l, t, a, u, ce⟩ S m :: cel w1.heap.size 33 #[.string nm, .int .i64 lv, .int .i64 fr, .slice a1 nds.length c1, .string cd, .int .i64 p, .int .i64 f, .int .i64 gg] :: cel c 112 (coreRow c l) :: TkP t tk S :: ro S :: R) (w1.alloc (.cells #[.string nm, .int .i64 lv, .int .i64 fr, .slice a1 nds.length c1, .string cd, .int .i64 p, .int .i64 f, .int .i64 gg] 33)) := H3a.re
  have hpc := hpl.out _ _ H3
  obtain ⟨vj2, bs2, hb2, H4⟩ := LkP.opened H3
  have hf := H4.facts
  simp only [Nat.reduceAdd] at hf
  go_split_ands
  clear hb2 H4 H3a H2
  go_wp2_with fail
  refine hpc.mono ?_
  rintro e w2 ⟨rfl, H5⟩
  clear hpc
  obtain ⟨vj3, bs3, hb3, H6⟩ := LkP.opened H5
  have hop := arOpen (H6.b2.drew) ha hfew fr
  rw [ho.out] at hop
  have hf2 := H6.facts
  simp only [Nat.reduceAdd] at hf2
  go_split_ands
  replace hb3 := Lib.hid hb3
  clear H5
  go_wp2_with fail
  refine wp_region_still_tail 9 (by kernel_rfl) (by kernel_rfl) ?_
  simp only [List.take_succ_cons, List.take_zero, List.drop_succ_cons, List.drop_zero, World.drew_eq]
  (repeat still_step)
  refine wpStill_nil ?_
  go_wp2_with fail
  refine hop.mono ?_
  rintro e w3 ⟨rfl, H7⟩
  clear hop
  have hsc := hst.out _ _ (show Hd w0 (TkP t tk S :: ro S :: cel w1.heap.size 33 #[.string nm, .int .i64 lv, .int .i64 fr, .slice a1 nds.length c1, .string cd, .int .i64 p, .int .i64 f, .int .i64 gg] :: cel c 112 (coreRow c l) :: cel l 94 (lookRow ⟨l, t, a, u, ce⟩ vj3) :: ArP a (m.ar.openF fr) :: UnP u m.un :: CeP ce m.ce :: SlE 158 vj3 (bs3.map Ptr.mk) :: all (List.zipWith (stB S) bs3 m.jobs) :: R) w3 from H7.re)
  have hf3 := H7.facts
  simp only [Nat.reduceAdd] at hf3
  go_split_ands
  go_wp2_with fail
  refine hsc.mono ?_
  rintro e w4 ⟨v2, rfl, H8⟩
  clear hsc H7 H6
  obtain ⟨a2, c2, rfl, -, -, -, -⟩ := H8.slc_form
  obtain ⟨Q, hQ⟩ : ∃ Q, stp.length = Q := ⟨_, rfl⟩
  rw [hQ] at H8
  have hf4 := H8.facts
  simp only [Nat.reduceAdd] at hf4
  go_split_ands
  have H9 : Hd w0 _ (w4.drew.alloc (.cells #[.int .i64 job, .int .i64 i, .int .i64 lv, .int .i64 0, .slice a2 Q c2] 162)) := H8.fol
  have hpu := stkPush_started (o := 4) ((H9.v vj3).k l) rfl (by rw [List.length_map, hb3.out]; omega) ⟨w4.heap.size⟩
  go_wp2_with fail
  refine wp_region_mix 14 [(0, true), (1, true), (2, true), (3, true), (4, true), (5, true), (6, true), (7, true), (8, true), (9, true), (10, true), (11, true), (12, true), (13, false)] (fun w' => w'.cell? ⟨c, 0, none⟩ = some (.pointer (some ⟨l, 0, none⟩)) ∧ w'.cell? ⟨w1.heap.size, 1, none⟩ = some (.int .i64 lv)) (by kernel_rfl) (by kernel_rfl) (⟨(show _ = some _ from (H8.k c).ce 0 rfl), (show _ = some _ from (H8.k w1.heap.size).ce 1 rfl)⟩) (fun _ _ d _ _ h => by cases d <;> exact h) ?_
  simp only [List.drop_succ_cons, List.drop_zero]
  iterate 13 (refine mix_head (o := _) (v := ?_) (by (simp only [List.getElem?_toArray, List.getElem?_cons_succ, List.getElem?_cons_zero]); rfl) (by rfl) (fun w' hS => ?_) ?_; rotate_left 1; (focus ((try dsimp only at hS); (try go_split_ands); go_simp; (try with_reducible rfl))); (try simp only [Act.put, List.setIfInBounds_toArray, List.set_cons_zero, List.set_cons_succ]))
  refine mix_mid (o := _) (by (simp only [List.getElem?_toArray, List.getElem?_cons_succ, List.getElem?_cons_zero]); rfl) ?_
  go_wp2_with fail
  refine mixQ_in ⟨(show _ = some _ from (H9.k c).ce 0 rfl), (show _ = some _ from (H9.k w1.heap.size).ce 1 rfl)⟩ ?_
  refine mix_end ?_
  (try dsimp only)
  go_wp2_with fail
  refine hpu.mono ?_
  rintro e w5 ⟨rfl, vj4, H10⟩
  clear hpu
  go_wp2_with fail
  go_ret
  refine ⟨rfl, ?_⟩
  have H11 : Hd w0 (cel l 94 (lookRow ⟨l, t, a, u, ce⟩ vj4) :: _) w5 := H10
  have hQo : stp.length = Q := hQ
  have H12 : Hd w0 (Slc 39 4 (.slice a2 Q c2) Q (flat stp) :: ro S :: all (List.zipWith (stB S) bs3 m.jobs) :: TkP t tk S :: cel l 94 (lookRow ⟨l, t, a, u, ce⟩ vj4) :: ArP a (m.ar.openF fr) :: UnP u m.un :: CeP ce m.ce :: SlE 158 vj4 (bs3.map Ptr.mk ++ [⟨w4.heap.size⟩]) :: cel w4.heap.size 162 #[.int .i64 job, .int .i64 i, .int .i64 lv, .int .i64 0, .slice a2 Q c2] :: cel c 112 (coreRow c l) :: R) w5 := by
    have h : Hd w0 (SlE 39 (.slice a2 Q c2) stp :: ro S :: all (List.zipWith (stB S) bs3 m.jobs) :: TkP t tk S :: cel l 94 (lookRow ⟨l, t, a, u, ce⟩ vj4) :: ArP a (m.ar.openF fr) :: UnP u m.un :: CeP ce m.ce :: SlE 158 vj4 (bs3.map Ptr.mk ++ [⟨w4.heap.size⟩]) :: cel w4.heap.size 162 #[.int .i64 job, .int .i64 i, .int .i64 lv, .int .i64 0, .slice a2 Q c2] :: cel c 112 (coreRow c l) :: R) w5 := H11.re
    unfold SlE at h
    rw [hQo] at h
    exact h
  obtain ⟨S', hle, hros, H13⟩ := H12.ro_in
  refine ⟨S', hle, ?_⟩
  have hros2 : RoE S' 39 (.slice a2 Q c2) stp := by
    unfold RoE
    rw [hQo]
    exact hros
  have H14 := (H13.b2.mono (B := all (List.zipWith (stB S') bs3 m.jobs)) fun _ h => stBs.mono hle h)
  have H15 := TkP.mono H14.b3 hle
  have H16 : Hd w0 (cel l 94 (lookRow ⟨l, t, a, u, ce⟩ vj4) :: ArP a (m.ar.openF fr) :: UnP u m.un :: CeP ce m.ce :: SlE 158 vj4 (bs3.map Ptr.mk ++ [⟨w4.heap.size⟩]) :: all (List.zipWith (stB S') bs3 m.jobs) :: cel w4.heap.size 162 (stRow ⟨job, i, lv, 0, stp⟩ (.slice a2 Q c2)) :: cel c 112 (coreRow c l) :: TkP t tk S' :: ro S' :: R) w5 := H15.re
  exact (LkP.unsnoc (x := ⟨l, t, a, u, ce⟩) (ar := m.ar.openF fr) (un := m.un) (ce := m.ce) (js := m.jobs) (j := ⟨job, i, lv, 0, stp⟩) H16 hb3.out hros2).b2
end
end Go.Proofs.YtogcikilphakmaaGreatDoor

/-
  Package core: what any operation but finish does. Every core.
-/
namespace Go.Proofs.YtogcikilphakmaaGreatDoor
open Go.RowKit Spl

/-- The function of a kind. -/
def opF (k : Int) : Nat := if k = 1 then 133 else if k = 2 then 134 else if k = 3 then 135 else if k = 4 then 136 else if k = 5 then 137
  else if k = 6 then 138 else if k = 7 then 139 else if k = 8 then 140 else 141
theorem coreRow_at (c l : Nat) {k : Nat} (h1 : 1 ≤ k) (h2 : k ≤ 9) : (coreRow c l)[1 + k]? = some (.func (.func (opF k)) #[.pointer (some ⟨c, 0, none⟩)] #[]) := by
  obtain rfl | rfl | rfl | rfl | rfl | rfl | rfl | rfl | rfl : k = 1 ∨ k = 2 ∨ k = 3 ∨ k = 4 ∨ k = 5 ∨ k = 6 ∨ k = 7 ∨ k = 8 ∨ k = 9 := by omega
  all_goals rfl
section
variable {w0 w : World} {R : List Pr} {c : Nat} {x : CoV} {vj : Value} {tk : TkM} {S : Hp} {m : CoM}
structure ActOk (tk : TkM) (m : CoM) (j : StM) (o : OpM) : Prop where
  t : tk.Ok
  a : m.ar.Ok
  u : m.un.Inv
  c : m.ce.length ≤ 5000
  f : m.ar.fr ≠ []
  r : ∃ r, tk.rows[j.task]? = some r
  n : -100000 ≤ o.n ∧ o.n ≤ 100000
  c1 : m.un.unlockE j.job o.res = 0 → m.ce ≠ []
  c2 : m.un.locksN j.job ≤ m.ce.length
theorem coAct (H : Hd w0 (CoL c x vj tk S m R) w) {j : StM} {o : OpM} (h : ActOk tk m j o) (hk : 1 ≤ o.kind ∧ o.kind ≤ 8) :
    Calls Tryz.prog (opF o.kind) #[.pointer (some ⟨c, 0, none⟩), actV j.act, opV o] w fun e w' => e = .returned (.int .i64 (actM tk m j o).1) ∧ Hd w0 (CoL c x vj tk S (actM tk m j o).2 R) w' := by
  obtain ⟨k, res, n, v⟩ := o
  dsimp only at hk
  have hn := h.n
  have hc1 := h.c1
  dsimp only at hn hc1
  obtain ⟨r, hr⟩ := h.r
  have hna : needAt tk j.task res = needOf r.t.needs res := by unfold needAt; rw [hr]
  obtain rfl | rfl | rfl | rfl | rfl | rfl | rfl | rfl : k = 1 ∨ k = 2 ∨ k = 3 ∨ k = 4 ∨ k = 5 ∨ k = 6 ∨ k = 7 ∨ k = 8 := by omega
  · show Calls Tryz.prog 133 _ _ _
    by_cases hE : m.un.lockE j.job res n (needAt tk j.task res) = 0
    · have hp := lockE_pos hE
      have e1 : actM tk m j ⟨1, res, n, v⟩ = (0, { m with un := m.un.locked j.job res.toNat n, ce := m.ce ++ [max (ceilAt tk res (((m.un.locked j.job res.toNat n).free[res.toNat]?).getD 0)) (topI m.ce)] }) := by
        unfold actM
        rw [if_pos rfl, if_pos hE]
      rw [e1]
      have hinv := h.u.locked (job := j.job) (r := res.toNat) (n := n) (need := needAt tk j.task res) (by rw [show ((res.toNat : Nat) : Int) = res by omega]; exact hE)
      obtain ⟨f, hf⟩ : ∃ f, (m.un.locked j.job res.toNat n).free[res.toNat]? = some f := ⟨_, List.getElem?_eq_getElem (by rw [hinv.fl, locked_units]; omega)⟩
      rw [hf, Option.getD_some]
      exact coLock H h.t h.u (by have := h.c; omega) hr ⟨1, res, n, v⟩ hn (by rw [← hna]; exact hE) hf
    · have e1 : actM tk m j ⟨1, res, n, v⟩ = (m.un.lockE j.job res n (needAt tk j.task res), m) := by
        unfold actM
        rw [if_pos rfl, if_neg hE]
      rw [e1]
      exact coLockNo H h.t h.u hr ⟨1, res, n, v⟩ hn (by rw [← hna]) hE
  · show Calls Tryz.prog 134 _ _ _
    by_cases hE : m.un.unlockE j.job res = 0
    · have e1 : actM tk m j ⟨2, res, n, v⟩ = (0, { m with un := m.un.popped j.job, ce := m.ce.dropLast }) := by
        unfold actM
        rw [if_neg (by simp), if_pos rfl, if_pos hE]
      rw [e1]
      exact coUnlock H h.u (by have := h.c; omega) (hc1 hE) j.act ⟨2, res, n, v⟩ hE
    · have e1 : actM tk m j ⟨2, res, n, v⟩ = (m.un.unlockE j.job res, m) := by
        unfold actM
        rw [if_neg (by simp), if_pos rfl, if_neg hE]
      rw [e1]
      exact coUnlockNo H h.u j.act ⟨2, res, n, v⟩ rfl hE
  · show Calls Tryz.prog 135 _ _ _
    exact coPush H h.a j.act ⟨3, res, n, v⟩
  · show Calls Tryz.prog 136 _ _ _
    exact coPop H h.a j.act ⟨4, res, n, v⟩
  · show Calls Tryz.prog 137 _ _ _
    exact coWork H j.act ⟨5, res, n, v⟩
  · show Calls Tryz.prog 138 _ _ _
    by_cases hE : m.un.cellE j.job res = 0
    · have hp := cellE_pos hE
      obtain ⟨u, hu⟩ : ∃ u, m.un.cells[res.toNat]? = some u := ⟨_, List.getElem?_eq_getElem (by rw [h.u.cl]; omega)⟩
      have e1 : actM tk m j ⟨6, res, n, v⟩ = (m.ar.pushE, { m with ar := m.ar.push u }) := by
        unfold actM
        rw [if_neg (by simp), if_neg (by simp), if_neg (by simp), if_neg (by simp), if_pos rfl, if_pos hE, hu, Option.getD_some]
      rw [e1]
      exact coLoad H h.a h.u j.act ⟨6, res, n, v⟩ hE hu
    · have e1 : actM tk m j ⟨6, res, n, v⟩ = (m.un.cellE j.job res, m) := by
        unfold actM
        rw [if_neg (by simp), if_neg (by simp), if_neg (by simp), if_neg (by simp), if_pos rfl, if_neg hE]
      rw [e1]
      exact coLoadNo H h.u j.act ⟨6, res, n, v⟩ rfl hE
  · show Calls Tryz.prog 139 _ _ _
    by_cases hE : m.un.cellE j.job res = 0
    · have hp := cellE_pos hE
      obtain ⟨u, hu⟩ : ∃ u, m.un.cells[res.toNat]? = some u := ⟨_, List.getElem?_eq_getElem (by rw [h.u.cl]; omega)⟩
      by_cases hP : m.ar.popE = 0
      · have e1 : actM tk m j ⟨7, res, n, v⟩ = (0, { m with ar := m.ar.pop, un := m.un.stored res.toNat m.ar.popV }) := by
          unfold actM
          rw [if_neg (by simp), if_neg (by simp), if_neg (by simp), if_neg (by simp), if_neg (by simp), if_pos rfl, if_pos hE, if_pos hP]
        rw [e1]
        exact coStore H h.a h.u j.act ⟨7, res, n, v⟩ hE hu hP
      · have e1 : actM tk m j ⟨7, res, n, v⟩ = (m.ar.popE, { m with ar := m.ar.pop }) := by
          unfold actM
          rw [if_neg (by simp), if_neg (by simp), if_neg (by simp), if_neg (by simp), if_neg (by simp), if_pos rfl, if_pos hE, if_neg hP]
        rw [e1]
        exact coStoreEmpty H h.a h.u j.act ⟨7, res, n, v⟩ hE hu rfl hP
    · have e1 : actM tk m j ⟨7, res, n, v⟩ = (m.un.cellE j.job res, m) := by
        unfold actM
        rw [if_neg (by simp), if_neg (by simp), if_neg (by simp), if_neg (by simp), if_neg (by simp), if_pos rfl, if_neg hE]
      rw [e1]
      exact coStoreNo H h.u j.act ⟨7, res, n, v⟩ rfl hE
  · show Calls Tryz.prog 140 _ _ _
    obtain ⟨init, f, hf⟩ : ∃ init f, m.ar.fr = init ++ [f] := by
      rcases nil_or_snoc m.ar.fr with h2 | ⟨init, f, h2⟩
      · exact absurd h2 h.f
      · exact ⟨init, f, h2⟩
    have hlen : m.ar.fr.length = init.length + 1 := by rw [hf]; simp
    have hat : m.ar.fr[init.length]? = some f := by rw [hf]; simp
    have hlast : ((m.ar.fr.getLast?.map fun f => f.laid.length).getD 0) = f.laid.length := by rw [hf]; simp
    by_cases hlt : f.laid.length < 2
    · have e1 : actM tk m j ⟨8, res, n, v⟩ = (10, m) := by
        unfold actM
        rw [if_neg (by simp), if_neg (by simp), if_neg (by simp), if_neg (by simp), if_neg (by simp), if_neg (by simp), if_pos rfl, hlast, if_pos hlt]
      rw [e1]
      exact coAddNo H h.a j.act ⟨8, res, n, v⟩ hlen hat hlt
    · have e1 : actM tk m j ⟨8, res, n, v⟩ = (m.ar.pop.pop.pushE, { m with ar := m.ar.pop.pop.push (wrap64 (m.ar.pop.popV + m.ar.popV)) }) := by
        unfold actM
        rw [if_neg (by simp), if_neg (by simp), if_neg (by simp), if_neg (by simp), if_neg (by simp), if_neg (by simp), if_pos rfl, hlast, if_neg hlt]
      rw [e1]
      exact coAdd H h.a j.act ⟨8, res, n, v⟩ hlen hat hlt
end
end Go.Proofs.YtogcikilphakmaaGreatDoor
