/-
  Merged texts of one proof: Dp1, Dp2, Dp3, Dp4, KeM, Ke1, Ke2, Ke4a.
-/
import Derived.Test.YtkchopnkdjnocaaGreatDoorG13
import Derived.Test.YtkchopnkdjnocaaGreatDoorG20
import Derived.Test.YtkchopnkdjnocaaGreatDoorG32
import Derived.Test.YtkchopnkdjnocaaGreatDoorG38

set_option maxHeartbeats 16000000
set_option maxRecDepth 20000
namespace Go.Proofs.YtkchopnkdjnocaaGreatDoor
section
open Go.RowKit Spl
abbrev qq4 (v:qQh):Value:=.agg #[.int .i64 v.job,.int .i64 v.task,.int .i64 v.level]
instance {l t a u c:Nat} {S:Hp} {m:CoM}:Key (LkP ⟨l,t,a,u,c⟩ S m) (.b l):=⟨trivial⟩
section
variable {w0 w:World} {R:List Pr} {tk:TkM} {S:Hp} {y:DpV} {m:DpM}
theorem zXN (H:Hd w0 (DpL y tk S m R) w) (hq:m.wq.Ok) (hx:m.wq.next=none) :
    Calls Tryz.prog 97 #[.pointer (some ⟨y.d,0,none⟩)] w fun e w'=>e=.returned (.tuple #[qq4 .zero,.bool false])∧Hd w0 (DpL y tk S m R) w':=by
  obtain ⟨⟨l,t,a,u,ce⟩,hx⟩:∃x,y.x=x:=⟨_,rfl⟩
  obtain ⟨d,c,q,x⟩:=y
  dsimp only at hx
  subst hx
  have H0:Hd w0 _ (w.alloc (.cells #[.int .i64 0,.int .i64 0,.int .i64 0] 42)):=H.fol
  have k0:=(show _=some (Value.pointer (some ⟨q,0,none⟩)) from (H0.k d).ce 3 rfl)
  have hnx:=zZY (H0.k q) hq hx
  clear H
  go_enter Tryz.func97,Tryz.ntmps97
  go_wp2_with fail
  refine hnx.mono ?_
  rintro e w1 ⟨rfl,H1⟩
  clear hnx k0 H0
  have H2a:Hd w0 _ (w1.alloc (.cells #[.int .i64 0,.int .i64 0,.int .i64 0] 42)):=H1.fol
  have hf:=H2a.facts
  simp only [Nat.reduceAdd] at hf
  go_split_ands
  have H2:=H2a.drew
  have k1:=(show _=some (Value.pointer (some ⟨l,0,none⟩)) from (H2.k d).ce 0 rfl)
  have k2:=(show _=some (Value.int .i64 0) from (H2.k w1.heap.size).ce 2 rfl)
  go_wp2_with fail
  refine wm 10 [(0,true),(1,true),(2,true),(3,true),(4,true),(5,true),(6,true),(7,true),(8,true),(9,false)] (fun w'=>w'.cell? ⟨d,0,none⟩=some (.pointer (some ⟨l,0,none⟩))∧w'.cell? ⟨w1.heap.size,2,none⟩=some (.int .i64 0)) (⟨k1,k2⟩) ?_
  simp only [List.drop_succ_cons,List.drop_zero]
  iterate 3 (refine mh ?_;(try simp only [Act.put,List.setIfInBounds_toArray,List.set_cons_zero,List.set_cons_succ]))
  iterate 6 (refine ms ?_;(try simp only [Act.put,List.setIfInBounds_toArray,List.set_cons_zero,List.set_cons_succ]))
  refine mm ?_
  go_wp2_with fail
  refine qQd ⟨k1,k2⟩ ?_
  refine qQe ?_
  (try dsimp only)
  go_wp2_with fail
  have HX:Hd w0 _ _:=H2a
  refine bodyPost_ret (qQg rfl _ _ w.heap.size 42 #[.int .i64 0,.int .i64 0,.int .i64 0] (0,0) _ (by rfl) (by exact ((Hd.fol HX:Hd w0 _ _).k w.heap.size).heap) Tryz.underlying42 rfl (by kernel_rfl)) rfl ⟨rfl,?_⟩
  exact Hd.fin HX
theorem zXf (H:Hd w0 (DpL y tk S m R) w) (hq:m.wq.Ok) (hc:m.co.ce.length≤5000) {v:qQh} (hx:m.wq.next=some v) (h1:v.level≤topI m.co.ce) :
    Calls Tryz.prog 97 #[.pointer (some ⟨y.d,0,none⟩)] w fun e w'=>e=.returned (.tuple #[qq4 .zero,.bool false])∧Hd w0 (DpL y tk S m R) w':=by
  obtain ⟨⟨l,t,a,u,ce⟩,hx⟩:∃x,y.x=x:=⟨_,rfl⟩
  obtain ⟨d,c,q,x⟩:=y
  dsimp only at hx
  subst hx
  have H0:Hd w0 _ (w.alloc (.cells #[.int .i64 0,.int .i64 0,.int .i64 0] 42)):=H.fol
  have k0:=(show _=some (Value.pointer (some ⟨q,0,none⟩)) from (H0.k d).ce 3 rfl)
  have hnx:=qU6 (H0.k q) hq hx
  clear H
  go_enter Tryz.func97,Tryz.ntmps97
  go_wp2_with fail
  refine hnx.mono ?_
  rintro e w1 ⟨rfl,H1⟩
  clear hnx k0 H0
  have H2a:Hd w0 _ (w1.alloc (.cells #[.int .i64 v.job,.int .i64 v.task,.int .i64 v.level] 42)):=H1.fol
  have hf:=H2a.facts
  simp only [Nat.reduceAdd] at hf
  go_split_ands
  have H2:=H2a.drew
  have k1:=(show _=some (Value.pointer (some ⟨l,0,none⟩)) from (H2.k d).ce 0 rfl)
  have k2:=(show _=some (Value.int .i64 v.level) from (H2.k w1.heap.size).ce 2 rfl)
  have hcl:=qJD (H2.k l) (by omega)
  obtain ⟨T,hT⟩:∃T,topI m.co.ce=T:=⟨_,rfl⟩
  rw [hT] at hcl h1
  replace hT:=Lib.hid hT
  go_wp2_with fail
  refine wm 10 [(0,true),(1,true),(2,true),(3,true),(4,true),(5,true),(6,true),(7,true),(8,true),(9,false)] (fun w'=>w'.cell? ⟨d,0,none⟩=some (.pointer (some ⟨l,0,none⟩))∧w'.cell? ⟨w1.heap.size,2,none⟩=some (.int .i64 v.level)) (⟨k1,k2⟩) ?_
  simp only [List.drop_succ_cons,List.drop_zero]
  iterate 9 (refine mh ?_;(try simp only [Act.put,List.setIfInBounds_toArray,List.set_cons_zero,List.set_cons_succ]))
  refine mm ?_
  go_wp2_with fail
  refine hcl.mono ?_
  rintro e w2 ⟨rfl,rfl⟩
  clear hcl
  go_wp2_with fail
  refine qQd ⟨k1,k2⟩ ?_
  refine qQe ?_
  (try dsimp only)
  go_wp2_with fail
  have HX:Hd w0 _ _:=H2a
  refine bodyPost_ret (qQg rfl _ _ w.heap.size 42 #[.int .i64 0,.int .i64 0,.int .i64 0] (0,0) _ (by rfl) (by exact ((Hd.fol HX:Hd w0 _ _).k w.heap.size).heap) Tryz.underlying42 rfl (by kernel_rfl)) rfl ⟨rfl,?_⟩
  exact Hd.fin HX
theorem zXx (H:Hd w0 (DpL y tk S m R) w) (hq:m.wq.Ok) (hc:m.co.ce.length≤5000) {v:qQh} (hx:m.wq.next=some v) (h1:¬v.level≤topI m.co.ce) (hj:m.co.jobs = []) :
    Calls Tryz.prog 97 #[.pointer (some ⟨y.d,0,none⟩)] w fun e w'=>e=.returned (.tuple #[qq4 v,.bool true])∧Hd w0 (DpL y tk S m R) w':=by
  obtain ⟨⟨l,t,a,u,ce⟩,hx⟩:∃x,y.x=x:=⟨_,rfl⟩
  obtain ⟨d,c,q,x⟩:=y
  dsimp only at hx
  subst hx
  have H0:Hd w0 _ (w.alloc (.cells #[.int .i64 0,.int .i64 0,.int .i64 0] 42)):=H.fol
  have k0:=(show _=some (Value.pointer (some ⟨q,0,none⟩)) from (H0.k d).ce 3 rfl)
  have hnx:=qU6 (H0.k q) hq hx
  clear H
  go_enter Tryz.func97,Tryz.ntmps97
  go_wp2_with fail
  refine hnx.mono ?_
  rintro e w1 ⟨rfl,H1⟩
  clear hnx k0 H0
  have H2a:Hd w0 _ (w1.alloc (.cells #[.int .i64 v.job,.int .i64 v.task,.int .i64 v.level] 42)):=H1.fol
  have hf:=H2a.facts
  simp only [Nat.reduceAdd] at hf
  go_split_ands
  have H2:=H2a.drew
  have k1:=(show _=some (Value.pointer (some ⟨l,0,none⟩)) from (H2.k d).ce 0 rfl)
  have k2:=(show _=some (Value.int .i64 v.level) from (H2.k w1.heap.size).ce 2 rfl)
  have hcl:=qJD (H2.k l) (by omega)
  obtain ⟨T,hT⟩:∃T,topI m.co.ce=T:=⟨_,rfl⟩
  rw [hT] at hcl h1
  replace hT:=Lib.hid hT
  go_wp2_with fail
  refine wm 10 [(0,true),(1,true),(2,true),(3,true),(4,true),(5,true),(6,true),(7,true),(8,true),(9,false)] (fun w'=>w'.cell? ⟨d,0,none⟩=some (.pointer (some ⟨l,0,none⟩))∧w'.cell? ⟨w1.heap.size,2,none⟩=some (.int .i64 v.level)) (⟨k1,k2⟩) ?_
  simp only [List.drop_succ_cons,List.drop_zero]
  iterate 9 (refine mh ?_;(try simp only [Act.put,List.setIfInBounds_toArray,List.set_cons_zero,List.set_cons_succ]))
  refine mm ?_
  go_wp2_with fail
  refine hcl.mono ?_
  rintro e w2 ⟨rfl,rfl⟩
  clear hcl
  go_wp2_with fail
  refine qQd ⟨k1,k2⟩ ?_
  refine qQe ?_
  (try dsimp only)
  have hr:=qUB (H2.k l) hj
  go_wp2_with fail
  refine hr.mono ?_
  rintro e w2 ⟨rfl,H3⟩
  clear hr
  have H4:Hd w0 _ (w2.alloc (.cells #[.int .i64 0,.int .i64 0,.int .i64 0,.int .i64 0] 213)):=H3.fol
  have hf4:=H4.facts
  simp only [Nat.reduceAdd] at hf4
  go_split_ands
  go_wp2_with fail
  have HX:Hd w0 _ _:=H4
  refine bodyPost_ret (qQg rfl _ _ w.heap.size 42 #[.int .i64 v.job,.int .i64 v.task,.int .i64 v.level] (0,0) _ (by rfl) (by exact ((Hd.fol HX:Hd w0 _ _).k w.heap.size).heap) Tryz.underlying42 rfl (by kernel_rfl)) rfl ⟨rfl,?_⟩
  exact Hd.fin HX
theorem zXs (H:Hd w0 (DpL y tk S m R) w) (hq:m.wq.Ok) (hc:m.co.ce.length≤5000) {v:qQh} (hx:m.wq.next=some v) (h1:¬v.level≤topI m.co.ce) {js:List StM} {j:StM} (hj:m.co.jobs=js++[j]) (hn:js.length≤1000) (h2:v.level≤j.act.level) :
    Calls Tryz.prog 97 #[.pointer (some ⟨y.d,0,none⟩)] w fun e w'=>e=.returned (.tuple #[qq4 .zero,.bool false])∧Hd w0 (DpL y tk S m R) w':=by
  obtain ⟨⟨l,t,a,u,ce⟩,hx⟩:∃x,y.x=x:=⟨_,rfl⟩
  obtain ⟨d,c,q,x⟩:=y
  dsimp only at hx
  subst hx
  have H0:Hd w0 _ (w.alloc (.cells #[.int .i64 0,.int .i64 0,.int .i64 0] 42)):=H.fol
  have k0:=(show _=some (Value.pointer (some ⟨q,0,none⟩)) from (H0.k d).ce 3 rfl)
  have hnx:=qU6 (H0.k q) hq hx
  clear H
  go_enter Tryz.func97,Tryz.ntmps97
  go_wp2_with fail
  refine hnx.mono ?_
  rintro e w1 ⟨rfl,H1⟩
  clear hnx k0 H0
  have H2a:Hd w0 _ (w1.alloc (.cells #[.int .i64 v.job,.int .i64 v.task,.int .i64 v.level] 42)):=H1.fol
  have hf:=H2a.facts
  simp only [Nat.reduceAdd] at hf
  go_split_ands
  have H2:=H2a.drew
  have k1:=(show _=some (Value.pointer (some ⟨l,0,none⟩)) from (H2.k d).ce 0 rfl)
  have k2:=(show _=some (Value.int .i64 v.level) from (H2.k w1.heap.size).ce 2 rfl)
  have hcl:=qJD (H2.k l) (by omega)
  obtain ⟨T,hT⟩:∃T,topI m.co.ce=T:=⟨_,rfl⟩
  rw [hT] at hcl h1
  replace hT:=Lib.hid hT
  go_wp2_with fail
  refine wm 10 [(0,true),(1,true),(2,true),(3,true),(4,true),(5,true),(6,true),(7,true),(8,true),(9,false)] (fun w'=>w'.cell? ⟨d,0,none⟩=some (.pointer (some ⟨l,0,none⟩))∧w'.cell? ⟨w1.heap.size,2,none⟩=some (.int .i64 v.level)) (⟨k1,k2⟩) ?_
  simp only [List.drop_succ_cons,List.drop_zero]
  iterate 9 (refine mh ?_;(try simp only [Act.put,List.setIfInBounds_toArray,List.set_cons_zero,List.set_cons_succ]))
  refine mm ?_
  go_wp2_with fail
  refine hcl.mono ?_
  rintro e w2 ⟨rfl,rfl⟩
  clear hcl
  go_wp2_with fail
  refine qQd ⟨k1,k2⟩ ?_
  refine qQe ?_
  (try dsimp only)
  have hr:=qVI (H2.k l) hj hn
  go_wp2_with fail
  refine hr.mono ?_
  rintro e w2 ⟨rfl,H3⟩
  clear hr
  have H4:Hd w0 _ (w2.alloc (.cells #[.int .i64 j.act.job,.int .i64 j.act.task,.int .i64 j.act.level,.int .i64 j.act.at_] 213)):=H3.fol
  have hf4:=H4.facts
  simp only [Nat.reduceAdd] at hf4
  go_split_ands
  go_wp2_with fail
  have HX:Hd w0 _ _:=H4
  refine bodyPost_ret (qQg rfl _ _ w.heap.size 42 #[.int .i64 0,.int .i64 0,.int .i64 0] (0,0) _ (by rfl) (by exact ((Hd.fol HX:Hd w0 _ _).k w.heap.size).heap) Tryz.underlying42 rfl (by kernel_rfl)) rfl ⟨rfl,?_⟩
  exact Hd.fin HX
theorem zXr (H:Hd w0 (DpL y tk S m R) w) (hq:m.wq.Ok) (hc:m.co.ce.length≤5000) {v:qQh} (hx:m.wq.next=some v) (h1:¬v.level≤topI m.co.ce) {js:List StM} {j:StM} (hj:m.co.jobs=js++[j]) (hn:js.length≤1000) (h2:¬v.level≤j.act.level) :
    Calls Tryz.prog 97 #[.pointer (some ⟨y.d,0,none⟩)] w fun e w'=>e=.returned (.tuple #[qq4 v,.bool true])∧Hd w0 (DpL y tk S m R) w':=by
  obtain ⟨⟨l,t,a,u,ce⟩,hx⟩:∃x,y.x=x:=⟨_,rfl⟩
  obtain ⟨d,c,q,x⟩:=y
  dsimp only at hx
  subst hx
  have H0:Hd w0 _ (w.alloc (.cells #[.int .i64 0,.int .i64 0,.int .i64 0] 42)):=H.fol
  have k0:=(show _=some (Value.pointer (some ⟨q,0,none⟩)) from (H0.k d).ce 3 rfl)
  have hnx:=qU6 (H0.k q) hq hx
  clear H
  go_enter Tryz.func97,Tryz.ntmps97
  go_wp2_with fail
  refine hnx.mono ?_
  rintro e w1 ⟨rfl,H1⟩
  clear hnx k0 H0
  have H2a:Hd w0 _ (w1.alloc (.cells #[.int .i64 v.job,.int .i64 v.task,.int .i64 v.level] 42)):=H1.fol
  have hf:=H2a.facts
  simp only [Nat.reduceAdd] at hf
  go_split_ands
  have H2:=H2a.drew
  have k1:=(show _=some (Value.pointer (some ⟨l,0,none⟩)) from (H2.k d).ce 0 rfl)
  have k2:=(show _=some (Value.int .i64 v.level) from (H2.k w1.heap.size).ce 2 rfl)
  have hcl:=qJD (H2.k l) (by omega)
  obtain ⟨T,hT⟩:∃T,topI m.co.ce=T:=⟨_,rfl⟩
  rw [hT] at hcl h1
  replace hT:=Lib.hid hT
  go_wp2_with fail
  refine wm 10 [(0,true),(1,true),(2,true),(3,true),(4,true),(5,true),(6,true),(7,true),(8,true),(9,false)] (fun w'=>w'.cell? ⟨d,0,none⟩=some (.pointer (some ⟨l,0,none⟩))∧w'.cell? ⟨w1.heap.size,2,none⟩=some (.int .i64 v.level)) (⟨k1,k2⟩) ?_
  simp only [List.drop_succ_cons,List.drop_zero]
  iterate 9 (refine mh ?_;(try simp only [Act.put,List.setIfInBounds_toArray,List.set_cons_zero,List.set_cons_succ]))
  refine mm ?_
  go_wp2_with fail
  refine hcl.mono ?_
  rintro e w2 ⟨rfl,rfl⟩
  clear hcl
  go_wp2_with fail
  refine qQd ⟨k1,k2⟩ ?_
  refine qQe ?_
  (try dsimp only)
  have hr:=qVI (H2.k l) hj hn
  go_wp2_with fail
  refine hr.mono ?_
  rintro e w2 ⟨rfl,H3⟩
  clear hr
  have H4:Hd w0 _ (w2.alloc (.cells #[.int .i64 j.act.job,.int .i64 j.act.task,.int .i64 j.act.level,.int .i64 j.act.at_] 213)):=H3.fol
  have hf4:=H4.facts
  simp only [Nat.reduceAdd] at hf4
  go_split_ands
  go_wp2_with fail
  have HX:Hd w0 _ _:=H4
  refine bodyPost_ret (qQg rfl _ _ w.heap.size 42 #[.int .i64 v.job,.int .i64 v.task,.int .i64 v.level] (0,0) _ (by rfl) (by exact ((Hd.fol HX:Hd w0 _ _).k w.heap.size).heap) Tryz.underlying42 rfl (by kernel_rfl)) rfl ⟨rfl,?_⟩
  exact Hd.fin HX
end
end
section
open Go.RowKit Spl
section
variable {w0 w:World} {R:List Pr} {tk:TkM} {S:Hp} {y:DpV} {m:DpM}
theorem zX9 (H:Hd w0 (DpL y tk S m R) w) (hq:m.wq.Ok) (hc:m.co.ce.length≤5000) (hn:m.co.jobs.length≤1000) :
    Calls Tryz.prog 97 #[.pointer (some ⟨y.d,0,none⟩)] w fun e w'=>e=.returned (.tuple #[qq4 (m.may.getD .zero),.bool m.may.isSome])∧Hd w0 (DpL y tk S m R) w':=by
  unfold DpM.may
  cases hx:m.wq.next with
  | none=>exact zXN H hq hx
  | some v =>
    dsimp only
    by_cases h1:v.level≤topI m.co.ce
    · rw [if_pos h1]
      exact zXf H hq hc hx h1
    · rw [if_neg h1]
      rcases qQr m.co.jobs with hj | ⟨js,j,hj⟩
      · rw [hj]
        exact zXx H hq hc hx h1 hj
      · have hl:m.co.jobs.getLast? = some j:=by rw [hj];simp
        have hjl:js.length≤1000:=by rw [hj] at hn;simp at hn;omega
        rw [hl]
        dsimp only
        by_cases h2:v.level≤j.level
        · rw [if_pos h2]
          exact zXs H hq hc hx h1 hj hjl h2
        · rw [if_neg h2]
          exact zXr H hq hc hx h1 hj hjl h2
def zQb (tk:TkM) (m:CoM):Prop:=∀j,m.jobs.getLast? = some j→∃o,j.steps[j.pos]? = some o∧(1≤o.kind∧o.kind≤9)∧j.pos≤100000∧zZU tk m j o
theorem qW3 {c:Nat} {x:CoV} {m:CoM} (H:Hd w0 (cel c 194 (qQj c x.l)::LkP x S m::TkP x.t tk S::ro S::R) w) (hn:m.jobs.length≤1000) (h:zQb tk m) :
    Calls Tryz.prog 100 #[.pointer (some ⟨c,0,none⟩)] w fun e w'=>e=.returned (.tuple #[.agg (qKF (((m.step tk).map Prod.fst).getD .zero)),.bool (m.step tk).isSome]) ∧
      Hd w0 (cel c 194 (qQj c x.l)::LkP x S (((m.step tk).map Prod.snd).getD m)::TkP x.t tk S::ro S::R) w':=by
  unfold CoM.step
  rcases qQr m.jobs with hj | ⟨js,j,hj⟩
  · rw [hj]
    exact zZW H hj
  · have hl:m.jobs.getLast? = some j:=by rw [hj];simp
    have hdl:m.jobs.dropLast=js:=by rw [hj];simp
    have hjl:js.length≤1000:=by rw [hj] at hn;simp at hn;omega
    obtain ⟨o,ho,hk,hp,ha⟩:=h j hl
    rw [hl,hdl]
    dsimp only
    rw [ho]
    dsimp only
    by_cases h9:o.kind=9
    · rw [if_pos h9]
      exact zQs H hj hjl ho h9 hp ha
    · rw [if_neg h9]
      exact zX6 H hj hjl ho ⟨hk.1,by omega⟩ hp ha
end
end
section
open Go.RowKit Spl
abbrev didA (d:DidM):Array Value:=#[.bool d.started,.int .i64 d.start.job,.int .i64 d.start.task,.int .i64 d.start.level,.bool d.idle,.int .i64 d.done.job,.int .i64 d.done.task,.int .i64 d.done.op.kind,.int .i64 d.done.op.res,.int .i64 d.done.op.n,.int .i64 d.done.op.v,.int .i64 d.done.why,.bool d.done.fin]
structure DpS (tk:TkM) (m:DpM):Prop where
  t:tk.Ok
  q:m.wq.Ok
  a:m.co.ar.Ok
  c:m.co.ce.length≤5000
  n:m.co.jobs.length≤900
  few:m.co.ar.fr.length≤900
  w:∀v,m.may=some v→0≤v.task∧v.task<64∧0≤v.job∧qJp m.co.jobs v.job = -1∧∃r,tk.rows[v.task.toNat]? = some r∧m.co.ar.openE r.t.fr=0
  s:zQb tk (m.begin tk).2.co
theorem qVr (d:qYE):(qKF d).all (·.oneCell')=true:=all_oneCell_toArray fun v hv=>by
  simp only [List.mem_cons,List.not_mem_nil,or_false] at hv
  rcases hv with rfl | rfl | rfl | rfl | rfl | rfl | rfl | rfl <;> rfl
theorem qJy (d:DidM):(didA d).all (·.oneCell')=true:=all_oneCell_toArray fun v hv=>by
  simp only [List.mem_cons,List.not_mem_nil,or_false] at hv
  rcases hv with rfl | rfl | rfl | rfl | rfl | rfl | rfl | rfl | rfl | rfl | rfl | rfl | rfl <;> rfl
theorem qKO {m:DpM} {v:qQh} (h:m.may=some v):m.wq.next=some v:=by
  unfold DpM.may at h
  cases hx:m.wq.next with
  | none=>rw [hx] at h;cases h
  | some u =>
    rw [hx] at h
    dsimp only at h
    split at h
    · cases h
    · split at h
      · split at h
        · cases h
        · exact h
      · exact h
section
variable {w0 w:World} {R:List Pr} {tk:TkM} {S:Hp} {y:DpV} {m:DpM}
theorem zJ4 (H:Hd w0 (DpL y tk S m R) w) (hs:DpS tk m) (hm:m.may=none) {D:qYE} {B:Bool} {C:CoM} (hD:((m.co.step tk).map Prod.fst).getD .zero=D) (hB:(m.co.step tk).isSome=B) (hC:((m.co.step tk).map Prod.snd).getD m.co=C) :
    Calls Tryz.prog 64 #[.pointer (some ⟨y.d,0,none⟩)] w fun e w'=>e=.returned (.agg (didA ⟨false,.zero,!B,D⟩))∧Hd w0 (DpL y tk S ⟨C,m.wq,m.count⟩ R) w':=by
  obtain ⟨⟨l,t,a,u,ce⟩,hx⟩:∃x,y.x=x:=⟨_,rfl⟩
  obtain ⟨d,c,q,x⟩:=y
  dsimp only at hx
  subst hx
  have H0:Hd w0 _ ((w.alloc (.cells #[.bool false,.int .i64 0,.int .i64 0,.int .i64 0,.bool false,.int .i64 0,.int .i64 0,.int .i64 0,.int .i64 0,.int .i64 0,.int .i64 0,.int .i64 0,.bool false] 87)).alloc (.cells #[.bool false,.int .i64 0,.int .i64 0,.int .i64 0,.bool false,.int .i64 0,.int .i64 0,.int .i64 0,.int .i64 0,.int .i64 0,.int .i64 0,.int .i64 0,.bool false] 87)):=H.fol
  have H0a:Hd w0 (DpL ⟨d,c,q,⟨l,t,a,u,ce⟩⟩ tk S m (cel w.heap.size 87 #[.bool false,.int .i64 0,.int .i64 0,.int .i64 0,.bool false,.int .i64 0,.int .i64 0,.int .i64 0,.int .i64 0,.int .i64 0,.int .i64 0,.int .i64 0,.bool false]::cel (w.heap.size+1) 87 #[.bool false,.int .i64 0,.int .i64 0,.int .i64 0,.bool false,.int .i64 0,.int .i64 0,.int .i64 0,.int .i64 0,.int .i64 0,.int .i64 0,.int .i64 0,.bool false]::R)) _:=H0.re
  have hmy:=zX9 H0a hs.q hs.c (by have:=hs.n;omega)
  have hb:(m.begin tk).2=m:=by unfold DpM.begin;rw [hm]
  have hsk:=hs.s
  rw [hb] at hsk
  rw [hm] at hmy
  simp only [Option.getD_none,qQh.zero,Option.isSome_none] at hmy
  have hn:=hs.n
  have hst:=fun (w1:World) (X:List Pr) (h:Hd w0 (cel c 194 (qQj c l)::LkP ⟨l,t,a,u,ce⟩ S m.co::TkP t tk S::ro S::X) w1)=>qW3 (x:=⟨l,t,a,u,ce⟩) h (by omega) hsk
  rw [hD,hB,hC] at hst
  replace hst:=Lib.hid hst
  replace hD:=Lib.hid hD
  replace hB:=Lib.hid hB
  replace hC:=Lib.hid hC
  replace hm:=Lib.hid hm
  replace hb:=Lib.hid hb
  clear hs hsk hn H
  go_enter Tryz.func64,Tryz.ntmps64
  go_wp2_with fail
  refine hmy.mono ?_
  rintro e w1 ⟨rfl,H1⟩
  clear hmy H0 H0a
  have H2:Hd w0 _ (w1.alloc (.cells #[.int .i64 0,.int .i64 0,.int .i64 0] 42)):=H1.fol
  have hsc:=hst.out _ (cel w1.heap.size 42 #[.int .i64 0,.int .i64 0,.int .i64 0]::cel d 123 #[.pointer (some ⟨l,0,none⟩),.pointer (some ⟨t,0,none⟩),.pointer (some ⟨c,0,none⟩),.pointer (some ⟨q,0,none⟩),.int .i64 m.count]::WqP q m.wq::cel w.heap.size 87 #[.bool false,.int .i64 0,.int .i64 0,.int .i64 0,.bool false,.int .i64 0,.int .i64 0,.int .i64 0,.int .i64 0,.int .i64 0,.int .i64 0,.int .i64 0,.bool false]::cel (w.heap.size+1) 87 #[.bool false,.int .i64 0,.int .i64 0,.int .i64 0,.bool false,.int .i64 0,.int .i64 0,.int .i64 0,.int .i64 0,.int .i64 0,.int .i64 0,.int .i64 0,.bool false]::R) H2.re
  have d2:=(show _=some (Value.pointer (some ⟨c,0,none⟩)) from (H2.k d).ce 2 rfl)
  go_wp2_with fail
  refine hsc.mono ?_
  rintro e w2 ⟨rfl,H3⟩
  clear hsc H2 H1
  have H4:Hd w0 _ (w2.alloc (.cells (qKF D) 85)):=H3.fol
  clear d2
  have H4p:Hd w0 (cel (w.heap.size+1) 87 #[.bool false,.int .i64 0,.int .i64 0,.int .i64 0,.bool false,.int .i64 0,.int .i64 0,.int .i64 0,.int .i64 0,.int .i64 0,.int .i64 0,.int .i64 0,.bool false]::_) _:=H4.k (w.heap.size+1)
  go_wp2_with (first | (refine qZN (g:=w.heap.size+1) (off:=5) (pre:=[.bool false,.int .i64 0,.int .i64 0,.int .i64 0,.bool false]) (old:=[.int .i64 0,.int .i64 0,.int .i64 0,.int .i64 0,.int .i64 0,.int .i64 0,.int .i64 0,.bool false]) (post:=[]) (cells:=qKF D) H4p rfl rfl rfl 85 _ _ rfl rfl rfl (by kernel_rfl) (qVr D) ?_;intro w5 H10;have HA:Hd w0 (cel (w.heap.size+1) 87 #[.bool false,.int .i64 0,.int .i64 0,.int .i64 0,.bool false,.int .i64 D.job,.int .i64 D.task,.int .i64 D.op.kind,.int .i64 D.op.res,.int .i64 D.op.n,.int .i64 D.op.v,.int .i64 D.why,.bool D.fin]::_) w5:=H10;have hfA:=HA.fact1;simp only [Nat.reduceAdd] at hfA;go_split_ands;have HB:Hd w0 (cel (w.heap.size+1) 87 #[.bool false,.int .i64 0,.int .i64 0,.int .i64 0,.bool (!B),.int .i64 D.job,.int .i64 D.task,.int .i64 D.op.kind,.int .i64 D.op.res,.int .i64 D.op.n,.int .i64 D.op.v,.int .i64 D.why,.bool D.fin]::_) (w5.setCell ⟨w.heap.size+1,4,none⟩ (.bool (!B))):=HA.set 4 (.bool (!B))) | (refine qQk (g:=w.heap.size) (cells:=didA ⟨false,⟨0,0,0⟩,!B,D⟩) (HB.k w.heap.size) rfl 87 _ _ rfl rfl rfl (by kernel_rfl) rfl (qJy _) ?_;intro w6 H11))
  refine bodyPost_ret (qQC rfl _ _ w.heap.size 87 (didA ⟨false,⟨0,0,0⟩,!B,D⟩) (0,0) _ (by rfl) (by exact H11.heap) Tryz.underlying87 rfl (by kernel_rfl)) rfl ⟨rfl,?_⟩
  exact Hd.fin H11
end
end
section
open Go.RowKit Spl
section
variable {w0 w:World} {R:List Pr} {tk:TkM} {S:Hp} {y:DpV} {m:DpM}
theorem zJD (H:Hd w0 (DpL y tk S m R) w) (hs:DpS tk m) {vj vl:Int} {i:Nat} {r:RowM} (hm:m.may=some ⟨vj,i,vl⟩) (hr:tk.rows[i]? = some r) {D:qYE} {B:Bool} {C:CoM} (hD:(((m.co.begun vj i r).step tk).map Prod.fst).getD .zero=D) (hB:((m.co.begun vj i r).step tk).isSome=B) (hC:(((m.co.begun vj i r).step tk).map Prod.snd).getD (m.co.begun vj i r)=C) :
    Calls Tryz.prog 64 #[.pointer (some ⟨y.d,0,none⟩)] w fun e w'=>e=.returned (.agg (didA ⟨true,⟨vj,i,vl⟩,!B,D⟩))∧∃S',Le S S'∧Hd w0 (DpL y tk S' ⟨C,m.wq.take,m.count⟩ R) w':=by
  obtain ⟨⟨l,t,a,u,ce⟩,hx⟩:∃x,y.x=x:=⟨_,rfl⟩
  obtain ⟨d,c,q,x⟩:=y
  dsimp only at hx
  subst hx
  have H0:Hd w0 _ ((w.alloc (.cells #[.bool false,.int .i64 0,.int .i64 0,.int .i64 0,.bool false,.int .i64 0,.int .i64 0,.int .i64 0,.int .i64 0,.int .i64 0,.int .i64 0,.int .i64 0,.bool false] 87)).alloc (.cells #[.bool false,.int .i64 0,.int .i64 0,.int .i64 0,.bool false,.int .i64 0,.int .i64 0,.int .i64 0,.int .i64 0,.int .i64 0,.int .i64 0,.int .i64 0,.bool false] 87)):=H.fol
  have H0a:Hd w0 (DpL ⟨d,c,q,⟨l,t,a,u,ce⟩⟩ tk S m (cel w.heap.size 87 #[.bool false,.int .i64 0,.int .i64 0,.int .i64 0,.bool false,.int .i64 0,.int .i64 0,.int .i64 0,.int .i64 0,.int .i64 0,.int .i64 0,.int .i64 0,.bool false]::cel (w.heap.size+1) 87 #[.bool false,.int .i64 0,.int .i64 0,.int .i64 0,.bool false,.int .i64 0,.int .i64 0,.int .i64 0,.int .i64 0,.int .i64 0,.int .i64 0,.int .i64 0,.bool false]::R)) _:=H0.re
  have hmy:=zX9 H0a hs.q hs.c (by have:=hs.n;omega)
  have hb:(m.begin tk).2=⟨m.co.begun vj i r,m.wq.take,m.count⟩:=by unfold DpM.begin;rw [hm];dsimp only;rw [Int.toNat_natCast,hr]
  have hsk:=hs.s
  rw [hb] at hsk
  dsimp only at hsk
  obtain ⟨hw1,hw2,hw3,hw4,r2,hw5,hw6⟩:=hs.w _ hm
  dsimp only at hw1 hw2 hw3 hw4 hw5
  rw [Int.toNat_natCast,hr] at hw5
  injection hw5 with hw5
  subst hw5
  have hnx:=qKO hm
  rw [hm] at hmy
  simp only [Option.getD_some,Option.isSome_some] at hmy
  have hn:=hs.n
  have hfew:=hs.few
  have hst:=fun (S':Hp) (w1:World) (X:List Pr) (h:Hd w0 (cel c 194 (qQj c l)::LkP ⟨l,t,a,u,ce⟩ S' (m.co.begun vj i r)::TkP t tk S'::ro S'::X) w1)=>qW3 (x:=⟨l,t,a,u,ce⟩) h (by unfold CoM.begun;simp;omega) hsk
  rw [hD,hB,hC] at hst
  have hgo:=fun (w1:World) (X:List Pr) (h:Hd w0 (cel c 194 (qQj c l)::LkP ⟨l,t,a,u,ce⟩ S m.co::TkP t tk S::ro S::X) w1)=>zJO (x:=⟨l,t,a,u,ce⟩) h hs.t hs.a (by omega) (by omega) hr hw3 hw4 hw6
  have htk:=fun (w1:World) (X:List Pr) (h:Hd w0 (WqP q m.wq::X) w1)=>zJ8 h hs.q hnx ⟨hw1,hw2⟩
  replace hst:=Lib.hid hst
  replace hgo:=Lib.hid hgo
  replace htk:=Lib.hid htk
  replace hD:=Lib.hid hD
  replace hB:=Lib.hid hB
  replace hC:=Lib.hid hC
  replace hm:=Lib.hid hm
  replace hb:=Lib.hid hb
  replace hnx:=Lib.hid hnx
  replace hr:=Lib.hid hr
  clear hs hsk hn H hw1 hw2 hw3 hw4 hw6 hfew
  go_enter Tryz.func64,Tryz.ntmps64
  go_wp2_with fail
  refine hmy.mono ?_
  rintro e w1 ⟨rfl,H1⟩
  clear hmy H0 H0a
  have H2:Hd w0 _ (w1.alloc (.cells #[.int .i64 vj,.int .i64 i,.int .i64 vl] 42)):=H1.fol
  have htc:=htk.out _ _ (H2.k q)
  have d3:=(show _=some (Value.pointer (some ⟨q,0,none⟩)) from (H2.k d).ce 3 rfl)
  go_wp2_with fail
  refine htc.mono ?_
  rintro e w2 ⟨rfl,H3⟩
  clear htc H2 H1 d3
  have H3d:=H3.drew
  have hgc:=hgo.out _ (cel w1.heap.size 42 #[.int .i64 vj,.int .i64 i,.int .i64 vl]::cel d 123 #[.pointer (some ⟨l,0,none⟩),.pointer (some ⟨t,0,none⟩),.pointer (some ⟨c,0,none⟩),.pointer (some ⟨q,0,none⟩),.int .i64 m.count]::WqP q m.wq.take::cel w.heap.size 87 #[.bool false,.int .i64 0,.int .i64 0,.int .i64 0,.bool false,.int .i64 0,.int .i64 0,.int .i64 0,.int .i64 0,.int .i64 0,.int .i64 0,.int .i64 0,.bool false]::cel (w.heap.size+1) 87 #[.bool false,.int .i64 0,.int .i64 0,.int .i64 0,.bool false,.int .i64 0,.int .i64 0,.int .i64 0,.int .i64 0,.int .i64 0,.int .i64 0,.int .i64 0,.bool false]::R) H3d.re
  have d2:=(show _=some (Value.pointer (some ⟨c,0,none⟩)) from (H3.k d).ce 2 rfl)
  have p0:=(show _=some (Value.int .i64 vj) from (H3.k w1.heap.size).ce 0 rfl)
  have p1:=(show _=some (Value.int .i64 i) from (H3.k w1.heap.size).ce 1 rfl)
  go_wp2_with fail
  refine wp_region_still_tail 8 (by kernel_rfl) (by kernel_rfl) ?_
  simp only [List.take_succ_cons,List.take_zero,List.drop_succ_cons,List.drop_zero,World.drew_eq]
  (repeat still_step)
  refine wpStill_nil ?_
  go_wp2_with fail
  refine hgc.mono ?_
  rintro e w3 ⟨rfl,S',hle,H5⟩
  clear hgc H3 H3d d2 p0 p1
  have q0:=(show _=some (Value.int .i64 vj) from (H5.k w1.heap.size).ce 0 rfl)
  have q1:=(show _=some (Value.int .i64 i) from (H5.k w1.heap.size).ce 1 rfl)
  have q2:=(show _=some (Value.int .i64 vl) from (H5.k w1.heap.size).ce 2 rfl)
  have q3:=(show _=some (Value.bool false) from (H5.k (w.heap.size+1)).ce 0 rfl)
  have q4:=(H5.k (w.heap.size+1)).fr 0
  have H6:Hd w0 _ (w3.setCell ⟨w.heap.size+1,0,none⟩ (.bool true)).drew:=H5.fol
  have q5:=(show _=some (Value.int .i64 vj) from (H6.k w1.heap.size).ce 0 rfl)
  have q6:=(show _=some (Value.int .i64 i) from (H6.k w1.heap.size).ce 1 rfl)
  have q7:=(show _=some (Value.int .i64 vl) from (H6.k w1.heap.size).ce 2 rfl)
  go_wp2_with fail
  refine wm 3 [(0,true),(1,true),(2,false)] (fun w'=>w'.cell? ⟨w1.heap.size,0,none⟩=some (.int .i64 vj)∧w'.cell? ⟨w1.heap.size,1,none⟩=some (.int .i64 i)∧w'.cell? ⟨w1.heap.size,2,none⟩=some (.int .i64 vl)) (⟨q0,q1,q2⟩) ?_
  simp only [List.drop_succ_cons,List.drop_zero]
  iterate 2 (refine mh ?_;(try simp only [Act.put,List.setIfInBounds_toArray,List.set_cons_zero,List.set_cons_succ]))
  refine mm ?_
  go_wp2_with fail
  refine qQd ⟨q5,q6,q7⟩ ?_
  refine qQe ?_
  (try dsimp only)
  have hf5:=(H5.k (w.heap.size+1)).fact1
  simp only [Nat.reduceAdd] at hf5
  go_split_ands
  have H8:Hd w0 _ ((((w3.setCell ⟨w.heap.size+1,0,none⟩ (.bool true)).setCell ⟨w.heap.size+1,1,none⟩ (.int .i64 vj)).setCell ⟨w.heap.size+1,2,none⟩ (.int .i64 i)).setCell ⟨w.heap.size+1,3,none⟩ (.int .i64 vl)).drew:=H5.fol
  have d2:=(show _=some (Value.pointer (some ⟨c,0,none⟩)) from (H8.k d).ce 2 rfl)
  have hsc:=hst.out S' _ (cel w1.heap.size 42 #[.int .i64 vj,.int .i64 i,.int .i64 vl]::cel d 123 #[.pointer (some ⟨l,0,none⟩),.pointer (some ⟨t,0,none⟩),.pointer (some ⟨c,0,none⟩),.pointer (some ⟨q,0,none⟩),.int .i64 m.count]::WqP q m.wq.take::cel w.heap.size 87 #[.bool false,.int .i64 0,.int .i64 0,.int .i64 0,.bool false,.int .i64 0,.int .i64 0,.int .i64 0,.int .i64 0,.int .i64 0,.int .i64 0,.int .i64 0,.bool false]::cel (w.heap.size+1) 87 #[.bool true,.int .i64 vj,.int .i64 i,.int .i64 vl,.bool false,.int .i64 0,.int .i64 0,.int .i64 0,.int .i64 0,.int .i64 0,.int .i64 0,.int .i64 0,.bool false]::R) H8.re
  go_wp2_with fail
  refine hsc.mono ?_
  rintro e w4 ⟨rfl,H9⟩
  clear hsc H8 H6 H5
  have H4:Hd w0 _ (w4.alloc (.cells (qKF D) 85)):=H9.fol
  have H4p:Hd w0 (cel (w.heap.size+1) 87 #[.bool true,.int .i64 vj,.int .i64 i,.int .i64 vl,.bool false,.int .i64 0,.int .i64 0,.int .i64 0,.int .i64 0,.int .i64 0,.int .i64 0,.int .i64 0,.bool false]::_) _:=H4.k (w.heap.size+1)
  go_wp2_with (first | (refine qZN (g:=w.heap.size+1) (off:=5) (pre:=[.bool true,.int .i64 vj,.int .i64 i,.int .i64 vl,.bool false]) (old:=[.int .i64 0,.int .i64 0,.int .i64 0,.int .i64 0,.int .i64 0,.int .i64 0,.int .i64 0,.bool false]) (post:=[]) (cells:=qKF D) H4p rfl rfl rfl 85 _ _ rfl rfl rfl (by kernel_rfl) (qVr D) ?_;intro w5 H10;have HA:Hd w0 (cel (w.heap.size+1) 87 #[.bool true,.int .i64 vj,.int .i64 i,.int .i64 vl,.bool false,.int .i64 D.job,.int .i64 D.task,.int .i64 D.op.kind,.int .i64 D.op.res,.int .i64 D.op.n,.int .i64 D.op.v,.int .i64 D.why,.bool D.fin]::_) w5:=H10;have hfA:=HA.fact1;simp only [Nat.reduceAdd] at hfA;go_split_ands;have HB:Hd w0 (cel (w.heap.size+1) 87 #[.bool true,.int .i64 vj,.int .i64 i,.int .i64 vl,.bool (!B),.int .i64 D.job,.int .i64 D.task,.int .i64 D.op.kind,.int .i64 D.op.res,.int .i64 D.op.n,.int .i64 D.op.v,.int .i64 D.why,.bool D.fin]::_) (w5.setCell ⟨w.heap.size+1,4,none⟩ (.bool (!B))):=HA.set 4 (.bool (!B))) | (refine qQk (g:=w.heap.size) (cells:=didA ⟨true,⟨vj,i,vl⟩,!B,D⟩) (HB.k w.heap.size) rfl 87 _ _ rfl rfl rfl (by kernel_rfl) rfl (qJy _) ?_;intro w6 H11))
  refine bodyPost_ret (qQC rfl _ _ w.heap.size 87 (didA ⟨true,⟨vj,i,vl⟩,!B,D⟩) (0,0) _ (by rfl) (by exact H11.heap) Tryz.underlying87 rfl (by kernel_rfl)) rfl ⟨rfl,?_⟩
  refine ⟨S',hle,?_⟩
  exact Hd.fin H11
end
end
section
open Go.RowKit Spl
structure KeM where
  tk:TkM
  dp:DpM
  ck:Clk
  ev:qX0
def KeM.event (m:KeM) (e:EvM):KeM:={ m with ev:=m.ev.put { e with clock:=m.ck.now } }
def KeM.new (words:Int) (units:List Int):KeM:=⟨⟨words,units,[],[]⟩,DpM.new ⟨words,units,[],[]⟩,⟨0,[]⟩,⟨[],4096,0⟩⟩
structure KeV where
  k:Nat
  cl:Nat
  rg:Nat
  y:DpV
abbrev KeL (z:KeV) (S:Hp) (m:KeM) (R:List Pr):List Pr :=
  cel z.k 53 #[.pointer (some ⟨z.y.x.l,0,none⟩),.pointer (some ⟨z.y.x.t,0,none⟩),.pointer (some ⟨z.y.d,0,none⟩),.pointer (some ⟨z.cl,0,none⟩),.pointer (some ⟨z.rg,0,none⟩)] ::
    qQE z.cl m.ck::qQT z.rg m.ev::DpL z.y m.tk S m.dp R
instance {c:Nat} {m:Clk}:Key (qQE c m) (.b c):=⟨trivial⟩
abbrev evA (e:EvM):Array Value:=#[.int .i64 e.kind,.int .i64 e.task,.int .i64 e.job,.int .i64 e.op.kind,.int .i64 e.op.res,.int .i64 e.op.n,.int .i64 e.op.v,.int .i64 e.why,.int .i64 e.clock]
section
variable {w0 w:World} {R:List Pr} {S:Hp} {z:KeV} {m:KeM}
theorem qJb (H:Hd w0 (KeL z S m R) w) (hr:m.ev.Ok) (e:EvM) :
    Calls Tryz.prog 47 #[.pointer (some ⟨z.k,0,none⟩),.agg (evA e)] w fun r w'=>r=.returned (.tuple #[])∧Hd w0 (KeL z S (m.event e) R) w':=by
  obtain ⟨k,cl,rg,y⟩:=z
  have H1:Hd w0 _ (w.alloc (.cells (evA e) 96)):=H.fol
  have hnow:=zQe (H1.k cl)
  have k3:=(show _=some (Value.pointer (some ⟨cl,0,none⟩)) from (H1.k k).ce 3 rfl)
  have e8:=(show _=some (Value.int .i64 e.clock) from (H1.k w.heap.size).ce 8 rfl)
  have e9:=(H1.k w.heap.size).fr 8
  have H2:Hd w0 _ (w.alloc (.cells #[.int .i64 e.kind,.int .i64 e.task,.int .i64 e.job,.int .i64 e.op.kind,.int .i64 e.op.res,.int .i64 e.op.n,.int .i64 e.op.v,.int .i64 e.why,.int .i64 m.ck.now] 96)):=H.fol
  have k4:=(show _=some (Value.pointer (some ⟨rg,0,none⟩)) from (H2.k k).ce 4 rfl)
  have hpu:=zJp (H2.drew.k rg) hr { e with clock:=m.ck.now }
  have hf:=(H2.k w.heap.size).fact1
  simp only [Nat.reduceAdd] at hf
  go_split_ands
  have hev:m.event e = { m with ev:=m.ev.put { e with clock:=m.ck.now } }:=rfl
  rw [hev]
  clear H
  go_enter Tryz.func47,Tryz.ntmps47
  go_wp2_with fail
  refine hnow.mono ?_
  rintro r w1 ⟨rfl,rfl⟩
  clear hnow
  go_wp2_with fail
  refine wp_region_still_tail 5 (by kernel_rfl) (by kernel_rfl) ?_
  simp only [List.take_succ_cons,List.take_zero,List.drop_succ_cons,List.drop_zero,World.drew_eq]
  (repeat still_step)
  refine wpStill_nil ?_
  go_wp2_with fail
  refine hpu.mono ?_
  rintro r w2 ⟨rfl,H3⟩
  clear hpu
  go_wp2_with fail
  go_end0
  exact ⟨rfl,H3.re⟩
end
end
section
open Go.RowKit Spl
def qJk (task job:Int):EvM:=⟨2,task,job,⟨0,0,0,0⟩,0,0⟩
def qVo (task:Int):EvM:=⟨3,task,0,⟨0,0,0,0⟩,0,0⟩
def KeM.took (m:KeM) (task:Nat):KeM:=KeM.event ⟨m.tk,m.dp.release m.tk task,m.ck.note task,m.ev⟩ (qJk task m.dp.count)
def KeM.releaseE (m:KeM) (task:Int):Int:=if m.ck.ready task=0 then m.dp.releaseE m.tk task.toNat else m.ck.ready task
def KeM.release (m:KeM) (task:Int):KeM:=if m.releaseE task=0 then m.took task.toNat else m
def KeM.due (m:KeM) (task:Nat):KeM:=if m.dp.releaseE m.tk task=0 then m.took task else m.event (qVo task)
structure KeR (m:KeM):Prop where
  t:m.tk.Ok
  q:m.dp.wq.Ok
  c:m.dp.count≤4611686018427387904
  k:m.ck.Ok
  e:m.ev.Ok
  n:m.ck.l.length=m.tk.rows.length
theorem zZh {m:KeM} (h:KeR m) {task:Int} (hr:m.ck.ready task=0):∃(i:Nat) (r:RowM),task=i∧m.tk.rows[i]? = some r:=by
  rcases m.ck.at?_cases task with ⟨h1,_⟩ | ⟨i,p,h1,_,h3⟩
  · unfold Clk.ready at hr
    rw [h1] at hr
    cases hr
  · have hi:=qQa h3
    rw [h.n] at hi
    exact ⟨i,_,h1,List.getElem?_eq_getElem hi⟩
section
variable {w0 w:World} {R:List Pr} {S:Hp} {z:KeV} {m:KeM}
theorem qqA (H:Hd w0 (KeL z S m R) w) (h:KeR m) {task E:Int} (hE:m.ck.ready task=E) (h0:¬E=0) :
    Calls Tryz.prog 14 #[.pointer (some ⟨z.k,0,none⟩),.int .i64 task] w fun r w'=>r=.returned (.tuple #[.int .i64 (-1),.int .i64 E])∧Hd w0 (KeL z S m R) w':=by
  obtain ⟨k,cl,rg,y⟩:=z
  have hc:=qWT (H.k cl) h.k task
  rw [hE] at hc
  have k3:=(show _=some (Value.pointer (some ⟨cl,0,none⟩)) from (H.k k).ce 3 rfl)
  go_enter Tryz.func14,Tryz.ntmps14
  go_wp2_with fail
  refine hc.mono ?_
  rintro r w1 ⟨rfl,H1⟩
  clear hc
  go_wp2_with fail
  go_ret2
  exact ⟨rfl,H1.re⟩
theorem qqj (H:Hd w0 (KeL z S m R) w) (h:KeR m) {i:Nat} {r:RowM} (hr:m.tk.rows[i]? = some r) (hE:m.ck.ready i=0) {E:Int} (hD:m.dp.releaseE m.tk i=E) (h0:¬E=0) :
    Calls Tryz.prog 14 #[.pointer (some ⟨z.k,0,none⟩),.int .i64 i] w fun r w'=>r=.returned (.tuple #[.int .i64 (-1),.int .i64 E])∧Hd w0 (KeL z S m R) w':=by
  obtain ⟨k,cl,rg,y⟩:=z
  have hc:=qWT (H.k cl) h.k i
  rw [hE] at hc
  have hrel:m.dp.release m.tk i=m.dp:=by
    unfold DpM.release
    unfold DpM.releaseE at hD
    rw [hr] at hD ⊢
    dsimp only at hD ⊢
    rw [if_neg (by rw [hD];exact h0)]
  have hd:=fun (w1:World) (X:List Pr) (h1:Hd w0 (DpL y m.tk S m.dp X) w1)=>qXZ h1 h.t h.q h.c hr
  rw [hD,if_neg h0,hrel] at hd
  replace hd:=Lib.hid hd
  replace hr:=Lib.hid hr
  replace hrel:=Lib.hid hrel
  have k3:=(show _=some (Value.pointer (some ⟨cl,0,none⟩)) from (H.k k).ce 3 rfl)
  go_enter Tryz.func14,Tryz.ntmps14
  go_wp2_with fail
  refine hc.mono ?_
  rintro r w1 ⟨rfl,H1⟩
  clear hc k3
  have k2:=(show _=some (Value.pointer (some ⟨y.d,0,none⟩)) from (H1.k k).ce 2 rfl)
  have hdc:=hd.out _ (qQE cl m.ck::cel k 53 #[.pointer (some ⟨y.x.l,0,none⟩),.pointer (some ⟨y.x.t,0,none⟩),.pointer (some ⟨y.d,0,none⟩),.pointer (some ⟨cl,0,none⟩),.pointer (some ⟨rg,0,none⟩)]::qQT rg m.ev::R) H1.re
  go_wp2_with fail
  refine hdc.mono ?_
  rintro r w2 ⟨rfl,H2⟩
  clear hdc
  go_wp2_with fail
  go_ret2
  exact ⟨rfl,H2.re⟩
theorem qqQ (H:Hd w0 (KeL z S m R) w) (h:KeR m) {i:Nat} {r:RowM} (hr:m.tk.rows[i]? = some r) (hE:m.ck.ready i=0) (hD:m.dp.releaseE m.tk i=0) :
    Calls Tryz.prog 14 #[.pointer (some ⟨z.k,0,none⟩),.int .i64 i] w fun r w'=>r=.returned (.tuple #[.int .i64 m.dp.count,.int .i64 0])∧Hd w0 (KeL z S (m.took i) R) w':=by
  obtain ⟨k,cl,rg,y⟩:=z
  have hc:=qWT (H.k cl) h.k i
  rw [hE] at hc
  have hd:=fun (w1:World) (X:List Pr) (h1:Hd w0 (DpL y m.tk S m.dp X) w1)=>qXZ h1 h.t h.q h.c hr
  rw [hD,if_pos rfl] at hd
  have hno:=fun (w1:World) (X:List Pr) (h1:Hd w0 (qQE cl m.ck::X) w1)=>zZf h1 h.k i
  have hev:=fun (w1:World) (h1:Hd w0 (KeL ⟨k,cl,rg,y⟩ S ⟨m.tk,m.dp.release m.tk i,m.ck.note i,m.ev⟩ R) w1)=>qJb h1 h.e (qJk i m.dp.count)
  have htk:m.took i=KeM.event ⟨m.tk,m.dp.release m.tk i,m.ck.note i,m.ev⟩ (qJk i m.dp.count):=rfl
  rw [htk]
  replace hd:=Lib.hid hd
  replace hno:=Lib.hid hno
  replace hev:=Lib.hid hev
  replace hr:=Lib.hid hr
  have k3:=(show _=some (Value.pointer (some ⟨cl,0,none⟩)) from (H.k k).ce 3 rfl)
  go_enter Tryz.func14,Tryz.ntmps14
  go_wp2_with fail
  refine hc.mono ?_
  rintro r w1 ⟨rfl,H1⟩
  clear hc k3
  have k2:=(show _=some (Value.pointer (some ⟨y.d,0,none⟩)) from (H1.k k).ce 2 rfl)
  have hdc:=hd.out _ (qQE cl m.ck::cel k 53 #[.pointer (some ⟨y.x.l,0,none⟩),.pointer (some ⟨y.x.t,0,none⟩),.pointer (some ⟨y.d,0,none⟩),.pointer (some ⟨cl,0,none⟩),.pointer (some ⟨rg,0,none⟩)]::qQT rg m.ev::R) H1.re
  go_wp2_with fail
  refine hdc.mono ?_
  rintro r w2 ⟨rfl,H2⟩
  clear hdc k2
  have k3:=(show _=some (Value.pointer (some ⟨cl,0,none⟩)) from (H2.k k).ce 3 rfl)
  have hnc:=hno.out _ _ (H2.k cl)
  go_wp2_with fail
  refine hnc.mono ?_
  rintro r w3 ⟨rfl,H3⟩
  clear hnc k3
  have hec:=hev.out _ H3.re
  go_wp2_with fail
  refine hec.mono ?_
  rintro r w4 ⟨rfl,H4⟩
  clear hec
  go_wp2_with fail
  go_ret2
  exact ⟨rfl,H4⟩
theorem zXF (H:Hd w0 (KeL z S m R) w) (h:KeR m) {i:Nat} {r:RowM} (hr:m.tk.rows[i]? = some r) {E:Int} (hD:m.dp.releaseE m.tk i=E) (h0:¬E=0) :
    Calls Tryz.prog 67 #[.pointer (some ⟨z.k,0,none⟩),.int .i64 i] w fun r w'=>r=.returned (.tuple #[.agg #[.int .i64 0,.int .i64 0,.int .i64 0],.bool false])∧Hd w0 (KeL z S (m.event (qVo i)) R) w':=by
  obtain ⟨k,cl,rg,y⟩:=z
  have hrel:m.dp.release m.tk i=m.dp:=by
    unfold DpM.release
    unfold DpM.releaseE at hD
    rw [hr] at hD ⊢
    dsimp only at hD ⊢
    rw [if_neg (by rw [hD];exact h0)]
  have hd:=fun (w1:World) (X:List Pr) (h1:Hd w0 (DpL y m.tk S m.dp X) w1)=>qXZ h1 h.t h.q h.c hr
  rw [hD,if_neg h0,hrel] at hd
  have hev:=fun (w1:World) (X:List Pr) (h1:Hd w0 (KeL ⟨k,cl,rg,y⟩ S m X) w1)=>qJb h1 h.e (qVo i)
  replace hd:=Lib.hid hd
  replace hr:=Lib.hid hr
  replace hrel:=Lib.hid hrel
  replace hev:=Lib.hid hev
  have H0:Hd w0 _ (w.alloc (.cells #[.int .i64 0,.int .i64 0,.int .i64 0] 42)):=H.fol
  have k2:=(show _=some (Value.pointer (some ⟨y.d,0,none⟩)) from (H0.k k).ce 2 rfl)
  have hdc:=hd.out _ (cel w.heap.size 42 #[.int .i64 0,.int .i64 0,.int .i64 0]::qQE cl m.ck::cel k 53 #[.pointer (some ⟨y.x.l,0,none⟩),.pointer (some ⟨y.x.t,0,none⟩),.pointer (some ⟨y.d,0,none⟩),.pointer (some ⟨cl,0,none⟩),.pointer (some ⟨rg,0,none⟩)]::qQT rg m.ev::R) H0.re
  go_enter Tryz.func67,Tryz.ntmps67
  go_wp2_with fail
  refine hdc.mono ?_
  rintro r w1 ⟨rfl,H1⟩
  clear hdc k2 H0
  have hec:=hev.out _ (cel w.heap.size 42 #[.int .i64 0,.int .i64 0,.int .i64 0]::R) H1.re
  go_wp2_with fail
  refine hec.mono ?_
  rintro r w2 ⟨rfl,H2⟩
  clear hec
  have hf:=(H2.k w.heap.size).fact1
  simp only [Nat.reduceAdd] at hf
  go_split_ands
  go_wp2_with fail
  refine bodyPost_ret (qQg rfl _ _ w.heap.size 42 #[.int .i64 0,.int .i64 0,.int .i64 0] (0,0) _ (by rfl) (by exact ((Hd.fol H2:Hd w0 _ _).k w.heap.size).heap) Tryz.underlying42 rfl (by kernel_rfl)) rfl ⟨rfl,?_⟩
  exact Hd.fin H2
theorem zXS (H:Hd w0 (KeL z S m R) w) (h:KeR m) {i:Nat} {r:RowM} (hr:m.tk.rows[i]? = some r) (hD:m.dp.releaseE m.tk i=0) :
    Calls Tryz.prog 67 #[.pointer (some ⟨z.k,0,none⟩),.int .i64 i] w fun e w'=>e=.returned (.tuple #[.agg #[.int .i64 m.dp.count,.int .i64 i,.int .i64 r.t.lv],.bool true])∧Hd w0 (KeL z S (m.took i) R) w':=by
  obtain ⟨k,cl,rg,y⟩:=z
  have hd:=fun (w1:World) (X:List Pr) (h1:Hd w0 (DpL y m.tk S m.dp X) w1)=>qXZ h1 h.t h.q h.c hr
  rw [hD,if_pos rfl] at hd
  have hno:=fun (w1:World) (X:List Pr) (h1:Hd w0 (qQE cl m.ck::X) w1)=>zZf h1 h.k i
  have hev:=fun (w1:World) (X:List Pr) (h1:Hd w0 (KeL ⟨k,cl,rg,y⟩ S ⟨m.tk,m.dp.release m.tk i,m.ck.note i,m.ev⟩ X) w1)=>qJb h1 h.e (qJk i m.dp.count)
  have hget:=fun (w1:World) (X:List Pr) (h1:Hd w0 (TkP y.x.t m.tk S::ro S::X) w1)=>qqI h1 h.t hr
  obtain ⟨ev',hev'⟩:∃ev',(KeM.event ⟨m.tk,m.dp.release m.tk i,m.ck.note i,m.ev⟩ (qJk i m.dp.count)).ev=ev':=⟨_,rfl⟩
  have hm':KeM.event ⟨m.tk,m.dp.release m.tk i,m.ck.note i,m.ev⟩ (qJk i m.dp.count)=⟨m.tk,m.dp.release m.tk i,m.ck.note i,ev'⟩:=by rw [← hev'];rfl
  have htk:m.took i=⟨m.tk,m.dp.release m.tk i,m.ck.note i,ev'⟩:=hm'
  rw [htk]
  rw [hm'] at hev
  obtain ⟨dp',hdp'⟩:∃dp',m.dp.release m.tk i=dp':=⟨_,rfl⟩
  rw [hdp'] at hd hev ⊢
  obtain ⟨⟨nm,lv,fr,nds,cd,p,f,gg⟩,stp⟩:=r
  dsimp only at hget
  replace hd:=Lib.hid hd
  replace hno:=Lib.hid hno
  replace hev:=Lib.hid hev
  replace hget:=Lib.hid hget
  replace hr:=Lib.hid hr
  replace htk:=Lib.hid htk
  replace hm':=Lib.hid hm'
  replace hev':=Lib.hid hev'
  replace hdp':=Lib.hid hdp'
  have H0:Hd w0 _ (w.alloc (.cells #[.int .i64 0,.int .i64 0,.int .i64 0] 42)):=H.fol
  have k2:=(show _=some (Value.pointer (some ⟨y.d,0,none⟩)) from (H0.k k).ce 2 rfl)
  have hdc:=hd.out _ (cel w.heap.size 42 #[.int .i64 0,.int .i64 0,.int .i64 0]::qQE cl m.ck::cel k 53 #[.pointer (some ⟨y.x.l,0,none⟩),.pointer (some ⟨y.x.t,0,none⟩),.pointer (some ⟨y.d,0,none⟩),.pointer (some ⟨cl,0,none⟩),.pointer (some ⟨rg,0,none⟩)]::qQT rg m.ev::R) H0.re
  go_enter Tryz.func67,Tryz.ntmps67
  go_wp2_with fail
  refine hdc.mono ?_
  rintro r w1 ⟨rfl,H1⟩
  clear hdc k2 H0
  have k3:=(show _=some (Value.pointer (some ⟨cl,0,none⟩)) from (H1.k k).ce 3 rfl)
  have hnc:=hno.out _ _ (H1.k cl)
  go_wp2_with fail
  refine hnc.mono ?_
  rintro r w3 ⟨rfl,H3⟩
  clear hnc k3
  have hec:=hev.out _ (cel w.heap.size 42 #[.int .i64 0,.int .i64 0,.int .i64 0]::R) H3.re
  go_wp2_with fail
  refine hec.mono ?_
  rintro r w4 ⟨rfl,H4⟩
  clear hec H3 H1
  have k1:=(show _=some (Value.pointer (some ⟨y.x.t,0,none⟩)) from (H4.k k).ce 1 rfl)
  have hgc:=hget.out _ (cel w.heap.size 42 #[.int .i64 0,.int .i64 0,.int .i64 0]::cel k 53 #[.pointer (some ⟨y.x.l,0,none⟩),.pointer (some ⟨y.x.t,0,none⟩),.pointer (some ⟨y.d,0,none⟩),.pointer (some ⟨cl,0,none⟩),.pointer (some ⟨rg,0,none⟩)]::qQE cl (m.ck.note i)::qQT rg ev'::cel y.d 123 #[.pointer (some ⟨y.x.l,0,none⟩),.pointer (some ⟨y.x.t,0,none⟩),.pointer (some ⟨y.c,0,none⟩),.pointer (some ⟨y.q,0,none⟩),.int .i64 dp'.count] ::
    cel y.c 194 (qQj y.c y.x.l)::LkP y.x S dp'.co::WqP y.q dp'.wq::R) H4.re
  go_wp2_with fail
  refine hgc.mono ?_
  rintro r w5 ⟨v,rfl,H5⟩
  clear hgc
  obtain ⟨a1,c1,rfl,-,-,-,-⟩:=H5.slc_form
  have H6:Hd w0 _ (w5.alloc (.cells #[.string nm,.int .i64 lv,.int .i64 fr,.slice a1 nds.length c1,.string cd,.int .i64 p,.int .i64 f,.int .i64 gg] 36)):=H5.fol
  have hf:=(H6.k w.heap.size).fact1
  have hf2:=(H6.k w5.heap.size).fact1
  simp only [Nat.reduceAdd] at hf hf2
  go_split_ands
  go_wp2_with fail
  refine bodyPost_ret (qQg rfl _ _ w.heap.size 42 #[.int .i64 m.dp.count,.int .i64 i,.int .i64 lv] (0,0) _ (by rfl) (by exact ((Hd.fol H6:Hd w0 _ _).k w.heap.size).heap) Tryz.underlying42 rfl (by kernel_rfl)) rfl ⟨rfl,?_⟩
  exact Hd.fin H6
end
end
section
open Go.RowKit Spl
def qZu (t j:Int):EvM:=⟨4,t,j,⟨0,0,0,0⟩,0,0⟩
def qZK (t j:Int) (o:OpM) (why:Int):EvM:=⟨5,t,j,o,why,0⟩
def qZZ (t j:Int):EvM:=⟨6,t,j,⟨0,0,0,0⟩,0,0⟩
def qUK:EvM:=⟨7,0,0,⟨0,0,0,0⟩,0,0⟩
def qXV:EvM:=⟨8,0,0,⟨0,0,0,0⟩,0,0⟩
def qKa (t:Int):EvM:=⟨1,t,0,⟨0,0,0,0⟩,0,0⟩
theorem qQQ {m:qX0} (h:m.Ok) (hg:m.gone+1≤4611686018427387904) (x:EvM):(m.put x).Ok∧(m.put x).gone≤m.gone+1:=by
  unfold qX0.put
  have h1:=h.l
  have h2:=h.m0
  have h3:=h.m1
  by_cases hf:m.l.length=m.most
  · rw [if_pos hf]
    exact ⟨⟨by simp;omega,h2,h3,hg⟩,Nat.le_refl _⟩
  · rw [if_neg hf]
    exact ⟨⟨by simp;omega,h2,h3,by dsimp only;omega⟩,by dsimp only;omega⟩
theorem qYR {w0 w:World} {R:List Pr} {tk:TkM} {S:Hp} {y:DpV} {m:DpM} (H:Hd w0 (DpL y tk S m R) w) (hs:DpS tk m) :
    Calls Tryz.prog 64 #[.pointer (some ⟨y.d,0,none⟩)] w fun e w'=>e=.returned (.agg (didA (m.step tk).1))∧∃S',Le S S'∧Hd w0 (DpL y tk S' (m.step tk).2 R) w':=by
  cases hm:m.may with
  | none =>
    have hb:m.begin tk=(none,m):=by unfold DpM.begin;rw [hm]
    refine (zJ4 H hs hm rfl rfl rfl).mono ?_
    rintro e w1 ⟨rfl,H1⟩
    unfold DpM.step
    rw [hb]
    dsimp only
    cases hc:m.co.step tk with
    | none=>rw [hc] at H1;exact ⟨rfl,S,Le.refl S,H1⟩
    | some r=>rw [hc] at H1;exact ⟨rfl,S,Le.refl S,H1⟩
  | some v =>
    obtain ⟨hw1,hw2,hw3,hw4,r,hw5,hw6⟩:=hs.w _ hm
    obtain ⟨vj,vt,vl⟩:=v
    dsimp only at hw1 hw5
    obtain ⟨i,rfl⟩:∃i:Nat,vt=i:=⟨vt.toNat,by omega⟩
    rw [Int.toNat_natCast] at hw5
    have hb:m.begin tk=(some ⟨vj,i,vl⟩,⟨m.co.begun vj i r,m.wq.take,m.count⟩):=by unfold DpM.begin;rw [hm];dsimp only;rw [Int.toNat_natCast,hw5]
    refine (zJD H hs hm hw5 rfl rfl rfl).mono ?_
    rintro e w1 ⟨rfl,S',hle,H1⟩
    unfold DpM.step
    rw [hb]
    dsimp only
    cases hc:(m.co.begun vj i r).step tk with
    | none=>rw [hc] at H1;exact ⟨rfl,S',hle,H1⟩
    | some r=>rw [hc] at H1;exact ⟨rfl,S',hle,H1⟩
section
variable {w0 w:World} {R:List Pr} {S:Hp} {z:KeV} {m:KeM}
theorem zJF (H:Hd w0 (KeL z S m R) w) (hs:DpS m.tk m.dp) (he:m.ev.Ok) (hg:m.ev.gone+4≤4611686018427387904) {sj st sl dj dt ok or on ov why:Int} {fin:Bool} {dp':DpM} (hd:m.dp.step m.tk=(⟨false,⟨sj,st,sl⟩,true,⟨dj,dt,⟨ok,or,on,ov⟩,why,fin⟩⟩,dp')) :
    Calls Tryz.prog 35 #[.pointer (some ⟨z.k,0,none⟩)] w fun e w'=>e=.returned (.agg (didA ⟨false,⟨sj,st,sl⟩,true,⟨dj,dt,⟨ok,or,on,ov⟩,why,fin⟩⟩))∧∃S',Le S S'∧Hd w0 (KeL z S' ((⟨m.tk,dp',m.ck,m.ev⟩:KeM).event qXV) R) w':=by
  obtain ⟨k,cl,rg,y⟩:=z
  have hst:=fun (w1:World) (X:List Pr) (h1:Hd w0 (DpL y m.tk S m.dp X) w1)=>qYR h1 hs
  rw [hd] at hst
  dsimp only at hst
  have hev:=fun (S':Hp) (w1:World) (X:List Pr) (m1:KeM) (e:EvM) (hr:m1.ev.Ok) (h1:Hd w0 (KeL ⟨k,cl,rg,y⟩ S' m1 X) w1)=>qJb h1 hr e
  have o0:(KeM.mk m.tk dp' m.ck m.ev).ev.Ok:=he
  obtain ⟨m1,hm1⟩:∃m1,(KeM.mk m.tk dp' m.ck m.ev).event qXV=m1:=⟨_,rfl⟩
  have o1:m1.ev.Ok∧m1.ev.gone≤m.ev.gone+1:=by
    have h:=qQQ o0 (by have:=hg;dsimp only;omega) { qXV with clock:=(KeM.mk m.tk dp' m.ck m.ev).ck.now }
    rw [← hm1]
    exact ⟨h.1,Nat.le_trans h.2 (by exact Nat.le_refl _)⟩
  rw [hm1]
  replace o0:=Lib.hid o0
  clear o1
  have v1:=fun (S':Hp) (w1:World) (X:List Pr) (h1:Hd w0 (KeL ⟨k,cl,rg,y⟩ S' (KeM.mk m.tk dp' m.ck m.ev) X) w1)=>hev S' w1 X (KeM.mk m.tk dp' m.ck m.ev) qXV o0.out h1
  rw [hm1] at v1
  replace v1:=Lib.hid v1
  replace hm1:=Lib.hid hm1
  replace hst:=Lib.hid hst
  replace hd:=Lib.hid hd
  clear hs he hg hev
  have H0:Hd w0 _ (w.alloc (.cells #[.bool false,.int .i64 0,.int .i64 0,.int .i64 0,.bool false,.int .i64 0,.int .i64 0,.int .i64 0,.int .i64 0,.int .i64 0,.int .i64 0,.int .i64 0,.bool false] 87)):=H.fol
  have k2:=(show _=some (Value.pointer (some ⟨y.d,0,none⟩)) from (H0.k k).ce 2 rfl)
  have hsc:=hst.out _ (cel w.heap.size 87 #[.bool false,.int .i64 0,.int .i64 0,.int .i64 0,.bool false,.int .i64 0,.int .i64 0,.int .i64 0,.int .i64 0,.int .i64 0,.int .i64 0,.int .i64 0,.bool false]::cel k 53 #[.pointer (some ⟨y.x.l,0,none⟩),.pointer (some ⟨y.x.t,0,none⟩),.pointer (some ⟨y.d,0,none⟩),.pointer (some ⟨cl,0,none⟩),.pointer (some ⟨rg,0,none⟩)]::qQE cl m.ck::qQT rg m.ev::R) H0.re
  clear H
  go_enter Tryz.func35,Tryz.ntmps35
  go_wp2_with fail
  refine hsc.mono ?_
  rintro e w1 ⟨rfl,S',hle,H1⟩
  clear hsc H0 k2
  have G0:Hd w0 _ (w1.alloc (.cells #[.bool false,.int .i64 sj,.int .i64 st,.int .i64 sl,.bool true,.int .i64 dj,.int .i64 dt,.int .i64 ok,.int .i64 or,.int .i64 on,.int .i64 ov,.int .i64 why,.bool fin] 87)):=H1.fol
  have hf0:=(G0.k w1.heap.size).fact1
  simp only [Nat.reduceAdd] at hf0
  go_split_ands
  have c1:=v1.out S' _ (cel w1.heap.size 87 #[.bool false,.int .i64 sj,.int .i64 st,.int .i64 sl,.bool true,.int .i64 dj,.int .i64 dt,.int .i64 ok,.int .i64 or,.int .i64 on,.int .i64 ov,.int .i64 why,.bool fin]::cel w.heap.size 87 #[.bool false,.int .i64 0,.int .i64 0,.int .i64 0,.bool false,.int .i64 0,.int .i64 0,.int .i64 0,.int .i64 0,.int .i64 0,.int .i64 0,.int .i64 0,.bool false]::R) G0.re
  go_wp2_with fail
  refine c1.mono ?_
  rintro e w2 ⟨rfl,G1⟩
  clear c1
  have hf1:=(G1.k w1.heap.size).fact1
  simp only [Nat.reduceAdd] at hf1
  go_split_ands
  go_wp2_with (first | (refine qQk (g:=w.heap.size) (cells:=didA ⟨false,⟨sj,st,sl⟩,true,⟨dj,dt,⟨ok,or,on,ov⟩,why,fin⟩⟩) (G1.k w.heap.size) rfl 87 _ _ rfl rfl rfl (by kernel_rfl) rfl (qJy _) ?_;intro w9 H11))
  refine bodyPost_ret (qQC rfl _ _ w.heap.size 87 (didA ⟨false,⟨sj,st,sl⟩,true,⟨dj,dt,⟨ok,or,on,ov⟩,why,fin⟩⟩) (0,0) _ (by rfl) (by exact H11.heap) Tryz.underlying87 rfl (by kernel_rfl)) rfl ⟨rfl,S',hle,?_⟩
  exact H11.re
end
end
section
open Go.RowKit Spl
abbrev qYL (x:qQY) (nv:Value):Value:=.agg #[.string x.nm,.int .i64 x.lv,.int .i64 x.fr,nv,.string x.cd,.int .i64 x.p,.int .i64 x.f,.int .i64 x.g]
def KeM.busy (m:KeM) (x:qQY):Bool:=x.needs.any fun n=>decide (0<(qQS m.dp.co.un n.res.toNat).length)
def KeM.checkE (m:KeM) (x:qQY):Int:=if qQO m.tk x=0∨qQO m.tk x=25 then (if m.busy x=true then 24 else qQO m.tk x) else qQO m.tk x
theorem qK3 {u:List Int}:∀ {l:List qZy} {pr:Option Int} (_:qZp u l pr=0),∀x∈l,0≤x.res∧x.res<u.length
  | [],_,_=>fun x hx=>by cases hx
  | y::l,pr,h=>by
    rw [qZ9] at h
    intro x hx
    by_cases h1:y.res<0∨(u.length:Int)≤y.res∨y.units<1∨(u[y.res.toNat]?.getD 0)<y.units
    · rw [if_pos h1] at h;cases h
    · rw [if_neg h1] at h
      have h3:qZp u l (some y.res)=0:=by
        cases pr with
        | none=>rw [if_neg (by simp)] at h;exact h
        | some p =>
          dsimp only at h
          by_cases h2:decide (y.res≤p)=true
          · rw [if_pos h2] at h;omega
          · rw [if_neg h2] at h;exact h
      rcases List.mem_cons.1 hx with rfl | hx
      · omega
      · exact qK3 h3 x hx
theorem qXX {m:TkM} {x:qQY} (h:qQO m x=0∨qQO m x=25) (hs:¬(qQB x.cd).2=25):∀n∈x.needs,0≤n.res∧n.res<m.units.length:=by
  unfold qQO at h
  by_cases h1:(qQB x.cd).2=0
  · rw [if_pos h1] at h
    by_cases h2:qJf x.nm=true
    · rw [if_pos h2] at h
      by_cases h3:(qQs m.names x.nm).isSome=true
      · rw [if_pos h3] at h;omega
      · rw [if_neg h3] at h
        by_cases h4:x.lv<1∨32<x.lv∨x.fr<0∨4096<x.fr∨qQG x.p x.f x.g=false
        · rw [if_pos h4] at h;omega
        · rw [if_neg h4] at h
          by_cases h5:qZp m.units x.needs none=0
          · exact qK3 h5
          · rw [if_neg h5] at h
            exfalso
            have h6:∀(l:List qZy) (pr:Option Int),qZp m.units l pr=0∨qZp m.units l pr=1∨qZp m.units l pr=21:=by
              intro l
              induction l with
              | nil=>intro pr;exact .inl rfl
              | cons y l ih =>
                intro pr
                rw [qZ9]
                by_cases h7:y.res<0∨(m.units.length:Int)≤y.res∨y.units<1∨(m.units[y.res.toNat]?.getD 0)<y.units
                · rw [if_pos h7];exact .inr (.inl rfl)
                · rw [if_neg h7]
                  cases pr with
                  | none=>rw [if_neg (by simp)];exact ih _
                  | some p =>
                    dsimp only
                    by_cases h2:decide (y.res≤p)=true
                    · rw [if_pos h2];exact .inr (.inr rfl)
                    · rw [if_neg h2];exact ih _
            have:=h6 x.needs none
            omega
    · rw [if_neg h2] at h;omega
  · rw [if_neg h1] at h
    omega
theorem qJr:∀(l:List OpM) (i n:Nat),¬(qQM l i n).2=25
  | [],i,n=>by unfold qQM;split <;> simp
  | o::l,i,n=>by
    unfold qQM
    split
    · simp
    · split
      · split
        · simp
        · exact qJr l _ _
      · split
        · split
          · simp
          · exact qJr l _ _
        · exact qJr l _ _
theorem qUq (s:ByteArray) (i:Nat) (o:OpM) (j:Nat):¬(qQJ s i o j).1.2=25:=by
  unfold qQJ
  split
  · simp
  · dsimp only
    split
    · first | (show ¬(0:Int)=25;decide) | (show ¬(31:Int)=25;decide) | (show ¬(30:Int)=25;decide)
    · split
      · split
        · first | (show ¬(0:Int)=25;decide) | (show ¬(31:Int)=25;decide) | (show ¬(30:Int)=25;decide)
        · first | (show ¬(0:Int)=25;decide) | (show ¬(31:Int)=25;decide) | (show ¬(30:Int)=25;decide)
      · split
        · first | (show ¬(0:Int)=25;decide) | (show ¬(31:Int)=25;decide) | (show ¬(30:Int)=25;decide)
        · first | (show ¬(0:Int)=25;decide) | (show ¬(31:Int)=25;decide) | (show ¬(30:Int)=25;decide)
theorem qWi (s:ByteArray):∀(l:List Nat) (i:Nat) (o:OpM),¬(qZq s l i o).1.2=25
  | [],_,_=>by unfold qZq;simp
  | j::l,i,o=>by
    unfold qZq
    split
    · exact qWi s l _ _
    · exact qUq s i o j
theorem zQu (s:ByteArray) (m:RdM) (k:Int):¬(oneM s m k).1.2=25:=by
  unfold oneM
  dsimp only
  by_cases h1:(qZq s (qZR (qZx k)) m.pos ⟨k,0,0,0⟩).1.2=0
  · rw [if_pos h1]
    by_cases h2:k=10
    · rw [if_pos h2]
      split
      · first | (show ¬(0:Int)=25;decide) | (show ¬(31:Int)=25;decide) | (show ¬(30:Int)=25;decide)
      · split
        · first | (show ¬(0:Int)=25;decide) | (show ¬(31:Int)=25;decide) | (show ¬(30:Int)=25;decide)
        · first | (show ¬(0:Int)=25;decide) | (show ¬(31:Int)=25;decide) | (show ¬(30:Int)=25;decide)
    · rw [if_neg h2]
      split
      · first | (show ¬(0:Int)=25;decide) | (show ¬(31:Int)=25;decide) | (show ¬(30:Int)=25;decide)
      · first | (show ¬(0:Int)=25;decide) | (show ¬(31:Int)=25;decide) | (show ¬(30:Int)=25;decide)
  · rw [if_neg h1]
    exact qWi s _ _ _
theorem qKn (s:ByteArray):∀(n:Nat) (m:RdM),¬(qJh s n m).1.2=25
  | 0,_=>by unfold qJh;simp
  | n+1,m=>by
    unfold qJh
    split
    · simp
    · split
      · split
        · exact qKn s n _
        · exact zQu s _ _
      · dsimp only
        unfold qQV
        split
        · simp
        · split
          · simp
          · split <;> simp
theorem qKp (s:ByteArray):¬(qQB s).2=25:=by
  have hs:∀p,¬(qZj p).2=25:=by
    intro p
    unfold qZj
    split
    · split <;> simp
    · unfold qQW
      split
      · simp
      · exact qJr _ _ _
  have hp:¬(qZD s).2.2=25:=by
    unfold qZD
    split
    · simp
    · dsimp only
      split
      · split <;> simp
      · exact qKn s _ _
  unfold qQB
  split
  · exact hs _
  · exact hp
structure KeC (m:KeM):Prop where
  t:m.tk.Ok
  u:m.dp.co.un.Inv
  uu:m.dp.co.un.units=m.tk.units
end
end Go.Proofs.YtkchopnkdjnocaaGreatDoor
