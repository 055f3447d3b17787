/-
  Merged texts of one proof: CoM, Co1, Co2, Co2b, Co3, Co4, Co5, Co6.
-/
import Derived.Test.YtkchopnkdjnocaaGreatDoorG05
import Derived.Test.YtkchopnkdjnocaaGreatDoorG17
import Derived.Test.YtkchopnkdjnocaaGreatDoorG21
import Derived.Test.YtkchopnkdjnocaaGreatDoorG35
import Derived.Test.YtkchopnkdjnocaaGreatDoorG36

set_option maxHeartbeats 16000000
set_option maxRecDepth 20000
namespace Go.Proofs.YtkchopnkdjnocaaGreatDoor
section
open Go.RowKit Spl
structure StM where
  job:Int
  task:Nat
  level:Int
  pos:Nat
  steps:List OpM
structure CoM where
  ar:ArM
  un:UnM
  ce:List Int
  jobs:List StM
def StM.act (j:StM):ActM:=⟨j.job,j.task,j.level,j.pos⟩
def qJp (jobs:List StM) (job:Int):Int:=match jobs.findIdx? (fun j=>j.job == job) with
  | some i=>i
  | none=>-1
def qKR (m:TkM) (task:Nat) (res:Int):Int:=match m.rows[task]? with
  | some r=>qZi r.t.needs res
  | none=>0
def actM (tk:TkM) (m:CoM) (j:StM) (o:OpM):Int × CoM :=
  if o.kind=1 then
    if m.un.lockE j.job o.res o.n (qKR tk j.task o.res)=0 then
      (0,{ m with un:=m.un.locked j.job o.res.toNat o.n,ce:=m.ce++[max (qXz tk o.res (((m.un.locked j.job o.res.toNat o.n).free[o.res.toNat]?).getD 0)) (topI m.ce)] })
    else (m.un.lockE j.job o.res o.n (qKR tk j.task o.res),m)
  else if o.kind=2 then
    if m.un.unlockE j.job o.res=0 then (0,{ m with un:=m.un.popped j.job,ce:=m.ce.dropLast }) else (m.un.unlockE j.job o.res,m)
  else if o.kind=3 then (m.ar.pushE,{ m with ar:=m.ar.push o.v })
  else if o.kind=4 then (m.ar.popE,{ m with ar:=m.ar.pop })
  else if o.kind=6 then
    if m.un.cellE j.job o.res=0 then (m.ar.pushE,{ m with ar:=m.ar.push (m.un.cells[o.res.toNat]?.getD 0) }) else (m.un.cellE j.job o.res,m)
  else if o.kind=7 then
    if m.un.cellE j.job o.res=0 then
      if m.ar.popE=0 then (0,{ m with ar:=m.ar.pop,un:=m.un.stored o.res.toNat m.ar.popV }) else (m.ar.popE,{ m with ar:=m.ar.pop })
    else (m.un.cellE j.job o.res,m)
  else if o.kind=8 then
    if ((m.ar.fr.getLast?.map fun f=>f.laid.length).getD 0)<2 then (10,m)
    else (m.ar.pop.pop.pushE,{ m with ar:=m.ar.pop.pop.push (wrap64 (m.ar.pop.popV+m.ar.popV)) })
  else (0,m)
def qJX (m:CoM) (job:Int):CoM:=⟨m.ar.close,m.un.popN job (m.un.locksN job),m.ce.take (m.ce.length-m.un.locksN job),m.jobs.dropLast⟩
def stB (S:Hp) (b:Nat) (j:StM):Pr:=ex fun v:Value=>all [fact (RoE S 83 v j.steps),cel b 215 #[.int .i64 j.job,.int .i64 j.task,.int .i64 j.level,.int .i64 j.pos,v]]
def ptr (b:Nat):Value:=.pointer (some ⟨b,0,none⟩)
structure CoV where
  l:Nat
  t:Nat
  a:Nat
  u:Nat
  c:Nat
abbrev qQt (x:CoV) (vj:Value):Array Value:=#[.pointer (some ⟨x.t,0,none⟩),.pointer (some ⟨x.a,0,none⟩),.pointer (some ⟨x.u,0,none⟩),.pointer (some ⟨x.c,0,none⟩),vj]
abbrev qQj (c l:Nat):Array Value:=#[.pointer (some ⟨l,0,none⟩),.nilFunc,.func (.func 163) #[.pointer (some ⟨c,0,none⟩)] #[],.func (.func 164) #[.pointer (some ⟨c,0,none⟩)] #[],
  .func (.func 165) #[.pointer (some ⟨c,0,none⟩)] #[],.func (.func 166) #[.pointer (some ⟨c,0,none⟩)] #[],.func (.func 167) #[.pointer (some ⟨c,0,none⟩)] #[],
  .func (.func 168) #[.pointer (some ⟨c,0,none⟩)] #[],.func (.func 169) #[.pointer (some ⟨c,0,none⟩)] #[],.func (.func 170) #[.pointer (some ⟨c,0,none⟩)] #[],
  .func (.func 171) #[.pointer (some ⟨c,0,none⟩)] #[],.nilFunc,.nilFunc]
def LkP (x:CoV) (S:Hp) (m:CoM):Pr:=ex fun y:Value × List Nat=>all [fact (y.2.length=m.jobs.length),cel x.l 108 (qQt x y.1),ArP x.a m.ar,UnP x.u m.un,CeP x.c m.ce,SlE 211 y.1 (y.2.map Ptr.mk),all (List.zipWith (stB S) y.2 m.jobs)]
instance (x:CoV) (S:Hp) (m:CoM):Key (LkP x S m) (.b x.l):=⟨trivial⟩
abbrev CoL (c:Nat) (x:CoV) (vj:Value) (tk:TkM) (S:Hp) (m:CoM) (R:List Pr):List Pr :=
  cel c 194 (qQj c x.l)::cel x.l 108 (qQt x vj)::TkP x.t tk S::ro S::ArP x.a m.ar::UnP x.u m.un::CeP x.c m.ce::R
abbrev actV (j:ActM):Value:=.agg #[.int .i64 j.job,.int .i64 j.task,.int .i64 j.level,.int .i64 j.at_]
abbrev opV (o:OpM):Value:=.agg #[.int .i64 o.kind,.int .i64 o.res,.int .i64 o.n,.int .i64 o.v]
section
variable {w0 w:World} {R:List Pr} {x:CoV} {S:Hp} {m:CoM}
theorem LkP.opened (H:Hd w0 (LkP x S m::R) w):∃(vj:Value) (bs:List Nat),bs.length=m.jobs.length ∧
    Hd w0 (cel x.l 108 (qQt x vj)::ArP x.a m.ar::UnP x.u m.un::CeP x.c m.ce::SlE 211 vj (bs.map Ptr.mk)::all (List.zipWith (stB S) bs m.jobs)::R) w:=by
  obtain ⟨⟨vj,bs⟩,H1⟩:=H.out
  have H2:Hd w0 (fact (bs.length=m.jobs.length)::_) w:=H1.flat
  exact ⟨vj,bs,H2.get,H2.tail⟩
theorem LkP.shut {vj:Value} {bs:List Nat} (H:Hd w0 (cel x.l 108 (qQt x vj)::ArP x.a m.ar::UnP x.u m.un::CeP x.c m.ce::SlE 211 vj (bs.map Ptr.mk)::all (List.zipWith (stB S) bs m.jobs)::R) w) (h:bs.length=m.jobs.length):Hd w0 (LkP x S m::R) w :=
  Hd.into (vj,bs) (Hd.pack (L:=[_,_,_,_,_,_,_]) (Hd.put h H))
theorem stB.mono {S':Hp} (k:Le S S') {b:Nat} {j:StM} {h:Hp} (hs:stB S b j h):stB S' b j h:=by
  obtain ⟨v,a,b',d,e,h1,h2⟩:=hs
  exact ⟨v,a,b',d,e,Ros.mono h1 k,h2⟩
theorem stBs.mono {S':Hp} (k:Le S S'):∀ {bs:List Nat} {js:List StM} {h:Hp},sat (List.zipWith (stB S) bs js) h→sat (List.zipWith (stB S') bs js) h
  | [],_,_,h=>by simpa using h
  | _::_,[],_,h=>by simpa using h
  | _::bs,_::js,_,h=>qZo (fun _ h=>stB.mono k h) (fun _ h=>stBs.mono k h) h
theorem LkP.mono {S':Hp} (H:Hd w0 (LkP x S m::R) w) (k:Le S S'):Hd w0 (LkP x S' m::R) w:=by
  obtain ⟨vj,bs,hb,H1⟩:=LkP.opened H
  have H2:Hd w0 (all (List.zipWith (stB S) bs m.jobs)::cel x.l 108 (qQt x vj)::ArP x.a m.ar::UnP x.u m.un::CeP x.c m.ce::SlE 211 vj (bs.map Ptr.mk)::R) w:=H1.re
  exact LkP.shut (vj:=vj) (bs:=bs) (H2.mono (B:=all (List.zipWith (stB S') bs m.jobs)) fun _ h=>stBs.mono k h).re hb
end
end
section
open Go.RowKit Spl
theorem qJ3 {m:UnM} {job res:Int} (h:m.cellE job res=0):0≤res∧res<m.units.length∧0≤job:=by
  unfold UnM.cellE at h
  split at h
  · cases h
  · omega
section
variable {w0 w:World} {R:List Pr} {c:Nat} {x:CoV} {vj:Value} {tk:TkM} {S:Hp} {m:CoM}
theorem zXi (H:Hd w0 (CoL c x vj tk S m R) w) (hm:m.ar.Ok) (j:ActM) (o:OpM) :
    Calls Tryz.prog 165 #[.pointer (some ⟨c,0,none⟩),actV j,opV o] w fun e w'=>e=.returned (.int .i64 m.ar.pushE)∧Hd w0 (CoL c x vj tk S { m with ar:=m.ar.push o.v } R) w':=by
  obtain ⟨l,t,a,u,ce⟩:=x
  have H2:Hd w0 _ ((w.alloc (.cells #[.int .i64 j.job,.int .i64 j.task,.int .i64 j.level,.int .i64 j.at_] 213)).alloc (.cells #[.int .i64 o.kind,.int .i64 o.res,.int .i64 o.n,.int .i64 o.v] 83)):=H.fol
  have HA:=H2.drew
  have hc:=zQN (HA.k a) hm o.v
  have hf:=H2.facts
  simp only [Nat.reduceAdd] at hf
  go_split_ands
  clear H
  go_enter Tryz.func165,Tryz.ntmps165
  go_wp2_with fail
  refine wp_region_still_tail 9 (by kernel_rfl) (by kernel_rfl) ?_
  simp only [List.take_succ_cons,List.take_zero,List.drop_succ_cons,List.drop_zero,World.drew_eq]
  (repeat still_step)
  refine wpStill_nil ?_
  go_wp2_with fail
  refine hc.mono ?_
  rintro e w1 ⟨rfl,H3⟩
  clear hc
  go_wp2_with fail
  go_ret
  exact ⟨rfl,H3.re⟩
theorem zKC (H:Hd w0 (CoL c x vj tk S m R) w) (hm:m.ar.Ok) (j:ActM) (o:OpM) :
    Calls Tryz.prog 166 #[.pointer (some ⟨c,0,none⟩),actV j,opV o] w fun e w'=>e=.returned (.int .i64 m.ar.popE)∧Hd w0 (CoL c x vj tk S { m with ar:=m.ar.pop } R) w':=by
  obtain ⟨l,t,a,u,ce⟩:=x
  have H2:Hd w0 _ ((w.alloc (.cells #[.int .i64 j.job,.int .i64 j.task,.int .i64 j.level,.int .i64 j.at_] 213)).alloc (.cells #[.int .i64 o.kind,.int .i64 o.res,.int .i64 o.n,.int .i64 o.v] 83)):=H.fol
  have HA:=H2
  have hc:=zQk (HA.k a) hm
  have hf:=H2.facts
  simp only [Nat.reduceAdd] at hf
  go_split_ands
  clear H
  go_enter Tryz.func166,Tryz.ntmps166
  go_wp2_with fail
  refine hc.mono ?_
  rintro e w1 ⟨rfl,H3⟩
  clear hc
  go_wp2_with fail
  go_ret
  exact ⟨rfl,H3.re⟩
theorem zXK (H:Hd w0 (CoL c x vj tk S m R) w) (j:ActM) (o:OpM) :
    Calls Tryz.prog 167 #[.pointer (some ⟨c,0,none⟩),actV j,opV o] w fun e w'=>e=.returned (.int .i64 0)∧Hd w0 (CoL c x vj tk S m R) w':=by
  obtain ⟨l,t,a,u,ce⟩:=x
  have H2:Hd w0 _ ((w.alloc (.cells #[.int .i64 j.job,.int .i64 j.task,.int .i64 j.level,.int .i64 j.at_] 213)).alloc (.cells #[.int .i64 o.kind,.int .i64 o.res,.int .i64 o.n,.int .i64 o.v] 83)):=H.fol
  have HA:=H2
  have hf:=H2.facts
  simp only [Nat.reduceAdd] at hf
  go_split_ands
  clear H
  have H3:=H2
  go_enter Tryz.func167,Tryz.ntmps167
  go_wp2_with fail
  go_ret
  exact ⟨rfl,H3.re⟩
theorem zZp (H:Hd w0 (CoL c x vj tk S m R) w) (hu:m.un.Inv) (j:ActM) (o:OpM) {E:Int} (hE:m.un.cellE j.job o.res=E) (hn:¬E=0) :
    Calls Tryz.prog 168 #[.pointer (some ⟨c,0,none⟩),actV j,opV o] w fun e w'=>e=.returned (.int .i64 E)∧Hd w0 (CoL c x vj tk S m R) w':=by
  obtain ⟨l,t,a,u,ce⟩:=x
  have H2:Hd w0 _ ((w.alloc (.cells #[.int .i64 j.job,.int .i64 j.task,.int .i64 j.level,.int .i64 j.at_] 213)).alloc (.cells #[.int .i64 o.kind,.int .i64 o.res,.int .i64 o.n,.int .i64 o.v] 83)):=H.fol
  have HA:=H2.drew
  have hc:=qUS (HA.k u) hu.ok hu.ok2 (job:=j.job) (res:=o.res) (by rw [hE];exact hn)
  rw [hE] at hc
  have hf:=H2.facts
  simp only [Nat.reduceAdd] at hf
  go_split_ands
  clear H
  go_enter Tryz.func168,Tryz.ntmps168
  go_wp2_with fail
  refine wm 16 [(0,true),(1,true),(2,true),(3,true),(4,true),(5,true),(6,true),(7,true),(8,true),(9,true),(10,true),(11,false),(12,true),(13,true),(14,true),(15,true)] (fun w'=>w'.cell? ⟨c,0,none⟩=some (.pointer (some ⟨l,0,none⟩))∧w'.cell? ⟨l,2,none⟩=some (.pointer (some ⟨u,0,none⟩))∧w'.cell? ⟨w.heap.size,0,none⟩=some (.int .i64 j.job)∧w'.cell? ⟨w.heap.size+1,1,none⟩=some (.int .i64 o.res)) (⟨(show _=some _ from (HA.k c).ce 0 rfl),(show _=some _ from (HA.k l).ce 2 rfl),(show _=some _ from (HA.k w.heap.size).ce 0 rfl),(show _=some _ from (HA.k (w.heap.size+1)).ce 1 rfl)⟩) ?_
  simp only [List.drop_succ_cons,List.drop_zero]
  iterate 11 (refine mh ?_;(try simp only [Act.put,List.setIfInBounds_toArray,List.set_cons_zero,List.set_cons_succ]))
  refine mm ?_
  go_wp2_with fail
  refine hc.mono ?_
  rintro e w1 ⟨rfl,H3⟩
  clear hc
  go_wp2_with fail
  refine qQd ⟨(show _=some _ from (H3.k c).ce 0 rfl),(show _=some _ from (H3.k l).ce 2 rfl),(show _=some _ from (H3.k w.heap.size).ce 0 rfl),(show _=some _ from (H3.k (w.heap.size+1)).ce 1 rfl)⟩ ?_
  iterate 4 (refine mh ?_;(try simp only [Act.put,List.setIfInBounds_toArray,List.set_cons_zero,List.set_cons_succ]))
  refine qQe ?_
  (try dsimp only)
  go_wp2_with fail
  go_ret
  exact ⟨rfl,H3.re⟩
theorem zXC (H:Hd w0 (CoL c x vj tk S m R) w) (hm:m.ar.Ok) (hu:m.un.Inv) (j:ActM) (o:OpM) (hE:m.un.cellE j.job o.res=0) {v:Int} (hv:m.un.cells[o.res.toNat]? = some v) :
    Calls Tryz.prog 168 #[.pointer (some ⟨c,0,none⟩),actV j,opV o] w fun e w'=>e=.returned (.int .i64 m.ar.pushE)∧Hd w0 (CoL c x vj tk S { m with ar:=m.ar.push v } R) w':=by
  obtain ⟨r,hr⟩:∃r:Nat,o.res=r:=⟨o.res.toNat,by have:=qJ3 hE;omega⟩
  obtain ⟨l,t,a,u,ce⟩:=x
  have H2:Hd w0 _ ((w.alloc (.cells #[.int .i64 j.job,.int .i64 j.task,.int .i64 j.level,.int .i64 j.at_] 213)).alloc (.cells #[.int .i64 o.kind,.int .i64 o.res,.int .i64 o.n,.int .i64 o.v] 83)):=H.fol
  have HA:=H2.drew
  have hc:=zQz (r:=r) (n:=v) (HA.k u) hu.ok hu.ok2 (job:=j.job) (by rw [← hr];exact hE) (by rw [hr] at hv;simpa using hv)
  rw [← hr] at hc
  replace hr:=Lib.hid hr
  have hf:=H2.facts
  simp only [Nat.reduceAdd] at hf
  go_split_ands
  clear H
  go_enter Tryz.func168,Tryz.ntmps168
  go_wp2_with fail
  refine wm 16 [(0,true),(1,true),(2,true),(3,true),(4,true),(5,true),(6,true),(7,true),(8,true),(9,true),(10,true),(11,false),(12,true),(13,true),(14,true),(15,true)] (fun w'=>w'.cell? ⟨c,0,none⟩=some (.pointer (some ⟨l,0,none⟩))∧w'.cell? ⟨l,2,none⟩=some (.pointer (some ⟨u,0,none⟩))∧w'.cell? ⟨w.heap.size,0,none⟩=some (.int .i64 j.job)∧w'.cell? ⟨w.heap.size+1,1,none⟩=some (.int .i64 o.res)) (⟨(show _=some _ from (HA.k c).ce 0 rfl),(show _=some _ from (HA.k l).ce 2 rfl),(show _=some _ from (HA.k w.heap.size).ce 0 rfl),(show _=some _ from (HA.k (w.heap.size+1)).ce 1 rfl)⟩) ?_
  simp only [List.drop_succ_cons,List.drop_zero]
  iterate 11 (refine mh ?_;(try simp only [Act.put,List.setIfInBounds_toArray,List.set_cons_zero,List.set_cons_succ]))
  refine mm ?_
  go_wp2_with fail
  refine hc.mono ?_
  rintro e w1 ⟨rfl,H3⟩
  clear hc
  go_wp2_with fail
  refine qQd ⟨(show _=some _ from (H3.k c).ce 0 rfl),(show _=some _ from (H3.k l).ce 2 rfl),(show _=some _ from (H3.k w.heap.size).ce 0 rfl),(show _=some _ from (H3.k (w.heap.size+1)).ce 1 rfl)⟩ ?_
  iterate 4 (refine mh ?_;(try simp only [Act.put,List.setIfInBounds_toArray,List.set_cons_zero,List.set_cons_succ]))
  refine qQe ?_
  (try dsimp only)
  have hg:=H3.facts
  simp only [Nat.reduceAdd] at hg
  go_split_ands
  have hc:=zQN (H3.k a) hm v
  go_wp2_with fail
  refine hc.mono ?_
  rintro e w2 ⟨rfl,H4⟩
  clear hc
  go_wp2_with fail
  go_ret
  exact ⟨rfl,H4.re⟩
theorem qq1 (H:Hd w0 (CoL c x vj tk S m R) w) (hu:m.un.Inv) (j:ActM) (o:OpM) {E:Int} (hE:m.un.unlockE j.job o.res=E) (hn:¬E=0) :
    Calls Tryz.prog 164 #[.pointer (some ⟨c,0,none⟩),actV j,opV o] w fun e w'=>e=.returned (.int .i64 E)∧Hd w0 (CoL c x vj tk S m R) w':=by
  obtain ⟨l,t,a,u,ce⟩:=x
  have H2:Hd w0 _ ((w.alloc (.cells #[.int .i64 j.job,.int .i64 j.task,.int .i64 j.level,.int .i64 j.at_] 213)).alloc (.cells #[.int .i64 o.kind,.int .i64 o.res,.int .i64 o.n,.int .i64 o.v] 83)):=H.fol
  have HA:=H2.drew
  have hc:=qUN (HA.k u) hu.ok hu.ok2 hu.ok3 (job:=j.job) (res:=o.res)
  rw [hE,if_neg hn,if_neg hn] at hc
  have hf:=H2.facts
  simp only [Nat.reduceAdd] at hf
  go_split_ands
  clear H
  go_enter Tryz.func164,Tryz.ntmps164
  go_wp2_with fail
  refine wm 16 [(0,true),(1,true),(2,true),(3,true),(4,true),(5,true),(6,true),(7,true),(8,true),(9,true),(10,true),(11,false),(12,true),(13,true),(14,true),(15,true)] (fun w'=>w'.cell? ⟨c,0,none⟩=some (.pointer (some ⟨l,0,none⟩))∧w'.cell? ⟨l,2,none⟩=some (.pointer (some ⟨u,0,none⟩))∧w'.cell? ⟨w.heap.size,0,none⟩=some (.int .i64 j.job)∧w'.cell? ⟨w.heap.size+1,1,none⟩=some (.int .i64 o.res)) (⟨(show _=some _ from (HA.k c).ce 0 rfl),(show _=some _ from (HA.k l).ce 2 rfl),(show _=some _ from (HA.k w.heap.size).ce 0 rfl),(show _=some _ from (HA.k (w.heap.size+1)).ce 1 rfl)⟩) ?_
  simp only [List.drop_succ_cons,List.drop_zero]
  iterate 11 (refine mh ?_;(try simp only [Act.put,List.setIfInBounds_toArray,List.set_cons_zero,List.set_cons_succ]))
  refine mm ?_
  go_wp2_with fail
  refine hc.mono ?_
  rintro e w1 ⟨rfl,H3⟩
  clear hc
  go_wp2_with fail
  refine qQd ⟨(show _=some _ from (H3.k c).ce 0 rfl),(show _=some _ from (H3.k l).ce 2 rfl),(show _=some _ from (H3.k w.heap.size).ce 0 rfl),(show _=some _ from (H3.k (w.heap.size+1)).ce 1 rfl)⟩ ?_
  iterate 4 (refine mh ?_;(try simp only [Act.put,List.setIfInBounds_toArray,List.set_cons_zero,List.set_cons_succ]))
  refine qQe ?_
  (try dsimp only)
  go_wp2_with fail
  go_ret
  exact ⟨rfl,H3.re⟩
theorem zZ2 (H:Hd w0 (CoL c x vj tk S m R) w) (hu:m.un.Inv) (hl:m.ce.length≤10000) (hl0:m.ce ≠ []) (j:ActM) (o:OpM) (hE:m.un.unlockE j.job o.res=0) :
    Calls Tryz.prog 164 #[.pointer (some ⟨c,0,none⟩),actV j,opV o] w fun e w'=>e=.returned (.int .i64 0)∧Hd w0 (CoL c x vj tk S { m with un:=m.un.popped j.job,ce:=m.ce.dropLast } R) w':=by
  obtain ⟨l,t,a,u,ce⟩:=x
  have H2:Hd w0 _ ((w.alloc (.cells #[.int .i64 j.job,.int .i64 j.task,.int .i64 j.level,.int .i64 j.at_] 213)).alloc (.cells #[.int .i64 o.kind,.int .i64 o.res,.int .i64 o.n,.int .i64 o.v] 83)):=H.fol
  have HA:=H2.drew
  have hc:=qUN (HA.k u) hu.ok hu.ok2 hu.ok3 (job:=j.job) (res:=o.res)
  rw [hE,if_pos rfl,if_pos rfl] at hc
  have hf:=H2.facts
  simp only [Nat.reduceAdd] at hf
  go_split_ands
  clear H
  go_enter Tryz.func164,Tryz.ntmps164
  go_wp2_with fail
  refine wm 16 [(0,true),(1,true),(2,true),(3,true),(4,true),(5,true),(6,true),(7,true),(8,true),(9,true),(10,true),(11,false),(12,true),(13,true),(14,true),(15,true)] (fun w'=>w'.cell? ⟨c,0,none⟩=some (.pointer (some ⟨l,0,none⟩))∧w'.cell? ⟨l,2,none⟩=some (.pointer (some ⟨u,0,none⟩))∧w'.cell? ⟨w.heap.size,0,none⟩=some (.int .i64 j.job)∧w'.cell? ⟨w.heap.size+1,1,none⟩=some (.int .i64 o.res)) (⟨(show _=some _ from (HA.k c).ce 0 rfl),(show _=some _ from (HA.k l).ce 2 rfl),(show _=some _ from (HA.k w.heap.size).ce 0 rfl),(show _=some _ from (HA.k (w.heap.size+1)).ce 1 rfl)⟩) ?_
  simp only [List.drop_succ_cons,List.drop_zero]
  iterate 11 (refine mh ?_;(try simp only [Act.put,List.setIfInBounds_toArray,List.set_cons_zero,List.set_cons_succ]))
  refine mm ?_
  go_wp2_with fail
  refine hc.mono ?_
  rintro e w1 ⟨rfl,H3⟩
  clear hc
  go_wp2_with fail
  refine qQd ⟨(show _=some _ from (H3.k c).ce 0 rfl),(show _=some _ from (H3.k l).ce 2 rfl),(show _=some _ from (H3.k w.heap.size).ce 0 rfl),(show _=some _ from (H3.k (w.heap.size+1)).ce 1 rfl)⟩ ?_
  iterate 4 (refine mh ?_;(try simp only [Act.put,List.setIfInBounds_toArray,List.set_cons_zero,List.set_cons_succ]))
  refine qQe ?_
  (try dsimp only)
  have hg:=H3.facts
  simp only [Nat.reduceAdd] at hg
  go_split_ands
  have hc:=zQF (H3.k ce) hl hl0
  go_wp2_with fail
  refine hc.mono ?_
  rintro e w2 ⟨rfl,H4⟩
  clear hc
  go_wp2_with fail
  go_ret
  exact ⟨rfl,H4.re⟩
end
end
section
open Go.RowKit Spl
section
variable {w0 w:World} {R:List Pr} {c:Nat} {x:CoV} {vj:Value} {tk:TkM} {S:Hp} {m:CoM}
theorem zQj (H:Hd w0 (CoL c x vj tk S m R) w) (hu:m.un.Inv) (j:ActM) (o:OpM) {E:Int} (hE:m.un.cellE j.job o.res=E) (hn:¬E=0) :
    Calls Tryz.prog 169 #[.pointer (some ⟨c,0,none⟩),actV j,opV o] w fun e w'=>e=.returned (.int .i64 E)∧Hd w0 (CoL c x vj tk S m R) w':=by
  obtain ⟨l,t,a,u,ce⟩:=x
  have H2:Hd w0 _ ((w.alloc (.cells #[.int .i64 j.job,.int .i64 j.task,.int .i64 j.level,.int .i64 j.at_] 213)).alloc (.cells #[.int .i64 o.kind,.int .i64 o.res,.int .i64 o.n,.int .i64 o.v] 83)):=H.fol
  have HA:=H2.drew
  have hc:=qUS (HA.k u) hu.ok hu.ok2 (job:=j.job) (res:=o.res) (by rw [hE];exact hn)
  rw [hE] at hc
  have hf:=H2.facts
  simp only [Nat.reduceAdd] at hf
  go_split_ands
  clear H
  go_enter Tryz.func169,Tryz.ntmps169
  go_wp2_with fail
  refine wm 16 [(0,true),(1,true),(2,true),(3,true),(4,true),(5,true),(6,true),(7,true),(8,true),(9,true),(10,true),(11,false),(12,true),(13,true),(14,true),(15,true)] (fun w'=>w'.cell? ⟨c,0,none⟩=some (.pointer (some ⟨l,0,none⟩))∧w'.cell? ⟨l,2,none⟩=some (.pointer (some ⟨u,0,none⟩))∧w'.cell? ⟨w.heap.size,0,none⟩=some (.int .i64 j.job)∧w'.cell? ⟨w.heap.size+1,1,none⟩=some (.int .i64 o.res)) (⟨(show _=some _ from (HA.k c).ce 0 rfl),(show _=some _ from (HA.k l).ce 2 rfl),(show _=some _ from (HA.k w.heap.size).ce 0 rfl),(show _=some _ from (HA.k (w.heap.size+1)).ce 1 rfl)⟩) ?_
  simp only [List.drop_succ_cons,List.drop_zero]
  iterate 11 (refine mh ?_;(try simp only [Act.put,List.setIfInBounds_toArray,List.set_cons_zero,List.set_cons_succ]))
  refine mm ?_
  go_wp2_with fail
  refine hc.mono ?_
  rintro e w1 ⟨rfl,H3⟩
  clear hc
  go_wp2_with fail
  refine qQd ⟨(show _=some _ from (H3.k c).ce 0 rfl),(show _=some _ from (H3.k l).ce 2 rfl),(show _=some _ from (H3.k w.heap.size).ce 0 rfl),(show _=some _ from (H3.k (w.heap.size+1)).ce 1 rfl)⟩ ?_
  iterate 4 (refine mh ?_;(try simp only [Act.put,List.setIfInBounds_toArray,List.set_cons_zero,List.set_cons_succ]))
  refine qQe ?_
  (try dsimp only)
  go_wp2_with fail
  go_ret
  exact ⟨rfl,H3.re⟩
theorem qVG (H:Hd w0 (CoL c x vj tk S m R) w) (hm:m.ar.Ok) (hu:m.un.Inv) (j:ActM) (o:OpM) (hE:m.un.cellE j.job o.res=0) {v:Int} (hv:m.un.cells[o.res.toNat]? = some v) {E:Int} (hp:m.ar.popE=E) (hn:¬E=0) :
    Calls Tryz.prog 169 #[.pointer (some ⟨c,0,none⟩),actV j,opV o] w fun e w'=>e=.returned (.int .i64 E)∧Hd w0 (CoL c x vj tk S { m with ar:=m.ar.pop } R) w':=by
  obtain ⟨r,hr⟩:∃r:Nat,o.res=r:=⟨o.res.toNat,by have:=qJ3 hE;omega⟩
  obtain ⟨l,t,a,u,ce⟩:=x
  have H2:Hd w0 _ ((w.alloc (.cells #[.int .i64 j.job,.int .i64 j.task,.int .i64 j.level,.int .i64 j.at_] 213)).alloc (.cells #[.int .i64 o.kind,.int .i64 o.res,.int .i64 o.n,.int .i64 o.v] 83)):=H.fol
  have HA:=H2.drew
  have hc:=zQz (r:=r) (n:=v) (HA.k u) hu.ok hu.ok2 (job:=j.job) (by rw [← hr];exact hE) (by rw [hr] at hv;simpa using hv)
  rw [← hr] at hc
  replace hr:=Lib.hid hr
  have hf:=H2.facts
  simp only [Nat.reduceAdd] at hf
  go_split_ands
  clear H
  go_enter Tryz.func169,Tryz.ntmps169
  go_wp2_with fail
  refine wm 16 [(0,true),(1,true),(2,true),(3,true),(4,true),(5,true),(6,true),(7,true),(8,true),(9,true),(10,true),(11,false),(12,true),(13,true),(14,true),(15,true)] (fun w'=>w'.cell? ⟨c,0,none⟩=some (.pointer (some ⟨l,0,none⟩))∧w'.cell? ⟨l,2,none⟩=some (.pointer (some ⟨u,0,none⟩))∧w'.cell? ⟨w.heap.size,0,none⟩=some (.int .i64 j.job)∧w'.cell? ⟨w.heap.size+1,1,none⟩=some (.int .i64 o.res)) (⟨(show _=some _ from (HA.k c).ce 0 rfl),(show _=some _ from (HA.k l).ce 2 rfl),(show _=some _ from (HA.k w.heap.size).ce 0 rfl),(show _=some _ from (HA.k (w.heap.size+1)).ce 1 rfl)⟩) ?_
  simp only [List.drop_succ_cons,List.drop_zero]
  iterate 11 (refine mh ?_;(try simp only [Act.put,List.setIfInBounds_toArray,List.set_cons_zero,List.set_cons_succ]))
  refine mm ?_
  go_wp2_with fail
  refine hc.mono ?_
  rintro e w1 ⟨rfl,H3⟩
  clear hc
  go_wp2_with fail
  refine qQd ⟨(show _=some _ from (H3.k c).ce 0 rfl),(show _=some _ from (H3.k l).ce 2 rfl),(show _=some _ from (H3.k w.heap.size).ce 0 rfl),(show _=some _ from (H3.k (w.heap.size+1)).ce 1 rfl)⟩ ?_
  iterate 4 (refine mh ?_;(try simp only [Act.put,List.setIfInBounds_toArray,List.set_cons_zero,List.set_cons_succ]))
  refine qQe ?_
  (try dsimp only)
  have hg:=H3.facts
  simp only [Nat.reduceAdd] at hg
  go_split_ands
  have hc:=zQk (H3.k a) hm
  rw [hp] at hc
  go_wp2_with fail
  refine hc.mono ?_
  rintro e w2 ⟨rfl,H4⟩
  clear hc
  go_wp2_with fail
  go_ret
  exact ⟨rfl,H4.re⟩
theorem zJW (H:Hd w0 (CoL c x vj tk S m R) w) (hm:m.ar.Ok) (hu:m.un.Inv) (j:ActM) (o:OpM) (hE:m.un.cellE j.job o.res=0) {v:Int} (hv:m.un.cells[o.res.toNat]? = some v) (hp:m.ar.popE=0) :
    Calls Tryz.prog 169 #[.pointer (some ⟨c,0,none⟩),actV j,opV o] w fun e w'=>e=.returned (.int .i64 0)∧Hd w0 (CoL c x vj tk S { m with ar:=m.ar.pop,un:=m.un.stored o.res.toNat m.ar.popV } R) w':=by
  obtain ⟨r,hr⟩:∃r:Nat,o.res=r:=⟨o.res.toNat,by have:=qJ3 hE;omega⟩
  obtain ⟨l,t,a,u,ce⟩:=x
  have H2:Hd w0 _ ((w.alloc (.cells #[.int .i64 j.job,.int .i64 j.task,.int .i64 j.level,.int .i64 j.at_] 213)).alloc (.cells #[.int .i64 o.kind,.int .i64 o.res,.int .i64 o.n,.int .i64 o.v] 83)):=H.fol
  have HA:=H2.drew
  have hc:=zQz (r:=r) (n:=v) (HA.k u) hu.ok hu.ok2 (job:=j.job) (by rw [← hr];exact hE) (by rw [hr] at hv;simpa using hv)
  rw [← hr] at hc
  replace hr:=Lib.hid hr
  have hf:=H2.facts
  simp only [Nat.reduceAdd] at hf
  go_split_ands
  clear H
  go_enter Tryz.func169,Tryz.ntmps169
  go_wp2_with fail
  refine wm 16 [(0,true),(1,true),(2,true),(3,true),(4,true),(5,true),(6,true),(7,true),(8,true),(9,true),(10,true),(11,false),(12,true),(13,true),(14,true),(15,true)] (fun w'=>w'.cell? ⟨c,0,none⟩=some (.pointer (some ⟨l,0,none⟩))∧w'.cell? ⟨l,2,none⟩=some (.pointer (some ⟨u,0,none⟩))∧w'.cell? ⟨w.heap.size,0,none⟩=some (.int .i64 j.job)∧w'.cell? ⟨w.heap.size+1,1,none⟩=some (.int .i64 o.res)) (⟨(show _=some _ from (HA.k c).ce 0 rfl),(show _=some _ from (HA.k l).ce 2 rfl),(show _=some _ from (HA.k w.heap.size).ce 0 rfl),(show _=some _ from (HA.k (w.heap.size+1)).ce 1 rfl)⟩) ?_
  simp only [List.drop_succ_cons,List.drop_zero]
  iterate 11 (refine mh ?_;(try simp only [Act.put,List.setIfInBounds_toArray,List.set_cons_zero,List.set_cons_succ]))
  refine mm ?_
  go_wp2_with fail
  refine hc.mono ?_
  rintro e w1 ⟨rfl,H3⟩
  clear hc
  go_wp2_with fail
  refine qQd ⟨(show _=some _ from (H3.k c).ce 0 rfl),(show _=some _ from (H3.k l).ce 2 rfl),(show _=some _ from (H3.k w.heap.size).ce 0 rfl),(show _=some _ from (H3.k (w.heap.size+1)).ce 1 rfl)⟩ ?_
  iterate 4 (refine mh ?_;(try simp only [Act.put,List.setIfInBounds_toArray,List.set_cons_zero,List.set_cons_succ]))
  refine qQe ?_
  (try dsimp only)
  have hg:=H3.facts
  simp only [Nat.reduceAdd] at hg
  go_split_ands
  have hc:=zQk (H3.k a) hm
  rw [hp] at hc
  go_wp2_with fail
  refine hc.mono ?_
  rintro e w2 ⟨rfl,H4⟩
  clear hc
  have H5:=H4.drew
  have hc:=zJh (r:=r) (n:=v) (v:=m.ar.popV) (H5.k u) hu.ok hu.ok2 (job:=j.job) (by rw [← hr.out];exact hE) (by rw [hr.out] at hv;simpa using hv)
  rw [← hr.out] at hc
  have hg2:=H4.facts
  simp only [Nat.reduceAdd] at hg2
  go_split_ands
  go_wp2_with fail
  refine wp_region_still_tail 12 (by kernel_rfl) (by kernel_rfl) ?_
  simp only [List.take_succ_cons,List.take_zero,List.drop_succ_cons,List.drop_zero,World.drew_eq]
  (repeat still_step)
  refine wpStill_nil ?_
  go_wp2_with fail
  refine hc.mono ?_
  rintro e w3 ⟨rfl,H6⟩
  clear hc
  go_wp2_with fail
  go_ret
  rw [show o.res.toNat=r by rw [hr.out];rfl]
  exact ⟨rfl,H6.re⟩
theorem zJI (H:Hd w0 (CoL c x vj tk S m R) w) (hm:m.ar.Ok) (j:ActM) (o:OpM) {k:Nat} {f:FrM} (hk:m.ar.fr.length=k+1) (hf0:m.ar.fr[k]? = some f) (hlt:f.laid.length<2) :
    Calls Tryz.prog 170 #[.pointer (some ⟨c,0,none⟩),actV j,opV o] w fun e w'=>e=.returned (.int .i64 10)∧Hd w0 (CoL c x vj tk S m R) w':=by
  obtain ⟨l,t,a,u,ce⟩:=x
  have H2:Hd w0 _ ((w.alloc (.cells #[.int .i64 j.job,.int .i64 j.task,.int .i64 j.level,.int .i64 j.at_] 213)).alloc (.cells #[.int .i64 o.kind,.int .i64 o.res,.int .i64 o.n,.int .i64 o.v] 83)):=H.fol
  have HA:=H2.drew
  have hd:=zQa (HA.k a)
  rw [hk] at hd
  have hfr:=qUs (HA.k a) hm k f hf0
  have q1:(((k+1:Nat):Int))-1=k:=by omega
  have q2:IntKind.i64.wrap ((((k+1:Nat):Int))-1)=k:=by rw [q1];exact IntWalk.i64_in _ (by have:=hm.few;omega)
  obtain ⟨K,hK⟩:∃K:Nat,k+1=K:=⟨_,rfl⟩
  rw [hK] at hd q2
  clear q1 hK
  have hf:=H2.facts
  simp only [Nat.reduceAdd] at hf
  go_split_ands
  clear H
  obtain ⟨F,hF⟩:∃F,f.laid.length=F:=⟨_,rfl⟩
  rw [hF] at hfr hlt
  have q3:(F:Int)<2:=by omega
  clear hF hlt hf0 hk
  go_enter Tryz.func170,Tryz.ntmps170
  go_wp2_with fail
  refine wm 21 [(0,true),(1,true),(2,true),(3,true),(4,true),(5,true),(6,true),(7,true),(8,true),(9,true),(10,true),(11,true),(12,true),(13,true),(14,false),(15,true),(16,false),(17,true),(18,true),(19,true),(20,true)] (fun w'=>w'.cell? ⟨c,0,none⟩=some (.pointer (some ⟨l,0,none⟩))∧w'.cell? ⟨l,1,none⟩=some (.pointer (some ⟨a,0,none⟩))) (⟨(show _=some _ from (HA.k c).ce 0 rfl),(show _=some _ from (HA.k l).ce 1 rfl)⟩) ?_
  simp only [List.drop_succ_cons,List.drop_zero]
  iterate 14 (refine mh ?_;(try simp only [Act.put,List.setIfInBounds_toArray,List.set_cons_zero,List.set_cons_succ]))
  refine mm ?_
  go_wp2_with fail
  refine hd.mono ?_
  rintro e w1 ⟨rfl,rfl⟩
  clear hd
  go_wp2_with fail
  refine qQd ⟨(show _=some _ from (HA.k c).ce 0 rfl),(show _=some _ from (HA.k l).ce 1 rfl)⟩ ?_
  iterate 1 (refine mh ?_;(try simp only [Act.put,List.setIfInBounds_toArray,List.set_cons_zero,List.set_cons_succ]))
  refine mm ?_
  go_wp2_with fail
  refine hfr.mono ?_
  rintro e w1 ⟨g,rfl,H3⟩
  clear hfr
  go_wp2_with fail
  refine qQd ⟨(show _=some _ from (H3.k c).ce 0 rfl),(show _=some _ from (H3.k l).ce 1 rfl)⟩ ?_
  iterate 4 (refine mh ?_;(try simp only [Act.put,List.setIfInBounds_toArray,List.set_cons_zero,List.set_cons_succ]))
  refine qQe ?_
  (try dsimp only)
  go_wp2_with fail
  go_ret
  exact ⟨rfl,H3.re⟩
end
end
section
open Go.RowKit Spl
section
variable {w0 w:World} {R:List Pr} {c:Nat} {x:CoV} {vj:Value} {tk:TkM} {S:Hp} {m:CoM}
theorem zKs (H:Hd w0 (CoL c x vj tk S m R) w) (hm:m.ar.Ok) (j:ActM) (o:OpM) {k:Nat} {f:FrM} (hk:m.ar.fr.length=k+1) (hf0:m.ar.fr[k]? = some f) (hlt:¬f.laid.length<2) :
    Calls Tryz.prog 170 #[.pointer (some ⟨c,0,none⟩),actV j,opV o] w fun e w'=>e=.returned (.int .i64 m.ar.pop.pop.pushE)∧Hd w0 (CoL c x vj tk S { m with ar:=m.ar.pop.pop.push (wrap64 (m.ar.pop.popV+m.ar.popV)) } R) w':=by
  obtain ⟨l,t,a,u,ce⟩:=x
  have H2:Hd w0 _ ((w.alloc (.cells #[.int .i64 j.job,.int .i64 j.task,.int .i64 j.level,.int .i64 j.at_] 213)).alloc (.cells #[.int .i64 o.kind,.int .i64 o.res,.int .i64 o.n,.int .i64 o.v] 83)):=H.fol
  have HA:=H2.drew
  have hd:=zQa (HA.k a)
  rw [hk] at hd
  have hfr:=qUs (HA.k a) hm k f hf0
  have q1:(((k+1:Nat):Int))-1=k:=by omega
  have q2:IntKind.i64.wrap ((((k+1:Nat):Int))-1)=k:=by rw [q1];exact IntWalk.i64_in _ (by have:=hm.few;omega)
  obtain ⟨K,hK⟩:∃K:Nat,k+1=K:=⟨_,rfl⟩
  rw [hK] at hd q2
  clear q1 hK
  have hf:=H2.facts
  simp only [Nat.reduceAdd] at hf
  go_split_ands
  clear H
  obtain ⟨F,hF⟩:∃F,f.laid.length=F:=⟨_,rfl⟩
  rw [hF] at hfr hlt
  have q3:¬(F:Int)<2:=by omega
  clear hF hlt hf0 hk
  have hm1:=ArM.Ok.pop hm
  have hm2:=ArM.Ok.pop hm1
  obtain ⟨P1,hP1⟩:∃P1,m.ar.pop=P1:=⟨_,rfl⟩
  obtain ⟨V1,hV1⟩:∃V1,m.ar.popV=V1:=⟨_,rfl⟩
  rw [hP1] at hm1 hm2 ⊢
  rw [hV1]
  obtain ⟨P2,hP2⟩:∃P2,P1.pop=P2:=⟨_,rfl⟩
  obtain ⟨V2,hV2⟩:∃V2,P1.popV=V2:=⟨_,rfl⟩
  rw [hP2] at hm2 ⊢
  rw [hV2]
  obtain ⟨E3,hE3⟩:∃E3,P2.pushE=E3:=⟨_,rfl⟩
  rw [hE3]
  replace hP1:=Lib.hid hP1
  replace hP2:=Lib.hid hP2
  replace hV1:=Lib.hid hV1
  replace hV2:=Lib.hid hV2
  replace hE3:=Lib.hid hE3
  go_enter Tryz.func170,Tryz.ntmps170
  go_wp2_with fail
  refine wm 21 [(0,true),(1,true),(2,true),(3,true),(4,true),(5,true),(6,true),(7,true),(8,true),(9,true),(10,true),(11,true),(12,true),(13,true),(14,false),(15,true),(16,false),(17,true),(18,true),(19,true),(20,true)] (fun w'=>w'.cell? ⟨c,0,none⟩=some (.pointer (some ⟨l,0,none⟩))∧w'.cell? ⟨l,1,none⟩=some (.pointer (some ⟨a,0,none⟩))) (⟨(show _=some _ from (HA.k c).ce 0 rfl),(show _=some _ from (HA.k l).ce 1 rfl)⟩) ?_
  simp only [List.drop_succ_cons,List.drop_zero]
  iterate 14 (refine mh ?_;(try simp only [Act.put,List.setIfInBounds_toArray,List.set_cons_zero,List.set_cons_succ]))
  refine mm ?_
  go_wp2_with fail
  refine hd.mono ?_
  rintro e w1 ⟨rfl,rfl⟩
  clear hd
  go_wp2_with fail
  refine qQd ⟨(show _=some _ from (HA.k c).ce 0 rfl),(show _=some _ from (HA.k l).ce 1 rfl)⟩ ?_
  iterate 1 (refine mh ?_;(try simp only [Act.put,List.setIfInBounds_toArray,List.set_cons_zero,List.set_cons_succ]))
  refine mm ?_
  go_wp2_with fail
  refine hfr.mono ?_
  rintro e w1 ⟨g,rfl,H3⟩
  clear hfr
  go_wp2_with fail
  refine qQd ⟨(show _=some _ from (H3.k c).ce 0 rfl),(show _=some _ from (H3.k l).ce 1 rfl)⟩ ?_
  iterate 4 (refine mh ?_;(try simp only [Act.put,List.setIfInBounds_toArray,List.set_cons_zero,List.set_cons_succ]))
  refine qQe ?_
  (try dsimp only)
  have hg:=H3.facts
  simp only [Nat.reduceAdd] at hg
  go_split_ands
  have hc:=zQk (H3.k a) hm
  rw [hP1.out,hV1.out] at hc
  go_wp2_with fail
  refine hc.mono ?_
  rintro e w2 ⟨rfl,H4⟩
  clear hc
  have hc:=zQk (H4.k a) hm1
  rw [hP2.out,hV2.out] at hc
  have hg2:=H4.facts
  simp only [Nat.reduceAdd] at hg2
  go_split_ands
  go_wp2_with fail
  refine hc.mono ?_
  rintro e w3 ⟨rfl,H5⟩
  clear hc
  have hc:=zQN (H5.k a) hm2 (wrap64 (V2+V1))
  rw [hE3.out] at hc
  have hg3:=H5.facts
  simp only [Nat.reduceAdd] at hg3
  go_split_ands
  go_wp2_with fail
  refine hc.mono ?_
  rintro e w4 ⟨rfl,H6⟩
  clear hc
  go_wp2_with fail
  go_ret
  exact ⟨rfl,H6.re⟩
end
end
section
open Go.RowKit Spl
theorem qXU {m:UnM} {job res n need:Int} (h:m.lockE job res n need=0):0≤res∧res<m.units.length∧0≤job∧1≤n:=by
  unfold UnM.lockE at h
  split at h
  · cases h
  · omega
theorem qKx (m:UnM) (job:Int) (r:Nat) (n:Int):(m.locked job r n).units=m.units:=by
  unfold UnM.locked
  split <;> rfl
section
variable {w0 w:World} {R:List Pr} {c:Nat} {x:CoV} {vj:Value} {tk:TkM} {S:Hp} {m:CoM}
theorem zZV (H:Hd w0 (CoL c x vj tk S m R) w) (ht:tk.Ok) (hu:m.un.Inv) {job lv at_:Int} {i:Nat} {r:RowM} (hr:tk.rows[i]? = some r) (o:OpM) (hn:-100000≤o.n∧o.n≤100000) {E:Int} (hE:m.un.lockE job o.res o.n (qZi r.t.needs o.res)=E) (h0:¬E=0) :
    Calls Tryz.prog 163 #[.pointer (some ⟨c,0,none⟩),actV ⟨job,(i:Int),lv,at_⟩,opV o] w fun e w'=>e=.returned (.int .i64 E)∧Hd w0 (CoL c x vj tk S m R) w':=by
  obtain ⟨l,t,a,u,ce⟩:=x
  have H2:Hd w0 _ ((w.alloc (.cells #[.int .i64 job,.int .i64 i,.int .i64 lv,.int .i64 at_] 213)).alloc (.cells #[.int .i64 o.kind,.int .i64 o.res,.int .i64 o.n,.int .i64 o.v] 83)):=H.fol
  have HA:=H2.drew
  have hkn:=Lib.hid hn
  clear hn
  have hn:=zQY (show Hd w0 (TkP t tk S::ro S::cel c 194 (qQj c l)::cel l 108 (qQt ⟨l,t,a,u,ce⟩ vj)::ArP a m.ar::UnP u m.un::CeP ce m.ce::cel w.heap.size 213 #[.int .i64 job,.int .i64 i,.int .i64 lv,.int .i64 at_]::cel (w.heap.size+1) 83 #[.int .i64 o.kind,.int .i64 o.res,.int .i64 o.n,.int .i64 o.v]::R) _ from HA.re) ht hr o.res
  obtain ⟨N,hN⟩:∃N,qZi r.t.needs o.res=N:=⟨_,rfl⟩
  rw [hN] at hE hn
  replace hN:=Lib.hid hN
  have hf:=H2.facts
  simp only [Nat.reduceAdd] at hf
  go_split_ands
  clear H
  go_enter Tryz.func163,Tryz.ntmps163
  go_wp2_with fail
  refine wm 25 [(0,true),(1,true),(2,true),(3,true),(4,true),(5,true),(6,true),(7,true),(8,true),(9,true),(10,true),(11,true),(12,true),(13,true),(14,true),(15,true),(16,true),(17,true),(18,true),(19,true),(20,true),(21,true),(22,true),(23,true),(24,false)] (fun w'=>w'.cell? ⟨c,0,none⟩=some (.pointer (some ⟨l,0,none⟩))∧w'.cell? ⟨l,0,none⟩=some (.pointer (some ⟨t,0,none⟩))∧w'.cell? ⟨l,2,none⟩=some (.pointer (some ⟨u,0,none⟩))∧w'.cell? ⟨l,3,none⟩=some (.pointer (some ⟨ce,0,none⟩))∧w'.cell? ⟨w.heap.size,0,none⟩=some (.int .i64 job)∧w'.cell? ⟨w.heap.size,1,none⟩=some (.int .i64 i)∧w'.cell? ⟨w.heap.size+1,1,none⟩=some (.int .i64 o.res)∧w'.cell? ⟨w.heap.size+1,2,none⟩=some (.int .i64 o.n)) (⟨(show _=some _ from (HA.k (c)).ce 0 rfl),(show _=some _ from (HA.k (l)).ce 0 rfl),(show _=some _ from (HA.k (l)).ce 2 rfl),(show _=some _ from (HA.k (l)).ce 3 rfl),(show _=some _ from (HA.k (w.heap.size)).ce 0 rfl),(show _=some _ from (HA.k (w.heap.size)).ce 1 rfl),(show _=some _ from (HA.k (w.heap.size+1)).ce 1 rfl),(show _=some _ from (HA.k (w.heap.size+1)).ce 2 rfl)⟩) ?_
  simp only [List.drop_succ_cons,List.drop_zero]
  iterate 24 (refine mh ?_;(try simp only [Act.put,List.setIfInBounds_toArray,List.set_cons_zero,List.set_cons_succ]))
  refine mm ?_
  go_wp2_with fail
  refine hn.mono ?_
  rintro e w1 ⟨rfl,H3⟩
  clear hn
  go_wp2_with fail
  refine qQd ⟨(show _=some _ from (H3.k (c)).ce 0 rfl),(show _=some _ from (H3.k (l)).ce 0 rfl),(show _=some _ from (H3.k (l)).ce 2 rfl),(show _=some _ from (H3.k (l)).ce 3 rfl),(show _=some _ from (H3.k (w.heap.size)).ce 0 rfl),(show _=some _ from (H3.k (w.heap.size)).ce 1 rfl),(show _=some _ from (H3.k (w.heap.size+1)).ce 1 rfl),(show _=some _ from (H3.k (w.heap.size+1)).ce 2 rfl)⟩ ?_
  refine qQe ?_
  (try dsimp only)
  have hc:=zZA (H3.k u) hu.ok hu.ok2 hkn.out (by rw [hE];exact h0)
  rw [hE] at hc
  have hg:=H3.facts
  simp only [Nat.reduceAdd] at hg
  go_split_ands
  go_wp2_with fail
  refine hc.mono ?_
  rintro e w2 ⟨rfl,H4⟩
  clear hc
  go_wp2_with fail
  go_ret
  exact ⟨rfl,H4.re⟩
theorem zXV (H:Hd w0 (CoL c x vj tk S m R) w) (ht:tk.Ok) (hu:m.un.Inv) (hl:m.ce.length≤9000) {job lv at_:Int} {i:Nat} {r:RowM} (hr:tk.rows[i]? = some r) (o:OpM) (hn:-100000≤o.n∧o.n≤100000) (hE:m.un.lockE job o.res o.n (qZi r.t.needs o.res)=0) {f:Int} (hf:(m.un.locked job o.res.toNat o.n).free[o.res.toNat]? = some f) :
    Calls Tryz.prog 163 #[.pointer (some ⟨c,0,none⟩),actV ⟨job,(i:Int),lv,at_⟩,opV o] w fun e w'=>e=.returned (.int .i64 0)∧Hd w0 (CoL c x vj tk S { m with un:=m.un.locked job o.res.toNat o.n,ce:=m.ce++[max (qXz tk o.res f) (topI m.ce)] } R) w':=by
  obtain ⟨q,hq⟩:∃q:Nat,o.res=q:=⟨o.res.toNat,by have:=qXU hE;omega⟩
  have hqn:o.res.toNat=q:=by rw [hq];rfl
  have hql:q<m.un.units.length:=by have:=qXU hE;omega
  have hul:(m.un.locked job q o.n).units=m.un.units:=qKx _ _ _ _
  rw [hqn] at hf ⊢
  obtain ⟨l,t,a,u,ce⟩:=x
  have H2:Hd w0 _ ((w.alloc (.cells #[.int .i64 job,.int .i64 i,.int .i64 lv,.int .i64 at_] 213)).alloc (.cells #[.int .i64 o.kind,.int .i64 o.res,.int .i64 o.n,.int .i64 o.v] 83)):=H.fol
  have HA:=H2.drew
  have hkn:=Lib.hid hn
  clear hn
  have hn:=zQY (show Hd w0 (TkP t tk S::ro S::cel c 194 (qQj c l)::cel l 108 (qQt ⟨l,t,a,u,ce⟩ vj)::ArP a m.ar::UnP u m.un::CeP ce m.ce::cel w.heap.size 213 #[.int .i64 job,.int .i64 i,.int .i64 lv,.int .i64 at_]::cel (w.heap.size+1) 83 #[.int .i64 o.kind,.int .i64 o.res,.int .i64 o.n,.int .i64 o.v]::R) _ from HA.re) ht hr o.res
  obtain ⟨N,hN⟩:∃N,qZi r.t.needs o.res=N:=⟨_,rfl⟩
  rw [hN] at hE hn
  replace hN:=Lib.hid hN
  replace hq:=Lib.hid hq
  replace hqn:=Lib.hid hqn
  replace hE:=Lib.hid hE
  replace hul:=Lib.hid hul
  obtain ⟨UL,hUL⟩:∃UL,m.un.locked job q o.n=UL:=⟨_,rfl⟩
  rw [hUL] at hf
  rw [hUL]
  replace hUL:=Lib.hid hUL
  obtain ⟨C,hC⟩:∃C,qXz tk o.res f=C:=⟨_,rfl⟩
  rw [hC]
  replace hC:=Lib.hid hC
  obtain ⟨T,hT⟩:∃T,max C (topI m.ce)=T:=⟨_,rfl⟩
  rw [hT]
  replace hT:=Lib.hid hT
  have hf:=H2.facts
  simp only [Nat.reduceAdd] at hf
  go_split_ands
  clear H
  go_enter Tryz.func163,Tryz.ntmps163
  go_wp2_with fail
  refine wm 25 [(0,true),(1,true),(2,true),(3,true),(4,true),(5,true),(6,true),(7,true),(8,true),(9,true),(10,true),(11,true),(12,true),(13,true),(14,true),(15,true),(16,true),(17,true),(18,true),(19,true),(20,true),(21,true),(22,true),(23,true),(24,false)] (fun w'=>w'.cell? ⟨c,0,none⟩=some (.pointer (some ⟨l,0,none⟩))∧w'.cell? ⟨l,0,none⟩=some (.pointer (some ⟨t,0,none⟩))∧w'.cell? ⟨l,2,none⟩=some (.pointer (some ⟨u,0,none⟩))∧w'.cell? ⟨l,3,none⟩=some (.pointer (some ⟨ce,0,none⟩))∧w'.cell? ⟨w.heap.size,0,none⟩=some (.int .i64 job)∧w'.cell? ⟨w.heap.size,1,none⟩=some (.int .i64 i)∧w'.cell? ⟨w.heap.size+1,1,none⟩=some (.int .i64 o.res)∧w'.cell? ⟨w.heap.size+1,2,none⟩=some (.int .i64 o.n)) (⟨(show _=some _ from (HA.k (c)).ce 0 rfl),(show _=some _ from (HA.k (l)).ce 0 rfl),(show _=some _ from (HA.k (l)).ce 2 rfl),(show _=some _ from (HA.k (l)).ce 3 rfl),(show _=some _ from (HA.k (w.heap.size)).ce 0 rfl),(show _=some _ from (HA.k (w.heap.size)).ce 1 rfl),(show _=some _ from (HA.k (w.heap.size+1)).ce 1 rfl),(show _=some _ from (HA.k (w.heap.size+1)).ce 2 rfl)⟩) ?_
  simp only [List.drop_succ_cons,List.drop_zero]
  iterate 24 (refine mh ?_;(try simp only [Act.put,List.setIfInBounds_toArray,List.set_cons_zero,List.set_cons_succ]))
  refine mm ?_
  go_wp2_with fail
  refine hn.mono ?_
  rintro e w1 ⟨rfl,H3⟩
  clear hn
  go_wp2_with fail
  refine qQd ⟨(show _=some _ from (H3.k (c)).ce 0 rfl),(show _=some _ from (H3.k (l)).ce 0 rfl),(show _=some _ from (H3.k (l)).ce 2 rfl),(show _=some _ from (H3.k (l)).ce 3 rfl),(show _=some _ from (H3.k (w.heap.size)).ce 0 rfl),(show _=some _ from (H3.k (w.heap.size)).ce 1 rfl),(show _=some _ from (H3.k (w.heap.size+1)).ce 1 rfl),(show _=some _ from (H3.k (w.heap.size+1)).ce 2 rfl)⟩ ?_
  refine qQe ?_
  (try dsimp only)
  have hc:=zXA (H3.k u) hu.ok hu.ok2 (job:=job) (n:=o.n) (need:=N) (r:=q) hkn.out (by rw [← hq.out];exact hE.out)
  rw [← hq.out,hUL.out] at hc
  have hg:=H3.facts
  simp only [Nat.reduceAdd] at hg
  go_split_ands
  go_wp2_with fail
  refine hc.mono ?_
  rintro e w2 ⟨rfl,H4⟩
  clear hc
  have H5:=H4.drew
  have hfree:=zXT (H5.k u) q (by rw [← hUL.out,hul.out];exact hql) hf
  rw [← hq.out] at hfree
  have hat:=ceAt (show Hd w0 (TkP t tk S::ro S::cel c 194 (qQj c l)::cel l 108 (qQt ⟨l,t,a,u,ce⟩ vj)::ArP a m.ar::UnP u UL::CeP ce m.ce::cel w.heap.size 213 #[.int .i64 job,.int .i64 i,.int .i64 lv,.int .i64 at_]::cel (w.heap.size+1) 83 #[.int .i64 o.kind,.int .i64 o.res,.int .i64 o.n,.int .i64 o.v]::R) _ from H5.re) ht o.res f
  rw [hC.out] at hat
  go_wp2_with fail
  refine wm 27 [(0,true),(1,true),(2,true),(3,true),(4,true),(5,true),(6,true),(7,true),(8,true),(9,true),(10,true),(11,true),(12,true),(13,true),(14,true),(15,true),(16,true),(17,true),(18,true),(19,true),(20,true),(21,true),(22,true),(23,true),(24,true),(25,false),(26,false)] (fun w'=>w'.cell? ⟨c,0,none⟩=some (.pointer (some ⟨l,0,none⟩))∧w'.cell? ⟨l,0,none⟩=some (.pointer (some ⟨t,0,none⟩))∧w'.cell? ⟨l,2,none⟩=some (.pointer (some ⟨u,0,none⟩))∧w'.cell? ⟨l,3,none⟩=some (.pointer (some ⟨ce,0,none⟩))∧w'.cell? ⟨w.heap.size,0,none⟩=some (.int .i64 job)∧w'.cell? ⟨w.heap.size,1,none⟩=some (.int .i64 i)∧w'.cell? ⟨w.heap.size+1,1,none⟩=some (.int .i64 o.res)∧w'.cell? ⟨w.heap.size+1,2,none⟩=some (.int .i64 o.n)) (⟨(show _=some _ from (H5.k (c)).ce 0 rfl),(show _=some _ from (H5.k (l)).ce 0 rfl),(show _=some _ from (H5.k (l)).ce 2 rfl),(show _=some _ from (H5.k (l)).ce 3 rfl),(show _=some _ from (H5.k (w.heap.size)).ce 0 rfl),(show _=some _ from (H5.k (w.heap.size)).ce 1 rfl),(show _=some _ from (H5.k (w.heap.size+1)).ce 1 rfl),(show _=some _ from (H5.k (w.heap.size+1)).ce 2 rfl)⟩) ?_
  simp only [List.drop_succ_cons,List.drop_zero]
  iterate 25 (refine mh ?_;(try simp only [Act.put,List.setIfInBounds_toArray,List.set_cons_zero,List.set_cons_succ]))
  refine mm ?_
  go_wp2_with fail
  refine hfree.mono ?_
  rintro e w3 ⟨rfl,rfl⟩
  clear hfree
  go_wp2_with fail
  refine qQd ⟨(show _=some _ from (H5.k (c)).ce 0 rfl),(show _=some _ from (H5.k (l)).ce 0 rfl),(show _=some _ from (H5.k (l)).ce 2 rfl),(show _=some _ from (H5.k (l)).ce 3 rfl),(show _=some _ from (H5.k (w.heap.size)).ce 0 rfl),(show _=some _ from (H5.k (w.heap.size)).ce 1 rfl),(show _=some _ from (H5.k (w.heap.size+1)).ce 1 rfl),(show _=some _ from (H5.k (w.heap.size+1)).ce 2 rfl)⟩ ?_
  refine mm ?_
  go_wp2_with fail
  refine hat.mono ?_
  rintro e w3 ⟨rfl,H6⟩
  clear hat
  go_wp2_with fail
  refine qQd ⟨(show _=some _ from (H6.k (c)).ce 0 rfl),(show _=some _ from (H6.k (l)).ce 0 rfl),(show _=some _ from (H6.k (l)).ce 2 rfl),(show _=some _ from (H6.k (l)).ce 3 rfl),(show _=some _ from (H6.k (w.heap.size)).ce 0 rfl),(show _=some _ from (H6.k (w.heap.size)).ce 1 rfl),(show _=some _ from (H6.k (w.heap.size+1)).ce 1 rfl),(show _=some _ from (H6.k (w.heap.size+1)).ce 2 rfl)⟩ ?_
  refine qQe ?_
  (try dsimp only)
  have hra:=zJy (H6.k ce) (by omega) C
  rw [hT.out] at hra
  have hg2:=H6.facts
  simp only [Nat.reduceAdd] at hg2
  go_split_ands
  go_wp2_with fail
  refine hra.mono ?_
  rintro e w4 ⟨rfl,H7⟩
  clear hra
  go_wp2_with fail
  go_ret
  exact ⟨rfl,H7.re⟩
end
end
section
open Go.RowKit Spl
section
variable {w0 w:World} {R:List Pr} {c:Nat} {x:CoV} {vj:Value} {tk:TkM} {S:Hp} {m:CoM}
theorem zZq {bs:List Nat} {b:Nat} (H:Hd w0 (CoL c x vj tk S m (SlE 211 vj (bs.map Ptr.mk++[⟨b⟩])::R)) w) (hm:m.ar.Ok) (hf:m.ar.fr ≠ []) (hu:m.un.Inv) (hl:m.ce.length≤10000) (hbs:bs.length≤1000) (j:ActM) (o:OpM) (hd:m.un.locksN j.job≤m.ce.length) :
    Calls Tryz.prog 171 #[.pointer (some ⟨c,0,none⟩),actV j,opV o] w fun e w'=>e=.returned (.int .i64 0) ∧
      ∃vj',Hd w0 (CoL c x vj' tk S { m with ar:=m.ar.close,un:=m.un.popN j.job (m.un.locksN j.job),ce:=m.ce.take (m.ce.length-m.un.locksN j.job) } (SlE 211 vj' (bs.map Ptr.mk)::R)) w':=by
  obtain ⟨l,t,a,u,ce⟩:=x
  have H2:Hd w0 _ ((w.alloc (.cells #[.int .i64 j.job,.int .i64 j.task,.int .i64 j.level,.int .i64 j.at_] 213)).alloc (.cells #[.int .i64 o.kind,.int .i64 o.res,.int .i64 o.n,.int .i64 o.v] 83)):=H.fol
  have HA:=H2.drew
  have hdr:=zX0 (HA.k u) hu.ok hu.ok2 hu.ok3 (job:=j.job)
  obtain ⟨n,hn⟩:∃n,m.un.locksN j.job=n:=⟨_,rfl⟩
  rw [hn] at hdr hd ⊢
  obtain ⟨UL,hUL⟩:∃UL,m.un.popN j.job n=UL:=⟨_,rfl⟩
  rw [hUL] at hdr
  rw [hUL]
  obtain ⟨L,hL⟩:∃L,m.ce.length=L:=⟨_,rfl⟩
  rw [hL] at hl hd
  rw [hL]
  have hcl:m.ar.closeE=0:=by unfold ArM.closeE;rw [if_neg hf]
  have hf2:=H2.facts
  simp only [Nat.reduceAdd] at hf2
  go_split_ands
  replace hn:=Lib.hid hn
  replace hUL:=Lib.hid hUL
  replace hL:=Lib.hid hL
  replace hcl:=Lib.hid hcl
  clear H hu
  go_enter Tryz.func171,Tryz.ntmps171
  go_wp2_with fail
  refine wm0 [(0,true),(1,true),(2,true),(3,true),(4,true),(5,true),(6,true),(7,true),(8,true),(10,true),(9,false)] (fun w'=>w'.cell? ⟨c,0,none⟩=some (.pointer (some ⟨l,0,none⟩))∧w'.cell? ⟨l,2,none⟩=some (.pointer (some ⟨u,0,none⟩))∧w'.cell? ⟨w.heap.size,0,none⟩=some (.int .i64 j.job)) (⟨(show _=some _ from (HA.k c).ce 0 rfl),(show _=some _ from (HA.k l).ce 2 rfl),(show _=some _ from (HA.k w.heap.size).ce 0 rfl)⟩) ?_
  iterate 10 (refine mh ?_;(try simp only [Act.put,List.setIfInBounds_toArray,List.set_cons_zero,List.set_cons_succ]))
  refine mm ?_
  go_wp2_with fail
  refine hdr.mono ?_
  rintro e w1 ⟨rfl,H3⟩
  clear hdr
  go_wp2_with fail
  refine qQd ⟨(show _=some _ from (H3.k c).ce 0 rfl),(show _=some _ from (H3.k l).ce 2 rfl),(show _=some _ from (H3.k w.heap.size).ce 0 rfl)⟩ ?_
  refine qQe ?_
  (try dsimp only)
  go_wp2_with fail
  go_loopw [17] (fun y wv=>∃k:Nat,k≤n∧y=.int .i64 k∧Hd w0 (CeP ce (m.ce.take (L-k))::cel c 194 (qQj c l)::cel l 108 (qQt ⟨l,t,a,u,ce⟩ vj)::TkP t tk S::ro S::ArP a m.ar::UnP u UL::SlE 211 vj (bs.map Ptr.mk++[⟨b⟩])::R) wv) (fun y _=>n-(intOf y).toNat)
  case atStart=>exact ⟨0,Nat.zero_le _,rfl,by rw [Nat.sub_zero,← hL.out,List.take_length];exact H3.re⟩
  case round =>
    clear H2 HA H3
    obtain ⟨k,hk,rfl,H4⟩:=hrel
    have hg:=H4.facts
    simp only [Nat.reduceAdd] at hg
    go_split_ands
    by_cases hlt:k<n
    · have n1:(k:Int)<n:=by omega
      have g6:IntKind.i64.wrap ((k:Int)+1)=(k:Int)+1:=IntWalk.i64_in _ (by omega)
      have hlo:=zQF H4 (by rw [List.length_take];omega) (by intro h;have:=congrArg List.length h;simp [hL.out] at this;omega)
      have hdl:=Lib.hid (show (m.ce.take (L-k)).dropLast=m.ce.take (L-(k+1)) by
        rw [List.dropLast_eq_take,List.take_take,List.length_take,hL.out]
        congr 1
        omega)
      rw [hdl.out] at hlo
      go_wp2_with fail
      refine hlo.mono ?_
      rintro e w2 ⟨rfl,H5⟩
      clear hlo
      go_wp2_with fail
      go_roundw
      case rel=>exact ⟨k+1,by omega,by simp,H5.re⟩
      case measure=>simp [intOf];omega
    · obtain rfl:k=n:=by omega
      have hpop:=qYB (o:=4) ((H4.v vj).k l) rfl (by rw [List.length_map];omega)
      go_wp2_with fail
      refine hpop.mono ?_
      rintro e w2 ⟨rfl,vj',H5⟩
      clear hpop
      have H6:Hd w0 (cel l 108 (qQt ⟨l,t,a,u,ce⟩ vj')::SlE 211 vj' (bs.map Ptr.mk)::CeP ce (m.ce.take (L-k))::cel c 194 (qQj c l)::TkP t tk S::ro S::ArP a m.ar::UnP u UL::R) w2:=H5
      have hg2:=H6.facts
      simp only [Nat.reduceAdd] at hg2
      go_split_ands
      have hclo:=zJC (H6.k a) hm
      rw [hcl.out] at hclo
      go_wp2_with fail
      refine hclo.mono ?_
      rintro e w3 ⟨rfl,H7⟩
      clear hclo
      go_wp2_with fail
      go_ret
      exact ⟨rfl,vj',H7.re⟩
end
end
section
open Go.RowKit Spl
abbrev qVd (c:Nat):Array Value:=#[.nilFunc,.func (.func 163) #[.pointer (some ⟨c,0,none⟩)] #[],.func (.func 164) #[.pointer (some ⟨c,0,none⟩)] #[],
  .func (.func 165) #[.pointer (some ⟨c,0,none⟩)] #[],.func (.func 166) #[.pointer (some ⟨c,0,none⟩)] #[],.func (.func 167) #[.pointer (some ⟨c,0,none⟩)] #[],
  .func (.func 168) #[.pointer (some ⟨c,0,none⟩)] #[],.func (.func 169) #[.pointer (some ⟨c,0,none⟩)] #[],.func (.func 170) #[.pointer (some ⟨c,0,none⟩)] #[],
  .func (.func 171) #[.pointer (some ⟨c,0,none⟩)] #[],.nilFunc,.nilFunc]
theorem qYS (c:Nat):(qVd c).all (·.oneCell')=true:=all_oneCell_toArray fun v hv=>by
  simp only [List.mem_cons,List.not_mem_nil,or_false] at hv
  rcases hv with rfl | rfl | rfl | rfl | rfl | rfl | rfl | rfl | rfl | rfl | rfl | rfl <;> rfl
section
variable {w0 w:World} {R:List Pr} {c:Nat} {x:CoV} {vj:Value} {tk:TkM} {S:Hp} {m:CoM}
theorem qZN {P:Program} {ops:Array Oper} {rest:List Oper} {o:Oper} {a:Act} {Q:Exit→Act→World→Prop} {T g off:Nat} {pre old post:List Value} {cells:Array Value} (H:Hd w0 (cel g T (pre++(old++post)).toArray::R) w) (hpre:pre.length=off) (hold:old.length=cells.size)
    (hgd:o.guard=none) (ty:TypeId) (y z:Operand) (ho:o.op=.store ty y z) (hy:a.eval y=.pointer (some ⟨g,off,none⟩)) (hz:a.eval z=.agg cells)
    (hi:(P.info? ty).map (·.size)=some cells.size) (h1:cells.all (·.oneCell')=true)
    (h:∀w',Hd w0 (cel g T (pre++(cells.toList++post)).toArray::R) w'→wpList P ops Q rest (a.put o.dst undef) w'):wpList P ops Q (o::rest) a w:=by
  refine wpList_store_mid hgd ty y z ho g off cells hy hz ?_ hi h1 (h _ (Hd.setCells H hpre (by rw [hold];simp)))
  intro j hj
  refine ⟨?_,H.fr _⟩
  rw [H.rd,List.getElem?_toArray,List.getElem?_append_right (by omega),List.getElem?_append_left (by omega),List.getElem?_eq_getElem (by omega)]
  rfl
theorem qVi (H:Hd w0 R w) (c:Nat):Calls Tryz.prog 149 #[.pointer (some ⟨c,0,none⟩)] w fun e w'=>e=.returned (.agg (qVd c))∧Hd w0 R w':=by
  have H2:Hd w0 _ (w.alloc (.cells #[.nilFunc,.nilFunc,.nilFunc,.nilFunc,.nilFunc,.nilFunc,.nilFunc,.nilFunc,.nilFunc,.nilFunc,.nilFunc,.nilFunc] 192)):=H.fol
  go_enter Tryz.func149,Tryz.ntmps149
  go_wp2_with (first | ((refine qQk (cells:=qVd c) (H2.k w.heap.size) rfl 192 _ _ rfl rfl rfl (by kernel_rfl) rfl (qYS _) ?_);intro w4 H9))
  (try simp only [Exit.inBlock,Exit.then])
  refine bodyPost_ret (qQC rfl _ _ w.heap.size 192 (qVd c) (0,0) _ (by rfl) (by exact ((Hd.fol H9:Hd w0 _ _).k w.heap.size).heap) Tryz.underlying192 rfl (by kernel_rfl)) rfl ⟨rfl,?_⟩
  exact Hd.fin H9
theorem zX2 (H:Hd w0 R w) (l:Nat):Calls Tryz.prog 121 #[.pointer (some ⟨l,0,none⟩)] w fun e w'=>∃c,e=.returned (.pointer (some ⟨c,0,none⟩))∧Hd w0 (cel c 194 (qQj c l)::R) w':=by
  have H2:Hd w0 _ (w.alloc (.cells #[.pointer (some ⟨l,0,none⟩),.nilFunc,.nilFunc,.nilFunc,.nilFunc,.nilFunc,.nilFunc,.nilFunc,.nilFunc,.nilFunc,.nilFunc,.nilFunc,.nilFunc] 194)):=H.fol
  have ho:=qVi H2 w.heap.size
  go_enter Tryz.func121,Tryz.ntmps121
  go_wp2_with fail
  refine ho.mono ?_
  rintro e w1 ⟨rfl,H3⟩
  clear ho
  go_wp2_with (first | ((refine qZN (pre:=[.pointer (some ⟨l,0,none⟩)]) (old:=[.nilFunc,.nilFunc,.nilFunc,.nilFunc,.nilFunc,.nilFunc,.nilFunc,.nilFunc,.nilFunc,.nilFunc,.nilFunc,.nilFunc]) (post:=[]) (cells:=qVd w.heap.size) H3 rfl rfl rfl 192 _ _ rfl rfl rfl (by kernel_rfl) (qYS _) ?_);intro w4 H9))
  go_ret
  exact ⟨_,rfl,H9⟩
end
end
section
open Go.RowKit Spl
def CoM.new (tk:TkM):CoM:=⟨ArM.new tk.words.toNat,⟨tk.units,tk.units,List.replicate tk.units.length 0,[]⟩,[],[]⟩
section
variable {w0 w:World} {R:List Pr} {tk:TkM} {S:Hp}
theorem zKt {t:Nat} (H:Hd w0 (TkP t tk S::ro S::R) w) (ht:tk.Ok) :
    Calls Tryz.prog 93 #[.pointer (some ⟨t,0,none⟩)] w fun e w'=>∃(c:Nat) (x:CoV),x.t=t∧e=.returned (.tuple #[.pointer (some ⟨c,0,none⟩),.int .i64 0]) ∧
      Hd w0 (cel c 194 (qQj c x.l)::LkP x S (CoM.new tk)::TkP t tk S::ro S::R) w':=by
  have hw:=qUy H
  obtain ⟨n,hn⟩:∃n:Nat,tk.words=n:=⟨tk.words.toNat,by have:=ht.w;omega⟩
  rw [hn] at hw
  have hn2:n≤65536:=by have:=ht.w;omega
  have hnu:qYF tk.units=0:=by
    unfold qYF
    rw [if_neg (by have:=ht.u;omega),if_pos (by simpa using ht.uv)]
  have hnew:CoM.new tk=⟨ArM.new n,⟨tk.units,tk.units,List.replicate tk.units.length 0,[]⟩,[],[]⟩:=by
    unfold CoM.new
    rw [hn,Int.toNat_natCast]
  rw [hnew]
  have ha:=zKE H n hn2
  obtain ⟨U,hU⟩:∃U,tk.units=U:=⟨_,rfl⟩
  obtain ⟨N,hN⟩:∃N,U.length=N:=⟨_,rfl⟩
  rw [hU] at hnu ⊢
  replace hU:=Lib.hid hU
  replace hN:=Lib.hid hN
  clear H hn hnew
  go_enter Tryz.func93,Tryz.ntmps93
  go_wp2_with fail
  refine hw.mono ?_
  rintro e w1 ⟨rfl,rfl⟩
  clear hw
  go_wp2_with fail
  refine ha.mono ?_
  rintro e w1 ⟨a,rfl,H1⟩
  clear ha
  have hu:=qYe H1.b2 ht
  rw [hU.out,hN.out] at hu
  go_wp2_with fail
  refine hu.mono ?_
  rintro e w2 ⟨g,rfl,H2⟩
  clear hu
  have h3:Hd w0 (SlEC 3 g N U::ArP a (ArM.new n)::TkP t tk S::ro S::R) w2:=H2.re
  have H3:Hd w0 (SlE 3 (.slice (some ⟨g,0,none⟩) N N) U::ArP a (ArM.new n)::TkP t tk S::ro S::R) w2:=by
    have h:=h3.slc_mk
    rw [hN.out] at h
    unfold SlE
    rw [hN.out]
    exact h
  have hs:=Srd.slE H3
  have hnw:=zKm H3 hs hnu
  go_wp2_with fail
  refine hnw.mono ?_
  rintro e w3 ⟨u,rfl,H4⟩
  clear hnw hs
  have H5:Hd w0 _ ((w3.alloc (.cells #[.slice none 0 0] 164)).alloc (.cells #[.pointer (some ⟨t,0,none⟩),.pointer (some ⟨a,0,none⟩),.pointer (some ⟨u,0,none⟩),.pointer (some ⟨w3.heap.size,0,none⟩),.slice none 0 0] 108)):=H4.fol
  have hov:=zX2 H5 (w3.heap.size+1)
  go_wp2_with fail
  refine hov.mono ?_
  rintro e w4 ⟨c,rfl,H6⟩
  clear hov
  go_wp2_with fail
  go_ret2
  refine ⟨c,⟨w3.heap.size+1,t,a,u,w3.heap.size⟩,rfl,rfl,?_⟩
  have H7:Hd w0 (SlE 3 (.slice none 0 0) ([]:List Int)::_) w4:=H6.slc_nil 3 1
  have H8:Hd w0 (cel w3.heap.size 164 #[.slice none 0 0]::SlE 3 (.slice none 0 0) ([]:List Int)::cel c 194 (qQj c (w3.heap.size+1))::cel (w3.heap.size+1) 108 (qQt ⟨w3.heap.size+1,t,a,u,w3.heap.size⟩ (.slice none 0 0))::UnP u ⟨U,U,List.replicate U.length 0,[]⟩::ArP a (ArM.new n)::TkP t tk S::ro S::R) w4:=H7.re
  have H9:=CeP.shut H8
  have H10:Hd w0 (SlE 211 (.slice none 0 0) ([]:List Ptr)::_) w4:=H9.slc_nil 211 1
  have H11:Hd w0 (all []::_) w4:=Hd.all_nil H10
  have H12:Hd w0 (cel (w3.heap.size+1) 108 (qQt ⟨w3.heap.size+1,t,a,u,w3.heap.size⟩ (.slice none 0 0))::ArP a (ArM.new n)::UnP u ⟨U,U,List.replicate U.length 0,[]⟩::CeP w3.heap.size []::SlE 211 (.slice none 0 0) ([]:List Ptr)::all []::cel c 194 (qQj c (w3.heap.size+1))::TkP t tk S::ro S::R) w4:=H11.re
  exact (LkP.shut (x:=⟨w3.heap.size+1,t,a,u,w3.heap.size⟩) (m:=⟨ArM.new n,⟨U,U,List.replicate U.length 0,[]⟩,[],[]⟩) (bs:=[]) H12 rfl).b2
end
end
end Go.Proofs.YtkchopnkdjnocaaGreatDoor
