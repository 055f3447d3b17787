/-
  Merged texts of one proof: Co7, Co8, Co9, Co10, Co11, Co12, DpM, St0.
-/
import Derived.Test.YtkchopnkdjnocaaGreatDoorG20
import Derived.Test.YtkchopnkdjnocaaGreatDoorG35
import Derived.Test.YtkchopnkdjnocaaGreatDoorG37

set_option maxHeartbeats 16000000
set_option maxRecDepth 20000
namespace Go.Proofs.YtkchopnkdjnocaaGreatDoor
section
open Go.RowKit Spl
section
variable {w0 w:World} {R:List Pr} {x:CoV} {S:Hp}
abbrev qKB (j:StM) (v:Value):Array Value:=#[.int .i64 j.job,.int .i64 j.task,.int .i64 j.level,.int .i64 j.pos,v]
theorem LkP.snoc {m:CoM} {js:List StM} {j:StM} (H:Hd w0 (LkP x S m::R) w) (hj:m.jobs=js++[j]):∃(vj:Value) (bs:List Nat) (b:Nat) (v:Value),bs.length=js.length∧RoE S 83 v j.steps ∧
    Hd w0 (cel x.l 108 (qQt x vj)::ArP x.a m.ar::UnP x.u m.un::CeP x.c m.ce::SlE 211 vj (bs.map Ptr.mk++[⟨b⟩])::all (List.zipWith (stB S) bs js)::cel b 215 (qKB j v)::R) w:=by
  obtain ⟨vj,bs0,hb,H1⟩:=LkP.opened H
  rw [hj] at hb H1
  obtain ⟨bs,b,rfl⟩:∃bs b,bs0=bs++[b]:=by
    rcases qQr bs0 with h | ⟨bs,b,h⟩
    · rw [h] at hb;simp at hb
    · exact ⟨bs,b,h⟩
  have hb2:bs.length=js.length:=by simpa using hb
  rw [List.zipWith_append hb2,List.map_append] at H1
  have H2:Hd w0 (all (List.zipWith (stB S) bs js++[stB S b j])::cel x.l 108 (qQt x vj)::ArP x.a m.ar::UnP x.u m.un::CeP x.c m.ce::SlE 211 vj (bs.map Ptr.mk++[⟨b⟩])::R) w:=by
    have h:=H1.b6
    exact h
  have H3:Hd w0 (all ([stB S b j]++List.zipWith (stB S) bs js)::_) w:=H2.all_perm List.perm_append_comm
  have H4:Hd w0 (stB S b j::(List.zipWith (stB S) bs js++(cel x.l 108 (qQt x vj)::ArP x.a m.ar::UnP x.u m.un::CeP x.c m.ce::SlE 211 vj (bs.map Ptr.mk++[⟨b⟩])::R))) w:=H3.flat
  obtain ⟨v,H5⟩:=H4.out
  have H6:Hd w0 (fact (RoE S 83 v j.steps)::cel b 215 (qKB j v)::(List.zipWith (stB S) bs js++(cel x.l 108 (qQt x vj)::ArP x.a m.ar::UnP x.u m.un::CeP x.c m.ce::SlE 211 vj (bs.map Ptr.mk++[⟨b⟩])::R))) w:=H5.flat
  have H7:Hd w0 (List.zipWith (stB S) bs js++(cel b 215 (qKB j v)::cel x.l 108 (qQt x vj)::ArP x.a m.ar::UnP x.u m.un::CeP x.c m.ce::SlE 211 vj (bs.map Ptr.mk++[⟨b⟩])::R)) w:=H6.tail.perm List.perm_middle.symm
  have H8:=Hd.pack H7
  exact ⟨vj,bs,b,v,hb2,H6.get,H8.re⟩
theorem LkP.unsnoc {ar:ArM} {un:UnM} {ce:List Int} {js:List StM} {j:StM} {vj:Value} {bs:List Nat} {b:Nat} {v:Value} (H:Hd w0 (cel x.l 108 (qQt x vj)::ArP x.a ar::UnP x.u un::CeP x.c ce::SlE 211 vj (bs.map Ptr.mk++[⟨b⟩])::all (List.zipWith (stB S) bs js)::cel b 215 (qKB j v)::R) w)
    (hb:bs.length=js.length) (hv:RoE S 83 v j.steps):Hd w0 (LkP x S ⟨ar,un,ce,js++[j]⟩::R) w:=by
  have H1:Hd w0 (cel b 215 (qKB j v)::all (List.zipWith (stB S) bs js)::cel x.l 108 (qQt x vj)::ArP x.a ar::UnP x.u un::CeP x.c ce::SlE 211 vj (bs.map Ptr.mk++[⟨b⟩])::R) w:=H.re
  have H2:Hd w0 (stB S b j::all (List.zipWith (stB S) bs js)::cel x.l 108 (qQt x vj)::ArP x.a ar::UnP x.u un::CeP x.c ce::SlE 211 vj (bs.map Ptr.mk++[⟨b⟩])::R) w:=Hd.into v (Hd.pack (L:=[_,_]) (Hd.put hv H1))
  have H3:=H2.row_snoc hb
  have H4:Hd w0 (cel x.l 108 (qQt x vj)::ArP x.a ar::UnP x.u un::CeP x.c ce::SlE 211 vj (bs.map Ptr.mk++[⟨b⟩])::all (List.zipWith (stB S) (bs++[b]) (js++[j]))::R) w:=H3.re
  refine LkP.shut (m:=⟨ar,un,ce,js++[j]⟩) (vj:=vj) (bs:=bs++[b]) ?_ (by simp [hb])
  rw [List.map_append]
  exact H4
end
section
variable {w0 w:World} {R:List Pr} {x:CoV} {tk:TkM} {S:Hp} {m:CoM}
theorem qJD (H:Hd w0 (LkP x S m::R) w) (hl:m.ce.length≤100000):Calls Tryz.prog 23 #[.pointer (some ⟨x.l,0,none⟩)] w fun e w'=>e=.returned (.int .i64 (topI m.ce))∧w=w':=by
  obtain ⟨vj,bs,hb,H1⟩:=LkP.opened H
  obtain ⟨l,t,a,u,ce⟩:=x
  have hc:=zXE (H1.k ce) hl
  have c3:=(show _=some (Value.pointer (some ⟨ce,0,none⟩)) from (H1.k l).ce 3 rfl)
  go_enter Tryz.func23,Tryz.ntmps23
  go_wp2_with fail
  refine hc.mono ?_
  rintro e w1 ⟨rfl,rfl⟩
  clear hc
  go_wp2_with fail
  go_ret
  exact ⟨rfl,rfl⟩
theorem qYp (H:Hd w0 (LkP x S m::R) w) (hu:m.un.Inv) {r:Nat} (hr:r<m.un.units.length):Calls Tryz.prog 25 #[.pointer (some ⟨x.l,0,none⟩),.int .i64 r] w fun e w'=>∃v,e=.returned v∧Hd w0 (SlE 184 v (qQS m.un r)::LkP x S m::R) w':=by
  obtain ⟨vj,bs,hb,H1⟩:=LkP.opened H
  obtain ⟨l,t,a,u,ce⟩:=x
  have hc:=zQr (H1.k u) hu hr
  have c3:=(show _=some (Value.pointer (some ⟨u,0,none⟩)) from (H1.k l).ce 2 rfl)
  go_enter Tryz.func25,Tryz.ntmps25
  go_wp2_with fail
  refine hc.mono ?_
  rintro e w1 ⟨v,rfl,H2⟩
  clear hc
  go_wp2_with fail
  go_ret
  refine ⟨v,rfl,?_⟩
  have H3:Hd w0 (cel l 108 (qQt ⟨l,t,a,u,ce⟩ vj)::ArP a m.ar::UnP u m.un::CeP ce m.ce::SlE 211 vj (bs.map Ptr.mk)::all (List.zipWith (stB S) bs m.jobs)::SlE 184 v (qQS m.un r)::R) w1:=H2.re
  exact (LkP.shut (x:=⟨l,t,a,u,ce⟩) H3 hb).b2
theorem qUB (H:Hd w0 (LkP x S m::R) w) (hj:m.jobs = []):Calls Tryz.prog 128 #[.pointer (some ⟨x.l,0,none⟩)] w fun e w'=>e=.returned (.tuple #[actV ⟨0,0,0,0⟩,.bool false])∧Hd w0 (LkP x S m::R) w':=by
  obtain ⟨vj,bs,hb,H1⟩:=LkP.opened H
  obtain ⟨l,t,a,u,ce⟩:=x
  have hbs:bs = []:=List.eq_nil_of_length_eq_zero (by rw [hb,hj];rfl)
  subst hbs
  have H2:Hd w0 _ (w.alloc (.cells #[.int .i64 0,.int .i64 0,.int .i64 0,.int .i64 0] 213)):=H1.fol
  have hc:=qJZ (o:=4) ((H2.v vj).k l) rfl
  have hf:=H2.facts
  simp only [Nat.reduceAdd] at hf
  go_split_ands
  go_enter Tryz.func128,Tryz.ntmps128
  go_wp2_with fail
  refine hc.mono ?_
  rintro e w1 ⟨rfl,rfl⟩
  clear hc
  go_wp2_with fail
  refine bodyPost_ret (qQg rfl _ _ w.heap.size 213 #[.int .i64 0,.int .i64 0,.int .i64 0,.int .i64 0] (0,0) _ (by rfl) (by exact (H2.k w.heap.size).heap) Tryz.underlying213 rfl (by kernel_rfl)) rfl ⟨rfl,?_⟩
  exact LkP.shut (x:=⟨l,t,a,u,ce⟩) (vj:=vj) (bs:=[]) (by exact H2.re) hb
theorem qVI (H:Hd w0 (LkP x S m::R) w) {js:List StM} {j:StM} (hj:m.jobs=js++[j]) (hn:js.length≤1000):Calls Tryz.prog 128 #[.pointer (some ⟨x.l,0,none⟩)] w fun e w'=>e=.returned (.tuple #[actV j.act,.bool true])∧Hd w0 (LkP x S m::R) w':=by
  obtain ⟨vj,bs,b,v,hb,hv,H1⟩:=LkP.snoc H hj
  obtain ⟨l,t,a,u,ce⟩:=x
  have hm:m=⟨m.ar,m.un,m.ce,js++[j]⟩:=by rw [← hj]
  have H2:Hd w0 _ (w.alloc (.cells #[.int .i64 0,.int .i64 0,.int .i64 0,.int .i64 0] 213)):=H1.fol
  have hc:=qJB (o:=4) ((H2.v vj).k l) rfl (by rw [List.length_map];omega)
  have hf:=H2.facts
  simp only [Nat.reduceAdd] at hf
  go_split_ands
  replace hm:=Lib.hid hm
  replace hj:=Lib.hid hj
  replace hb:=Lib.hid hb
  go_enter Tryz.func128,Tryz.ntmps128
  go_wp2_with fail
  refine hc.mono ?_
  rintro e w1 ⟨rfl,rfl⟩
  clear hc
  go_wp2_with fail
  have H3:Hd w0 _ (w.alloc (.cells #[.int .i64 j.job,.int .i64 j.task,.int .i64 j.level,.int .i64 j.pos] 213)):=H1.fol
  refine bodyPost_ret (qQg rfl _ _ w.heap.size 213 #[.int .i64 j.job,.int .i64 j.task,.int .i64 j.level,.int .i64 j.pos] (0,0) _ (by rfl) (by exact (H3.k w.heap.size).heap) Tryz.underlying213 rfl (by kernel_rfl)) rfl ⟨rfl,?_⟩
  rw [hm.out]
  exact LkP.unsnoc (x:=⟨l,t,a,u,ce⟩) (bs:=bs) (b:=b) (v:=v) (vj:=vj) (by exact H3.re) hb.out hv
end
end
section
open Go.RowKit Spl
theorem qql {jobs:List StM} {job:Int} {k:Nat} {j:StM} (h:∀(i:Nat) (y:StM),i<k→jobs[i]? = some y→¬y.job=job) (hk:jobs[k]? = some j) (e:j.job=job):qJp jobs job=k:=by
  have h2:jobs.findIdx? (fun j=>j.job == job)=some k:=by
    rw [List.findIdx?_eq_some_iff_getElem]
    obtain ⟨hkl,hke⟩:=List.getElem?_eq_some_iff.1 hk
    refine ⟨hkl,by rw [hke];simpa using e,fun i hi=>?_⟩
    have:=h i _ hi (List.getElem?_eq_getElem (by omega))
    simpa using this
  unfold qJp
  rw [h2]
theorem qUj {jobs:List StM} {job:Int} (h:∀(i:Nat) (y:StM),i<jobs.length→jobs[i]? = some y→¬y.job=job):qJp jobs job = -1:=by
  have h2:jobs.findIdx? (fun j=>j.job == job)=none:=by
    rw [List.findIdx?_eq_none_iff]
    intro y hy
    obtain ⟨i,hi,rfl⟩:=List.mem_iff_getElem.1 hy
    have:=h i _ hi (List.getElem?_eq_getElem hi)
    simpa using this
  unfold qJp
  rw [h2]
section
variable {w0 w:World} {R:List Pr} {x:CoV} {S:Hp} {m:CoM}
theorem zQq (H:Hd w0 (LkP x S m::R) w) (hn:m.jobs.length≤1000) (job:Int):Calls Tryz.prog 69 #[.pointer (some ⟨x.l,0,none⟩),.int .i64 job] w fun e w'=>e=.returned (.int .i64 (qJp m.jobs job))∧Hd w0 (LkP x S m::R) w':=by
  obtain ⟨vj,bs,hb,H1⟩:=LkP.opened H
  obtain ⟨l,t,a,u,ce⟩:=x
  have hc:=qXj (o:=4) ((H1.v vj).k l) rfl (by rw [List.length_map];omega)
  rw [List.length_map] at hc
  obtain ⟨N,hN⟩:∃N,bs.length=N:=⟨_,rfl⟩
  rw [hN] at hc hb
  have hJ:m.jobs.length=N:=hb.symm
  have hN1:N≤1000:=by omega
  replace hb:=Lib.hid hb
  replace hN:=Lib.hid hN
  obtain ⟨P,hP⟩:∃P,qJp m.jobs job=P:=⟨_,rfl⟩
  rw [hP]
  replace hP:=Lib.hid hP
  replace hJ:=Lib.hid hJ
  clear H hn
  go_enter Tryz.func69,Tryz.ntmps69
  go_wp2_with fail
  refine hc.mono ?_
  rintro e w1 ⟨g,rfl,H2⟩
  clear hc H1
  go_wp2_with fail
  have H3:Hd w0 (all (List.zipWith (stB S) bs m.jobs)::SlcC 211 1 g N N (flat (bs.map Ptr.mk))::cel l 108 (qQt ⟨l,t,a,u,ce⟩ vj)::ArP a m.ar::UnP u m.un::CeP ce m.ce::SlE 211 vj (bs.map Ptr.mk)::R) w1:=by
    have h:Hd w0 (SlcC 211 (Enc.size Ptr) g (bs.map Ptr.mk).length N (flat (bs.map Ptr.mk))::_) w1:=H2
    rw [List.length_map,hN.out] at h
    have h2:Hd w0 (SlcC 211 1 g N N (flat (bs.map Ptr.mk))::_) w1:=h
    exact h2.re
  clear H2
  go_loopw [12] (fun y wr=>∃k:Nat,k≤N∧y=.int .i64 k∧(∀(i:Nat) (y:StM),i<k→m.jobs[i]? = some y→¬y.job=job)∧wr=w1) (fun y _=>N-(intOf y).toNat)
  case atStart=>exact ⟨0,Nat.zero_le _,rfl,fun i y h=>by omega,rfl⟩
  case round =>
    obtain ⟨k,hk,rfl,hno,rfl⟩:=hrel
    by_cases hlt:k<N
    · obtain ⟨j,hj⟩:∃j,m.jobs[k]? = some j:=⟨m.jobs[k]'(by rw [hJ.out];exact hlt),List.getElem?_eq_getElem _⟩
      obtain ⟨b,hbk⟩:∃b,bs[k]? = some b:=⟨bs[k]'(by rw [hN.out];exact hlt),List.getElem?_eq_getElem _⟩
      obtain ⟨v,H4⟩:=(H3.row_nth hbk hj).out
      have H5:Hd w0 (fact (RoE S 83 v j.steps)::cel b 215 (qKB j v)::_) wr:=H4.flat
      have d0:=(show _=some (Value.int .i64 j.job) from (H5.k b).ce 0 rfl)
      have d1:wr.cell? ⟨g,k,none⟩=some (.pointer (some ⟨b,0,none⟩)):=by
        have h1:(bs.map Ptr.mk)[k]? = some ⟨b⟩:=by simp [hbk]
        have:=(show Hd w0 (SlcC 211 1 g N N (flat (bs.map Ptr.mk))::R) wr from H3.re).slcC_rd (qQi h1 (j:=0) rfl)
        simpa only [Enc.size,Nat.mul_one,Nat.add_zero] using this
      have n1:(k:Int)<N:=by omega
      have n2:¬(k:Int)<0:=by omega
      have n3:¬N≤k:=by omega
      have g6:IntKind.i64.wrap ((k:Int)+1)=(k:Int)+1:=IntWalk.i64_in _ (by omega)
      replace hno:=Lib.hid hno
      replace H3:=Lib.hid H3
      clear H4 H5
      by_cases he:j.job=job
      · have hpk:=qql hno.out hj he
        rw [hP.out] at hpk
        replace hpk:=Lib.hid hpk
        replace hj:=Lib.hid hj
        go_wp2_with fail
        go_ret
        exact ⟨qQp hpk.out,LkP.shut (x:=⟨l,t,a,u,ce⟩) (vj:=vj) (bs:=bs) H3.out.re (by rw [hN.out,hJ.out])⟩
      · replace hj:=Lib.hid hj
        go_wp2_with fail
        go_roundw
        case rel =>
          refine ⟨k+1,by omega,by simp,fun i y hi hy=>?_,by first | trivial | rfl⟩
          by_cases hik:i=k
          · subst hik
            have h2:=hj.out
            rw [hy] at h2
            injection h2 with h2
            rw [h2]
            exact he
          · exact hno.out i y (by omega) hy
        case measure=>simp [intOf];omega
    · obtain rfl:k=N:=by omega
      have hpk:=qUj (jobs:=m.jobs) (job:=job) (by rw [hJ.out];exact hno)
      rw [hP.out] at hpk
      replace hpk:=Lib.hid hpk
      go_wp2_with fail
      go_ret
      exact ⟨qQp hpk.out,LkP.shut (x:=⟨l,t,a,u,ce⟩) (vj:=vj) (bs:=bs) H3.re (by rw [hN.out,hJ.out])⟩
end
end
section
open Go.RowKit Spl
section
variable {w0 w:World} {R:List Pr} {x:CoV} {S:Hp} {m:CoM}
theorem zJX (H:Hd w0 (LkP x S m::R) w) (hm:m.ar.Ok) (hn:m.jobs.length≤1000) {job:Int} {i:Nat} {f:FrM} (hp:qJp m.jobs job=i) (hf:m.ar.fr[i]? = some f) :
    Calls Tryz.prog 38 #[.pointer (some ⟨x.l,0,none⟩),.int .i64 job] w fun e w'=>∃v,e=.returned (.tuple #[v,.bool true])∧Hd w0 (SlE 3 v f.laid::LkP x S m::R) w':=by
  have hc:=zQq H.drew hn job
  rw [hp] at hc
  obtain ⟨vj,bs,hb,H1⟩:=LkP.opened H
  have k1:=(show _=some (Value.pointer (some ⟨x.a,0,none⟩)) from H1.ce 1 rfl)
  clear H1
  have hfa:=fun (w1:World) (L:List Pr) (h:Hd w0 (ArP x.a m.ar::L) w1)=>qUs h hm i f hf
  replace hfa:=Lib.hid hfa
  replace hp:=Lib.hid hp
  replace hb:=Lib.hid hb
  replace H:=Lib.hid H
  clear hf
  obtain ⟨l,t,a,u,ce⟩:=x
  go_enter Tryz.func38,Tryz.ntmps38
  go_wp2_with fail
  refine wm 10 [(0,true),(1,true),(2,true),(3,true),(4,true),(5,true),(6,false),(7,false),(8,true),(9,true)] (fun w'=>w'.cell? ⟨l,1,none⟩=some (.pointer (some ⟨a,0,none⟩))) (k1) ?_
  simp only [List.drop_succ_cons,List.drop_zero]
  iterate 6 (refine mh ?_;(try simp only [Act.put,List.setIfInBounds_toArray,List.set_cons_zero,List.set_cons_succ]))
  refine mm ?_
  go_wp2_with fail
  refine hc.mono ?_
  rintro e w1 ⟨rfl,H2⟩
  clear hc
  obtain ⟨vj2,bs2,hb2,H3⟩:=LkP.opened H2
  have k2:=(show _=some (Value.pointer (some ⟨a,0,none⟩)) from H3.ce 1 rfl)
  have hfr:=hfa.out _ _ H3.b2
  replace hb2:=Lib.hid hb2
  go_wp2_with fail
  refine qQd k2 ?_
  refine mm ?_
  go_wp2_with fail
  refine hfr.mono ?_
  rintro e w2 ⟨g,rfl,H4⟩
  clear hfr
  have H5:Hd w0 (SlE 3 (.slice (some ⟨g,0,none⟩) f.laid.length f.laid.length) f.laid::_) w2:=H4.slc_mk
  obtain ⟨F,hF⟩:∃F,f.laid.length=F:=⟨_,rfl⟩
  rw [hF] at H5
  rw [hF]
  replace hF:=Lib.hid hF
  have k3:=(show _=some (Value.pointer (some ⟨a,0,none⟩)) from (H5.k l).ce 1 rfl)
  go_wp2_with fail
  refine qQd k3 ?_
  iterate 2 (refine mh ?_;(try simp only [Act.put,List.setIfInBounds_toArray,List.set_cons_zero,List.set_cons_succ]))
  refine qQe ?_
  (try dsimp only)
  go_wp2_with fail
  go_ret2
  refine ⟨_,rfl,?_⟩
  have H6:Hd w0 (cel l 108 (qQt ⟨l,t,a,u,ce⟩ vj2)::ArP a m.ar::UnP u m.un::CeP ce m.ce::SlE 211 vj2 (bs2.map Ptr.mk)::all (List.zipWith (stB S) bs2 m.jobs)::SlE 3 (.slice (some ⟨g,0,none⟩) F F) f.laid::R) w2:=H5.re
  exact (LkP.shut (x:=⟨l,t,a,u,ce⟩) H6 hb2.out).b2
end
end
section
open Go.RowKit Spl
def CoM.begun (m:CoM) (job:Int) (i:Nat) (r:RowM):CoM:=⟨m.ar.openF r.t.fr,m.un,m.ce,m.jobs++[⟨job,i,r.t.lv,0,r.steps⟩]⟩
section
variable {w0 w:World} {R:List Pr} {c:Nat} {x:CoV} {tk:TkM} {S:Hp} {m:CoM}
theorem zJO (H:Hd w0 (cel c 194 (qQj c x.l)::LkP x S m::TkP x.t tk S::ro S::R) w) (ht:tk.Ok) (ha:m.ar.Ok) (hfew:m.ar.fr.length<10000) (hn:m.jobs.length≤1000) {i:Nat} {r:RowM} (hr:tk.rows[i]? = some r) {job:Int} (hj:0≤job)
    (hp:qJp m.jobs job = -1) (ho:m.ar.openE r.t.fr=0) :
    Calls Tryz.prog 99 #[.pointer (some ⟨c,0,none⟩),.int .i64 i,.int .i64 job] w fun e w'=>e=.returned (.int .i64 0) ∧
      ∃S',Le S S'∧Hd w0 (cel c 194 (qQj c x.l)::LkP x S' (m.begun job i r)::TkP x.t tk S'::ro S'::R) w':=by
  have hget:=qqI (show Hd w0 (TkP x.t tk S::ro S::cel c 194 (qQj c x.l)::LkP x S m::R) w from H.re) ht hr
  obtain ⟨vj,bs,hb,H1⟩:=LkP.opened H.b2
  have k0:=(show _=some (Value.pointer (some ⟨x.l,0,none⟩)) from (H1.k c).ce 0 rfl)
  have k1:=(show _=some (Value.pointer (some ⟨x.t,0,none⟩)) from H1.ce 0 rfl)
  clear H1 H
  have hst:=fun (w1:World) (L:List Pr) (h:Hd w0 (TkP x.t tk S::ro S::L) w1)=>zZi h ht hr
  have hpl:=fun (w1:World) (L:List Pr) (h:Hd w0 (LkP x S m::L) w1)=>zQq h hn job
  rw [hp] at hpl
  have hbg:m.begun job i r=⟨m.ar.openF r.t.fr,m.un,m.ce,m.jobs++[⟨job,i,r.t.lv,0,r.steps⟩]⟩:=rfl
  obtain ⟨⟨nm,lv,fr,nds,cd,p,f,gg⟩,stp⟩:=r
  dsimp only at hget hst ho hbg
  rw [hbg]
  replace hst:=Lib.hid hst
  replace hpl:=Lib.hid hpl
  replace hb:=Lib.hid hb
  replace hp:=Lib.hid hp
  replace ho:=Lib.hid ho
  clear hr hbg
  obtain ⟨l,t,a,u,ce⟩:=x
  dsimp only at k0 k1
  have n1:¬job<0:=by omega
  go_enter Tryz.func99,Tryz.ntmps99
  go_wp2_with fail
  refine hget.mono ?_
  rintro e w1 ⟨v,rfl,H2⟩
  clear hget k0 k1
  obtain ⟨a1,c1,rfl,-,-,-,-⟩:=H2.slc_form
  have H3a:Hd w0 _ (w1.alloc (.cells #[.string nm,.int .i64 lv,.int .i64 fr,.slice a1 nds.length c1,.string cd,.int .i64 p,.int .i64 f,.int .i64 gg] 36)):=H2.fol
  have H3:Hd w0 (LkP ⟨l,t,a,u,ce⟩ S m::cel w1.heap.size 36 #[.string nm,.int .i64 lv,.int .i64 fr,.slice a1 nds.length c1,.string cd,.int .i64 p,.int .i64 f,.int .i64 gg]::cel c 194 (qQj c l)::TkP t tk S::ro S::R) (w1.alloc (.cells #[.string nm,.int .i64 lv,.int .i64 fr,.slice a1 nds.length c1,.string cd,.int .i64 p,.int .i64 f,.int .i64 gg] 36)):=H3a.re
  have hpc:=hpl.out _ _ H3
  obtain ⟨vj2,bs2,hb2,H4⟩:=LkP.opened H3
  have hf:=H4.facts
  simp only [Nat.reduceAdd] at hf
  go_split_ands
  clear hb2 H4 H3a H2
  go_wp2_with fail
  refine hpc.mono ?_
  rintro e w2 ⟨rfl,H5⟩
  clear hpc
  obtain ⟨vj3,bs3,hb3,H6⟩:=LkP.opened H5
  have hop:=zXn (H6.b2.drew) ha hfew fr
  rw [ho.out] at hop
  have hf2:=H6.facts
  simp only [Nat.reduceAdd] at hf2
  go_split_ands
  replace hb3:=Lib.hid hb3
  clear H5
  go_wp2_with fail
  refine wp_region_still_tail 9 (by kernel_rfl) (by kernel_rfl) ?_
  simp only [List.take_succ_cons,List.take_zero,List.drop_succ_cons,List.drop_zero,World.drew_eq]
  (repeat still_step)
  refine wpStill_nil ?_
  go_wp2_with fail
  refine hop.mono ?_
  rintro e w3 ⟨rfl,H7⟩
  clear hop
  have hsc:=hst.out _ _ (show Hd w0 (TkP t tk S::ro S::cel w1.heap.size 36 #[.string nm,.int .i64 lv,.int .i64 fr,.slice a1 nds.length c1,.string cd,.int .i64 p,.int .i64 f,.int .i64 gg]::cel c 194 (qQj c l)::cel l 108 (qQt ⟨l,t,a,u,ce⟩ vj3)::ArP a (m.ar.openF fr)::UnP u m.un::CeP ce m.ce::SlE 211 vj3 (bs3.map Ptr.mk)::all (List.zipWith (stB S) bs3 m.jobs)::R) w3 from H7.re)
  have hf3:=H7.facts
  simp only [Nat.reduceAdd] at hf3
  go_split_ands
  go_wp2_with fail
  refine hsc.mono ?_
  rintro e w4 ⟨v2,rfl,H8⟩
  clear hsc H7 H6
  obtain ⟨a2,c2,rfl,-,-,-,-⟩:=H8.slc_form
  obtain ⟨Q,hQ⟩:∃Q,stp.length=Q:=⟨_,rfl⟩
  rw [hQ] at H8
  have hf4:=H8.facts
  simp only [Nat.reduceAdd] at hf4
  go_split_ands
  have H9:Hd w0 _ (w4.drew.alloc (.cells #[.int .i64 job,.int .i64 i,.int .i64 lv,.int .i64 0,.slice a2 Q c2] 215)):=H8.fol
  have hpu:=qK9 (o:=4) ((H9.v vj3).k l) rfl (by rw [List.length_map,hb3.out];omega) ⟨w4.heap.size⟩
  go_wp2_with fail
  refine wm 14 [(0,true),(1,true),(2,true),(3,true),(4,true),(5,true),(6,true),(7,true),(8,true),(9,true),(10,true),(11,true),(12,true),(13,false)] (fun w'=>w'.cell? ⟨c,0,none⟩=some (.pointer (some ⟨l,0,none⟩))∧w'.cell? ⟨w1.heap.size,1,none⟩=some (.int .i64 lv)) (⟨(show _=some _ from (H8.k c).ce 0 rfl),(show _=some _ from (H8.k w1.heap.size).ce 1 rfl)⟩) ?_
  simp only [List.drop_succ_cons,List.drop_zero]
  iterate 13 (refine mh ?_;(try simp only [Act.put,List.setIfInBounds_toArray,List.set_cons_zero,List.set_cons_succ]))
  refine mm ?_
  go_wp2_with fail
  refine qQd ⟨(show _=some _ from (H9.k c).ce 0 rfl),(show _=some _ from (H9.k w1.heap.size).ce 1 rfl)⟩ ?_
  refine qQe ?_
  (try dsimp only)
  go_wp2_with fail
  refine hpu.mono ?_
  rintro e w5 ⟨rfl,vj4,H10⟩
  clear hpu
  go_wp2_with fail
  go_ret
  refine ⟨rfl,?_⟩
  have H11:Hd w0 (cel l 108 (qQt ⟨l,t,a,u,ce⟩ vj4)::_) w5:=H10
  have hQo:stp.length=Q:=hQ
  have H12:Hd w0 (Slc 83 4 (.slice a2 Q c2) Q (flat stp)::ro S::all (List.zipWith (stB S) bs3 m.jobs)::TkP t tk S::cel l 108 (qQt ⟨l,t,a,u,ce⟩ vj4)::ArP a (m.ar.openF fr)::UnP u m.un::CeP ce m.ce::SlE 211 vj4 (bs3.map Ptr.mk++[⟨w4.heap.size⟩])::cel w4.heap.size 215 #[.int .i64 job,.int .i64 i,.int .i64 lv,.int .i64 0,.slice a2 Q c2]::cel c 194 (qQj c l)::R) w5:=by
    have h:Hd w0 (SlE 83 (.slice a2 Q c2) stp::ro S::all (List.zipWith (stB S) bs3 m.jobs)::TkP t tk S::cel l 108 (qQt ⟨l,t,a,u,ce⟩ vj4)::ArP a (m.ar.openF fr)::UnP u m.un::CeP ce m.ce::SlE 211 vj4 (bs3.map Ptr.mk++[⟨w4.heap.size⟩])::cel w4.heap.size 215 #[.int .i64 job,.int .i64 i,.int .i64 lv,.int .i64 0,.slice a2 Q c2]::cel c 194 (qQj c l)::R) w5:=H11.re
    unfold SlE at h
    rw [hQo] at h
    exact h
  obtain ⟨S',hle,hros,H13⟩:=H12.ro_in
  refine ⟨S',hle,?_⟩
  have hros2:RoE S' 83 (.slice a2 Q c2) stp:=by
    unfold RoE
    rw [hQo]
    exact hros
  have H14:=(H13.b2.mono (B:=all (List.zipWith (stB S') bs3 m.jobs)) fun _ h=>stBs.mono hle h)
  have H15:=TkP.mono H14.b3 hle
  have H16:Hd w0 (cel l 108 (qQt ⟨l,t,a,u,ce⟩ vj4)::ArP a (m.ar.openF fr)::UnP u m.un::CeP ce m.ce::SlE 211 vj4 (bs3.map Ptr.mk++[⟨w4.heap.size⟩])::all (List.zipWith (stB S') bs3 m.jobs)::cel w4.heap.size 215 (qKB ⟨job,i,lv,0,stp⟩ (.slice a2 Q c2))::cel c 194 (qQj c l)::TkP t tk S'::ro S'::R) w5:=H15.re
  exact (LkP.unsnoc (x:=⟨l,t,a,u,ce⟩) (ar:=m.ar.openF fr) (un:=m.un) (ce:=m.ce) (js:=m.jobs) (j:=⟨job,i,lv,0,stp⟩) H16 hb3.out hros2).b2
end
end
section
open Go.RowKit Spl
def opF (k:Int):Nat:=if k=1 then 163 else if k=2 then 164 else if k=3 then 165 else if k=4 then 166 else if k=5 then 167
  else if k=6 then 168 else if k=7 then 169 else if k=8 then 170 else 171
theorem qqW (c l:Nat) {k:Nat} (h1:1≤k) (h2:k≤9):(qQj c l)[1+k]? = some (.func (.func (opF k)) #[.pointer (some ⟨c,0,none⟩)] #[]):=by
  obtain rfl | rfl | rfl | rfl | rfl | rfl | rfl | rfl | rfl:k=1∨k=2∨k=3∨k=4∨k=5∨k=6∨k=7∨k=8∨k=9:=by omega
  all_goals rfl
section
variable {w0 w:World} {R:List Pr} {c:Nat} {x:CoV} {vj:Value} {tk:TkM} {S:Hp} {m:CoM}
structure zZU (tk:TkM) (m:CoM) (j:StM) (o:OpM):Prop where
  t:tk.Ok
  a:m.ar.Ok
  u:m.un.Inv
  c:m.ce.length≤5000
  f:m.ar.fr ≠ []
  r:∃r,tk.rows[j.task]? = some r
  n:-100000≤o.n∧o.n≤100000
  c1:m.un.unlockE j.job o.res=0→m.ce ≠ []
  c2:m.un.locksN j.job≤m.ce.length
theorem zKn (H:Hd w0 (CoL c x vj tk S m R) w) {j:StM} {o:OpM} (h:zZU tk m j o) (hk:1≤o.kind∧o.kind≤8) :
    Calls Tryz.prog (opF o.kind) #[.pointer (some ⟨c,0,none⟩),actV j.act,opV o] w fun e w'=>e=.returned (.int .i64 (actM tk m j o).1)∧Hd w0 (CoL c x vj tk S (actM tk m j o).2 R) w':=by
  obtain ⟨k,res,n,v⟩:=o
  dsimp only at hk
  have hn:=h.n
  have hc1:=h.c1
  dsimp only at hn hc1
  obtain ⟨r,hr⟩:=h.r
  have hna:qKR tk j.task res=qZi r.t.needs res:=by unfold qKR;rw [hr]
  obtain rfl | rfl | rfl | rfl | rfl | rfl | rfl | rfl:k=1∨k=2∨k=3∨k=4∨k=5∨k=6∨k=7∨k=8:=by omega
  · show Calls Tryz.prog 163 _ _ _
    by_cases hE:m.un.lockE j.job res n (qKR tk j.task res)=0
    · have hp:=qXU hE
      have e1:actM tk m j ⟨1,res,n,v⟩=(0,{ m with un:=m.un.locked j.job res.toNat n,ce:=m.ce++[max (qXz tk res (((m.un.locked j.job res.toNat n).free[res.toNat]?).getD 0)) (topI m.ce)] }):=by
        unfold actM
        rw [if_pos rfl,if_pos hE]
      rw [e1]
      have hinv:=h.u.locked (job:=j.job) (r:=res.toNat) (n:=n) (need:=qKR tk j.task res) (by rw [show ((res.toNat:Nat):Int)=res by omega];exact hE)
      obtain ⟨f,hf⟩:∃f,(m.un.locked j.job res.toNat n).free[res.toNat]? = some f:=⟨_,List.getElem?_eq_getElem (by rw [hinv.fl,qKx];omega)⟩
      rw [hf,Option.getD_some]
      exact zXV H h.t h.u (by have:=h.c;omega) hr ⟨1,res,n,v⟩ hn (by rw [← hna];exact hE) hf
    · have e1:actM tk m j ⟨1,res,n,v⟩=(m.un.lockE j.job res n (qKR tk j.task res),m):=by
        unfold actM
        rw [if_pos rfl,if_neg hE]
      rw [e1]
      exact zZV H h.t h.u hr ⟨1,res,n,v⟩ hn (by rw [← hna]) hE
  · show Calls Tryz.prog 164 _ _ _
    by_cases hE:m.un.unlockE j.job res=0
    · have e1:actM tk m j ⟨2,res,n,v⟩=(0,{ m with un:=m.un.popped j.job,ce:=m.ce.dropLast }):=by
        unfold actM
        rw [if_neg (by simp),if_pos rfl,if_pos hE]
      rw [e1]
      exact zZ2 H h.u (by have:=h.c;omega) (hc1 hE) j.act ⟨2,res,n,v⟩ hE
    · have e1:actM tk m j ⟨2,res,n,v⟩=(m.un.unlockE j.job res,m):=by
        unfold actM
        rw [if_neg (by simp),if_pos rfl,if_neg hE]
      rw [e1]
      exact qq1 H h.u j.act ⟨2,res,n,v⟩ rfl hE
  · show Calls Tryz.prog 165 _ _ _
    exact zXi H h.a j.act ⟨3,res,n,v⟩
  · show Calls Tryz.prog 166 _ _ _
    exact zKC H h.a j.act ⟨4,res,n,v⟩
  · show Calls Tryz.prog 167 _ _ _
    exact zXK H j.act ⟨5,res,n,v⟩
  · show Calls Tryz.prog 168 _ _ _
    by_cases hE:m.un.cellE j.job res=0
    · have hp:=qJ3 hE
      obtain ⟨u,hu⟩:∃u,m.un.cells[res.toNat]? = some u:=⟨_,List.getElem?_eq_getElem (by rw [h.u.cl];omega)⟩
      have e1:actM tk m j ⟨6,res,n,v⟩=(m.ar.pushE,{ m with ar:=m.ar.push u }):=by
        unfold actM
        rw [if_neg (by simp),if_neg (by simp),if_neg (by simp),if_neg (by simp),if_pos rfl,if_pos hE,hu,Option.getD_some]
      rw [e1]
      exact zXC H h.a h.u j.act ⟨6,res,n,v⟩ hE hu
    · have e1:actM tk m j ⟨6,res,n,v⟩=(m.un.cellE j.job res,m):=by
        unfold actM
        rw [if_neg (by simp),if_neg (by simp),if_neg (by simp),if_neg (by simp),if_pos rfl,if_neg hE]
      rw [e1]
      exact zZp H h.u j.act ⟨6,res,n,v⟩ rfl hE
  · show Calls Tryz.prog 169 _ _ _
    by_cases hE:m.un.cellE j.job res=0
    · have hp:=qJ3 hE
      obtain ⟨u,hu⟩:∃u,m.un.cells[res.toNat]? = some u:=⟨_,List.getElem?_eq_getElem (by rw [h.u.cl];omega)⟩
      by_cases hP:m.ar.popE=0
      · have e1:actM tk m j ⟨7,res,n,v⟩=(0,{ m with ar:=m.ar.pop,un:=m.un.stored res.toNat m.ar.popV }):=by
          unfold actM
          rw [if_neg (by simp),if_neg (by simp),if_neg (by simp),if_neg (by simp),if_neg (by simp),if_pos rfl,if_pos hE,if_pos hP]
        rw [e1]
        exact zJW H h.a h.u j.act ⟨7,res,n,v⟩ hE hu hP
      · have e1:actM tk m j ⟨7,res,n,v⟩=(m.ar.popE,{ m with ar:=m.ar.pop }):=by
          unfold actM
          rw [if_neg (by simp),if_neg (by simp),if_neg (by simp),if_neg (by simp),if_neg (by simp),if_pos rfl,if_pos hE,if_neg hP]
        rw [e1]
        exact qVG H h.a h.u j.act ⟨7,res,n,v⟩ hE hu rfl hP
    · have e1:actM tk m j ⟨7,res,n,v⟩=(m.un.cellE j.job res,m):=by
        unfold actM
        rw [if_neg (by simp),if_neg (by simp),if_neg (by simp),if_neg (by simp),if_neg (by simp),if_pos rfl,if_neg hE]
      rw [e1]
      exact zQj H h.u j.act ⟨7,res,n,v⟩ rfl hE
  · show Calls Tryz.prog 170 _ _ _
    obtain ⟨init,f,hf⟩:∃init f,m.ar.fr=init++[f]:=by
      rcases qQr m.ar.fr with h2 | ⟨init,f,h2⟩
      · exact absurd h2 h.f
      · exact ⟨init,f,h2⟩
    have hlen:m.ar.fr.length=init.length+1:=by rw [hf];simp
    have hat:m.ar.fr[init.length]? = some f:=by rw [hf];simp
    have hlast:((m.ar.fr.getLast?.map fun f=>f.laid.length).getD 0)=f.laid.length:=by rw [hf];simp
    by_cases hlt:f.laid.length<2
    · have e1:actM tk m j ⟨8,res,n,v⟩=(10,m):=by
        unfold actM
        rw [if_neg (by simp),if_neg (by simp),if_neg (by simp),if_neg (by simp),if_neg (by simp),if_neg (by simp),if_pos rfl,hlast,if_pos hlt]
      rw [e1]
      exact zJI H h.a j.act ⟨8,res,n,v⟩ hlen hat hlt
    · have e1:actM tk m j ⟨8,res,n,v⟩=(m.ar.pop.pop.pushE,{ m with ar:=m.ar.pop.pop.push (wrap64 (m.ar.pop.popV+m.ar.popV)) }):=by
        unfold actM
        rw [if_neg (by simp),if_neg (by simp),if_neg (by simp),if_neg (by simp),if_neg (by simp),if_neg (by simp),if_pos rfl,hlast,if_neg hlt]
      rw [e1]
      exact zKs H h.a j.act ⟨8,res,n,v⟩ hlen hat hlt
end
end
section
open Go.RowKit Spl
structure qYE where
  job:Int
  task:Int
  op:OpM
  why:Int
  fin:Bool
  deriving DecidableEq
abbrev qKF (d:qYE):Array Value:=#[.int .i64 d.job,.int .i64 d.task,.int .i64 d.op.kind,.int .i64 d.op.res,.int .i64 d.op.n,.int .i64 d.op.v,.int .i64 d.why,.bool d.fin]
theorem qqw {k:Nat} (h1:1≤k) (h2:k≤9):∀args w,(callFunc (opF k) args).run Tryz.prog w=.ok (.enter (opF k) args) w:=by
  obtain rfl | rfl | rfl | rfl | rfl | rfl | rfl | rfl | rfl:k=1∨k=2∨k=3∨k=4∨k=5∨k=6∨k=7∨k=8∨k=9:=by omega
  · exact enters_of Tryz.func163 (by kernel_rfl) rfl
  · exact enters_of Tryz.func164 (by kernel_rfl) rfl
  · exact enters_of Tryz.func165 (by kernel_rfl) rfl
  · exact enters_of Tryz.func166 (by kernel_rfl) rfl
  · exact enters_of Tryz.func167 (by kernel_rfl) rfl
  · exact enters_of Tryz.func168 (by kernel_rfl) rfl
  · exact enters_of Tryz.func169 (by kernel_rfl) rfl
  · exact enters_of Tryz.func170 (by kernel_rfl) rfl
  · exact enters_of Tryz.func171 (by kernel_rfl) rfl
def qYE.zero:qYE:=⟨0,0,⟨0,0,0,0⟩,0,false⟩
section
variable {w0 w:World} {R:List Pr} {c:Nat} {x:CoV} {tk:TkM} {S:Hp} {m:CoM}
theorem zZW (H:Hd w0 (cel c 194 (qQj c x.l)::LkP x S m::R) w) (hj:m.jobs = []) :
    Calls Tryz.prog 100 #[.pointer (some ⟨c,0,none⟩)] w fun e w'=>e=.returned (.tuple #[.agg (qKF .zero),.bool false])∧Hd w0 (cel c 194 (qQj c x.l)::LkP x S m::R) w':=by
  obtain ⟨vj,bs,hb,H1⟩:=LkP.opened H.b2
  obtain ⟨l,t,a,u,ce⟩:=x
  have hbs:bs = []:=List.eq_nil_of_length_eq_zero (by rw [hb,hj];rfl)
  subst hbs
  have H2:Hd w0 _ (w.alloc (.cells #[.int .i64 0,.int .i64 0,.int .i64 0,.int .i64 0,.int .i64 0,.int .i64 0,.int .i64 0,.bool false] 85)):=H1.fol
  have hc:=qJZ (o:=4) ((H2.v vj).k l) rfl
  have hf:=H2.facts
  simp only [Nat.reduceAdd] at hf
  go_split_ands
  go_enter Tryz.func100,Tryz.ntmps100
  go_wp2_with fail
  refine hc.mono ?_
  rintro e w1 ⟨rfl,rfl⟩
  clear hc
  go_wp2_with fail
  refine bodyPost_ret (qQg rfl _ _ w.heap.size 85 (qKF .zero) (0,0) _ (by rfl) (by exact (H2.k w.heap.size).heap) Tryz.underlying85 rfl (by kernel_rfl)) rfl ⟨rfl,?_⟩
  exact (LkP.shut (x:=⟨l,t,a,u,ce⟩) (vj:=vj) (bs:=[]) (by exact H2.re) hb).b2
theorem qU3 {js:List StM} {j:StM} {o:OpM} {why:Int} {N:Pr} (H:Hd w0 (cel c 194 (qQj c x.l)::LkP x S m::TkP x.t tk S::ro S::R) w) (hj:m.jobs=js++[j]) (hn:js.length≤1000) (ho:j.steps[j.pos]? = some o) (hk:1≤o.kind∧o.kind≤9) (hp:j.pos≤100000)
    (hact:∀(w1:World) (vj v:Value) (bs:List Nat) (b:Nat) (X:List Pr),bs.length=js.length→RoE S 83 v j.steps→Hd w0 (CoL c x vj tk S m (SlE 211 vj (bs.map Ptr.mk++[(⟨b⟩:Ptr)])::all (List.zipWith (stB S) bs js)::X)) w1 →
      Calls Tryz.prog (opF o.kind) #[.pointer (some ⟨c,0,none⟩),actV j.act,opV o] w1 fun e w'=>e=.returned (.int .i64 why)∧∃M:Pr,(∀(Z:List Pr) (w2:World),Hd w0 (M::cel b 215 (qKB ⟨j.job,j.task,j.level,j.pos+1,j.steps⟩ v)::Z) w2→Hd w0 (N::Z) w2)∧Hd w0 (M::X) w') :
    Calls Tryz.prog 100 #[.pointer (some ⟨c,0,none⟩)] w fun e w'=>e=.returned (.tuple #[.agg (qKF ⟨j.job,j.task,o,why,decide (o.kind=9)⟩),.bool true])∧Hd w0 (N::R) w':=by
  obtain ⟨vj,bs,b,v,hb,hv,H1⟩:=LkP.snoc H.b2 hj
  obtain ⟨l,t,a,u,ce⟩:=x
  obtain ⟨ok,ores,on,ov⟩:=o
  obtain ⟨k,rfl⟩:∃k:Nat,ok=k:=⟨ok.toNat,by dsimp only at hk;omega⟩
  obtain ⟨f,hf⟩:∃f,opF k=f:=⟨_,rfl⟩
  have hrow:=qqW c l (k:=k) (by dsimp only at hk;omega) (by dsimp only at hk;omega)
  dsimp only at hact hrow
  have hcf:=qqw (k:=k) (by dsimp only at hk;omega) (by dsimp only at hk;omega)
  rw [hf] at hact hrow hcf
  replace hact:=Lib.hid hact
  have hvv:=hv
  rcases hvv with ⟨-,hv0,-⟩ | ⟨g,cap,sp,rfl,hcap,-,hlen,hS⟩
  · exfalso
    have:=qQa ho
    omega
  have hpl:=qQa ho
  obtain ⟨Q,hQ⟩:∃Q,j.steps.length=Q:=⟨_,rfl⟩
  rw [hQ] at hpl hcap
  have hv':=Lib.hid hv
  have H2:Hd w0 _ (w.alloc (.cells #[.int .i64 0,.int .i64 0,.int .i64 0,.int .i64 0,.int .i64 0,.int .i64 0,.int .i64 0,.bool false] 85)):=H1.fol
  have hc:=qJB (o:=4) ((H2.v vj).k l) rfl (by rw [List.length_map];omega)
  have hro:=fun (w1:World) (L:List Pr) (h:Hd w0 (ro S::L) w1) (q:Nat) (y:Value) (hy:(Enc.cells (⟨(k:Int),ores,on,ov⟩:OpM))[q]? = some y)=>h.ro_rd hv (qQi ho hy)
  simp only [Enc.size] at hro
  replace hro:=Lib.hid hro
  rw [hQ] at H2
  have r0:=hro.out _ _ (H2.k 0) 0 _ rfl
  have r1:=hro.out _ _ (H2.k 0) 1 _ rfl
  have r2:=hro.out _ _ (H2.k 0) 2 _ rfl
  have r3:=hro.out _ _ (H2.k 0) 3 _ rfl
  simp only [Nat.add_zero] at r0
  have b3:=(show _=some (Value.int .i64 j.pos) from (H2.k b).ce 3 rfl)
  have b4:=(show _=some (Value.slice (some ⟨g,0,none⟩) Q cap) from (H2.k b).ce 4 rfl)
  have k0:=(show _=some (Value.pointer (some ⟨l,0,none⟩)) from (H2.k c).ce 0 rfl)
  have n1:(j.pos:Int)<Q:=by omega
  have n2:¬(j.pos:Int)<0:=by omega
  have n3:¬Q≤j.pos:=by omega
  have g6:IntKind.i64.wrap ((j.pos:Int)+1)=(j.pos:Int)+1:=IntWalk.i64_in _ (by omega)
  replace hv:=Lib.hid hv
  replace hb:=Lib.hid hb
  replace hS:=Lib.hid hS
  replace hQ:=Lib.hid hQ
  replace hf:=Lib.hid hf
  replace hk:=Lib.hid hk
  replace hj:=Lib.hid hj
  clear H H1 hlen ho
  go_enter Tryz.func100,Tryz.ntmps100
  go_wp2_with fail
  refine hc.mono ?_
  rintro e w1 ⟨rfl,rfl⟩
  clear hc
  have H3:Hd w0 _ ((w.alloc (.cells #[.int .i64 0,.int .i64 0,.int .i64 0,.int .i64 0,.int .i64 0,.int .i64 0,.int .i64 0,.bool false] 85)).drew.alloc (.cells #[.int .i64 0,.int .i64 0,.int .i64 0,.int .i64 0] 83)):=H2.fol
  go_wp2_with fail
  refine wm 12 [(0,true),(1,true),(2,true),(3,true),(4,true),(5,true),(6,true),(7,true),(8,true),(9,true),(10,true),(11,false)] (fun w'=>w'.cell? ⟨b,3,none⟩=some (.int .i64 j.pos)∧w'.cell? ⟨b,4,none⟩=some (.slice (some ⟨g,0,none⟩) Q cap)∧w'.cell? ⟨g,j.pos*4,none⟩=some (.int .i64 k)∧w'.cell? ⟨g,j.pos*4+1,none⟩=some (.int .i64 ores)∧w'.cell? ⟨g,j.pos*4+2,none⟩=some (.int .i64 on)∧w'.cell? ⟨g,j.pos*4+3,none⟩=some (.int .i64 ov)) (⟨b3,b4,r0,r1,r2,r3⟩) ?_
  simp only [List.drop_succ_cons,List.drop_zero]
  iterate 11 (refine mh ?_;(try simp only [Act.put,List.setIfInBounds_toArray,List.set_cons_zero,List.set_cons_succ]))
  refine mm ?_
  go_wp2_with fail
  have s0:=hro.out _ _ (H3.k 0) 0 _ rfl
  simp only [Nat.add_zero] at s0
  refine qQd ⟨(show _=some _ from (H3.k b).ce 3 rfl),(show _=some _ from (H3.k b).ce 4 rfl),s0,hro.out _ _ (H3.k 0) 1 _ rfl,hro.out _ _ (H3.k 0) 2 _ rfl,hro.out _ _ (H3.k 0) 3 _ rfl⟩ ?_
  refine qQe ?_
  (try dsimp only)
  go_wp2_with fail
  have H4:Hd w0 _ ((w.alloc (.cells #[.int .i64 0,.int .i64 0,.int .i64 0,.int .i64 0,.int .i64 0,.int .i64 0,.int .i64 0,.bool false] 85)).alloc (.cells #[.int .i64 k,.int .i64 ores,.int .i64 on,.int .i64 ov] 83)).drew:=H2.fol
  have H5:Hd w0 _ (((w.alloc (.cells #[.int .i64 0,.int .i64 0,.int .i64 0,.int .i64 0,.int .i64 0,.int .i64 0,.int .i64 0,.bool false] 85)).alloc (.cells #[.int .i64 k,.int .i64 ores,.int .i64 on,.int .i64 ov] 83)).drew.drew.alloc (.cells #[.int .i64 0,.int .i64 0,.int .i64 0,.int .i64 0,.int .i64 0,.int .i64 0,.int .i64 0,.bool false] 85)):=H4.fol
  refine wm 16 [(0,true),(1,true),(2,true),(3,true),(4,true),(5,true),(6,true),(7,true),(8,true),(9,true),(10,true),(11,true),(12,true),(13,true),(14,true),(15,false)] (fun w'=>w'.cell? ⟨b,0,none⟩=some (.int .i64 j.job)∧w'.cell? ⟨b,1,none⟩=some (.int .i64 j.task)∧w'.cell? ⟨w.heap.size+1,0,none⟩=some (.int .i64 k)∧w'.cell? ⟨w.heap.size+1,1,none⟩=some (.int .i64 ores)∧w'.cell? ⟨w.heap.size+1,2,none⟩=some (.int .i64 on)∧w'.cell? ⟨w.heap.size+1,3,none⟩=some (.int .i64 ov)) (⟨(show _=some _ from (H4.k b).ce 0 rfl),(show _=some _ from (H4.k b).ce 1 rfl),(show _=some _ from (H4.k (w.heap.size+1)).ce 0 rfl),(show _=some _ from (H4.k (w.heap.size+1)).ce 1 rfl),(show _=some _ from (H4.k (w.heap.size+1)).ce 2 rfl),(show _=some _ from (H4.k (w.heap.size+1)).ce 3 rfl)⟩) ?_
  simp only [List.drop_succ_cons,List.drop_zero]
  iterate 15 (refine mh ?_;(try simp only [Act.put,List.setIfInBounds_toArray,List.set_cons_zero,List.set_cons_succ]))
  refine mm ?_
  go_wp2_with fail
  refine qQd ⟨(show _=some _ from (H5.k b).ce 0 rfl),(show _=some _ from (H5.k b).ce 1 rfl),(show _=some _ from (H5.k (w.heap.size+1)).ce 0 rfl),(show _=some _ from (H5.k (w.heap.size+1)).ce 1 rfl),(show _=some _ from (H5.k (w.heap.size+1)).ce 2 rfl),(show _=some _ from (H5.k (w.heap.size+1)).ce 3 rfl)⟩ ?_
  refine qQe ?_
  (try dsimp only)
  go_wp2_with fail
  have H6:Hd w0 _ (((w.alloc (.cells #[.int .i64 0,.int .i64 0,.int .i64 0,.int .i64 0,.int .i64 0,.int .i64 0,.int .i64 0,.bool false] 85)).alloc (.cells #[.int .i64 k,.int .i64 ores,.int .i64 on,.int .i64 ov] 83)).alloc (.cells #[.int .i64 j.job,.int .i64 j.task,.int .i64 k,.int .i64 ores,.int .i64 on,.int .i64 ov,.int .i64 0,.bool ((k:Int) == 9)] 85)).drew.drew:=H2.fol
  have hca:=hact.out _ vj _ bs b (cel b 215 (qKB j (.slice (some ⟨g,0,none⟩) Q cap))::cel (w.heap.size+1) 83 #[.int .i64 k,.int .i64 ores,.int .i64 on,.int .i64 ov]::cel w.heap.size 85 #[.int .i64 0,.int .i64 0,.int .i64 0,.int .i64 0,.int .i64 0,.int .i64 0,.int .i64 0,.bool false]::cel (w.heap.size+1+1) 85 #[.int .i64 j.job,.int .i64 j.task,.int .i64 k,.int .i64 ores,.int .i64 on,.int .i64 ov,.int .i64 0,.bool ((k:Int) == 9)]::R) hb.out hv.out (show Hd w0 _ _ from H6.drew.re)
  rw [hQ.out] at hca
  have hf6:=H6.facts
  simp only [Nat.reduceAdd] at hf6
  go_split_ands
  have m1:(k:Int)<12:=by have:=hk.out;omega
  have m2:(0:Int)≤k:=by omega
  have m3:¬(k:Int)<0:=by omega
  have m4:=(show _=some _ from (H6.k c).ce (1+k) hrow)
  clear H2 H3 H4 H5
  go_wp2_with fail
  refine wp_region_still_tail 12 (by kernel_rfl) (by kernel_rfl) ?_
  simp only [List.take_succ_cons,List.take_zero,List.drop_succ_cons,List.drop_zero,World.drew_eq]
  (repeat still_step)
  refine wpStill_nil ?_
  go_wp2_with fail
  refine hca.mono ?_
  rintro e w6 ⟨rfl,M,hM,H7⟩
  clear hca H6
  replace hM:=Lib.hid hM
  have H8:Hd w0 _ (w6.setCell ⟨w.heap.size+1+1,6,none⟩ (.int .i64 why)):=H7.fol
  have H9:Hd w0 _ ((w6.setCell ⟨w.heap.size+1+1,6,none⟩ (.int .i64 why)).setCell ⟨b,3,none⟩ (.int .i64 ((j.pos:Int)+1))):=H8.fol
  have d3:=(show _=some _ from (H7.k (w.heap.size+1+1)).ce 6 rfl)
  have d4:=(H7.k (w.heap.size+1+1)).fr 6
  have e3:=(show _=some _ from (H8.k b).ce 3 rfl)
  have e4:=(H8.k b).fr 3
  have hf9:=H9.facts
  go_split_ands
  go_wp2_with fail
  refine bodyPost_ret (qQg rfl _ _ w.heap.size 85 (qKF ⟨j.job,j.task,⟨k,ores,on,ov⟩,why,decide ((k:Int)=9)⟩) (0,0) _ (by rfl) (by exact ((Hd.fol H9:Hd w0 _ _).k w.heap.size).heap) Tryz.underlying85 rfl (by kernel_rfl)) rfl ⟨rfl,?_⟩
  refine hM.out _ _ ?_
  show Hd w0 (M::cel b 215 #[.int .i64 j.job,.int .i64 j.task,.int .i64 j.level,.int .i64 ((j.pos:Int)+1),.slice (some ⟨g,0,none⟩) Q cap]::R) _
  exact Hd.fin H9
theorem zX6 {js:List StM} {j:StM} {o:OpM} (H:Hd w0 (cel c 194 (qQj c x.l)::LkP x S m::TkP x.t tk S::ro S::R) w) (hj:m.jobs=js++[j]) (hn:js.length≤1000) (ho:j.steps[j.pos]? = some o) (hk:1≤o.kind∧o.kind≤8) (hp:j.pos≤100000) (ha:zZU tk m j o) :
    Calls Tryz.prog 100 #[.pointer (some ⟨c,0,none⟩)] w fun e w'=>e=.returned (.tuple #[.agg (qKF ⟨j.job,j.task,o,(actM tk m j o).1,false⟩),.bool true]) ∧
      Hd w0 (cel c 194 (qQj c x.l)::LkP x S { (actM tk m j o).2 with jobs:=js++[⟨j.job,j.task,j.level,j.pos+1,j.steps⟩] }::TkP x.t tk S::ro S::R) w':=by
  have h9:decide (o.kind=9)=false:=by simp;omega
  have hs:=qU3 (N:=all [cel c 194 (qQj c x.l),LkP x S { (actM tk m j o).2 with jobs:=js++[⟨j.job,j.task,j.level,j.pos+1,j.steps⟩] },TkP x.t tk S,ro S]) (why:=(actM tk m j o).1) H hj hn ho ⟨hk.1,by omega⟩ hp (by
    intro w1 vj v bs b X hb hv HX
    refine (zKn HX ha hk).mono ?_
    rintro e w2 ⟨rfl,H2⟩
    have H2':Hd w0 (cel c 194 (qQj c x.l)::cel x.l 108 (qQt x vj)::TkP x.t tk S::ro S::ArP x.a (actM tk m j o).2.ar::UnP x.u (actM tk m j o).2.un::CeP x.c (actM tk m j o).2.ce::SlE 211 vj (bs.map Ptr.mk++[(⟨b⟩:Ptr)])::all (List.zipWith (stB S) bs js)::X) w2:=H2
    refine ⟨rfl,all [cel c 194 (qQj c x.l),cel x.l 108 (qQt x vj),TkP x.t tk S,ro S,ArP x.a (actM tk m j o).2.ar,UnP x.u (actM tk m j o).2.un,CeP x.c (actM tk m j o).2.ce,SlE 211 vj (bs.map Ptr.mk++[(⟨b⟩:Ptr)]),all (List.zipWith (stB S) bs js)],?_,Hd.pack (L:=[_,_,_,_,_,_,_,_,_]) H2'⟩
    intro Z w3 H3
    have H4:Hd w0 (cel c 194 (qQj c x.l)::cel x.l 108 (qQt x vj)::TkP x.t tk S::ro S::ArP x.a (actM tk m j o).2.ar::UnP x.u (actM tk m j o).2.un::CeP x.c (actM tk m j o).2.ce::SlE 211 vj (bs.map Ptr.mk++[(⟨b⟩:Ptr)])::all (List.zipWith (stB S) bs js)::cel b 215 (qKB ⟨j.job,j.task,j.level,j.pos+1,j.steps⟩ v)::Z) w3:=H3.flat
    have H5:Hd w0 (cel x.l 108 (qQt x vj)::ArP x.a (actM tk m j o).2.ar::UnP x.u (actM tk m j o).2.un::CeP x.c (actM tk m j o).2.ce::SlE 211 vj (bs.map Ptr.mk++[(⟨b⟩:Ptr)])::all (List.zipWith (stB S) bs js)::cel b 215 (qKB ⟨j.job,j.task,j.level,j.pos+1,j.steps⟩ v)::cel c 194 (qQj c x.l)::TkP x.t tk S::ro S::Z) w3:=H4.re
    exact Hd.pack (L:=[_,_,_,_]) (LkP.unsnoc H5 hb hv).b2)
  rw [h9] at hs
  refine hs.mono ?_
  rintro e w2 ⟨rfl,H2⟩
  exact ⟨rfl,H2.flat⟩
theorem zQs {js:List StM} {j:StM} {o:OpM} (H:Hd w0 (cel c 194 (qQj c x.l)::LkP x S m::TkP x.t tk S::ro S::R) w) (hj:m.jobs=js++[j]) (hn:js.length≤1000) (ho:j.steps[j.pos]? = some o) (hk:o.kind=9) (hp:j.pos≤100000) (ha:zZU tk m j o) :
    Calls Tryz.prog 100 #[.pointer (some ⟨c,0,none⟩)] w fun e w'=>e=.returned (.tuple #[.agg (qKF ⟨j.job,j.task,o,0,true⟩),.bool true]) ∧
      Hd w0 (cel c 194 (qQj c x.l)::LkP x S (qJX m j.job)::TkP x.t tk S::ro S::R) w':=by
  have h9:decide (o.kind=9)=true:=by simp [hk]
  have hfn:opF o.kind=171:=by rw [hk];rfl
  have hdl:m.jobs.dropLast=js:=by rw [hj];simp
  have hs:=qU3 (N:=all [cel c 194 (qQj c x.l),LkP x S (qJX m j.job),TkP x.t tk S,ro S]) (why:=0) H hj hn ho ⟨by omega,by omega⟩ hp (by
    intro w1 vj v bs b X hb hv HX
    rw [hfn]
    refine (zZq HX ha.a ha.f ha.u (by have:=ha.c;omega) (by omega) j.act o ha.c2).mono ?_
    rintro e w2 ⟨rfl,vj',H2⟩
    refine ⟨rfl,all [cel c 194 (qQj c x.l),LkP x S (qJX m j.job),TkP x.t tk S,ro S],?_,?_⟩
    · intro Z w3 H3
      exact H3.re
    · have H4:Hd w0 (cel c 194 (qQj c x.l)::cel x.l 108 (qQt x vj')::TkP x.t tk S::ro S::ArP x.a m.ar.close::UnP x.u (m.un.popN j.job (m.un.locksN j.job))::CeP x.c (m.ce.take (m.ce.length-m.un.locksN j.job))::SlE 211 vj' (bs.map Ptr.mk)::all (List.zipWith (stB S) bs js)::X) w2:=H2
      have H5:Hd w0 (cel x.l 108 (qQt x vj')::ArP x.a m.ar.close::UnP x.u (m.un.popN j.job (m.un.locksN j.job))::CeP x.c (m.ce.take (m.ce.length-m.un.locksN j.job))::SlE 211 vj' (bs.map Ptr.mk)::all (List.zipWith (stB S) bs js)::cel c 194 (qQj c x.l)::TkP x.t tk S::ro S::X) w2:=H4.re
      have H6:Hd w0 (LkP x S (qJX m j.job)::cel c 194 (qQj c x.l)::TkP x.t tk S::ro S::X) w2:=LkP.shut (m:=qJX m j.job) (vj:=vj') (bs:=bs) (by unfold qJX;dsimp only;rw [hdl];exact H5) (by unfold qJX;dsimp only;rw [hdl];exact hb)
      exact Hd.pack (L:=[_,_,_,_]) H6.b2)
  rw [h9] at hs
  refine hs.mono ?_
  rintro e w2 ⟨rfl,H2⟩
  exact ⟨rfl,H2.flat⟩
end
end
section
open Go.RowKit Spl
structure DpM where
  co:CoM
  wq:WqM
  count:Nat
structure DidM where
  started:Bool
  start:qQh
  idle:Bool
  done:qYE
  deriving DecidableEq
def qQh.zero:qQh:=⟨0,0,0⟩
def CoM.step (tk:TkM) (m:CoM):Option (qYE × CoM):=match m.jobs.getLast? with
  | none=>none
  | some j=>match j.steps[j.pos]? with
    | none=>none
    | some o=>if o.kind=9 then some (⟨j.job,j.task,o,0,true⟩,qJX m j.job)
      else some (⟨j.job,j.task,o,(actM tk m j o).1,false⟩,{ (actM tk m j o).2 with jobs:=m.jobs.dropLast++[⟨j.job,j.task,j.level,j.pos+1,j.steps⟩] })
def DpM.may (m:DpM):Option qQh:=match m.wq.next with
  | none=>none
  | some w=>if w.level≤topI m.co.ce then none else match m.co.jobs.getLast? with
    | some j=>if w.level≤j.level then none else some w
    | none=>some w
def DpM.begin (tk:TkM) (m:DpM):Option qQh × DpM:=match m.may with
  | none=>(none,m)
  | some w=>match tk.rows[w.task.toNat]? with
    | none=>(none,m)
    | some r=>(some w,⟨m.co.begun w.job w.task.toNat r,m.wq.take,m.count⟩)
def DpM.step (tk:TkM) (m:DpM):DidM × DpM:=match (m.begin tk).2.co.step tk with
  | none=>(⟨(m.begin tk).1.isSome,(m.begin tk).1.getD .zero,true,.zero⟩,(m.begin tk).2)
  | some (d,co)=>(⟨(m.begin tk).1.isSome,(m.begin tk).1.getD .zero,false,d⟩,⟨co,(m.begin tk).2.wq,(m.begin tk).2.count⟩)
def DpM.releaseE (tk:TkM) (m:DpM) (task:Nat):Int:=match tk.rows[task]? with
  | none=>1
  | some r=>m.wq.putE task r.t.lv m.count
def DpM.release (tk:TkM) (m:DpM) (task:Nat):DpM:=match tk.rows[task]? with
  | none=>m
  | some r=>if m.wq.putE task r.t.lv m.count=0 then ⟨m.co,m.wq.put task r.t.lv m.count,m.count+1⟩ else m
def DpM.new (tk:TkM):DpM:=⟨CoM.new tk,WqM.empty,0⟩
structure DpV where
  d:Nat
  c:Nat
  q:Nat
  x:CoV
abbrev DpL (y:DpV) (tk:TkM) (S:Hp) (m:DpM) (R:List Pr):List Pr :=
  cel y.d 123 #[.pointer (some ⟨y.x.l,0,none⟩),.pointer (some ⟨y.x.t,0,none⟩),.pointer (some ⟨y.c,0,none⟩),.pointer (some ⟨y.q,0,none⟩),.int .i64 m.count] ::
    cel y.c 194 (qQj y.c y.x.l)::LkP y.x S m.co::WqP y.q m.wq::TkP y.x.t tk S::ro S::R
section
variable {w0 w:World} {R:List Pr} {tk:TkM} {S:Hp} {y:DpV} {m:DpM}
theorem zKy {t:Nat} (H:Hd w0 (TkP t tk S::ro S::R) w) (ht:tk.Ok) :
    Calls Tryz.prog 58 #[.pointer (some ⟨t,0,none⟩)] w fun e w'=>∃y:DpV,y.x.t=t∧e=.returned (.tuple #[.pointer (some ⟨y.d,0,none⟩),.int .i64 0])∧Hd w0 (DpL y tk S (DpM.new tk) R) w':=by
  have hc:=zKt H ht
  clear H
  go_enter Tryz.func58,Tryz.ntmps58
  go_wp2_with fail
  refine hc.mono ?_
  rintro e w1 ⟨c,x,hx,rfl,H1⟩
  clear hc
  obtain ⟨l,t',a,u,ce⟩:=x
  dsimp only at hx
  subst hx
  have k0:=(show _=some (Value.pointer (some ⟨l,0,none⟩)) from (H1.k c).ce 0 rfl)
  have hq:=zKI H1.drew
  go_wp2_with fail
  refine wm 7 [(0,true),(1,true),(2,true),(3,true),(4,true),(5,true),(6,false)] (fun w'=>w'.cell? ⟨c,0,none⟩=some (.pointer (some ⟨l,0,none⟩))) (k0) ?_
  simp only [List.drop_succ_cons,List.drop_zero]
  iterate 6 (refine mh ?_;(try simp only [Act.put,List.setIfInBounds_toArray,List.set_cons_zero,List.set_cons_succ]))
  refine mm ?_
  go_wp2_with fail
  refine hq.mono ?_
  rintro e w2 ⟨q,rfl,H2⟩
  clear hq
  go_wp2_with fail
  refine qQd (show _=some (Value.pointer (some ⟨l,0,none⟩)) from (H2.k c).ce 0 rfl) ?_
  refine qQe ?_
  (try dsimp only)
  go_wp2_with fail
  go_ret2
  refine ⟨⟨w2.heap.size,c,q,⟨l,t',a,u,ce⟩⟩,rfl,rfl,?_⟩
  have H3:Hd w0 _ (w2.alloc (.cells #[.pointer (some ⟨l,0,none⟩),.pointer (some ⟨t',0,none⟩),.pointer (some ⟨c,0,none⟩),.pointer (some ⟨q,0,none⟩),.int .i64 0] 123)):=H2.fol
  have H4:Hd w0 (cel w2.heap.size 123 #[.pointer (some ⟨l,0,none⟩),.pointer (some ⟨t',0,none⟩),.pointer (some ⟨c,0,none⟩),.pointer (some ⟨q,0,none⟩),.int .i64 0]::cel c 194 (qQj c l)::LkP ⟨l,t',a,u,ce⟩ S (CoM.new tk)::WqP q WqM.empty::TkP t' tk S::ro S::R) _:=H3.re
  exact H4
theorem qXZ (H:Hd w0 (DpL y tk S m R) w) (ht:tk.Ok) (hq:m.wq.Ok) (hc:m.count≤4611686018427387904) {i:Nat} {r:RowM} (hr:tk.rows[i]? = some r) :
    Calls Tryz.prog 45 #[.pointer (some ⟨y.d,0,none⟩),.int .i64 i] w fun e w'=>e=.returned (.tuple #[.int .i64 (if m.releaseE tk i=0 then m.count else -1),.int .i64 (m.releaseE tk i)])∧Hd w0 (DpL y tk S (m.release tk i) R) w':=by
  have hget:=qqI (show Hd w0 (TkP y.x.t tk S::ro S::cel y.d 123 #[.pointer (some ⟨y.x.l,0,none⟩),.pointer (some ⟨y.x.t,0,none⟩),.pointer (some ⟨y.c,0,none⟩),.pointer (some ⟨y.q,0,none⟩),.int .i64 m.count]::cel y.c 194 (qQj y.c y.x.l)::LkP y.x S m.co::WqP y.q m.wq::R) w from H.re) ht hr
  have hE:m.releaseE tk i=m.wq.putE i r.t.lv m.count:=by unfold DpM.releaseE;rw [hr]
  have hM:m.release tk i=if m.wq.putE i r.t.lv m.count=0 then ⟨m.co,m.wq.put i r.t.lv m.count,m.count+1⟩ else m:=by unfold DpM.release;rw [hr]
  rw [hE,hM]
  have hput:¬m.wq.putE i r.t.lv m.count=0→m.wq.put i r.t.lv m.count=m.wq:=fun h=>by unfold WqM.put;rw [if_neg h]
  obtain ⟨⟨l,t,a,u,ce⟩,hx⟩:∃x,y.x=x:=⟨_,rfl⟩
  obtain ⟨d,c,q,x⟩:=y
  dsimp only at hx
  subst hx
  have k0:=(show _=some (Value.pointer (some ⟨t,0,none⟩)) from (H.k d).ce 1 rfl)
  obtain ⟨⟨nm,lv,fr,nds,cd,p,f,gg⟩,stp⟩:=r
  dsimp only at hget hput
  have g6:IntKind.i64.wrap ((m.count:Int)+1)=(m.count:Int)+1:=IntWalk.i64_in _ (by omega)
  obtain ⟨E,hEE⟩:∃E,m.wq.putE i lv m.count=E:=⟨_,rfl⟩
  dsimp only
  rw [hEE] at hput ⊢
  replace hEE:=Lib.hid hEE
  clear hr hE hM H ht
  by_cases h0:E=0
  · rw [if_pos h0,if_pos h0]
    subst h0
    go_enter Tryz.func45,Tryz.ntmps45
    go_wp2_with fail
    refine hget.mono ?_
    rintro e w1 ⟨v,rfl,H2⟩
    clear hget k0
    obtain ⟨a1,c1,rfl,-,-,-,-⟩:=H2.slc_form
    have H3:Hd w0 _ (w1.alloc (.cells #[.string nm,.int .i64 lv,.int .i64 fr,.slice a1 nds.length c1,.string cd,.int .i64 p,.int .i64 f,.int .i64 gg] 36)):=H2.fol
    have hp:=zXo (H3.drew.k q) hq i lv m.count
    have hf:=H3.facts
    simp only [Nat.reduceAdd] at hf
    go_split_ands
    rw [hEE.out] at hp
    go_wp2_with fail
    refine wp_region_still_tail 8 (by kernel_rfl) (by kernel_rfl) ?_
    simp only [List.take_succ_cons,List.take_zero,List.drop_succ_cons,List.drop_zero,World.drew_eq]
    (repeat still_step)
    refine wpStill_nil ?_
    go_wp2_with fail
    refine hp.mono ?_
    rintro e w2 ⟨rfl,H4⟩
    clear hp H3 H2
    have hf4:=H4.facts
    simp only [Nat.reduceAdd] at hf4
    go_split_ands
    have H5:Hd w0 _ (w2.setCell ⟨d,4,none⟩ (.int .i64 ((m.count:Int)+1))):=H4.fol
    go_wp2_with fail
    go_ret2
    refine ⟨rfl,?_⟩
    have H6:Hd w0 (cel d 123 #[.pointer (some ⟨l,0,none⟩),.pointer (some ⟨t,0,none⟩),.pointer (some ⟨c,0,none⟩),.pointer (some ⟨q,0,none⟩),.int .i64 ((m.count:Int)+1)]::cel c 194 (qQj c l)::LkP ⟨l,t,a,u,ce⟩ S m.co::WqP q (m.wq.put i lv m.count)::TkP t tk S::ro S::R) _:=H5.re
    exact H6
  · rw [if_neg h0,if_neg h0]
    go_enter Tryz.func45,Tryz.ntmps45
    go_wp2_with fail
    refine hget.mono ?_
    rintro e w1 ⟨v,rfl,H2⟩
    clear hget k0
    obtain ⟨a1,c1,rfl,-,-,-,-⟩:=H2.slc_form
    have H3:Hd w0 _ (w1.alloc (.cells #[.string nm,.int .i64 lv,.int .i64 fr,.slice a1 nds.length c1,.string cd,.int .i64 p,.int .i64 f,.int .i64 gg] 36)):=H2.fol
    have hp:=zXo (H3.drew.k q) hq i lv m.count
    have hf:=H3.facts
    simp only [Nat.reduceAdd] at hf
    go_split_ands
    rw [hEE.out] at hp
    go_wp2_with fail
    refine wp_region_still_tail 8 (by kernel_rfl) (by kernel_rfl) ?_
    simp only [List.take_succ_cons,List.take_zero,List.drop_succ_cons,List.drop_zero,World.drew_eq]
    (repeat still_step)
    refine wpStill_nil ?_
    go_wp2_with fail
    refine hp.mono ?_
    rintro e w2 ⟨rfl,H4⟩
    clear hp H3 H2
    have hf4:=H4.facts
    simp only [Nat.reduceAdd] at hf4
    go_split_ands
    rw [hput h0] at H4
    go_wp2_with fail
    go_ret2
    refine ⟨rfl,?_⟩
    have H6:Hd w0 (cel d 123 #[.pointer (some ⟨l,0,none⟩),.pointer (some ⟨t,0,none⟩),.pointer (some ⟨c,0,none⟩),.pointer (some ⟨q,0,none⟩),.int .i64 m.count]::cel c 194 (qQj c l)::LkP ⟨l,t,a,u,ce⟩ S m.co::WqP q m.wq::TkP t tk S::ro S::R) _:=H4.re
    exact H6
end
end
section
open Go.RowKit Spl
section
variable {w0 w:World} {R:List Pr} {S:Hp} {x:CoV}
theorem zXL {a:Nat} {m:ArM} (H:Hd w0 (ArP a m::R) w):Calls Tryz.prog 48 #[.pointer (some ⟨a,0,none⟩)] w fun e w'=>e=.returned (.int .i64 m.used)∧w=w':=by
  obtain ⟨g,v,H1⟩:=ArP.opened H
  have c1:=(show _=some (Value.int .i64 m.used) from (H1.k a).ce 2 rfl)
  clear H H1
  go_enter Tryz.func48,Tryz.ntmps48
  go_wp2_with fail
  go_ret
  exact ⟨rfl,rfl⟩
theorem zX5 {a:Nat} {m:ArM} (H:Hd w0 (ArP a m::R) w):Calls Tryz.prog 50 #[.pointer (some ⟨a,0,none⟩)] w fun e w'=>e=.returned (.int .i64 m.high)∧w=w':=by
  obtain ⟨g,v,H1⟩:=ArP.opened H
  have c1:=(show _=some (Value.int .i64 m.high) from (H1.k a).ce 3 rfl)
  clear H H1
  go_enter Tryz.func50,Tryz.ntmps50
  go_wp2_with fail
  go_ret
  exact ⟨rfl,rfl⟩
theorem zJ7 {m:CoM} (H:Hd w0 (LkP x S m::R) w):Calls Tryz.prog 16 #[.pointer (some ⟨x.l,0,none⟩)] w fun e w'=>e=.returned (.int .i64 m.ar.used)∧w=w':=by
  obtain ⟨vj,bs,hb,H1⟩:=LkP.opened H
  obtain ⟨l,t,a,u,ce⟩:=x
  have hc:=zXL (H1.k a)
  have c1:=(show _=some (Value.pointer (some ⟨a,0,none⟩)) from (H1.k l).ce 1 rfl)
  go_enter Tryz.func16,Tryz.ntmps16
  go_wp2_with fail
  refine hc.mono ?_
  rintro e w1 ⟨rfl,rfl⟩
  clear hc
  go_wp2_with fail
  go_ret
  exact ⟨rfl,rfl⟩
theorem zXH {m:CoM} (H:Hd w0 (LkP x S m::R) w):Calls Tryz.prog 18 #[.pointer (some ⟨x.l,0,none⟩)] w fun e w'=>e=.returned (.int .i64 m.ar.high)∧w=w':=by
  obtain ⟨vj,bs,hb,H1⟩:=LkP.opened H
  obtain ⟨l,t,a,u,ce⟩:=x
  have hc:=zX5 (H1.k a)
  have c1:=(show _=some (Value.pointer (some ⟨a,0,none⟩)) from (H1.k l).ce 1 rfl)
  go_enter Tryz.func18,Tryz.ntmps18
  go_wp2_with fail
  refine hc.mono ?_
  rintro e w1 ⟨rfl,rfl⟩
  clear hc
  go_wp2_with fail
  go_ret
  exact ⟨rfl,rfl⟩
end
end
end Go.Proofs.YtkchopnkdjnocaaGreatDoor
