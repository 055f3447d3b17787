/-
  Merged texts of one proof: Co13, Dp5.
-/
import Derived.Test.YtkchopnkdjnocaaGreatDoorG07
import Derived.Test.YtkchopnkdjnocaaGreatDoorG30
import Derived.Test.YtkchopnkdjnocaaGreatDoorG38

set_option maxHeartbeats 16000000
set_option maxRecDepth 20000
namespace Go.Proofs.YtkchopnkdjnocaaGreatDoor
section
open Go.RowKit Spl
attribute [local go_sem] Oper.semAt_some
theorem zJN:(Tryz.prog.info? 213).map (fun i=>(i.zero,i.size,i.bytes))=some (some (.agg #[.int .i64 0,.int .i64 0,.int .i64 0,.int .i64 0]),4,32):=by kernel_rfl
section
variable {w0 w:World} {R:List Pr} {S:Hp} {x:CoV} {m:CoM}
theorem zQS {v:Value} {L:List ActM} {x:ActM} (h:Hd w0 (Slc 213 4 v (L.length+1) (flat L++[.int .i64 x.job,.int .i64 x.task,.int .i64 x.level,.int .i64 x.at_])::R) w):Hd w0 (SlE 213 v (L++[x])::R) w:=by
  have e1:(L++[x]).length=L.length+1:=by simp
  have e2:flat (L++[x])=flat L++[.int .i64 x.job,.int .i64 x.task,.int .i64 x.level,.int .i64 x.at_]:=by rw [qQc,qQK];rfl
  unfold SlE
  rw [e1,e2]
  exact h
def qYG (l:List StM) (k:Nat):List ActM:=(l.take k).map StM.act
theorem zXP (H:Hd w0 (LkP x S m::R) w) (hn:m.jobs.length≤1000):Calls Tryz.prog 105 #[.pointer (some ⟨x.l,0,none⟩)] w fun e w'=>∃v,e=.returned v∧Hd w0 (SlE 213 v (m.jobs.map StM.act)::LkP x S m::R) w':=by
  obtain ⟨vj,bs,hb,H1⟩:=LkP.opened H
  obtain ⟨l,t,a,u,ce⟩:=x
  have hl:=qYH (o:=4) ((H1.v vj).k l) rfl
  obtain ⟨i0,hi,hz0,hz1,hz2⟩:=info_parts zJN
  rw [List.length_map] at hl
  obtain ⟨N,hN⟩:∃N,bs.length=N:=⟨_,rfl⟩
  rw [hN] at hl hb
  have hJ:m.jobs.length=N:=hb.symm
  have hN1:N≤1000:=by omega
  replace hb:=Lib.hid hb
  replace hN:=Lib.hid hN
  replace hJ:=Lib.hid hJ
  clear H hn
  go_enter Tryz.func105,Tryz.ntmps105
  go_wp2_with fail
  refine hl.mono ?_
  rintro e w1 ⟨rfl,rfl⟩
  clear hl
  go_wp2_with (at_make;(refine qQn rfl _ _ 219 rfl 213 i0 _ 4 Tryz.underlying219 hi hz0 hz1 rfl _ _ _ _ 0 N rfl rfl rfl rfl (by omega) (by rw [hz2];omega) (by unfold maxLen;omega) H1 ?_);intro w2 H2)
  rw [qQw] at H2
  have hc:=qXj (o:=4) ((H2.v vj).k l) rfl (by rw [List.length_map,hN.out];omega)
  rw [List.length_map,hN.out] at hc
  refine hc.mono ?_
  rintro e w3 ⟨g,rfl,H3⟩
  clear hc
  have H4:Hd w0 (SlcC 213 4 w.heap.size 0 N []::all (List.zipWith (stB S) bs m.jobs)::SlcC 211 1 g N N (flat (bs.map Ptr.mk))::cel l 108 (qQt ⟨l,t,a,u,ce⟩ vj)::ArP a m.ar::UnP u m.un::CeP ce m.ce::SlE 211 vj (bs.map Ptr.mk)::R) w3:=by
    have h:Hd w0 (SlcC 211 (Enc.size Ptr) g (bs.map Ptr.mk).length N (flat (bs.map Ptr.mk))::_) w3:=H3
    rw [List.length_map,hN.out] at h
    have h2:Hd w0 (SlcC 211 1 g N N (flat (bs.map Ptr.mk))::_) w3:=h
    exact h2.re
  have H5:Hd w0 (SlE 213 (.slice (some ⟨w.heap.size,0,none⟩) 0 N) (qYG m.jobs 0)::_) w3:=H4.slc_mk
  obtain ⟨v0,hv0⟩:∃v0,Value.slice (some ⟨w.heap.size,0,none⟩) 0 N=v0:=⟨_,rfl⟩
  rw [hv0] at H5 ⊢
  clear H1 H2 H3 H4 hv0
  go_wp2_with fail
  go_loopw [3,16] (fun v y wr=>∃(k:Nat) (v':Value),k≤N∧y=.int .i64 k∧v'=v∧Hd w0 (SlE 213 v' (qYG m.jobs k)::all (List.zipWith (stB S) bs m.jobs)::SlcC 211 1 g N N (flat (bs.map Ptr.mk))::cel l 108 (qQt ⟨l,t,a,u,ce⟩ vj)::ArP a m.ar::UnP u m.un::CeP ce m.ce::SlE 211 vj (bs.map Ptr.mk)::R) wr) (fun _ y _=>N-(intOf y).toNat)
  case atStart=>exact ⟨0,_,Nat.zero_le _,rfl,rfl,H5⟩
  case round =>
    obtain ⟨k,v,hk,rfl,rfl,H6⟩:=hrel
    clear H5
    by_cases hlt:k<N
    · obtain ⟨j,hj⟩:∃j,m.jobs[k]? = some j:=⟨m.jobs[k]'(by rw [hJ.out];exact hlt),List.getElem?_eq_getElem _⟩
      obtain ⟨b,hbk⟩:∃b,bs[k]? = some b:=⟨bs[k]'(by rw [hN.out];exact hlt),List.getElem?_eq_getElem _⟩
      have e1:qYG m.jobs (k+1)=qYG m.jobs k++[j.act]:=by unfold qYG;rw [List.take_add_one,hj,List.map_append];rfl
      have hLl:(qYG m.jobs k).length=k:=by unfold qYG;rw [List.length_map,List.length_take,hJ.out];omega
      obtain ⟨L,hL⟩:∃L,qYG m.jobs k=L:=⟨_,rfl⟩
      rw [hL] at H6 e1 hLl
      obtain ⟨vs,H7⟩:=(H6.b2.row_nth hbk hj).out
      have H8:Hd w0 (fact (RoE S 83 vs j.steps)::cel b 215 (qKB j vs)::_) wr:=H7.flat
      obtain ⟨d0,d1,d2,d3⟩:wr.cell? ⟨b,0,none⟩=some (.int .i64 j.job)∧wr.cell? ⟨b,1,none⟩=some (.int .i64 j.task)∧wr.cell? ⟨b,2,none⟩=some (.int .i64 j.level)∧wr.cell? ⟨b,3,none⟩=some (.int .i64 j.pos):=⟨(H8.k b).ce 0 rfl,(H8.k b).ce 1 rfl,(H8.k b).ce 2 rfl,(H8.k b).ce 3 rfl⟩
      have d4:wr.cell? ⟨g,k,none⟩=some (.pointer (some ⟨b,0,none⟩)):=by
        have h1:(bs.map Ptr.mk)[k]? = some ⟨b⟩:=by simp [hbk]
        have:=(show Hd w0 (SlcC 211 1 g N N (flat (bs.map Ptr.mk))::R) wr from H6.re).slcC_rd (qQi h1 (j:=0) rfl)
        simpa only [Enc.size,Nat.mul_one,Nat.add_zero] using this
      have n1:(k:Int)<N:=by omega
      have n2:¬(k:Int)<0:=by omega
      have n3:¬N≤k:=by omega
      have g6:IntKind.i64.wrap ((k:Int)+1)=(k:Int)+1:=IntWalk.i64_in _ (by omega)
      have HP:Hd w0 _ (wr.alloc (.cells #[.int .i64 j.job,.int .i64 j.task,.int .i64 j.level,.int .i64 j.pos] 213)):=H6.fol
      have hP:=Lib.hid HP
      replace e1:=Lib.hid e1
      replace hLl:=Lib.hid hLl
      clear HP H6 H7 H8 hj hL
      go_wp2_with (at_builtin;refine qQb rfl _ _ 219 rfl 213 i0 _ 4 32 Tryz.underlying219 hi hz0 hz1 hz2 rfl _ _ _ rfl (show Hd w0 (Slc 213 4 v L.length (flat L)::_) _ from hP.out.v v) ⟨wr.heap.size,0,none⟩ 1 1 [.int .i64 j.job,.int .i64 j.task,.int .i64 j.level,.int .i64 j.pos] rfl rfl (qQA (hP.out.k wr.heap.size)) (by simp [Value.oneCell']) (by rw [hLl.out];unfold maxLen;omega) (by rw [hLl.out];omega) ?_;intro v' w5 H20;have H21:=zQS (x:=j.act) H20)
      go_roundw
      case rel=>exact ⟨k+1,_,by omega,by simp,rfl,by rw [e1.out];exact H21.re⟩
      case measure=>simp [intOf];omega
    · obtain rfl:k=N:=by omega
      have e1:qYG m.jobs k=m.jobs.map StM.act:=by unfold qYG;rw [List.take_of_length_le (by rw [hJ.out];omega)]
      rw [e1] at H6
      have h6:=Lib.hid H6
      clear H6 e1
      go_wp2_with fail
      go_ret
      refine ⟨_,rfl,?_⟩
      have H9:Hd w0 (cel l 108 (qQt ⟨l,t,a,u,ce⟩ vj)::ArP a m.ar::UnP u m.un::CeP ce m.ce::SlE 211 vj (bs.map Ptr.mk)::all (List.zipWith (stB S) bs m.jobs)::SlE 213 v (m.jobs.map StM.act)::R) _:=h6.out.re
      exact (LkP.shut (x:=⟨l,t,a,u,ce⟩) (vj:=vj) (bs:=bs) H9 (by rw [hN.out,hJ.out])).b2
end
end
section
open Go.RowKit Spl
attribute [local go_sem] Oper.semAt_some
section
variable {w0 w:World} {R:List Pr} {S:Hp} {tk:TkM}
abbrev dRow (l t c q:Nat) (n:Int):Array Value:=#[.pointer (some ⟨l,0,none⟩),.pointer (some ⟨t,0,none⟩),.pointer (some ⟨c,0,none⟩),.pointer (some ⟨q,0,none⟩),.int .i64 n]
theorem zZj {bx bs d l t c q i:Nat} {n:Int} {r:RowM} {s p:Int} (H:Hd w0 (cel bs 3 #[.int .i64 s]::cel bx 49 #[.pointer (some ⟨d,0,none⟩)]::cel d 123 (dRow l t c q n)::TkP t tk S::ro S::R) w) (ht:tk.Ok) (hr:tk.rows[i]? = some r)
    (h1:0≤p) (h2:p≤r.steps.length) (h3:0≤s) (h4:s≤1000000000) :
    Calls Tryz.prog 103 #[.int .i64 i,.int .i64 p,.pointer (some ⟨bx,0,none⟩),.pointer (some ⟨bs,0,none⟩)] w fun e w'=>e=.returned (.tuple #[])∧Hd w0 (cel bs 3 #[.int .i64 (s+(r.steps.length-p))]::cel bx 49 #[.pointer (some ⟨d,0,none⟩)]::cel d 123 (dRow l t c q n)::TkP t tk S::ro S::R) w':=by
  have hst:=ht.st r (List.mem_of_getElem? hr)
  have hget:=zZi (show Hd w0 (TkP t tk S::ro S::cel bs 3 #[.int .i64 s]::cel bx 49 #[.pointer (some ⟨d,0,none⟩)]::cel d 123 (dRow l t c q n)::R) w from H.re) ht hr
  have k0:=(show _=some (Value.pointer (some ⟨d,0,none⟩)) from (H.k bx).ce 0 rfl)
  have k1:=(show _=some (Value.pointer (some ⟨t,0,none⟩)) from (H.k d).ce 1 rfl)
  obtain ⟨M,hM⟩:∃M,r.steps.length=M:=⟨_,rfl⟩
  rw [hM] at h2 hst ⊢
  have g5:IntKind.i64.wrap ((M:Int)-p)=(M:Int)-p:=IntWalk.i64_in _ (by omega)
  have g6:IntKind.i64.wrap (s+((M:Int)-p))=s+((M:Int)-p):=IntWalk.i64_in _ (by omega)
  replace hM:=Lib.hid hM
  clear H
  go_enter Tryz.func103,Tryz.ntmps103
  go_wp2_with fail
  refine hget.mono ?_
  rintro e w1 ⟨v,rfl,H2⟩
  clear hget k0 k1
  obtain ⟨a1,c1,rfl,-,-,-,-⟩:=H2.slc_form
  have k2:=(show _=some (Value.int .i64 s) from (H2.k bs).ce 0 rfl)
  have f2:=(H2.k bs).fr 0
  have h5:=Lib.hid H2
  rw [hM.out]
  clear H2
  go_wp2_with fail
  go_end0
  exact ⟨rfl,Hd.fin h5.out.tail⟩
end
end
end Go.Proofs.YtkchopnkdjnocaaGreatDoor
