/-
  Merged texts of one proof: FullW, By2, Kf1.
-/
import Derived.Test.YtkchopnkdjnocaaGreatDoorG15
import Derived.Test.YtkchopnkdjnocaaGreatDoorG47
import Derived.Test.YtkchopnkdjnocaaGreatDoorG48
import Derived.Test.YtkchopnkdjnocaaGreatDoorG49

set_option maxHeartbeats 16000000
set_option maxRecDepth 20000
namespace Go.Proofs.YtkchopnkdjnocaaGreatDoor
section
open Go.RowKit Spl
instance {W:World}:Old W W [qQm W]:=⟨fun {_} H p _ hp=>(H.below.cell (p:=p) (World.block_lt_of_cell? W _ hp)).trans hp⟩
section
variable {α:Type} [Enc α] {w:World} {A:Option Addr} {l:List α}
theorem RdL.front {cap:Nat} (h:RdL w (.slice A l.length cap) l) {n c2:Nat} (hn:n≤l.length):RdL w (.slice A n c2) (l.take n):=by
  obtain ⟨A',cap',hv,h1,h2⟩:=h
  injection hv with e1 e2 e3
  subst e1
  have el:(l.take n).length=n:=by rw [List.length_take];omega
  refine ⟨A,c2,by rw [el],by omega,fun k x hx=>?_⟩
  have hk:=qQa hx
  rw [el] at hk
  rw [List.getElem?_take,if_pos hk] at hx
  exact h2 k x hx
theorem RdL.back {cap b o:Nat} (h:RdL w (.slice (some ⟨b,o,none⟩) l.length cap) l) {n c2:Nat} (hn:n≤l.length):RdL w (.slice (some ⟨b,o+n*Enc.size α,none⟩) (l.length-n) c2) (l.drop n):=by
  obtain ⟨A',cap',hv,h1,h2⟩:=h
  injection hv with e1 e2 e3
  have el:(l.drop n).length=l.length-n:=List.length_drop
  refine ⟨_,c2,by rw [el],by omega,fun k x hx=>?_⟩
  rw [List.getElem?_drop] at hx
  obtain ⟨b',o',hA,hc⟩:=h2 (n+k) x hx
  rw [← e1] at hA
  injection hA with hA
  injection hA with hb ho
  subst hb;subst ho
  refine ⟨b,o+n*Enc.size α,rfl,fun j u hj=>?_⟩
  have:=hc j u hj
  rw [Nat.add_mul] at this
  rw [show o+n*Enc.size α+k*Enc.size α+j=o+(n*Enc.size α+k*Enc.size α)+j by omega]
  exact this
theorem RdL.front2 {A A':Option Addr} {cap:Nat} (h:RdL w (.slice A l.length cap) l) {n c2:Nat} (hn:n≤l.length) (hA:0<n→A'=A):RdL w (.slice A' n c2) (l.take n):=by
  obtain ⟨A2,cap',hv,h1,h2⟩:=h
  injection hv with e1 e2 e3
  subst e1
  have el:(l.take n).length=n:=by rw [List.length_take];omega
  refine ⟨A',c2,by rw [el],by omega,fun k x hx=>?_⟩
  have hk:=qQa hx
  rw [el] at hk
  rw [List.getElem?_take,if_pos hk] at hx
  rw [hA (by omega)]
  exact h2 k x hx
theorem RdL.back2 {A A':Option Addr} {cap:Nat} (h:RdL w (.slice A l.length cap) l) {n k2 c2:Nat} (hn:n+k2=l.length) (hA:n<l.length→A'=A.map (·.add (n*Enc.size α))):RdL w (.slice A' k2 c2) (l.drop n):=by
  obtain ⟨A2,cap',hv,h1,h2⟩:=h
  injection hv with e1 e2 e3
  subst e1
  have el:(l.drop n).length=k2:=by rw [List.length_drop];omega
  refine ⟨_,c2,by rw [el],by omega,fun k x hx=>?_⟩
  rw [List.getElem?_drop] at hx
  have hlt:=qQa hx
  obtain ⟨b',o',hA',hc⟩:=h2 (n+k) x hx
  rw [hA (by omega),hA']
  refine ⟨b',o'+n*Enc.size α,by rw [Option.map_some];exact congrArg some (Addr.add_lit _ _ _),fun j u hj=>?_⟩
  have:=hc j u hj
  rw [Nat.add_mul] at this
  rw [show o'+n*Enc.size α+k*Enc.size α+j=o'+(n*Enc.size α+k*Enc.size α)+j by omega]
  exact this
end
end
section
open Go.RowKit Spl
attribute [local go_sem] Oper.semAt_some
section
variable {W:World}
theorem zXZ [Lay W [qQm W]] (H:Hd W [qQm W] W) (words:Int) {u:List Int} {a:Option Addr} {c:Nat} (hu:NdR W (.slice a u.length c) u) {v:Value} {ops:List OpK} (hR:RdK W v ops) {nm:ByteArray} {lv fr:Int} {nds:List qZy} {cd:ByteArray} {p f gg:Int} {na:Option Addr} {nc:Nat} (hx:NdR W (.slice na nds.length nc) nds) :
    Calls Tryz.prog 5 #[.agg #[.int .i64 words,.slice a u.length c],v,.agg #[.string nm,.int .i64 lv,.int .i64 fr,.slice na nds.length nc,.string cd,.int .i64 p,.int .i64 f,.int .i64 gg]] W fun e w'=>e=.returned (.bool true)∧Hd W [qQm W] w':=by
  obtain ⟨ND,hND⟩:∃ND,nds.length=ND:=⟨_,rfl⟩
  rw [hND] at hx ⊢
  replace hND:=Lib.hid hND
  have HA:Hd W _ ((W.alloc (.cells #[.int .i64 words,.slice a u.length c] 24)).alloc (.cells #[.string nm,.int .i64 lv,.int .i64 fr,.slice na ND nc,.string cd,.int .i64 p,.int .i64 f,.int .i64 gg] 36)):=H.fol
  have hu2:Srg W [qQm W] (.slice a u.length c) u:=hu.srg fun h p x hx=>(inferInstance:Old W W [qQm W]).keep h p x hx
  have hfew:=zJg (W:=W) (HA.drew) hR (most:=120) (by decide)
  have k0:=(show _=some (Value.int .i64 words) from (HA.k W.heap.size).ce 0 rfl)
  have k1:=(show _=some (Value.slice a u.length c) from (HA.k W.heap.size).ce 1 rfl)
  have hsm:∀x∈fewK ops 120,Srg W [qQm W] x.t.nv x.t.x.needs∧x.t.x.needs.length≤20:=fun x hx=>by
    obtain ⟨y,hy,e,hl⟩:=qX8 hx
    refine ⟨?_,hl⟩
    rw [e]
    exact (hR.nd y hy).srg fun h p x hx=>(inferInstance:Old W W [qQm W]).keep h p x hx
  obtain ⟨F,hF⟩:∃F,fewK ops 120=F:=⟨_,rfl⟩
  have hFl:=qKM ops 120
  rw [hF] at hfew hsm hFl
  replace hsm:=Lib.hid hsm
  replace hu2:=Lib.hid hu2
  clear hF hu hR
  obtain ⟨N,hN⟩:∃N,u.length=N:=⟨_,rfl⟩
  rw [hN] at hu2 HA k0 k1 hfew ⊢
  replace hN:=Lib.hid hN
  go_enter Tryz.func5,Tryz.ntmps5
  go_wp2_with fail
  refine wm0 [(0,true),(1,true),(2,false),(3,false),(4,true)] (fun w'=>w'.cell? ⟨W.heap.size,0,none⟩=some (.int .i64 words)∧w'.cell? ⟨W.heap.size,1,none⟩=some (.slice a N c)) (⟨k0,k1⟩) ?_
  iterate 2 (refine mh ?_;(try simp only [Act.put,List.setIfInBounds_toArray,List.set_cons_zero,List.set_cons_succ]))
  refine mm ?_
  go_wp2_with fail
  refine hfew.mono ?_
  rintro e w1 ⟨fv,rfl,H1⟩
  clear hfew HA
  have k0':=(show _=some (Value.int .i64 words) from (H1.k W.heap.size).ce 0 rfl)
  have k1':=(show _=some (Value.slice a N c) from (H1.k W.heap.size).ce 1 rfl)
  have hmade:=zQA (R:=[cel W.heap.size 24 #[.int .i64 words,.slice a N c],cel (W.heap.size+1) 36 #[.string nm,.int .i64 lv,.int .i64 fr,.slice na ND nc,.string cd,.int .i64 p,.int .i64 f,.int .i64 gg],qQm W]) (v:=fv) (F:=F) (show Hd W [SlE 69 fv F,cel W.heap.size 24 #[.int .i64 words,.slice a N c],cel (W.heap.size+1) 36 #[.string nm,.int .i64 lv,.int .i64 fr,.slice na ND nc,.string cd,.int .i64 p,.int .i64 f,.int .i64 gg],qQm W] w1 from H1.re) (words:=words) (u:=u) (vu:=.slice a N c) (hu2.out.of fun h=>h.tail.tail) (fun x hx=>⟨(hsm.out x hx).1.of fun h=>h.tail.tail,(hsm.out x hx).2⟩) (by omega)
  go_wp2_with fail
  refine qQd ⟨k0',k1'⟩ ?_
  refine mm ?_
  go_wp2_with fail
  refine hmade.mono ?_
  rintro e w2 ⟨z,S,rfl,H2⟩
  clear hmade H1 k0 k1
  have k0':=(show _=some (Value.int .i64 words) from (H2.k W.heap.size).ce 0 rfl)
  have k1':=(show _=some (Value.slice a N c) from (H2.k W.heap.size).ce 1 rfl)
  go_wp2_with fail
  refine qQd ⟨k0',k1'⟩ ?_
  iterate 1 (refine mh ?_;(try simp only [Act.put,List.setIfInBounds_toArray,List.set_cons_zero,List.set_cons_succ]))
  refine qQe ?_
  (try dsimp only)
  clear k0' k1'
  have hnew:=qXr words u
  obtain ⟨hi,he⟩:=qXS (l:=F) (KeI.new hnew (qKJ hnew)) (Ext.new (qQN words) (qZe u)) (by omega)
  obtain ⟨m,hm⟩:∃m,qYD (KeM.new (qQN words) (qZe u)) F=m:=⟨_,rfl⟩
  rw [hm] at hi he H2
  replace hi:KeI m 12000000:=hi.more (by omega)
  clear hm hnew
  have H3:Hd W (KeL z S m [cel (W.heap.size+1) 36 #[.string nm,.int .i64 lv,.int .i64 fr,.slice na ND nc,.string cd,.int .i64 p,.int .i64 f,.int .i64 gg],qQm W]) w2:=H2.re
  clear H2
  have t3:=(show _=some (Value.slice na ND nc) from (H3.k (W.heap.size+1)).ce 3 rfl)
  have t4:=(show _=some (Value.string cd) from (H3.k (W.heap.size+1)).ce 4 rfl)
  by_cases s1:(4200:Int)<cd.size
  · have hrun:=qJ0 (R:=[qQm W]) (show Hd W [qQm W] w2 from H3.re)
    clear hi he hx
    go_wp2_with fail
    refine hrun.mono ?_
    rintro e w5 ⟨rfl,H5⟩
    go_wp2_with fail
    go_ret
    exact ⟨rfl,H5⟩
  by_cases s2:(20:Int)<ND
  · have hrun:=qJ0 (R:=[qQm W]) (show Hd W [qQm W] w2 from H3.re)
    clear hi he hx
    go_wp2_with fail
    refine hrun.mono ?_
    rintro e w5 ⟨rfl,H5⟩
    go_wp2_with fail
    go_ret
    exact ⟨rfl,H5⟩
  have ht:=qWz H3 hi he
  have hi':=Lib.hid hi
  have he':=Lib.hid he
  have hx':=Lib.hid hx
  clear hi he hx
  go_wp2_with fail
  refine ht.mono ?_
  rintro e w3 ⟨t2,rfl,H4⟩
  clear ht H3 t3 t4
  have hcl:=zJc H4 hi'.out
  obtain ⟨zk,zc,zr,⟨zd,zo,zq,⟨zl,zt,za,zu,ze⟩⟩⟩:=z
  dsimp only at H4 hcl
  have kk0:=(show _=some (Value.pointer (some ⟨zl,0,none⟩)) from (H4.k zk).ce 0 rfl)
  obtain ⟨C,hC⟩:∃C,topI m.dp.co.ce=C:=⟨_,rfl⟩
  rw [hC] at hcl
  go_wp2_with fail
  refine hcl.mono ?_
  rintro e w4 ⟨rfl,rfl⟩
  clear hcl
  have hreg:=qZg H4 hi'.out (by omega) ⟨nm,lv,fr,nds,cd,p,f,gg⟩ (nv:=.slice na ND nc) (hx'.out.srg fun h p1 x1 hx1=>(inferInstance:Old W W [TkP t2 m.tk S,cel (W.heap.size+1) 36 #[.string nm,.int .i64 lv,.int .i64 fr,.slice na ND nc,.string cd,.int .i64 p,.int .i64 f,.int .i64 gg],qQm W]).keep h p1 x1 hx1) (show nds.length≤100000 by rw [hND.out];omega)
  obtain ⟨EV,hEV⟩:∃EV,m.checkE ⟨nm,lv,fr,nds,cd,p,f,gg⟩=EV:=⟨_,rfl⟩
  obtain ⟨NV,hNV⟩:∃NV:Int,(if EV=0 then (m.tk.rows.length:Int) else -1)=NV:=⟨_,rfl⟩
  rw [hEV,hNV] at hreg
  obtain ⟨m1,hm1⟩:∃m1,m.register ⟨nm,lv,fr,nds,cd,p,f,gg⟩=m1:=⟨_,rfl⟩
  rw [hm1] at hreg
  have hi1:=hi'.out.register (by omega) ⟨nm,lv,fr,nds,cd,p,f,gg⟩
  have he1:=he'.out.register hi'.out ⟨nm,lv,fr,nds,cd,p,f,gg⟩
  rw [hm1] at hi1 he1
  have hdp:m1.dp=m.dp:=by rw [← hm1];exact qV9 m _
  have htk:m1.tk=if EV=0 then m.tk.added ⟨nm,lv,fr,nds,cd,p,f,gg⟩ else m.tk:=by rw [← hm1,← hEV];exact qYj m _
  have htu:m1.tk.units=m.tk.units:=by rw [htk];split <;> rfl
  have hln:m.tk.rows.length≤m1.tk.rows.length:=by
    rw [htk]
    split
    · show m.tk.rows.length≤(m.tk.rows++[_]).length
      rw [List.length_append];omega
    · exact Nat.le_refl _
  obtain ⟨b,hb1,hb2⟩:∃b:Bool,(EV == 0)=b∧decide ((0:Int)≤NV)=b:=by
    by_cases h0:EV=0
    · exact ⟨true,by simpa using h0,by rw [← hNV,if_pos h0];simp⟩
    · exact ⟨false,by simpa using h0,by rw [← hNV,if_neg h0];rfl⟩
  have hbb:(b != b)=false:=by simp
  replace hNV:=Lib.hid hNV
  replace hEV:=Lib.hid hEV
  replace htk:=Lib.hid htk
  replace hm1:=Lib.hid hm1
  replace hdp:=Lib.hid hdp
  replace htu:=Lib.hid htu
  replace hi1:=Lib.hid hi1
  replace he1:=Lib.hid he1
  replace hC:=Lib.hid hC
  replace hln:=Lib.hid hln
  have hf:=(H4.k (W.heap.size+1)).fact1
  simp only [Nat.reduceAdd] at hf
  go_split_ands
  go_wp2_with fail
  refine hreg.mono ?_
  rintro e w5 ⟨rfl,S',hS,H5⟩
  clear hreg H4
  have H6:Hd W (KeL ⟨zk,zc,zr,⟨zd,zo,zq,⟨zl,zt,za,zu,ze⟩⟩⟩ S' m1 (TkP t2 m.tk S'::[cel (W.heap.size+1) 36 #[.string nm,.int .i64 lv,.int .i64 fr,.slice na ND nc,.string cd,.int .i64 p,.int .i64 f,.int .i64 gg],qQm W])) w5:=by
    have h1:Hd W (TkP t2 m.tk S::KeL ⟨zk,zc,zr,⟨zd,zo,zq,⟨zl,zt,za,zu,ze⟩⟩⟩ S' m1 [cel (W.heap.size+1) 36 #[.string nm,.int .i64 lv,.int .i64 fr,.slice na ND nc,.string cd,.int .i64 p,.int .i64 f,.int .i64 gg],qQm W]) w5:=H5.re
    exact (TkP.mono h1 hS).re
  clear H5
  have ht:=qWz H6 hi1.out he1.out
  go_wp2_with fail
  refine ht.mono ?_
  rintro e w6 ⟨u2,rfl,H7⟩
  clear ht H6
  have hcl:=zJc H7 hi1.out
  dsimp only at hcl
  rw [hdp.out,hC.out] at hcl
  have hlu:=qqu (show Hd W (TkP u2 m1.tk S'::KeL ⟨zk,zc,zr,⟨zd,zo,zq,⟨zl,zt,za,zu,ze⟩⟩⟩ S' m1 (TkP t2 m.tk S'::[cel (W.heap.size+1) 36 #[.string nm,.int .i64 lv,.int .i64 fr,.slice na ND nc,.string cd,.int .i64 p,.int .i64 f,.int .i64 gg],qQm W])) w6 from H7.re)
  have hlt:=qqu (show Hd W (TkP t2 m.tk S'::KeL ⟨zk,zc,zr,⟨zd,zo,zq,⟨zl,zt,za,zu,ze⟩⟩⟩ S' m1 (TkP u2 m1.tk S'::[cel (W.heap.size+1) 36 #[.string nm,.int .i64 lv,.int .i64 fr,.slice na ND nc,.string cd,.int .i64 p,.int .i64 f,.int .i64 gg],qQm W])) w6 from H7.re)
  obtain ⟨n1,hn1⟩:∃n1,m1.tk.rows.length=n1:=⟨_,rfl⟩
  obtain ⟨n0,hn0⟩:∃n0,m.tk.rows.length=n0:=⟨_,rfl⟩
  rw [hn1] at hlu
  rw [hn0] at hlt
  have l1:¬(n1:Int)<n0:=by have:=hln.out;omega
  have l2:¬n1<n0:=by have:=hln.out;omega
  have l3:n0≤n1:=by have:=hln.out;omega
  have kk0:=(show _=some (Value.pointer (some ⟨zl,0,none⟩)) from (H7.k zk).ce 0 rfl)
  replace hn1:=Lib.hid hn1
  replace hn0:=Lib.hid hn0
  go_wp2_with fail
  refine hcl.mono ?_
  rintro e w7 ⟨rfl,rfl⟩
  clear hcl
  go_wp2_with fail
  refine hlu.mono ?_
  rintro e w7 ⟨rfl,rfl⟩
  clear hlu
  go_wp2_with fail
  refine hlt.mono ?_
  rintro e w7 ⟨rfl,rfl⟩
  clear hlt
  go_wp2_with fail
  obtain ⟨NU,hNU⟩:∃NU,m.tk.units.length=NU:=⟨_,rfl⟩
  have hNU16:NU≤16:=by have:=hi'.out.t.t.u;omega
  replace hNU:=Lib.hid hNU
  go_loopw [13] (fun y wr=>∃q:Nat,q≤NU∧y=.int .i64 q∧Hd W (KeL ⟨zk,zc,zr,⟨zd,zo,zq,⟨zl,zt,za,zu,ze⟩⟩⟩ S' m1 (TkP u2 m1.tk S'::TkP t2 m.tk S'::[cel (W.heap.size+1) 36 #[.string nm,.int .i64 lv,.int .i64 fr,.slice na ND nc,.string cd,.int .i64 p,.int .i64 f,.int .i64 gg],qQm W])) wr) (fun y _=>NU-(intOf y).toNat)
  case atStart=>exact ⟨0,Nat.zero_le _,rfl,H7⟩
  case round =>
    clear H7
    obtain ⟨q,hq,rfl,H8⟩:=hrel
    have hun:=qYe (show Hd W (TkP t2 m.tk S'::KeL ⟨zk,zc,zr,⟨zd,zo,zq,⟨zl,zt,za,zu,ze⟩⟩⟩ S' m1 (TkP u2 m1.tk S'::[cel (W.heap.size+1) 36 #[.string nm,.int .i64 lv,.int .i64 fr,.slice na ND nc,.string cd,.int .i64 p,.int .i64 f,.int .i64 gg],qQm W])) _ from H8.re) hi'.out.t.t
    rw [hNU.out] at hun
    go_wp2_with fail
    refine hun.mono ?_
    rintro e w8 ⟨g,rfl,H9⟩
    clear hun
    have H10:Hd W (KeL ⟨zk,zc,zr,⟨zd,zo,zq,⟨zl,zt,za,zu,ze⟩⟩⟩ S' m1 (TkP u2 m1.tk S'::TkP t2 m.tk S'::[cel (W.heap.size+1) 36 #[.string nm,.int .i64 lv,.int .i64 fr,.slice na ND nc,.string cd,.int .i64 p,.int .i64 f,.int .i64 gg],qQm W])) w8:=H9.re
    clear H8 H9
    by_cases hlt:q<NU
    · have n1:(q:Int)<NU:=by omega
      have g5:IntKind.i64.wrap ((q:Int)+1)=(q:Int)+1:=IntWalk.i64_in _ (by omega)
      have kk0:=(show _=some (Value.pointer (some ⟨zl,0,none⟩)) from (H10.k zk).ce 0 rfl)
      have hho:=zQh H10 hi1.out (r:=q) (by rw [htu.out,hNU.out];exact hlt)
      dsimp only at hho
      rw [hdp.out] at hho
      obtain ⟨HL,hHL⟩:∃HL,(qQS m.dp.co.un q).length=HL:=⟨_,rfl⟩
      go_wp2_with fail
      refine hho.mono ?_
      rintro e w9 ⟨hv,rfl,H11⟩
      clear hho
      obtain ⟨ha,hc,hve,-,-,-,-⟩:=H11.slc_form
      rw [hHL] at hve
      subst hve
      have H12:Hd W (KeL ⟨zk,zc,zr,⟨zd,zo,zq,⟨zl,zt,za,zu,ze⟩⟩⟩ S' m1 (TkP u2 m1.tk S'::TkP t2 m.tk S'::[cel (W.heap.size+1) 36 #[.string nm,.int .i64 lv,.int .i64 fr,.slice na ND nc,.string cd,.int .i64 p,.int .i64 f,.int .i64 gg],qQm W])) w9:=H11.re
      clear H10 H11 kk0
      replace hHL:=Lib.hid hHL
      by_cases hz:HL=0
      · subst hz
        go_wp2_with fail
        go_roundw
        case rel=>exact ⟨q+1,by omega,by simp,H12⟩
        case measure=>simp [intOf];omega
      · have n2:¬(HL:Int)=0:=by omega
        have hpos:0<(qQS m.dp.co.un q).length:=by rw [hHL.out];omega
        obtain ⟨U,hU⟩:∃U:Nat,m.tk.units[q]? = some (U:Int):=by
          have h1:q<m.tk.units.length:=by rw [hNU.out];exact hlt
          have h2:=hi'.out.t.t.uv _ (List.getElem_mem h1)
          refine ⟨(m.tk.units[q]).toNat,?_⟩
          rw [List.getElem?_eq_getElem h1]
          congr 1
          omega
        have hU255:U≤255:=by have:=hi'.out.t.t.uv _ (List.mem_of_getElem? hU);omega
        have hrow:=qVw hi'.out (x:=⟨nm,lv,fr,nds,cd,p,f,gg⟩) hpos U
        rw [hm1.out] at hrow
        obtain ⟨L,hL⟩:∃L,rowU m.tk.rows q U=L:=⟨_,rfl⟩
        rw [hL] at hrow
        have hLl:L.length=U+1:=by rw [← hL];exact qUI hU255
        have hU1:m1.tk.units[q]? = some (U:Int):=by rw [htu.out];exact hU
        have hr1:=zXQ (show Hd W (KeL ⟨zk,zc,zr,⟨zd,zo,zq,⟨zl,zt,za,zu,ze⟩⟩⟩ S' m1 (TkP t2 m.tk S'::TkP u2 m1.tk S'::[cel (W.heap.size+1) 36 #[.string nm,.int .i64 lv,.int .i64 fr,.slice na ND nc,.string cd,.int .i64 p,.int .i64 f,.int .i64 gg],qQm W])) w9 from H12.re) hi'.out.t.t hU
        rw [hL] at hr1
        replace hL:=Lib.hid hL
        replace hU:=Lib.hid hU
        replace hLl:=Lib.hid hLl
        go_wp2_with fail
        refine hr1.mono ?_
        rintro e w10 ⟨v1,rfl,H13⟩
        clear hr1 H12
        have hr2:=zXQ (show Hd W (KeL ⟨zk,zc,zr,⟨zd,zo,zq,⟨zl,zt,za,zu,ze⟩⟩⟩ S' m1 (TkP u2 m1.tk S'::SlE 3 v1 L::TkP t2 m.tk S'::[cel (W.heap.size+1) 36 #[.string nm,.int .i64 lv,.int .i64 fr,.slice na ND nc,.string cd,.int .i64 p,.int .i64 f,.int .i64 gg],qQm W])) w10 from H13.re) hi1.out.t.t hU1
        rw [hrow] at hr2
        replace hrow:=Lib.hid hrow
        replace hU1:=Lib.hid hU1
        go_wp2_with fail
        refine hr2.mono ?_
        rintro e w11 ⟨v2,rfl,H14⟩
        clear hr2 H13
        have rd1:Rds w11 v1 (ints L):=by
          have h:=(H14.v v1)
          have h2:=Rds.of_slc h (by have:=hLl.out;omega)
          rwa [qXW] at h2
        have rd2:Rds w11 v2 (ints L):=by
          have h:=(H14.v v2)
          have h2:=Rds.of_slc h (by have:=hLl.out;omega)
          rwa [qXW] at h2
        have hsame:=zQ3 rd1 rd2
        rw [decide_eq_true rfl] at hsame
        have H15:Hd W (KeL ⟨zk,zc,zr,⟨zd,zo,zq,⟨zl,zt,za,zu,ze⟩⟩⟩ S' m1 (TkP u2 m1.tk S'::TkP t2 m.tk S'::[cel (W.heap.size+1) 36 #[.string nm,.int .i64 lv,.int .i64 fr,.slice na ND nc,.string cd,.int .i64 p,.int .i64 f,.int .i64 gg],qQm W])) w11:=H14.re
        clear H14 rd1 rd2
        go_wp2_with fail
        refine hsame.mono ?_
        rintro e w12 ⟨rfl,n,rfl⟩
        clear hsame
        have H16:=H15.drewN n
        clear H15
        go_wp2_with fail
        go_loopw [14] (fun y wr=>∃j:Nat,j≤ND∧y=.int .i64 j∧Hd W (KeL ⟨zk,zc,zr,⟨zd,zo,zq,⟨zl,zt,za,zu,ze⟩⟩⟩ S' m1 (TkP u2 m1.tk S'::TkP t2 m.tk S'::[cel (W.heap.size+1) 36 #[.string nm,.int .i64 lv,.int .i64 fr,.slice na ND nc,.string cd,.int .i64 p,.int .i64 f,.int .i64 gg],qQm W])) wr) (fun y _=>ND-(intOf y).toNat)
        case atStart=>exact ⟨0,Nat.zero_le _,rfl,H16⟩
        case round =>
          clear H16
          obtain ⟨j,hj,rfl,H17⟩:=hrel
          have t3:=(show _=some (Value.slice na ND nc) from (H17.k (W.heap.size+1)).ce 3 rfl)
          by_cases hjl:j<ND
          · obtain ⟨nx,hnx⟩:∃nx,nds[j]? = some nx:=⟨nds[j]'(by rw [hND.out];exact hjl),List.getElem?_eq_getElem _⟩
            have hsr:Srg W [qQm W] (.slice na ND nc) nds:=hx'.out.srg fun h p x hx=>(inferInstance:Old W W [qQm W]).keep h p x hx
            obtain ⟨ng,no,nc2,hve,-,hcell⟩:=hsr.at hnx
            injection hve with q1 q2 q3
            subst q1;subst q3
            have d0:=hcell (show Hd W [qQm W] _ from H17.re) 0 (.int .i64 nx.res) rfl
            simp only [Enc.size,Nat.add_zero] at d0
            have m1':¬(j:Int)<0:=by omega
            have m2:(j:Int)<ND:=by omega
            have m3:¬ND≤j:=by omega
            have g7:IntKind.i64.wrap ((j:Int)+1)=(j:Int)+1:=IntWalk.i64_in _ (by omega)
            obtain ⟨xr,xu⟩:=nx
            dsimp only at d0
            have hH:=Lib.hid H17
            have hno:xr=q→b=false:=by
              intro e
              have h0:¬EV=0:=fun h0=>qX4 hi'.out (x:=⟨nm,lv,fr,nds,cd,p,f,gg⟩) (by rw [hEV.out];exact h0) hpos ⟨xr,xu⟩ (List.mem_of_getElem? hnx) e
              rw [← hb1];simpa using h0
            replace hnx:=Lib.hid hnx
            clear hcell hsr q2 H17
            by_cases k1:xr=q
            · have k2:=hno k1
              subst k2
              have k3:(xr == (q:Int))=true:=by simpa using k1
              clear hno
              replace k1:=Lib.hid k1
              go_wp2_with fail
              go_roundw
              case rel=>exact ⟨j+1,by omega,by simp,hH.out⟩
              case measure=>simp [intOf];omega
            · have k3:(xr == (q:Int))=false:=by simpa using k1
              clear hno
              go_wp2_with fail
              go_roundw
              case rel=>exact ⟨j+1,by omega,by simp,hH.out⟩
              case measure=>simp [intOf];omega
          · obtain rfl:j=ND:=by omega
            have hH:=Lib.hid H17
            clear H17
            go_wp2_with fail
            go_roundw
            case rel=>exact ⟨q+1,by omega,by simp,hH.out⟩
            case measure=>simp [intOf];omega
    · obtain rfl:q=NU:=by omega
      have hrun:=qJ0 (R:=[qQm W]) (show Hd W [qQm W] _ from H10.re)
      clear H10
      go_wp2_with fail
      refine hrun.mono ?_
      rintro e w5 ⟨rfl,H5⟩
      go_wp2_with fail
      go_ret
      exact ⟨rfl,H5⟩
end
end
section
open Go.RowKit Spl
attribute [local go_sem] Oper.semAt_some
section
variable {W:World}
theorem zXg [Lay W [qQm W]] (H:Hd W [qQm W] W) (words:Int) {u:List Int} {a:Option Addr} {c:Nat} (hu:NdR W (.slice a u.length c) u) {v:Value} {ops:List OpK} (hR:RdK W v ops) (id:Int) :
    Calls Tryz.prog 3 #[.agg #[.int .i64 words,.slice a u.length c],v,.int .i64 id] W fun e w'=>e=.returned (.bool true)∧Hd W [qQm W] w':=by
  have HA:Hd W _ (W.alloc (.cells #[.int .i64 words,.slice a u.length c] 24)):=H.fol
  have hu2:Srg W [qQm W] (.slice a u.length c) u:=hu.srg fun h p x hx=>(inferInstance:Old W W [qQm W]).keep h p x hx
  have hfew:=zJg (W:=W) (HA.drew) hR (most:=100) (by decide)
  have k0:=(show _=some (Value.int .i64 words) from (HA.k W.heap.size).ce 0 rfl)
  have k1:=(show _=some (Value.slice a u.length c) from (HA.k W.heap.size).ce 1 rfl)
  have hsm:∀x∈fewK ops 100,Srg W [qQm W] x.t.nv x.t.x.needs∧x.t.x.needs.length≤20:=fun x hx=>by
    obtain ⟨y,hy,e,hl⟩:=qX8 hx
    refine ⟨?_,hl⟩
    rw [e]
    exact (hR.nd y hy).srg fun h p x hx=>(inferInstance:Old W W [qQm W]).keep h p x hx
  obtain ⟨F,hF⟩:∃F,fewK ops 100=F:=⟨_,rfl⟩
  have hFl:=qKM ops 100
  rw [hF] at hfew hsm hFl
  replace hsm:=Lib.hid hsm
  replace hu2:=Lib.hid hu2
  clear hF hu hR
  obtain ⟨N,hN⟩:∃N,u.length=N:=⟨_,rfl⟩
  rw [hN] at hu2 HA k0 k1 hfew ⊢
  replace hN:=Lib.hid hN
  go_enter Tryz.func3,Tryz.ntmps3
  go_wp2_with fail
  refine wm0 [(0,true),(1,true),(2,false),(3,false),(4,true)] (fun w'=>w'.cell? ⟨W.heap.size,0,none⟩=some (.int .i64 words)∧w'.cell? ⟨W.heap.size,1,none⟩=some (.slice a N c)) (⟨k0,k1⟩) ?_
  iterate 2 (refine mh ?_;(try simp only [Act.put,List.setIfInBounds_toArray,List.set_cons_zero,List.set_cons_succ]))
  refine mm ?_
  go_wp2_with fail
  refine hfew.mono ?_
  rintro e w1 ⟨fv,rfl,H1⟩
  clear hfew HA
  have k0':=(show _=some (Value.int .i64 words) from (H1.k W.heap.size).ce 0 rfl)
  have k1':=(show _=some (Value.slice a N c) from (H1.k W.heap.size).ce 1 rfl)
  have hmade:=zQA (R:=[cel W.heap.size 24 #[.int .i64 words,.slice a N c],qQm W]) (v:=fv) (F:=F) (show Hd W [SlE 69 fv F,cel W.heap.size 24 #[.int .i64 words,.slice a N c],qQm W] w1 from H1.re) (words:=words) (u:=u) (vu:=.slice a N c) (hu2.out.of fun h=>h.tail) (fun x hx=>⟨(hsm.out x hx).1.of fun h=>h.tail,(hsm.out x hx).2⟩) (by omega)
  go_wp2_with fail
  refine qQd ⟨k0',k1'⟩ ?_
  refine mm ?_
  go_wp2_with fail
  refine hmade.mono ?_
  rintro e w2 ⟨z,S,rfl,H2⟩
  clear hmade H1 k0 k1
  have k0':=(show _=some (Value.int .i64 words) from (H2.k W.heap.size).ce 0 rfl)
  have k1':=(show _=some (Value.slice a N c) from (H2.k W.heap.size).ce 1 rfl)
  go_wp2_with fail
  refine qQd ⟨k0',k1'⟩ ?_
  iterate 1 (refine mh ?_;(try simp only [Act.put,List.setIfInBounds_toArray,List.set_cons_zero,List.set_cons_succ]))
  refine qQe ?_
  (try dsimp only)
  clear k0' k1'
  have hnew:=qXr words u
  obtain ⟨hi,he⟩:=qXS (l:=F) (KeI.new hnew (qKJ hnew)) (Ext.new (qQN words) (qZe u)) (by omega)
  obtain ⟨m,hm⟩:∃m,qYD (KeM.new (qQN words) (qZe u)) F=m:=⟨_,rfl⟩
  rw [hm] at hi he H2
  replace hi:KeI m 10000000:=hi.more (by omega)
  clear hm hnew
  have H3:Hd W (KeL z S m [qQm W]) w2:=H2.re
  clear H2
  have ht:=qWz H3 hi he
  have hi':=Lib.hid hi
  have he':=Lib.hid he
  clear hi he
  go_wp2_with fail
  refine ht.mono ?_
  rintro e w3 ⟨t2,rfl,H4⟩
  clear ht H3
  obtain ⟨n,hn⟩:∃n,m.tk.rows.length=n:=⟨_,rfl⟩
  have hlen:=qqu (show Hd W (TkP t2 m.tk S::ro S::[qQm W]) w3 from H4.re)
  rw [hn] at hlen
  have hn64:n≤64:=by have:=hi'.out.t.t.n;omega
  go_wp2_with fail
  refine hlen.mono ?_
  rintro e w4 ⟨rfl,rfl⟩
  by_cases hz:n=0
  · subst hz
    have hrun:=qJ0 (R:=[qQm W]) (show Hd W [qQm W] w3 from H4.re)
    clear hlen
    go_wp2_with fail
    refine hrun.mono ?_
    rintro e w5 ⟨rfl,H5⟩
    go_wp2_with fail
    go_ret
    exact ⟨rfl,H5⟩
  have n0:¬(n:Int)=0:=by omega
  have g1:IntKind.i64.wrap ((n:Int)-1)=(n:Int)-1:=IntWalk.i64_in _ (by omega)
  obtain ⟨i,hiw,hin⟩:∃i:Nat,qYn id 0 ((n:Int)-1)=i∧i<n:=by
    have:=zZc (n:=id) (lo:=0) (hi:=(n:Int)-1) (by omega)
    exact ⟨(qYn id 0 ((n:Int)-1)).toNat,by omega,by omega⟩
  have hwi:=fun (w:World)=>qV2 (w:=w) id 0 ((n:Int)-1) (by omega) (by omega) (by omega)
  rw [hiw] at hwi
  replace hwi:=Lib.hid hwi
  obtain ⟨r,hr⟩:∃r,m.tk.rows[i]? = some r:=⟨m.tk.rows[i]'(by omega),List.getElem?_eq_getElem _⟩
  have hget:=fun (w1:World) (X:List Pr) (h1:Hd W (TkP t2 m.tk S::ro S::X) w1)=>qqI h1 hi'.out.t.t hr
  replace hget:=Lib.hid hget
  replace hn:=Lib.hid hn
  clear hiw
  go_wp2_with fail
  refine hlen.mono ?_
  rintro e w4 ⟨rfl,rfl⟩
  clear hlen
  have hwc:=hwi.out w3
  go_wp2_with fail
  refine hwc.mono ?_
  rintro e w4 ⟨rfl,rfl⟩
  clear hwc hwi
  obtain ⟨zk,zc,zr,⟨zd,zo,zq,⟨zl,zt,za,zu,ze⟩⟩⟩:=z
  have hgc:=hget.out w3 (cel zk 53 #[.pointer (some ⟨zl,0,none⟩),.pointer (some ⟨zt,0,none⟩),.pointer (some ⟨zd,0,none⟩),.pointer (some ⟨zc,0,none⟩),.pointer (some ⟨zr,0,none⟩)]::qQE zc m.ck::qQT zr m.ev::cel zd 123 #[.pointer (some ⟨zl,0,none⟩),.pointer (some ⟨zt,0,none⟩),.pointer (some ⟨zo,0,none⟩),.pointer (some ⟨zq,0,none⟩),.int .i64 m.dp.count]::cel zo 194 (qQj zo zl)::LkP ⟨zl,zt,za,zu,ze⟩ S m.dp.co::WqP zq m.dp.wq::TkP zt m.tk S::[qQm W]) H4.re
  go_wp2_with fail
  refine hgc.mono ?_
  rintro e w4 ⟨nv,rfl,H5⟩
  clear hgc hget H4
  obtain ⟨na,nc,rfl,-,-,-,-⟩:=H5.slc_form
  obtain ⟨⟨nm,lv,fr,nds,cd,p,f,gg⟩,stp⟩:=r
  dsimp only at H5
  obtain ⟨NL,hNL⟩:∃NL,nds.length=NL:=⟨_,rfl⟩
  rw [hNL] at H5 ⊢
  replace hNL:=Lib.hid hNL
  have H6:Hd W _ (w4.alloc (.cells #[.string nm,.int .i64 lv,.int .i64 fr,.slice na NL nc,.string cd,.int .i64 p,.int .i64 f,.int .i64 gg] 36)):=H5.fol
  have H7:Hd W (KeL ⟨zk,zc,zr,⟨zd,zo,zq,⟨zl,zt,za,zu,ze⟩⟩⟩ S m (cel w4.heap.size 36 #[.string nm,.int .i64 lv,.int .i64 fr,.slice na NL nc,.string cd,.int .i64 p,.int .i64 f,.int .i64 gg]::[qQm W])) _:=H6.re
  replace hr:=Lib.hid hr
  clear H5 H6
  dsimp only
  go_wp2_with fail
  obtain ⟨B,hB⟩:∃B,w4.heap.size=B:=⟨_,rfl⟩
  rw [hB] at H7 ⊢
  replace hB:=Lib.hid hB
  go_loopw [11] (fun y wr=>∃(q:Nat) (mq:KeM) (kq:Nat),q≤10∧y=.int .i64 q∧KeI mq kq∧kq≤10000000+q∧Ext mq∧mq.tk=m.tk∧Hd W (KeL ⟨zk,zc,zr,⟨zd,zo,zq,⟨zl,zt,za,zu,ze⟩⟩⟩ S mq (cel B 36 #[.string nm,.int .i64 lv,.int .i64 fr,.slice na NL nc,.string cd,.int .i64 p,.int .i64 f,.int .i64 gg]::[qQm W])) wr) (fun y _=>10-(intOf y).toNat)
  case atStart=>exact ⟨0,m,10000000,Nat.zero_le _,rfl,hi'.out,Nat.le_refl _,he'.out,rfl,H7⟩
  case round =>
    obtain ⟨q,mq,kq,hq,rfl,hIq,hkq,hEq,htq,H8⟩:=hrel
    clear H7
    by_cases hlt:q<10
    · have hw:=qYg H8 hIq
      have hrq:mq.tk.rows[i]? = some ⟨⟨nm,lv,fr,nds,cd,p,f,gg⟩,stp⟩:=by rw [htq];exact hr.out
      obtain ⟨f1,f2,f3,f4,f5⟩:=qWR hIq hEq hrq
      dsimp only at f1 f2 f3 f4 f5
      have hLW:(qZJ mq.dp.wq.qs).length≤32000:=by
        have h1:=qKH (qs:=mq.dp.wq.qs) (fun l hl=>hIq.d.q.ok.l l hl) mq.dp.wq.qs.length
        have h2:=hIq.d.q.q
        unfold qZJ
        rw [List.length_map]
        rw [h2] at h1 ⊢
        omega
      obtain ⟨Wl,hWl⟩:∃Wl,qZJ mq.dp.wq.qs=Wl:=⟨_,rfl⟩
      rw [hWl] at hw f1 f2 f4 hLW
      obtain ⟨LW,hLWe⟩:∃LW,Wl.length=LW:=⟨_,rfl⟩
      rw [hLWe] at hLW f1 f2 f4
      have hrl:=qZ2 (R:=_) H8 hIq (by omega) i
      have g6:IntKind.i64.wrap ((q:Int)+1)=(q:Int)+1:=IntWalk.i64_in _ (by omega)
      have n1:(q:Int)<10:=by omega
      replace f2:=Lib.hid f2
      replace f3:=Lib.hid f3
      replace f4:=Lib.hid f4
      replace f5:=Lib.hid f5
      replace hLWe:=Lib.hid hLWe
      replace hWl:=Lib.hid hWl
      replace hrq:=Lib.hid hrq
      replace htq:=Lib.hid htq
      clear hrl
      go_wp2_with fail
      refine hw.mono ?_
      rintro e w5 ⟨wv,rfl,H9⟩
      clear hw H8
      obtain ⟨wa,wc,hwv,hwcp,-,-,-⟩:=H9.slc_form
      rw [hLWe.out] at hwv hwcp
      subst hwv
      replace hwcp:=Lib.hid hwcp
      go_wp2_with fail
      go_loopw [13,14,15] (fun y1 y2 y3 wq=>∃j:Nat,j≤LW∧y1=.int .i64 (qKC Wl i j)∧y2=.int .i64 (qJg Wl lv j)∧y3=.int .i64 j∧Hd W (SlE 42 (.slice wa LW wc) Wl::KeL ⟨zk,zc,zr,⟨zd,zo,zq,⟨zl,zt,za,zu,ze⟩⟩⟩ S mq (cel B 36 #[.string nm,.int .i64 lv,.int .i64 fr,.slice na NL nc,.string cd,.int .i64 p,.int .i64 f,.int .i64 gg]::[qQm W])) wq) (fun _ _ y3 _=>LW-(intOf y3).toNat)
      case atStart=>exact ⟨0,Nat.zero_le _,rfl,rfl,rfl,H9⟩
      case round =>
        obtain ⟨j,hj,rfl,rfl,rfl,H10⟩:=hrel
        clear H9
        by_cases hjl:j<LW
        · obtain ⟨x,hx⟩:∃x,Wl[j]? = some x:=⟨Wl[j]'(by rw [hLWe.out];exact hjl),List.getElem?_eq_getElem _⟩
          have hcs:=qqM (id:=i) hx
          have hls:qJg Wl lv (j+1)=if lv≤x.level then (j:Int) else qJg Wl lv j:=by
            show (match Wl[j]? with | none=>qJg Wl lv j | some x=>if lv≤x.level then (j:Int) else qJg Wl lv j)=_
            rw [hx]
          have hcl:=zZS Wl i j
          rw [hLWe.out] at hcl
          obtain ⟨wg,wc2,hve,H11⟩:=H10.slc_at (by rw [hLWe.out];omega)
          rw [hLWe.out] at hve
          injection hve with q1 q2 q3
          clear q2
          subst q1
          subst q3
          obtain ⟨xj,xt,xl⟩:=x
          dsimp only at hcs hls
          have d1:=H11.slcC_rd (qQi hx (j:=1) (u:=.int .i64 xt) rfl)
          have d2:=H11.slcC_rd (qQi hx (j:=2) (u:=.int .i64 xl) rfl)
          have d3:=(show _=some (Value.int .i64 lv) from (H10.k B).ce 1 rfl)
          simp only [Enc.size] at d1 d2
          obtain ⟨CN,hCN⟩:∃CN,qKC Wl i j=CN:=⟨_,rfl⟩
          obtain ⟨LT,hLT⟩:∃LT,qJg Wl lv j=LT:=⟨_,rfl⟩
          rw [hCN] at hcs hcl ⊢
          rw [hLT] at hls ⊢
          have m1:(j:Int)<LW:=by omega
          have m2:¬(j:Int)<0:=by omega
          have m3:¬LW≤j:=by omega
          have g7:IntKind.i64.wrap ((j:Int)+1)=(j:Int)+1:=IntWalk.i64_in _ (by omega)
          have g8:IntKind.i64.wrap ((CN:Int)+1)=(CN:Int)+1:=IntWalk.i64_in _ (by omega)
          replace hx:=Lib.hid hx
          have hH:=Lib.hid H10
          clear H11 H10 hCN hLT
          by_cases c1:xt=i
          · rw [if_pos c1] at hcs
            have b1:(xt == (i:Int))=true:=by simpa using c1
            by_cases c2:lv≤xl
            · rw [if_pos c2] at hls
              have b2:decide (lv≤xl)=true:=by simpa using c2
              replace hcs:=Lib.hid hcs
              replace hls:=Lib.hid hls
              go_wp2_with (go_quiet (fail))
              go_roundw
              case rel=>exact ⟨j+1,by omega,by rw [hcs.out];first | rfl | simp,by rw [hls.out],by simp,by first | exact hH.out | exact hH.out.drew | exact hH.out.drewN _⟩
              case measure=>simp [intOf];omega
            · rw [if_neg c2] at hls
              have b2:decide (lv≤xl)=false:=by simpa using c2
              replace hcs:=Lib.hid hcs
              replace hls:=Lib.hid hls
              go_wp2_with (go_quiet (fail))
              go_roundw
              case rel=>exact ⟨j+1,by omega,by rw [hcs.out];first | rfl | simp,by rw [hls.out],by simp,by first | exact hH.out | exact hH.out.drew | exact hH.out.drewN _⟩
              case measure=>simp [intOf];omega
          · rw [if_neg c1] at hcs
            have b1:(xt == (i:Int))=false:=by simpa using c1
            by_cases c2:lv≤xl
            · rw [if_pos c2] at hls
              have b2:decide (lv≤xl)=true:=by simpa using c2
              replace hcs:=Lib.hid hcs
              replace hls:=Lib.hid hls
              go_wp2_with (go_quiet (fail))
              go_roundw
              case rel=>exact ⟨j+1,by omega,by rw [hcs.out];first | rfl | simp,by rw [hls.out],by simp,by first | exact hH.out | exact hH.out.drew | exact hH.out.drewN _⟩
              case measure=>simp [intOf];omega
            · rw [if_neg c2] at hls
              have b2:decide (lv≤xl)=false:=by simpa using c2
              replace hcs:=Lib.hid hcs
              replace hls:=Lib.hid hls
              go_wp2_with (go_quiet (fail))
              go_roundw
              case rel=>exact ⟨j+1,by omega,by rw [hcs.out];first | rfl | simp,by rw [hls.out],by simp,by first | exact hH.out | exact hH.out.drew | exact hH.out.drewN _⟩
              case measure=>simp [intOf];omega
        · obtain rfl:j=LW:=by omega
          obtain ⟨CN,hCN⟩:∃CN,qKC Wl i j=CN:=⟨_,rfl⟩
          obtain ⟨LT,hLT⟩:∃LT,qJg Wl lv j=LT:=⟨_,rfl⟩
          rw [hCN] at f1 f2 f4 ⊢
          rw [hLT]
          replace hCN:=Lib.hid hCN
          replace hLT:=Lib.hid hLT
          have m1:¬(8:Int)<CN:=by omega
          have hrl:=qZ2 (R:=SlE 42 (.slice wa j wc) Wl::_) (show Hd W (KeL ⟨zk,zc,zr,⟨zd,zo,zq,⟨zl,zt,za,zu,ze⟩⟩⟩ S mq (SlE 42 (.slice wa j wc) Wl::cel B 36 #[.string nm,.int .i64 lv,.int .i64 fr,.slice na NL nc,.string cd,.int .i64 p,.int .i64 f,.int .i64 gg]::[qQm W])) _ from H10.re) hIq (by omega) i
          by_cases hE:mq.releaseE i=0
          · rw [hE,if_pos rfl] at hrl
            go_wp2_with fail
            refine hrl.mono ?_
            rintro e w6 ⟨rfl,H11⟩
            clear hrl H10
            have hI2:=hIq.release (by omega) (i:Int)
            have hE2:=hEq.release (i:Int)
            have ht2:(mq.release i).tk=mq.tk:=by unfold KeM.release;split <;> rfl
            obtain ⟨hn8,P1,P2,hsp,hsp2,hup,hlo⟩:=f2.out hE
            obtain ⟨mr,hmr⟩:∃mr,mq.release i=mr:=⟨_,rfl⟩
            rw [hmr] at H11 hI2 hE2 ht2 hsp2
            have hw2:=qYg H11 hI2
            rw [hsp2] at hw2
            obtain ⟨JB,hJB⟩:∃JB,mq.dp.count=JB:=⟨_,rfl⟩
            rw [hJB] at hw2 ⊢
            clear hsp2 hJB
            have hLTe:LT=(P1.length:Int)-1:=by
              have h1:=qKs (lv:=lv) hup hlo (P1++P2).length (Nat.le_refl _)
              rw [← hsp,hLWe.out,hLT.out] at h1
              have h2:j=P1.length+P2.length:=by rw [← hLWe.out,hsp,List.length_append]
              rw [h1]
              split <;> omega
            obtain ⟨α,hα⟩:∃α,P1.length=α:=⟨_,rfl⟩
            obtain ⟨β,hβ⟩:∃β,P2.length=β:=⟨_,rfl⟩
            have hjab:j=α+β:=by rw [← hLWe.out,hsp,List.length_append,hα,hβ]
            rw [hα] at hLTe
            subst hLTe
            subst hjab
            have hsp':=Lib.hid hsp
            have hI2':=Lib.hid hI2
            have hE2':=Lib.hid hE2
            have ht2':=Lib.hid ht2
            have hup':=Lib.hid hup
            have hlo':=Lib.hid hlo
            have hE':=Lib.hid hE
            replace hα:=Lib.hid hα
            replace hβ:=Lib.hid hβ
            clear hsp hI2 hE2 ht2 hup hlo hE hmr
            go_wp2_with fail
            refine hw2.mono ?_
            rintro e w7 ⟨wv2,rfl,H12⟩
            clear hw2 H11
            have hL2:(P1++⟨JB,i,lv⟩::P2).length=α+β+1:=by rw [List.length_append,List.length_cons,hα.out,hβ.out];omega
            obtain ⟨va,vc,rfl,q1,H13⟩:∃g c,wv2=.slice (some ⟨g,0,none⟩) (α+β+1) c∧α+β+1≤c∧Hd W (SlEC 42 g c (P1++⟨JB,i,lv⟩::P2)::_) w7:=by
              obtain ⟨g,c,he,h⟩:=H12.slc_at (by omega)
              rw [hL2] at he
              have:=h.slcC
              rw [hL2] at this
              exact ⟨g,c,he,this.2.1,h⟩
            have x1:(P1++⟨JB,i,lv⟩::P2)[α]? = some (⟨JB,i,lv⟩:qQh):=by rw [← hα.out,List.getElem?_append_right (Nat.le_refl _),Nat.sub_self];rfl
            have c0:=H13.slcC_rd (qQi x1 (j:=0) (u:=.int .i64 JB) rfl)
            have c1:=H13.slcC_rd (qQi x1 (j:=1) (u:=.int .i64 i) rfl)
            have c2:=H13.slcC_rd (qQi x1 (j:=2) (u:=.int .i64 lv) rfl)
            have c3:=(show _=some (Value.int .i64 lv) from (H12.k B).ce 1 rfl)
            simp only [Enc.size,Nat.add_zero] at c0 c1 c2
            have e1:decide ((8:Int)≤CN)=false:=decide_eq_false (by omega)
            have e2:IntKind.i64.wrap ((α:Int)+β+1)=(α:Int)+β+1:=IntWalk.i64_in _ (by omega)
            have e9:(α:Int)≤vc:=by omega
            have e10:¬vc=0:=by omega
            have e11:(α:Int)≤wc:=by have:=hwcp.out;omega
            have e12:α+1+β=α+β+1:=by omega
            have e6:IntKind.i64.wrap (α:Int)=α:=IntWalk.i64_in _ (by omega)
            have e7:(0:Int)≤α:=by omega
            have e8:(α:Int)<(α:Int)+β+1:=by omega
            have e5:((α:Int)+β+1 != (α:Int)+β+1)=false:=by simp
            have e3:IntKind.i64.wrap ((α:Int)-1+1)=α:=by rw [IntWalk.i64_in _ (by omega)];omega
            have e4:IntKind.i64.wrap ((α:Int)-1+2)=(α:Int)+1:=by rw [IntWalk.i64_in _ (by omega)];omega
            have e13:IntKind.i64.wrap ((α:Int)+1)=(α:Int)+1:=IntWalk.i64_in _ (by omega)
            have e14:(0:Int)≤(α:Int)+1:=by omega
            have e15:(α:Int)+1≤(α:Int)+β+1:=by omega
            have e16:((α:Int)+1).toNat=α+1:=by omega
            have e17:α+β+1-(α+1)=β:=by omega
            have e18:(α:Int)≤(α:Int)+β:=by omega
            have e19:α+β-α=β:=by omega
            have x2:RdL w7 (.slice (some ⟨va,0,none⟩) (P1++⟨JB,i,lv⟩::P2).length vc) (P1++⟨JB,i,lv⟩::P2):=by
              rw [hL2]
              exact RdL.of_slE H12 (by omega)
            have hWj:Wl.length=α+β:=hLWe.out
            have x3:RdL w7 (.slice wa Wl.length wc) Wl:=by
              rw [hWj]
              exact RdL.of_slE (H12.v (.slice wa (α+β) wc)) (by omega)
            have sw1:=qKG (w:=w7.drew) (x2.front2 (A':=some ⟨va,0,none⟩) (n:=α) (c2:=vc) (by omega) (fun _=>rfl)) (x3.front2 (A':=wa) (n:=α) (c2:=wc) (by omega) (fun _=>rfl))
            have y1:(P1++⟨JB,i,lv⟩::P2).take α=P1:=by rw [← hα.out,List.take_left'];rfl
            have y2:Wl.take α=P1:=by rw [hsp'.out,← hα.out,List.take_left'];rfl
            rw [y1,y2,decide_eq_true rfl] at sw1
            have sw2:=fun (n:Nat) (A1:Option Addr) (c1:Nat) (A2:Option Addr) (c2:Nat) (h1:α+1<(P1++⟨JB,i,lv⟩::P2).length→A1=some ⟨va,(α+1)*3,none⟩) (h2:α<Wl.length→A2=wa.map (·.add (α*3)))=>qKG (w:=w7.drewN n) (x2.back2 (A':=A1) (n:=α+1) (k2:=β) (c2:=c1) (by omega) (fun hh=>by rw [h1 hh,Option.map_some,Addr.add_lit,Nat.zero_add];rfl)) (x3.back2 (A':=A2) (n:=α) (k2:=β) (c2:=c2) (by omega) h2)
            have y3:(P1++⟨JB,i,lv⟩::P2).drop (α+1)=P2:=by rw [← hα.out];simp
            have y4:Wl.drop α=P2:=by rw [hsp'.out,← hα.out];simp
            rw [y3,y4,decide_eq_true rfl] at sw2
            replace sw2:=Lib.hid sw2
            clear x2 x3 y1 y2 y3 y4 x1
            go_wp2_with fail
            refine wm0 [(0,true),(1,true),(2,true),(3,true),(4,true),(5,true),(6,true),(7,true),(8,true),(9,true),(10,true),(11,true),(12,true),(13,true),(14,true),(15,true),(16,true),(17,true),(18,true),(19,true),(20,true),(21,true),(22,true),(23,true),(24,true),(25,true),(26,true),(27,true),(28,true),(29,true),(30,true),(31,true),(32,false),(33,true),(34,true),(35,true),(36,true),(37,true),(38,true),(39,true),(40,true),(41,true),(42,true),(43,true),(44,false),(45,true),(46,true)] (fun w'=>w'.cell? ⟨va,α*3,none⟩=some (.int .i64 JB)∧w'.cell? ⟨va,α*3+1,none⟩=some (.int .i64 i)∧w'.cell? ⟨va,α*3+2,none⟩=some (.int .i64 lv)∧w'.cell? ⟨B,1,none⟩=some (.int .i64 lv)) (⟨c0,c1,c2,c3⟩) ?_
            iterate 32 (refine mh ?_;(try simp only [Act.put,List.setIfInBounds_toArray,List.set_cons_zero,List.set_cons_succ]))
            refine mm ?_
            go_wp2_with fail
            refine sw1.mono ?_
            rintro e w8 ⟨rfl,n1,rfl⟩
            clear sw1
            go_wp2_with fail
            refine qQd ⟨c0,c1,c2,c3⟩ ?_
            iterate 11 (refine mh ?_;(try simp only [Act.put,List.setIfInBounds_toArray,List.set_cons_zero,List.set_cons_succ]))
            refine mm ?_
            go_wp2_with fail
            all_goals
              refine (sw2.out _ _ _ _ _ (by intro hh;first | rfl | (exfalso;omega)) (by intro hh;first | rfl | (exfalso;have:=hwcp.out;omega))).mono ?_
              rintro e w9 ⟨rfl,n2,rfl⟩
              go_wp2_with fail
              refine qQd ⟨c0,c1,c2,c3⟩ ?_
              iterate 2 (refine mh ?_;(try simp only [Act.put,List.setIfInBounds_toArray,List.set_cons_zero,List.set_cons_succ]))
              refine qQe ?_
              (try dsimp only)
              go_wp2_with fail
              go_roundw
              case rel =>
                have H14:Hd W (KeL ⟨zk,zc,zr,⟨zd,zo,zq,⟨zl,zt,za,zu,ze⟩⟩⟩ S mr (cel B 36 #[.string nm,.int .i64 lv,.int .i64 fr,.slice na NL nc,.string cd,.int .i64 p,.int .i64 f,.int .i64 gg]::[qQm W])) w7:=H12.re
                exact ⟨q+1,mr,kq+1,by omega,by simp,hI2'.out,by omega,hE2'.out,by rw [ht2'.out,htq.out],H14.drewN _⟩
              case measure=>simp [intOf];omega
          · have hm2:=f3.out hE
            obtain ⟨EV,hEV⟩:∃EV,mq.releaseE i=EV:=⟨_,rfl⟩
            have q4:=f4.out
            have q5:=f5.out
            rw [hm2,if_neg hE,hEV] at hrl
            rw [hEV] at q4 q5 hE
            clear hEV hm2
            have hfin:∀(w6:World),Hd W (KeL ⟨zk,zc,zr,⟨zd,zo,zq,⟨zl,zt,za,zu,ze⟩⟩⟩ S mq (SlE 42 (.slice wa j wc) Wl::cel B 36 #[.string nm,.int .i64 lv,.int .i64 fr,.slice na NL nc,.string cd,.int .i64 p,.int .i64 f,.int .i64 gg]::[qQm W])) w6→Calls Tryz.prog 13 #[.pointer (some ⟨zk,0,none⟩)] w6 fun e w7=>∃v,e=.returned v∧Calls Tryz.prog 15 #[v,.slice wa j wc] w7 fun e w8=>e=.returned (.bool true)∧Hd W (KeL ⟨zk,zc,zr,⟨zd,zo,zq,⟨zl,zt,za,zu,ze⟩⟩⟩ S mq (cel B 36 #[.string nm,.int .i64 lv,.int .i64 fr,.slice na NL nc,.string cd,.int .i64 p,.int .i64 f,.int .i64 gg]::[qQm W])) w8:=by
              intro w6 H11
              refine (qYg H11 hIq).mono ?_
              rintro e w7 ⟨v,rfl,H12⟩
              rw [hWl.out] at H12
              refine ⟨v,rfl,?_⟩
              have x2:RdL w7 v Wl:=RdL.of_slE H12 (by rw [hLWe.out];omega)
              have x3:RdL w7 (.slice wa j wc) Wl:=RdL.of_slE (H12.v (.slice wa j wc)) (by rw [hLWe.out];omega)
              refine (qKG x2 x3).mono ?_
              rintro e w8 ⟨rfl,n,rfl⟩
              rw [decide_eq_true rfl]
              have H14:Hd W (KeL ⟨zk,zc,zr,⟨zd,zo,zq,⟨zl,zt,za,zu,ze⟩⟩⟩ S mq (cel B 36 #[.string nm,.int .i64 lv,.int .i64 fr,.slice na NL nc,.string cd,.int .i64 p,.int .i64 f,.int .i64 gg]::[qQm W])) w7:=H12.re
              exact ⟨rfl,H14.drewN n⟩
            have b0:(EV == 0)=false:=by simpa using hE
            replace hfin:=Lib.hid hfin
            by_cases k4:EV=4
            · obtain rfl:CN=8:=q4 k4
              subst k4
              have k5:¬0<p:=fun hh=>absurd (q5.2 hh) (by decide)
              clear q4 q5
              go_wp2_with fail
              refine hrl.mono ?_
              rintro e w6 ⟨rfl,H11⟩
              clear hrl H10
              have d5:=(show _=some (Value.int .i64 p) from (H11.k B).ce 5 rfl)
              have hf2:=hfin.out w6 H11
              go_wp2_with fail
              refine hf2.mono ?_
              rintro e w7 ⟨v,rfl,hs2⟩
              clear hf2 H11
              go_wp2_with fail
              refine hs2.mono ?_
              rintro e w8 ⟨rfl,H14⟩
              clear hs2
              go_wp2_with fail
              go_roundw
              case rel=>exact ⟨q+1,mq,kq,by omega,by simp,hIq,by omega,hEq,htq.out,H14⟩
              case measure=>simp [intOf];omega
            · have b4:(EV == 4)=false:=by simpa using k4
              have hB:∃b:Bool,(EV == 40)=b∧decide (0<p)=b:=by
                by_cases hh:0<p
                · exact ⟨true,by simpa using q5.2 hh,by simpa using hh⟩
                · exact ⟨false,by simpa using fun e=>hh (q5.1 e),by simpa using hh⟩
              obtain ⟨b,b5,b6⟩:=hB
              have b7:(b != b)=false:=by simp
              clear q4 q5
              go_wp2_with fail
              refine hrl.mono ?_
              rintro e w6 ⟨rfl,H11⟩
              clear hrl H10
              have d5:=(show _=some (Value.int .i64 p) from (H11.k B).ce 5 rfl)
              have hf2:=hfin.out w6 H11
              go_wp2_with fail
              refine hf2.mono ?_
              rintro e w7 ⟨v,rfl,hs2⟩
              clear hf2 H11
              go_wp2_with fail
              refine hs2.mono ?_
              rintro e w8 ⟨rfl,H14⟩
              clear hs2
              go_wp2_with fail
              go_roundw
              case rel=>exact ⟨q+1,mq,kq,by omega,by simp,hIq,by omega,hEq,htq.out,H14⟩
              case measure=>simp [intOf];omega
    · obtain rfl:q=10:=by omega
      have hrun:=qJ0 (R:=[qQm W]) (show Hd W [qQm W] _ from H8.re)
      clear H8
      go_wp2_with fail
      refine hrun.mono ?_
      rintro e w5 ⟨rfl,H5⟩
      go_wp2_with fail
      go_ret
      exact ⟨rfl,H5⟩
end
end
end Go.Proofs.YtkchopnkdjnocaaGreatDoor
