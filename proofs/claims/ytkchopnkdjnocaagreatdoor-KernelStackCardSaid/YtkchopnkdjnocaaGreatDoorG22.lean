/-
  Merged texts of one proof: Ins_hold, Del, Ins_name, UnM, Un1, Un2.
-/
import Derived.Lib.Overlaps
import Derived.Test.YtkchopnkdjnocaaGreatDoorG18
import Derived.Test.YtkchopnkdjnocaaGreatDoorG19
import Derived.Test.YtkchopnkdjnocaaGreatDoorG21

set_option maxHeartbeats 16000000
set_option maxRecDepth 20000
namespace Go.Proofs.YtkchopnkdjnocaaGreatDoor
section
open Go.RowKit Spl
theorem qJJ:(Tryz.prog.info? 246).map (fun i=>(i.zero,i.size,i.bytes))=some (some (.agg #[.int .i64 0,.pointer none]),2,16):=by kernel_rfl
section
variable {w0 w:World} {R:List Pr} {v:Value} {l:List RowH} {nb:Nat}
theorem qYk {x:RowH} (H:Hd w0 (cel nb 246 #[.int .i64 x.k,.pointer (some ⟨x.b,0,none⟩)]::R) w):∀(j:Nat) (u:Value),[.int .i64 x.k,.pointer (some ⟨x.b,0,none⟩)][j]? = some u→w.cell? ((⟨nb,0,none⟩:Addr).add j)=some u:=by
  intro j u hj
  rw [add0,H.rd]
  simpa using hj
theorem qV5 {x:RowH} (H:Hd w0 (SlE 246 v l::cel nb 246 #[.int .i64 x.k,.pointer (some ⟨x.b,0,none⟩)]::R) w) (hn:l.length≤100000):Calls Tryz.prog 209 #[v,.int .i64 l.length,.slice (some ⟨nb,0,none⟩) 1 1] w fun e w' =>
    ∃v',e=.returned v'∧Hd w0 (SlE 246 v' (l++[x])::R) w':=by
  obtain ⟨i0,hi,hz0,hz1,hz2⟩:=info_parts qJJ
  have hnews:=Lib.hid (qYk H.b2)
  have hS:∀(v':Value) (w':World),Hd w0 (Slc 246 2 v' (l.length+1) (flat l++[.int .i64 x.k,.pointer (some ⟨x.b,0,none⟩)])::cel nb 246 #[.int .i64 x.k,.pointer (some ⟨x.b,0,none⟩)]::R) w'→Hd w0 (SlE 246 v' (l++[x])::R) w':=by
    intro v' w' h
    have e1:(l++[x]).length=l.length+1:=by simp
    have e2:flat (l++[x])=flat l++[.int .i64 x.k,.pointer (some ⟨x.b,0,none⟩)]:=by rw [qQc,qQK];rfl
    unfold SlE
    rw [e1,e2]
    exact h.b2.tail
  replace hS:=Lib.hid hS
  replace hn:=Lib.hid hn
  have hb1:([.int .i64 x.k,.pointer (some ⟨x.b,0,none⟩)]:List Value).length=1*2:=rfl
  rcases H.slc with ⟨rfl,hl0,_,_⟩ | ⟨g,cap,rfl,_⟩
  · obtain rfl:l = []:=List.eq_nil_of_length_eq_zero hl0
    go_enter Tryz.func209,Tryz.ntmps209
    go_wp2_with (at_builtin;refine qQb rfl _ _ 169 rfl 246 i0 _ 2 16 Tryz.underlying169 hi hz0 hz1 hz2 rfl _ _ _ rfl H ⟨nb,0,none⟩ 1 1 [.int .i64 x.k,.pointer (some ⟨x.b,0,none⟩)] rfl rfl hnews.out (by simp [Value.oneCell']) (by unfold maxLen;simp) (by simp) ?_;intro v' w2 H3)
    go_ret
    exact ⟨_,rfl,hS.out _ _ H3⟩
  · go_enter Tryz.func209,Tryz.ntmps209
    go_wp2_with (at_builtin;refine qQb rfl _ _ 169 rfl 246 i0 _ 2 16 Tryz.underlying169 hi hz0 hz1 hz2 rfl _ _ _ rfl H ⟨nb,0,none⟩ 1 1 [.int .i64 x.k,.pointer (some ⟨x.b,0,none⟩)] rfl rfl hnews.out (by simp [Value.oneCell']) (by have:=hn.out;unfold maxLen;omega) (by have:=hn.out;omega) ?_;intro v' w2 H3)
    all_goals (go_ret;exact ⟨_,rfl,hS.out _ _ H3⟩)
theorem Hd.heap0 {e:TypeId} {size g n cap:Nat} {xs:List Value} {L:List Pr} (H:Hd w0 (SlcC e size g n cap xs::L) w):∃sp:List Value,w.heap[g]? = some (.cells (xs++sp).toArray e (0,0)):=by
  obtain ⟨_,_,_,sp,_,H1⟩:=H.slcC
  exact ⟨sp,H1.heap⟩
theorem Hd.ne0 {e:TypeId} {size g n cap b:Nat} {o:Obj} {xs:List Value} {L:List Pr} (H:Hd w0 (SlcC e size g n cap xs::pt b o::L) w):b≠g:=by
  obtain ⟨_,_,_,sp,_,H1⟩:=H.slcC
  exact H1.b2.ne
theorem qWo {e:TypeId} {g n m cap:Nat} {z:Array Value} {xs:List Value} {L:List Pr} (H:Hd w0 (SlcC e 2 g n cap (xs++(Builtin.zeroCells z m).toList)::L) w) (hz:z.size=2) (hm:0<m) :
    ∃o1 o2 sp:List Value,o1.length=2∧o2.length=(m-1)*2∧cap≤maxLen∧cap*2≤xs.length+m*2+sp.length∧Hd w0 (cel g e (xs++(o1++(o2++sp))).toArray::L) w:=by
  obtain ⟨_,_,h3,sp,h4,H1⟩:=H.slcC
  obtain ⟨Z,hZ⟩:∃Z,Z=(Builtin.zeroCells z m).toList:=⟨_,rfl⟩
  rw [← hZ] at H1 h4
  have hl:Z.length=m*2:=by rw [hZ,Array.length_toList,size_zeroCells,hz]
  refine ⟨Z.take 2,Z.drop 2,sp,by rw [List.length_take,hl];omega,by rw [List.length_drop,hl];omega,h3,by simp at h4;omega,?_⟩
  have e1:xs++(Z.take 2++(Z.drop 2++sp))=xs++Z++sp:=by rw [← List.append_assoc (Z.take 2),List.take_append_drop,List.append_assoc]
  rw [e1]
  exact H1
theorem qWh {i:Nat} {x:RowH}:(l.take i++x::l.drop i).length=l.length+1:=by
  simp
  omega
theorem qVZ {x:RowH} {i g cap:Nat} (H:Hd w0 (SlcC 246 2 g l.length cap (flat l)::cel nb 246 #[.int .i64 x.k,.pointer (some ⟨x.b,0,none⟩)]::R) w) (hn:l.length≤100000) (hi:i<l.length) (hc:l.length+1≤cap):Calls Tryz.prog 209 #[.slice (some ⟨g,0,none⟩) l.length cap,.int .i64 i,.slice (some ⟨nb,0,none⟩) 1 1] w fun e w' =>
    ∃v',e=.returned v'∧Hd w0 (SlE 246 v' (l.take i++x::l.drop i)::R) w':=by
  obtain ⟨i0,hinf,hz0,hz1,hz2⟩:=info_parts qJJ
  have n1:((i:Int) == l.length)=false:=by rw [beq_eq_false_iff_ne];omega
  have n2:¬((cap:Int)<(l.length:Int)+1):=by omega
  have n3:IntKind.i64.wrap ((l.length:Int)+1)=(l.length:Int)+1:=IntWalk.i64_in _ (by omega)
  have n4:IntKind.i64.wrap ((i:Int)+1)=(i:Int)+1:=IntWalk.i64_in _ (by omega)
  have n5:(i:Int)≤l.length:=by omega
  have n6:¬cap-i=0:=by omega
  have n7:¬cap-(i+1)=0:=by omega
  have n8:(0:Int)≤(i:Int)+1:=by omega
  have n9:¬cap=i+1:=by omega
  have n10:¬cap=i:=by omega
  have n11:(i:Int)≤(l.length:Int)+1:=by omega
  obtain ⟨_,_,hcm,sp,hsp,H1⟩:=H.slcC
  have hfl:=qQf l
  simp only [Enc.size] at hfl
  obtain ⟨s0,s1,sp,rfl⟩:∃s0 s1 sp',sp=s0::s1::sp':=by
    match sp,hsp with
    | [],h=>simp [hfl] at h;omega
    | [a],h=>simp [hfl] at h;omega
    | a::b::r,_=>exact ⟨a,b,r,rfl⟩
  have hHn:=H.b2.heap
  have hne:nb≠g:=H.ne0
  have hov:∀lb cb,(callFunc 221 #[.slice (some ⟨nb,0,none⟩) 1 1,.slice (some ⟨g,(i+1)*2,none⟩) lb cb]).run Tryz.prog w=.ok (.value (.bool false)) w:=fun lb cb=>by
    rw [run_callFunc_extern Tryz.func221 (by kernel_rfl) (by kernel_rfl) (by kernel_rfl) (e:=Extern.SlicesOverlaps.overlaps #[169,169] #[4]) (by kernel_rfl),
      Lib.run_overlaps_apart w 169 4 246 Tryz.underlying169 2 (fun w=>by simp [sizeOf,typeInfo,hinf,hz1]) ⟨nb,0,none⟩ ⟨g,(i+1)*2,none⟩ 1 1 lb cb hne 246 246 2 _ (by simp [World.shape?,hHn]) (by unfold World.shape?;rw [H1.heap]) (by simp) (H.b2.fr 0) (H.b2.fr 2)]
    rfl
  obtain ⟨y,hy⟩:∃y,l[i]? = some y:=⟨l[i],List.getElem?_eq_getElem hi⟩
  have ed:l.drop i=y::l.drop (i+1):=List.drop_eq_getElem?_toList_append.trans (by rw [hy];rfl)
  have e0:flat l=flat (l.take i)++(flat [y]++flat (l.drop (i+1))):=by
    rw [← qQc,← qQc,List.singleton_append,← ed,List.take_append_drop]
  have ht:(flat (l.take i)).length=i*2:=by rw [qQf,List.length_take,Nat.min_eq_left (by omega)];rfl
  have hd:(flat (l.drop i)).length=(l.length-i)*2:=by rw [qQf,List.length_drop];rfl
  have hd1:(flat (l.drop (i+1))).length=(l.length-(i+1))*2:=by rw [qQf,List.length_drop];rfl
  have hy2:(flat [y]).length=2:=by rw [qQf];rfl
  have hsrc:∀(j:Nat) (u:Value),(flat (l.drop i))[j]? = some u→w.cell? ((⟨g,i*2,none⟩:Addr).add j)=some u:=by
    intro j u hj
    have hadd:(⟨g,i*2,none⟩:Addr).add j=⟨g,i*2+j,none⟩:=by unfold Addr.add;split <;> simp_all
    rw [hadd,H1.rd]
    have e1:flat l=flat (l.take i)++flat (l.drop i):=by rw [← qQc,List.take_append_drop]
    simp only [List.getElem?_toArray]
    rw [List.getElem?_append_left (by have:=qQa hj;omega),e1,List.getElem?_append_right (by omega),ht,Nat.add_sub_cancel_left]
    exact hj
  have erow:flat l++s0::s1::sp=(flat (l.take i)++flat [y])++((flat (l.drop (i+1))++[s0,s1])++sp):=by rw [e0];simp
  rw [erow] at H1
  have hk1:Nat.min (l.length+1-i) (l.length+1-(i+1))=l.length-i:=by simp only [Nat.min_def];split <;> omega
  have hk1':Nat.min (l.length+1-i) (l.length-i)=l.length-i:=by simp only [Nat.min_def];split <;> omega
  have hk2:Nat.min 1 (l.length+1-i)=1:=by simp only [Nat.min_def];split <;> omega
  have hA:=Lib.hid (And.intro ed (And.intro e0 (And.intro ht (And.intro hd (And.intro hd1 (And.intro hy2 (And.intro hn (And.intro hi (And.intro hc (And.intro hcm hsp))))))))))
  replace hsrc:=Lib.hid hsrc
  replace hk1:=Lib.hid hk1
  replace hk1':=Lib.hid hk1'
  replace hk2:=Lib.hid hk2
  clear H ed e0 ht hd hd1 hy2 hcm hsp hfl hy erow hn hHn hne
  go_enter Tryz.func209,Tryz.ntmps209
  go_wp2_with fail
  refine wm0 [(0,true),(1,true),(2,true),(3,true),(4,true),(5,true),(6,true),(7,true),(8,false)] (fun w'=>True) (trivial) ?_
  iterate 8 (refine mh ?_;(try simp only [Act.put,List.setIfInBounds_toArray,List.set_cons_zero,List.set_cons_succ]))
  refine mm ?_
  refine qQR rfl _ _ 169 169 rfl 246 i0 2 Tryz.underlying169 hinf hz1 g ((i+1)*2) _ _ rfl ⟨g,i*2,none⟩ _ _ rfl (l.length-i) hk1'.out (flat (l.drop i)) (Hd.fol H1) (by obtain ⟨-,-,a1,-,-,a2,-⟩:=hA.out;rw [List.length_append,a1,a2];omega) (by obtain ⟨-,-,-,a1,a2,-,-,-⟩:=hA.out;rw [List.length_append,a1,a2];simp;omega) hA.out.2.2.2.1 (by exact hsrc.out) (qQx _) ?_
  intro w2 H2
  have H3:Hd w0 (cel g 246 (flat (l.take i)++(flat [y]++(flat (l.drop i)++sp))).toArray::cel nb 246 #[.int .i64 x.k,.pointer (some ⟨x.b,0,none⟩)]::R) w2:=by
    have:=H2
    rw [List.append_assoc] at this
    exact this
  have hnews:=Lib.hid (qYk H3.b2)
  clear H1 H2
  refine qQd trivial ?_
  refine qQe ?_
  (try dsimp only)
  go_wp2_with (refine qQR rfl _ _ 169 169 rfl 246 i0 2 Tryz.underlying169 hinf hz1 g (i*2) _ _ rfl ⟨nb,0,none⟩ _ _ rfl 1 hk2.out [.int .i64 x.k,.pointer (some ⟨x.b,0,none⟩)] H3 hA.out.2.2.1 hA.out.2.2.2.2.2.1 rfl hnews.out (by simp [Value.oneCell']) ?_;intro w3 H4)
  go_ret
  refine ⟨_,rfl,?_⟩
  have e1:flat (l.take i)++([.int .i64 x.k,.pointer (some ⟨x.b,0,none⟩)]++(flat (l.drop i)++sp))=flat (l.take i++x::l.drop i)++sp:=by
    rw [qQc,qQI,List.append_assoc,List.append_assoc]
    rfl
  rw [e1] at H4
  obtain ⟨-,-,a1,a2,-,-,-,a3,a4,a5,a6⟩:=hA.out
  have hlen:(l.take i++x::l.drop i).length=l.length+1:=qWh
  have H5:=(Hd.slcC_mk (n:=l.length+1) (cap:=cap) (size:=2) H4 (by rw [qQf,hlen];rfl) (by omega) a5 (by
    have b1:=a6
    rw [List.length_append,qQf] at b1 ⊢
    rw [hlen]
    simp only [Enc.size,List.length_cons] at b1 ⊢
    omega)).slc_mk
  have H6:Hd w0 (Slc 246 2 (.slice (some ⟨g,0,none⟩) (l.length+1) cap) (l.length+1) (flat (l.take i++x::l.drop i))::R) w3:=H5.b2.tail
  unfold SlE
  rw [hlen]
  exact H6
theorem qVp {x:RowH} {i g cap:Nat} (H:Hd w0 (SlcC 246 2 g l.length cap (flat l)::cel nb 246 #[.int .i64 x.k,.pointer (some ⟨x.b,0,none⟩)]::R) w) (hn:l.length≤100000) (hi:i<l.length) (hc:cap<l.length+1):Calls Tryz.prog 209 #[.slice (some ⟨g,0,none⟩) l.length cap,.int .i64 i,.slice (some ⟨nb,0,none⟩) 1 1] w fun e w' =>
    ∃v',e=.returned v'∧Hd w0 (SlE 246 v' (l.take i++x::l.drop i)::R) w':=by
  obtain ⟨i0,hinf,hz0,hz1,hz2⟩:=info_parts qJJ
  have hnc:=H.slcC.2.1
  have n1:((i:Int) == l.length)=false:=by rw [beq_eq_false_iff_ne];omega
  have n2:(cap:Int)<(l.length:Int)+1:=by omega
  have n3:IntKind.i64.wrap ((l.length:Int)+1)=(l.length:Int)+1:=IntWalk.i64_in _ (by omega)
  have n4:IntKind.i64.wrap ((i:Int)+1)=(i:Int)+1:=IntWalk.i64_in _ (by omega)
  have n12:IntKind.i64.wrap ((l.length:Int)+1-i)=((l.length+1-i:Nat):Int):=by rw [IntWalk.i64_in _ (by omega)];omega
  have n5:(i:Int)≤l.length:=by omega
  have n5':(i:Int)≤cap:=by omega
  have n5'':i≤cap:=by omega
  have n8:(0:Int)≤(i:Int)+1:=by omega
  have n11:(i:Int)≤(l.length:Int)+1:=by omega
  have n6:¬cap-i=0:=by omega
  have n10:¬cap=i:=by omega
  have ht:(flat (l.take i)).length=i*2:=by rw [qQf,List.length_take,Nat.min_eq_left (by omega)];rfl
  have hd:(flat (l.drop i)).length=(l.length-i)*2:=by rw [qQf,List.length_drop];rfl
  have e1:flat l=flat (l.take i)++flat (l.drop i):=by rw [← qQc,List.take_append_drop]
  have hpre:∀(j:Nat) (u:Value),(flat (l.take i))[j]? = some u→w.cell? ((⟨g,0,none⟩:Addr).add j)=some u:=by
    intro j u hj
    rw [add0]
    exact H.slcC_rd (by rw [e1,List.getElem?_append_left (qQa hj)];exact hj)
  have hsrc:∀ {L:List Pr} {w1:World},Hd w0 (SlcC 246 2 g l.length cap (flat l)::L) w1→∀(j:Nat) (u:Value),(flat (l.drop i))[j]? = some u→w1.cell? ((⟨g,i*2,none⟩:Addr).add j)=some u:=by
    intro L w1 H1 j u hj
    have hadd:(⟨g,i*2,none⟩:Addr).add j=⟨g,i*2+j,none⟩:=by unfold Addr.add;split <;> simp_all
    rw [hadd]
    exact H1.slcC_rd (by rw [e1,List.getElem?_append_right (by omega),ht,Nat.add_sub_cancel_left];exact hj)
  have hm:0<l.length+1-i:=by omega
  have hg1:cap<i+(l.length+1-i):=by omega
  have hg2:(i+(l.length+1-i))*16≤140737488355328:=by omega
  have hsum:i+(l.length+1-i)=l.length+1:=by omega
  have hk1':Nat.min (l.length-i) (l.length-i)=l.length-i:=Nat.min_self _
  have hk2:Nat.min 1 (l.length+1-i)=1:=by simp only [Nat.min_def];split <;> omega
  have hA:=Lib.hid (And.intro ht (And.intro hd (And.intro hpre (And.intro hg2 (And.intro hsum (And.intro hk1' (And.intro hk2 (And.intro hi (And.intro hm hg1)))))))))
  have hS:=Lib.hid (And.intro @hsrc True.intro)
  clear ht hd e1 hpre hsrc hg2 hk1' hk2 hnc hm hg1 hn hsum
  go_enter Tryz.func209,Tryz.ntmps209
  go_wp2_with (first | (at_builtin;refine qZv rfl _ _ 169 3 rfl 246 i0 _ 2 16 Tryz.underlying169 Tryz.underlying3 hinf hz0 hz1 hz2 rfl (by decide) (by decide) ⟨g,0,none⟩ i cap rfl (flat (l.take i)) hA.out.1 hA.out.2.2.1 (l.length+1-i) _ rfl hA.out.2.2.2.2.2.2.2.2.1 hA.out.2.2.2.2.2.2.2.2.2 hA.out.2.2.2.1 H ?_;intro cap' w1 hcap H1;rw [hA.out.2.2.2.2.1] at hcap H1 ⊢;have n13:¬cap'=i:=(by omega);have n14:¬cap'=i+1:=(by omega);obtain ⟨o1,o2,sp,ho1,ho2,hcm,hsp,H2⟩:=qWo H1 rfl hA.out.2.2.2.2.2.2.2.2.1;have hB:=Lib.hid (And.intro ho1 (And.intro ho2 (And.intro hcm (And.intro hsp hcap))));have hnews:=Lib.hid (qYk (Hd.k nb H2));clear ho1 ho2 hcm hsp H1 hcap) | (refine qQR rfl _ _ 169 169 rfl 246 i0 2 Tryz.underlying169 hinf hz1 w.heap.size (i*2) _ _ rfl ⟨nb,0,none⟩ _ _ rfl 1 hA.out.2.2.2.2.2.2.1 [.int .i64 x.k,.pointer (some ⟨x.b,0,none⟩)] H2 hA.out.1 hB.out.1 rfl hnews.out (by simp [Value.oneCell']) ?_;intro w2 H3))
  refine wm0 [(0,true),(1,true),(2,true),(3,true),(4,true),(5,true),(6,true),(7,true),(8,false)] (fun w'=>True) (trivial) ?_
  iterate 8 (refine mh ?_;(try simp only [Act.put,List.setIfInBounds_toArray,List.set_cons_zero,List.set_cons_succ]))
  refine mm ?_
  have H4:=H3
  rw [← List.append_assoc] at H4
  refine qQR rfl _ _ 169 169 rfl 246 i0 2 Tryz.underlying169 hinf hz1 w.heap.size ((i+1)*2) _ _ rfl ⟨g,i*2,none⟩ _ _ rfl (l.length-i) hA.out.2.2.2.2.2.1 (flat (l.drop i)) (Hd.fol H4) (by have a1:=hA.out.1;rw [List.length_append,a1];simp;omega) (by have a1:=hB.out.2.1;have a2:=hA.out.2.1;rw [a1,a2];omega) hA.out.2.1 (by exact hS.out.1 ((Hd.fol H4:Hd w0 _ _).k g)) (qQx _) ?_
  intro w3 H5
  refine qQd trivial ?_
  refine qQe ?_
  (try dsimp only)
  go_wp2_with fail
  go_ret
  refine ⟨_,rfl,?_⟩
  have e1:(flat (l.take i)++([.int .i64 x.k,.pointer (some ⟨x.b,0,none⟩)]:List Value))++(flat (l.drop i)++sp)=flat (l.take i++x::l.drop i)++sp:=by
    rw [qQc,qQI,List.append_assoc,List.append_assoc,List.append_assoc]
    rfl
  rw [e1] at H5
  obtain ⟨a1,a2,-,-,a3,-,-,a4,-,-⟩:=hA.out
  obtain ⟨b1,b2,b3,b4,b5⟩:=hB.out
  have hlen:(l.take i++x::l.drop i).length=l.length+1:=qWh
  have H6:=(Hd.slcC_mk (n:=l.length+1) (cap:=cap') (size:=2) H5 (by rw [qQf,hlen];rfl) b5 b3 (by
    rw [List.length_append,qQf,hlen]
    simp only [Enc.size] at b4 ⊢
    omega)).slc_mk
  have H7:Hd w0 (Slc 246 2 (.slice (some ⟨w.heap.size,0,none⟩) (l.length+1) cap') (l.length+1) (flat (l.take i++x::l.drop i))::R) w3:=H6.re
  unfold SlE
  rw [hlen]
  exact H7
theorem zZC {x:RowH} {i:Nat} (H:Hd w0 (SlE 246 v l::cel nb 246 #[.int .i64 x.k,.pointer (some ⟨x.b,0,none⟩)]::R) w) (hn:l.length≤100000) (hi:i≤l.length):Calls Tryz.prog 209 #[v,.int .i64 i,.slice (some ⟨nb,0,none⟩) 1 1] w fun e w' =>
    ∃v',e=.returned v'∧Hd w0 (SlE 246 v' (l.take i++x::l.drop i)::R) w':=by
  by_cases h:i=l.length
  · subst h
    rw [List.take_length,List.drop_length]
    exact qV5 H hn
  · obtain ⟨g,cap,rfl,H1⟩:=H.slc_at (by omega)
    by_cases hc:l.length+1≤cap
    · exact qVZ H1 hn (by omega) hc
    · exact qVp H1 hn (by omega) (by omega)
variable {s o T:Nat} {C:Array Value}
theorem qX2 (H:Hd w0 (cel s T C::SlE 246 v l::R) w) (hC:C[o]? = some v) (hs:qQ9 l) (hn:l.length≤100000) (k:Int):Calls Tryz.prog 208 #[.pointer (some ⟨s,o,none⟩),.int .i64 k] w fun e w' =>
    e=.returned (.tuple #[.int .i64 (pos l k),.bool (qQs l k).isSome])∧Hd w0 (cel s T C::SlE 246 v l::R) w':=by
  have c0:=H.ce o hC
  have hb:=zJP H.b2 hs hn k
  clear hs hn H hC
  go_enter Tryz.func208,Tryz.ntmps208
  go_wp2_with fail
  refine hb.mono ?_
  rintro e w' ⟨rfl,H1⟩
  go_wp2_with fail
  go_ret2
  exact ⟨rfl,H1.b2⟩
theorem qWB {x:RowH} (H:Hd w0 (cel s T C::SlE 246 v l::R) w) (hC:C[o]? = some v) (hs:qQ9 l) (hn:l.length≤100000) (k:Int) (hx:qQs l k=some x):Calls Tryz.prog 195 #[.pointer (some ⟨s,o,none⟩),.int .i64 k] w fun e w' =>
    e=.returned (.tuple #[.pointer (some ⟨x.b,0,none⟩),.bool true])∧Hd w0 (cel s T C::SlE 246 v l::R) w':=by
  have hf:=qX2 H hC hs hn k
  rw [hx] at hf
  have hat:=(qQv hs hx).1
  have hlt:=qQa hat
  have n1:¬(((pos l k:Nat):Int)<0):=by omega
  have n2:((pos l k:Nat):Int)<l.length:=by omega
  have n3:¬l.length≤pos l k:=by omega
  clear hs hn H hx
  go_enter Tryz.func195,Tryz.ntmps195
  go_wp2_with fail
  refine hf.mono ?_
  rintro e w1 ⟨rfl,H1⟩
  obtain ⟨g,cap,rfl,H2⟩:=H1.b2.slc_at (by omega)
  have c0:=(H2.k s).ce o hC
  have c1:=H2.slcC_rd (qQi hat (j:=1) rfl)
  simp only [Enc.size] at c1
  clear H2 hf
  go_wp2_with fail
  go_ret2
  exact ⟨rfl,H1⟩
theorem qX7 (H:Hd w0 (cel s T C::SlE 246 v l::R) w) (hC:C[o]? = some v) (hs:qQ9 l) (hn:l.length≤100000) (k:Int) (hx:qQs l k=none):Calls Tryz.prog 195 #[.pointer (some ⟨s,o,none⟩),.int .i64 k] w fun e w' =>
    e=.returned (.tuple #[.pointer none,.bool false])∧Hd w0 (cel s T C::SlE 246 v l::R) w':=by
  have hf:=qX2 H hC hs hn k
  rw [hx] at hf
  clear hs hn H hx hC
  go_enter Tryz.func195,Tryz.ntmps195
  go_wp2_with fail
  refine hf.mono ?_
  rintro e w1 ⟨rfl,H1⟩
  go_wp2_with fail
  go_ret2
  exact ⟨rfl,H1⟩
theorem qUx {x:RowH} (H:Hd w0 (cel s T C::SlE 246 v l::R) w) (hC:C[o]? = some v) (hs:qQ9 l) (hn:l.length≤100000) (hx:qQs l x.k=none):Calls Tryz.prog 196 #[.pointer (some ⟨s,o,none⟩),.int .i64 x.k,.pointer (some ⟨x.b,0,none⟩)] w fun e w' =>
    e=.returned (.bool true)∧∃v',Hd w0 (cel s T (C.setIfInBounds o v')::SlE 246 v' (l.take (pos l x.k)++x::l.drop (pos l x.k))::R) w':=by
  have hf:=qX2 H hC hs hn x.k
  rw [hx] at hf
  have hle:=qYQ l x.k
  replace hn:=Lib.hid hn
  replace hle:=Lib.hid hle
  clear hs H hx
  go_enter Tryz.func196,Tryz.ntmps196
  go_wp2_with fail
  refine hf.mono ?_
  rintro e w1 ⟨rfl,H1⟩
  have HB:Hd w0 _ (w1.alloc (.cells #[.int .i64 x.k,.pointer (some ⟨x.b,0,none⟩)] 246)):=H1.fol
  have c0:=(H1.k s).ce o hC
  clear hf
  go_wp2_with fail
  refine (zZC (x:=x) (R:=cel s T C::R) ((HB.v v).k w1.heap.size).b2 hn.out hle.out).mono ?_
  rintro e w2 ⟨v',rfl,H2⟩
  obtain ⟨l',hl'⟩:∃l',l'=l.take (pos l x.k)++x::l.drop (pos l x.k):=⟨_,rfl⟩
  rw [← hl'] at H2
  replace hl':=Lib.hid hl'
  obtain ⟨a',cap',rfl,-,-,-,-⟩:=H2.slc_form
  have c1:=(H2.k s).ce o hC
  have f1:=(H2.k s).fr o
  go_wp2_with fail
  go_ret
  refine ⟨rfl,.slice a' l'.length cap',?_⟩
  rw [← hl'.out]
  exact (H2.k s).set o (.slice a' l'.length cap')
end
end
section
open Go.RowKit Spl
section
variable {w0 w:World} {R:List Pr} {v:Value} {l:List RowH}
theorem qVj {g n:Nat} {y:RowH} (hl:l.length=n) (H:Hd w0 (SlcC 246 2 g (n+1) (n+1) (flat (l++[y]))::R) w) (hn:n≤100000):Calls Tryz.prog 223 #[.slice (some ⟨g,0,none⟩) (n+1) (n+1),.int .i64 n,.int .i64 ((n:Int)+1)] w fun e w' =>
    ∃v',e=.returned v'∧Hd w0 (SlE 246 v' l::R) w':=by
  obtain ⟨i0,hinf,hz0,hz1,hz2⟩:=info_parts qJJ
  obtain ⟨_,_,hcm,sp,hsp,H1⟩:=H.slcC
  have n1:((n:Int) == (n:Int)+1)=false:=by rw [beq_eq_false_iff_ne];omega
  have n2:(0:Int)≤(n:Int)+1:=by omega
  have n3:(n:Int)≤(n:Int)+1:=by omega
  have ht:(flat l).length=n*2:=by rw [qQf,hl];rfl
  have hy2:(flat [y]).length=1*2:=by rw [qQf];rfl
  have H2:Hd w0 (cel g 246 (flat l++(([]:List Value)++(flat [y]++sp))).toArray::R) w:=by
    rw [qQc,List.append_assoc] at H1
    exact H1
  have hA:=Lib.hid (And.intro hcm (And.intro hsp (And.intro ht (And.intro hy2 (And.intro hl hn)))))
  clear H H1 hcm hsp ht hy2 hn hl
  go_enter Tryz.func223,Tryz.ntmps223
  go_wp2_with fail
  refine wm0 [(0,true),(1,true),(2,true),(3,true),(4,true),(5,true),(6,false),(7,true)] (fun w'=>True) (trivial) ?_
  iterate 6 (refine mh ?_;(try simp only [Act.put,List.setIfInBounds_toArray,List.set_cons_zero,List.set_cons_succ]))
  refine mm ?_
  refine qJI rfl _ _ 169 rfl 246 i0 2 Tryz.underlying169 hinf hz1 g n (n+1) rfl ⟨g,0,none⟩ 0 _ rfl (by omega) [] (Hd.fol H2) hA.out.2.2.1 rfl rfl (by simp) (by simp) ?_
  intro w2 H3
  refine qQd trivial ?_
  iterate 1 (refine mh ?_;(try simp only [Act.put,List.setIfInBounds_toArray,List.set_cons_zero,List.set_cons_succ]))
  refine qQe ?_
  (try dsimp only)
  rw [List.nil_append] at H3
  go_wp2_with (refine qJY rfl _ 169 rfl 246 i0 _ 2 Tryz.underlying169 hinf hz0 rfl (by simp [Value.cells,Value.oneCell']) g (n*2) 1 _ rfl (by decide) H3 hA.out.2.2.1 hA.out.2.2.2.1 ?_;intro w3 H4)
  go_ret
  refine ⟨_,rfl,?_⟩
  obtain ⟨a1,a2,a3,a4,a5,-⟩:=hA.out
  have hz:(Builtin.zeroCells (Value.agg #[Value.int IntKind.i64 0,Value.pointer none]).cells 1).toList.length=2:=by rw [Array.length_toList,size_zeroCells];rfl
  have H5:=(Hd.slcC_mk (n:=n) (cap:=n+1) (size:=2) H4 a3 (by omega) a1 (by
    rw [List.length_append,qQc,List.length_append,a3,a4] at a2
    rw [List.length_append,List.length_append,a3,hz]
    omega)).slc_mk
  unfold SlE
  rw [a5]
  exact H5
theorem zZO {i g cap:Nat} (H:Hd w0 (SlcC 246 2 g l.length cap (flat l)::R) w) (hn:l.length≤100000) (hi:i<l.length):Calls Tryz.prog 223 #[.slice (some ⟨g,0,none⟩) l.length cap,.int .i64 i,.int .i64 ((i:Int)+1)] w fun e w' =>
    ∃v',e=.returned v'∧Hd w0 (SlE 246 v' (l.eraseIdx i)::R) w':=by
  by_cases n8:cap=i+1
  · subst n8
    have hlen:l.length=i+1:=by have:=H.slcC.2.1;omega
    rcases qQr l with rfl | ⟨init,y,rfl⟩
    · simp at hi
    · have hi2:init.length=i:=by rw [List.length_append] at hlen;exact Nat.succ.inj hlen
      have he:(init++[y]).eraseIdx i=init:=by rw [List.eraseIdx_append_of_length_le (by omega),hi2,Nat.sub_self];exact List.append_nil init
      rw [hlen] at H
      rw [hlen,he]
      exact qVj hi2 H (by omega)
  obtain ⟨i0,hinf,hz0,hz1,hz2⟩:=info_parts qJJ
  obtain ⟨_,hnc,hcm,sp,hsp,H1⟩:=H.slcC
  have n1:((i:Int) == (i:Int)+1)=false:=by rw [beq_eq_false_iff_ne];omega
  have n2:(0:Int)≤(i:Int)+1:=by omega
  have n3:(i:Int)≤(i:Int)+1:=by omega
  have n4:(i:Int)+1≤l.length:=by omega
  have n5:(i:Int)≤cap:=by omega
  have n6:¬cap=i:=by omega
  have n7:(l.length:Int)≤cap:=by omega
  have ht:(flat (l.take i)).length=i*2:=by rw [qQf,List.length_take,Nat.min_eq_left (by omega)];rfl
  have hd:(flat (l.drop i)).length=(l.length-i)*2:=by rw [qQf,List.length_drop];rfl
  have hd1:(flat (l.drop (i+1))).length=(l.length-(i+1))*2:=by rw [qQf,List.length_drop];rfl
  have ht1:(flat (l.take (i+1))).length=(i+1)*2:=by rw [qQf,List.length_take,Nat.min_eq_left (by omega)];rfl
  have e1:flat l=flat (l.take i)++flat (l.drop i):=by rw [← qQc,List.take_append_drop]
  have e2:flat l=flat (l.take (i+1))++flat (l.drop (i+1)):=by rw [← qQc,List.take_append_drop]
  obtain ⟨o1,o2,ho,ho1,ho2⟩:∃o1 o2:List Value,flat (l.drop i)=o1++o2∧o1.length=(l.length-(i+1))*2∧o2.length=2 :=
    ⟨(flat (l.drop i)).take ((l.length-(i+1))*2),(flat (l.drop i)).drop ((l.length-(i+1))*2),(List.take_append_drop _ _).symm,by rw [List.length_take,hd];omega,by rw [List.length_drop,hd];omega⟩
  have hsrc:∀(j:Nat) (u:Value),(flat (l.drop (i+1)))[j]? = some u→w.cell? ((⟨g,(i+1)*2,none⟩:Addr).add j)=some u:=by
    intro j u hj
    have hadd:(⟨g,(i+1)*2,none⟩:Addr).add j=⟨g,(i+1)*2+j,none⟩:=by unfold Addr.add;split <;> simp_all
    rw [hadd]
    exact H.slcC_rd (by rw [e2,List.getElem?_append_right (by omega),ht1,Nat.add_sub_cancel_left];exact hj)
  have H2:Hd w0 (cel g 246 (flat (l.take i)++(o1++(o2++sp))).toArray::R) w:=by
    have h:=H1
    rw [e1,ho,List.append_assoc,List.append_assoc] at h
    exact h
  have hA:=Lib.hid (And.intro hcm (And.intro hsp (And.intro hn (And.intro hi (And.intro hnc (And.intro ht (And.intro hd1 (And.intro ho1 (And.intro ho2 hsrc)))))))))
  have f1:i+(l.length-(i+1))=l.length-1:=by omega
  have f2:((l.length-1:Nat):Int)≤l.length:=by omega
  have f3:¬cap=l.length-1:=by omega
  have f4:l.length-(l.length-1)=1:=by omega
  have f5:((l.length-1:Nat):Int)≤cap:=by omega
  clear H H1 hcm hsp hn ht hd hd1 ht1 e1 e2 ho ho1 ho2 hsrc
  · go_enter Tryz.func223,Tryz.ntmps223
    go_wp2_with fail
    refine wm0 [(0,true),(1,true),(2,true),(3,true),(4,true),(5,true),(6,false),(7,true)] (fun w'=>True) (trivial) ?_
    iterate 6 (refine mh ?_;(try simp only [Act.put,List.setIfInBounds_toArray,List.set_cons_zero,List.set_cons_succ]))
    refine mm ?_
    refine qJI rfl _ _ 169 rfl 246 i0 2 Tryz.underlying169 hinf hz1 g i cap rfl ⟨g,(i+1)*2,none⟩ (l.length-(i+1)) _ rfl (by have:=hA.out.2.2.2.2.1;omega) (flat (l.drop (i+1))) (Hd.fol H2) hA.out.2.2.2.2.2.1 (by rw [hA.out.2.2.2.2.2.2.2.1,hA.out.2.2.2.2.2.2.1]) hA.out.2.2.2.2.2.2.1 (by exact hA.out.2.2.2.2.2.2.2.2.2) (qQx _) ?_
    intro w2 H3
    rw [f1]
    refine qQd trivial ?_
    iterate 1 (refine mh ?_;(try simp only [Act.put,List.setIfInBounds_toArray,List.set_cons_zero,List.set_cons_succ]))
    refine qQe ?_
    (try dsimp only)
    rw [← List.append_assoc] at H3
    go_wp2_with (refine qJY rfl _ 169 rfl 246 i0 _ 2 Tryz.underlying169 hinf hz0 rfl (by simp [Value.cells,Value.oneCell']) g ((l.length-1)*2) 1 _ rfl (by decide) H3 (by have a1:=hA.out.2.2.2.2.2.1;have a2:=hA.out.2.2.2.2.2.2.1;rw [List.length_append,a1,a2];omega) hA.out.2.2.2.2.2.2.2.2.1 ?_;intro w3 H4)
    go_ret
    refine ⟨_,rfl,?_⟩
    obtain ⟨a1,a2,-,-,-,a3,a4,a5,a6,-⟩:=hA.out
    have hlen:(l.eraseIdx i).length=l.length-1:=by rw [List.length_eraseIdx,if_pos hi]
    have e3:flat (l.take i)++flat (l.drop (i+1))=flat (l.eraseIdx i):=by rw [← qQc,List.eraseIdx_eq_take_drop_succ]
    rw [e3] at H4
    have H5:=(Hd.slcC_mk (n:=l.length-1) (cap:=cap) (size:=2) H4 (by rw [qQf,hlen];rfl) (by omega) a1 (by
      rw [List.length_append,qQf] at a2
      have hz:(Builtin.zeroCells (Value.agg #[Value.int IntKind.i64 0,Value.pointer none]).cells 1).toList.length=2:=by rw [Array.length_toList,size_zeroCells];rfl
      rw [List.length_append,List.length_append,qQf,hlen,hz]
      simp only [Enc.size] at a2 ⊢
      omega)).slc_mk
    unfold SlE
    rw [hlen]
    exact H5
variable {s o T:Nat} {C:Array Value}
theorem zQ1 {x:RowH} {k:Int} (H:Hd w0 (cel s T C::SlE 246 v l::R) w) (hC:C[o]? = some v) (hs:qQ9 l) (hn:l.length≤100000) (hx:qQs l k=some x):Calls Tryz.prog 212 #[.pointer (some ⟨s,o,none⟩),.int .i64 k] w fun e w' =>
    e=.returned (.bool true)∧∃v',Hd w0 (cel s T (C.setIfInBounds o v')::SlE 246 v' (l.eraseIdx (pos l k))::R) w':=by
  have hf:=qX2 H hC hs hn k
  rw [hx] at hf
  have hlt:=qQa (qQv hs hx).1
  have n1:IntKind.i64.wrap (((pos l k:Nat):Int)+1)=((pos l k:Nat):Int)+1:=IntWalk.i64_in _ (by omega)
  replace hn:=Lib.hid hn
  clear hs H hx
  go_enter Tryz.func212,Tryz.ntmps212
  go_wp2_with fail
  refine hf.mono ?_
  rintro e w1 ⟨rfl,H1⟩
  obtain ⟨g,cap,rfl,H2⟩:=H1.b2.slc_at (by omega)
  have c0:=(H2.k s).ce o hC
  clear hf H1
  go_wp2_with fail
  refine (zZO H2 hn.out hlt).mono ?_
  rintro e w2 ⟨v',rfl,H3⟩
  obtain ⟨l',hl'⟩:∃l',l'=l.eraseIdx (pos l k):=⟨_,rfl⟩
  rw [← hl'] at H3
  replace hl':=Lib.hid hl'
  obtain ⟨a',cap',rfl,-,-,-,-⟩:=H3.slc_form
  have c1:=(H3.k s).ce o hC
  have f1:=(H3.k s).fr o
  go_wp2_with fail
  go_ret
  refine ⟨rfl,.slice a' l'.length cap',?_⟩
  rw [← hl'.out]
  exact (H3.k s).set o (.slice a' l'.length cap')
end
end
section
open Go.RowKit Spl
theorem qKd:(Tryz.prog.info? 203).map (fun i=>(i.zero,i.size,i.bytes))=some (some (.agg #[.string ⟨#[]⟩,.int .i64 0]),2,24):=by kernel_rfl
section
variable {w0 w:World} {R:List Pr} {v:Value} {l:List RowN} {nb:Nat}
theorem qK8 {x:RowN} (H:Hd w0 (cel nb 203 #[.string x.k,.int .i64 x.i]::R) w):∀(j:Nat) (u:Value),[.string x.k,.int .i64 x.i][j]? = some u→w.cell? ((⟨nb,0,none⟩:Addr).add j)=some u:=by
  intro j u hj
  rw [add0,H.rd]
  simpa using hj
theorem qUd {x:RowN} (H:Hd w0 (SlE 203 v l::cel nb 203 #[.string x.k,.int .i64 x.i]::R) w) (hn:l.length≤100000):Calls Tryz.prog 96 #[v,.int .i64 l.length,.slice (some ⟨nb,0,none⟩) 1 1] w fun e w' =>
    ∃v',e=.returned v'∧Hd w0 (SlE 203 v' (l++[x])::R) w':=by
  obtain ⟨i0,hi,hz0,hz1,hz2⟩:=info_parts qKd
  have hnews:=Lib.hid (qK8 H.b2)
  have hS:∀(v':Value) (w':World),Hd w0 (Slc 203 2 v' (l.length+1) (flat l++[.string x.k,.int .i64 x.i])::cel nb 203 #[.string x.k,.int .i64 x.i]::R) w'→Hd w0 (SlE 203 v' (l++[x])::R) w':=by
    intro v' w' h
    have e1:(l++[x]).length=l.length+1:=by simp
    have e2:flat (l++[x])=flat l++[.string x.k,.int .i64 x.i]:=by rw [qQc,qQK];rfl
    unfold SlE
    rw [e1,e2]
    exact h.b2.tail
  replace hS:=Lib.hid hS
  replace hn:=Lib.hid hn
  have hb1:([.string x.k,.int .i64 x.i]:List Value).length=1*2:=rfl
  rcases H.slc with ⟨rfl,hl0,_,_⟩ | ⟨g,cap,rfl,_⟩
  · obtain rfl:l = []:=List.eq_nil_of_length_eq_zero hl0
    go_enter Tryz.func96,Tryz.ntmps96
    go_wp2_with (at_builtin;refine qQb rfl _ _ 73 rfl 203 i0 _ 2 24 Tryz.underlying73 hi hz0 hz1 hz2 rfl _ _ _ rfl H ⟨nb,0,none⟩ 1 1 [.string x.k,.int .i64 x.i] rfl rfl hnews.out (by simp [Value.oneCell']) (by unfold maxLen;simp) (by simp) ?_;intro v' w2 H3)
    go_ret
    exact ⟨_,rfl,hS.out _ _ H3⟩
  · go_enter Tryz.func96,Tryz.ntmps96
    go_wp2_with (at_builtin;refine qQb rfl _ _ 73 rfl 203 i0 _ 2 24 Tryz.underlying73 hi hz0 hz1 hz2 rfl _ _ _ rfl H ⟨nb,0,none⟩ 1 1 [.string x.k,.int .i64 x.i] rfl rfl hnews.out (by simp [Value.oneCell']) (by have:=hn.out;unfold maxLen;omega) (by have:=hn.out;omega) ?_;intro v' w2 H3)
    all_goals (go_ret;exact ⟨_,rfl,hS.out _ _ H3⟩)
theorem qWq {e:TypeId} {g n m cap:Nat} {z:Array Value} {xs:List Value} {L:List Pr} (H:Hd w0 (SlcC e 2 g n cap (xs++(Builtin.zeroCells z m).toList)::L) w) (hz:z.size=2) (hm:0<m) :
    ∃o1 o2 sp:List Value,o1.length=2∧o2.length=(m-1)*2∧cap≤maxLen∧cap*2≤xs.length+m*2+sp.length∧Hd w0 (cel g e (xs++(o1++(o2++sp))).toArray::L) w:=by
  obtain ⟨_,_,h3,sp,h4,H1⟩:=H.slcC
  obtain ⟨Z,hZ⟩:∃Z,Z=(Builtin.zeroCells z m).toList:=⟨_,rfl⟩
  rw [← hZ] at H1 h4
  have hl:Z.length=m*2:=by rw [hZ,Array.length_toList,size_zeroCells,hz]
  refine ⟨Z.take 2,Z.drop 2,sp,by rw [List.length_take,hl];omega,by rw [List.length_drop,hl];omega,h3,by simp at h4;omega,?_⟩
  have e1:xs++(Z.take 2++(Z.drop 2++sp))=xs++Z++sp:=by rw [← List.append_assoc (Z.take 2),List.take_append_drop,List.append_assoc]
  rw [e1]
  exact H1
theorem qY3 {i:Nat} {x:RowN}:(l.take i++x::l.drop i).length=l.length+1:=by
  simp
  omega
theorem qUp {x:RowN} {i g cap:Nat} (H:Hd w0 (SlcC 203 2 g l.length cap (flat l)::cel nb 203 #[.string x.k,.int .i64 x.i]::R) w) (hn:l.length≤100000) (hi:i<l.length) (hc:l.length+1≤cap):Calls Tryz.prog 96 #[.slice (some ⟨g,0,none⟩) l.length cap,.int .i64 i,.slice (some ⟨nb,0,none⟩) 1 1] w fun e w' =>
    ∃v',e=.returned v'∧Hd w0 (SlE 203 v' (l.take i++x::l.drop i)::R) w':=by
  obtain ⟨i0,hinf,hz0,hz1,hz2⟩:=info_parts qKd
  have n1:((i:Int) == l.length)=false:=by rw [beq_eq_false_iff_ne];omega
  have n2:¬((cap:Int)<(l.length:Int)+1):=by omega
  have n3:IntKind.i64.wrap ((l.length:Int)+1)=(l.length:Int)+1:=IntWalk.i64_in _ (by omega)
  have n4:IntKind.i64.wrap ((i:Int)+1)=(i:Int)+1:=IntWalk.i64_in _ (by omega)
  have n5:(i:Int)≤l.length:=by omega
  have n6:¬cap-i=0:=by omega
  have n7:¬cap-(i+1)=0:=by omega
  have n8:(0:Int)≤(i:Int)+1:=by omega
  have n9:¬cap=i+1:=by omega
  have n10:¬cap=i:=by omega
  have n11:(i:Int)≤(l.length:Int)+1:=by omega
  obtain ⟨_,_,hcm,sp,hsp,H1⟩:=H.slcC
  have hfl:=qQf l
  simp only [Enc.size] at hfl
  obtain ⟨s0,s1,sp,rfl⟩:∃s0 s1 sp',sp=s0::s1::sp':=by
    match sp,hsp with
    | [],h=>simp [hfl] at h;omega
    | [a],h=>simp [hfl] at h;omega
    | a::b::r,_=>exact ⟨a,b,r,rfl⟩
  have hHn:=H.b2.heap
  have hne:nb≠g:=H.ne0
  have hov:∀lb cb,(callFunc 125 #[.slice (some ⟨nb,0,none⟩) 1 1,.slice (some ⟨g,(i+1)*2,none⟩) lb cb]).run Tryz.prog w=.ok (.value (.bool false)) w:=fun lb cb=>by
    rw [run_callFunc_extern Tryz.func125 (by kernel_rfl) (by kernel_rfl) (by kernel_rfl) (e:=Extern.SlicesOverlaps.overlaps #[73,73] #[4]) (by kernel_rfl),
      Lib.run_overlaps_apart w 73 4 203 Tryz.underlying73 2 (fun w=>by simp [sizeOf,typeInfo,hinf,hz1]) ⟨nb,0,none⟩ ⟨g,(i+1)*2,none⟩ 1 1 lb cb hne 203 203 2 _ (by simp [World.shape?,hHn]) (by unfold World.shape?;rw [H1.heap]) (by simp) (H.b2.fr 0) (H.b2.fr 2)]
    rfl
  obtain ⟨y,hy⟩:∃y,l[i]? = some y:=⟨l[i],List.getElem?_eq_getElem hi⟩
  have ed:l.drop i=y::l.drop (i+1):=List.drop_eq_getElem?_toList_append.trans (by rw [hy];rfl)
  have e0:flat l=flat (l.take i)++(flat [y]++flat (l.drop (i+1))):=by
    rw [← qQc,← qQc,List.singleton_append,← ed,List.take_append_drop]
  have ht:(flat (l.take i)).length=i*2:=by rw [qQf,List.length_take,Nat.min_eq_left (by omega)];rfl
  have hd:(flat (l.drop i)).length=(l.length-i)*2:=by rw [qQf,List.length_drop];rfl
  have hd1:(flat (l.drop (i+1))).length=(l.length-(i+1))*2:=by rw [qQf,List.length_drop];rfl
  have hy2:(flat [y]).length=2:=by rw [qQf];rfl
  have hsrc:∀(j:Nat) (u:Value),(flat (l.drop i))[j]? = some u→w.cell? ((⟨g,i*2,none⟩:Addr).add j)=some u:=by
    intro j u hj
    have hadd:(⟨g,i*2,none⟩:Addr).add j=⟨g,i*2+j,none⟩:=by unfold Addr.add;split <;> simp_all
    rw [hadd,H1.rd]
    have e1:flat l=flat (l.take i)++flat (l.drop i):=by rw [← qQc,List.take_append_drop]
    simp only [List.getElem?_toArray]
    rw [List.getElem?_append_left (by have:=qQa hj;omega),e1,List.getElem?_append_right (by omega),ht,Nat.add_sub_cancel_left]
    exact hj
  have erow:flat l++s0::s1::sp=(flat (l.take i)++flat [y])++((flat (l.drop (i+1))++[s0,s1])++sp):=by rw [e0];simp
  rw [erow] at H1
  have hk1:Nat.min (l.length+1-i) (l.length+1-(i+1))=l.length-i:=by simp only [Nat.min_def];split <;> omega
  have hk1':Nat.min (l.length+1-i) (l.length-i)=l.length-i:=by simp only [Nat.min_def];split <;> omega
  have hk2:Nat.min 1 (l.length+1-i)=1:=by simp only [Nat.min_def];split <;> omega
  have hA:=Lib.hid (And.intro ed (And.intro e0 (And.intro ht (And.intro hd (And.intro hd1 (And.intro hy2 (And.intro hn (And.intro hi (And.intro hc (And.intro hcm hsp))))))))))
  replace hsrc:=Lib.hid hsrc
  replace hk1:=Lib.hid hk1
  replace hk1':=Lib.hid hk1'
  replace hk2:=Lib.hid hk2
  clear H ed e0 ht hd hd1 hy2 hcm hsp hfl hy erow hn hHn hne
  go_enter Tryz.func96,Tryz.ntmps96
  go_wp2_with fail
  refine wm0 [(0,true),(1,true),(2,true),(3,true),(4,true),(5,true),(6,true),(7,true),(8,false)] (fun w'=>True) (trivial) ?_
  iterate 8 (refine mh ?_;(try simp only [Act.put,List.setIfInBounds_toArray,List.set_cons_zero,List.set_cons_succ]))
  refine mm ?_
  refine qQR rfl _ _ 73 73 rfl 203 i0 2 Tryz.underlying73 hinf hz1 g ((i+1)*2) _ _ rfl ⟨g,i*2,none⟩ _ _ rfl (l.length-i) hk1'.out (flat (l.drop i)) (Hd.fol H1) (by obtain ⟨-,-,a1,-,-,a2,-⟩:=hA.out;rw [List.length_append,a1,a2];omega) (by obtain ⟨-,-,-,a1,a2,-,-,-⟩:=hA.out;rw [List.length_append,a1,a2];simp;omega) hA.out.2.2.2.1 (by exact hsrc.out) (qQx _) ?_
  intro w2 H2
  have H3:Hd w0 (cel g 203 (flat (l.take i)++(flat [y]++(flat (l.drop i)++sp))).toArray::cel nb 203 #[.string x.k,.int .i64 x.i]::R) w2:=by
    have:=H2
    rw [List.append_assoc] at this
    exact this
  have hnews:=Lib.hid (qK8 H3.b2)
  clear H1 H2
  refine qQd trivial ?_
  refine qQe ?_
  (try dsimp only)
  go_wp2_with (refine qQR rfl _ _ 73 73 rfl 203 i0 2 Tryz.underlying73 hinf hz1 g (i*2) _ _ rfl ⟨nb,0,none⟩ _ _ rfl 1 hk2.out [.string x.k,.int .i64 x.i] H3 hA.out.2.2.1 hA.out.2.2.2.2.2.1 rfl hnews.out (by simp [Value.oneCell']) ?_;intro w3 H4)
  go_ret
  refine ⟨_,rfl,?_⟩
  have e1:flat (l.take i)++([.string x.k,.int .i64 x.i]++(flat (l.drop i)++sp))=flat (l.take i++x::l.drop i)++sp:=by
    rw [qQc,qQI,List.append_assoc,List.append_assoc]
    rfl
  rw [e1] at H4
  obtain ⟨-,-,a1,a2,-,-,-,a3,a4,a5,a6⟩:=hA.out
  have hlen:(l.take i++x::l.drop i).length=l.length+1:=qY3
  have H5:=(Hd.slcC_mk (n:=l.length+1) (cap:=cap) (size:=2) H4 (by rw [qQf,hlen];rfl) (by omega) a5 (by
    have b1:=a6
    rw [List.length_append,qQf] at b1 ⊢
    rw [hlen]
    simp only [Enc.size,List.length_cons] at b1 ⊢
    omega)).slc_mk
  have H6:Hd w0 (Slc 203 2 (.slice (some ⟨g,0,none⟩) (l.length+1) cap) (l.length+1) (flat (l.take i++x::l.drop i))::R) w3:=H5.b2.tail
  unfold SlE
  rw [hlen]
  exact H6
theorem qVx {x:RowN} {i g cap:Nat} (H:Hd w0 (SlcC 203 2 g l.length cap (flat l)::cel nb 203 #[.string x.k,.int .i64 x.i]::R) w) (hn:l.length≤100000) (hi:i<l.length) (hc:cap<l.length+1):Calls Tryz.prog 96 #[.slice (some ⟨g,0,none⟩) l.length cap,.int .i64 i,.slice (some ⟨nb,0,none⟩) 1 1] w fun e w' =>
    ∃v',e=.returned v'∧Hd w0 (SlE 203 v' (l.take i++x::l.drop i)::R) w':=by
  obtain ⟨i0,hinf,hz0,hz1,hz2⟩:=info_parts qKd
  have hnc:=H.slcC.2.1
  have n1:((i:Int) == l.length)=false:=by rw [beq_eq_false_iff_ne];omega
  have n2:(cap:Int)<(l.length:Int)+1:=by omega
  have n3:IntKind.i64.wrap ((l.length:Int)+1)=(l.length:Int)+1:=IntWalk.i64_in _ (by omega)
  have n4:IntKind.i64.wrap ((i:Int)+1)=(i:Int)+1:=IntWalk.i64_in _ (by omega)
  have n12:IntKind.i64.wrap ((l.length:Int)+1-i)=((l.length+1-i:Nat):Int):=by rw [IntWalk.i64_in _ (by omega)];omega
  have n5:(i:Int)≤l.length:=by omega
  have n5':(i:Int)≤cap:=by omega
  have n5'':i≤cap:=by omega
  have n8:(0:Int)≤(i:Int)+1:=by omega
  have n11:(i:Int)≤(l.length:Int)+1:=by omega
  have n6:¬cap-i=0:=by omega
  have n10:¬cap=i:=by omega
  have ht:(flat (l.take i)).length=i*2:=by rw [qQf,List.length_take,Nat.min_eq_left (by omega)];rfl
  have hd:(flat (l.drop i)).length=(l.length-i)*2:=by rw [qQf,List.length_drop];rfl
  have e1:flat l=flat (l.take i)++flat (l.drop i):=by rw [← qQc,List.take_append_drop]
  have hpre:∀(j:Nat) (u:Value),(flat (l.take i))[j]? = some u→w.cell? ((⟨g,0,none⟩:Addr).add j)=some u:=by
    intro j u hj
    rw [add0]
    exact H.slcC_rd (by rw [e1,List.getElem?_append_left (qQa hj)];exact hj)
  have hsrc:∀ {L:List Pr} {w1:World},Hd w0 (SlcC 203 2 g l.length cap (flat l)::L) w1→∀(j:Nat) (u:Value),(flat (l.drop i))[j]? = some u→w1.cell? ((⟨g,i*2,none⟩:Addr).add j)=some u:=by
    intro L w1 H1 j u hj
    have hadd:(⟨g,i*2,none⟩:Addr).add j=⟨g,i*2+j,none⟩:=by unfold Addr.add;split <;> simp_all
    rw [hadd]
    exact H1.slcC_rd (by rw [e1,List.getElem?_append_right (by omega),ht,Nat.add_sub_cancel_left];exact hj)
  have hm:0<l.length+1-i:=by omega
  have hg1:cap<i+(l.length+1-i):=by omega
  have hg2:(i+(l.length+1-i))*24≤140737488355328:=by omega
  have hsum:i+(l.length+1-i)=l.length+1:=by omega
  have hk1':Nat.min (l.length-i) (l.length-i)=l.length-i:=Nat.min_self _
  have hk2:Nat.min 1 (l.length+1-i)=1:=by simp only [Nat.min_def];split <;> omega
  have hA:=Lib.hid (And.intro ht (And.intro hd (And.intro hpre (And.intro hg2 (And.intro hsum (And.intro hk1' (And.intro hk2 (And.intro hi (And.intro hm hg1)))))))))
  have hS:=Lib.hid (And.intro @hsrc True.intro)
  clear ht hd e1 hpre hsrc hg2 hk1' hk2 hnc hm hg1 hn hsum
  go_enter Tryz.func96,Tryz.ntmps96
  go_wp2_with (first | (at_builtin;refine qZv rfl _ _ 73 3 rfl 203 i0 _ 2 24 Tryz.underlying73 Tryz.underlying3 hinf hz0 hz1 hz2 rfl (by decide) (by decide) ⟨g,0,none⟩ i cap rfl (flat (l.take i)) hA.out.1 hA.out.2.2.1 (l.length+1-i) _ rfl hA.out.2.2.2.2.2.2.2.2.1 hA.out.2.2.2.2.2.2.2.2.2 hA.out.2.2.2.1 H ?_;intro cap' w1 hcap H1;rw [hA.out.2.2.2.2.1] at hcap H1 ⊢;have n13:¬cap'=i:=(by omega);have n14:¬cap'=i+1:=(by omega);obtain ⟨o1,o2,sp,ho1,ho2,hcm,hsp,H2⟩:=qWq H1 rfl hA.out.2.2.2.2.2.2.2.2.1;have hB:=Lib.hid (And.intro ho1 (And.intro ho2 (And.intro hcm (And.intro hsp hcap))));have hnews:=Lib.hid (qK8 (Hd.k nb H2));clear ho1 ho2 hcm hsp H1 hcap) | (refine qQR rfl _ _ 73 73 rfl 203 i0 2 Tryz.underlying73 hinf hz1 w.heap.size (i*2) _ _ rfl ⟨nb,0,none⟩ _ _ rfl 1 hA.out.2.2.2.2.2.2.1 [.string x.k,.int .i64 x.i] H2 hA.out.1 hB.out.1 rfl hnews.out (by simp [Value.oneCell']) ?_;intro w2 H3))
  refine wm0 [(0,true),(1,true),(2,true),(3,true),(4,true),(5,true),(6,true),(7,true),(8,false)] (fun w'=>True) (trivial) ?_
  iterate 8 (refine mh ?_;(try simp only [Act.put,List.setIfInBounds_toArray,List.set_cons_zero,List.set_cons_succ]))
  refine mm ?_
  have H4:=H3
  rw [← List.append_assoc] at H4
  refine qQR rfl _ _ 73 73 rfl 203 i0 2 Tryz.underlying73 hinf hz1 w.heap.size ((i+1)*2) _ _ rfl ⟨g,i*2,none⟩ _ _ rfl (l.length-i) hA.out.2.2.2.2.2.1 (flat (l.drop i)) (Hd.fol H4) (by have a1:=hA.out.1;rw [List.length_append,a1];simp;omega) (by have a1:=hB.out.2.1;have a2:=hA.out.2.1;rw [a1,a2];omega) hA.out.2.1 (by exact hS.out.1 ((Hd.fol H4:Hd w0 _ _).k g)) (qQx _) ?_
  intro w3 H5
  refine qQd trivial ?_
  refine qQe ?_
  (try dsimp only)
  go_wp2_with fail
  go_ret
  refine ⟨_,rfl,?_⟩
  have e1:(flat (l.take i)++([.string x.k,.int .i64 x.i]:List Value))++(flat (l.drop i)++sp)=flat (l.take i++x::l.drop i)++sp:=by
    rw [qQc,qQI,List.append_assoc,List.append_assoc,List.append_assoc]
    rfl
  rw [e1] at H5
  obtain ⟨a1,a2,-,-,a3,-,-,a4,-,-⟩:=hA.out
  obtain ⟨b1,b2,b3,b4,b5⟩:=hB.out
  have hlen:(l.take i++x::l.drop i).length=l.length+1:=qY3
  have H6:=(Hd.slcC_mk (n:=l.length+1) (cap:=cap') (size:=2) H5 (by rw [qQf,hlen];rfl) b5 b3 (by
    rw [List.length_append,qQf,hlen]
    simp only [Enc.size] at b4 ⊢
    omega)).slc_mk
  have H7:Hd w0 (Slc 203 2 (.slice (some ⟨w.heap.size,0,none⟩) (l.length+1) cap') (l.length+1) (flat (l.take i++x::l.drop i))::R) w3:=H6.re
  unfold SlE
  rw [hlen]
  exact H7
theorem zZE {x:RowN} {i:Nat} (H:Hd w0 (SlE 203 v l::cel nb 203 #[.string x.k,.int .i64 x.i]::R) w) (hn:l.length≤100000) (hi:i≤l.length):Calls Tryz.prog 96 #[v,.int .i64 i,.slice (some ⟨nb,0,none⟩) 1 1] w fun e w' =>
    ∃v',e=.returned v'∧Hd w0 (SlE 203 v' (l.take i++x::l.drop i)::R) w':=by
  by_cases h:i=l.length
  · subst h
    rw [List.take_length,List.drop_length]
    exact qUd H hn
  · obtain ⟨g,cap,rfl,H1⟩:=H.slc_at (by omega)
    by_cases hc:l.length+1≤cap
    · exact qUp H1 hn (by omega) hc
    · exact qVx H1 hn (by omega) (by omega)
variable {s o T:Nat} {C:Array Value}
theorem qKQ (H:Hd w0 (cel s T C::SlE 203 v l::R) w) (hC:C[o]? = some v) (hs:qQ9 l) (hn:l.length≤100000) (k:ByteArray):Calls Tryz.prog 95 #[.pointer (some ⟨s,o,none⟩),.string k] w fun e w' =>
    e=.returned (.tuple #[.int .i64 (pos l k),.bool (qQs l k).isSome])∧Hd w0 (cel s T C::SlE 203 v l::R) w':=by
  have c0:=H.ce o hC
  have hb:=zJT H.b2 hs hn k
  clear hs hn H hC
  go_enter Tryz.func95,Tryz.ntmps95
  go_wp2_with fail
  refine hb.mono ?_
  rintro e w' ⟨rfl,H1⟩
  go_wp2_with fail
  go_ret2
  exact ⟨rfl,H1.b2⟩
theorem zZJ {x:RowN} (H:Hd w0 (cel s T C::SlE 203 v l::R) w) (hC:C[o]? = some v) (hs:qQ9 l) (hn:l.length≤100000) (k:ByteArray) (hx:qQs l k=some x):Calls Tryz.prog 79 #[.pointer (some ⟨s,o,none⟩),.string k] w fun e w' =>
    e=.returned (.tuple #[.int .i64 x.i,.bool true])∧Hd w0 (cel s T C::SlE 203 v l::R) w':=by
  have hf:=qKQ H hC hs hn k
  rw [hx] at hf
  have hat:=(qQv hs hx).1
  have hlt:=qQa hat
  have n1:¬(((pos l k:Nat):Int)<0):=by omega
  have n2:((pos l k:Nat):Int)<l.length:=by omega
  have n3:¬l.length≤pos l k:=by omega
  clear hs hn H hx
  go_enter Tryz.func79,Tryz.ntmps79
  go_wp2_with fail
  refine hf.mono ?_
  rintro e w1 ⟨rfl,H1⟩
  obtain ⟨g,cap,rfl,H2⟩:=H1.b2.slc_at (by omega)
  have c0:=(H2.k s).ce o hC
  have c1:=H2.slcC_rd (qQi hat (j:=1) rfl)
  simp only [Enc.size] at c1
  clear H2 hf
  go_wp2_with fail
  go_ret2
  exact ⟨rfl,H1⟩
theorem qqo (H:Hd w0 (cel s T C::SlE 203 v l::R) w) (hC:C[o]? = some v) (hs:qQ9 l) (hn:l.length≤100000) (k:ByteArray) (hx:qQs l k=none):Calls Tryz.prog 79 #[.pointer (some ⟨s,o,none⟩),.string k] w fun e w' =>
    e=.returned (.tuple #[.int .i64 0,.bool false])∧Hd w0 (cel s T C::SlE 203 v l::R) w':=by
  have hf:=qKQ H hC hs hn k
  rw [hx] at hf
  clear hs hn H hx hC
  go_enter Tryz.func79,Tryz.ntmps79
  go_wp2_with fail
  refine hf.mono ?_
  rintro e w1 ⟨rfl,H1⟩
  go_wp2_with fail
  go_ret2
  exact ⟨rfl,H1⟩
theorem qYa {x:RowN} (H:Hd w0 (cel s T C::SlE 203 v l::R) w) (hC:C[o]? = some v) (hs:qQ9 l) (hn:l.length≤100000) (hx:qQs l x.k=none):Calls Tryz.prog 63 #[.pointer (some ⟨s,o,none⟩),.string x.k,.int .i64 x.i] w fun e w' =>
    e=.returned (.bool true)∧∃v',Hd w0 (cel s T (C.setIfInBounds o v')::SlE 203 v' (l.take (pos l x.k)++x::l.drop (pos l x.k))::R) w':=by
  have hf:=qKQ H hC hs hn x.k
  rw [hx] at hf
  have hle:=qYQ l x.k
  replace hn:=Lib.hid hn
  replace hle:=Lib.hid hle
  clear hs H hx
  go_enter Tryz.func63,Tryz.ntmps63
  go_wp2_with fail
  refine hf.mono ?_
  rintro e w1 ⟨rfl,H1⟩
  have HB:Hd w0 _ (w1.alloc (.cells #[.string x.k,.int .i64 x.i] 203)):=H1.fol
  have c0:=(H1.k s).ce o hC
  clear hf
  go_wp2_with fail
  refine (zZE (x:=x) (R:=cel s T C::R) ((HB.v v).k w1.heap.size).b2 hn.out hle.out).mono ?_
  rintro e w2 ⟨v',rfl,H2⟩
  obtain ⟨l',hl'⟩:∃l',l'=l.take (pos l x.k)++x::l.drop (pos l x.k):=⟨_,rfl⟩
  rw [← hl'] at H2
  replace hl':=Lib.hid hl'
  obtain ⟨a',cap',rfl,-,-,-,-⟩:=H2.slc_form
  have c1:=(H2.k s).ce o hC
  have f1:=(H2.k s).fr o
  go_wp2_with fail
  go_ret
  refine ⟨rfl,.slice a' l'.length cap',?_⟩
  rw [← hl'.out]
  exact (H2.k s).set o (.slice a' l'.length cap')
end
end
section
open Go.RowKit Spl
structure HoM where
  locks:List qZQ
  held:List Int
structure JobM where
  job:Int
  h:HoM
instance:qQ8 JobM Int:=⟨JobM.job⟩
structure UnM where
  units:List Int
  free:List Int
  cells:List Int
  jobs:List JobM
def qQq (jobs:List JobM) (bs:List Nat):List RowH:=List.zipWith (fun j b=>⟨j.job,b⟩) jobs bs
theorem qQZ {jobs:List JobM} {bs:List Nat} (h:bs.length=jobs.length):(qQq jobs bs).length=jobs.length:=by simp [qQq,h]
theorem qYh {jobs:List JobM} {bs:List Nat} {i:Nat} {j:JobM} {b:Nat} (hj:jobs[i]? = some j) (hb:bs[i]? = some b):(qQq jobs bs)[i]? = some ⟨j.job,b⟩:=by
  simp [qQq,List.getElem?_zipWith,hj,hb]
theorem qJK {k:Int}:∀ {jobs:List JobM} {bs:List Nat} (_:bs.length=jobs.length),pos (qQq jobs bs) k=pos jobs k:=by
  intro jobs
  induction jobs with
  | nil=>intro bs h;rfl
  | cons j jobs ih =>
    intro bs h
    cases bs with
    | nil=>simp at h
    | cons b bs =>
      have h2:=ih (bs:=bs) (by simpa using h)
      unfold pos at h2 ⊢
      show ((RowH.mk j.job b::qQq jobs bs).takeWhile _).length=_
      rw [List.takeWhile_cons,List.takeWhile_cons]
      show (if KLt.lt j.job k=true then _ else _:List RowH).length=(if KLt.lt j.job k=true then _ else _:List JobM).length
      split
      · simp [h2]
      · rfl
theorem qQ3:∀ {jobs:List JobM} {bs:List Nat} (_:qQ9 jobs),qQ9 (qQq jobs bs):=by
  intro jobs
  induction jobs with
  | nil=>intro bs h;exact List.Pairwise.nil
  | cons j jobs ih =>
    intro bs h
    cases bs with
    | nil=>exact List.Pairwise.nil
    | cons b bs =>
      have h2:=List.pairwise_cons.1 h
      refine List.pairwise_cons.2 ⟨?_,ih h2.2⟩
      intro x hx
      obtain ⟨i,hi⟩:=List.getElem?_of_mem hx
      have h3:(qQq jobs bs)[i]? = some x:=hi
      unfold qQq at h3
      rw [List.getElem?_zipWith] at h3
      cases hj:jobs[i]? with
      | none=>rw [hj] at h3;simp at h3
      | some y =>
        cases hb:bs[i]? with
        | none=>rw [hj,hb] at h3;simp at h3
        | some c =>
          rw [hj,hb] at h3
          simp at h3
          subst h3
          exact h2.1 y (List.mem_of_getElem? hj)
def hol (b:Nat) (j:JobM):Pr:=ex fun lv:Value=>all [cel b 182 (lv::j.h.held.map (Value.int .i64)).toArray,SlE 320 lv j.h.locks]
structure UnV where
  vu:Value
  vf:Value
  vc:Value
  vj:Value
  bs:List Nat
def UnP (t:Nat) (m:UnM):Pr:=ex fun x:UnV=>all [fact (x.bs.length=m.jobs.length),cel t 173 #[x.vu,x.vf,x.vc,x.vj],SlE 3 x.vu m.units,SlE 3 x.vf m.free,SlE 3 x.vc m.cells,SlE 246 x.vj (qQq m.jobs x.bs),all (List.zipWith hol x.bs m.jobs)]
instance (b:Nat) (m:UnM):Key (UnP b m) (.b b):=⟨trivial⟩
section
variable {w0 w:World} {R:List Pr} {t:Nat} {m:UnM}
theorem UnP.opened (H:Hd w0 (UnP t m::R) w):∃x:UnV,x.bs.length=m.jobs.length∧Hd w0 (cel t 173 #[x.vu,x.vf,x.vc,x.vj]::SlE 3 x.vu m.units::SlE 3 x.vf m.free::SlE 3 x.vc m.cells::SlE 246 x.vj (qQq m.jobs x.bs)::all (List.zipWith hol x.bs m.jobs)::R) w:=by
  obtain ⟨x,H⟩:=H.out
  have H2:=H.flat
  exact ⟨x,Hd.get H2,H2.tail⟩
theorem UnP.shut {x:UnV} (H:Hd w0 (cel t 173 #[x.vu,x.vf,x.vc,x.vj]::SlE 3 x.vu m.units::SlE 3 x.vf m.free::SlE 3 x.vc m.cells::SlE 246 x.vj (qQq m.jobs x.bs)::all (List.zipWith hol x.bs m.jobs)::R) w) (h:x.bs.length=m.jobs.length):Hd w0 (UnP t m::R) w :=
  Hd.into x (Hd.pack (L:=[_,_,_,_,_,_,_]) (Hd.put h H))
end
end
section
open Go.RowKit Spl
theorem qQC {P:Program} {fn:Func} {p:Tmp} {ty:TypeId} (h:fn.results=#[.cell p ty]) (tmps:Array Value) (w:World) (g:Nat) (t:TypeId) (cs:Array Value) (fr:Nat × Nat) (d:TypeDesc)
    (hp:tmps.getD p undef=.pointer (some ⟨g,0,none⟩)) (hg:w.heap[g]? = some (.cells cs t fr))
    (hu:P.underlying ty=some d) (hd:(match d with | .struct _ | .array _ _=>true | _=>false)=true) (hi:(P.info? ty).map (·.size)=some cs.size) :
    (results fn tmps).run P w=.ok (.agg cs) w:=by
  have hp':tmps[p]?.getD undef=.pointer (some ⟨g,0,none⟩):=by simpa using hp
  simp [results,h,hp',asAddr,run_loadVar_row w g t ty cs fr d hg hu hd hi]
section
variable {w0 w:World} {R:List Pr} {t:Nat} {m:UnM}
theorem qqH (H:Hd w0 (UnP t m::R) w) (r:Nat) (hr:r<m.units.length):Calls Tryz.prog 88 #[.pointer (some ⟨t,0,none⟩),.int .i64 r] w fun e w'=>e=.returned (.bool true)∧w=w':=by
  obtain ⟨⟨vu,vf,vc,vj,bs⟩,hb,H1⟩:=UnP.opened H
  obtain ⟨a,cap,rfl,-,-,-,-⟩:=(H1.tail).slc_form
  have c0:=H1.ce 0 rfl
  have n1:(0:Int)≤r:=by omega
  have n2:(r:Int)<m.units.length:=by omega
  clear H H1 hb
  go_enter Tryz.func88,Tryz.ntmps88
  go_wp2
  go_ret
  exact ⟨rfl,rfl⟩
theorem qUu (H:Hd w0 (UnP t m::R) w) (r:Int) (hr:r<0∨m.units.length≤r):Calls Tryz.prog 88 #[.pointer (some ⟨t,0,none⟩),.int .i64 r] w fun e w'=>e=.returned (.bool false)∧w=w':=by
  obtain ⟨⟨vu,vf,vc,vj,bs⟩,hb,H1⟩:=UnP.opened H
  obtain ⟨a,cap,rfl,-,-,-,-⟩:=(H1.tail).slc_form
  have c0:=H1.ce 0 rfl
  clear H H1 hb
  by_cases h:r<0
  · clear hr
    go_enter Tryz.func88,Tryz.ntmps88
    go_wp2
    go_ret
    exact ⟨rfl,rfl⟩
  · have n2:¬(r<m.units.length):=by omega
    clear hr
    go_enter Tryz.func88,Tryz.ntmps88
    go_wp2
    go_ret
    exact ⟨rfl,rfl⟩
theorem zXT (H:Hd w0 (UnP t m::R) w) (r:Nat) (hr:r<m.units.length) {n:Int} (hn:m.free[r]? = some n):Calls Tryz.prog 181 #[.pointer (some ⟨t,0,none⟩),.int .i64 r] w fun e w'=>e=.returned (.int .i64 n)∧w=w':=by
  have hh:=qqH H r hr
  obtain ⟨⟨vu,vf,vc,vj,bs⟩,hb,H1⟩:=UnP.opened H
  have hlt:=qQa hn
  obtain ⟨g,cap,rfl,H2⟩:=(H1.v vf).slc_at (by omega)
  have c0:=(H2.k t).ce 1 rfl
  have c1:=H2.slcC_rd (qQi hn (j:=0) rfl)
  simp only [Enc.size,Nat.add_zero,Nat.mul_one] at c1
  have n1:¬((r:Int)<0):=by omega
  have n2:(r:Int)<m.free.length:=by omega
  have n3:¬m.free.length≤r:=by omega
  clear H H1 H2 hb hn
  go_enter Tryz.func181,Tryz.ntmps181
  go_wp2_with fail
  refine hh.mono ?_
  rintro e w' ⟨rfl,rfl⟩
  go_wp2_with fail
  go_ret
  exact ⟨rfl,rfl⟩
end
end
section
open Go.RowKit Spl
def UnM.heldL (m:UnM) (job:Int):List Int:=match qQs m.jobs job with
  | some j=>j.h.held
  | none=>List.replicate 16 0
structure UnM.Ok (m:UnM):Prop where
  s:qQ9 m.jobs
  n:m.jobs.length≤5000
  h:∀j∈m.jobs,j.h.held.length=16
theorem qXu {jobs:List JobM} {bs:List Nat} {k:Int} (h:bs.length=jobs.length) {j:JobM} (hj:qQs jobs k=some j):∃b,bs[pos jobs k]? = some b∧qQs (qQq jobs bs) k=some ⟨j.job,b⟩:=by
  unfold qQs at hj ⊢
  rw [qJK h]
  cases hq:jobs[pos jobs k]? with
  | none=>rw [hq] at hj;cases hj
  | some y =>
    obtain ⟨b,hb⟩:∃b,bs[pos jobs k]? = some b:=⟨bs[pos jobs k]'(by have:=qQa hq;omega),List.getElem?_eq_getElem _⟩
    refine ⟨b,hb,?_⟩
    rw [qYh hq hb]
    rw [hq] at hj
    show (if KLt.lt k y.job=true then none else some (⟨y.job,b⟩:RowH))=_
    have h2:(if KLt.lt k y.job=true then none else some y)=some j:=hj
    split at h2
    · cases h2
    · rename_i hc
      injection h2 with h2
      subst h2
      rw [if_neg hc]
theorem qJW {jobs:List JobM} {bs:List Nat} {k:Int} (h:bs.length=jobs.length) (hj:qQs jobs k=none):qQs (qQq jobs bs) k=none:=by
  unfold qQs at hj ⊢
  rw [qJK h]
  cases hq:jobs[pos jobs k]? with
  | none =>
    have:(qQq jobs bs)[pos jobs k]? = none:=by
      rw [List.getElem?_eq_none_iff] at hq ⊢
      rw [qQZ h];exact hq
    rw [this]
  | some y =>
    obtain ⟨b,hb⟩:∃b,bs[pos jobs k]? = some b:=⟨bs[pos jobs k]'(by have:=qQa hq;omega),List.getElem?_eq_getElem _⟩
    rw [qYh hq hb]
    rw [hq] at hj
    show (if KLt.lt k y.job=true then none else some (⟨y.job,b⟩:RowH))=none
    have h2:(if KLt.lt k y.job=true then none else some y)=none:=hj
    split at h2
    · rename_i hc
      rw [if_pos hc]
    · cases h2
end
end Go.Proofs.YtkchopnkdjnocaaGreatDoor
