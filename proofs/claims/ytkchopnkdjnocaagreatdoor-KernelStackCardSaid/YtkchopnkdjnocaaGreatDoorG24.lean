/-
  Merged texts of one proof: Ql, Wi1.
-/
import Derived.Test.YtkchopnkdjnocaaGreatDoorG02
import Derived.Test.YtkchopnkdjnocaaGreatDoorG07
import Derived.Test.YtkchopnkdjnocaaGreatDoorG20

set_option maxHeartbeats 16000000
set_option maxRecDepth 20000
namespace Go.Proofs.YtkchopnkdjnocaaGreatDoor
section
open Go.RowKit Spl
section
variable {w0 w:World} {R:List Pr} {s o T:Nat} {C:Array Value} {v:Value} {l:List EvM} {f:Nat} {gar:List Value}
theorem zZT (H:Hd w0 (cel s T C::Slc 96 9 v (f+l.length) (gar++flat l)::R) w) (hC:C[o]? = some v) (hC1:C[o+1]? = some (.int .i64 f)) (hg:gar.length=f*9) (hf:f≤100000) (hn:l.length≤100000) :
    Calls Tryz.prog 106 #[.pointer (some ⟨s,o,none⟩)] w fun e w'=>∃g,e=.returned (.slice (some ⟨g,0,none⟩) l.length l.length)∧Hd w0 (SlEC 96 g l.length l::cel s T C::Slc 96 9 v (f+l.length) (gar++flat l)::R) w':=by
  have c0:=(H.rd o).trans hC
  have c1:=(H.rd (o+1)).trans hC1
  rcases H.b2.slc with ⟨rfl,hz,-,-⟩ | ⟨g,cap,rfl,H1⟩
  · have hl0:l.length=0:=by omega
    have hl:l = []:=List.eq_nil_of_length_eq_zero hl0
    have hf0:f=0:=by omega
    subst hl
    subst hf0
    clear hl0 hz
    have HD:=H.drew
    have hcp:=qXb (l:=([]:List EvM)) (A:=none) (cap:=0) HD (by simp) rfl (by simp) (fun _ _ _ _ _ hj=>by cases hj)
    have hC':=Lib.hid hC
    have hC1':=Lib.hid hC1
    clear hC hC1
    go_enter Tryz.func106,Tryz.ntmps106
    go_wp2_with fail
    refine wm 10 [(0,true),(1,true),(2,true),(3,true),(4,true),(5,true),(6,true),(7,true),(8,true),(9,false)] (fun w'=>w'.cell? ⟨s,o,none⟩=some (.slice none 0 0)∧w'.cell? ⟨s,o+1,none⟩=some (.int .i64 (0:Nat))) (⟨c0,c1⟩) ?_
    simp only [List.drop_succ_cons,List.drop_zero]
    iterate 9 (refine mh ?_;(try simp only [Act.put,List.setIfInBounds_toArray,List.set_cons_zero,List.set_cons_succ]))
    refine mm ?_
    go_wp2_with fail
    refine hcp.mono ?_
    rintro e w1 ⟨g5,rfl,H2⟩
    clear hcp
    go_wp2_with fail
    refine qQd ⟨((H2.b2.rd o).trans hC'.out),((H2.b2.rd (o+1)).trans hC1'.out)⟩ ?_
    refine qQe ?_
    (try dsimp only)
    go_wp2_with fail
    go_ret
    exact ⟨g5,rfl,H2⟩
  · obtain ⟨hxl,hnc,hcm,sp,hsp,H3⟩:=H1.slcC
    by_cases hcf:cap=f
    · have hl0:l.length=0:=by omega
      have hl:l = []:=List.eq_nil_of_length_eq_zero hl0
      subst hl
      subst hcf
      have m1:¬(cap:Int)<0:=by omega
      have m2:(0:Int)≤cap:=by omega
      clear hl0
      have HD:=H.drew
      have hcp:=qXb (l:=([]:List EvM)) (A:=some ⟨g,0,none⟩) (cap:=0) HD (by simp) rfl (by simp) (fun _ _ _ _ _ hj=>by cases hj)
      have hC':=Lib.hid hC
      have hC1':=Lib.hid hC1
      clear hC hC1
      go_enter Tryz.func106,Tryz.ntmps106
      go_wp2_with fail
      refine wm 10 [(0,true),(1,true),(2,true),(3,true),(4,true),(5,true),(6,true),(7,true),(8,true),(9,false)] (fun w'=>w'.cell? ⟨s,o,none⟩=some (.slice (some ⟨g,0,none⟩) (cap+([]:List EvM).length) cap)∧w'.cell? ⟨s,o+1,none⟩=some (.int .i64 cap)) (⟨c0,c1⟩) ?_
      simp only [List.drop_succ_cons,List.drop_zero]
      iterate 9 (refine mh ?_;(try simp only [Act.put,List.setIfInBounds_toArray,List.set_cons_zero,List.set_cons_succ]))
      refine mm ?_
      go_wp2_with fail
      refine hcp.mono ?_
      rintro e w1 ⟨g5,rfl,H2⟩
      clear hcp
      go_wp2_with fail
      refine qQd ⟨((H2.b2.rd o).trans hC'.out),((H2.b2.rd (o+1)).trans hC1'.out)⟩ ?_
      refine qQe ?_
      (try dsimp only)
      go_wp2_with fail
      go_ret
      exact ⟨g5,rfl,H2⟩
    · have m1:(f:Int)≤cap:=by omega
      have m2:¬(f:Int)<0:=by omega
      have m3:(0:Int)≤f:=by omega
      have m4:f≤cap:=by omega
      have m5:¬cap-f=0:=by omega
      have m6:f+l.length-f=l.length:=by omega
      have m7:(f:Int)≤(f:Int)+l.length:=by omega
      have m8:f≤f+l.length:=by omega
      have m9:¬cap=f:=hcf
      have HD:=H.drew
      have hcp:=qXb (l:=l) (A:=some ⟨g,f*9,none⟩) (cap:=cap-f) HD hn rfl (by simp) (by
        intro w1 h ad had j u hj
        obtain rfl:=Option.some.inj had
        have h2:=h.b2.slc_news.2 _ rfl (f*9+j) u (by rw [← hg,List.getElem?_append_right (Nat.le_add_right _ _),Nat.add_sub_cancel_left];exact hj)
        rw [Addr.add_lit] at h2 ⊢
        rw [Nat.zero_add] at h2
        exact h2)
      have hn':=Lib.hid hn
      have hC':=Lib.hid hC
      have hC1':=Lib.hid hC1
      clear hn hC hC1
      go_enter Tryz.func106,Tryz.ntmps106
      go_wp2_with fail
      refine wm 10 [(0,true),(1,true),(2,true),(3,true),(4,true),(5,true),(6,true),(7,true),(8,true),(9,false)] (fun w'=>w'.cell? ⟨s,o,none⟩=some (.slice (some ⟨g,0,none⟩) (f+l.length) cap)∧w'.cell? ⟨s,o+1,none⟩=some (.int .i64 f)) (⟨c0,c1⟩) ?_
      simp only [List.drop_succ_cons,List.drop_zero]
      iterate 9 (refine mh ?_;(try simp only [Act.put,List.setIfInBounds_toArray,List.set_cons_zero,List.set_cons_succ]))
      refine mm ?_
      go_wp2_with fail
      refine hcp.mono ?_
      rintro e w1 ⟨g5,rfl,H2⟩
      clear hcp
      go_wp2_with fail
      refine qQd ⟨((H2.b2.rd o).trans hC'.out),((H2.b2.rd (o+1)).trans hC1'.out)⟩ ?_
      refine qQe ?_
      (try dsimp only)
      go_wp2_with fail
      go_ret
      exact ⟨g5,rfl,H2⟩
end
section
variable {w0 w:World} {R:List Pr} {s o T:Nat} {C:Array Value} {v:Value} {l:List qQh} {f:Nat} {gar:List Value}
theorem qqi (H:Hd w0 (cel s T C::Slc 42 3 v (f+l.length) (gar++flat l)::R) w) (hC:C[o]? = some v) (hC1:C[o+1]? = some (.int .i64 f)) (hg:gar.length=f*3) (hf:f≤100000) (hn:l.length≤100000) :
    Calls Tryz.prog 156 #[.pointer (some ⟨s,o,none⟩)] w fun e w'=>∃g,e=.returned (.slice (some ⟨g,0,none⟩) l.length l.length)∧Hd w0 (SlEC 42 g l.length l::cel s T C::Slc 42 3 v (f+l.length) (gar++flat l)::R) w':=by
  have c0:=(H.rd o).trans hC
  have c1:=(H.rd (o+1)).trans hC1
  rcases H.b2.slc with ⟨rfl,hz,-,-⟩ | ⟨g,cap,rfl,H1⟩
  · have hl0:l.length=0:=by omega
    have hl:l = []:=List.eq_nil_of_length_eq_zero hl0
    have hf0:f=0:=by omega
    subst hl
    subst hf0
    clear hl0 hz
    have HD:=H.drew
    have hcp:=qJl (l:=([]:List qQh)) (A:=none) (cap:=0) HD (by simp) rfl (by simp) (fun _ _ _ _ _ hj=>by cases hj)
    have hC':=Lib.hid hC
    have hC1':=Lib.hid hC1
    clear hC hC1
    go_enter Tryz.func156,Tryz.ntmps156
    go_wp2_with fail
    refine wm 10 [(0,true),(1,true),(2,true),(3,true),(4,true),(5,true),(6,true),(7,true),(8,true),(9,false)] (fun w'=>w'.cell? ⟨s,o,none⟩=some (.slice none 0 0)∧w'.cell? ⟨s,o+1,none⟩=some (.int .i64 (0:Nat))) (⟨c0,c1⟩) ?_
    simp only [List.drop_succ_cons,List.drop_zero]
    iterate 9 (refine mh ?_;(try simp only [Act.put,List.setIfInBounds_toArray,List.set_cons_zero,List.set_cons_succ]))
    refine mm ?_
    go_wp2_with fail
    refine hcp.mono ?_
    rintro e w1 ⟨g5,rfl,H2⟩
    clear hcp
    go_wp2_with fail
    refine qQd ⟨((H2.b2.rd o).trans hC'.out),((H2.b2.rd (o+1)).trans hC1'.out)⟩ ?_
    refine qQe ?_
    (try dsimp only)
    go_wp2_with fail
    go_ret
    exact ⟨g5,rfl,H2⟩
  · obtain ⟨hxl,hnc,hcm,sp,hsp,H3⟩:=H1.slcC
    by_cases hcf:cap=f
    · have hl0:l.length=0:=by omega
      have hl:l = []:=List.eq_nil_of_length_eq_zero hl0
      subst hl
      subst hcf
      have m1:¬(cap:Int)<0:=by omega
      have m2:(0:Int)≤cap:=by omega
      clear hl0
      have HD:=H.drew
      have hcp:=qJl (l:=([]:List qQh)) (A:=some ⟨g,0,none⟩) (cap:=0) HD (by simp) rfl (by simp) (fun _ _ _ _ _ hj=>by cases hj)
      have hC':=Lib.hid hC
      have hC1':=Lib.hid hC1
      clear hC hC1
      go_enter Tryz.func156,Tryz.ntmps156
      go_wp2_with fail
      refine wm 10 [(0,true),(1,true),(2,true),(3,true),(4,true),(5,true),(6,true),(7,true),(8,true),(9,false)] (fun w'=>w'.cell? ⟨s,o,none⟩=some (.slice (some ⟨g,0,none⟩) (cap+([]:List qQh).length) cap)∧w'.cell? ⟨s,o+1,none⟩=some (.int .i64 cap)) (⟨c0,c1⟩) ?_
      simp only [List.drop_succ_cons,List.drop_zero]
      iterate 9 (refine mh ?_;(try simp only [Act.put,List.setIfInBounds_toArray,List.set_cons_zero,List.set_cons_succ]))
      refine mm ?_
      go_wp2_with fail
      refine hcp.mono ?_
      rintro e w1 ⟨g5,rfl,H2⟩
      clear hcp
      go_wp2_with fail
      refine qQd ⟨((H2.b2.rd o).trans hC'.out),((H2.b2.rd (o+1)).trans hC1'.out)⟩ ?_
      refine qQe ?_
      (try dsimp only)
      go_wp2_with fail
      go_ret
      exact ⟨g5,rfl,H2⟩
    · have m1:(f:Int)≤cap:=by omega
      have m2:¬(f:Int)<0:=by omega
      have m3:(0:Int)≤f:=by omega
      have m4:f≤cap:=by omega
      have m5:¬cap-f=0:=by omega
      have m6:f+l.length-f=l.length:=by omega
      have m7:(f:Int)≤(f:Int)+l.length:=by omega
      have m8:f≤f+l.length:=by omega
      have m9:¬cap=f:=hcf
      have HD:=H.drew
      have hcp:=qJl (l:=l) (A:=some ⟨g,f*3,none⟩) (cap:=cap-f) HD hn rfl (by simp) (by
        intro w1 h ad had j u hj
        obtain rfl:=Option.some.inj had
        have h2:=h.b2.slc_news.2 _ rfl (f*3+j) u (by rw [← hg,List.getElem?_append_right (Nat.le_add_right _ _),Nat.add_sub_cancel_left];exact hj)
        rw [Addr.add_lit] at h2 ⊢
        rw [Nat.zero_add] at h2
        exact h2)
      have hn':=Lib.hid hn
      have hC':=Lib.hid hC
      have hC1':=Lib.hid hC1
      clear hn hC hC1
      go_enter Tryz.func156,Tryz.ntmps156
      go_wp2_with fail
      refine wm 10 [(0,true),(1,true),(2,true),(3,true),(4,true),(5,true),(6,true),(7,true),(8,true),(9,false)] (fun w'=>w'.cell? ⟨s,o,none⟩=some (.slice (some ⟨g,0,none⟩) (f+l.length) cap)∧w'.cell? ⟨s,o+1,none⟩=some (.int .i64 f)) (⟨c0,c1⟩) ?_
      simp only [List.drop_succ_cons,List.drop_zero]
      iterate 9 (refine mh ?_;(try simp only [Act.put,List.setIfInBounds_toArray,List.set_cons_zero,List.set_cons_succ]))
      refine mm ?_
      go_wp2_with fail
      refine hcp.mono ?_
      rintro e w1 ⟨g5,rfl,H2⟩
      clear hcp
      go_wp2_with fail
      refine qQd ⟨((H2.b2.rd o).trans hC'.out),((H2.b2.rd (o+1)).trans hC1'.out)⟩ ?_
      refine qQe ?_
      (try dsimp only)
      go_wp2_with fail
      go_ret
      exact ⟨g5,rfl,H2⟩
end
end
section
open Go.RowKit Spl
attribute [local go_sem] Oper.semAt_some
section
variable {w0 w:World} {R:List Pr} {l:List qQh}
theorem zKo {t o:Nat} (H:Hd w0 R w):Calls Tryz.prog 139 #[.pointer (some ⟨t,o,none⟩)] w fun e w'=>∃b,e=.returned (.func (.func 155) #[] #[.pointer (some ⟨b,0,none⟩)])∧Hd w0 (cel b 288 #[.pointer (some ⟨t,o,none⟩)]::R) w':=by
  have HA:Hd w0 _ (w.alloc (.cells #[.pointer (some ⟨t,o,none⟩)] 288)):=H.fol
  go_enter Tryz.func139,Tryz.ntmps139
  go_wp2_with fail
  go_ret
  exact ⟨_,rfl,HA⟩
abbrev qXJ (x:qQh):Array Value:=#[.int .i64 x.job,.int .i64 x.task,.int .i64 x.level]
abbrev encW (p:qQh × Nat):Array Value:=#[.int .i64 p.2,.agg (qXJ p.1)]
set_option maxRecDepth 100000 in
theorem zJx {b s o T f:Nat} {C:Array Value} {v:Value} {gar:List Value} (hC:C[o]? = some v) (hC1:C[o+1]? = some (.int .i64 f)) (hg:gar.length=f*3) (hf:f≤100000) (hn:l.length≤100000) :
    zQG Tryz.prog 155 #[.pointer (some ⟨b,0,none⟩)] encW w0 (cel b 288 #[.pointer (some ⟨s,o,none⟩)]::cel s T C::Slc 42 3 v (f+l.length) (gar++flat l)::R) l.zipIdx:=by
  intro lp Y W n H hY
  have c0:=(show _=some (.pointer (some ⟨s,o,none⟩)) from (H.k b).ce 0 rfl)
  have H1:Hd w0 (cel s T C::Slc 42 3 v (f+l.length) (gar++flat l)::Y 0::cel b 288 #[.pointer (some ⟨s,o,none⟩)]::R) W:=H.re
  have hcp:=qqi H1 hC hC1 hg hf hn
  have hcpI:=callsIn_wide (n:=n-1).2 hcp
  have hn':=Lib.hid hn
  clear hcp H H1 hC hC1
  refine callsIn_of_wp Tryz.func155 rfl trivial ?_ rfl
  simp only [Tryz.ntmps155,List.size_toArray,List.length_cons,List.length_nil,Nat.reduceAdd,Nat.reduceSub,Array.replicate_succ,Array.replicate_zero,List.push_toArray,List.append_toArray,List.nil_append,List.cons_append]
  gi_wp2_with (first | (refine ⟨trivial,fun h=>(by cases h),?_⟩;refine hcpI.mono ?_;rintro e W1 ⟨g,rfl,H2⟩))
  clear hcpI
  gi_loopw [8] (fun i wr=>∃k:Nat,k≤l.length∧i=.int .i64 k∧Hd w0 (Y k::SlEC 42 g l.length l::cel s T C::Slc 42 3 v (f+l.length) (gar++flat l)::cel b 288 #[.pointer (some ⟨s,o,none⟩)]::R) wr) (fun i _=>l.length-(intOf i).toNat)
  case atStart=>exact ⟨0,Nat.zero_le _,rfl,H2.re⟩
  case round =>
    obtain ⟨k,hk,rfl,HI⟩:=hrel
    by_cases hlt:k<l.length
    · obtain ⟨x,hx⟩:∃x,l[k]? = some x:=⟨l[k],List.getElem?_eq_getElem hlt⟩
      have f0:=HI.b2.slcC_rd (qQi hx (j:=0) rfl)
      have f1:=HI.b2.slcC_rd (qQi hx (j:=1) rfl)
      have f2:=HI.b2.slcC_rd (qQi hx (j:=2) rfl)
      simp only [Enc.size,Nat.add_zero] at f0 f1 f2
      have HA:Hd w0 _ (wr.alloc (.cells #[.int .i64 x.job,.int .i64 x.task,.int .i64 x.level] 42)):=HI.fol
      have hz:l.zipIdx[k]? = some (x,k):=by simp [List.getElem?_zipIdx,hx]
      obtain ⟨fn,tmps,assign,body,hy,hR⟩:=hY k (x,k) _ _ (n-1) hz HA.b2
      have q0:=(show _=some (Value.int .i64 x.job) from HA.ce 0 rfl)
      have q1:=(show _=some (Value.int .i64 x.task) from HA.ce 1 rfl)
      have q2:=(show _=some (Value.int .i64 x.level) from HA.ce 2 rfl)
      have n4:¬(k:Int)<0:=by omega
      have n5:(k:Int)<l.length:=by omega
      have n6:¬l.length≤k:=by omega
      have g5:IntKind.i64.wrap ((k:Int)+1)=(k:Int)+1:=IntWalk.i64_in _ (by have:=hn'.out;omega)
      replace hx:=Lib.hid hx
      replace hz:=Lib.hid hz
      clear HA HI
      gi_wp2
      refine ⟨fun h=>(by cases h),?_⟩
      refine hR.mono ?_
      rintro e W3 ⟨rfl,H6⟩
      gi_wp2
      refine ⟨⟨k+1,by omega,by go_num,Hd.re H6⟩,by simp [intOf];omega⟩
    · obtain rfl:k=l.length:=by omega
      gi_wp2
      go_end0
      rw [List.length_zipIdx]
      exact ⟨⟨_,rfl⟩,HI.re⟩
end
end
end Go.Proofs.YtkchopnkdjnocaaGreatDoor
