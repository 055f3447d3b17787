/-
  Merged texts of one proof: Qwait.
-/
import Derived.BigQuiet
import Derived.Deep.QuietTactic
import Derived.Deep.RegionLaw
import Derived.Deep.RegionWith
import Derived.IntWalk
import Derived.Lib.Hide
import Derived.StillTailTactics
import Derived.Test.YtkchopnkdjnocaaGreatDoorG01
import Derived.Test.YtkchopnkdjnocaaGreatDoorRows

set_option maxHeartbeats 16000000
set_option maxRecDepth 20000
namespace Go.Proofs.YtkchopnkdjnocaaGreatDoor
section
open Go.RowKit Spl
theorem qJG:(Tryz.prog.info? 42).map (fun i=>(i.zero,i.size,i.bytes))=some (some (.agg #[.int .i64 0,.int .i64 0,.int .i64 0]),3,24):=by kernel_rfl
section
variable {w0 w:World} {R:List Pr} {s o T:Nat} {C:Array Value} {v:Value} {l:List qQh} {f:Nat} {gar:List Value}
theorem qJl (H:Hd w0 R w) (hn:l.length≤100000) {n:Nat} (hnl:n=l.length) {A:Option Addr} {cap:Nat} (hA:A=none→l.length=0)
    (hs:∀ {w1:World},Hd w0 R w1→∀ad,A=some ad→∀(j:Nat) (u:Value),(flat l)[j]? = some u→w1.cell? (ad.add j)=some u) :
    Calls Tryz.prog 175 #[.slice A n cap] w fun e w'=>∃g,e=.returned (.slice (some ⟨g,0,none⟩) l.length l.length)∧Hd w0 (SlEC 42 g l.length l::R) w':=by
  subst hnl
  obtain ⟨i0,hi,hz0,hz1,hz2⟩:=info_parts qJG
  go_enter Tryz.func175,Tryz.ntmps175
  go_wp2_with (first | (at_make;refine qQn rfl _ _ 39 rfl 42 i0 _ 3 Tryz.underlying39 hi hz0 hz1 rfl _ _ _ _ 0 l.length rfl rfl rfl rfl (by omega) (by rw [hz2];omega) (by unfold maxLen;omega) H ?_;intro w1 H1;rw [qQw] at H1;have hs1:=hs H1.tail) | (at_builtin;refine qQl rfl _ _ 39 rfl 42 i0 3 Tryz.underlying39 hi hz1 _ 0 l.length [] rfl H1 _ l.length _ (flat l) rfl (qQf l) hA hs1 (qQx l) (by omega) ?_;intro w2 H2;rw [Nat.zero_add]))
  go_ret
  exact ⟨_,rfl,by rw [List.nil_append,Nat.zero_add] at H2;exact H2⟩
theorem zQ0 (H:Hd w0 (cel s T C::Slc 42 3 v (f+l.length) (gar++flat l)::R) w) (hC:C[o]? = some v) (hf:f≤100000) (hn:l.length≤100000) (x:qQh) :
    Calls Tryz.prog 140 #[.pointer (some ⟨s,o,none⟩),.agg #[.int .i64 x.job,.int .i64 x.task,.int .i64 x.level]] w fun e w' =>
      e=.returned (.tuple #[])∧∃v',Hd w0 (cel s T (C.setIfInBounds o v')::Slc 42 3 v' (f+(l++[x]).length) (gar++flat (l++[x]))::R) w':=by
  obtain ⟨i0,hi,hz0,hz1,hz2⟩:=info_parts qJG
  obtain ⟨a,cap,rfl,_,_,_,_⟩:=H.b2.slc_form
  have HB:=H.alloc (.cells #[.int .i64 x.job,.int .i64 x.task,.int .i64 x.level] 42)
  have c0:=HB.b2.rd o
  rw [hC] at c0
  have HP0:Hd w0 _ (((w.alloc (.cells #[.int .i64 x.job,.int .i64 x.task,.int .i64 x.level] 42)).alloc (.cells #[.int .i64 x.job,.int .i64 x.task,.int .i64 x.level] 42)).drew):=H.fol
  have HP:=HP0.b4
  have g0:=HP.b4.rd o
  have k0:=HP.b4.fr o
  rw [hC] at g0
  have hnews:=qQA HP.b2
  have hS:∀ {v':Value} {L:List Pr} {w:World},Hd w0 (Slc 42 3 v' (f+l.length+1) (gar++flat l++[.int .i64 x.job,.int .i64 x.task,.int .i64 x.level])::L) w→Hd w0 (Slc 42 3 v' (f+(l++[x]).length) (gar++flat (l++[x]))::L) w:=by
    intro v' L w h
    have e1:f+(l++[x]).length=f+l.length+1:=by simp;omega
    have e2:gar++flat (l++[x])=gar++flat l++[.int .i64 x.job,.int .i64 x.task,.int .i64 x.level]:=by rw [qQc,qQK,List.append_assoc];rfl
    rw [e1,e2]
    exact h
  clear H
  go_enter Tryz.func140,Tryz.ntmps140
  go_wp2_with fail
  go_region_law (first | ((refine qZA rfl _ _ 39 rfl 42 i0 _ 3 24 Tryz.underlying39 hi hz0 hz1 hz2 rfl _ _ _ rfl HP ⟨_,0,none⟩ 1 1 _ rfl rfl hnews (Enc.one x) (by unfold maxLen;omega) (by omega) ?_);intro v' w2 H4;obtain ⟨a',cap',rfl,_,_,_,_⟩:=H4.slc_form;have d1:=H4.b4.rd o;have f6:=H4.b4.fr o;rw [hC] at d1))
  all_goals
    have HF:=hS ((H4.b4.set o (.slice a' (f+l.length+1) cap')).b2)
    go_wp2_with fail
    go_end0
    exact ⟨rfl,.slice a' (f+l.length+1) cap',HF.re⟩
theorem qXO (H:Hd w0 (cel s T C::Slc 42 3 v (f+l.length) (gar++flat l)::R) w) (hC:C[o]? = some v) (hC1:C[o+1]? = some (.int .i64 f)) (_hf:f≤100000) (hn:l.length≤100000) :
    Calls Tryz.prog 137 #[.pointer (some ⟨s,o,none⟩)] w fun e w'=>e=.returned (.int .i64 l.length)∧∃n,w'=w.drewN n:=by
  have c0:=(H.rd o).trans hC
  have c1:=(H.rd (o+1)).trans hC1
  obtain ⟨a,cap,rfl,_,_,_,_⟩:=H.b2.slc_form
  have hw:IntKind.i64.wrap ((f:Int)+l.length-f)=l.length:=by rw [IntWalk.i64_in _ (by omega)];omega
  clear H hC hC1
  go_enter Tryz.func137,Tryz.ntmps137
  go_wp2_with (go_quiet (fail))
  go_ret
  exact ⟨by first | rfl | (simp;omega),_,rfl⟩
theorem qXK {x:qQh} (H:Hd w0 (cel s T C::Slc 42 3 v (f+(x::l).length) (gar++flat (x::l))::R) w) (hC:C[o]? = some v) (hC1:C[o+1]? = some (.int .i64 f)) (hg:gar.length=f*3) (hf:f≤100000) (hn:l.length<100000) :
    Calls Tryz.prog 174 #[.pointer (some ⟨s,o,none⟩)] w fun e w'=>e=.returned (.tuple #[.agg #[.int .i64 x.job,.int .i64 x.task,.int .i64 x.level],.bool true])∧Hd w0 (cel s T C::Slc 42 3 v (f+(x::l).length) (gar++flat (x::l))::R) w':=by
  have HA:Hd w0 _ (w.alloc (.cells #[.int .i64 0,.int .i64 0,.int .i64 0] 42)):=H.fol
  have hlen:=qXO HA.tail hC hC1 hf (by simp;omega)
  obtain ⟨g,cap,rfl,H2⟩:=HA.b3.slc_at (by simp;omega)
  have c0:=(HA.b2.rd o).trans hC
  have c1:=(HA.b2.rd (o+1)).trans hC1
  have d0:(w.alloc (.cells #[.int .i64 0,.int .i64 0,.int .i64 0] 42)).cell? ⟨g,f*3,none⟩=some (.int .i64 x.job):=H2.slcC_rd (by rw [List.getElem?_append_right (by rw [hg];omega),hg];simpa [Nat.add_sub_cancel_left] using qQi (l:=x::l) (k:=0) (x:=x) rfl (j:=0) (u:=.int .i64 x.job) rfl)
  have d1:(w.alloc (.cells #[.int .i64 0,.int .i64 0,.int .i64 0] 42)).cell? ⟨g,f*3+1,none⟩=some (.int .i64 x.task):=H2.slcC_rd (by rw [List.getElem?_append_right (by rw [hg];omega),hg];simpa [Nat.add_sub_cancel_left] using qQi (l:=x::l) (k:=0) (x:=x) rfl (j:=1) (u:=.int .i64 x.task) rfl)
  have d2:(w.alloc (.cells #[.int .i64 0,.int .i64 0,.int .i64 0] 42)).cell? ⟨g,f*3+2,none⟩=some (.int .i64 x.level):=H2.slcC_rd (by rw [List.getElem?_append_right (by rw [hg];omega),hg];simpa [Nat.add_sub_cancel_left] using qQi (l:=x::l) (k:=0) (x:=x) rfl (j:=2) (u:=.int .i64 x.level) rfl)
  have hne:((l.length:Int)+1 == 0)=false:=by rw [beq_eq_false_iff_ne];omega
  have hlt:(f:Int)<(f:Int)+((l.length:Int)+1):=by omega
  clear H2 HA hC hC1
  go_enter Tryz.func174,Tryz.ntmps174
  go_wp2_with fail
  refine hlen.mono ?_
  rintro e w' ⟨rfl,n,rfl⟩
  go_wp2_with fail
  refine wp_region_still_tail 10 (by kernel_rfl) (by kernel_rfl) ?_
  simp only [List.take_succ_cons,List.take_zero,List.drop_succ_cons,List.drop_zero,World.drew_eq]
  (repeat still_step)
  refine wpStill_nil ?_
  go_wp2_with fail
  (try simp only [Exit.inBlock,Exit.then])
  refine bodyPost_ret (v:=.tuple #[.agg #[.int .i64 x.job,.int .i64 x.task,.int .i64 x.level],.bool true]) (by simp [results,Tryz.results174,go_sem]) rfl ⟨rfl,H.fin⟩
theorem zZI (H:Hd w0 (cel s T C::Slc 42 3 v (f+([]:List qQh).length) (gar++flat ([]:List qQh))::R) w) (hC:C[o]? = some v) (hC1:C[o+1]? = some (.int .i64 f)) (hf:f≤100000) :
    Calls Tryz.prog 174 #[.pointer (some ⟨s,o,none⟩)] w fun e w'=>e=.returned (.tuple #[.agg #[.int .i64 0,.int .i64 0,.int .i64 0],.bool false])∧Hd w0 (cel s T C::Slc 42 3 v (f+([]:List qQh).length) (gar++flat ([]:List qQh))::R) w':=by
  have HA:Hd w0 _ (w.alloc (.cells #[.int .i64 0,.int .i64 0,.int .i64 0] 42)):=H.fol
  have hlen:=qXO HA.tail hC hC1 hf (by simp)
  clear HA hC hC1
  go_enter Tryz.func174,Tryz.ntmps174
  go_wp2_with fail
  refine hlen.mono ?_
  rintro e w' ⟨rfl,n,rfl⟩
  go_wp2_with fail
  (try simp only [Exit.inBlock,Exit.then])
  refine bodyPost_ret (v:=.tuple #[.agg #[.int .i64 0,.int .i64 0,.int .i64 0],.bool false]) (by simp [results,Tryz.results174,go_sem]) rfl ⟨rfl,H.fin⟩
theorem qUw {x:qQh} (H:Hd w0 (cel s T C::Slc 42 3 v (f+(x::l).length) (gar++flat (x::l))::R) w) (hC:C[o]? = some v) (hC1:C[o+1]? = some (.int .i64 f)) (hg:gar.length=f*3) (hf:f≤100000) (hn:l.length<100000) (hfl:f+1≤l.length) :
    Calls Tryz.prog 152 #[.pointer (some ⟨s,o,none⟩)] w fun e w'=>e=.returned (.tuple #[.agg #[.int .i64 x.job,.int .i64 x.task,.int .i64 x.level],.bool true]) ∧
      Hd w0 (cel s T (C.setIfInBounds (o+1) (.int .i64 ((f:Int)+1)))::Slc 42 3 v (f+1+l.length) ((gar++[.int .i64 0,.int .i64 0,.int .i64 0])++flat l)::R) w':=by
  have H0:Hd w0 _ (w.alloc (.cells #[.int .i64 0,.int .i64 0,.int .i64 0] 42)):=H.fol
  have hfront:=qXK (H0.b3.b3) hC hC1 hg hf hn
  go_enter Tryz.func152,Tryz.ntmps152
  go_wp2_with fail
  refine hfront.mono ?_
  rintro e w1 ⟨rfl,H1⟩
  obtain ⟨g,cap,rfl,H2⟩:=H1.b2.slc_at (by simp;omega)
  obtain ⟨hxl,hnc,hcm,sp,hsp,H3⟩:=H2.slcC
  have e0:gar++flat (x::l)++sp=gar++([.int .i64 x.job,.int .i64 x.task,.int .i64 x.level]++(flat l++sp)):=by rw [qQI];simp [Enc.cells]
  rw [e0] at H3 hsp
  have H4:Hd w0 _ ((w1.alloc (.cells #[.int .i64 x.job,.int .i64 x.task,.int .i64 x.level] 42)).alloc (.cells #[.int .i64 0,.int .i64 0,.int .i64 0] 42)):=H3.fol
  have c0:=((H4.k s).rd o).trans hC
  have c1:=((H4.k s).rd (o+1)).trans hC1
  have hlt:(f:Int)<(f:Int)+((l.length:Int)+1):=by omega
  have hk:=H4.k g
  have d0:=(hk.rd (f*3)).trans (qXs hg)
  have k0:=hk.fr (f*3)
  have d1:=(hk.rd (f*3+1)).trans (qQU hg 1)
  have k1:=hk.fr (f*3+1)
  have d2:=(hk.rd (f*3+2)).trans (qQU hg 2)
  have k2:=hk.fr (f*3+2)
  simp only [List.cons_append,List.getElem?_cons_zero,List.getElem?_cons_succ] at d0 d1 d2
  clear hk
  have H5:Hd w0 _ (((((w1.alloc (.cells #[.int .i64 x.job,.int .i64 x.task,.int .i64 x.level] 42)).alloc (.cells #[.int .i64 0,.int .i64 0,.int .i64 0] 42)).setCell ⟨g,f*3,none⟩ (.int .i64 0)).setCell ⟨g,f*3+1,none⟩ (.int .i64 0)).setCell ⟨g,f*3+2,none⟩ (.int .i64 0)):=H3.fol
  rw [qXm hg,qQ4 hg 1,qQ4 hg 2] at H5
  simp only [List.cons_append,List.nil_append,List.set_cons_zero,List.set_cons_succ] at H5
  have p0:=((H5.k s).rd o).trans hC
  have p1:=((H5.k s).rd (o+1)).trans hC1
  have p2:=(H5.k s).fr (o+1)
  have H6:Hd w0 _ ((((((w1.alloc (.cells #[.int .i64 x.job,.int .i64 x.task,.int .i64 x.level] 42)).alloc (.cells #[.int .i64 0,.int .i64 0,.int .i64 0] 42)).setCell ⟨g,f*3,none⟩ (.int .i64 0)).setCell ⟨g,f*3+1,none⟩ (.int .i64 0)).setCell ⟨g,f*3+2,none⟩ (.int .i64 0)).setCell ⟨s,o+1,none⟩ (.int .i64 ((f:Int)+1))):=H5.fol
  have q0:=((H6.k s).rd o).trans ((Array.getElem?_setIfInBounds_ne (by omega)).trans hC)
  have r6:=H6.k w1.heap.size
  have t6:=H6.k w.heap.size
  have u0:=r6.rd 0
  have y0:=t6.rd 0
  have z0:=t6.fr 0
  have u1:=r6.rd 1
  have y1:=t6.rd 1
  have z1:=t6.fr 1
  have u2:=r6.rd 2
  have y2:=t6.rd 2
  have z2:=t6.fr 2
  simp only [List.getElem?_toArray,List.getElem?_cons_zero,List.getElem?_cons_succ] at u0 y0 u1 y1 u2 y2
  clear r6 t6
  have H7:=(H6.k g)
  have e5:gar++(Value.int .i64 0::Value.int .i64 0::Value.int .i64 0::(flat l++sp))=((gar++[.int .i64 0,.int .i64 0,.int .i64 0])++flat l)++sp:=by simp
  rw [e5] at H7
  have e6:f+(x::l).length=f+1+l.length:=by simp;omega
  have H8:=(H7.slcC_mk (n:=f+1+l.length) (cap:=cap) (size:=3) (by rw [List.length_append,List.length_append,hg,qQf];simp [Enc.size];omega) (by rw [← e6];exact hnc) hcm (by rw [← e5];simpa using hsp)).slc_mk
  have he6:=Lib.hid e6
  have hm:IntKind.i64.wrap (2*((f:Int)+1))=2*((f:Int)+1):=IntWalk.i64_in _ (by omega)
  have hcmp:decide ((f:Int)+((l.length:Int)+1)<2*((f:Int)+1))=false:=by rw [decide_eq_false_iff_not];omega
  clear H1 H2 H3 H4 H5 H6 H7 e5 e6 e0 hxl hnc hsp hcm hfront H0 hC hC1 H
  go_wp2_with fail
  refine wp_region_still_tail 10 (by kernel_rfl) (by kernel_rfl) ?_
  simp only [List.take_succ_cons,List.take_zero,List.drop_succ_cons,List.drop_zero,World.drew_eq]
  (repeat still_step)
  refine wpStill_nil ?_
  go_wp2_with (go_quiet (fail))
  (try simp only [Exit.inBlock,Exit.then])
  refine bodyPost_ret (qQg rfl _ _ w.heap.size 42 #[.int .i64 x.job,.int .i64 x.task,.int .i64 x.level] (0,0) _ rfl (by exact ((Hd.fol H8:Hd w0 _ _).k w.heap.size).heap) Tryz.underlying42 rfl (by kernel_rfl)) rfl ⟨rfl,?_⟩
  rw [he6.out]
  exact H8.fin
theorem qUn {x:qQh} (H:Hd w0 (cel s T C::Slc 42 3 v (f+(x::l).length) (gar++flat (x::l))::R) w) (hC:C[o]? = some v) (hC1:C[o+1]? = some (.int .i64 f)) (hg:gar.length=f*3) (hf:f≤100000) (hn:l.length<100000) (hfl:l.length≤f) :
    Calls Tryz.prog 152 #[.pointer (some ⟨s,o,none⟩)] w fun e w'=>e=.returned (.tuple #[.agg #[.int .i64 x.job,.int .i64 x.task,.int .i64 x.level],.bool true]) ∧
      ∃v',Hd w0 (cel s T ((C.setIfInBounds o v').setIfInBounds (o+1) (.int .i64 0))::SlE 42 v' l::R) w':=by
  have H0:Hd w0 _ (w.alloc (.cells #[.int .i64 0,.int .i64 0,.int .i64 0] 42)):=H.fol
  have hfront:=qXK (H0.b3.b3) hC hC1 hg hf hn
  go_enter Tryz.func152,Tryz.ntmps152
  go_wp2_with fail
  refine hfront.mono ?_
  rintro e w1 ⟨rfl,H1⟩
  obtain ⟨g,cap,rfl,H2⟩:=H1.b2.slc_at (by simp;omega)
  obtain ⟨hxl,hnc,hcm,sp,hsp,H3⟩:=H2.slcC
  have e0:gar++flat (x::l)++sp=gar++([.int .i64 x.job,.int .i64 x.task,.int .i64 x.level]++(flat l++sp)):=by rw [qQI];simp [Enc.cells]
  rw [e0] at H3 hsp
  have H4:Hd w0 _ ((w1.alloc (.cells #[.int .i64 x.job,.int .i64 x.task,.int .i64 x.level] 42)).alloc (.cells #[.int .i64 0,.int .i64 0,.int .i64 0] 42)):=H3.fol
  have c0:=((H4.k s).rd o).trans hC
  have c1:=((H4.k s).rd (o+1)).trans hC1
  have hlt:(f:Int)<(f:Int)+((l.length:Int)+1):=by omega
  have hk:=H4.k g
  have d0:=(hk.rd (f*3)).trans (qXs hg)
  have k0:=hk.fr (f*3)
  have d1:=(hk.rd (f*3+1)).trans (qQU hg 1)
  have k1:=hk.fr (f*3+1)
  have d2:=(hk.rd (f*3+2)).trans (qQU hg 2)
  have k2:=hk.fr (f*3+2)
  simp only [List.cons_append,List.getElem?_cons_zero,List.getElem?_cons_succ] at d0 d1 d2
  clear hk
  have H5:Hd w0 _ (((((w1.alloc (.cells #[.int .i64 x.job,.int .i64 x.task,.int .i64 x.level] 42)).alloc (.cells #[.int .i64 0,.int .i64 0,.int .i64 0] 42)).setCell ⟨g,f*3,none⟩ (.int .i64 0)).setCell ⟨g,f*3+1,none⟩ (.int .i64 0)).setCell ⟨g,f*3+2,none⟩ (.int .i64 0)):=H3.fol
  rw [qXm hg,qQ4 hg 1,qQ4 hg 2] at H5
  simp only [List.cons_append,List.nil_append,List.set_cons_zero,List.set_cons_succ] at H5
  have p0:=((H5.k s).rd o).trans hC
  have p1:=((H5.k s).rd (o+1)).trans hC1
  have p2:=(H5.k s).fr (o+1)
  have H6:Hd w0 _ ((((((w1.alloc (.cells #[.int .i64 x.job,.int .i64 x.task,.int .i64 x.level] 42)).alloc (.cells #[.int .i64 0,.int .i64 0,.int .i64 0] 42)).setCell ⟨g,f*3,none⟩ (.int .i64 0)).setCell ⟨g,f*3+1,none⟩ (.int .i64 0)).setCell ⟨g,f*3+2,none⟩ (.int .i64 0)).setCell ⟨s,o+1,none⟩ (.int .i64 ((f:Int)+1))):=H5.fol
  have q0:=((H6.k s).rd o).trans ((Array.getElem?_setIfInBounds_ne (by omega)).trans hC)
  have r6:=H6.k w1.heap.size
  have t6:=H6.k w.heap.size
  have u0:=r6.rd 0
  have y0:=t6.rd 0
  have z0:=t6.fr 0
  have u1:=r6.rd 1
  have y1:=t6.rd 1
  have z1:=t6.fr 1
  have u2:=r6.rd 2
  have y2:=t6.rd 2
  have z2:=t6.fr 2
  simp only [List.getElem?_toArray,List.getElem?_cons_zero,List.getElem?_cons_succ] at u0 y0 u1 y1 u2 y2
  clear r6 t6
  have H7:=(H6.k g)
  have e5:gar++(Value.int .i64 0::Value.int .i64 0::Value.int .i64 0::(flat l++sp))=((gar++[.int .i64 0,.int .i64 0,.int .i64 0])++flat l)++sp:=by simp
  rw [e5] at H7
  have e6:f+(x::l).length=f+1+l.length:=by simp;omega
  have H8:=(H7.slcC_mk (n:=f+1+l.length) (cap:=cap) (size:=3) (by rw [List.length_append,List.length_append,hg,qQf];simp [Enc.size];omega) (by rw [← e6];exact hnc) hcm (by rw [← e5];simpa using hsp)).slc_mk
  have he6:=Lib.hid e6
  have q1:=((H6.k s).rd (o+1)).trans (qXt hC1)
  have hC6:=Lib.hid (((Array.getElem?_setIfInBounds_ne (by omega)).trans hC):(C.setIfInBounds (o+1) (.int .i64 ((f:Int)+1)))[o]? = _)
  have hC7:=Lib.hid ((qXt hC1):(C.setIfInBounds (o+1) (.int .i64 ((f:Int)+1)))[o+1]? = _)
  have hk6:=H6.k s
  have q2:=hk6.fr o
  have q3:=hk6.fr (o+1)
  clear hk6
  have hm:IntKind.i64.wrap (2*((f:Int)+1))=2*((f:Int)+1):=IntWalk.i64_in _ (by omega)
  have hcmp:decide ((f:Int)+((l.length:Int)+1)<2*((f:Int)+1))=true:=by rw [decide_eq_true_iff];omega
  have hle:f+1≤cap:=by have:=hnc;simp at this;omega
  have h01:(0:Int)≤(f:Int)+1:=by omega
  have h02:(1:Int)≤(l.length:Int)+1:=by omega
  have hsrc:∀ {w1:World} {L:List Pr},Hd w0 (cel g 42 (gar++([.int .i64 0,.int .i64 0,.int .i64 0]:List Value)++flat l++sp).toArray::L) w1→∀ad,(some (⟨g,(f+1)*3,none⟩:Addr))=some ad→∀(j:Nat) (u:Value),(flat l)[j]? = some u→w1.cell? (ad.add j)=some u:=by
    intro w1 L h ad had j u hj
    obtain rfl:=Option.some.inj had
    rw [Addr.add_lit,h.rd,List.append_assoc _ (flat l) sp,qQU (by rw [List.length_append,hg];simp;omega),List.getElem?_append_left (qQa hj)]
    exact hj
  clear H1 H2 H3 H4 H5 H8 he6 e5 e6 e0 hxl hsp hcm hfront H0 hC hC1 H
  go_wp2_with fail
  refine wp_region_still_tail 10 (by kernel_rfl) (by kernel_rfl) ?_
  simp only [List.take_succ_cons,List.take_zero,List.drop_succ_cons,List.drop_zero,World.drew_eq]
  (repeat still_step)
  refine wpStill_nil ?_
  by_cases hcf:cap=f+1
  · have hl0:l.length=0:=by have:=hnc;simp at this;omega
    have hnil:∀ {w1:World} {L:List Pr},Hd w0 L w1→∀ad,(some (⟨g,0,none⟩:Addr))=some ad→∀(j:Nat) (u:Value),(flat l)[j]? = some u→w1.cell? (ad.add j)=some u:=by
      intro w1 L h ad had j u hj
      have:=qQa hj
      rw [qQf,hl0] at this
      omega
    subst hcf
    have hl0':=Lib.hid hl0
    clear hl0
    go_wp2_with (go_quiet (fail))
    go_region_with ((go_at_call 175;refine (qJl (Hd.fol H7) (by omega) (by omega) (A:=some ⟨g,0,none⟩) (by simp) hnil).mono ?_;rintro e w5 ⟨g5,rfl,H9⟩;have hk9:=H9.k s;have r0:=hk9.rd o;have r1:=hk9.rd (o+1);have r2:=hk9.fr o;have r3:=hk9.fr (o+1);rw [hC6.out] at r0;rw [hC7.out] at r1;clear hk9))
    all_goals
      have HF:Hd w0 _ ((w5.setCell ⟨s,o,none⟩ (.slice (some ⟨g5,0,none⟩) l.length l.length)).setCell ⟨s,o+1,none⟩ (.int .i64 0)):=H9.fol
      rw [set3] at HF
      have m6:=HF.k w1.heap.size
      have m7:=HF.k w.heap.size
      have a0:=m6.rd 0
      have b0:=m7.rd 0
      have e0:=m7.fr 0
      have a1:=m6.rd 1
      have b1:=m7.rd 1
      have e1:=m7.fr 1
      have a2:=m6.rd 2
      have b2:=m7.rd 2
      have e2:=m7.fr 2
      simp only [List.getElem?_toArray,List.getElem?_cons_zero,List.getElem?_cons_succ] at a0 b0 a1 b1 a2 b2
      clear m6 m7 c0 c1 p0 p1 p2 q0 q1 q2 q3 r0 r1 r2 r3 hm hcmp H9 H7 H6 hsrc hnil hC6 hC7 d0 k0 u0 y0 z0 d1 k1 u1 y1 z1 d2 k2 u2 y2 z2
      go_wp2_with fail
      (try simp only [Exit.inBlock,Exit.then])
      refine bodyPost_ret (qQg rfl _ _ w.heap.size 42 #[.int .i64 x.job,.int .i64 x.task,.int .i64 x.level] (0,0) _ rfl (by exact ((Hd.fol HF:Hd w0 _ _).k w.heap.size).heap) Tryz.underlying42 rfl (by kernel_rfl)) rfl ⟨rfl,.slice (some ⟨g5,0,none⟩) l.length l.length,?_⟩
      have HG:=(HF.k g5).slc_mk
      exact HG.fin
  · go_wp2_with (go_quiet (fail))
    go_region_with ((go_at_call 175;refine (qJl (Hd.fol H7) (by omega) (by omega) (A:=some ⟨g,(f+1)*3,none⟩) (by simp) hsrc).mono ?_;rintro e w5 ⟨g5,rfl,H9⟩;have hk9:=H9.k s;have r0:=hk9.rd o;have r1:=hk9.rd (o+1);have r2:=hk9.fr o;have r3:=hk9.fr (o+1);rw [hC6.out] at r0;rw [hC7.out] at r1;clear hk9))
    all_goals
      have HF:Hd w0 _ ((w5.setCell ⟨s,o,none⟩ (.slice (some ⟨g5,0,none⟩) l.length l.length)).setCell ⟨s,o+1,none⟩ (.int .i64 0)):=H9.fol
      rw [set3] at HF
      have m6:=HF.k w1.heap.size
      have m7:=HF.k w.heap.size
      have a0:=m6.rd 0
      have b0:=m7.rd 0
      have e0:=m7.fr 0
      have a1:=m6.rd 1
      have b1:=m7.rd 1
      have e1:=m7.fr 1
      have a2:=m6.rd 2
      have b2:=m7.rd 2
      have e2:=m7.fr 2
      simp only [List.getElem?_toArray,List.getElem?_cons_zero,List.getElem?_cons_succ] at a0 b0 a1 b1 a2 b2
      clear m6 m7 c0 c1 p0 p1 p2 q0 q1 q2 q3 r0 r1 r2 r3 hm hcmp H9 H7 H6 hsrc hC6 hC7 d0 k0 u0 y0 z0 d1 k1 u1 y1 z1 d2 k2 u2 y2 z2
      go_wp2_with fail
      (try simp only [Exit.inBlock,Exit.then])
      refine bodyPost_ret (qQg rfl _ _ w.heap.size 42 #[.int .i64 x.job,.int .i64 x.task,.int .i64 x.level] (0,0) _ rfl (by exact ((Hd.fol HF:Hd w0 _ _).k w.heap.size).heap) Tryz.underlying42 rfl (by kernel_rfl)) rfl ⟨rfl,.slice (some ⟨g5,0,none⟩) l.length l.length,?_⟩
      have HG:=(HF.k g5).slc_mk
      exact HG.fin
end
end
end Go.Proofs.YtkchopnkdjnocaaGreatDoor
