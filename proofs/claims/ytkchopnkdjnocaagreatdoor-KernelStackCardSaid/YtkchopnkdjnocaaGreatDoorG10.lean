/-
  Merged texts of one proof: Qev.
-/
import Derived.BigQuiet
import Derived.Deep.QuietTactic
import Derived.Deep.RegionLaw
import Derived.Deep.RegionWith
import Derived.IntWalk
import Derived.Lib.Hide
import Derived.StillTailTactics
import Derived.Test.YtkchopnkdjnocaaGreatDoorG01
import Derived.Test.YtkchopnkdjnocaaGreatDoorRows

set_option maxHeartbeats 16000000
set_option maxRecDepth 20000
namespace Go.Proofs.YtkchopnkdjnocaaGreatDoor
section
open Go.RowKit Spl
theorem qUG:(Tryz.prog.info? 96).map (fun i=>(i.zero,i.size,i.bytes))=some (some (.agg #[.int .i64 0,.int .i64 0,.int .i64 0,.int .i64 0,.int .i64 0,.int .i64 0,.int .i64 0,.int .i64 0,.int .i64 0]),9,72):=by kernel_rfl
section
variable {w0 w:World} {R:List Pr} {s o T:Nat} {C:Array Value} {v:Value} {l:List EvM} {f:Nat} {gar:List Value}
theorem qXb (H:Hd w0 R w) (hn:l.length≤100000) {n:Nat} (hnl:n=l.length) {A:Option Addr} {cap:Nat} (hA:A=none→l.length=0)
    (hs:∀ {w1:World},Hd w0 R w1→∀ad,A=some ad→∀(j:Nat) (u:Value),(flat l)[j]? = some u→w1.cell? (ad.add j)=some u) :
    Calls Tryz.prog 136 #[.slice A n cap] w fun e w'=>∃g,e=.returned (.slice (some ⟨g,0,none⟩) l.length l.length)∧Hd w0 (SlEC 96 g l.length l::R) w':=by
  subst hnl
  obtain ⟨i0,hi,hz0,hz1,hz2⟩:=info_parts qUG
  go_enter Tryz.func136,Tryz.ntmps136
  go_wp2_with (first | (at_make;refine qQn rfl _ _ 93 rfl 96 i0 _ 9 Tryz.underlying93 hi hz0 hz1 rfl _ _ _ _ 0 l.length rfl rfl rfl rfl (by omega) (by rw [hz2];omega) (by unfold maxLen;omega) H ?_;intro w1 H1;rw [qQw] at H1;have hs1:=hs H1.tail) | (at_builtin;refine qQl rfl _ _ 93 rfl 96 i0 9 Tryz.underlying93 hi hz1 _ 0 l.length [] rfl H1 _ l.length _ (flat l) rfl (qQf l) hA hs1 (qQx l) (by omega) ?_;intro w2 H2;rw [Nat.zero_add]))
  go_ret
  exact ⟨_,rfl,by rw [List.nil_append,Nat.zero_add] at H2;exact H2⟩
theorem zQg (H:Hd w0 (cel s T C::Slc 96 9 v (f+l.length) (gar++flat l)::R) w) (hC:C[o]? = some v) (hf:f≤100000) (hn:l.length≤100000) (x:EvM) :
    Calls Tryz.prog 113 #[.pointer (some ⟨s,o,none⟩),.agg #[.int .i64 x.kind,.int .i64 x.task,.int .i64 x.job,.int .i64 x.op.kind,.int .i64 x.op.res,.int .i64 x.op.n,.int .i64 x.op.v,.int .i64 x.why,.int .i64 x.clock]] w fun e w' =>
      e=.returned (.tuple #[])∧∃v',Hd w0 (cel s T (C.setIfInBounds o v')::Slc 96 9 v' (f+(l++[x]).length) (gar++flat (l++[x]))::R) w':=by
  obtain ⟨i0,hi,hz0,hz1,hz2⟩:=info_parts qUG
  obtain ⟨a,cap,rfl,_,_,_,_⟩:=H.b2.slc_form
  have HB:=H.alloc (.cells #[.int .i64 x.kind,.int .i64 x.task,.int .i64 x.job,.int .i64 x.op.kind,.int .i64 x.op.res,.int .i64 x.op.n,.int .i64 x.op.v,.int .i64 x.why,.int .i64 x.clock] 96)
  have c0:=HB.b2.rd o
  rw [hC] at c0
  have HP0:Hd w0 _ (((w.alloc (.cells #[.int .i64 x.kind,.int .i64 x.task,.int .i64 x.job,.int .i64 x.op.kind,.int .i64 x.op.res,.int .i64 x.op.n,.int .i64 x.op.v,.int .i64 x.why,.int .i64 x.clock] 96)).alloc (.cells #[.int .i64 x.kind,.int .i64 x.task,.int .i64 x.job,.int .i64 x.op.kind,.int .i64 x.op.res,.int .i64 x.op.n,.int .i64 x.op.v,.int .i64 x.why,.int .i64 x.clock] 96)).drew):=H.fol
  have HP:=HP0.b4
  have g0:=HP.b4.rd o
  have k0:=HP.b4.fr o
  rw [hC] at g0
  have hnews:=qQA HP.b2
  have hS:∀ {v':Value} {L:List Pr} {w:World},Hd w0 (Slc 96 9 v' (f+l.length+1) (gar++flat l++[.int .i64 x.kind,.int .i64 x.task,.int .i64 x.job,.int .i64 x.op.kind,.int .i64 x.op.res,.int .i64 x.op.n,.int .i64 x.op.v,.int .i64 x.why,.int .i64 x.clock])::L) w→Hd w0 (Slc 96 9 v' (f+(l++[x]).length) (gar++flat (l++[x]))::L) w:=by
    intro v' L w h
    have e1:f+(l++[x]).length=f+l.length+1:=by simp;omega
    have e2:gar++flat (l++[x])=gar++flat l++[.int .i64 x.kind,.int .i64 x.task,.int .i64 x.job,.int .i64 x.op.kind,.int .i64 x.op.res,.int .i64 x.op.n,.int .i64 x.op.v,.int .i64 x.why,.int .i64 x.clock]:=by rw [qQc,qQK,List.append_assoc];rfl
    rw [e1,e2]
    exact h
  clear H
  go_enter Tryz.func113,Tryz.ntmps113
  go_wp2_with fail
  go_region_law (first | ((refine qZA rfl _ _ 93 rfl 96 i0 _ 9 72 Tryz.underlying93 hi hz0 hz1 hz2 rfl _ _ _ rfl HP ⟨_,0,none⟩ 1 1 _ rfl rfl hnews (Enc.one x) (by unfold maxLen;omega) (by omega) ?_);intro v' w2 H4;obtain ⟨a',cap',rfl,_,_,_,_⟩:=H4.slc_form;have d1:=H4.b4.rd o;have f6:=H4.b4.fr o;rw [hC] at d1))
  all_goals
    have HF:=hS ((H4.b4.set o (.slice a' (f+l.length+1) cap')).b2)
    go_wp2_with fail
    go_end0
    exact ⟨rfl,.slice a' (f+l.length+1) cap',HF.re⟩
theorem qWt (H:Hd w0 (cel s T C::Slc 96 9 v (f+l.length) (gar++flat l)::R) w) (hC:C[o]? = some v) (hC1:C[o+1]? = some (.int .i64 f)) (_hf:f≤100000) (hn:l.length≤100000) :
    Calls Tryz.prog 111 #[.pointer (some ⟨s,o,none⟩)] w fun e w'=>e=.returned (.int .i64 l.length)∧∃n,w'=w.drewN n:=by
  have c0:=(H.rd o).trans hC
  have c1:=(H.rd (o+1)).trans hC1
  obtain ⟨a,cap,rfl,_,_,_,_⟩:=H.b2.slc_form
  have hw:IntKind.i64.wrap ((f:Int)+l.length-f)=l.length:=by rw [IntWalk.i64_in _ (by omega)];omega
  clear H hC hC1
  go_enter Tryz.func111,Tryz.ntmps111
  go_wp2_with (go_quiet (fail))
  go_ret
  exact ⟨by first | rfl | (simp;omega),_,rfl⟩
theorem qVU {x:EvM} (H:Hd w0 (cel s T C::Slc 96 9 v (f+(x::l).length) (gar++flat (x::l))::R) w) (hC:C[o]? = some v) (hC1:C[o+1]? = some (.int .i64 f)) (hg:gar.length=f*9) (hf:f≤100000) (hn:l.length<100000) :
    Calls Tryz.prog 141 #[.pointer (some ⟨s,o,none⟩)] w fun e w'=>e=.returned (.tuple #[.agg #[.int .i64 x.kind,.int .i64 x.task,.int .i64 x.job,.int .i64 x.op.kind,.int .i64 x.op.res,.int .i64 x.op.n,.int .i64 x.op.v,.int .i64 x.why,.int .i64 x.clock],.bool true])∧Hd w0 (cel s T C::Slc 96 9 v (f+(x::l).length) (gar++flat (x::l))::R) w':=by
  have HA:Hd w0 _ (w.alloc (.cells #[.int .i64 0,.int .i64 0,.int .i64 0,.int .i64 0,.int .i64 0,.int .i64 0,.int .i64 0,.int .i64 0,.int .i64 0] 96)):=H.fol
  have hlen:=qWt HA.tail hC hC1 hf (by simp;omega)
  obtain ⟨g,cap,rfl,H2⟩:=HA.b3.slc_at (by simp;omega)
  have c0:=(HA.b2.rd o).trans hC
  have c1:=(HA.b2.rd (o+1)).trans hC1
  have d0:(w.alloc (.cells #[.int .i64 0,.int .i64 0,.int .i64 0,.int .i64 0,.int .i64 0,.int .i64 0,.int .i64 0,.int .i64 0,.int .i64 0] 96)).cell? ⟨g,f*9,none⟩=some (.int .i64 x.kind):=H2.slcC_rd (by rw [List.getElem?_append_right (by rw [hg];omega),hg];simpa [Nat.add_sub_cancel_left] using qQi (l:=x::l) (k:=0) (x:=x) rfl (j:=0) (u:=.int .i64 x.kind) rfl)
  have d1:(w.alloc (.cells #[.int .i64 0,.int .i64 0,.int .i64 0,.int .i64 0,.int .i64 0,.int .i64 0,.int .i64 0,.int .i64 0,.int .i64 0] 96)).cell? ⟨g,f*9+1,none⟩=some (.int .i64 x.task):=H2.slcC_rd (by rw [List.getElem?_append_right (by rw [hg];omega),hg];simpa [Nat.add_sub_cancel_left] using qQi (l:=x::l) (k:=0) (x:=x) rfl (j:=1) (u:=.int .i64 x.task) rfl)
  have d2:(w.alloc (.cells #[.int .i64 0,.int .i64 0,.int .i64 0,.int .i64 0,.int .i64 0,.int .i64 0,.int .i64 0,.int .i64 0,.int .i64 0] 96)).cell? ⟨g,f*9+2,none⟩=some (.int .i64 x.job):=H2.slcC_rd (by rw [List.getElem?_append_right (by rw [hg];omega),hg];simpa [Nat.add_sub_cancel_left] using qQi (l:=x::l) (k:=0) (x:=x) rfl (j:=2) (u:=.int .i64 x.job) rfl)
  have d3:(w.alloc (.cells #[.int .i64 0,.int .i64 0,.int .i64 0,.int .i64 0,.int .i64 0,.int .i64 0,.int .i64 0,.int .i64 0,.int .i64 0] 96)).cell? ⟨g,f*9+3,none⟩=some (.int .i64 x.op.kind):=H2.slcC_rd (by rw [List.getElem?_append_right (by rw [hg];omega),hg];simpa [Nat.add_sub_cancel_left] using qQi (l:=x::l) (k:=0) (x:=x) rfl (j:=3) (u:=.int .i64 x.op.kind) rfl)
  have d4:(w.alloc (.cells #[.int .i64 0,.int .i64 0,.int .i64 0,.int .i64 0,.int .i64 0,.int .i64 0,.int .i64 0,.int .i64 0,.int .i64 0] 96)).cell? ⟨g,f*9+4,none⟩=some (.int .i64 x.op.res):=H2.slcC_rd (by rw [List.getElem?_append_right (by rw [hg];omega),hg];simpa [Nat.add_sub_cancel_left] using qQi (l:=x::l) (k:=0) (x:=x) rfl (j:=4) (u:=.int .i64 x.op.res) rfl)
  have d5:(w.alloc (.cells #[.int .i64 0,.int .i64 0,.int .i64 0,.int .i64 0,.int .i64 0,.int .i64 0,.int .i64 0,.int .i64 0,.int .i64 0] 96)).cell? ⟨g,f*9+5,none⟩=some (.int .i64 x.op.n):=H2.slcC_rd (by rw [List.getElem?_append_right (by rw [hg];omega),hg];simpa [Nat.add_sub_cancel_left] using qQi (l:=x::l) (k:=0) (x:=x) rfl (j:=5) (u:=.int .i64 x.op.n) rfl)
  have d6:(w.alloc (.cells #[.int .i64 0,.int .i64 0,.int .i64 0,.int .i64 0,.int .i64 0,.int .i64 0,.int .i64 0,.int .i64 0,.int .i64 0] 96)).cell? ⟨g,f*9+6,none⟩=some (.int .i64 x.op.v):=H2.slcC_rd (by rw [List.getElem?_append_right (by rw [hg];omega),hg];simpa [Nat.add_sub_cancel_left] using qQi (l:=x::l) (k:=0) (x:=x) rfl (j:=6) (u:=.int .i64 x.op.v) rfl)
  have d7:(w.alloc (.cells #[.int .i64 0,.int .i64 0,.int .i64 0,.int .i64 0,.int .i64 0,.int .i64 0,.int .i64 0,.int .i64 0,.int .i64 0] 96)).cell? ⟨g,f*9+7,none⟩=some (.int .i64 x.why):=H2.slcC_rd (by rw [List.getElem?_append_right (by rw [hg];omega),hg];simpa [Nat.add_sub_cancel_left] using qQi (l:=x::l) (k:=0) (x:=x) rfl (j:=7) (u:=.int .i64 x.why) rfl)
  have d8:(w.alloc (.cells #[.int .i64 0,.int .i64 0,.int .i64 0,.int .i64 0,.int .i64 0,.int .i64 0,.int .i64 0,.int .i64 0,.int .i64 0] 96)).cell? ⟨g,f*9+8,none⟩=some (.int .i64 x.clock):=H2.slcC_rd (by rw [List.getElem?_append_right (by rw [hg];omega),hg];simpa [Nat.add_sub_cancel_left] using qQi (l:=x::l) (k:=0) (x:=x) rfl (j:=8) (u:=.int .i64 x.clock) rfl)
  have hne:((l.length:Int)+1 == 0)=false:=by rw [beq_eq_false_iff_ne];omega
  have hlt:(f:Int)<(f:Int)+((l.length:Int)+1):=by omega
  clear H2 HA hC hC1
  go_enter Tryz.func141,Tryz.ntmps141
  go_wp2_with fail
  refine hlen.mono ?_
  rintro e w' ⟨rfl,n,rfl⟩
  go_wp2_with fail
  refine wp_region_still_tail 10 (by kernel_rfl) (by kernel_rfl) ?_
  simp only [List.take_succ_cons,List.take_zero,List.drop_succ_cons,List.drop_zero,World.drew_eq]
  (repeat still_step)
  refine wpStill_nil ?_
  go_wp2_with fail
  (try simp only [Exit.inBlock,Exit.then])
  refine bodyPost_ret (v:=.tuple #[.agg #[.int .i64 x.kind,.int .i64 x.task,.int .i64 x.job,.int .i64 x.op.kind,.int .i64 x.op.res,.int .i64 x.op.n,.int .i64 x.op.v,.int .i64 x.why,.int .i64 x.clock],.bool true]) (by simp [results,Tryz.results141,go_sem]) rfl ⟨rfl,H.fin⟩
theorem zJQ (H:Hd w0 (cel s T C::Slc 96 9 v (f+([]:List EvM).length) (gar++flat ([]:List EvM))::R) w) (hC:C[o]? = some v) (hC1:C[o+1]? = some (.int .i64 f)) (hf:f≤100000) :
    Calls Tryz.prog 141 #[.pointer (some ⟨s,o,none⟩)] w fun e w'=>e=.returned (.tuple #[.agg #[.int .i64 0,.int .i64 0,.int .i64 0,.int .i64 0,.int .i64 0,.int .i64 0,.int .i64 0,.int .i64 0,.int .i64 0],.bool false])∧Hd w0 (cel s T C::Slc 96 9 v (f+([]:List EvM).length) (gar++flat ([]:List EvM))::R) w':=by
  have HA:Hd w0 _ (w.alloc (.cells #[.int .i64 0,.int .i64 0,.int .i64 0,.int .i64 0,.int .i64 0,.int .i64 0,.int .i64 0,.int .i64 0,.int .i64 0] 96)):=H.fol
  have hlen:=qWt HA.tail hC hC1 hf (by simp)
  clear HA hC hC1
  go_enter Tryz.func141,Tryz.ntmps141
  go_wp2_with fail
  refine hlen.mono ?_
  rintro e w' ⟨rfl,n,rfl⟩
  go_wp2_with fail
  (try simp only [Exit.inBlock,Exit.then])
  refine bodyPost_ret (v:=.tuple #[.agg #[.int .i64 0,.int .i64 0,.int .i64 0,.int .i64 0,.int .i64 0,.int .i64 0,.int .i64 0,.int .i64 0,.int .i64 0],.bool false]) (by simp [results,Tryz.results141,go_sem]) rfl ⟨rfl,H.fin⟩
theorem zZa {x:EvM} (H:Hd w0 (cel s T C::Slc 96 9 v (f+(x::l).length) (gar++flat (x::l))::R) w) (hC:C[o]? = some v) (hC1:C[o+1]? = some (.int .i64 f)) (hg:gar.length=f*9) (hf:f≤100000) (hn:l.length<100000) (hfl:f+1≤l.length) :
    Calls Tryz.prog 112 #[.pointer (some ⟨s,o,none⟩)] w fun e w'=>e=.returned (.tuple #[.agg #[.int .i64 x.kind,.int .i64 x.task,.int .i64 x.job,.int .i64 x.op.kind,.int .i64 x.op.res,.int .i64 x.op.n,.int .i64 x.op.v,.int .i64 x.why,.int .i64 x.clock],.bool true]) ∧
      Hd w0 (cel s T (C.setIfInBounds (o+1) (.int .i64 ((f:Int)+1)))::Slc 96 9 v (f+1+l.length) ((gar++[.int .i64 0,.int .i64 0,.int .i64 0,.int .i64 0,.int .i64 0,.int .i64 0,.int .i64 0,.int .i64 0,.int .i64 0])++flat l)::R) w':=by
  have H0:Hd w0 _ (w.alloc (.cells #[.int .i64 0,.int .i64 0,.int .i64 0,.int .i64 0,.int .i64 0,.int .i64 0,.int .i64 0,.int .i64 0,.int .i64 0] 96)):=H.fol
  have hfront:=qVU (H0.b3.b3) hC hC1 hg hf hn
  go_enter Tryz.func112,Tryz.ntmps112
  go_wp2_with fail
  refine hfront.mono ?_
  rintro e w1 ⟨rfl,H1⟩
  obtain ⟨g,cap,rfl,H2⟩:=H1.b2.slc_at (by simp;omega)
  obtain ⟨hxl,hnc,hcm,sp,hsp,H3⟩:=H2.slcC
  have e0:gar++flat (x::l)++sp=gar++([.int .i64 x.kind,.int .i64 x.task,.int .i64 x.job,.int .i64 x.op.kind,.int .i64 x.op.res,.int .i64 x.op.n,.int .i64 x.op.v,.int .i64 x.why,.int .i64 x.clock]++(flat l++sp)):=by rw [qQI];simp [Enc.cells]
  rw [e0] at H3 hsp
  have H4:Hd w0 _ ((w1.alloc (.cells #[.int .i64 x.kind,.int .i64 x.task,.int .i64 x.job,.int .i64 x.op.kind,.int .i64 x.op.res,.int .i64 x.op.n,.int .i64 x.op.v,.int .i64 x.why,.int .i64 x.clock] 96)).alloc (.cells #[.int .i64 0,.int .i64 0,.int .i64 0,.int .i64 0,.int .i64 0,.int .i64 0,.int .i64 0,.int .i64 0,.int .i64 0] 96)):=H3.fol
  have c0:=((H4.k s).rd o).trans hC
  have c1:=((H4.k s).rd (o+1)).trans hC1
  have hlt:(f:Int)<(f:Int)+((l.length:Int)+1):=by omega
  have hk:=H4.k g
  have d0:=(hk.rd (f*9)).trans (qXs hg)
  have k0:=hk.fr (f*9)
  have d1:=(hk.rd (f*9+1)).trans (qQU hg 1)
  have k1:=hk.fr (f*9+1)
  have d2:=(hk.rd (f*9+2)).trans (qQU hg 2)
  have k2:=hk.fr (f*9+2)
  have d3:=(hk.rd (f*9+3)).trans (qQU hg 3)
  have k3:=hk.fr (f*9+3)
  have d4:=(hk.rd (f*9+4)).trans (qQU hg 4)
  have k4:=hk.fr (f*9+4)
  have d5:=(hk.rd (f*9+5)).trans (qQU hg 5)
  have k5:=hk.fr (f*9+5)
  have d6:=(hk.rd (f*9+6)).trans (qQU hg 6)
  have k6:=hk.fr (f*9+6)
  have d7:=(hk.rd (f*9+7)).trans (qQU hg 7)
  have k7:=hk.fr (f*9+7)
  have d8:=(hk.rd (f*9+8)).trans (qQU hg 8)
  have k8:=hk.fr (f*9+8)
  simp only [List.cons_append,List.getElem?_cons_zero,List.getElem?_cons_succ] at d0 d1 d2 d3 d4 d5 d6 d7 d8
  clear hk
  have H5:Hd w0 _ (((((((((((w1.alloc (.cells #[.int .i64 x.kind,.int .i64 x.task,.int .i64 x.job,.int .i64 x.op.kind,.int .i64 x.op.res,.int .i64 x.op.n,.int .i64 x.op.v,.int .i64 x.why,.int .i64 x.clock] 96)).alloc (.cells #[.int .i64 0,.int .i64 0,.int .i64 0,.int .i64 0,.int .i64 0,.int .i64 0,.int .i64 0,.int .i64 0,.int .i64 0] 96)).setCell ⟨g,f*9,none⟩ (.int .i64 0)).setCell ⟨g,f*9+1,none⟩ (.int .i64 0)).setCell ⟨g,f*9+2,none⟩ (.int .i64 0)).setCell ⟨g,f*9+3,none⟩ (.int .i64 0)).setCell ⟨g,f*9+4,none⟩ (.int .i64 0)).setCell ⟨g,f*9+5,none⟩ (.int .i64 0)).setCell ⟨g,f*9+6,none⟩ (.int .i64 0)).setCell ⟨g,f*9+7,none⟩ (.int .i64 0)).setCell ⟨g,f*9+8,none⟩ (.int .i64 0)):=H3.fol
  rw [qXm hg,qQ4 hg 1,qQ4 hg 2,qQ4 hg 3,qQ4 hg 4,qQ4 hg 5,qQ4 hg 6,qQ4 hg 7,qQ4 hg 8] at H5
  simp only [List.cons_append,List.nil_append,List.set_cons_zero,List.set_cons_succ] at H5
  have p0:=((H5.k s).rd o).trans hC
  have p1:=((H5.k s).rd (o+1)).trans hC1
  have p2:=(H5.k s).fr (o+1)
  have H6:Hd w0 _ ((((((((((((w1.alloc (.cells #[.int .i64 x.kind,.int .i64 x.task,.int .i64 x.job,.int .i64 x.op.kind,.int .i64 x.op.res,.int .i64 x.op.n,.int .i64 x.op.v,.int .i64 x.why,.int .i64 x.clock] 96)).alloc (.cells #[.int .i64 0,.int .i64 0,.int .i64 0,.int .i64 0,.int .i64 0,.int .i64 0,.int .i64 0,.int .i64 0,.int .i64 0] 96)).setCell ⟨g,f*9,none⟩ (.int .i64 0)).setCell ⟨g,f*9+1,none⟩ (.int .i64 0)).setCell ⟨g,f*9+2,none⟩ (.int .i64 0)).setCell ⟨g,f*9+3,none⟩ (.int .i64 0)).setCell ⟨g,f*9+4,none⟩ (.int .i64 0)).setCell ⟨g,f*9+5,none⟩ (.int .i64 0)).setCell ⟨g,f*9+6,none⟩ (.int .i64 0)).setCell ⟨g,f*9+7,none⟩ (.int .i64 0)).setCell ⟨g,f*9+8,none⟩ (.int .i64 0)).setCell ⟨s,o+1,none⟩ (.int .i64 ((f:Int)+1))):=H5.fol
  have q0:=((H6.k s).rd o).trans ((Array.getElem?_setIfInBounds_ne (by omega)).trans hC)
  have r6:=H6.k w1.heap.size
  have t6:=H6.k w.heap.size
  have u0:=r6.rd 0
  have y0:=t6.rd 0
  have z0:=t6.fr 0
  have u1:=r6.rd 1
  have y1:=t6.rd 1
  have z1:=t6.fr 1
  have u2:=r6.rd 2
  have y2:=t6.rd 2
  have z2:=t6.fr 2
  have u3:=r6.rd 3
  have y3:=t6.rd 3
  have z3:=t6.fr 3
  have u4:=r6.rd 4
  have y4:=t6.rd 4
  have z4:=t6.fr 4
  have u5:=r6.rd 5
  have y5:=t6.rd 5
  have z5:=t6.fr 5
  have u6:=r6.rd 6
  have y6:=t6.rd 6
  have z6:=t6.fr 6
  have u7:=r6.rd 7
  have y7:=t6.rd 7
  have z7:=t6.fr 7
  have u8:=r6.rd 8
  have y8:=t6.rd 8
  have z8:=t6.fr 8
  simp only [List.getElem?_toArray,List.getElem?_cons_zero,List.getElem?_cons_succ] at u0 y0 u1 y1 u2 y2 u3 y3 u4 y4 u5 y5 u6 y6 u7 y7 u8 y8
  clear r6 t6
  have H7:=(H6.k g)
  have e5:gar++(Value.int .i64 0::Value.int .i64 0::Value.int .i64 0::Value.int .i64 0::Value.int .i64 0::Value.int .i64 0::Value.int .i64 0::Value.int .i64 0::Value.int .i64 0::(flat l++sp))=((gar++[.int .i64 0,.int .i64 0,.int .i64 0,.int .i64 0,.int .i64 0,.int .i64 0,.int .i64 0,.int .i64 0,.int .i64 0])++flat l)++sp:=by simp
  rw [e5] at H7
  have e6:f+(x::l).length=f+1+l.length:=by simp;omega
  have H8:=(H7.slcC_mk (n:=f+1+l.length) (cap:=cap) (size:=9) (by rw [List.length_append,List.length_append,hg,qQf];simp [Enc.size];omega) (by rw [← e6];exact hnc) hcm (by rw [← e5];simpa using hsp)).slc_mk
  have he6:=Lib.hid e6
  have hm:IntKind.i64.wrap (2*((f:Int)+1))=2*((f:Int)+1):=IntWalk.i64_in _ (by omega)
  have hcmp:decide ((f:Int)+((l.length:Int)+1)<2*((f:Int)+1))=false:=by rw [decide_eq_false_iff_not];omega
  clear H1 H2 H3 H4 H5 H6 H7 e5 e6 e0 hxl hnc hsp hcm hfront H0 hC hC1 H
  go_wp2_with fail
  refine wp_region_still_tail 10 (by kernel_rfl) (by kernel_rfl) ?_
  simp only [List.take_succ_cons,List.take_zero,List.drop_succ_cons,List.drop_zero,World.drew_eq]
  (repeat still_step)
  refine wpStill_nil ?_
  go_wp2_with (go_quiet (fail))
  (try simp only [Exit.inBlock,Exit.then])
  refine bodyPost_ret (qQg rfl _ _ w.heap.size 96 #[.int .i64 x.kind,.int .i64 x.task,.int .i64 x.job,.int .i64 x.op.kind,.int .i64 x.op.res,.int .i64 x.op.n,.int .i64 x.op.v,.int .i64 x.why,.int .i64 x.clock] (0,0) _ rfl (by exact ((Hd.fol H8:Hd w0 _ _).k w.heap.size).heap) Tryz.underlying96 rfl (by kernel_rfl)) rfl ⟨rfl,?_⟩
  rw [he6.out]
  exact H8.fin
theorem zQC {x:EvM} (H:Hd w0 (cel s T C::Slc 96 9 v (f+(x::l).length) (gar++flat (x::l))::R) w) (hC:C[o]? = some v) (hC1:C[o+1]? = some (.int .i64 f)) (hg:gar.length=f*9) (hf:f≤100000) (hn:l.length<100000) (hfl:l.length≤f) :
    Calls Tryz.prog 112 #[.pointer (some ⟨s,o,none⟩)] w fun e w'=>e=.returned (.tuple #[.agg #[.int .i64 x.kind,.int .i64 x.task,.int .i64 x.job,.int .i64 x.op.kind,.int .i64 x.op.res,.int .i64 x.op.n,.int .i64 x.op.v,.int .i64 x.why,.int .i64 x.clock],.bool true]) ∧
      ∃v',Hd w0 (cel s T ((C.setIfInBounds o v').setIfInBounds (o+1) (.int .i64 0))::SlE 96 v' l::R) w':=by
  have H0:Hd w0 _ (w.alloc (.cells #[.int .i64 0,.int .i64 0,.int .i64 0,.int .i64 0,.int .i64 0,.int .i64 0,.int .i64 0,.int .i64 0,.int .i64 0] 96)):=H.fol
  have hfront:=qVU (H0.b3.b3) hC hC1 hg hf hn
  go_enter Tryz.func112,Tryz.ntmps112
  go_wp2_with fail
  refine hfront.mono ?_
  rintro e w1 ⟨rfl,H1⟩
  obtain ⟨g,cap,rfl,H2⟩:=H1.b2.slc_at (by simp;omega)
  obtain ⟨hxl,hnc,hcm,sp,hsp,H3⟩:=H2.slcC
  have e0:gar++flat (x::l)++sp=gar++([.int .i64 x.kind,.int .i64 x.task,.int .i64 x.job,.int .i64 x.op.kind,.int .i64 x.op.res,.int .i64 x.op.n,.int .i64 x.op.v,.int .i64 x.why,.int .i64 x.clock]++(flat l++sp)):=by rw [qQI];simp [Enc.cells]
  rw [e0] at H3 hsp
  have H4:Hd w0 _ ((w1.alloc (.cells #[.int .i64 x.kind,.int .i64 x.task,.int .i64 x.job,.int .i64 x.op.kind,.int .i64 x.op.res,.int .i64 x.op.n,.int .i64 x.op.v,.int .i64 x.why,.int .i64 x.clock] 96)).alloc (.cells #[.int .i64 0,.int .i64 0,.int .i64 0,.int .i64 0,.int .i64 0,.int .i64 0,.int .i64 0,.int .i64 0,.int .i64 0] 96)):=H3.fol
  have c0:=((H4.k s).rd o).trans hC
  have c1:=((H4.k s).rd (o+1)).trans hC1
  have hlt:(f:Int)<(f:Int)+((l.length:Int)+1):=by omega
  have hk:=H4.k g
  have d0:=(hk.rd (f*9)).trans (qXs hg)
  have k0:=hk.fr (f*9)
  have d1:=(hk.rd (f*9+1)).trans (qQU hg 1)
  have k1:=hk.fr (f*9+1)
  have d2:=(hk.rd (f*9+2)).trans (qQU hg 2)
  have k2:=hk.fr (f*9+2)
  have d3:=(hk.rd (f*9+3)).trans (qQU hg 3)
  have k3:=hk.fr (f*9+3)
  have d4:=(hk.rd (f*9+4)).trans (qQU hg 4)
  have k4:=hk.fr (f*9+4)
  have d5:=(hk.rd (f*9+5)).trans (qQU hg 5)
  have k5:=hk.fr (f*9+5)
  have d6:=(hk.rd (f*9+6)).trans (qQU hg 6)
  have k6:=hk.fr (f*9+6)
  have d7:=(hk.rd (f*9+7)).trans (qQU hg 7)
  have k7:=hk.fr (f*9+7)
  have d8:=(hk.rd (f*9+8)).trans (qQU hg 8)
  have k8:=hk.fr (f*9+8)
  simp only [List.cons_append,List.getElem?_cons_zero,List.getElem?_cons_succ] at d0 d1 d2 d3 d4 d5 d6 d7 d8
  clear hk
  have H5:Hd w0 _ (((((((((((w1.alloc (.cells #[.int .i64 x.kind,.int .i64 x.task,.int .i64 x.job,.int .i64 x.op.kind,.int .i64 x.op.res,.int .i64 x.op.n,.int .i64 x.op.v,.int .i64 x.why,.int .i64 x.clock] 96)).alloc (.cells #[.int .i64 0,.int .i64 0,.int .i64 0,.int .i64 0,.int .i64 0,.int .i64 0,.int .i64 0,.int .i64 0,.int .i64 0] 96)).setCell ⟨g,f*9,none⟩ (.int .i64 0)).setCell ⟨g,f*9+1,none⟩ (.int .i64 0)).setCell ⟨g,f*9+2,none⟩ (.int .i64 0)).setCell ⟨g,f*9+3,none⟩ (.int .i64 0)).setCell ⟨g,f*9+4,none⟩ (.int .i64 0)).setCell ⟨g,f*9+5,none⟩ (.int .i64 0)).setCell ⟨g,f*9+6,none⟩ (.int .i64 0)).setCell ⟨g,f*9+7,none⟩ (.int .i64 0)).setCell ⟨g,f*9+8,none⟩ (.int .i64 0)):=H3.fol
  rw [qXm hg,qQ4 hg 1,qQ4 hg 2,qQ4 hg 3,qQ4 hg 4,qQ4 hg 5,qQ4 hg 6,qQ4 hg 7,qQ4 hg 8] at H5
  simp only [List.cons_append,List.nil_append,List.set_cons_zero,List.set_cons_succ] at H5
  have p0:=((H5.k s).rd o).trans hC
  have p1:=((H5.k s).rd (o+1)).trans hC1
  have p2:=(H5.k s).fr (o+1)
  have H6:Hd w0 _ ((((((((((((w1.alloc (.cells #[.int .i64 x.kind,.int .i64 x.task,.int .i64 x.job,.int .i64 x.op.kind,.int .i64 x.op.res,.int .i64 x.op.n,.int .i64 x.op.v,.int .i64 x.why,.int .i64 x.clock] 96)).alloc (.cells #[.int .i64 0,.int .i64 0,.int .i64 0,.int .i64 0,.int .i64 0,.int .i64 0,.int .i64 0,.int .i64 0,.int .i64 0] 96)).setCell ⟨g,f*9,none⟩ (.int .i64 0)).setCell ⟨g,f*9+1,none⟩ (.int .i64 0)).setCell ⟨g,f*9+2,none⟩ (.int .i64 0)).setCell ⟨g,f*9+3,none⟩ (.int .i64 0)).setCell ⟨g,f*9+4,none⟩ (.int .i64 0)).setCell ⟨g,f*9+5,none⟩ (.int .i64 0)).setCell ⟨g,f*9+6,none⟩ (.int .i64 0)).setCell ⟨g,f*9+7,none⟩ (.int .i64 0)).setCell ⟨g,f*9+8,none⟩ (.int .i64 0)).setCell ⟨s,o+1,none⟩ (.int .i64 ((f:Int)+1))):=H5.fol
  have q0:=((H6.k s).rd o).trans ((Array.getElem?_setIfInBounds_ne (by omega)).trans hC)
  have r6:=H6.k w1.heap.size
  have t6:=H6.k w.heap.size
  have u0:=r6.rd 0
  have y0:=t6.rd 0
  have z0:=t6.fr 0
  have u1:=r6.rd 1
  have y1:=t6.rd 1
  have z1:=t6.fr 1
  have u2:=r6.rd 2
  have y2:=t6.rd 2
  have z2:=t6.fr 2
  have u3:=r6.rd 3
  have y3:=t6.rd 3
  have z3:=t6.fr 3
  have u4:=r6.rd 4
  have y4:=t6.rd 4
  have z4:=t6.fr 4
  have u5:=r6.rd 5
  have y5:=t6.rd 5
  have z5:=t6.fr 5
  have u6:=r6.rd 6
  have y6:=t6.rd 6
  have z6:=t6.fr 6
  have u7:=r6.rd 7
  have y7:=t6.rd 7
  have z7:=t6.fr 7
  have u8:=r6.rd 8
  have y8:=t6.rd 8
  have z8:=t6.fr 8
  simp only [List.getElem?_toArray,List.getElem?_cons_zero,List.getElem?_cons_succ] at u0 y0 u1 y1 u2 y2 u3 y3 u4 y4 u5 y5 u6 y6 u7 y7 u8 y8
  clear r6 t6
  have H7:=(H6.k g)
  have e5:gar++(Value.int .i64 0::Value.int .i64 0::Value.int .i64 0::Value.int .i64 0::Value.int .i64 0::Value.int .i64 0::Value.int .i64 0::Value.int .i64 0::Value.int .i64 0::(flat l++sp))=((gar++[.int .i64 0,.int .i64 0,.int .i64 0,.int .i64 0,.int .i64 0,.int .i64 0,.int .i64 0,.int .i64 0,.int .i64 0])++flat l)++sp:=by simp
  rw [e5] at H7
  have e6:f+(x::l).length=f+1+l.length:=by simp;omega
  have H8:=(H7.slcC_mk (n:=f+1+l.length) (cap:=cap) (size:=9) (by rw [List.length_append,List.length_append,hg,qQf];simp [Enc.size];omega) (by rw [← e6];exact hnc) hcm (by rw [← e5];simpa using hsp)).slc_mk
  have he6:=Lib.hid e6
  have q1:=((H6.k s).rd (o+1)).trans (qXt hC1)
  have hC6:=Lib.hid (((Array.getElem?_setIfInBounds_ne (by omega)).trans hC):(C.setIfInBounds (o+1) (.int .i64 ((f:Int)+1)))[o]? = _)
  have hC7:=Lib.hid ((qXt hC1):(C.setIfInBounds (o+1) (.int .i64 ((f:Int)+1)))[o+1]? = _)
  have hk6:=H6.k s
  have q2:=hk6.fr o
  have q3:=hk6.fr (o+1)
  clear hk6
  have hm:IntKind.i64.wrap (2*((f:Int)+1))=2*((f:Int)+1):=IntWalk.i64_in _ (by omega)
  have hcmp:decide ((f:Int)+((l.length:Int)+1)<2*((f:Int)+1))=true:=by rw [decide_eq_true_iff];omega
  have hle:f+1≤cap:=by have:=hnc;simp at this;omega
  have h01:(0:Int)≤(f:Int)+1:=by omega
  have h02:(1:Int)≤(l.length:Int)+1:=by omega
  have hsrc:∀ {w1:World} {L:List Pr},Hd w0 (cel g 96 (gar++([.int .i64 0,.int .i64 0,.int .i64 0,.int .i64 0,.int .i64 0,.int .i64 0,.int .i64 0,.int .i64 0,.int .i64 0]:List Value)++flat l++sp).toArray::L) w1→∀ad,(some (⟨g,(f+1)*9,none⟩:Addr))=some ad→∀(j:Nat) (u:Value),(flat l)[j]? = some u→w1.cell? (ad.add j)=some u:=by
    intro w1 L h ad had j u hj
    obtain rfl:=Option.some.inj had
    rw [Addr.add_lit,h.rd,List.append_assoc _ (flat l) sp,qQU (by rw [List.length_append,hg];simp;omega),List.getElem?_append_left (qQa hj)]
    exact hj
  clear H1 H2 H3 H4 H5 H8 he6 e5 e6 e0 hxl hsp hcm hfront H0 hC hC1 H
  go_wp2_with fail
  refine wp_region_still_tail 10 (by kernel_rfl) (by kernel_rfl) ?_
  simp only [List.take_succ_cons,List.take_zero,List.drop_succ_cons,List.drop_zero,World.drew_eq]
  (repeat still_step)
  refine wpStill_nil ?_
  by_cases hcf:cap=f+1
  · have hl0:l.length=0:=by have:=hnc;simp at this;omega
    have hnil:∀ {w1:World} {L:List Pr},Hd w0 L w1→∀ad,(some (⟨g,0,none⟩:Addr))=some ad→∀(j:Nat) (u:Value),(flat l)[j]? = some u→w1.cell? (ad.add j)=some u:=by
      intro w1 L h ad had j u hj
      have:=qQa hj
      rw [qQf,hl0] at this
      omega
    subst hcf
    have hl0':=Lib.hid hl0
    clear hl0
    go_wp2_with (go_quiet (fail))
    go_region_with ((go_at_call 136;refine (qXb (Hd.fol H7) (by omega) (by omega) (A:=some ⟨g,0,none⟩) (by simp) hnil).mono ?_;rintro e w5 ⟨g5,rfl,H9⟩;have hk9:=H9.k s;have r0:=hk9.rd o;have r1:=hk9.rd (o+1);have r2:=hk9.fr o;have r3:=hk9.fr (o+1);rw [hC6.out] at r0;rw [hC7.out] at r1;clear hk9))
    all_goals
      have HF:Hd w0 _ ((w5.setCell ⟨s,o,none⟩ (.slice (some ⟨g5,0,none⟩) l.length l.length)).setCell ⟨s,o+1,none⟩ (.int .i64 0)):=H9.fol
      rw [set3] at HF
      have m6:=HF.k w1.heap.size
      have m7:=HF.k w.heap.size
      have a0:=m6.rd 0
      have b0:=m7.rd 0
      have e0:=m7.fr 0
      have a1:=m6.rd 1
      have b1:=m7.rd 1
      have e1:=m7.fr 1
      have a2:=m6.rd 2
      have b2:=m7.rd 2
      have e2:=m7.fr 2
      have a3:=m6.rd 3
      have b3:=m7.rd 3
      have e3:=m7.fr 3
      have a4:=m6.rd 4
      have b4:=m7.rd 4
      have e4:=m7.fr 4
      have a5:=m6.rd 5
      have b5:=m7.rd 5
      have e5:=m7.fr 5
      have a6:=m6.rd 6
      have b6:=m7.rd 6
      have e6:=m7.fr 6
      have a7:=m6.rd 7
      have b7:=m7.rd 7
      have e7:=m7.fr 7
      have a8:=m6.rd 8
      have b8:=m7.rd 8
      have e8:=m7.fr 8
      simp only [List.getElem?_toArray,List.getElem?_cons_zero,List.getElem?_cons_succ] at a0 b0 a1 b1 a2 b2 a3 b3 a4 b4 a5 b5 a6 b6 a7 b7 a8 b8
      clear m6 m7 c0 c1 p0 p1 p2 q0 q1 q2 q3 r0 r1 r2 r3 hm hcmp H9 H7 H6 hsrc hnil hC6 hC7 d0 k0 u0 y0 z0 d1 k1 u1 y1 z1 d2 k2 u2 y2 z2 d3 k3 u3 y3 z3 d4 k4 u4 y4 z4 d5 k5 u5 y5 z5 d6 k6 u6 y6 z6 d7 k7 u7 y7 z7 d8 k8 u8 y8 z8
      go_wp2_with fail
      (try simp only [Exit.inBlock,Exit.then])
      refine bodyPost_ret (qQg rfl _ _ w.heap.size 96 #[.int .i64 x.kind,.int .i64 x.task,.int .i64 x.job,.int .i64 x.op.kind,.int .i64 x.op.res,.int .i64 x.op.n,.int .i64 x.op.v,.int .i64 x.why,.int .i64 x.clock] (0,0) _ rfl (by exact ((Hd.fol HF:Hd w0 _ _).k w.heap.size).heap) Tryz.underlying96 rfl (by kernel_rfl)) rfl ⟨rfl,.slice (some ⟨g5,0,none⟩) l.length l.length,?_⟩
      have HG:=(HF.k g5).slc_mk
      exact HG.fin
  · go_wp2_with (go_quiet (fail))
    go_region_with ((go_at_call 136;refine (qXb (Hd.fol H7) (by omega) (by omega) (A:=some ⟨g,(f+1)*9,none⟩) (by simp) hsrc).mono ?_;rintro e w5 ⟨g5,rfl,H9⟩;have hk9:=H9.k s;have r0:=hk9.rd o;have r1:=hk9.rd (o+1);have r2:=hk9.fr o;have r3:=hk9.fr (o+1);rw [hC6.out] at r0;rw [hC7.out] at r1;clear hk9))
    all_goals
      have HF:Hd w0 _ ((w5.setCell ⟨s,o,none⟩ (.slice (some ⟨g5,0,none⟩) l.length l.length)).setCell ⟨s,o+1,none⟩ (.int .i64 0)):=H9.fol
      rw [set3] at HF
      have m6:=HF.k w1.heap.size
      have m7:=HF.k w.heap.size
      have a0:=m6.rd 0
      have b0:=m7.rd 0
      have e0:=m7.fr 0
      have a1:=m6.rd 1
      have b1:=m7.rd 1
      have e1:=m7.fr 1
      have a2:=m6.rd 2
      have b2:=m7.rd 2
      have e2:=m7.fr 2
      have a3:=m6.rd 3
      have b3:=m7.rd 3
      have e3:=m7.fr 3
      have a4:=m6.rd 4
      have b4:=m7.rd 4
      have e4:=m7.fr 4
      have a5:=m6.rd 5
      have b5:=m7.rd 5
      have e5:=m7.fr 5
      have a6:=m6.rd 6
      have b6:=m7.rd 6
      have e6:=m7.fr 6
      have a7:=m6.rd 7
      have b7:=m7.rd 7
      have e7:=m7.fr 7
      have a8:=m6.rd 8
      have b8:=m7.rd 8
      have e8:=m7.fr 8
      simp only [List.getElem?_toArray,List.getElem?_cons_zero,List.getElem?_cons_succ] at a0 b0 a1 b1 a2 b2 a3 b3 a4 b4 a5 b5 a6 b6 a7 b7 a8 b8
      clear m6 m7 c0 c1 p0 p1 p2 q0 q1 q2 q3 r0 r1 r2 r3 hm hcmp H9 H7 H6 hsrc hC6 hC7 d0 k0 u0 y0 z0 d1 k1 u1 y1 z1 d2 k2 u2 y2 z2 d3 k3 u3 y3 z3 d4 k4 u4 y4 z4 d5 k5 u5 y5 z5 d6 k6 u6 y6 z6 d7 k7 u7 y7 z7 d8 k8 u8 y8 z8
      go_wp2_with fail
      (try simp only [Exit.inBlock,Exit.then])
      refine bodyPost_ret (qQg rfl _ _ w.heap.size 96 #[.int .i64 x.kind,.int .i64 x.task,.int .i64 x.job,.int .i64 x.op.kind,.int .i64 x.op.res,.int .i64 x.op.n,.int .i64 x.op.v,.int .i64 x.why,.int .i64 x.clock] (0,0) _ rfl (by exact ((Hd.fol HF:Hd w0 _ _).k w.heap.size).heap) Tryz.underlying96 rfl (by kernel_rfl)) rfl ⟨rfl,.slice (some ⟨g5,0,none⟩) l.length l.length,?_⟩
      have HG:=(HF.k g5).slc_mk
      exact HG.fin
end
end
end Go.Proofs.YtkchopnkdjnocaaGreatDoor
