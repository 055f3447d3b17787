/-
  Merged texts of one proof: LockS.
-/
import Derived.Lib.Hide
import Derived.Test.YtkchopnkdjnocaaGreatDoorG05
import Derived.Test.YtkchopnkdjnocaaGreatDoorG07
import Derived.Test.YtkchopnkdjnocaaGreatDoorG11
import Derived.Test.YtkchopnkdjnocaaGreatDoorG12

set_option maxHeartbeats 16000000
set_option maxRecDepth 20000
namespace Go.Proofs.YtkchopnkdjnocaaGreatDoor
section
open Go.RowKit Spl
section
variable {w0 w:World} {R:List Pr} {s o T:Nat} {C:Array Value} {v:Value} {l:List qZQ}
theorem qYo {x:qZQ} (H:Hd w0 (cel s T C::SlE 320 v (l++[x])::R) w) (hC:C[o]? = some v) (hn:l.length<100000) :
    Calls Tryz.prog 199 #[.pointer (some ⟨s,o,none⟩)] w fun e w'=>e=.returned (.tuple #[.agg #[.int .i64 x.res,.int .i64 x.units],.bool true])∧Hd w0 (cel s T C::SlE 320 v (l++[x])::R) w':=by
  have hlen:(l++[x]).length=l.length+1:=by simp
  have HA:Hd w0 _ (w.alloc (.cells #[.int .i64 0,.int .i64 0] 320)):=H.fol
  have hat:=qqX (o:=o) HA.d3 hC (by omega) l.length x (by simp)
  obtain ⟨g,cap,rfl,H2⟩:=HA.b3.slc_at (by omega)
  have c0:=(H2.k s).ce o hC
  rw [hlen] at c0
  have hw:IntKind.i64.wrap (l.length:Int)=l.length:=IntWalk.i64_in _ (by omega)
  clear H H2 HA hC
  go_enter Tryz.func199,Tryz.ntmps199
  go_wp2_with fail
  refine hat.mono ?_
  rintro e w1 ⟨rfl,H1⟩
  have y0:=(H1.k w.heap.size).rd 0
  have y1:=(H1.k w.heap.size).rd 1
  simp only [List.getElem?_toArray,List.getElem?_cons_zero,List.getElem?_cons_succ] at y0 y1
  have z0:=(H1.k w.heap.size).fr 0
  have z1:=(H1.k w.heap.size).fr 1
  go_wp2_with fail
  (try simp only [Exit.inBlock,Exit.then])
  refine bodyPost_ret (qQg rfl _ _ w.heap.size 320 #[.int .i64 x.res,.int .i64 x.units] (0,0) _ rfl (by exact ((Hd.fol H1:Hd w0 _ _).k w.heap.size).heap) Tryz.underlying320 rfl (by kernel_rfl)) rfl ⟨rfl,?_⟩
  exact Hd.fin H1
theorem qKY {x:qZQ} (H:Hd w0 (cel s T C::SlE 320 v (l++[x])::R) w) (hC:C[o]? = some v) (hn:l.length<100000) :
    Calls Tryz.prog 211 #[.pointer (some ⟨s,o,none⟩)] w fun e w'=>e=.returned (.tuple #[.agg #[.int .i64 x.res,.int .i64 x.units],.bool true])∧∃v',Hd w0 (cel s T (C.setIfInBounds o v')::SlE 320 v' l::R) w':=by
  have hlen:(l++[x]).length=l.length+1:=by simp
  have HA:Hd w0 _ (w.alloc (.cells #[.int .i64 0,.int .i64 0] 320)):=H.fol
  have htop:=qYo (o:=o) HA.d3 hC hn
  have hw:IntKind.i64.wrap (l.length:Int)=l.length:=IntWalk.i64_in _ (by omega)
  have hw1:IntKind.i64.wrap ((l.length:Int)+1-1)=l.length:=by rw [IntWalk.i64_in _ (by omega)];omega
  have hlt:(l.length:Int)<(l.length:Int)+1:=by omega
  replace hlen:=Lib.hid hlen
  clear H HA
  go_enter Tryz.func211,Tryz.ntmps211
  go_wp2_with fail
  refine htop.mono ?_
  rintro e w1 ⟨rfl,H1⟩
  clear htop
  have H2:Hd w0 _ ((w1.alloc (.cells #[.int .i64 x.res,.int .i64 x.units] 320)).alloc (.cells #[.int .i64 0,.int .i64 0] 320)):=H1.fol
  obtain ⟨g,cap,rfl,H3⟩:=(H2.v v).slc_at (by rw [hlen.out];omega)
  have hcap:=H3.slcC.2.1
  rw [hlen.out] at hcap
  have c0:=(H3.k s).ce o hC
  rw [hlen.out] at c0
  have p0:=(H3.k (w1.heap.size+1)).rd 0
  have p1:=(H3.k (w1.heap.size+1)).rd 1
  simp only [List.getElem?_toArray,List.getElem?_cons_zero,List.getElem?_cons_succ] at p0 p1
  have cg0:=(H3.k g).slcC_rd (qQi (l:=l++[x]) (k:=l.length) (x:=x) (by simp) (j:=0) (u:=.int .i64 x.res) rfl)
  have cg1:=(H3.k g).slcC_rd (qQi (l:=l++[x]) (k:=l.length) (x:=x) (by simp) (j:=1) (u:=.int .i64 x.units) rfl)
  simp only [Enc.size,Nat.add_zero] at cg0 cg1
  have fg0:=(H3.k g).slcC_fr (l.length*2)
  have fg1:=(H3.k g).slcC_fr (l.length*2+1)
  have e1:(((flat (l++[x])).set (l.length*2) (.int .i64 0)).set (l.length*2+1) (.int .i64 0)).take (l.length*2)=flat l:=by
    have e2:(flat l).length=l.length*2:=qQf l
    rw [List.take_set_of_le (by omega),List.take_set_of_le (by omega),qQc,List.take_left' e2]
  have hfl:(flat (l++[x])).length=l.length*2+2:=by rw [qQf,hlen.out];simp [Enc.size];omega
  have H4:=((H3.k g).slcC_set (j:=l.length*2) (by omega) (.int .i64 0)).slcC_set (j:=l.length*2+1) (by rw [List.length_set];omega) (.int .i64 0)
  have H5:=H4.slcC_cut (k:=l.length) (c:=cap) (by rw [hlen.out];omega) (by omega) (Nat.le_refl _)
  have H5:Hd w0 (SlcC 320 2 g l.length cap ((((flat (l++[x])).set (l.length*2) (.int .i64 0)).set (l.length*2+1) (.int .i64 0)).take (l.length*2))::_) _:=H5
  rw [e1] at H5
  have d0:=(H5.k s).ce o hC
  rw [hlen.out] at d0
  have d1:=(H5.k s).fr o
  have H6:=((H5.k s).set o (.slice (some ⟨g,0,none⟩) l.length cap))
  have q0:=(H6.k w1.heap.size).rd 0
  have q1:=(H6.k w1.heap.size).rd 1
  simp only [List.getElem?_toArray,List.getElem?_cons_zero,List.getElem?_cons_succ] at q0 q1
  have r0:=(H6.k w.heap.size).rd 0
  have r1:=(H6.k w.heap.size).rd 1
  simp only [List.getElem?_toArray,List.getElem?_cons_zero,List.getElem?_cons_succ] at r0 r1
  have f0:=(H6.k w.heap.size).fr 0
  have f1:=(H6.k w.heap.size).fr 1
  have hlc:l.length≤cap:=by omega
  clear H1 H2 H3 H4 H5 e1 hfl hC
  go_wp2_with fail
  refine wp_region_still_tail 11 (by kernel_rfl) (by kernel_rfl) ?_
  simp only [List.take_succ_cons,List.take_zero,List.drop_succ_cons,List.drop_zero,World.drew_eq]
  (repeat still_step)
  refine wpStill_nil ?_
  go_wp2_with fail
  refine wp_region_still_tail 14 (by kernel_rfl) (by kernel_rfl) ?_
  simp only [List.take_succ_cons,List.take_zero,List.drop_succ_cons,List.drop_zero,World.drew_eq]
  (repeat still_step)
  refine wpStill_nil ?_
  go_wp2_with fail
  (try simp only [Exit.inBlock,Exit.then])
  refine bodyPost_ret (qQg rfl _ _ w.heap.size 320 #[.int .i64 x.res,.int .i64 x.units] (0,0) _ rfl (by exact ((Hd.fol H6:Hd w0 _ _).k w.heap.size).heap) Tryz.underlying320 rfl (by kernel_rfl)) rfl ⟨rfl,.slice (some ⟨g,0,none⟩) l.length cap,?_⟩
  exact ((Hd.fol H6:Hd w0 _ _).k g).slc_mk.re
end
section
variable {w0 w:World} {R:List Pr} {s o T:Nat} {C:Array Value} {v:Value} {l:List Ptr}
theorem qYJ (H:Hd w0 R w) (hn:l.length≤100000) {n:Nat} (hnl:n=l.length) {A:Option Addr} {cap:Nat} (hA:A=none→l.length=0)
    (hs:∀ {w1:World},Hd w0 R w1→∀ad,A=some ad→∀(j:Nat) (u:Value),(flat l)[j]? = some u→w1.cell? (ad.add j)=some u) :
    Calls Tryz.prog 134 #[.slice A n cap] w fun e w'=>∃g,e=.returned (.slice (some ⟨g,0,none⟩) l.length l.length)∧Hd w0 (SlEC 211 g l.length l::R) w':=by
  subst hnl
  obtain ⟨i0,hi,hz0,hz1,hz2⟩:=info_parts qXc
  go_enter Tryz.func134,Tryz.ntmps134
  go_wp2_with (first | (at_make;refine qQn rfl _ _ 104 rfl 211 i0 _ 1 Tryz.underlying104 hi hz0 hz1 rfl _ _ _ _ 0 l.length rfl rfl rfl rfl (by omega) (by rw [hz2];omega) (by unfold maxLen;omega) H ?_;intro w1 H1;rw [qQw] at H1;have hs1:=hs H1.tail) | (at_builtin;refine qQl rfl _ _ 104 rfl 211 i0 1 Tryz.underlying104 hi hz1 _ 0 l.length [] rfl H1 _ l.length _ (flat l) rfl (qQf l) hA hs1 (qQx l) (by omega) ?_;intro w2 H2;rw [Nat.zero_add]))
  go_ret
  exact ⟨_,rfl,by rw [List.nil_append,Nat.zero_add] at H2;exact H2⟩
theorem qXj (H:Hd w0 (cel s T C::SlE 211 v l::R) w) (hC:C[o]? = some v) (hn:l.length≤100000) :
    Calls Tryz.prog 102 #[.pointer (some ⟨s,o,none⟩)] w fun e w'=>∃g,e=.returned (.slice (some ⟨g,0,none⟩) l.length l.length)∧Hd w0 (SlEC 211 g l.length l::cel s T C::SlE 211 v l::R) w':=by
  have c0:=H.ce o hC
  obtain ⟨a,cap,rfl,_,_,_,_⟩:=H.b2.slc_form
  have hnews:∀ {w1:World},Hd w0 (cel s T C::SlE 211 (.slice a l.length cap) l::R) w1→(a=none→l.length=0)∧∀ad,a=some ad→∀(j:Nat) (u:Value),(flat l)[j]? = some u→w1.cell? (ad.add j)=some u:=fun h=>h.b2.slc_news
  have hcall:=qYJ H hn rfl (A:=a) (cap:=cap) (hnews H).1 (fun h=>(hnews h).2)
  clear hnews H hC
  go_enter Tryz.func102,Tryz.ntmps102
  go_wp2_with fail
  refine hcall.mono ?_
  rintro e w' ⟨g,rfl,H1⟩
  go_wp2_with fail
  go_ret
  exact ⟨g,rfl,H1⟩
end
end
end Go.Proofs.YtkchopnkdjnocaaGreatDoor
