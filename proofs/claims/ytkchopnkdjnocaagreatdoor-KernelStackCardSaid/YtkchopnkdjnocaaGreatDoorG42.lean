/-
  Merged texts of one proof: Ke3.
-/
import Derived.Test.YtkchopnkdjnocaaGreatDoorG40

set_option maxHeartbeats 16000000
set_option maxRecDepth 20000
namespace Go.Proofs.YtkchopnkdjnocaaGreatDoor
section
open Go.RowKit Spl
section
variable {w0 w:World} {R:List Pr} {S:Hp} {z:KeV} {m:KeM}
theorem zJt (H:Hd w0 (KeL z S m R) w) (hs:DpS m.tk m.dp) (he:m.ev.Ok) (hg:m.ev.gone+4≤4611686018427387904) {sj st sl dj dt ok or on ov why:Int} {dp':DpM} (hd:m.dp.step m.tk=(⟨false,⟨sj,st,sl⟩,false,⟨dj,dt,⟨ok,or,on,ov⟩,why,false⟩⟩,dp')) :
    Calls Tryz.prog 35 #[.pointer (some ⟨z.k,0,none⟩)] w fun e w'=>e=.returned (.agg (didA ⟨false,⟨sj,st,sl⟩,false,⟨dj,dt,⟨ok,or,on,ov⟩,why,false⟩⟩))∧∃S',Le S S'∧Hd w0 (KeL z S' ((⟨m.tk,dp',m.ck,m.ev⟩:KeM).event (qZK dt dj ⟨ok,or,on,ov⟩ why)) R) w':=by
  obtain ⟨k,cl,rg,y⟩:=z
  have hst:=fun (w1:World) (X:List Pr) (h1:Hd w0 (DpL y m.tk S m.dp X) w1)=>qYR h1 hs
  rw [hd] at hst
  dsimp only at hst
  have hev:=fun (S':Hp) (w1:World) (X:List Pr) (m1:KeM) (e:EvM) (hr:m1.ev.Ok) (h1:Hd w0 (KeL ⟨k,cl,rg,y⟩ S' m1 X) w1)=>qJb h1 hr e
  have o0:(KeM.mk m.tk dp' m.ck m.ev).ev.Ok:=he
  obtain ⟨m1,hm1⟩:∃m1,(KeM.mk m.tk dp' m.ck m.ev).event (qZK dt dj ⟨ok,or,on,ov⟩ why)=m1:=⟨_,rfl⟩
  have o1:m1.ev.Ok∧m1.ev.gone≤m.ev.gone+1:=by
    have h:=qQQ o0 (by have:=hg;dsimp only;omega) { (qZK dt dj ⟨ok,or,on,ov⟩ why) with clock:=(KeM.mk m.tk dp' m.ck m.ev).ck.now }
    rw [← hm1]
    exact ⟨h.1,Nat.le_trans h.2 (by exact Nat.le_refl _)⟩
  rw [hm1]
  replace o0:=Lib.hid o0
  clear o1
  have v1:=fun (S':Hp) (w1:World) (X:List Pr) (h1:Hd w0 (KeL ⟨k,cl,rg,y⟩ S' (KeM.mk m.tk dp' m.ck m.ev) X) w1)=>hev S' w1 X (KeM.mk m.tk dp' m.ck m.ev) (qZK dt dj ⟨ok,or,on,ov⟩ why) o0.out h1
  rw [hm1] at v1
  replace v1:=Lib.hid v1
  replace hm1:=Lib.hid hm1
  replace hst:=Lib.hid hst
  replace hd:=Lib.hid hd
  clear hs he hg hev
  have H0:Hd w0 _ (w.alloc (.cells #[.bool false,.int .i64 0,.int .i64 0,.int .i64 0,.bool false,.int .i64 0,.int .i64 0,.int .i64 0,.int .i64 0,.int .i64 0,.int .i64 0,.int .i64 0,.bool false] 87)):=H.fol
  have k2:=(show _=some (Value.pointer (some ⟨y.d,0,none⟩)) from (H0.k k).ce 2 rfl)
  have hsc:=hst.out _ (cel w.heap.size 87 #[.bool false,.int .i64 0,.int .i64 0,.int .i64 0,.bool false,.int .i64 0,.int .i64 0,.int .i64 0,.int .i64 0,.int .i64 0,.int .i64 0,.int .i64 0,.bool false]::cel k 53 #[.pointer (some ⟨y.x.l,0,none⟩),.pointer (some ⟨y.x.t,0,none⟩),.pointer (some ⟨y.d,0,none⟩),.pointer (some ⟨cl,0,none⟩),.pointer (some ⟨rg,0,none⟩)]::qQE cl m.ck::qQT rg m.ev::R) H0.re
  clear H
  go_enter Tryz.func35,Tryz.ntmps35
  go_wp2_with fail
  refine hsc.mono ?_
  rintro e w1 ⟨rfl,S',hle,H1⟩
  clear hsc H0 k2
  have G0:Hd w0 _ (w1.alloc (.cells #[.bool false,.int .i64 sj,.int .i64 st,.int .i64 sl,.bool false,.int .i64 dj,.int .i64 dt,.int .i64 ok,.int .i64 or,.int .i64 on,.int .i64 ov,.int .i64 why,.bool false] 87)):=H1.fol
  have hf0:=(G0.k w1.heap.size).fact1
  simp only [Nat.reduceAdd] at hf0
  go_split_ands
  have c1:=v1.out S' _ (cel w1.heap.size 87 #[.bool false,.int .i64 sj,.int .i64 st,.int .i64 sl,.bool false,.int .i64 dj,.int .i64 dt,.int .i64 ok,.int .i64 or,.int .i64 on,.int .i64 ov,.int .i64 why,.bool false]::cel w.heap.size 87 #[.bool false,.int .i64 0,.int .i64 0,.int .i64 0,.bool false,.int .i64 0,.int .i64 0,.int .i64 0,.int .i64 0,.int .i64 0,.int .i64 0,.int .i64 0,.bool false]::R) G0.re
  go_wp2_with fail
  refine c1.mono ?_
  rintro e w2 ⟨rfl,G1⟩
  clear c1
  have hf1:=(G1.k w1.heap.size).fact1
  simp only [Nat.reduceAdd] at hf1
  go_split_ands
  go_wp2_with (first | (refine qQk (g:=w.heap.size) (cells:=didA ⟨false,⟨sj,st,sl⟩,false,⟨dj,dt,⟨ok,or,on,ov⟩,why,false⟩⟩) (G1.k w.heap.size) rfl 87 _ _ rfl rfl rfl (by kernel_rfl) rfl (qJy _) ?_;intro w9 H11))
  refine bodyPost_ret (qQC rfl _ _ w.heap.size 87 (didA ⟨false,⟨sj,st,sl⟩,false,⟨dj,dt,⟨ok,or,on,ov⟩,why,false⟩⟩) (0,0) _ (by rfl) (by exact H11.heap) Tryz.underlying87 rfl (by kernel_rfl)) rfl ⟨rfl,S',hle,?_⟩
  exact H11.re
theorem zJi (H:Hd w0 (KeL z S m R) w) (hs:DpS m.tk m.dp) (he:m.ev.Ok) (hg:m.ev.gone+4≤4611686018427387904) {sj st sl dj dt ok or on ov why:Int} {dp':DpM} (hd:m.dp.step m.tk=(⟨false,⟨sj,st,sl⟩,false,⟨dj,dt,⟨ok,or,on,ov⟩,why,true⟩⟩,dp')) :
    Calls Tryz.prog 35 #[.pointer (some ⟨z.k,0,none⟩)] w fun e w'=>e=.returned (.agg (didA ⟨false,⟨sj,st,sl⟩,false,⟨dj,dt,⟨ok,or,on,ov⟩,why,true⟩⟩))∧∃S',Le S S'∧Hd w0 (KeL z S' (((⟨m.tk,dp',m.ck,m.ev⟩:KeM).event (qZK dt dj ⟨ok,or,on,ov⟩ why)).event (qZZ dt dj)) R) w':=by
  obtain ⟨k,cl,rg,y⟩:=z
  have hst:=fun (w1:World) (X:List Pr) (h1:Hd w0 (DpL y m.tk S m.dp X) w1)=>qYR h1 hs
  rw [hd] at hst
  dsimp only at hst
  have hev:=fun (S':Hp) (w1:World) (X:List Pr) (m1:KeM) (e:EvM) (hr:m1.ev.Ok) (h1:Hd w0 (KeL ⟨k,cl,rg,y⟩ S' m1 X) w1)=>qJb h1 hr e
  have o0:(KeM.mk m.tk dp' m.ck m.ev).ev.Ok:=he
  obtain ⟨m1,hm1⟩:∃m1,(KeM.mk m.tk dp' m.ck m.ev).event (qZK dt dj ⟨ok,or,on,ov⟩ why)=m1:=⟨_,rfl⟩
  have o1:m1.ev.Ok∧m1.ev.gone≤m.ev.gone+1:=by
    have h:=qQQ o0 (by have:=hg;dsimp only;omega) { (qZK dt dj ⟨ok,or,on,ov⟩ why) with clock:=(KeM.mk m.tk dp' m.ck m.ev).ck.now }
    rw [← hm1]
    exact ⟨h.1,Nat.le_trans h.2 (by exact Nat.le_refl _)⟩
  obtain ⟨m2,hm2⟩:∃m2,m1.event (qZZ dt dj)=m2:=⟨_,rfl⟩
  have o2:m2.ev.Ok∧m2.ev.gone≤m.ev.gone+2:=by
    have h:=qQQ o1.1 (by have:=o1.2;omega) { (qZZ dt dj) with clock:=m1.ck.now }
    rw [← hm2]
    exact ⟨h.1,Nat.le_trans h.2 (by have:=o1.2;omega)⟩
  rw [hm1]
  rw [hm2]
  replace o0:=Lib.hid o0
  replace o1:=Lib.hid o1
  clear o2
  have v1:=fun (S':Hp) (w1:World) (X:List Pr) (h1:Hd w0 (KeL ⟨k,cl,rg,y⟩ S' (KeM.mk m.tk dp' m.ck m.ev) X) w1)=>hev S' w1 X (KeM.mk m.tk dp' m.ck m.ev) (qZK dt dj ⟨ok,or,on,ov⟩ why) o0.out h1
  rw [hm1] at v1
  replace v1:=Lib.hid v1
  have v2:=fun (S':Hp) (w1:World) (X:List Pr) (h1:Hd w0 (KeL ⟨k,cl,rg,y⟩ S' m1 X) w1)=>hev S' w1 X m1 (qZZ dt dj) o1.out.1 h1
  rw [hm2] at v2
  replace v2:=Lib.hid v2
  replace hm1:=Lib.hid hm1
  replace hm2:=Lib.hid hm2
  replace hst:=Lib.hid hst
  replace hd:=Lib.hid hd
  clear hs he hg hev
  have H0:Hd w0 _ (w.alloc (.cells #[.bool false,.int .i64 0,.int .i64 0,.int .i64 0,.bool false,.int .i64 0,.int .i64 0,.int .i64 0,.int .i64 0,.int .i64 0,.int .i64 0,.int .i64 0,.bool false] 87)):=H.fol
  have k2:=(show _=some (Value.pointer (some ⟨y.d,0,none⟩)) from (H0.k k).ce 2 rfl)
  have hsc:=hst.out _ (cel w.heap.size 87 #[.bool false,.int .i64 0,.int .i64 0,.int .i64 0,.bool false,.int .i64 0,.int .i64 0,.int .i64 0,.int .i64 0,.int .i64 0,.int .i64 0,.int .i64 0,.bool false]::cel k 53 #[.pointer (some ⟨y.x.l,0,none⟩),.pointer (some ⟨y.x.t,0,none⟩),.pointer (some ⟨y.d,0,none⟩),.pointer (some ⟨cl,0,none⟩),.pointer (some ⟨rg,0,none⟩)]::qQE cl m.ck::qQT rg m.ev::R) H0.re
  clear H
  go_enter Tryz.func35,Tryz.ntmps35
  go_wp2_with fail
  refine hsc.mono ?_
  rintro e w1 ⟨rfl,S',hle,H1⟩
  clear hsc H0 k2
  have G0:Hd w0 _ (w1.alloc (.cells #[.bool false,.int .i64 sj,.int .i64 st,.int .i64 sl,.bool false,.int .i64 dj,.int .i64 dt,.int .i64 ok,.int .i64 or,.int .i64 on,.int .i64 ov,.int .i64 why,.bool true] 87)):=H1.fol
  have hf0:=(G0.k w1.heap.size).fact1
  simp only [Nat.reduceAdd] at hf0
  go_split_ands
  have c1:=v1.out S' _ (cel w1.heap.size 87 #[.bool false,.int .i64 sj,.int .i64 st,.int .i64 sl,.bool false,.int .i64 dj,.int .i64 dt,.int .i64 ok,.int .i64 or,.int .i64 on,.int .i64 ov,.int .i64 why,.bool true]::cel w.heap.size 87 #[.bool false,.int .i64 0,.int .i64 0,.int .i64 0,.bool false,.int .i64 0,.int .i64 0,.int .i64 0,.int .i64 0,.int .i64 0,.int .i64 0,.int .i64 0,.bool false]::R) G0.re
  go_wp2_with fail
  refine c1.mono ?_
  rintro e w2 ⟨rfl,G1⟩
  clear c1
  have hf1:=(G1.k w1.heap.size).fact1
  simp only [Nat.reduceAdd] at hf1
  go_split_ands
  have c2:=v2.out S' _ (cel w1.heap.size 87 #[.bool false,.int .i64 sj,.int .i64 st,.int .i64 sl,.bool false,.int .i64 dj,.int .i64 dt,.int .i64 ok,.int .i64 or,.int .i64 on,.int .i64 ov,.int .i64 why,.bool true]::cel w.heap.size 87 #[.bool false,.int .i64 0,.int .i64 0,.int .i64 0,.bool false,.int .i64 0,.int .i64 0,.int .i64 0,.int .i64 0,.int .i64 0,.int .i64 0,.int .i64 0,.bool false]::R) G1.re
  go_wp2_with fail
  refine c2.mono ?_
  rintro e w3 ⟨rfl,G2⟩
  clear c2
  have hf2:=(G2.k w1.heap.size).fact1
  simp only [Nat.reduceAdd] at hf2
  go_split_ands
  go_wp2_with (first | (refine qQk (g:=w.heap.size) (cells:=didA ⟨false,⟨sj,st,sl⟩,false,⟨dj,dt,⟨ok,or,on,ov⟩,why,true⟩⟩) (G2.k w.heap.size) rfl 87 _ _ rfl rfl rfl (by kernel_rfl) rfl (qJy _) ?_;intro w9 H11))
  refine bodyPost_ret (qQC rfl _ _ w.heap.size 87 (didA ⟨false,⟨sj,st,sl⟩,false,⟨dj,dt,⟨ok,or,on,ov⟩,why,true⟩⟩) (0,0) _ (by rfl) (by exact H11.heap) Tryz.underlying87 rfl (by kernel_rfl)) rfl ⟨rfl,S',hle,?_⟩
  exact H11.re
theorem zJl (H:Hd w0 (KeL z S m R) w) (hs:DpS m.tk m.dp) (he:m.ev.Ok) (hg:m.ev.gone+4≤4611686018427387904) {sj st sl dj dt ok or on ov why:Int} {dp':DpM} (hd:m.dp.step m.tk=(⟨true,⟨sj,st,sl⟩,false,⟨dj,dt,⟨ok,or,on,ov⟩,why,false⟩⟩,dp')) :
    Calls Tryz.prog 35 #[.pointer (some ⟨z.k,0,none⟩)] w fun e w'=>e=.returned (.agg (didA ⟨true,⟨sj,st,sl⟩,false,⟨dj,dt,⟨ok,or,on,ov⟩,why,false⟩⟩))∧∃S',Le S S'∧Hd w0 (KeL z S' (((⟨m.tk,dp',m.ck,m.ev⟩:KeM).event (qZu st sj)).event (qZK dt dj ⟨ok,or,on,ov⟩ why)) R) w':=by
  obtain ⟨k,cl,rg,y⟩:=z
  have hst:=fun (w1:World) (X:List Pr) (h1:Hd w0 (DpL y m.tk S m.dp X) w1)=>qYR h1 hs
  rw [hd] at hst
  dsimp only at hst
  have hev:=fun (S':Hp) (w1:World) (X:List Pr) (m1:KeM) (e:EvM) (hr:m1.ev.Ok) (h1:Hd w0 (KeL ⟨k,cl,rg,y⟩ S' m1 X) w1)=>qJb h1 hr e
  have o0:(KeM.mk m.tk dp' m.ck m.ev).ev.Ok:=he
  obtain ⟨m1,hm1⟩:∃m1,(KeM.mk m.tk dp' m.ck m.ev).event (qZu st sj)=m1:=⟨_,rfl⟩
  have o1:m1.ev.Ok∧m1.ev.gone≤m.ev.gone+1:=by
    have h:=qQQ o0 (by have:=hg;dsimp only;omega) { (qZu st sj) with clock:=(KeM.mk m.tk dp' m.ck m.ev).ck.now }
    rw [← hm1]
    exact ⟨h.1,Nat.le_trans h.2 (by exact Nat.le_refl _)⟩
  obtain ⟨m2,hm2⟩:∃m2,m1.event (qZK dt dj ⟨ok,or,on,ov⟩ why)=m2:=⟨_,rfl⟩
  have o2:m2.ev.Ok∧m2.ev.gone≤m.ev.gone+2:=by
    have h:=qQQ o1.1 (by have:=o1.2;omega) { (qZK dt dj ⟨ok,or,on,ov⟩ why) with clock:=m1.ck.now }
    rw [← hm2]
    exact ⟨h.1,Nat.le_trans h.2 (by have:=o1.2;omega)⟩
  rw [hm1]
  rw [hm2]
  replace o0:=Lib.hid o0
  replace o1:=Lib.hid o1
  clear o2
  have v1:=fun (S':Hp) (w1:World) (X:List Pr) (h1:Hd w0 (KeL ⟨k,cl,rg,y⟩ S' (KeM.mk m.tk dp' m.ck m.ev) X) w1)=>hev S' w1 X (KeM.mk m.tk dp' m.ck m.ev) (qZu st sj) o0.out h1
  rw [hm1] at v1
  replace v1:=Lib.hid v1
  have v2:=fun (S':Hp) (w1:World) (X:List Pr) (h1:Hd w0 (KeL ⟨k,cl,rg,y⟩ S' m1 X) w1)=>hev S' w1 X m1 (qZK dt dj ⟨ok,or,on,ov⟩ why) o1.out.1 h1
  rw [hm2] at v2
  replace v2:=Lib.hid v2
  replace hm1:=Lib.hid hm1
  replace hm2:=Lib.hid hm2
  replace hst:=Lib.hid hst
  replace hd:=Lib.hid hd
  clear hs he hg hev
  have H0:Hd w0 _ (w.alloc (.cells #[.bool false,.int .i64 0,.int .i64 0,.int .i64 0,.bool false,.int .i64 0,.int .i64 0,.int .i64 0,.int .i64 0,.int .i64 0,.int .i64 0,.int .i64 0,.bool false] 87)):=H.fol
  have k2:=(show _=some (Value.pointer (some ⟨y.d,0,none⟩)) from (H0.k k).ce 2 rfl)
  have hsc:=hst.out _ (cel w.heap.size 87 #[.bool false,.int .i64 0,.int .i64 0,.int .i64 0,.bool false,.int .i64 0,.int .i64 0,.int .i64 0,.int .i64 0,.int .i64 0,.int .i64 0,.int .i64 0,.bool false]::cel k 53 #[.pointer (some ⟨y.x.l,0,none⟩),.pointer (some ⟨y.x.t,0,none⟩),.pointer (some ⟨y.d,0,none⟩),.pointer (some ⟨cl,0,none⟩),.pointer (some ⟨rg,0,none⟩)]::qQE cl m.ck::qQT rg m.ev::R) H0.re
  clear H
  go_enter Tryz.func35,Tryz.ntmps35
  go_wp2_with fail
  refine hsc.mono ?_
  rintro e w1 ⟨rfl,S',hle,H1⟩
  clear hsc H0 k2
  have G0:Hd w0 _ (w1.alloc (.cells #[.bool true,.int .i64 sj,.int .i64 st,.int .i64 sl,.bool false,.int .i64 dj,.int .i64 dt,.int .i64 ok,.int .i64 or,.int .i64 on,.int .i64 ov,.int .i64 why,.bool false] 87)):=H1.fol
  have hf0:=(G0.k w1.heap.size).fact1
  simp only [Nat.reduceAdd] at hf0
  go_split_ands
  have c1:=v1.out S' _ (cel w1.heap.size 87 #[.bool true,.int .i64 sj,.int .i64 st,.int .i64 sl,.bool false,.int .i64 dj,.int .i64 dt,.int .i64 ok,.int .i64 or,.int .i64 on,.int .i64 ov,.int .i64 why,.bool false]::cel w.heap.size 87 #[.bool false,.int .i64 0,.int .i64 0,.int .i64 0,.bool false,.int .i64 0,.int .i64 0,.int .i64 0,.int .i64 0,.int .i64 0,.int .i64 0,.int .i64 0,.bool false]::R) G0.re
  go_wp2_with fail
  refine c1.mono ?_
  rintro e w2 ⟨rfl,G1⟩
  clear c1
  have hf1:=(G1.k w1.heap.size).fact1
  simp only [Nat.reduceAdd] at hf1
  go_split_ands
  have c2:=v2.out S' _ (cel w1.heap.size 87 #[.bool true,.int .i64 sj,.int .i64 st,.int .i64 sl,.bool false,.int .i64 dj,.int .i64 dt,.int .i64 ok,.int .i64 or,.int .i64 on,.int .i64 ov,.int .i64 why,.bool false]::cel w.heap.size 87 #[.bool false,.int .i64 0,.int .i64 0,.int .i64 0,.bool false,.int .i64 0,.int .i64 0,.int .i64 0,.int .i64 0,.int .i64 0,.int .i64 0,.int .i64 0,.bool false]::R) G1.re
  go_wp2_with fail
  refine c2.mono ?_
  rintro e w3 ⟨rfl,G2⟩
  clear c2
  have hf2:=(G2.k w1.heap.size).fact1
  simp only [Nat.reduceAdd] at hf2
  go_split_ands
  go_wp2_with (first | (refine qQk (g:=w.heap.size) (cells:=didA ⟨true,⟨sj,st,sl⟩,false,⟨dj,dt,⟨ok,or,on,ov⟩,why,false⟩⟩) (G2.k w.heap.size) rfl 87 _ _ rfl rfl rfl (by kernel_rfl) rfl (qJy _) ?_;intro w9 H11))
  refine bodyPost_ret (qQC rfl _ _ w.heap.size 87 (didA ⟨true,⟨sj,st,sl⟩,false,⟨dj,dt,⟨ok,or,on,ov⟩,why,false⟩⟩) (0,0) _ (by rfl) (by exact H11.heap) Tryz.underlying87 rfl (by kernel_rfl)) rfl ⟨rfl,S',hle,?_⟩
  exact H11.re
theorem zJk (H:Hd w0 (KeL z S m R) w) (hs:DpS m.tk m.dp) (he:m.ev.Ok) (hg:m.ev.gone+4≤4611686018427387904) {sj st sl dj dt ok or on ov why:Int} {dp':DpM} (hd:m.dp.step m.tk=(⟨true,⟨sj,st,sl⟩,false,⟨dj,dt,⟨ok,or,on,ov⟩,why,true⟩⟩,dp')) :
    Calls Tryz.prog 35 #[.pointer (some ⟨z.k,0,none⟩)] w fun e w'=>e=.returned (.agg (didA ⟨true,⟨sj,st,sl⟩,false,⟨dj,dt,⟨ok,or,on,ov⟩,why,true⟩⟩))∧∃S',Le S S'∧Hd w0 (KeL z S' ((((⟨m.tk,dp',m.ck,m.ev⟩:KeM).event (qZu st sj)).event (qZK dt dj ⟨ok,or,on,ov⟩ why)).event (qZZ dt dj)) R) w':=by
  obtain ⟨k,cl,rg,y⟩:=z
  have hst:=fun (w1:World) (X:List Pr) (h1:Hd w0 (DpL y m.tk S m.dp X) w1)=>qYR h1 hs
  rw [hd] at hst
  dsimp only at hst
  have hev:=fun (S':Hp) (w1:World) (X:List Pr) (m1:KeM) (e:EvM) (hr:m1.ev.Ok) (h1:Hd w0 (KeL ⟨k,cl,rg,y⟩ S' m1 X) w1)=>qJb h1 hr e
  have o0:(KeM.mk m.tk dp' m.ck m.ev).ev.Ok:=he
  obtain ⟨m1,hm1⟩:∃m1,(KeM.mk m.tk dp' m.ck m.ev).event (qZu st sj)=m1:=⟨_,rfl⟩
  have o1:m1.ev.Ok∧m1.ev.gone≤m.ev.gone+1:=by
    have h:=qQQ o0 (by have:=hg;dsimp only;omega) { (qZu st sj) with clock:=(KeM.mk m.tk dp' m.ck m.ev).ck.now }
    rw [← hm1]
    exact ⟨h.1,Nat.le_trans h.2 (by exact Nat.le_refl _)⟩
  obtain ⟨m2,hm2⟩:∃m2,m1.event (qZK dt dj ⟨ok,or,on,ov⟩ why)=m2:=⟨_,rfl⟩
  have o2:m2.ev.Ok∧m2.ev.gone≤m.ev.gone+2:=by
    have h:=qQQ o1.1 (by have:=o1.2;omega) { (qZK dt dj ⟨ok,or,on,ov⟩ why) with clock:=m1.ck.now }
    rw [← hm2]
    exact ⟨h.1,Nat.le_trans h.2 (by have:=o1.2;omega)⟩
  obtain ⟨m3,hm3⟩:∃m3,m2.event (qZZ dt dj)=m3:=⟨_,rfl⟩
  have o3:m3.ev.Ok∧m3.ev.gone≤m.ev.gone+3:=by
    have h:=qQQ o2.1 (by have:=o2.2;omega) { (qZZ dt dj) with clock:=m2.ck.now }
    rw [← hm3]
    exact ⟨h.1,Nat.le_trans h.2 (by have:=o2.2;omega)⟩
  rw [hm1]
  rw [hm2]
  rw [hm3]
  replace o0:=Lib.hid o0
  replace o1:=Lib.hid o1
  replace o2:=Lib.hid o2
  clear o3
  have v1:=fun (S':Hp) (w1:World) (X:List Pr) (h1:Hd w0 (KeL ⟨k,cl,rg,y⟩ S' (KeM.mk m.tk dp' m.ck m.ev) X) w1)=>hev S' w1 X (KeM.mk m.tk dp' m.ck m.ev) (qZu st sj) o0.out h1
  rw [hm1] at v1
  replace v1:=Lib.hid v1
  have v2:=fun (S':Hp) (w1:World) (X:List Pr) (h1:Hd w0 (KeL ⟨k,cl,rg,y⟩ S' m1 X) w1)=>hev S' w1 X m1 (qZK dt dj ⟨ok,or,on,ov⟩ why) o1.out.1 h1
  rw [hm2] at v2
  replace v2:=Lib.hid v2
  have v3:=fun (S':Hp) (w1:World) (X:List Pr) (h1:Hd w0 (KeL ⟨k,cl,rg,y⟩ S' m2 X) w1)=>hev S' w1 X m2 (qZZ dt dj) o2.out.1 h1
  rw [hm3] at v3
  replace v3:=Lib.hid v3
  replace hm1:=Lib.hid hm1
  replace hm2:=Lib.hid hm2
  replace hm3:=Lib.hid hm3
  replace hst:=Lib.hid hst
  replace hd:=Lib.hid hd
  clear hs he hg hev
  have H0:Hd w0 _ (w.alloc (.cells #[.bool false,.int .i64 0,.int .i64 0,.int .i64 0,.bool false,.int .i64 0,.int .i64 0,.int .i64 0,.int .i64 0,.int .i64 0,.int .i64 0,.int .i64 0,.bool false] 87)):=H.fol
  have k2:=(show _=some (Value.pointer (some ⟨y.d,0,none⟩)) from (H0.k k).ce 2 rfl)
  have hsc:=hst.out _ (cel w.heap.size 87 #[.bool false,.int .i64 0,.int .i64 0,.int .i64 0,.bool false,.int .i64 0,.int .i64 0,.int .i64 0,.int .i64 0,.int .i64 0,.int .i64 0,.int .i64 0,.bool false]::cel k 53 #[.pointer (some ⟨y.x.l,0,none⟩),.pointer (some ⟨y.x.t,0,none⟩),.pointer (some ⟨y.d,0,none⟩),.pointer (some ⟨cl,0,none⟩),.pointer (some ⟨rg,0,none⟩)]::qQE cl m.ck::qQT rg m.ev::R) H0.re
  clear H
  go_enter Tryz.func35,Tryz.ntmps35
  go_wp2_with fail
  refine hsc.mono ?_
  rintro e w1 ⟨rfl,S',hle,H1⟩
  clear hsc H0 k2
  have G0:Hd w0 _ (w1.alloc (.cells #[.bool true,.int .i64 sj,.int .i64 st,.int .i64 sl,.bool false,.int .i64 dj,.int .i64 dt,.int .i64 ok,.int .i64 or,.int .i64 on,.int .i64 ov,.int .i64 why,.bool true] 87)):=H1.fol
  have hf0:=(G0.k w1.heap.size).fact1
  simp only [Nat.reduceAdd] at hf0
  go_split_ands
  have c1:=v1.out S' _ (cel w1.heap.size 87 #[.bool true,.int .i64 sj,.int .i64 st,.int .i64 sl,.bool false,.int .i64 dj,.int .i64 dt,.int .i64 ok,.int .i64 or,.int .i64 on,.int .i64 ov,.int .i64 why,.bool true]::cel w.heap.size 87 #[.bool false,.int .i64 0,.int .i64 0,.int .i64 0,.bool false,.int .i64 0,.int .i64 0,.int .i64 0,.int .i64 0,.int .i64 0,.int .i64 0,.int .i64 0,.bool false]::R) G0.re
  go_wp2_with fail
  refine c1.mono ?_
  rintro e w2 ⟨rfl,G1⟩
  clear c1
  have hf1:=(G1.k w1.heap.size).fact1
  simp only [Nat.reduceAdd] at hf1
  go_split_ands
  have c2:=v2.out S' _ (cel w1.heap.size 87 #[.bool true,.int .i64 sj,.int .i64 st,.int .i64 sl,.bool false,.int .i64 dj,.int .i64 dt,.int .i64 ok,.int .i64 or,.int .i64 on,.int .i64 ov,.int .i64 why,.bool true]::cel w.heap.size 87 #[.bool false,.int .i64 0,.int .i64 0,.int .i64 0,.bool false,.int .i64 0,.int .i64 0,.int .i64 0,.int .i64 0,.int .i64 0,.int .i64 0,.int .i64 0,.bool false]::R) G1.re
  go_wp2_with fail
  refine c2.mono ?_
  rintro e w3 ⟨rfl,G2⟩
  clear c2
  have hf2:=(G2.k w1.heap.size).fact1
  simp only [Nat.reduceAdd] at hf2
  go_split_ands
  have c3:=v3.out S' _ (cel w1.heap.size 87 #[.bool true,.int .i64 sj,.int .i64 st,.int .i64 sl,.bool false,.int .i64 dj,.int .i64 dt,.int .i64 ok,.int .i64 or,.int .i64 on,.int .i64 ov,.int .i64 why,.bool true]::cel w.heap.size 87 #[.bool false,.int .i64 0,.int .i64 0,.int .i64 0,.bool false,.int .i64 0,.int .i64 0,.int .i64 0,.int .i64 0,.int .i64 0,.int .i64 0,.int .i64 0,.bool false]::R) G2.re
  go_wp2_with fail
  refine c3.mono ?_
  rintro e w4 ⟨rfl,G3⟩
  clear c3
  have hf3:=(G3.k w1.heap.size).fact1
  simp only [Nat.reduceAdd] at hf3
  go_split_ands
  go_wp2_with (first | (refine qQk (g:=w.heap.size) (cells:=didA ⟨true,⟨sj,st,sl⟩,false,⟨dj,dt,⟨ok,or,on,ov⟩,why,true⟩⟩) (G3.k w.heap.size) rfl 87 _ _ rfl rfl rfl (by kernel_rfl) rfl (qJy _) ?_;intro w9 H11))
  refine bodyPost_ret (qQC rfl _ _ w.heap.size 87 (didA ⟨true,⟨sj,st,sl⟩,false,⟨dj,dt,⟨ok,or,on,ov⟩,why,true⟩⟩) (0,0) _ (by rfl) (by exact H11.heap) Tryz.underlying87 rfl (by kernel_rfl)) rfl ⟨rfl,S',hle,?_⟩
  exact H11.re
theorem zJE (H:Hd w0 (KeL z S m R) w) (hs:DpS m.tk m.dp) (he:m.ev.Ok) (hg:m.ev.gone+4≤4611686018427387904) {sj st sl dj dt ok or on ov why:Int} {fin:Bool} {dp':DpM} (hd:m.dp.step m.tk=(⟨true,⟨sj,st,sl⟩,true,⟨dj,dt,⟨ok,or,on,ov⟩,why,fin⟩⟩,dp')) :
    Calls Tryz.prog 35 #[.pointer (some ⟨z.k,0,none⟩)] w fun e w'=>e=.returned (.agg (didA ⟨true,⟨sj,st,sl⟩,true,⟨dj,dt,⟨ok,or,on,ov⟩,why,fin⟩⟩))∧∃S',Le S S'∧Hd w0 (KeL z S' (((⟨m.tk,dp',m.ck,m.ev⟩:KeM).event (qZu st sj)).event qXV) R) w':=by
  obtain ⟨k,cl,rg,y⟩:=z
  have hst:=fun (w1:World) (X:List Pr) (h1:Hd w0 (DpL y m.tk S m.dp X) w1)=>qYR h1 hs
  rw [hd] at hst
  dsimp only at hst
  have hev:=fun (S':Hp) (w1:World) (X:List Pr) (m1:KeM) (e:EvM) (hr:m1.ev.Ok) (h1:Hd w0 (KeL ⟨k,cl,rg,y⟩ S' m1 X) w1)=>qJb h1 hr e
  have o0:(KeM.mk m.tk dp' m.ck m.ev).ev.Ok:=he
  obtain ⟨m1,hm1⟩:∃m1,(KeM.mk m.tk dp' m.ck m.ev).event (qZu st sj)=m1:=⟨_,rfl⟩
  have o1:m1.ev.Ok∧m1.ev.gone≤m.ev.gone+1:=by
    have h:=qQQ o0 (by have:=hg;dsimp only;omega) { (qZu st sj) with clock:=(KeM.mk m.tk dp' m.ck m.ev).ck.now }
    rw [← hm1]
    exact ⟨h.1,Nat.le_trans h.2 (by exact Nat.le_refl _)⟩
  obtain ⟨m2,hm2⟩:∃m2,m1.event qXV=m2:=⟨_,rfl⟩
  have o2:m2.ev.Ok∧m2.ev.gone≤m.ev.gone+2:=by
    have h:=qQQ o1.1 (by have:=o1.2;omega) { qXV with clock:=m1.ck.now }
    rw [← hm2]
    exact ⟨h.1,Nat.le_trans h.2 (by have:=o1.2;omega)⟩
  rw [hm1]
  rw [hm2]
  replace o0:=Lib.hid o0
  replace o1:=Lib.hid o1
  clear o2
  have v1:=fun (S':Hp) (w1:World) (X:List Pr) (h1:Hd w0 (KeL ⟨k,cl,rg,y⟩ S' (KeM.mk m.tk dp' m.ck m.ev) X) w1)=>hev S' w1 X (KeM.mk m.tk dp' m.ck m.ev) (qZu st sj) o0.out h1
  rw [hm1] at v1
  replace v1:=Lib.hid v1
  have v2:=fun (S':Hp) (w1:World) (X:List Pr) (h1:Hd w0 (KeL ⟨k,cl,rg,y⟩ S' m1 X) w1)=>hev S' w1 X m1 qXV o1.out.1 h1
  rw [hm2] at v2
  replace v2:=Lib.hid v2
  replace hm1:=Lib.hid hm1
  replace hm2:=Lib.hid hm2
  replace hst:=Lib.hid hst
  replace hd:=Lib.hid hd
  clear hs he hg hev
  have H0:Hd w0 _ (w.alloc (.cells #[.bool false,.int .i64 0,.int .i64 0,.int .i64 0,.bool false,.int .i64 0,.int .i64 0,.int .i64 0,.int .i64 0,.int .i64 0,.int .i64 0,.int .i64 0,.bool false] 87)):=H.fol
  have k2:=(show _=some (Value.pointer (some ⟨y.d,0,none⟩)) from (H0.k k).ce 2 rfl)
  have hsc:=hst.out _ (cel w.heap.size 87 #[.bool false,.int .i64 0,.int .i64 0,.int .i64 0,.bool false,.int .i64 0,.int .i64 0,.int .i64 0,.int .i64 0,.int .i64 0,.int .i64 0,.int .i64 0,.bool false]::cel k 53 #[.pointer (some ⟨y.x.l,0,none⟩),.pointer (some ⟨y.x.t,0,none⟩),.pointer (some ⟨y.d,0,none⟩),.pointer (some ⟨cl,0,none⟩),.pointer (some ⟨rg,0,none⟩)]::qQE cl m.ck::qQT rg m.ev::R) H0.re
  clear H
  go_enter Tryz.func35,Tryz.ntmps35
  go_wp2_with fail
  refine hsc.mono ?_
  rintro e w1 ⟨rfl,S',hle,H1⟩
  clear hsc H0 k2
  have G0:Hd w0 _ (w1.alloc (.cells #[.bool true,.int .i64 sj,.int .i64 st,.int .i64 sl,.bool true,.int .i64 dj,.int .i64 dt,.int .i64 ok,.int .i64 or,.int .i64 on,.int .i64 ov,.int .i64 why,.bool fin] 87)):=H1.fol
  have hf0:=(G0.k w1.heap.size).fact1
  simp only [Nat.reduceAdd] at hf0
  go_split_ands
  have c1:=v1.out S' _ (cel w1.heap.size 87 #[.bool true,.int .i64 sj,.int .i64 st,.int .i64 sl,.bool true,.int .i64 dj,.int .i64 dt,.int .i64 ok,.int .i64 or,.int .i64 on,.int .i64 ov,.int .i64 why,.bool fin]::cel w.heap.size 87 #[.bool false,.int .i64 0,.int .i64 0,.int .i64 0,.bool false,.int .i64 0,.int .i64 0,.int .i64 0,.int .i64 0,.int .i64 0,.int .i64 0,.int .i64 0,.bool false]::R) G0.re
  go_wp2_with fail
  refine c1.mono ?_
  rintro e w2 ⟨rfl,G1⟩
  clear c1
  have hf1:=(G1.k w1.heap.size).fact1
  simp only [Nat.reduceAdd] at hf1
  go_split_ands
  have c2:=v2.out S' _ (cel w1.heap.size 87 #[.bool true,.int .i64 sj,.int .i64 st,.int .i64 sl,.bool true,.int .i64 dj,.int .i64 dt,.int .i64 ok,.int .i64 or,.int .i64 on,.int .i64 ov,.int .i64 why,.bool fin]::cel w.heap.size 87 #[.bool false,.int .i64 0,.int .i64 0,.int .i64 0,.bool false,.int .i64 0,.int .i64 0,.int .i64 0,.int .i64 0,.int .i64 0,.int .i64 0,.int .i64 0,.bool false]::R) G1.re
  go_wp2_with fail
  refine c2.mono ?_
  rintro e w3 ⟨rfl,G2⟩
  clear c2
  have hf2:=(G2.k w1.heap.size).fact1
  simp only [Nat.reduceAdd] at hf2
  go_split_ands
  go_wp2_with (first | (refine qQk (g:=w.heap.size) (cells:=didA ⟨true,⟨sj,st,sl⟩,true,⟨dj,dt,⟨ok,or,on,ov⟩,why,fin⟩⟩) (G2.k w.heap.size) rfl 87 _ _ rfl rfl rfl (by kernel_rfl) rfl (qJy _) ?_;intro w9 H11))
  refine bodyPost_ret (qQC rfl _ _ w.heap.size 87 (didA ⟨true,⟨sj,st,sl⟩,true,⟨dj,dt,⟨ok,or,on,ov⟩,why,fin⟩⟩) (0,0) _ (by rfl) (by exact H11.heap) Tryz.underlying87 rfl (by kernel_rfl)) rfl ⟨rfl,S',hle,?_⟩
  exact H11.re
end
end
end Go.Proofs.YtkchopnkdjnocaaGreatDoor
