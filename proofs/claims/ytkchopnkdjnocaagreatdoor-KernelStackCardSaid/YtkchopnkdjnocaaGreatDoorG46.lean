/-
  Merged texts of one proof: Ke5, Ke6, Ke7, Ke8, InvT, KeT, InvE, Ke9.
-/
import Derived.Test.YtkchopnkdjnocaaGreatDoorG07
import Derived.Test.YtkchopnkdjnocaaGreatDoorG24
import Derived.Test.YtkchopnkdjnocaaGreatDoorG30
import Derived.Test.YtkchopnkdjnocaaGreatDoorG33
import Derived.Test.YtkchopnkdjnocaaGreatDoorG35
import Derived.Test.YtkchopnkdjnocaaGreatDoorG39
import Derived.Test.YtkchopnkdjnocaaGreatDoorG40
import Derived.Test.YtkchopnkdjnocaaGreatDoorG42
import Derived.Test.YtkchopnkdjnocaaGreatDoorG43
import Derived.Test.YtkchopnkdjnocaaGreatDoorG44
import Derived.Test.YtkchopnkdjnocaaGreatDoorG45

set_option maxHeartbeats 16000000
set_option maxRecDepth 20000
namespace Go.Proofs.YtkchopnkdjnocaaGreatDoor
section
open Go.RowKit Spl
def KeM.register (m:KeM) (x:qQY):KeM:=if m.checkE x=0 then KeM.event ⟨m.tk.added x,m.dp,m.ck.add x.p x.f x.g,m.ev⟩ (qKa m.tk.rows.length) else m
theorem qZL {m:KeM} {x:qQY} (h:m.checkE x=0):qQO m.tk x=0:=by
  unfold KeM.checkE at h
  split at h
  · split at h
    · cases h
    · exact h
  · exact h
section
variable {w0 w:World} {R:List Pr} {S:Hp} {z:KeV} {m:KeM}
theorem qWN [Lay w0 R] (H:Hd w0 (KeL z S m R) w) (h:KeC m) (x:qQY) {nv:Value} (hs:Srg w0 R nv x.needs) (hL:x.needs.length≤100000) :
    Calls Tryz.prog 21 #[.pointer (some ⟨z.k,0,none⟩),qYL x nv] w fun e w'=>e=.returned (.int .i64 (m.checkE x))∧Hd w0 (KeL z S m R) w':=by
  unfold KeM.checkE
  by_cases h0:qQO m.tk x=0
  · rw [if_pos (.inl h0),h0]
    exact zZb H h x hs hL h0
  · by_cases h25:qQO m.tk x=25
    · rw [if_pos (.inr h25),h25]
      exact qq6 H h x hs hL h25
    · rw [if_neg (by omega)]
      exact zZN H h x hs hL rfl h0 h25
theorem qW2 [Lay w0 R] (H:Hd w0 (KeL z S m R) w) (h:KeC m) (x:qQY) {nv:Value} (hs:Srg w0 R nv x.needs) (hL:x.needs.length≤100000) {E:Int} (hE:m.checkE x=E) (h0:¬E=0) :
    Calls Tryz.prog 22 #[.pointer (some ⟨z.k,0,none⟩),qYL x nv] w fun e w'=>e=.returned (.tuple #[.int .i64 (-1),.int .i64 E])∧Hd w0 (KeL z S m R) w':=by
  obtain ⟨a,c,hv⟩:=hs.form
  subst hv
  have H0:Hd w0 _ (w.alloc (.cells #[.string x.nm,.int .i64 x.lv,.int .i64 x.fr,.slice a x.needs.length c,.string x.cd,.int .i64 x.p,.int .i64 x.f,.int .i64 x.g] 36)):=H.fol
  have H1:Hd w0 (KeL z S m (cel w.heap.size 36 #[.string x.nm,.int .i64 x.lv,.int .i64 x.fr,.slice a x.needs.length c,.string x.cd,.int .i64 x.p,.int .i64 x.f,.int .i64 x.g]::R)) _:=H0.re
  have hc:=qWN H1 h x (hs.of fun h=>by exact (Hd.re h:Hd w0 R _)) hL
  rw [hE] at hc
  have hf:=(H0.k w.heap.size).fact1
  simp only [Nat.reduceAdd] at hf
  go_split_ands
  replace hs:=Lib.hid hs
  replace hE:=Lib.hid hE
  go_enter Tryz.func22,Tryz.ntmps22
  go_wp2_with fail
  refine hc.mono ?_
  rintro e w1 ⟨rfl,H2⟩
  clear hc
  go_wp2_with fail
  go_ret2
  exact ⟨rfl,H2.re⟩
theorem qWG [Lay w0 R] (H:Hd w0 (KeL z S m R) w) (h:KeC m) (hk:KeR m) (x:qQY) {nv:Value} (hs:Srg w0 R nv x.needs) (hL:x.needs.length≤100000) (hE:m.checkE x=0) :
    Calls Tryz.prog 22 #[.pointer (some ⟨z.k,0,none⟩),qYL x nv] w fun e w'=>e=.returned (.tuple #[.int .i64 m.tk.rows.length,.int .i64 0])∧∃S',Le S S'∧Hd w0 (KeL z S' (KeM.event ⟨m.tk.added x,m.dp,m.ck.add x.p x.f x.g,m.ev⟩ (qKa m.tk.rows.length)) R) w':=by
  obtain ⟨k,cl,rg,y⟩:=z
  obtain ⟨a,c,hv⟩:=hs.form
  subst hv
  have H0:Hd w0 _ (w.alloc (.cells #[.string x.nm,.int .i64 x.lv,.int .i64 x.fr,.slice a x.needs.length c,.string x.cd,.int .i64 x.p,.int .i64 x.f,.int .i64 x.g] 36)):=H.fol
  have H1:Hd w0 (KeL ⟨k,cl,rg,y⟩ S m (cel w.heap.size 36 #[.string x.nm,.int .i64 x.lv,.int .i64 x.fr,.slice a x.needs.length c,.string x.cd,.int .i64 x.p,.int .i64 x.f,.int .i64 x.g]::R)) _:=H0.re
  have hc:=qWN H1 h x (hs.of fun h=>by exact (Hd.re h:Hd w0 R _)) hL
  rw [hE] at hc
  have hct:=qZL hE
  have hadd:=fun (w1:World) (h1:Hd w0 (TkP y.x.t m.tk S::ro S::cel w.heap.size 36 #[.string x.nm,.int .i64 x.lv,.int .i64 x.fr,.slice a x.needs.length c,.string x.cd,.int .i64 x.p,.int .i64 x.f,.int .i64 x.g]::cel k 53 #[.pointer (some ⟨y.x.l,0,none⟩),.pointer (some ⟨y.x.t,0,none⟩),.pointer (some ⟨y.d,0,none⟩),.pointer (some ⟨cl,0,none⟩),.pointer (some ⟨rg,0,none⟩)]::qQE cl m.ck::qQT rg m.ev::cel y.d 123 #[.pointer (some ⟨y.x.l,0,none⟩),.pointer (some ⟨y.x.t,0,none⟩),.pointer (some ⟨y.c,0,none⟩),.pointer (some ⟨y.q,0,none⟩),.int .i64 m.dp.count]::cel y.c 194 (qQj y.c y.x.l)::LkP y.x S m.dp.co::WqP y.q m.dp.wq::R) w1)=>zKJ h1 h.t x (hs.of fun h=>by exact (Hd.re h:Hd w0 R _)) hL hct
  have hca:=fun (w1:World) (X:List Pr) (h1:Hd w0 (qQE cl m.ck::X) w1)=>zXl h1 hk.k x.nm x.lv x.fr a x.needs.length c x.cd x.p x.f x.g
  have hev:=fun (S':Hp) (w1:World) (X:List Pr) (h1:Hd w0 (KeL ⟨k,cl,rg,y⟩ S' ⟨m.tk.added x,m.dp,m.ck.add x.p x.f x.g,m.ev⟩ X) w1)=>qJb h1 hk.e (qKa m.tk.rows.length)
  have hf:=(H0.k w.heap.size).fact1
  simp only [Nat.reduceAdd] at hf
  go_split_ands
  replace hs:=Lib.hid hs
  replace hE:=Lib.hid hE
  replace hct:=Lib.hid hct
  replace hadd:=Lib.hid hadd
  replace hca:=Lib.hid hca
  replace hev:=Lib.hid hev
  clear H H0 H1
  go_enter Tryz.func22,Tryz.ntmps22
  go_wp2_with fail
  refine hc.mono ?_
  rintro e w1 ⟨rfl,H2⟩
  clear hc
  have H2d:Hd w0 (TkP y.x.t m.tk S::ro S::cel w.heap.size 36 #[.string x.nm,.int .i64 x.lv,.int .i64 x.fr,.slice a x.needs.length c,.string x.cd,.int .i64 x.p,.int .i64 x.f,.int .i64 x.g]::cel k 53 #[.pointer (some ⟨y.x.l,0,none⟩),.pointer (some ⟨y.x.t,0,none⟩),.pointer (some ⟨y.d,0,none⟩),.pointer (some ⟨cl,0,none⟩),.pointer (some ⟨rg,0,none⟩)]::qQE cl m.ck::qQT rg m.ev::cel y.d 123 #[.pointer (some ⟨y.x.l,0,none⟩),.pointer (some ⟨y.x.t,0,none⟩),.pointer (some ⟨y.c,0,none⟩),.pointer (some ⟨y.q,0,none⟩),.int .i64 m.dp.count]::cel y.c 194 (qQj y.c y.x.l)::LkP y.x S m.dp.co::WqP y.q m.dp.wq::R) w1.drew:=H2.drew.re
  have hac:=hadd.out _ H2d
  go_wp2_with fail
  refine wm 10 [(0,true),(1,true),(2,true),(3,true),(4,true),(5,false),(6,true),(7,true),(8,true),(9,true)] (fun w'=>w'.cell? ⟨k,1,none⟩=some (.pointer (some ⟨y.x.t,0,none⟩))∧w'.cell? ⟨w.heap.size,0,none⟩=some (.string x.nm)∧w'.cell? ⟨w.heap.size,1,none⟩=some (.int .i64 x.lv)∧w'.cell? ⟨w.heap.size,2,none⟩=some (.int .i64 x.fr)∧w'.cell? ⟨w.heap.size,3,none⟩=some (.slice a x.needs.length c)∧w'.cell? ⟨w.heap.size,4,none⟩=some (.string x.cd)∧w'.cell? ⟨w.heap.size,5,none⟩=some (.int .i64 x.p)∧w'.cell? ⟨w.heap.size,6,none⟩=some (.int .i64 x.f)∧w'.cell? ⟨w.heap.size,7,none⟩=some (.int .i64 x.g)) (⟨(show _=some _ from (H2d.k k).ce 1 rfl),(show _=some _ from (H2d.k w.heap.size).ce 0 rfl),(show _=some _ from (H2d.k w.heap.size).ce 1 rfl),(show _=some _ from (H2d.k w.heap.size).ce 2 rfl),(show _=some _ from (H2d.k w.heap.size).ce 3 rfl),(show _=some _ from (H2d.k w.heap.size).ce 4 rfl),(show _=some _ from (H2d.k w.heap.size).ce 5 rfl),(show _=some _ from (H2d.k w.heap.size).ce 6 rfl),(show _=some _ from (H2d.k w.heap.size).ce 7 rfl)⟩) ?_
  simp only [List.drop_succ_cons,List.drop_zero]
  iterate 5 (refine mh ?_;(try simp only [Act.put,List.setIfInBounds_toArray,List.set_cons_zero,List.set_cons_succ]))
  refine mm ?_
  go_wp2_with fail
  refine hac.mono ?_
  rintro e w2 ⟨rfl,S',hle,H3⟩
  clear hac
  go_wp2_with fail
  refine qQd ⟨(show _=some _ from (H3.k k).ce 1 rfl),(show _=some _ from (H3.k w.heap.size).ce 0 rfl),(show _=some _ from (H3.k w.heap.size).ce 1 rfl),(show _=some _ from (H3.k w.heap.size).ce 2 rfl),(show _=some _ from (H3.k w.heap.size).ce 3 rfl),(show _=some _ from (H3.k w.heap.size).ce 4 rfl),(show _=some _ from (H3.k w.heap.size).ce 5 rfl),(show _=some _ from (H3.k w.heap.size).ce 6 rfl),(show _=some _ from (H3.k w.heap.size).ce 7 rfl)⟩ ?_
  iterate 4 (refine mh ?_;(try simp only [Act.put,List.setIfInBounds_toArray,List.set_cons_zero,List.set_cons_succ]))
  refine qQe ?_
  (try dsimp only)
  have H3d:=H3.drew
  have hcc:=hca.out _ _ (H3d.k cl)
  go_wp2_with fail
  refine wm 5 [(0,true),(1,true),(2,true),(3,true),(4,true)] (fun w'=>w'.cell? ⟨k,3,none⟩=some (.pointer (some ⟨cl,0,none⟩))∧w'.cell? ⟨w.heap.size,0,none⟩=some (.string x.nm)∧w'.cell? ⟨w.heap.size,1,none⟩=some (.int .i64 x.lv)∧w'.cell? ⟨w.heap.size,2,none⟩=some (.int .i64 x.fr)∧w'.cell? ⟨w.heap.size,3,none⟩=some (.slice a x.needs.length c)∧w'.cell? ⟨w.heap.size,4,none⟩=some (.string x.cd)∧w'.cell? ⟨w.heap.size,5,none⟩=some (.int .i64 x.p)∧w'.cell? ⟨w.heap.size,6,none⟩=some (.int .i64 x.f)∧w'.cell? ⟨w.heap.size,7,none⟩=some (.int .i64 x.g)) (⟨(show _=some _ from (H3d.k k).ce 3 rfl),(show _=some _ from (H3d.k w.heap.size).ce 0 rfl),(show _=some _ from (H3d.k w.heap.size).ce 1 rfl),(show _=some _ from (H3d.k w.heap.size).ce 2 rfl),(show _=some _ from (H3d.k w.heap.size).ce 3 rfl),(show _=some _ from (H3d.k w.heap.size).ce 4 rfl),(show _=some _ from (H3d.k w.heap.size).ce 5 rfl),(show _=some _ from (H3d.k w.heap.size).ce 6 rfl),(show _=some _ from (H3d.k w.heap.size).ce 7 rfl)⟩) ?_
  simp only [List.drop_succ_cons,List.drop_zero]
  iterate 5 (refine mh ?_;(try simp only [Act.put,List.setIfInBounds_toArray,List.set_cons_zero,List.set_cons_succ]))
  refine qQe ?_
  (try dsimp only)
  go_wp2_with fail
  refine hcc.mono ?_
  rintro e w3 ⟨rfl,H4⟩
  clear hcc H3 H3d
  have H5:=LkP.mono (H4.b9) hle
  have hec:=hev.out S' _ (cel w.heap.size 36 #[.string x.nm,.int .i64 x.lv,.int .i64 x.fr,.slice a x.needs.length c,.string x.cd,.int .i64 x.p,.int .i64 x.f,.int .i64 x.g]::R) H5.re
  go_wp2_with fail
  refine hec.mono ?_
  rintro e w4 ⟨rfl,H6⟩
  clear hec
  go_wp2_with fail
  go_ret2
  exact ⟨rfl,S',hle,H6.re⟩
theorem qqT [Lay w0 R] (H:Hd w0 (KeL z S m R) w) (h:KeC m) (hk:KeR m) (x:qQY) {nv:Value} (hs:Srg w0 R nv x.needs) (hL:x.needs.length≤100000) :
    Calls Tryz.prog 22 #[.pointer (some ⟨z.k,0,none⟩),qYL x nv] w fun e w'=>e=.returned (.tuple #[.int .i64 (if m.checkE x=0 then m.tk.rows.length else -1),.int .i64 (m.checkE x)])∧∃S',Le S S'∧Hd w0 (KeL z S' (m.register x) R) w':=by
  unfold KeM.register
  by_cases h0:m.checkE x=0
  · rw [if_pos h0,if_pos h0,h0]
    exact qWG H h hk x hs hL h0
  · rw [if_neg h0,if_neg h0]
    refine (qW2 H h x hs hL rfl h0).mono ?_
    rintro e w1 ⟨rfl,H1⟩
    exact ⟨rfl,S,Le.refl S,H1⟩
end
end
section
open Go.RowKit Spl
def KeM.step (m:KeM):DidM × KeM :=
  let d:=(m.dp.step m.tk).1
  let m1:KeM:=⟨m.tk,(m.dp.step m.tk).2,m.ck,m.ev⟩
  let m2:=if d.started then m1.event (qZu d.start.task d.start.job) else m1
  (d,if d.idle then m2.event qXV else
    if d.done.fin then (m2.event (qZK d.done.task d.done.job d.done.op d.done.why)).event (qZZ d.done.task d.done.job) else m2.event (qZK d.done.task d.done.job d.done.op d.done.why))
theorem qUZ {words:Int} {units:List Int} (hc:qJA words units=0):TkM.Ok ⟨words,units,[],[]⟩:=by
  unfold qJA at hc
  by_cases h1:words<0∨65536<words
  · rw [if_pos h1] at hc;cases hc
  · rw [if_neg h1] at hc
    by_cases h2:(16:Int)<units.length
    · rw [if_pos h2] at hc;cases hc
    · rw [if_neg h2] at hc
      by_cases h3:units.all (fun x=>decide (1≤x) && decide (x≤255))=true
      · refine ⟨by dsimp only;omega,by dsimp only;omega,fun x hx=>by simpa using (List.all_eq_true.1 h3 x hx),by simp,?_,?_,?_,?_,.nil,rfl⟩
        all_goals (intro r hr;cases hr)
      · rw [if_neg h3] at hc;cases hc
section
variable {w0 w:World} {R:List Pr} {S:Hp} {z:KeV} {m:KeM}
theorem zZ6 (H:Hd w0 (KeL z S m R) w) (hs:DpS m.tk m.dp) (he:m.ev.Ok) (hg:m.ev.gone+4≤4611686018427387904) :
    Calls Tryz.prog 35 #[.pointer (some ⟨z.k,0,none⟩)] w fun e w'=>e=.returned (.agg (didA m.step.1))∧∃S',Le S S'∧Hd w0 (KeL z S' m.step.2 R) w':=by
  obtain ⟨⟨d,dp'⟩,hd⟩:∃d,m.dp.step m.tk=d:=⟨_,rfl⟩
  unfold KeM.step
  rw [hd]
  obtain ⟨st,⟨sj,st2,sl⟩,idl,⟨dj,dt,⟨ok,or,on,ov⟩,why,fin⟩⟩:=d
  cases st <;> cases idl
  · cases fin
    · exact zJt H hs he hg hd
    · exact zJi H hs he hg hd
  · exact zJF H hs he hg hd
  · cases fin
    · exact zJl H hs he hg hd
    · exact zJk H hs he hg hd
  · exact zJE H hs he hg hd
theorem zXI (H:Hd w0 (ro S::R) w) {words:Int} {units:List Int} {v:Value} (hs:Srg w0 (ro S::R) v units) (hc:qJA words units=0) :
    Calls Tryz.prog 28 #[.agg #[.int .i64 words,v]] w fun e w'=>∃z:KeV,e=.returned (.tuple #[.pointer (some ⟨z.k,0,none⟩),.int .i64 0])∧Hd w0 (KeL z S (KeM.new words units) R) w':=by
  obtain ⟨a,c,hv⟩:=hs.form
  subst hv
  have htk:TkM.Ok ⟨words,units,[],[]⟩:=qUZ hc
  have H0:Hd w0 _ (w.alloc (.cells #[.int .i64 words,.slice a units.length c] 24)):=H.fol
  have h1:=zXR (S:=S) H0 (hs.of fun h=>by exact (Hd.re h:Hd w0 (ro S::R) _)) hc
  have hf:=H0.facts
  simp only [Nat.reduceAdd] at hf
  go_split_ands
  have hdp:=fun (t:Nat) (w1:World) (X:List Pr) (h:Hd w0 (TkP t ⟨words,units,[],[]⟩ S::ro S::X) w1)=>zKy h htk
  replace hdp:=Lib.hid hdp
  replace htk:=Lib.hid htk
  replace hs:=Lib.hid hs
  go_enter Tryz.func28,Tryz.ntmps28
  go_wp2_with fail
  refine h1.mono ?_
  rintro e w1 ⟨t,rfl,H1⟩
  clear h1 H0
  have h2:=hdp.out t _ (cel w.heap.size 24 #[.int .i64 words,.slice a units.length c]::R) H1.re
  go_wp2_with fail
  refine h2.mono ?_
  rintro e w2 ⟨y,hy,rfl,H2⟩
  clear h2 H1
  have h3:=zJZ H2
  go_wp2_with fail
  refine h3.mono ?_
  rintro e w3 ⟨rg,rfl,H3⟩
  clear h3 H2
  have h4:=fun (w1:World) (X:List Pr) (h:Hd w0 X w1)=>(show Calls Tryz.prog 60 #[] w1 (fun e w'=>∃c,e=.returned (.pointer (some ⟨c,0,none⟩))∧Hd w0 (qQE c ⟨0,[]⟩::X) w') from zXa h)
  replace h4:=h4 _ _ H3.drew
  have k0:=(show _=some (Value.pointer (some ⟨y.x.l,0,none⟩)) from (H3.drew.k y.d).ce 0 rfl)
  go_wp2_with fail
  refine wm 8 [(0,true),(1,true),(2,true),(3,true),(4,true),(5,true),(7,true),(6,false)] (fun w'=>w'.cell? ⟨y.d,0,none⟩=some (.pointer (some ⟨y.x.l,0,none⟩))) (k0) ?_
  simp only [List.drop_succ_cons,List.drop_zero]
  iterate 7 (refine mh ?_;(try simp only [Act.put,List.setIfInBounds_toArray,List.set_cons_zero,List.set_cons_succ]))
  refine mm ?_
  go_wp2_with fail
  refine h4.mono ?_
  rintro e w4 ⟨cl,rfl,H4⟩
  clear h4
  go_wp2_with fail
  refine qQd (show _=some (Value.pointer (some ⟨y.x.l,0,none⟩)) from (H4.k y.d).ce 0 rfl) ?_
  refine qQe ?_
  (try dsimp only)
  go_wp2_with fail
  go_ret2
  refine ⟨⟨w4.heap.size,cl,rg,y⟩,rfl,?_⟩
  subst hy
  have H5:Hd w0 _ (w4.alloc (.cells #[.pointer (some ⟨y.x.l,0,none⟩),.pointer (some ⟨y.x.t,0,none⟩),.pointer (some ⟨y.d,0,none⟩),.pointer (some ⟨cl,0,none⟩),.pointer (some ⟨rg,0,none⟩)] 53)):=H4.fol
  have H6:Hd w0 (cel w4.heap.size 53 #[.pointer (some ⟨y.x.l,0,none⟩),.pointer (some ⟨y.x.t,0,none⟩),.pointer (some ⟨y.d,0,none⟩),.pointer (some ⟨cl,0,none⟩),.pointer (some ⟨rg,0,none⟩)]::qQE cl ⟨0,[]⟩::qQT rg ⟨[],4096,0⟩::DpL y ⟨words,units,[],[]⟩ S (DpM.new ⟨words,units,[],[]⟩) R) _:=H5.re
  exact H6
end
end
section
open Go.RowKit Spl
section
variable {w0 w:World} {R:List Pr} {S:Hp} {z:KeV} {m:KeM}
theorem zZz {b:Nat} {r:qX0} (H:Hd w0 (qQT b r::R) w) (hm:r.Ok) :
    Calls Tryz.prog 71 #[.pointer (some ⟨b,0,none⟩)] w fun e w'=>∃v,e=.returned v∧Hd w0 (SlE 96 v r.l::qQT b r::R) w':=by
  obtain ⟨v,f,gar,hq,H1⟩:=qQT.opened H
  have h1:=hm.l
  have h2:=hm.m1
  have hc:=zZT (o:=0) H1 rfl rfl hq.gar (by have:=hq.le;omega) (by omega)
  replace hq:=Lib.hid hq
  go_enter Tryz.func71,Tryz.ntmps71
  go_wp2_with fail
  refine hc.mono ?_
  rintro e w1 ⟨g,rfl,H2⟩
  clear hc
  go_wp2_with fail
  go_ret
  refine ⟨_,rfl,?_⟩
  have H3:=H2.slc_mk
  exact (qQT.shut H3.d3 hq.out).b2
theorem zZR (H:Hd w0 (KeL z S m R) w) (hr:m.ev.Ok) :
    Calls Tryz.prog 40 #[.pointer (some ⟨z.k,0,none⟩)] w fun e w'=>∃v,e=.returned v∧Hd w0 (SlE 96 v m.ev.l::KeL z S m R) w':=by
  obtain ⟨k,cl,rg,y⟩:=z
  have hc:=zZz (H.k rg) hr
  have k4:=(show _=some (Value.pointer (some ⟨rg,0,none⟩)) from (H.k k).ce 4 rfl)
  go_enter Tryz.func40,Tryz.ntmps40
  go_wp2_with fail
  refine hc.mono ?_
  rintro e w1 ⟨v,rfl,H2⟩
  clear hc
  go_wp2_with fail
  go_ret
  exact ⟨v,rfl,H2.re⟩
theorem zQ7 (H:Hd w0 (KeL z S m R) w) :
    Calls Tryz.prog 41 #[.pointer (some ⟨z.k,0,none⟩)] w fun e w'=>e=.returned (.int .i64 m.ev.gone)∧w=w':=by
  obtain ⟨k,cl,rg,y⟩:=z
  have hc:=qUe (H.k rg)
  have k4:=(show _=some (Value.pointer (some ⟨rg,0,none⟩)) from (H.k k).ce 4 rfl)
  go_enter Tryz.func41,Tryz.ntmps41
  go_wp2_with fail
  refine hc.mono ?_
  rintro e w1 ⟨rfl,rfl⟩
  clear hc
  go_wp2_with fail
  go_ret
  exact ⟨rfl,rfl⟩
end
end
section
open Go.RowKit Spl
attribute [local go_sem] Oper.semAt_some
def KeM.left (m:KeM):Int:=m.dp.left m.tk
section
variable {w0 w:World} {R:List Pr} {S:Hp} {m:KeM} {z:KeV}
theorem zXY (H:Hd w0 (KeL z S m R) w) (ht:m.tk.Ok) (hq:m.dp.wq.Ok) (hn:m.dp.co.jobs.length≤1000) (hj:∀j∈m.dp.co.jobs,LOk m.tk j.task j.pos) (hw:∀x∈qZJ m.dp.wq.qs,LOk m.tk x.task 0) :
    Calls Tryz.prog 39 #[.pointer (some ⟨z.k,0,none⟩)] w fun e w'=>e=.returned (.int .i64 m.left)∧Hd w0 (KeL z S m R) w':=by
  obtain ⟨k,cl,rg,y⟩:=z
  have hc:=zXm (show Hd w0 (DpL y m.tk S m.dp (cel k 53 #[.pointer (some ⟨y.x.l,0,none⟩),.pointer (some ⟨y.x.t,0,none⟩),.pointer (some ⟨y.d,0,none⟩),.pointer (some ⟨cl,0,none⟩),.pointer (some ⟨rg,0,none⟩)]::qQE cl m.ck::qQT rg m.ev::R)) w from H.re) ht hq hn hj hw
  have k4:=(show _=some (Value.pointer (some ⟨y.d,0,none⟩)) from (H.k k).ce 2 rfl)
  clear H
  go_enter Tryz.func39,Tryz.ntmps39
  go_wp2_with fail
  refine hc.mono ?_
  rintro e w1 ⟨rfl,H1⟩
  clear hc
  go_wp2_with fail
  go_ret
  exact ⟨rfl,H1.re⟩
theorem qJ1 {P:Program} {ops:Array Oper} {rest:List Oper} {o:Oper} {a:Act} {Q:Exit→Act→World→Prop} (hg:o.guard=none) (t:TypeId) (x:Operand) (i:Nat) (ho:o.op=.field t x i) (v:Value)
    (hv:(Instr.field t (a.eval x) i).run P w=.ok v w) (h:wpList P ops Q rest (a.put o.dst v) w):wpList P ops Q (o::rest) a w:=by
  refine wpList_plain hg fun K hK=>?_
  unfold Oper.wp execOp
  simp only [ho]
  have e:∀(m:Sem Value),m.run P w=.ok v w→Sem.run P (do let y ← m;pure (Next.value y)) w=.ok (.value v) w:=by
    intro m hm
    simp [hm,Result.andThen]
  have h2:=e _ hv
  show Oper.upon P o a K Q _
  rw [h2]
  exact hK _ _ h
def KeM.run:Nat→KeM→Nat × KeM
  | 0,m=>(0,m)
  | n+1,m=>if m.step.1.idle then (0,m.step.2) else ((m.step.2.run n).1+1,(m.step.2.run n).2)
theorem zKu {n i:Nat} (P:Nat→KeM→Prop) (hP:∀k m,k<i+n→P k m→DpS m.tk m.dp∧m.ev.Ok∧m.ev.gone+4≤4611686018427387904) (hS:∀k m,k<i+n→P k m→P (k+1) m.step.2) (H:Hd w0 (KeL z S m R) w) (hm:P i m) (hn:n≤4096) :
    Calls Tryz.prog 37 #[.pointer (some ⟨z.k,0,none⟩),.int .i64 n] w fun e w'=>e=.returned (.tuple #[.int .i64 (m.run n).1,.int .i64 0])∧∃S',Le S S'∧Hd w0 (KeL z S' (m.run n).2 R) w':=by
  have n1:¬(n:Int)<0:=by omega
  have n2:¬(4096:Int)<n:=by omega
  obtain ⟨T,hT⟩:∃T,m.run n=T:=⟨_,rfl⟩
  rw [hT]
  go_enter Tryz.func37,Tryz.ntmps37
  go_wp2_with fail
  go_loopw [14] (fun y wr=>∃(k:Nat) (mk:KeM) (Sk:Hp),k≤n∧y=.int .i64 k∧T=((mk.run (n-k)).1+k,(mk.run (n-k)).2)∧P (i+k) mk∧Le S Sk∧Hd w0 (KeL z Sk mk R) wr) (fun y _=>n-(intOf y).toNat)
  case atStart=>exact ⟨0,m,S,Nat.zero_le _,rfl,hT.symm,hm,fun _ _ h=>h,H⟩
  case round =>
    obtain ⟨k,mk,Sk,hk,rfl,hTk,hPk,hle,H1⟩:=hrel
    clear H hT
    by_cases hlt:k<n
    · obtain ⟨p1,p2,p3⟩:=hP _ _ (by omega) hPk
      have hst:=zZ6 H1 p1 p2 p3
      have hPn:=hS _ _ (by omega) hPk
      obtain ⟨q,hq⟩:∃q,n-k=q+1:=⟨n-k-1,by omega⟩
      rw [hq] at hTk
      unfold KeM.run at hTk
      obtain ⟨⟨D,m2⟩,hD⟩:∃D,mk.step=D:=⟨_,rfl⟩
      rw [hD] at hTk hPn hst
      dsimp only at hTk hPn hst
      have n3:(k:Int)<n:=by omega
      have g6:IntKind.i64.wrap ((k:Int)+1)=(k:Int)+1:=IntWalk.i64_in _ (by omega)
      clear p1 p2 p3 H1 hD hPk
      obtain ⟨ds,dw,di,dd⟩:=D
      dsimp only at hTk hst
      cases di
      · rw [if_neg (by simp)] at hTk
        replace hTk:=Lib.hid hTk
        replace hPn:=Lib.hid hPn
        replace hq:=Lib.hid hq
        go_wp2_with fail
        refine hst.mono ?_
        rintro e w1 ⟨rfl,S2,hle2,H2⟩
        clear hst
        (try dsimp only [didA])
        go_wp2_with (refine qJ1 rfl _ _ _ rfl (.bool false) rfl ?_)
        go_roundw
        case rel=>exact ⟨k+1,m2,S2,by omega,by simp,by rw [hTk.out,show n-(k+1)=q by have:=hq.out;omega];simp;omega,by rw [← Nat.add_assoc];exact hPn.out,fun _ _ h=>hle2 _ _ (hle _ _ h),H2⟩
        case measure=>simp [intOf];omega
      · rw [if_pos rfl] at hTk
        subst hTk
        go_wp2_with fail
        refine hst.mono ?_
        rintro e w1 ⟨rfl,S2,hle2,H2⟩
        clear hst
        (try dsimp only [didA])
        go_wp2_with (refine qJ1 rfl _ _ _ rfl (.bool true) rfl ?_)
        go_ret2
        exact ⟨by simp,S2,fun _ _ h=>hle2 _ _ (hle _ _ h),H2⟩
    · obtain rfl:k=n:=by omega
      rw [Nat.sub_self] at hTk
      unfold KeM.run at hTk
      subst hTk
      go_wp2_with fail
      go_ret2
      exact ⟨by simp,Sk,hle,H1⟩
end
end
section
open Go.RowKit Spl
structure TkI (tk:TkM):Prop where
  t:tk.Ok
  st:∀r∈tk.rows,qJq r.steps
  b:qQ1 tk.rows≤tk.words
theorem qJS {m:TkM} {x:qQY} (h:qQO m x=0):(qQB x.cd).2=0∧qJf x.nm=true∧qQs m.names x.nm=none∧((1≤x.lv∧x.lv≤32)∧0≤x.fr∧x.fr≤4096)∧qQG x.p x.f x.g=true∧qZp m.units x.needs none=0∧m.rows.length<64∧qXg m.rows x.lv x.fr≤m.words:=by
  unfold qQO at h
  split at h
  · rename_i h1
    split at h
    · rename_i h2
      split at h
      · cases h
      · rename_i h3
        split at h
        · cases h
        · rename_i h4
          split at h
          · rename_i h5
            split at h
            · cases h
            · rename_i h6
              split at h
              · cases h
              · rename_i h7
                refine ⟨h1,h2,?_,by omega,?_,h5,by omega,by omega⟩
                · cases hr:qQs m.names x.nm with
                  | none=>rfl
                  | some y=>rw [hr] at h3;simp at h3
                · cases ht:qQG x.p x.f x.g with
                  | true=>rfl
                  | false=>exact absurd (.inr (.inr (.inr (.inr ht)))) h4
          · rename_i h5;exact absurd h h5
    · cases h
  · rename_i h1;exact absurd h h1
theorem qWj {u:List Int}:∀ {l:List qZy} {pr:Option Int} (_:qZp u l pr=0),(∀x∈l,0≤x.res∧x.res<u.length∧1≤x.units∧x.units≤u[x.res.toNat]?.getD 0)∧(l.length:Int)≤u.length∧(∀p,pr=some p→0≤p→p<u.length→(l.length:Int)+p+1≤u.length)
  | [],pr,h=>⟨fun x hx=>(by cases hx),(by simp),fun p _ _ _=>(by simp;omega)⟩
  | x::l,pr,h=>by
    rw [qZ9] at h
    split at h
    · cases h
    · rename_i h1
      have h2:qZp u l (some x.res)=0∧(∀p,pr=some p→p<x.res):=by
        cases pr with
        | none=>exact ⟨by simpa using h,fun p hp=>(by cases hp)⟩
        | some p =>
          by_cases hle:x.res≤p
          · simp [hle] at h
          · exact ⟨by simpa [hle] using h,fun q hq=>(by injection hq with hq;omega)⟩
      obtain ⟨a,b,c⟩:=qWj (l:=l) h2.1
      have h3:=c x.res rfl (by omega) (by omega)
      refine ⟨fun y hy=>?_,by rw [List.length_cons];push_cast;omega,fun p hp _ _=>?_⟩
      · rcases List.mem_cons.1 hy with rfl | hy
        · omega
        · exact a y hy
      · have:=h2.2 p hp
        rw [List.length_cons];push_cast;omega
theorem qqP {p:List OpM}:(qZj p).1.length≤4096:=by
  unfold qZj
  split
  · split
    · simp
    · unfold qZ0
      have h:=qXP (p:=p) (ends:=qQ6 p) (p.length+1) 0 p.length ⟨[],false⟩ (by simp)
      split
      · exact qJv h
      · exact h
  · simp
theorem qV8 {s:ByteArray} (h:(qQB s).2=0):qJq (qQB s).1∧(qQB s).1.length≤4096:=by
  unfold qQB at h ⊢
  split at h
  · rename_i h1
    rw [if_pos h1]
    exact ⟨qqJ h,qqP⟩
  · rename_i h1
    exact absurd h h1
theorem TkI.added {m:TkM} (h:TkI m) {x:qQY} (hc:qQO m x=0):TkI (m.added x):=by
  obtain ⟨h1,h2,h3,h4,h5,h6,h7,h8⟩:=qJS hc
  obtain ⟨n1,n2,-⟩:=qWj h6
  obtain ⟨s1,s2⟩:=qV8 h1
  have hu:=h.t.u
  have all:∀ {P:RowM→Prop} (_:∀r∈m.rows,P r) (_:P ⟨x,(qQB x.cd).1⟩),∀r∈(m.added x).rows,P r:=by
    intro P a b r hr
    rcases List.mem_append.1 hr with hr | hr
    · exact a r hr
    · rw [List.mem_singleton] at hr;subst hr;exact b
  refine ⟨⟨h.t.w,h.t.u,h.t.uv,?_,all h.t.lv (by exact h4.1),all h.t.fr (by exact h4.2),all h.t.nd ?_,all h.t.st s2,qX9 h.t.nm rfl h3,?_⟩,all h.st s1,?_⟩
  · show (m.rows++[_]).length≤64
    rw [List.length_append,List.length_singleton];omega
  · dsimp only
    refine ⟨by omega,fun y hy=>?_⟩
    obtain ⟨a,b,c,d⟩:=n1 y hy
    refine ⟨a,b,c,?_⟩
    have hlt:y.res.toNat<m.units.length:=by omega
    rw [List.getElem?_eq_getElem hlt,Option.getD_some] at d
    have:=h.t.uv _ (List.getElem_mem hlt)
    omega
  · show (m.names.take _++_::m.names.drop _).length=(m.rows++[_]).length
    have:=h.t.nn
    rw [List.length_append,List.length_cons,List.length_append,List.length_singleton,List.length_take,List.length_drop]
    omega
  · show qQ1 (m.rows++[_])≤m.words
    rw [qYU (r:=⟨x,(qQB x.cd).1⟩) h4]
    exact h8
theorem TkI.new {words:Int} {units:List Int} (hc:qJA words units=0):TkI ⟨words,units,[],[]⟩:=by
  refine ⟨qUZ hc,fun r hr=>(by cases hr),?_⟩
  have hw:0≤words:=by
    unfold qJA at hc
    split at hc
    · cases hc
    · omega
  have e:qQ1 []=0:=by rfl
  show qQ1 []≤words
  rw [e];exact hw
end
section
open Go.RowKit Spl
def KeM.gets (m:KeM) (i:Nat):List qQh:=if m.dp.releaseE m.tk i=0 then [⟨m.dp.count,i,(m.tk.rows[i]?.map (·.t.lv)).getD 0⟩] else []
def KeM.dues:KeM→List Int→List qQh × KeM
  | m,[]=>([],m)
  | m,i::l=>(m.gets i.toNat++((m.due i.toNat).dues l).1,((m.due i.toNat).dues l).2)
def KeM.tickE (m:KeM):KeM:=KeM.event { m with ck:=m.ck.tick } qUK
def KeM.tick1 (m:KeM):List qQh × KeM:=m.tickE.dues m.ck.tickL
def KeM.ticks:Nat→KeM→List qQh × KeM
  | 0,m=>([],m)
  | n+1,m=>(m.tick1.1++(m.tick1.2.ticks n).1,(m.tick1.2.ticks n).2)
theorem KeM.due_tk (m:KeM) (i:Nat):(m.due i).tk=m.tk:=by unfold KeM.due;split <;> rfl
theorem zQ6 (now:Int) (l:List Pat):∀k,∀x∈qZc now k l,(k:Int)≤x∧x<(k:Int)+l.length:=by
  induction l with
  | nil=>intro k x hx;simp [qZc] at hx
  | cons p ps ih =>
    intro k x hx
    simp only [qZc] at hx
    rw [List.length_cons]
    push_cast
    split at hx
    · rcases List.mem_cons.1 hx with rfl | hx
      · omega
      · have:=ih (k+1) x hx;push_cast at this;omega
    · have:=ih (k+1) x hx;push_cast at this;omega
theorem zZZ {m:Clk} {x:Int} (hx:x∈m.tickL):0≤x∧x<m.l.length:=by
  unfold Clk.tickL at hx
  split at hx
  · cases hx
  · have:=zQ6 _ _ _ x hx;omega
theorem qVk (m:Clk):m.tickL.length≤m.l.length:=by
  unfold Clk.tickL
  split
  · simp
  · exact qX1 _ _ _
end
section
open Go.RowKit Spl
def jobQ (qs:List (List qQh)) (j:Int):Nat:=(qs.map fun l=>l.countP (fun x=>x.job == j)).sum
theorem qUT {qs:List (List qQh)} {k:Nat} {l l':List qQh} (h:qs[k]? = some l) (j:Int):jobQ (qs.set k l') j+l.countP (fun x=>x.job == j)=jobQ qs j+l'.countP (fun x=>x.job == j):=by
  unfold jobQ
  rw [List.map_set]
  exact qKK (by rw [List.getElem?_map,h];rfl)
theorem zZx {qs:List (List qQh)} {k:Nat} {l:List qQh} {x:qQh} (h:qs[k]? = some l) (hx:x∈l):1≤jobQ qs x.job:=by
  have h1:l.countP (fun y=>y.job == x.job)≤jobQ qs x.job:=qUv (l:=qs.map fun l=>l.countP (fun y=>y.job == x.job)) (k:=k) (by rw [List.getElem?_map,h];rfl)
  have h2:0<l.countP (fun y=>y.job == x.job):=List.countP_pos_iff.2 ⟨x,hx,by simp⟩
  omega
theorem qVm {qs:List (List qQh)} {j:Int} (h:∀(k:Nat) (l:List qQh) (x:qQh),qs[k]? = some l→x∈l→¬x.job=j):jobQ qs j=0:=by
  unfold jobQ
  rw [List.sum_eq_zero_iff_forall_eq_nat]
  intro n hn
  obtain ⟨l,hl,rfl⟩:=List.mem_map.1 hn
  obtain ⟨k,hk⟩:=List.getElem?_of_mem hl
  rw [List.countP_eq_zero]
  intro x hx
  simpa using h k l x hk hx
structure DpI (tk:TkM) (m:DpM):Prop where
  c:CoI tk m.co m.count
  q:m.wq.Inv m.count
  r:∀(k:Nat) (l:List qQh) (x:qQh),m.wq.qs[k]? = some l→x∈l→∃r,tk.rows[x.task.toNat]? = some r∧r.t.lv=x.level
  d:∀j,jobQ m.wq.qs j+m.co.jobs.countP (fun x=>x.job == j)≤1
structure KeI (m:KeM) (n:Nat):Prop where
  t:TkI m.tk
  d:DpI m.tk m.dp
  k:m.ck.Ok
  kl:m.ck.l.length=m.tk.rows.length
  e:m.ev.Ok
  eg:m.ev.gone≤n
  cn:m.dp.count≤n
theorem qqr {l:List StM} {j:Int} (h:l.countP (fun x=>x.job == j)=0):qJp l j = -1:=by
  unfold qJp
  have:l.findIdx? (fun x=>x.job == j)=none:=by
    rw [List.findIdx?_eq_none_iff]
    intro x hx
    have:=(List.countP_eq_zero.1 h) x hx
    simpa using this
  rw [this]
theorem zQ5 {m:DpM} {v:qQh} (h:m.may=some v):∃(k:Nat) (L:List qQh),hiQ m.wq.qs m.wq.qs.length=k+1∧m.wq.qs[k]? = some (v::L)∧topI m.co.ce<v.level∧(∀j,m.co.jobs.getLast? = some j→j.level<v.level):=by
  have hn:=qKO h
  unfold WqM.next at hn
  cases hh:hiQ m.wq.qs m.wq.qs.length with
  | zero=>rw [hh] at hn;cases hn
  | succ k =>
    obtain ⟨x,L,hL⟩:=qXo hh
    have hnx:m.wq.next=some x:=by unfold WqM.next;rw [hh];dsimp only;rw [hL];rfl
    rw [qKO h] at hnx
    injection hnx with hnx
    subst hnx
    refine ⟨k,L,rfl,hL,?_⟩
    unfold DpM.may at h
    rw [qKO h] at h
    dsimp only at h
    split at h
    · cases h
    · rename_i h1
      refine ⟨by omega,fun j hj=>?_⟩
      rw [hj] at h
      dsimp only at h
      split at h
      · cases h
      · omega
theorem DpI.above {tk:TkM} {m:DpM} (h:DpI tk m) {l:Int} (hl:∀j,m.co.jobs.getLast? = some j→j.level<l):∀x∈m.co.jobs,x.level<l:=by
  intro x hx
  rcases qQr m.co.jobs with h0 | ⟨a,j,h0⟩
  · rw [h0] at hx;cases hx
  · have h1:=hl j (by rw [h0];simp)
    have h2:=h.c.rise
    rw [h0] at hx h2
    rcases List.mem_append.1 hx with hx | hx
    · have:=(qJc.1 h2).2 x hx;omega
    · rw [List.mem_singleton] at hx;subst hx;exact h1
theorem DpI.next {tk:TkM} {m:DpM} (ht:TkI tk) (h:DpI tk m) {v:qQh} (hm:m.may=some v):(0≤v.task∧v.task<64∧0≤v.job∧v.job<m.count)∧qJp m.co.jobs v.job = -1∧∃r,tk.rows[v.task.toNat]? = some r∧r.t.lv=v.level∧m.co.ar.openE r.t.fr=0∧∀x∈m.co.jobs,x.level<r.t.lv:=by
  obtain ⟨k,L,h1,h2,h3,h4⟩:=zQ5 hm
  have h5:=h.q.e k _ v h2 (by simp)
  obtain ⟨r,hr,hlv⟩:=h.r k _ v h2 (by simp)
  have h6:=h.above h4
  rw [← hlv] at h6
  refine ⟨by omega,qqr ?_,r,hr,hlv,h.c.room ht.t ht.b hr h6,h6⟩
  have:=zZx h2 (x:=v) (by simp)
  have:=h.d v.job
  omega
theorem DpI.begin {tk:TkM} {m:DpM} (ht:TkI tk) (h:DpI tk m):DpI tk (m.begin tk).2∧(m.begin tk).2.count=m.count:=by
  unfold DpM.begin
  cases hm:m.may with
  | none=>exact ⟨h,rfl⟩
  | some v =>
    obtain ⟨hv,hp,r,hr,hlv,ho,hab⟩:=h.next ht hm
    dsimp only
    rw [hr]
    dsimp only
    obtain ⟨k,L,h1,h2,h3,h4⟩:=zQ5 hm
    have ht0:m.wq.take.qs=m.wq.qs.set k L:=by unfold WqM.take;rw [h1];dsimp only;rw [h2];rfl
    refine ⟨⟨h.c.begun ht.t ht.st ht.b hr hab hv.2.2.1 hv.2.2.2,h.q.take,fun k' l x hk' hx=>?_,fun j=>?_⟩,rfl⟩
    · dsimp only at hk'
      rw [ht0] at hk'
      by_cases hkk:k=k'
      · subst hkk
        rw [List.getElem?_set_self (qQa h2)] at hk'
        injection hk' with hk'
        subst hk'
        exact h.r k _ x h2 (by simp [hx])
      · rw [List.getElem?_set_ne hkk] at hk'
        exact h.r k' l x hk' hx
    · dsimp only
      rw [ht0]
      have h5:=qUT (l':=L) h2 j
      have h6:=h.d j
      rw [List.countP_cons] at h5
      show jobQ _ j+(m.co.jobs++[_]).countP _≤1
      rw [List.countP_append,List.countP_cons,List.countP_nil]
      dsimp only
      omega
theorem DpI.dpS {tk:TkM} {m:DpM} (ht:TkI tk) (h:DpI tk m):DpS tk m:=by
  have h1:=h.c.few ht.t
  have h2:=h.c.b.cl
  have h3:=h.c.b.u.locksTop
  refine ⟨ht.t,h.q.ok,h.c.b.a,by omega,by omega,by omega,fun v hv=>?_,(h.begin ht).1.c.stepOk ht.t ht.st⟩
  obtain ⟨a,b,r,c,_,d,_⟩:=h.next ht hv
  exact ⟨a.1,a.2.1,a.2.2.1,b,r,c,d⟩
theorem DpI.step {tk:TkM} {m:DpM} (ht:TkI tk) (h:DpI tk m):DpI tk (m.step tk).2∧(m.step tk).2.count=m.count:=by
  obtain ⟨h1,h2⟩:=h.begin ht
  unfold DpM.step
  cases hs:(m.begin tk).2.co.step tk with
  | none=>exact ⟨h1,h2⟩
  | some y =>
    obtain ⟨d,co⟩:=y
    obtain ⟨h3,h4⟩:=h1.c.step ht.t ht.st hs
    exact ⟨⟨h3,h1.q,h1.r,fun j=>by have:=h1.d j;have:=h4 j;dsimp only;omega⟩,h2⟩
theorem DpI.release {tk:TkM} {m:DpM} (h:DpI tk m) {i:Nat} (hE:m.releaseE tk i=0):DpI tk (m.release tk i)∧(m.release tk i).count=m.count+1:=by
  unfold DpM.releaseE at hE
  unfold DpM.release
  cases hr:tk.rows[i]? with
  | none=>rw [hr] at hE;cases hE
  | some r =>
    rw [hr] at hE
    dsimp only at hE ⊢
    rw [if_pos hE]
    refine ⟨?_,rfl⟩
    have hE2:=hE
    unfold WqM.putE at hE2
    split at hE2
    · cases hE2
    · rename_i hb
      obtain ⟨k,hk⟩:∃k:Nat,(r.t.lv-1).toNat=k:=⟨_,rfl⟩
      have hkl:k<m.wq.qs.length:=by rw [h.q.q];omega
      obtain ⟨L,hL⟩:∃L,m.wq.qs[k]? = some L:=⟨m.wq.qs[k],List.getElem?_eq_getElem hkl⟩
      have hp:(m.wq.put i r.t.lv m.count).qs=m.wq.qs.set k (L++[⟨m.count,i,r.t.lv⟩]):=by
        unfold WqM.put;rw [if_pos hE,hk,hL];rfl
      refine ⟨h.c.more (Nat.le_succ _),h.q.put hE,fun k' l x hk' hx=>?_,fun j=>?_⟩
      · dsimp only at hk'
        rw [hp] at hk'
        by_cases hkk:k=k'
        · subst hkk
          rw [List.getElem?_set_self hkl] at hk'
          injection hk' with hk'
          subst hk'
          rcases List.mem_append.1 hx with hx | hx
          · exact h.r k L x hL hx
          · rw [List.mem_singleton] at hx
            subst hx
            exact ⟨r,by dsimp only;rw [Int.toNat_natCast];exact hr,rfl⟩
        · rw [List.getElem?_set_ne hkk] at hk'
          exact h.r k' l x hk' hx
      · dsimp only
        rw [hp]
        have h5:=qUT (l':=L++[⟨m.count,i,r.t.lv⟩]) hL j
        have h6:=h.d j
        rw [List.countP_append,List.countP_cons,List.countP_nil] at h5
        dsimp only at h5
        by_cases hj:(m.count:Int)=j
        · have h7:jobQ m.wq.qs j=0:=qVm fun k l x hk hx he=>by have:=h.q.e k l x hk hx;omega
          have h8:m.co.jobs.countP (fun x=>x.job == j)=0:=by
            rw [List.countP_eq_zero]
            intro x hx
            have:=(h.c.j x hx).j1
            simp only [beq_iff_eq]
            omega
          split at h5 <;> omega
        · rw [if_neg (by simpa using hj)] at h5
          omega
theorem DpI.added {tk:TkM} {m:DpM} (h:DpI tk m) (x:qQY):DpI (tk.added x) m:=by
  refine ⟨h.c.added x,h.q,fun k l y hk hy=>?_,h.d⟩
  obtain ⟨r,hr,e⟩:=h.r k l y hk hy
  refine ⟨r,?_,e⟩
  show (tk.rows++[_])[_]? = _
  rw [List.getElem?_append_left (qQa hr)]
  exact hr
theorem qVb (m:Clk) (i:Int):(m.note i).l.length=m.l.length:=by
  unfold Clk.note
  split
  · rfl
  · simp
theorem qW7 (m:Clk):m.tick.l.length=m.l.length:=by
  unfold Clk.tick
  split
  · rfl
  · simp
namespace KeI
variable {m:KeM} {n:Nat}
theorem more (h:KeI m n) {n':Nat} (hn:n≤n'):KeI m n':=⟨h.t,h.d,h.k,h.kl,h.e,Nat.le_trans h.eg hn,Nat.le_trans h.cn hn⟩
theorem event (h:KeI m n) (hn:n+1≤4611686018427387904) (e:EvM):KeI (m.event e) (n+1):=by
  have h1:=h.eg
  obtain ⟨a,b⟩:=qQQ h.e (by omega) { e with clock:=m.ck.now }
  exact ⟨h.t,h.d,h.k,h.kl,a,Nat.le_trans b (by omega),Nat.le_succ_of_le h.cn⟩
theorem tickE (h:KeI m n) (hn:n+1≤4611686018427387904):KeI m.tickE (n+1) :=
  event (m:={ m with ck:=m.ck.tick }) ⟨h.t,h.d,h.k.tick,(qW7 _).trans h.kl,h.e,h.eg,h.cn⟩ hn qUK
theorem took (h:KeI m n) (hn:n+1≤4611686018427387904) {i:Nat} (hE:m.dp.releaseE m.tk i=0):KeI (m.took i) (n+1):=by
  obtain ⟨a,b⟩:=h.d.release hE
  have h1:=h.eg
  have h2:=h.cn
  obtain ⟨c,d⟩:=qQQ h.e (by omega) { qJk i m.dp.count with clock:=(m.ck.note i).now }
  exact ⟨h.t,a,h.k.note i,(qVb _ _).trans h.kl,c,Nat.le_trans d (by omega),by show (m.dp.release m.tk i).count≤n+1;omega⟩
theorem due (h:KeI m n) (hn:n+1≤4611686018427387904) (i:Nat):KeI (m.due i) (n+1):=by
  unfold KeM.due
  split
  · rename_i hE;exact h.took hn hE
  · exact h.event hn _
theorem release (h:KeI m n) (hn:n+1≤4611686018427387904) (i:Int):KeI (m.release i) (n+1):=by
  unfold KeM.release
  split
  · rename_i hE
    unfold KeM.releaseE at hE
    split at hE
    · exact h.took hn hE
    · rename_i h1;exact absurd hE h1
  · exact h.more (Nat.le_succ _)
theorem step (h:KeI m n) (hn:n+3≤4611686018427387904):KeI m.step.2 (n+3):=by
  obtain ⟨a,b⟩:=h.d.step h.t
  have h1:KeI ⟨m.tk,(m.dp.step m.tk).2,m.ck,m.ev⟩ n:=⟨h.t,a,h.k,h.kl,h.e,h.eg,by show (m.dp.step m.tk).2.count≤n;rw [b];exact h.cn⟩
  unfold KeM.step
  dsimp only
  have h2:KeI (if (m.dp.step m.tk).1.started=true then KeM.event ⟨m.tk,(m.dp.step m.tk).2,m.ck,m.ev⟩ (qZu (m.dp.step m.tk).1.start.task (m.dp.step m.tk).1.start.job) else ⟨m.tk,(m.dp.step m.tk).2,m.ck,m.ev⟩) (n+1):=by
    split
    · exact h1.event (by omega) _
    · exact h1.more (Nat.le_succ _)
  split
  · exact (h2.event (by omega) _).more (by omega)
  · split
    · exact (h2.event (by omega) _).event (by omega) _
    · exact (h2.event (by omega) _).more (by omega)
theorem register (h:KeI m n) (hn:n+1≤4611686018427387904) (x:qQY):KeI (m.register x) (n+1):=by
  unfold KeM.register
  split
  · rename_i hE
    have hc:=qZL hE
    obtain ⟨h1,h2,h3,h4,h5,h6,h7,h8⟩:=qJS hc
    refine event (m:=⟨m.tk.added x,m.dp,m.ck.add x.p x.f x.g,m.ev⟩) ⟨h.t.added hc,h.d.added x,h.k.add _ _ _,?_,h.e,h.eg,h.cn⟩ hn _
    show (m.ck.add x.p x.f x.g).l.length=(m.tk.rows++[_]).length
    have hl:=h.kl
    unfold Clk.add Clk.full
    rw [if_neg (by simp;omega),if_pos h5,List.length_append,List.length_append,hl]
    rfl
  · exact h.more (Nat.le_succ _)
theorem new {words:Int} {units:List Int} (hc:qJA words units=0) (hu:qYF units=0):KeI (KeM.new words units) 0:=by
  refine ⟨TkI.new hc,⟨CoI.new hc hu,WqM.Inv.empty _,fun k l x hk hx=>?_,fun j=>?_⟩,Clk.Ok.new,rfl,⟨by simp [KeM.new],by simp [KeM.new],by simp [KeM.new],by simp [KeM.new]⟩,Nat.le_refl _,Nat.le_refl _⟩
  · have hk2:(List.replicate 32 ([]:List qQh))[k]? = some l:=hk
    rw [List.getElem?_replicate] at hk2
    split at hk2
    · injection hk2 with hk2
      subst hk2
      cases hx
    · cases hk2
  · have:jobQ (KeM.new words units).dp.wq.qs j=0:=qVm fun k l x hk hx=>by
      have hk2:(List.replicate 32 ([]:List qQh))[k]? = some l:=hk
      rw [List.getElem?_replicate] at hk2
      split at hk2
      · injection hk2 with hk2
        subst hk2
        cases hx
      · cases hk2
    rw [this]
    exact Nat.zero_le _
theorem keR (h:KeI m n) (hn:n≤4611686018427387904):KeR m:=⟨h.t.t,h.d.q.ok,by have:=h.cn;omega,h.k,h.e,h.kl⟩
theorem keC (h:KeI m n):KeC m:=⟨h.t.t,h.d.c.b.u,h.d.c.b.uu⟩
theorem dpS (h:KeI m n):DpS m.tk m.dp:=h.d.dpS h.t
end KeI
end
section
open Go.RowKit Spl
attribute [local go_sem] Oper.semAt_some
section
variable {w0 w:World} {R:List Pr} {S:Hp} {m:KeM} {z:KeV}
theorem qWP (H:Hd w0 (KeL z S m R) w) {n:Int} (hc:0≤m.ck.now∧m.ck.now≤1099511627776) (hn:n<1∨1000<n∨1099511627776-m.ck.now<n) :
    Calls Tryz.prog 36 #[.pointer (some ⟨z.k,0,none⟩),.int .i64 n] w fun e w'=>e=.returned (.tuple #[.slice none 0 0,.int .i64 1])∧w=w':=by
  obtain ⟨k,cl,rg,y⟩:=z
  have hcn:=zQe (H.k cl)
  have k3:=(show _=some (Value.pointer (some ⟨cl,0,none⟩)) from (H.k k).ce 3 rfl)
  have g1:IntKind.i64.wrap (1099511627776-m.ck.now)=1099511627776-m.ck.now:=IntWalk.i64_in _ (by omega)
  obtain ⟨NW,hNW⟩:∃NW,m.ck.now=NW:=⟨_,rfl⟩
  rw [hNW] at hcn g1 hn
  clear hNW H hc
  by_cases n1:n<1
  · clear hn
    go_enter Tryz.func36,Tryz.ntmps36
    go_wp2_with fail
    go_ret2
    exact ⟨rfl,rfl⟩
  · by_cases n2:(1000:Int)<n
    · clear hn
      go_enter Tryz.func36,Tryz.ntmps36
      go_wp2_with fail
      go_ret2
      exact ⟨rfl,rfl⟩
    · have n3:1099511627776-NW<n:=by omega
      clear hn
      go_enter Tryz.func36,Tryz.ntmps36
      go_wp2_with fail
      refine hcn.mono ?_
      rintro e w1 ⟨rfl,rfl⟩
      clear hcn
      go_wp2_with fail
      go_ret2
      exact ⟨rfl,rfl⟩
theorem KeM.ticks_succ {n:Nat} {m:KeM}:m.ticks (n+1)=(m.tick1.1++(m.tick1.2.ticks n).1,(m.tick1.2.ticks n).2):=rfl
theorem KeM.dues_cons {m:KeM} {i:Int} {l:List Int}:m.dues (i::l)=(m.gets i.toNat++((m.due i.toNat).dues l).1,((m.due i.toNat).dues l).2):=rfl
theorem zXt {n i K:Nat} (P:Nat→KeM→Prop) (hR:∀k m,k≤K→P k m→KeR m) (hT:∀k m,k<K→P k m→P (k+1) m.tickE) (hD:∀k m (j:Nat),k<K→j<m.tk.rows.length→P k m→P (k+1) (m.due j))
    (hK:i+65*n≤K) (H:Hd w0 (KeL z S m R) w) (hm:P i m) (h1:1≤n) (h2:n≤1000) (h3:(n:Int)≤1099511627776-m.ck.now) :
    Calls Tryz.prog 36 #[.pointer (some ⟨z.k,0,none⟩),.int .i64 n] w fun e w'=>∃v,e=.returned (.tuple #[v,.int .i64 0])∧Hd w0 (SlE 42 v (m.ticks n).1::KeL z S (m.ticks n).2 R) w':=by
  obtain ⟨k,cl,rg,y⟩:=z
  have hc0:=(hR _ _ (by omega) hm).k
  have hc1:=hc0.n0
  have hc2:=hc0.n1
  have hcn:=zQe (H.k cl)
  have k3:=(show _=some (Value.pointer (some ⟨cl,0,none⟩)) from (H.k k).ce 3 rfl)
  have g1:IntKind.i64.wrap (1099511627776-m.ck.now)=1099511627776-m.ck.now:=IntWalk.i64_in _ (by omega)
  obtain ⟨T,hT0⟩:∃T,m.ticks n=T:=⟨_,rfl⟩
  rw [hT0]
  obtain ⟨NW,hNW⟩:∃NW,m.ck.now=NW:=⟨_,rfl⟩
  rw [hNW] at hcn g1 h3
  have n1:¬(n:Int)<1:=by omega
  have n2:¬(1000:Int)<n:=by omega
  have n3:¬1099511627776-NW<n:=by omega
  obtain ⟨i0,hwi,hwz0,hwz1,hwz2⟩:=info_parts qJG
  replace hR:=Lib.hid hR
  replace hT:=Lib.hid hT
  replace hD:=Lib.hid hD
  replace hT0:=Lib.hid hT0
  replace hm:=Lib.hid hm
  replace hK:=Lib.hid hK
  clear hNW hc0 hc1 hc2 h3
  go_enter Tryz.func36,Tryz.ntmps36
  go_wp2_with fail
  refine hcn.mono ?_
  rintro e w1 ⟨rfl,rfl⟩
  clear hcn k3
  go_wp2_with fail
  go_loopw [6,30] (fun v y1 wr=>∃(q:Nat) (v':Value) (g:List qQh) (mk:KeM) (c:Nat),q≤n∧y1=.int .i64 q∧v'=v∧T=(g++(mk.ticks (n-q)).1,(mk.ticks (n-q)).2)∧P c mk∧c≤i+65*q∧g.length≤64*q∧Hd w0 (SlE 42 v' g::KeL ⟨k,cl,rg,y⟩ S mk R) wr) (fun _ y1 _=>n-(intOf y1).toNat)
  case atStart=>exact ⟨0,_,[],m,i,Nat.zero_le _,rfl,rfl,by rw [Nat.sub_zero,hT0.out];rfl,hm.out,by omega,by simp,H.slc_nil 42 3⟩
  case round =>
    obtain ⟨q,v,g,mk,c,hq,rfl,rfl,hTq,hPc,hc,hg,H1⟩:=hrel
    clear H
    by_cases hlt:q<n
    · obtain ⟨q',hq'⟩:∃q',n-q=q'+1:=⟨n-q-1,by omega⟩
      have hKc:c+65≤K:=by have:=hK.out;omega
      have hRc:=hR.out _ _ (by omega) hPc
      have hPt:=hT.out _ _ (by omega) hPc
      have hRt:=hR.out _ _ (by omega) hPt
      have hRm:KeR { mk with ck:=mk.ck.tick }:=⟨hRc.t,hRc.q,hRc.c,hRc.k.tick,hRc.e,by show mk.ck.tick.l.length=_;rw [← hRc.n];unfold Clk.tick;split <;> simp⟩
      rw [hq',KeM.ticks_succ] at hTq
      obtain ⟨L,hL⟩:∃L,mk.ck.tickL=L:=⟨_,rfl⟩
      have hLin:∀x∈L,0≤x∧x<mk.tk.rows.length:=fun x hx=>by rw [← hRc.n];exact zZZ (by rw [hL];exact hx)
      have hLl:L.length≤64:=by have:=qVk mk.ck;rw [hL] at this;have:=hRc.k.len;omega
      have hct:=zJu (show Hd w0 (qQE cl mk.ck::SlE 42 v g::cel k 53 #[.pointer (some ⟨y.x.l,0,none⟩),.pointer (some ⟨y.x.t,0,none⟩),.pointer (some ⟨y.d,0,none⟩),.pointer (some ⟨cl,0,none⟩),.pointer (some ⟨rg,0,none⟩)]::qQT rg mk.ev::DpL y mk.tk S mk.dp R) wr from H1.re) hRc.k
      rw [hL] at hct
      obtain ⟨er,her⟩:∃er,mk.ck.tickE=er:=⟨_,rfl⟩
      rw [her] at hct
      have k4:=(show _=some (Value.pointer (some ⟨cl,0,none⟩)) from (H1.k k).ce 3 rfl)
      unfold KeM.tick1 at hTq
      rw [hL] at hTq
      have hev:=fun (w1:World) (X:List Pr) (h1:Hd w0 (KeL ⟨k,cl,rg,y⟩ S { mk with ck:=mk.ck.tick } X) w1)=>qJb h1 hRm.e qUK
      obtain ⟨me,hme⟩:∃me,mk.tickE=me:=⟨_,rfl⟩
      have hev':KeM.event { mk with ck:=mk.ck.tick } qUK=me:=hme
      have htk:me.tk=mk.tk:=by rw [← hme];rfl
      rw [hev'] at hev
      rw [hme] at hTq hPt hRt
      rw [← htk] at hLin
      obtain ⟨N,hN⟩:∃N,L.length=N:=⟨_,rfl⟩
      rw [hN] at hct hLl
      replace hev:=Lib.hid hev
      replace hTq:=Lib.hid hTq
      replace hPt:=Lib.hid hPt
      replace hN:=Lib.hid hN
      replace hLin:=Lib.hid hLin
      have n4:(q:Int)<n:=by omega
      have g6:IntKind.i64.wrap ((q:Int)+1)=(q:Int)+1:=IntWalk.i64_in _ (by omega)
      replace hq':=Lib.hid hq'
      clear hRt hRm hRc hPc hL hme hev' htk her H1
      go_wp2_with fail
      refine hct.mono ?_
      rintro e w1 ⟨A,rfl,H2⟩
      clear hct k4
      have hec:=hev.out _ (Slc 3 1 (.slice A N N) N (L.map (Value.int .i64))::SlE 42 v g::R) H2.re
      go_wp2_with fail
      refine hec.mono ?_
      rintro e w2 ⟨rfl,H3⟩
      clear hec H2
      go_wp2_with fail
      go_loopw [6,45] (fun u y2 wq=>∃(s:Nat) (u':Value) (g2:List qQh) (mt:KeM),s≤N∧y2=.int .i64 s∧u'=u∧(g++(me.dues L).1,(me.dues L).2)=(g2++(mt.dues (L.drop s)).1,(mt.dues (L.drop s)).2)∧P (c+1+s) mt∧mt.tk.rows.length=me.tk.rows.length∧g2.length≤64*q+s∧Hd w0 (SlE 42 u' g2::Slc 3 1 (.slice A N N) N (L.map (Value.int .i64))::KeL ⟨k,cl,rg,y⟩ S mt R) wq) (fun _ y2 _=>N-(intOf y2).toNat)
      case atStart=>exact ⟨0,_,g,me,Nat.zero_le _,rfl,rfl,rfl,hPt.out,rfl,by omega,H3.re⟩
      case round =>
        obtain ⟨s,u,g2,mt,hs,rfl,rfl,hTs,hPs,hrows,hg2,H4⟩:=hrel
        clear H3
        by_cases hls:s<N
        · obtain ⟨x,hx⟩:∃x,L[s]? = some x:=⟨L[s]'(by rw [hN.out];exact hls),List.getElem?_eq_getElem _⟩
          obtain ⟨hx1,hx2⟩:=hLin.out x (List.mem_of_getElem? hx)
          obtain ⟨j,rfl⟩:=Int.eq_ofNat_of_zero_le hx1
          obtain ⟨rw_,hr⟩:∃r,mt.tk.rows[j]? = some r:=⟨mt.tk.rows[j]'(by rw [hrows];omega),List.getElem?_eq_getElem _⟩
          have hRs:=hR.out _ _ (by omega) hPs
          have hPd:=hD.out _ _ j (by omega) (by rw [hrows];omega) hPs
          have hdr:L.drop s=(j:Int)::L.drop (s+1):=qKe hx
          rw [hdr,KeM.dues_cons,Int.toNat_natCast] at hTs
          have d4:Hd w0 (Slc 3 1 (.slice A N N) N (L.map (Value.int .i64))::SlE 42 u g2::KeL ⟨k,cl,rg,y⟩ S mt R) _:=H4.re
          obtain ⟨la,lc,hv,H5⟩:=d4.slc_at (by omega)
          injection hv with e1 e2 e3
          clear e2
          subst e1
          subst e3
          have d5:=H5.slcC_rd (j:=s) (u:=.int .i64 j) (by rw [List.getElem?_map,hx];rfl)
          have n5:(s:Int)<N:=by omega
          have n6:¬(s:Int)<0:=by omega
          have n7:¬N≤s:=by omega
          have g7:IntKind.i64.wrap ((s:Int)+1)=(s:Int)+1:=IntWalk.i64_in _ (by omega)
          have hdtk:=KeM.due_tk mt j
          by_cases hE:mt.dp.releaseE mt.tk j=0
          · have hdc:=zXS (show Hd w0 (KeL ⟨k,cl,rg,y⟩ S mt (SlE 42 u g2::SlcC 3 1 la N N (L.map (Value.int .i64))::R)) _ from H5.re) hRs hr hE
            have hdue:mt.due j=mt.took j:=by unfold KeM.due;rw [if_pos hE]
            have hgets:mt.gets j = [⟨mt.dp.count,j,rw_.t.lv⟩]:=by unfold KeM.gets;rw [if_pos hE,hr];rfl
            rw [hgets] at hTs
            rw [hdue] at hPd hTs hdtk
            obtain ⟨mu,hmu⟩:∃mu,mt.took j=mu:=⟨_,rfl⟩
            rw [hmu] at hdc hPd hTs hdtk
            rw [← hdtk] at hrows
            obtain ⟨ct,hct⟩:∃ct,mt.dp.count=ct:=⟨_,rfl⟩
            rw [hct] at hdc hTs
            obtain ⟨lv,hlv⟩:∃lv,rw_.t.lv=lv:=⟨_,rfl⟩
            rw [hlv] at hdc hTs
            replace hTs:=Lib.hid hTs
            replace hPd:=Lib.hid hPd
            replace hrows:=Lib.hid hrows
            replace hg2:=Lib.hid hg2
            clear hRs hPs hr hE hdr H4 d4 H5 hdue hgets hmu hct hlv hx hx1 hx2 hdtk
            go_wp2_with fail
            refine hdc.mono ?_
            rintro e w3 ⟨rfl,H6⟩
            clear hdc d5
            have HP:Hd w0 _ (w3.alloc (.cells #[.int .i64 ct,.int .i64 j,.int .i64 lv] 42)):=H6.fol
            have hf:=(HP.k w3.heap.size).fact1
            simp only [Nat.reduceAdd] at hf
            go_split_ands
            have HQ:Hd w0 _ ((w3.alloc (.cells #[.int .i64 ct,.int .i64 j,.int .i64 lv] 42)).alloc (.cells #[.int .i64 ct,.int .i64 j,.int .i64 lv] 42)):=HP.fol
            have hQ:=Lib.hid HQ
            clear HP HQ H6
            go_wp2_with (at_builtin;refine qQb rfl _ _ 39 rfl 42 i0 _ 3 24 Tryz.underlying39 hwi hwz0 hwz1 hwz2 rfl _ _ _ rfl (show Hd w0 (Slc 42 3 u g2.length (flat g2)::_) _ from hQ.out.v u) ⟨w3.heap.size+1,0,none⟩ 1 1 [.int .i64 ct,.int .i64 j,.int .i64 lv] rfl rfl (qQA (hQ.out.k (w3.heap.size+1))) (by simp [Value.oneCell']) (by have:=hg2.out;unfold maxLen;omega) (by have:=hg2.out;omega) ?_;intro v' w5 H20;have H21:=qYq (x:=⟨ct,j,lv⟩) H20)
            go_roundw
            case rel=>exact ⟨s+1,_,_,mu,by omega,by simp,rfl,by rw [hTs.out,List.append_assoc],by rw [← Nat.add_assoc];exact hPd.out,hrows.out,by have:=hg2.out;rw [List.length_append,List.length_singleton];omega,((Hd.re H21:Hd w0 (SlcC 3 1 la N N (L.map (Value.int .i64))::SlE 42 v' (g2++[⟨ct,j,lv⟩])::KeL ⟨k,cl,rg,y⟩ S mu R) _).slc_mk).re⟩
            case measure=>simp [intOf];omega
          · obtain ⟨E,hE0⟩:∃E,mt.dp.releaseE mt.tk j=E:=⟨_,rfl⟩
            have hdc:=zXF (show Hd w0 (KeL ⟨k,cl,rg,y⟩ S mt (SlE 42 u g2::SlcC 3 1 la N N (L.map (Value.int .i64))::R)) _ from H5.re) hRs hr rfl hE
            have hdue:mt.due j=mt.event (qVo j):=by unfold KeM.due;rw [if_neg hE]
            have hgets:mt.gets j = []:=by unfold KeM.gets;rw [if_neg hE]
            rw [hgets] at hTs
            rw [hdue] at hPd hTs hdtk
            obtain ⟨mu,hmu⟩:∃mu,mt.event (qVo j)=mu:=⟨_,rfl⟩
            rw [hmu] at hdc hPd hTs hdtk
            rw [← hdtk] at hrows
            replace hTs:=Lib.hid hTs
            replace hPd:=Lib.hid hPd
            replace hrows:=Lib.hid hrows
            replace hg2:=Lib.hid hg2
            clear hRs hPs hr hE hE0 hdr H4 d4 H5 hdue hgets hmu hx hx1 hx2 hdtk
            go_wp2_with fail
            refine hdc.mono ?_
            rintro e w3 ⟨rfl,H6⟩
            clear hdc d5
            have H7:Hd w0 (Slc 3 1 (.slice (some ⟨la,0,none⟩) N N) N (L.map (Value.int .i64))::SlE 42 u g2::KeL ⟨k,cl,rg,y⟩ S mu R) w3:=(Hd.re H6:Hd w0 (SlcC 3 1 la N N (L.map (Value.int .i64))::SlE 42 u g2::KeL ⟨k,cl,rg,y⟩ S mu R) w3).slc_mk
            go_wp2_with fail
            go_roundw
            case rel=>exact ⟨s+1,_,g2,mu,by omega,by simp,rfl,hTs.out,by rw [← Nat.add_assoc];exact hPd.out,hrows.out,by have:=hg2.out;omega,Hd.fin H7⟩
            case measure=>simp [intOf];omega
        · obtain rfl:s=N:=by omega
          have hd0:L.drop s = []:=by rw [List.drop_eq_nil_iff,hN.out];exact Nat.le_refl _
          rw [hd0] at hTs
          have e1:g++(me.dues L).1=g2:=by have:=congrArg Prod.fst hTs;simpa [KeM.dues] using this
          have e2:(me.dues L).2=mt:=by have:=congrArg Prod.snd hTs;simpa [KeM.dues] using this
          replace hTq:=hTq.out
          rw [e2,← List.append_assoc,e1] at hTq
          replace hTq:=Lib.hid hTq
          replace hPs:=Lib.hid hPs
          clear hd0 hTs e1 e2 hrows
          go_wp2_with fail
          go_roundw
          case rel=>exact ⟨q+1,_,g2,mt,_,by omega,by simp,rfl,by rw [hTq.out,show n-(q+1)=q' by have:=hq'.out;omega],hPs.out,by omega,by omega,H4.re⟩
          case measure=>simp [intOf];omega
    · obtain rfl:q=n:=by omega
      rw [Nat.sub_self] at hTq
      have e1:T.1=g:=by rw [hTq];simp [KeM.ticks]
      have e2:T.2=mk:=by rw [hTq];rfl
      replace e1:=Lib.hid e1
      replace e2:=Lib.hid e2
      clear hTq hPc
      rcases H1.slc with ⟨rfl,hz,-,-⟩ | ⟨ga,ca,rfl,HC⟩
      · rw [hz] at *
        go_wp2_with fail
        go_ret2
        exact ⟨_,rfl,by rw [e1.out,e2.out];exact H1⟩
      · have hcap:=HC.slcC.2.1
        have m1:(0:Int)≤g.length:=by omega
        have m2:(g.length:Int)≤ca:=by omega
        go_wp2_with fail
        go_ret2
        exact ⟨_,rfl,by rw [e1.out,e2.out];exact HC.clip.slc_mk⟩
end
end
end Go.Proofs.YtkchopnkdjnocaaGreatDoor
