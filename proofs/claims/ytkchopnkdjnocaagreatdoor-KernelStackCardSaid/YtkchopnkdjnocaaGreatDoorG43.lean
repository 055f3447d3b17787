/-
  Merged texts of one proof: Ke4, Ke4b.
-/
import Derived.Test.YtkchopnkdjnocaaGreatDoorG40

set_option maxHeartbeats 16000000
set_option maxRecDepth 20000
namespace Go.Proofs.YtkchopnkdjnocaaGreatDoor
section
open Go.RowKit Spl
section
variable {w0 w:World} {R:List Pr} {S:Hp} {z:KeV} {m:KeM}
theorem zZN [Lay w0 R] (H:Hd w0 (KeL z S m R) w) (h:KeC m) (x:qQY) {nv:Value} (hs:Srg w0 R nv x.needs) (hL:x.needs.length≤100000) {E:Int} (hE:qQO m.tk x=E) (h0:¬E=0) (h25:¬E=25) :
    Calls Tryz.prog 21 #[.pointer (some ⟨z.k,0,none⟩),qYL x nv] w fun e w'=>e=.returned (.int .i64 E)∧Hd w0 (KeL z S m R) w':=by
  obtain ⟨k,cl,rg,y⟩:=z
  obtain ⟨a,c,hv⟩:=hs.form
  subst hv
  have H0:Hd w0 _ (w.alloc (.cells #[.string x.nm,.int .i64 x.lv,.int .i64 x.fr,.slice a x.needs.length c,.string x.cd,.int .i64 x.p,.int .i64 x.f,.int .i64 x.g] 36)):=H.fol
  have H1:Hd w0 (TkP y.x.t m.tk S::cel w.heap.size 36 #[.string x.nm,.int .i64 x.lv,.int .i64 x.fr,.slice a x.needs.length c,.string x.cd,.int .i64 x.p,.int .i64 x.f,.int .i64 x.g]::cel k 53 #[.pointer (some ⟨y.x.l,0,none⟩),.pointer (some ⟨y.x.t,0,none⟩),.pointer (some ⟨y.d,0,none⟩),.pointer (some ⟨cl,0,none⟩),.pointer (some ⟨rg,0,none⟩)]::qQE cl m.ck::qQT rg m.ev::cel y.d 123 #[.pointer (some ⟨y.x.l,0,none⟩),.pointer (some ⟨y.x.t,0,none⟩),.pointer (some ⟨y.c,0,none⟩),.pointer (some ⟨y.q,0,none⟩),.int .i64 m.dp.count] ::
    cel y.c 194 (qQj y.c y.x.l)::LkP y.x S m.dp.co::WqP y.q m.dp.wq::ro S::R) _:=H0.re
  have hc:=qWF H1.drew h.t x (hs.of fun h=>by exact (Hd.re h:Hd w0 R _)) (by omega)
  rw [hE] at hc
  have k1:=(show _=some (Value.pointer (some ⟨y.x.t,0,none⟩)) from (H0.k k).ce 1 rfl)
  have hf:=(H0.k w.heap.size).fact1
  simp only [Nat.reduceAdd] at hf
  go_split_ands
  have b1:(E != 0 && E != 25)=true:=by simp [h0,h25]
  replace hs:=Lib.hid hs
  replace hE:=Lib.hid hE
  clear H H1
  go_enter Tryz.func21,Tryz.ntmps21
  go_wp2_with fail
  refine wm 5 [(0,true),(1,true),(2,true),(3,true),(4,true)] (fun w'=>w'.cell? ⟨k,1,none⟩=some (.pointer (some ⟨y.x.t,0,none⟩))∧w'.cell? ⟨w.heap.size,0,none⟩=some (.string x.nm)∧w'.cell? ⟨w.heap.size,1,none⟩=some (.int .i64 x.lv)∧w'.cell? ⟨w.heap.size,2,none⟩=some (.int .i64 x.fr)∧w'.cell? ⟨w.heap.size,3,none⟩=some (.slice a x.needs.length c)∧w'.cell? ⟨w.heap.size,4,none⟩=some (.string x.cd)∧w'.cell? ⟨w.heap.size,5,none⟩=some (.int .i64 x.p)∧w'.cell? ⟨w.heap.size,6,none⟩=some (.int .i64 x.f)∧w'.cell? ⟨w.heap.size,7,none⟩=some (.int .i64 x.g)) (⟨k1,(show _=some _ from (H0.drew.k w.heap.size).ce 0 rfl),(show _=some _ from (H0.drew.k w.heap.size).ce 1 rfl),(show _=some _ from (H0.drew.k w.heap.size).ce 2 rfl),(show _=some _ from (H0.drew.k w.heap.size).ce 3 rfl),(show _=some _ from (H0.drew.k w.heap.size).ce 4 rfl),(show _=some _ from (H0.drew.k w.heap.size).ce 5 rfl),(show _=some _ from (H0.drew.k w.heap.size).ce 6 rfl),(show _=some _ from (H0.drew.k w.heap.size).ce 7 rfl)⟩) ?_
  simp only [List.drop_succ_cons,List.drop_zero]
  iterate 5 (refine mh ?_;(try simp only [Act.put,List.setIfInBounds_toArray,List.set_cons_zero,List.set_cons_succ]))
  refine qQe ?_
  (try dsimp only)
  go_wp2_with fail
  refine hc.mono ?_
  rintro e w1 ⟨rfl,H2⟩
  clear hc
  go_wp2_with fail
  go_ret
  exact ⟨rfl,H2.re⟩
theorem zZb [Lay w0 R] (H:Hd w0 (KeL z S m R) w) (h:KeC m) (x:qQY) {nv:Value} (hs:Srg w0 R nv x.needs) (hL:x.needs.length≤100000) (hE:qQO m.tk x=0) :
    Calls Tryz.prog 21 #[.pointer (some ⟨z.k,0,none⟩),qYL x nv] w fun e w'=>e=.returned (.int .i64 (if m.busy x=true then 24 else 0))∧Hd w0 (KeL z S m R) w':=by
  obtain ⟨k,cl,rg,y⟩:=z
  obtain ⟨a,c,hv⟩:=hs.form
  subst hv
  have H0:Hd w0 _ (w.alloc (.cells #[.string x.nm,.int .i64 x.lv,.int .i64 x.fr,.slice a x.needs.length c,.string x.cd,.int .i64 x.p,.int .i64 x.f,.int .i64 x.g] 36)):=H.fol
  have H1:Hd w0 (TkP y.x.t m.tk S::cel w.heap.size 36 #[.string x.nm,.int .i64 x.lv,.int .i64 x.fr,.slice a x.needs.length c,.string x.cd,.int .i64 x.p,.int .i64 x.f,.int .i64 x.g]::cel k 53 #[.pointer (some ⟨y.x.l,0,none⟩),.pointer (some ⟨y.x.t,0,none⟩),.pointer (some ⟨y.d,0,none⟩),.pointer (some ⟨cl,0,none⟩),.pointer (some ⟨rg,0,none⟩)]::qQE cl m.ck::qQT rg m.ev::cel y.d 123 #[.pointer (some ⟨y.x.l,0,none⟩),.pointer (some ⟨y.x.t,0,none⟩),.pointer (some ⟨y.c,0,none⟩),.pointer (some ⟨y.q,0,none⟩),.int .i64 m.dp.count] ::
    cel y.c 194 (qQj y.c y.x.l)::LkP y.x S m.dp.co::WqP y.q m.dp.wq::ro S::R) _:=H0.re
  have hc:=qWF H1.drew h.t x (hs.of fun h=>by exact (Hd.re h:Hd w0 R _)) (by omega)
  rw [hE] at hc
  have k1:=(show _=some (Value.pointer (some ⟨y.x.t,0,none⟩)) from (H0.k k).ce 1 rfl)
  have hf:=(H0.k w.heap.size).fact1
  simp only [Nat.reduceAdd] at hf
  go_split_ands
  have hnr:=qXX (by rw [hE];decide) (qKp x.cd)
  obtain ⟨V,hV⟩:∃V:Int,(if m.busy x=true then 24 else 0)=V:=⟨_,rfl⟩
  rw [hV]
  replace hV:=Lib.hid hV
  replace hnr:=Lib.hid hnr
  have hho:=fun (w1:World) (X:List Pr) (r:Nat) (hr:r<m.dp.co.un.units.length) (h1:Hd w0 (LkP y.x S m.dp.co::X) w1)=>qYp h1 h.u hr
  replace hho:=Lib.hid hho
  have huu:=Lib.hid h.uu
  replace hs:=Lib.hid hs
  replace hE:=Lib.hid hE
  clear H H1
  go_enter Tryz.func21,Tryz.ntmps21
  go_wp2_with fail
  refine wm 5 [(0,true),(1,true),(2,true),(3,true),(4,true)] (fun w'=>w'.cell? ⟨k,1,none⟩=some (.pointer (some ⟨y.x.t,0,none⟩))∧w'.cell? ⟨w.heap.size,0,none⟩=some (.string x.nm)∧w'.cell? ⟨w.heap.size,1,none⟩=some (.int .i64 x.lv)∧w'.cell? ⟨w.heap.size,2,none⟩=some (.int .i64 x.fr)∧w'.cell? ⟨w.heap.size,3,none⟩=some (.slice a x.needs.length c)∧w'.cell? ⟨w.heap.size,4,none⟩=some (.string x.cd)∧w'.cell? ⟨w.heap.size,5,none⟩=some (.int .i64 x.p)∧w'.cell? ⟨w.heap.size,6,none⟩=some (.int .i64 x.f)∧w'.cell? ⟨w.heap.size,7,none⟩=some (.int .i64 x.g)) (⟨k1,(show _=some _ from (H0.drew.k w.heap.size).ce 0 rfl),(show _=some _ from (H0.drew.k w.heap.size).ce 1 rfl),(show _=some _ from (H0.drew.k w.heap.size).ce 2 rfl),(show _=some _ from (H0.drew.k w.heap.size).ce 3 rfl),(show _=some _ from (H0.drew.k w.heap.size).ce 4 rfl),(show _=some _ from (H0.drew.k w.heap.size).ce 5 rfl),(show _=some _ from (H0.drew.k w.heap.size).ce 6 rfl),(show _=some _ from (H0.drew.k w.heap.size).ce 7 rfl)⟩) ?_
  simp only [List.drop_succ_cons,List.drop_zero]
  iterate 5 (refine mh ?_;(try simp only [Act.put,List.setIfInBounds_toArray,List.set_cons_zero,List.set_cons_succ]))
  refine qQe ?_
  (try dsimp only)
  go_wp2_with fail
  refine hc.mono ?_
  rintro e w1 ⟨rfl,H2⟩
  clear hc H0
  have k3:=(show _=some (Value.slice a x.needs.length c) from (H2.k w.heap.size).ce 3 rfl)
  have H3:Hd w0 (LkP y.x S m.dp.co::cel w.heap.size 36 #[.string x.nm,.int .i64 x.lv,.int .i64 x.fr,.slice a x.needs.length c,.string x.cd,.int .i64 x.p,.int .i64 x.f,.int .i64 x.g]::cel k 53 #[.pointer (some ⟨y.x.l,0,none⟩),.pointer (some ⟨y.x.t,0,none⟩),.pointer (some ⟨y.d,0,none⟩),.pointer (some ⟨cl,0,none⟩),.pointer (some ⟨rg,0,none⟩)]::qQE cl m.ck::qQT rg m.ev::cel y.d 123 #[.pointer (some ⟨y.x.l,0,none⟩),.pointer (some ⟨y.x.t,0,none⟩),.pointer (some ⟨y.c,0,none⟩),.pointer (some ⟨y.q,0,none⟩),.int .i64 m.dp.count]::cel y.c 194 (qQj y.c y.x.l)::WqP y.q m.dp.wq::TkP y.x.t m.tk S::ro S::R) w1:=H2.re
  go_wp2_with fail
  go_loopw [24] (fun v wr=>∃q:Nat,q≤x.needs.length∧v=.int .i64 q∧(∀(i:Nat) (n:qZy),i<q→x.needs[i]? = some n→¬0<(qQS m.dp.co.un n.res.toNat).length)∧Hd w0 (LkP y.x S m.dp.co::cel w.heap.size 36 #[.string x.nm,.int .i64 x.lv,.int .i64 x.fr,.slice a x.needs.length c,.string x.cd,.int .i64 x.p,.int .i64 x.f,.int .i64 x.g]::cel k 53 #[.pointer (some ⟨y.x.l,0,none⟩),.pointer (some ⟨y.x.t,0,none⟩),.pointer (some ⟨y.d,0,none⟩),.pointer (some ⟨cl,0,none⟩),.pointer (some ⟨rg,0,none⟩)]::qQE cl m.ck::qQT rg m.ev::cel y.d 123 #[.pointer (some ⟨y.x.l,0,none⟩),.pointer (some ⟨y.x.t,0,none⟩),.pointer (some ⟨y.c,0,none⟩),.pointer (some ⟨y.q,0,none⟩),.int .i64 m.dp.count]::cel y.c 194 (qQj y.c y.x.l)::WqP y.q m.dp.wq::TkP y.x.t m.tk S::ro S::R) wr) (fun v _=>x.needs.length-(intOf v).toNat)
  case atStart=>exact ⟨0,Nat.zero_le _,rfl,fun i n hi=>by omega,H3⟩
  case round =>
    clear H3 H2 k3
    obtain ⟨q,hq,rfl,hno,H4⟩:=hrel
    by_cases hlt:q<x.needs.length
    · obtain ⟨n,hn⟩:∃n,x.needs[q]? = some n:=⟨x.needs[q],List.getElem?_eq_getElem hlt⟩
      obtain ⟨g2,go2,c2,hnv,-,hcell⟩:=(hs.out).at hn
      injection hnv with q1 q2 q3
      subst q1
      subst q3
      clear q2
      have hR:Hd w0 R wr:=H4.re
      have f0:=hcell hR 0 _ rfl
      have f1:=hcell hR 1 _ rfl
      simp only [Enc.size,Nat.add_zero] at f0 f1
      have n1:(q:Int)<x.needs.length:=by omega
      have n2:¬(q:Int)<0:=by omega
      have n3:¬x.needs.length≤q:=by omega
      have g6:IntKind.i64.wrap ((q:Int)+1)=(q:Int)+1:=IntWalk.i64_in _ (by omega)
      have hb:=hnr.out n (List.mem_of_getElem? hn)
      obtain ⟨r,hr⟩:∃r:Nat,n.res=r:=⟨n.res.toNat,by omega⟩
      have hrt:n.res.toNat=r:=by omega
      have H5:Hd w0 _ (wr.alloc (.cells #[.int .i64 n.res,.int .i64 n.units] 63)):=H4.fol
      have H5a:Hd w0 (LkP y.x S m.dp.co::cel wr.heap.size 63 #[.int .i64 n.res,.int .i64 n.units]::cel w.heap.size 36 #[.string x.nm,.int .i64 x.lv,.int .i64 x.fr,.slice (some ⟨g2,go2,none⟩) x.needs.length c,.string x.cd,.int .i64 x.p,.int .i64 x.f,.int .i64 x.g]::cel k 53 #[.pointer (some ⟨y.x.l,0,none⟩),.pointer (some ⟨y.x.t,0,none⟩),.pointer (some ⟨y.d,0,none⟩),.pointer (some ⟨cl,0,none⟩),.pointer (some ⟨rg,0,none⟩)]::qQE cl m.ck::qQT rg m.ev::cel y.d 123 #[.pointer (some ⟨y.x.l,0,none⟩),.pointer (some ⟨y.x.t,0,none⟩),.pointer (some ⟨y.c,0,none⟩),.pointer (some ⟨y.q,0,none⟩),.int .i64 m.dp.count]::cel y.c 194 (qQj y.c y.x.l)::WqP y.q m.dp.wq::TkP y.x.t m.tk S::ro S::R) (wr.alloc (.cells #[.int .i64 n.res,.int .i64 n.units] 63)):=H5.re
      have hcl:=hho.out _ _ r (by rw [huu.out];omega) H5a.drew
      rw [← hr] at hcl
      have d0:=(show _=some (Value.int .i64 n.res) from (H5a.k wr.heap.size).ce 0 rfl)
      have d1:=(show _=some (Value.pointer (some ⟨y.x.l,0,none⟩)) from (H5a.k k).ce 0 rfl)
      replace hr:=Lib.hid hr
      replace hno:=Lib.hid hno
      replace hn:=Lib.hid hn
      clear hcell hR H4 H5
      go_wp2_with fail
      refine wp_region_still_tail 6 (by kernel_rfl) (by kernel_rfl) ?_
      simp only [List.take_succ_cons,List.take_zero,List.drop_succ_cons,List.drop_zero,World.drew_eq]
      (repeat still_step)
      refine wpStill_nil ?_
      go_wp2_with fail
      refine hcl.mono ?_
      rintro e w3 ⟨v,rfl,H6⟩
      clear hcl
      obtain ⟨a3,c3,rfl,-,-,-,-⟩:=H6.slc_form
      obtain ⟨P,hP⟩:∃P,(qQS m.dp.co.un r).length=P:=⟨_,rfl⟩
      rw [hP] at H6
      by_cases hp0:0<P
      · have p1:(0:Int)<P:=by omega
        have hbz:m.busy x=true:=by
          unfold KeM.busy
          rw [List.any_eq_true]
          exact ⟨n,List.mem_of_getElem? hn.out,by rw [hrt,hP];simpa using hp0⟩
        replace hP:=Lib.hid hP
        replace hbz:=Lib.hid hbz
        rw [hP.out]
        go_wp2_with fail
        go_ret
        exact ⟨qQp (by rw [← hV.out,if_pos hbz.out]),H6.re⟩
      · have p1:¬(0:Int)<P:=by omega
        have hP0:¬0<(qQS m.dp.co.un n.res.toNat).length:=by rw [hrt,hP];exact hp0
        replace hP:=Lib.hid hP
        replace hP0:=Lib.hid hP0
        rw [hP.out]
        go_wp2_with fail
        go_roundw
        case rel =>
          refine ⟨q+1,by omega,by simp,fun i n2 hi hn2=>?_,H6.re⟩
          by_cases hiq:i=q
          · subst hiq
            have:=hn.out
            rw [hn2] at this
            injection this with this
            rw [this]
            exact hP0.out
          · exact hno.out i n2 (by omega) hn2
        case measure=>simp [intOf];omega
    · obtain rfl:q=x.needs.length:=by omega
      have hbz:¬m.busy x=true:=by
        unfold KeM.busy
        rw [List.any_eq_true]
        rintro ⟨n,hn,hh⟩
        obtain ⟨i,hi,rfl⟩:=List.mem_iff_getElem.1 hn
        have:=hno i _ hi (List.getElem?_eq_getElem hi)
        simp at hh
        omega
      replace hbz:=Lib.hid hbz
      go_wp2_with fail
      go_ret
      exact ⟨qQp (by rw [← hV.out,if_neg hbz.out]),H4.re⟩
end
end
section
open Go.RowKit Spl
section
variable {w0 w:World} {R:List Pr} {S:Hp} {z:KeV} {m:KeM}
theorem qq6 [Lay w0 R] (H:Hd w0 (KeL z S m R) w) (h:KeC m) (x:qQY) {nv:Value} (hs:Srg w0 R nv x.needs) (hL:x.needs.length≤100000) (hE:qQO m.tk x=25) :
    Calls Tryz.prog 21 #[.pointer (some ⟨z.k,0,none⟩),qYL x nv] w fun e w'=>e=.returned (.int .i64 (if m.busy x=true then 24 else 25))∧Hd w0 (KeL z S m R) w':=by
  obtain ⟨k,cl,rg,y⟩:=z
  obtain ⟨a,c,hv⟩:=hs.form
  subst hv
  have H0:Hd w0 _ (w.alloc (.cells #[.string x.nm,.int .i64 x.lv,.int .i64 x.fr,.slice a x.needs.length c,.string x.cd,.int .i64 x.p,.int .i64 x.f,.int .i64 x.g] 36)):=H.fol
  have H1:Hd w0 (TkP y.x.t m.tk S::cel w.heap.size 36 #[.string x.nm,.int .i64 x.lv,.int .i64 x.fr,.slice a x.needs.length c,.string x.cd,.int .i64 x.p,.int .i64 x.f,.int .i64 x.g]::cel k 53 #[.pointer (some ⟨y.x.l,0,none⟩),.pointer (some ⟨y.x.t,0,none⟩),.pointer (some ⟨y.d,0,none⟩),.pointer (some ⟨cl,0,none⟩),.pointer (some ⟨rg,0,none⟩)]::qQE cl m.ck::qQT rg m.ev::cel y.d 123 #[.pointer (some ⟨y.x.l,0,none⟩),.pointer (some ⟨y.x.t,0,none⟩),.pointer (some ⟨y.c,0,none⟩),.pointer (some ⟨y.q,0,none⟩),.int .i64 m.dp.count] ::
    cel y.c 194 (qQj y.c y.x.l)::LkP y.x S m.dp.co::WqP y.q m.dp.wq::ro S::R) _:=H0.re
  have hc:=qWF H1.drew h.t x (hs.of fun h=>by exact (Hd.re h:Hd w0 R _)) (by omega)
  rw [hE] at hc
  have k1:=(show _=some (Value.pointer (some ⟨y.x.t,0,none⟩)) from (H0.k k).ce 1 rfl)
  have hf:=(H0.k w.heap.size).fact1
  simp only [Nat.reduceAdd] at hf
  go_split_ands
  have hnr:=qXX (by rw [hE];decide) (qKp x.cd)
  obtain ⟨V,hV⟩:∃V:Int,(if m.busy x=true then 24 else 25)=V:=⟨_,rfl⟩
  rw [hV]
  replace hV:=Lib.hid hV
  replace hnr:=Lib.hid hnr
  have hho:=fun (w1:World) (X:List Pr) (r:Nat) (hr:r<m.dp.co.un.units.length) (h1:Hd w0 (LkP y.x S m.dp.co::X) w1)=>qYp h1 h.u hr
  replace hho:=Lib.hid hho
  have huu:=Lib.hid h.uu
  replace hs:=Lib.hid hs
  replace hE:=Lib.hid hE
  clear H H1
  go_enter Tryz.func21,Tryz.ntmps21
  go_wp2_with fail
  refine wm 5 [(0,true),(1,true),(2,true),(3,true),(4,true)] (fun w'=>w'.cell? ⟨k,1,none⟩=some (.pointer (some ⟨y.x.t,0,none⟩))∧w'.cell? ⟨w.heap.size,0,none⟩=some (.string x.nm)∧w'.cell? ⟨w.heap.size,1,none⟩=some (.int .i64 x.lv)∧w'.cell? ⟨w.heap.size,2,none⟩=some (.int .i64 x.fr)∧w'.cell? ⟨w.heap.size,3,none⟩=some (.slice a x.needs.length c)∧w'.cell? ⟨w.heap.size,4,none⟩=some (.string x.cd)∧w'.cell? ⟨w.heap.size,5,none⟩=some (.int .i64 x.p)∧w'.cell? ⟨w.heap.size,6,none⟩=some (.int .i64 x.f)∧w'.cell? ⟨w.heap.size,7,none⟩=some (.int .i64 x.g)) (⟨k1,(show _=some _ from (H0.drew.k w.heap.size).ce 0 rfl),(show _=some _ from (H0.drew.k w.heap.size).ce 1 rfl),(show _=some _ from (H0.drew.k w.heap.size).ce 2 rfl),(show _=some _ from (H0.drew.k w.heap.size).ce 3 rfl),(show _=some _ from (H0.drew.k w.heap.size).ce 4 rfl),(show _=some _ from (H0.drew.k w.heap.size).ce 5 rfl),(show _=some _ from (H0.drew.k w.heap.size).ce 6 rfl),(show _=some _ from (H0.drew.k w.heap.size).ce 7 rfl)⟩) ?_
  simp only [List.drop_succ_cons,List.drop_zero]
  iterate 5 (refine mh ?_;(try simp only [Act.put,List.setIfInBounds_toArray,List.set_cons_zero,List.set_cons_succ]))
  refine qQe ?_
  (try dsimp only)
  go_wp2_with fail
  refine hc.mono ?_
  rintro e w1 ⟨rfl,H2⟩
  clear hc H0
  have k3:=(show _=some (Value.slice a x.needs.length c) from (H2.k w.heap.size).ce 3 rfl)
  have H3:Hd w0 (LkP y.x S m.dp.co::cel w.heap.size 36 #[.string x.nm,.int .i64 x.lv,.int .i64 x.fr,.slice a x.needs.length c,.string x.cd,.int .i64 x.p,.int .i64 x.f,.int .i64 x.g]::cel k 53 #[.pointer (some ⟨y.x.l,0,none⟩),.pointer (some ⟨y.x.t,0,none⟩),.pointer (some ⟨y.d,0,none⟩),.pointer (some ⟨cl,0,none⟩),.pointer (some ⟨rg,0,none⟩)]::qQE cl m.ck::qQT rg m.ev::cel y.d 123 #[.pointer (some ⟨y.x.l,0,none⟩),.pointer (some ⟨y.x.t,0,none⟩),.pointer (some ⟨y.c,0,none⟩),.pointer (some ⟨y.q,0,none⟩),.int .i64 m.dp.count]::cel y.c 194 (qQj y.c y.x.l)::WqP y.q m.dp.wq::TkP y.x.t m.tk S::ro S::R) w1:=H2.re
  go_wp2_with fail
  go_loopw [24] (fun v wr=>∃q:Nat,q≤x.needs.length∧v=.int .i64 q∧(∀(i:Nat) (n:qZy),i<q→x.needs[i]? = some n→¬0<(qQS m.dp.co.un n.res.toNat).length)∧Hd w0 (LkP y.x S m.dp.co::cel w.heap.size 36 #[.string x.nm,.int .i64 x.lv,.int .i64 x.fr,.slice a x.needs.length c,.string x.cd,.int .i64 x.p,.int .i64 x.f,.int .i64 x.g]::cel k 53 #[.pointer (some ⟨y.x.l,0,none⟩),.pointer (some ⟨y.x.t,0,none⟩),.pointer (some ⟨y.d,0,none⟩),.pointer (some ⟨cl,0,none⟩),.pointer (some ⟨rg,0,none⟩)]::qQE cl m.ck::qQT rg m.ev::cel y.d 123 #[.pointer (some ⟨y.x.l,0,none⟩),.pointer (some ⟨y.x.t,0,none⟩),.pointer (some ⟨y.c,0,none⟩),.pointer (some ⟨y.q,0,none⟩),.int .i64 m.dp.count]::cel y.c 194 (qQj y.c y.x.l)::WqP y.q m.dp.wq::TkP y.x.t m.tk S::ro S::R) wr) (fun v _=>x.needs.length-(intOf v).toNat)
  case atStart=>exact ⟨0,Nat.zero_le _,rfl,fun i n hi=>by omega,H3⟩
  case round =>
    clear H3 H2 k3
    obtain ⟨q,hq,rfl,hno,H4⟩:=hrel
    by_cases hlt:q<x.needs.length
    · obtain ⟨n,hn⟩:∃n,x.needs[q]? = some n:=⟨x.needs[q],List.getElem?_eq_getElem hlt⟩
      obtain ⟨g2,go2,c2,hnv,-,hcell⟩:=(hs.out).at hn
      injection hnv with q1 q2 q3
      subst q1
      subst q3
      clear q2
      have hR:Hd w0 R wr:=H4.re
      have f0:=hcell hR 0 _ rfl
      have f1:=hcell hR 1 _ rfl
      simp only [Enc.size,Nat.add_zero] at f0 f1
      have n1:(q:Int)<x.needs.length:=by omega
      have n2:¬(q:Int)<0:=by omega
      have n3:¬x.needs.length≤q:=by omega
      have g6:IntKind.i64.wrap ((q:Int)+1)=(q:Int)+1:=IntWalk.i64_in _ (by omega)
      have hb:=hnr.out n (List.mem_of_getElem? hn)
      obtain ⟨r,hr⟩:∃r:Nat,n.res=r:=⟨n.res.toNat,by omega⟩
      have hrt:n.res.toNat=r:=by omega
      have H5:Hd w0 _ (wr.alloc (.cells #[.int .i64 n.res,.int .i64 n.units] 63)):=H4.fol
      have H5a:Hd w0 (LkP y.x S m.dp.co::cel wr.heap.size 63 #[.int .i64 n.res,.int .i64 n.units]::cel w.heap.size 36 #[.string x.nm,.int .i64 x.lv,.int .i64 x.fr,.slice (some ⟨g2,go2,none⟩) x.needs.length c,.string x.cd,.int .i64 x.p,.int .i64 x.f,.int .i64 x.g]::cel k 53 #[.pointer (some ⟨y.x.l,0,none⟩),.pointer (some ⟨y.x.t,0,none⟩),.pointer (some ⟨y.d,0,none⟩),.pointer (some ⟨cl,0,none⟩),.pointer (some ⟨rg,0,none⟩)]::qQE cl m.ck::qQT rg m.ev::cel y.d 123 #[.pointer (some ⟨y.x.l,0,none⟩),.pointer (some ⟨y.x.t,0,none⟩),.pointer (some ⟨y.c,0,none⟩),.pointer (some ⟨y.q,0,none⟩),.int .i64 m.dp.count]::cel y.c 194 (qQj y.c y.x.l)::WqP y.q m.dp.wq::TkP y.x.t m.tk S::ro S::R) (wr.alloc (.cells #[.int .i64 n.res,.int .i64 n.units] 63)):=H5.re
      have hcl:=hho.out _ _ r (by rw [huu.out];omega) H5a.drew
      rw [← hr] at hcl
      have d0:=(show _=some (Value.int .i64 n.res) from (H5a.k wr.heap.size).ce 0 rfl)
      have d1:=(show _=some (Value.pointer (some ⟨y.x.l,0,none⟩)) from (H5a.k k).ce 0 rfl)
      replace hr:=Lib.hid hr
      replace hno:=Lib.hid hno
      replace hn:=Lib.hid hn
      clear hcell hR H4 H5
      go_wp2_with fail
      refine wp_region_still_tail 6 (by kernel_rfl) (by kernel_rfl) ?_
      simp only [List.take_succ_cons,List.take_zero,List.drop_succ_cons,List.drop_zero,World.drew_eq]
      (repeat still_step)
      refine wpStill_nil ?_
      go_wp2_with fail
      refine hcl.mono ?_
      rintro e w3 ⟨v,rfl,H6⟩
      clear hcl
      obtain ⟨a3,c3,rfl,-,-,-,-⟩:=H6.slc_form
      obtain ⟨P,hP⟩:∃P,(qQS m.dp.co.un r).length=P:=⟨_,rfl⟩
      rw [hP] at H6
      by_cases hp0:0<P
      · have p1:(0:Int)<P:=by omega
        have hbz:m.busy x=true:=by
          unfold KeM.busy
          rw [List.any_eq_true]
          exact ⟨n,List.mem_of_getElem? hn.out,by rw [hrt,hP];simpa using hp0⟩
        replace hP:=Lib.hid hP
        replace hbz:=Lib.hid hbz
        rw [hP.out]
        go_wp2_with fail
        go_ret
        exact ⟨qQp (by rw [← hV.out,if_pos hbz.out]),H6.re⟩
      · have p1:¬(0:Int)<P:=by omega
        have hP0:¬0<(qQS m.dp.co.un n.res.toNat).length:=by rw [hrt,hP];exact hp0
        replace hP:=Lib.hid hP
        replace hP0:=Lib.hid hP0
        rw [hP.out]
        go_wp2_with fail
        go_roundw
        case rel =>
          refine ⟨q+1,by omega,by simp,fun i n2 hi hn2=>?_,H6.re⟩
          by_cases hiq:i=q
          · subst hiq
            have:=hn.out
            rw [hn2] at this
            injection this with this
            rw [this]
            exact hP0.out
          · exact hno.out i n2 (by omega) hn2
        case measure=>simp [intOf];omega
    · obtain rfl:q=x.needs.length:=by omega
      have hbz:¬m.busy x=true:=by
        unfold KeM.busy
        rw [List.any_eq_true]
        rintro ⟨n,hn,hh⟩
        obtain ⟨i,hi,rfl⟩:=List.mem_iff_getElem.1 hn
        have:=hno i _ hi (List.getElem?_eq_getElem hi)
        simp at hh
        omega
      replace hbz:=Lib.hid hbz
      go_wp2_with fail
      go_ret
      exact ⟨qQp (by rw [← hV.out,if_neg hbz.out]),H4.re⟩
end
end
end Go.Proofs.YtkchopnkdjnocaaGreatDoor
