/-
  Merged texts of one proof: Tk4, Tk5, Tk6, Tk7, Tk8, Un11.
-/
import Derived.Test.YtkchopnkdjnocaaGreatDoorG05
import Derived.Test.YtkchopnkdjnocaaGreatDoorG13
import Derived.Test.YtkchopnkdjnocaaGreatDoorG18
import Derived.Test.YtkchopnkdjnocaaGreatDoorG29
import Derived.Test.YtkchopnkdjnocaaGreatDoorG31

set_option maxHeartbeats 16000000
set_option maxRecDepth 20000
namespace Go.Proofs.YtkchopnkdjnocaaGreatDoor
section
open Go.RowKit Spl
section
variable {w0 w:World} {R:List Pr} {t:Nat} {m:TkM} {S:Hp}
theorem zZi (H:Hd w0 (TkP t m S::ro S::R) w) (hm:m.Ok) {i:Nat} {r:RowM} (hr:m.rows[i]? = some r) :
    Calls Tryz.prog 104 #[.pointer (some ⟨t,0,none⟩),.int .i64 i] w fun e w'=>∃v,e=.returned (.tuple #[v,.bool true])∧Hd w0 (SlE 83 v r.steps::TkP t m S::ro S::R) w':=by
  obtain ⟨⟨vu,vr,vn,rows⟩,hx,H1⟩:=TkP.opened H
  dsimp only at hx H1
  obtain ⟨v,hv,hrv⟩:=hx.get hr
  have hnd:=(hm.st r (List.mem_of_getElem? hr))
  have hat:=qJ4 (o:=2) ((H1.v vr).k t) rfl (by rw [hx.len];have:=hm.n;omega) i v hv
  have hrn:=hrv.steps
  obtain ⟨nm,lv,fr,na,nl,nc,cd,p,f,g,sa,sl,sc⟩:=v
  dsimp only at hat hrn
  have hnn:=Lib.hid (fun (w1:World) (h:Hd w0 (ro S::R) w1)=>h.ro_news hrn)
  have hnl:sl=r.steps.length:=(Ros.form hrn)
  obtain ⟨i0,hi,hz0,hz1,hz2⟩:=info_parts qZS
  obtain ⟨L,hL⟩:∃L,r.steps=L:=⟨_,rfl⟩
  rw [hL] at hnn hnl hnd ⊢
  subst hnl
  have hfl:=Lib.hid (qQf L)
  replace hx:=Lib.hid hx
  clear H H1 hm hr hv hrn hL hrv
  go_enter Tryz.func104,Tryz.ntmps104
  go_wp2_with fail
  refine hat.mono ?_
  rintro e w1 ⟨rfl,H3⟩
  clear hat
  have H4:Hd w0 _ (w1.alloc (.cells #[.string nm,.int .i64 lv,.int .i64 fr,.slice na nl nc,.string cd,.int .i64 p,.int .i64 f,.int .i64 g,.slice sa L.length sc] 80)):=H3.fol
  have c3:=(show _=some (.slice sa L.length sc) from (H4.k w1.heap.size).ce 8 rfl)
  go_wp2_with fail
  refine wm 7 [(0,true),(1,true),(2,true),(4,true),(5,true),(3,false),(6,false)] (fun w'=>w'.cell? ⟨w1.heap.size,8,none⟩=some (.slice sa L.length sc)) (c3) ?_
  simp only [List.drop_succ_cons,List.drop_zero]
  iterate 5 (refine mh ?_;(try simp only [Act.put,List.setIfInBounds_toArray,List.set_cons_zero,List.set_cons_succ]))
  refine mm ?_
  go_wp2_with (at_make;(refine qQn rfl _ _ 78 rfl 83 i0 _ 4 Tryz.underlying78 hi hz0 hz1 rfl _ _ _ _ 0 L.length rfl rfl rfl rfl (by omega) (by rw [hz2];omega) (by unfold maxLen;omega) (Hd.drew H4) ?_);intro w2 H5;simp only [qQw,zQB,World.size_alloc] at H5)
  refine qQd ((show _=some (.slice sa L.length sc) from (H5.k w1.heap.size).ce 8 rfl)) ?_
  refine mm ?_
  have hn1:=Lib.hid (hnn.out _ H5.re)
  go_wp2_with (at_builtin;(refine qQl rfl _ _ 78 rfl 83 i0 4 Tryz.underlying78 hi hz1 _ 0 L.length [] rfl H5 sa L.length _ (flat L) rfl hfl.out hn1.out.2.1 hn1.out.2.2 (qQx L) (by omega) ?_);intro w3 H6;rw [Nat.zero_add,List.nil_append] at H6)
  have d3:=(show _=some (.slice sa L.length sc) from (H6.k w1.heap.size).ce 8 rfl)
  refine qQd d3 ?_
  refine qQe ?_
  (try dsimp only)
  go_wp2_with fail
  go_ret2
  refine ⟨_,rfl,?_⟩
  have HA:Hd w0 (SlcC 83 4 (w1.heap.size+1) L.length L.length (flat L)::cel t 77 #[.int .i64 m.words,vu,vr,vn]::SlE 3 vu m.units::SlE 80 vr rows::SlE 203 vn m.names::ro S::R) w3:=H6.re
  exact (TkP.shut (x:=⟨vu,vr,vn,rows⟩) (HA.slc_mk).d5 hx.out).b2
theorem zX4 (H:Hd w0 (TkP t m S::R) w) {i:Int} (hr:i<0∨m.rows.length≤i) :
    Calls Tryz.prog 104 #[.pointer (some ⟨t,0,none⟩),.int .i64 i] w fun e w'=>e=.returned (.tuple #[.slice none 0 0,.bool false])∧Hd w0 (TkP t m S::R) w':=by
  obtain ⟨⟨vu,vr,vn,rows⟩,hx,H1⟩:=TkP.opened H
  dsimp only at hx H1
  have hat:=qUz (o:=2) ((H1.v vr).k t) rfl i (by rw [hx.len];exact hr)
  replace hx:=Lib.hid hx
  clear H H1 hr
  go_enter Tryz.func104,Tryz.ntmps104
  go_wp2_with fail
  refine hat.mono ?_
  rintro e w1 ⟨rfl,H3⟩
  clear hat
  have HA:Hd w0 _ (w1.alloc (.cells #[.string ⟨#[]⟩,.int .i64 0,.int .i64 0,.slice none 0 0,.string ⟨#[]⟩,.int .i64 0,.int .i64 0,.int .i64 0,.slice none 0 0] 80)):=H3.fol
  go_wp2_with fail
  go_ret2
  exact ⟨rfl,TkP.shut (x:=⟨vu,vr,vn,rows⟩) (by exact HA.re) hx.out⟩
def qZi (l:List qZy) (res:Int):Int:=match l.find? (fun x=>x.res == res) with
  | some x=>x.units
  | none=>0
theorem qqy {res:Int}:qZi [] res=0:=rfl
theorem qKU {x:qZy} {l:List qZy} {res:Int}:qZi (x::l) res=if x.res=res then x.units else qZi l res:=by
  unfold qZi
  rw [List.find?_cons]
  by_cases h:x.res=res
  · have hb:(x.res == res)=true:=by simp [h]
    rw [hb,if_pos h]
  · have hb:(x.res == res)=false:=by simp [h]
    rw [hb,if_neg h]
theorem zQY (H:Hd w0 (TkP t m S::ro S::R) w) (hm:m.Ok) {i:Nat} {r:RowM} (hr:m.rows[i]? = some r) (res:Int) :
    Calls Tryz.prog 91 #[.pointer (some ⟨t,0,none⟩),.int .i64 i,.int .i64 res] w fun e w'=>e=.returned (.int .i64 (qZi r.t.needs res))∧Hd w0 (TkP t m S::ro S::R) w':=by
  obtain ⟨⟨vu,vr,vn,rows⟩,hx,H1⟩:=TkP.opened H
  dsimp only at hx H1
  obtain ⟨v,hv,hrv⟩:=hx.get hr
  have hnd:=(hm.nd r (List.mem_of_getElem? hr)).1
  have hat:=qJ4 (o:=2) ((H1.v vr).k t) rfl (by rw [hx.len];have:=hm.n;omega) i v hv
  have hrn:=hrv.needs
  obtain ⟨nm,lv,fr,na,nl,nc,cd,p,f,g,sa,sl,sc⟩:=v
  dsimp only at hat hrn
  have hsrd:=Srd.ro (w0:=w0) (R:=R) hrn
  have hnl:nl=r.t.needs.length:=(Ros.form hrn)
  obtain ⟨L,hL⟩:∃L,r.t.needs=L:=⟨_,rfl⟩
  rw [hL] at hsrd hnl hnd ⊢
  subst hnl
  replace hx:=Lib.hid hx
  replace hsrd:=Lib.hid hsrd
  clear H H1 hm hr hv hrn hL hrv
  go_enter Tryz.func91,Tryz.ntmps91
  go_wp2_with fail
  refine hat.mono ?_
  rintro e w1 ⟨rfl,H3⟩
  clear hat
  have HA:Hd w0 _ (w1.alloc (.cells #[.string nm,.int .i64 lv,.int .i64 fr,.slice na L.length nc,.string cd,.int .i64 p,.int .i64 f,.int .i64 g,.slice sa sl sc] 80)):=H3.fol
  go_wp2_with fail
  go_loopw [23] (fun x wr=>∃k:Nat,k≤L.length∧x=.int .i64 k∧qZi L res=qZi (L.drop k) res∧Hd w0 (cel t 77 #[.int .i64 m.words,vu,vr,vn]::SlE 3 vu m.units::SlE 80 vr rows::SlE 203 vn m.names::ro S::R) wr) (fun x _=>L.length-(intOf x).toNat)
  case atStart=>exact ⟨0,Nat.zero_le _,rfl,rfl,by exact HA.re⟩
  case round =>
    clear HA H3
    obtain ⟨k,hk,rfl,hN,H1⟩:=hrel
    by_cases hlt:k<L.length
    · obtain ⟨x,hxk⟩:∃x,L[k]? = some x:=⟨L[k],List.getElem?_eq_getElem hlt⟩
      rw [qKe hxk,qKU] at hN
      obtain ⟨g2,c2,hv2,-,hcell⟩:=hsrd.out.at hxk
      injection hv2 with q1 q2 q3
      subst q1;subst q3
      have f0:=hcell H1.re 0 _ rfl
      have f1:=hcell H1.re 1 _ rfl
      simp only [Enc.size,Nat.add_zero] at f0 f1
      have n1:¬(k:Int)<0:=by omega
      have n2:(k:Int)<L.length:=by omega
      have n3:¬L.length≤k:=by omega
      have g5:IntKind.i64.wrap ((k:Int)+1)=(k:Int)+1:=IntWalk.i64_in _ (by omega)
      obtain ⟨xr,xu⟩:=x
      dsimp only at hN f0 f1
      have HA:Hd w0 _ (wr.alloc (.cells #[.int .i64 xr,.int .i64 xu] 63)):=H1.fol
      clear hcell q2 H1 hxk
      by_cases he:xr=res
      · rw [if_pos he] at hN
        subst he
        replace hN:=Lib.hid hN
        go_wp2_with fail
        go_ret
        exact ⟨qQp hN.out,TkP.shut (x:=⟨vu,vr,vn,rows⟩) (by exact Hd.fin HA) hx.out⟩
      · rw [if_neg he] at hN
        replace hN:=Lib.hid hN
        go_wp2_with fail
        go_roundw
        case rel=>exact ⟨k+1,by omega,by simp,hN.out,by exact HA.re⟩
        case measure=>simp [intOf];omega
    · obtain rfl:k=L.length:=by omega
      rw [List.drop_length,qqy] at hN
      replace hN:=Lib.hid hN
      go_wp2_with fail
      go_ret
      exact ⟨qQp hN.out,TkP.shut (x:=⟨vu,vr,vn,rows⟩) H1 hx.out⟩
end
end
section
open Go.RowKit Spl
def qQB (s:ByteArray):List OpM × Int:=if (qZD s).2.2=0 then qZj (qZD s).1 else ([],(qZD s).2.2)
def qZp (units:List Int):List qZy→Option Int→Int
  | [],_=>0
  | x::l,pr=>if x.res<0∨(units.length:Int)≤x.res∨x.units<1∨(units[x.res.toNat]?.getD 0)<x.units then 1
    else if (match pr with | some p=>decide (x.res≤p) | none=>false)=true then 21 else qZp units l (some x.res)
theorem qZ9 {u:List Int} {x:qZy} {l:List qZy} {pr:Option Int}:qZp u (x::l) pr=if x.res<0∨(u.length:Int)≤x.res∨x.units<1∨(u[x.res.toNat]?.getD 0)<x.units then 1
    else if (match pr with | some p=>decide (x.res≤p) | none=>false)=true then 21 else qZp u l (some x.res):=by cases pr <;> rfl
theorem zKh {P:Program} {ops:Array Oper} {Q:Exit→Act→World→Prop} {S:World→Prop} {T:Act→World→Prop} {k:Nat} {r:List (Nat × Bool)} {o:Oper} {a:Act} {w:World} (hi:ops[k]? = some o) (hw:Region.wanted o (yielded ops a.tmps)=false)
    (h:qJm P ops Q S T r (a.put o.dst undef) w):qJm P ops Q S T ((k,true)::r) a w:=⟨o,undef,hi,.inr ⟨hw,rfl⟩,h⟩
theorem qWg {u:List Int} {pr:Option Int}:qZp u [] pr=0:=by cases pr <;> rfl
section
variable {w0 w:World} {R:List Pr} {t:Nat} {m:TkM} {S:Hp}
theorem zJL (H:Hd w0 R w) (nm lv fr nd cd:Value) (p f g:Int) :
    Calls Tryz.prog 80 #[qWk nm lv fr nd cd p f g] w fun e w'=>e=.returned (.bool (qQG p f g))∧Hd w0 R w':=by
  have i0:∀w,(Instr.index 238 (.agg #[.int .i64 p,.int .i64 f,.int .i64 g]) (.int .i64 0)).run Tryz.prog w=.ok (.int .i64 p) w:=fun _=>by kernel_rfl
  have i1:∀w,(Instr.index 238 (.agg #[.int .i64 p,.int .i64 f,.int .i64 g]) (.int .i64 1)).run Tryz.prog w=.ok (.int .i64 f) w:=fun _=>by kernel_rfl
  have i2:∀w,(Instr.index 238 (.agg #[.int .i64 p,.int .i64 f,.int .i64 g]) (.int .i64 2)).run Tryz.prog w=.ok (.int .i64 g) w:=fun _=>by kernel_rfl
  unfold qWk
  go_enter Tryz.func80,Tryz.ntmps80
  go_wp2
  have HA:=H.alloc (.cells #[nm,lv,fr,nd,cd,.int .i64 p,.int .i64 f,.int .i64 g] 36)
  go_loop [12] (fun i=>∃k:Nat,i=.int .i64 k∧zQD p f g k) (fun i=>3-(intOf i).toNat)
  case atStart=>exact ⟨0,rfl,.inl rfl⟩
  case round =>
    obtain ⟨k,rfl,hk⟩:=hrel
    rcases hk with rfl | ⟨rfl,h1,h2⟩ | ⟨rfl,h1,h2,h3,h4⟩ | ⟨rfl,h1,h2,h3,h4,h5,h6⟩
    · go_wp2
      all_goals first
        | (go_round
           case rel=>exact ⟨1,rfl,.inr (.inl ⟨rfl,by omega,by omega⟩)⟩
           case measure=>simp [intOf])
        | (go_ret;exact ⟨by rw [qXw (by omega)];rfl,HA.tail⟩)
    · go_wp2
      all_goals first
        | (go_round
           case rel=>exact ⟨2,rfl,.inr (.inr (.inl ⟨rfl,h1,h2,by omega,by omega⟩))⟩
           case measure=>simp [intOf])
        | (go_ret;exact ⟨by rw [qXw (by omega)];rfl,HA.tail⟩)
    · go_wp2
      all_goals first
        | (go_round
           case rel=>exact ⟨3,rfl,.inr (.inr (.inr ⟨rfl,h1,h2,h3,h4,by omega,by omega⟩))⟩
           case measure=>simp [intOf])
        | (go_ret;exact ⟨by rw [qXw (by omega)];rfl,HA.tail⟩)
    · have hV:=qY8 h1 h2 h3 h4 h5 h6
      by_cases e1:p=0
      · subst e1
        by_cases e3:0<f
        · have hv:qQG 0 f g=false:=by rw [hV];simp [e3]
          clear hV
          go_wp2
          go_ret
          exact ⟨by first | rfl | (rw [hv];rfl),HA.tail⟩
        · have hv:qQG 0 f g=true:=by rw [hV];simp [e3]
          clear hV
          go_wp2
          go_ret
          exact ⟨by first | rfl | (rw [hv];rfl),HA.tail⟩
      · have e1':(p == 0)=false:=by simpa using e1
        have e2':0<p:=by omega
        by_cases e3:g=0
        · subst e3
          by_cases e4:0<f
          · have hv:qQG p f 0=true:=by rw [hV];simp [e4,e2']
            clear hV
            go_wp2
            go_ret
            exact ⟨by first | rfl | (rw [hv];rfl),HA.tail⟩
          · have hv:qQG p f 0=false:=by rw [hV];simp [e4,e2']
            clear hV
            go_wp2
            go_ret
            exact ⟨by first | rfl | (rw [hv];rfl),HA.tail⟩
        · have e3':(g == 0)=false:=by simpa using e3
          have hv:qQG p f g=false:=by rw [hV];simp [e1,e3]
          clear hV
          go_wp2
          go_ret
          exact ⟨by first | rfl | (rw [hv];rfl),HA.tail⟩
theorem qW6 [Lay w0 R] (H:Hd w0 R w) (s:ByteArray):Calls Tryz.prog 77 #[.string s] w fun e w'=>∃v,e=.returned (.tuple #[v,.int .i64 (qQB s).2])∧Hd w0 (SlE 83 v (qQB s).1::R) w':=by
  have hp:=zJG H s
  by_cases hz:(qZD s).2.2=0
  · have e1:qQB s=qZj (qZD s).1:=by unfold qQB;rw [if_pos hz]
    rw [e1]
    rw [hz] at hp
    obtain ⟨P,hP⟩:∃P,(qZD s).1=P:=⟨_,rfl⟩
    rw [hP] at hp ⊢
    clear e1 hP hz
    go_enter Tryz.func77,Tryz.ntmps77
    go_wp2_with fail
    refine hp.mono ?_
    rintro e w1 ⟨v,rfl,H1⟩
    have hs:=zJJ H1 (Srd.slE H1)
    obtain ⟨a,c,rfl,-,-,-,-⟩:=H1.slc_form
    clear hp H
    go_wp2_with fail
    refine hs.mono ?_
    rintro e w2 ⟨v2,rfl,H2⟩
    go_wp2_with fail
    go_ret2
    exact ⟨_,rfl,H2.b2.tail⟩
  · have e1:qQB s=([],(qZD s).2.2):=by unfold qQB;rw [if_neg hz]
    rw [e1]
    obtain ⟨E,hE⟩:∃E,(qZD s).2.2=E:=⟨_,rfl⟩
    rw [hE] at hp hz ⊢
    clear e1 hE
    go_enter Tryz.func77,Tryz.ntmps77
    go_wp2_with fail
    refine hp.mono ?_
    rintro e w1 ⟨v,rfl,H1⟩
    go_wp2_with fail
    go_ret2
    exact ⟨_,rfl,H1.tail.slc_nil _ _⟩
theorem zJs (H:Hd w0 (TkP t m S::R) w) (hm:m.Ok) {v:Value} {L:List qZy} (hs:Srg w0 R v L) (hL:L.length≤1000000) :
    Calls Tryz.prog 81 #[.pointer (some ⟨t,0,none⟩),v] w fun e w'=>e=.returned (.int .i64 (qZp m.units L none))∧Hd w0 (TkP t m S::R) w':=by
  obtain ⟨⟨vu,vr,vn,rows⟩,hx,H1⟩:=TkP.opened H
  dsimp only at hx H1
  obtain ⟨au,cu,hvu,-,-,-,-⟩:=(H1.v vu).slc_form
  subst hvu
  have hu16:=hm.u
  obtain ⟨a,c,hv⟩:=hs.form
  subst hv
  replace hx:=Lib.hid hx
  replace hs:=Lib.hid hs
  clear H hm
  go_enter Tryz.func81,Tryz.ntmps81
  go_wp2_with fail
  go_loopw [9] (fun x wr=>∃(k:Nat) (pr:Option Int),k≤L.length∧x=.int .i64 k∧pr=(if k=0 then none else (L[k-1]?).map qZy.res)∧qZp m.units L none=qZp m.units (L.drop k) pr∧Hd w0 (cel t 77 #[.int .i64 m.words,.slice au m.units.length cu,vr,vn]::SlE 3 (.slice au m.units.length cu) m.units::SlE 80 vr rows::SlE 203 vn m.names::R) wr) (fun x _=>L.length-(intOf x).toNat)
  case atStart=>exact ⟨0,none,Nat.zero_le _,rfl,rfl,rfl,H1⟩
  case round =>
    clear H1
    obtain ⟨k,pr,hk,rfl,hpr,hN,H1⟩:=hrel
    by_cases hlt:k<L.length
    · obtain ⟨x,hxk⟩:∃x,L[k]? = some x:=⟨L[k],List.getElem?_eq_getElem hlt⟩
      rw [qKe hxk,qZ9] at hN
      obtain ⟨g2,go2,c2,hv2,-,hcell⟩:=hs.out.at hxk
      injection hv2 with q1 q2 q3
      subst q1;subst q3
      have f0:=hcell H1.re 0 _ rfl
      have f1:=hcell H1.re 1 _ rfl
      simp only [Enc.size,Nat.add_zero] at f0 f1
      have n1:¬(k:Int)<0:=by omega
      have n2:(k:Int)<L.length:=by omega
      have n3:¬L.length≤k:=by omega
      have g5:IntKind.i64.wrap ((k:Int)+1)=(k:Int)+1:=IntWalk.i64_in _ (by omega)
      obtain ⟨xr,xu⟩:=x
      dsimp only at hN f0 f1
      have HA:Hd w0 _ (wr.alloc (.cells #[.int .i64 xr,.int .i64 xu] 63)):=H1.fol
      have d1:=(show _=some (.slice au m.units.length cu) from (HA.k t).ce 1 rfl)
      have e0:=(show _=some (.int .i64 xr) from (HA.k wr.heap.size).ce 0 rfl)
      have e1:=(show _=some (.int .i64 xu) from (HA.k wr.heap.size).ce 1 rfl)
      by_cases b1:xr<0
      · have p1:decide (xr<0)=true:=by simpa using b1
        rw [if_pos (.inl b1)] at hN
        replace hN:=Lib.hid hN
        clear hcell q2 H1 hxk
        go_wp2_with fail
        refine wm0 [(0,true),(1,true),(2,true),(3,true),(4,true),(5,true),(6,true),(7,true),(8,true),(9,true),(10,true),(11,true),(12,true),(13,true),(14,true),(15,true),(16,true),(17,true),(18,true),(19,true),(20,true),(21,true),(22,true),(23,true),(24,true),(25,true),(26,true),(27,true),(28,true),(29,true),(30,true),(31,true)] (fun w'=>w'.cell? ⟨wr.heap.size,0,none⟩=some (.int .i64 xr)∧w'.cell? ⟨wr.heap.size,1,none⟩=some (.int .i64 xu)∧w'.cell? ⟨t,1,none⟩=some (.slice au m.units.length cu)) (⟨e0,e1,d1⟩) ?_
        iterate 4 (refine mh ?_;(try simp only [Act.put,List.setIfInBounds_toArray,List.set_cons_zero,List.set_cons_succ]))
        iterate 8 (refine ms ?_;(try simp only [Act.put,List.setIfInBounds_toArray,List.set_cons_zero,List.set_cons_succ]))
        iterate 2 (refine mh ?_;(try simp only [Act.put,List.setIfInBounds_toArray,List.set_cons_zero,List.set_cons_succ]))
        iterate 3 (refine ms ?_;(try simp only [Act.put,List.setIfInBounds_toArray,List.set_cons_zero,List.set_cons_succ]))
        iterate 2 (refine mh ?_;(try simp only [Act.put,List.setIfInBounds_toArray,List.set_cons_zero,List.set_cons_succ]))
        iterate 11 (refine ms ?_;(try simp only [Act.put,List.setIfInBounds_toArray,List.set_cons_zero,List.set_cons_succ]))
        iterate 2 (refine mh ?_;(try simp only [Act.put,List.setIfInBounds_toArray,List.set_cons_zero,List.set_cons_succ]))
        refine qQe ?_
        (try dsimp only)
        go_wp2_with fail
        go_ret
        exact ⟨qQp hN.out,TkP.shut (x:=⟨.slice au m.units.length cu,vr,vn,rows⟩) (by exact Hd.fin HA) hx.out⟩
      have p1:decide (xr<0)=false:=by simpa using b1
      by_cases b2:(m.units.length:Int)≤xr
      · have p2:decide ((m.units.length:Int)≤xr)=true:=by simpa using b2
        rw [if_pos (.inr (.inl b2))] at hN
        replace hN:=Lib.hid hN
        clear hcell q2 H1 hxk
        go_wp2_with fail
        refine wm0 [(0,true),(1,true),(2,true),(3,true),(4,true),(5,true),(6,true),(7,true),(8,true),(9,true),(10,true),(11,true),(12,true),(13,true),(14,true),(15,true),(16,true),(17,true),(18,true),(19,true),(20,true),(21,true),(22,true),(23,true),(24,true),(25,true),(26,true),(27,true),(28,true),(29,true),(30,true),(31,true)] (fun w'=>w'.cell? ⟨wr.heap.size,0,none⟩=some (.int .i64 xr)∧w'.cell? ⟨wr.heap.size,1,none⟩=some (.int .i64 xu)∧w'.cell? ⟨t,1,none⟩=some (.slice au m.units.length cu)) (⟨e0,e1,d1⟩) ?_
        iterate 4 (refine mh ?_;(try simp only [Act.put,List.setIfInBounds_toArray,List.set_cons_zero,List.set_cons_succ]))
        iterate 8 (refine mh ?_;(try simp only [Act.put,List.setIfInBounds_toArray,List.set_cons_zero,List.set_cons_succ]))
        iterate 2 (refine mh ?_;(try simp only [Act.put,List.setIfInBounds_toArray,List.set_cons_zero,List.set_cons_succ]))
        iterate 3 (refine ms ?_;(try simp only [Act.put,List.setIfInBounds_toArray,List.set_cons_zero,List.set_cons_succ]))
        iterate 2 (refine mh ?_;(try simp only [Act.put,List.setIfInBounds_toArray,List.set_cons_zero,List.set_cons_succ]))
        iterate 11 (refine ms ?_;(try simp only [Act.put,List.setIfInBounds_toArray,List.set_cons_zero,List.set_cons_succ]))
        iterate 2 (refine mh ?_;(try simp only [Act.put,List.setIfInBounds_toArray,List.set_cons_zero,List.set_cons_succ]))
        refine qQe ?_
        (try dsimp only)
        go_wp2_with fail
        go_ret
        exact ⟨qQp hN.out,TkP.shut (x:=⟨.slice au m.units.length cu,vr,vn,rows⟩) (by exact Hd.fin HA) hx.out⟩
      have p2:decide ((m.units.length:Int)≤xr)=false:=by simpa using b2
      by_cases b3:xu<1
      · have p3:decide (xu<1)=true:=by simpa using b3
        rw [if_pos (.inr (.inr (.inl b3)))] at hN
        replace hN:=Lib.hid hN
        clear hcell q2 H1 hxk
        go_wp2_with fail
        refine wm0 [(0,true),(1,true),(2,true),(3,true),(4,true),(5,true),(6,true),(7,true),(8,true),(9,true),(10,true),(11,true),(12,true),(13,true),(14,true),(15,true),(16,true),(17,true),(18,true),(19,true),(20,true),(21,true),(22,true),(23,true),(24,true),(25,true),(26,true),(27,true),(28,true),(29,true),(30,true),(31,true)] (fun w'=>w'.cell? ⟨wr.heap.size,0,none⟩=some (.int .i64 xr)∧w'.cell? ⟨wr.heap.size,1,none⟩=some (.int .i64 xu)∧w'.cell? ⟨t,1,none⟩=some (.slice au m.units.length cu)) (⟨e0,e1,d1⟩) ?_
        iterate 4 (refine mh ?_;(try simp only [Act.put,List.setIfInBounds_toArray,List.set_cons_zero,List.set_cons_succ]))
        iterate 8 (refine mh ?_;(try simp only [Act.put,List.setIfInBounds_toArray,List.set_cons_zero,List.set_cons_succ]))
        iterate 2 (refine mh ?_;(try simp only [Act.put,List.setIfInBounds_toArray,List.set_cons_zero,List.set_cons_succ]))
        iterate 3 (refine mh ?_;(try simp only [Act.put,List.setIfInBounds_toArray,List.set_cons_zero,List.set_cons_succ]))
        iterate 2 (refine mh ?_;(try simp only [Act.put,List.setIfInBounds_toArray,List.set_cons_zero,List.set_cons_succ]))
        iterate 11 (refine ms ?_;(try simp only [Act.put,List.setIfInBounds_toArray,List.set_cons_zero,List.set_cons_succ]))
        iterate 2 (refine mh ?_;(try simp only [Act.put,List.setIfInBounds_toArray,List.set_cons_zero,List.set_cons_succ]))
        refine qQe ?_
        (try dsimp only)
        go_wp2_with fail
        go_ret
        exact ⟨qQp hN.out,TkP.shut (x:=⟨.slice au m.units.length cu,vr,vn,rows⟩) (by exact Hd.fin HA) hx.out⟩
      have p3:decide (xu<1)=false:=by simpa using b3
      obtain ⟨r,rfl⟩:∃r:Nat,xr=r:=⟨xr.toNat,by omega⟩
      have hrl:r<m.units.length:=by omega
      obtain ⟨U,hU⟩:∃U,m.units[r]? = some U:=⟨m.units[r],List.getElem?_eq_getElem hrl⟩
      rw [Int.toNat_natCast,hU,Option.getD_some] at hN
      obtain ⟨gu,cu2,hvu,-,-,-,hcu⟩:=(HA.v (.slice au m.units.length cu)).slE_at hU
      injection hvu with r1 r2 r3
      subst r1;subst r3
      have u0:=hcu 0 _ rfl
      simp only [Enc.size,Nat.add_zero,Nat.mul_one] at u0
      have m1:¬m.units.length≤r:=by omega
      have m2:(r:Int)<m.units.length:=by omega
      have m3:(0:Int)≤r:=by omega
      have m4:(r:Int)≤m.units.length:=by omega
      clear hcell hcu q2 r2 H1 hU
      by_cases b4:U<xu
      · have p4:decide (U<xu)=true:=by simpa using b4
        rw [if_pos (.inr (.inr (.inr b4)))] at hN
        replace hN:=Lib.hid hN
        go_wp2_with fail
        refine wm0 [(0,true),(1,true),(2,true),(3,true),(4,true),(5,true),(6,true),(7,true),(8,true),(9,true),(10,true),(11,true),(12,true),(13,true),(14,true),(15,true),(16,true),(17,true),(18,true),(19,true),(20,true),(21,true),(22,true),(23,true),(24,true),(25,true),(26,true),(27,true),(28,true),(29,true),(30,true),(31,true)] (fun w'=>w'.cell? ⟨wr.heap.size,0,none⟩=some (.int .i64 r)∧w'.cell? ⟨wr.heap.size,1,none⟩=some (.int .i64 xu)∧w'.cell? ⟨t,1,none⟩=some (.slice (some ⟨gu,0,none⟩) m.units.length cu)∧w'.cell? ⟨gu,r,none⟩=some (.int .i64 U)) (⟨e0,e1,d1,u0⟩) ?_
        iterate 32 (refine mh ?_;(try simp only [Act.put,List.setIfInBounds_toArray,List.set_cons_zero,List.set_cons_succ]))
        refine qQe ?_
        (try dsimp only)
        go_wp2_with fail
        go_ret
        exact ⟨qQp hN.out,TkP.shut (x:=⟨.slice (some ⟨gu,0,none⟩) m.units.length cu,vr,vn,rows⟩) (by exact Hd.fin HA) hx.out⟩
      have p4:decide (U<xu)=false:=by simpa using b4
      rw [if_neg (by omega)] at hN
      rcases Nat.eq_zero_or_pos k with rfl | hk0
      · rw [if_pos rfl] at hpr
        subst hpr
        simp only [Nat.zero_mul,Nat.add_zero] at f0 f1
        rw [if_neg (by simp)] at hN
        replace hN:=Lib.hid hN
        have hp2:=Lib.hid (show some (r:Int)=(if 0+1=0 then none else (L[0+1-1]?).map qZy.res) by rw [if_neg (by decide),Nat.add_sub_cancel,hxk];rfl)
        clear hxk
        go_wp2_with fail
        refine wm0 [(0,true),(1,true),(2,true),(3,true),(4,true),(5,true),(6,true),(7,true),(8,true),(9,true),(10,true),(11,true),(12,true),(13,true),(14,true),(15,true),(16,true),(17,true),(18,true),(19,true),(20,true),(21,true),(22,true),(23,true),(24,true),(25,true),(26,true),(27,true),(28,true),(29,true),(30,true),(31,true)] (fun w'=>w'.cell? ⟨wr.heap.size,0,none⟩=some (.int .i64 r)∧w'.cell? ⟨wr.heap.size,1,none⟩=some (.int .i64 xu)∧w'.cell? ⟨t,1,none⟩=some (.slice (some ⟨gu,0,none⟩) m.units.length cu)∧w'.cell? ⟨gu,r,none⟩=some (.int .i64 U)) (⟨e0,e1,d1,u0⟩) ?_
        iterate 32 (refine mh ?_;(try simp only [Act.put,List.setIfInBounds_toArray,List.set_cons_zero,List.set_cons_succ]))
        refine qQe ?_
        (try dsimp only)
        go_wp2_with fail
        go_quiet (fail)
        go_wp2_with fail
        go_roundw
        case rel=>exact ⟨1,some (r:Int),by omega,by simp,hp2.out,hN.out,by exact Hd.fin HA⟩
        case measure=>simp [intOf];omega
      · rw [if_neg (by omega)] at hpr
        obtain ⟨y,hy⟩:∃y,L[k-1]? = some y:=⟨L[k-1]'(by omega),List.getElem?_eq_getElem _⟩
        rw [hy] at hpr
        obtain ⟨yr,yu⟩:=y
        have hpr2:pr=some yr:=hpr
        subst hpr2
        clear hpr
        obtain ⟨g3,go3,c3,hv3,-,hcell3⟩:=hs.out.at hy
        injection hv3 with q1 q2 q3
        injection q1 with q1
        injection q1 with q1 q1o
        subst q1;subst q1o;subst q3
        have HR:Hd w0 R (wr.alloc (.cells #[.int .i64 (r:Int),.int .i64 xu] 63)):=HA.re
        have y0:=hcell3 HR 0 _ rfl
        simp only [Enc.size,Nat.add_zero] at y0
        obtain ⟨k',rfl⟩:∃k',k=k'+1:=⟨k-1,by omega⟩
        rw [Nat.add_sub_cancel] at y0 hy
        have g7:IntKind.i64.wrap (((k'+1:Nat):Int)-1)=(k':Int):=by rw [IntWalk.i64_in _ (by omega)];omega
        have g8:IntKind.i64.wrap ((k':Int)+1-1)=(k':Int):=by rw [IntWalk.i64_in _ (by omega)];omega
        have g9:IntKind.i64.wrap (k':Int)=(k':Int):=IntWalk.i64_in _ (by omega)
        have g10:IntKind.i64.wrap ((k':Int)+1+1)=(k':Int)+1+1:=IntWalk.i64_in _ (by omega)
        have m5:(k':Int)<L.length:=by omega
        have m6:¬(k':Int)<0:=by omega
        have m7:¬L.length≤k':=by omega
        have m8:(0:Int)<(k':Int)+1:=by omega
        have m9:(0:Int)≤k':=by omega
        have hp2:=Lib.hid (show some (r:Int)=(if k'+1+1=0 then none else (L[k'+1+1-1]?).map qZy.res) by rw [if_neg (by omega),Nat.add_sub_cancel,hxk];rfl)
        clear hxk hcell3 hy q2
        by_cases b5:(r:Int)≤yr
        · rw [if_pos (by simpa using b5)] at hN
          replace hN:=Lib.hid hN
          go_wp2_with fail
          refine wm0 [(0,true),(1,true),(2,true),(3,true),(4,true),(5,true),(6,true),(7,true),(8,true),(9,true),(10,true),(11,true),(12,true),(13,true),(14,true),(15,true),(16,true),(17,true),(18,true),(19,true),(20,true),(21,true),(22,true),(23,true),(24,true),(25,true),(26,true),(27,true),(28,true),(29,true),(30,true),(31,true)] (fun w'=>w'.cell? ⟨wr.heap.size,0,none⟩=some (.int .i64 r)∧w'.cell? ⟨wr.heap.size,1,none⟩=some (.int .i64 xu)∧w'.cell? ⟨t,1,none⟩=some (.slice (some ⟨gu,0,none⟩) m.units.length cu)∧w'.cell? ⟨gu,r,none⟩=some (.int .i64 U)) (⟨e0,e1,d1,u0⟩) ?_
          iterate 32 (refine mh ?_;(try simp only [Act.put,List.setIfInBounds_toArray,List.set_cons_zero,List.set_cons_succ]))
          refine qQe ?_
          (try dsimp only)
          go_wp2_with fail
          go_quiet (fail)
          go_wp2_with fail
          go_ret
          exact ⟨qQp hN.out,TkP.shut (x:=⟨.slice (some ⟨gu,0,none⟩) m.units.length cu,vr,vn,rows⟩) (by exact Hd.fin HA) hx.out⟩
        · rw [if_neg (by simpa using b5)] at hN
          replace hN:=Lib.hid hN
          go_wp2_with fail
          refine wm0 [(0,true),(1,true),(2,true),(3,true),(4,true),(5,true),(6,true),(7,true),(8,true),(9,true),(10,true),(11,true),(12,true),(13,true),(14,true),(15,true),(16,true),(17,true),(18,true),(19,true),(20,true),(21,true),(22,true),(23,true),(24,true),(25,true),(26,true),(27,true),(28,true),(29,true),(30,true),(31,true)] (fun w'=>w'.cell? ⟨wr.heap.size,0,none⟩=some (.int .i64 r)∧w'.cell? ⟨wr.heap.size,1,none⟩=some (.int .i64 xu)∧w'.cell? ⟨t,1,none⟩=some (.slice (some ⟨gu,0,none⟩) m.units.length cu)∧w'.cell? ⟨gu,r,none⟩=some (.int .i64 U)) (⟨e0,e1,d1,u0⟩) ?_
          iterate 32 (refine mh ?_;(try simp only [Act.put,List.setIfInBounds_toArray,List.set_cons_zero,List.set_cons_succ]))
          refine qQe ?_
          (try dsimp only)
          go_wp2_with fail
          go_quiet (fail)
          go_wp2_with fail
          go_roundw
          case rel=>exact ⟨k'+1+1,some (r:Int),by omega,by simp,hp2.out,hN.out,by exact Hd.fin HA⟩
          case measure=>simp [intOf];omega
    · obtain rfl:k=L.length:=by omega
      rw [List.drop_length,qWg] at hN
      replace hN:=Lib.hid hN
      go_wp2_with fail
      go_ret
      exact ⟨qQp hN.out,TkP.shut (x:=⟨_,vr,vn,rows⟩) H1 hx.out⟩
end
end
section
open Go.RowKit Spl
def qQO (m:TkM) (x:qQY):Int :=
  if (qQB x.cd).2=0 then
    if qJf x.nm=true then
      if (qQs m.names x.nm).isSome=true then 3
      else if x.lv<1∨32<x.lv∨x.fr<0∨4096<x.fr∨qQG x.p x.f x.g=false then 1
      else if qZp m.units x.needs none=0 then (if (64:Int)≤m.rows.length then 4 else if m.words<qXg m.rows x.lv x.fr then 25 else 0)
      else qZp m.units x.needs none
    else 2
  else (qQB x.cd).2
section
variable {w0 w:World} {R:List Pr} {t:Nat} {m:TkM} {S:Hp}
theorem qWF [Lay w0 R] (H:Hd w0 (TkP t m S::R) w) (hm:m.Ok) (x:qQY) {nv:Value} (hs:Srg w0 R nv x.needs) (hL:x.needs.length≤1000000) :
    Calls Tryz.prog 51 #[.pointer (some ⟨t,0,none⟩),.agg #[.string x.nm,.int .i64 x.lv,.int .i64 x.fr,nv,.string x.cd,.int .i64 x.p,.int .i64 x.f,.int .i64 x.g]] w fun e w'=>e=.returned (.int .i64 (qQO m x))∧Hd w0 (TkP t m S::R) w':=by
  obtain ⟨E,hE⟩:∃E,qQO m x=E:=⟨_,rfl⟩
  rw [hE]
  unfold qQO at hE
  obtain ⟨a,c,hv⟩:=hs.form
  subst hv
  obtain ⟨nm,lv,fr,needs,cd,p,f,g⟩:=x
  dsimp only at hE hs hL
  obtain ⟨C,hC⟩:∃C:Array Value,C=#[.string nm,.int .i64 lv,.int .i64 fr,.slice a needs.length c,.string cd,.int .i64 p,.int .i64 f,.int .i64 g]:=⟨_,rfl⟩
  have H1:Hd w0 _ (w.alloc (.cells #[.string nm,.int .i64 lv,.int .i64 fr,.slice a needs.length c,.string cd,.int .i64 p,.int .i64 f,.int .i64 g] 36)):=H.fol
  have h1:=qW6 H1 cd
  replace hs:=Lib.hid hs
  replace hm:=Lib.hid hm
  clear H H1 hC
  go_enter Tryz.func51,Tryz.ntmps51
  go_wp2_with fail
  refine h1.mono ?_
  rintro e w1 ⟨sv,rfl,H2⟩
  clear h1
  replace H2:=H2.tail
  obtain ⟨E1,hE1⟩:∃E1,(qQB cd).2=E1:=⟨_,rfl⟩
  rw [hE1] at hE ⊢
  clear hE1
  by_cases z1:¬E1=0
  · rw [if_neg z1] at hE
    go_wp2_with fail
    go_ret
    exact ⟨qQp (by first | exact hE.symm | rfl),H2.tail⟩
  replace z1:E1=0:=by omega
  subst z1
  rw [if_pos rfl] at hE
  have c0:=(show _=some (.string nm) from (H2.k w.heap.size).ce 0 rfl)
  have h2:=zJR (w:=w1) nm
  go_wp2_with fail
  refine h2.mono ?_
  rintro e w2 ⟨rfl,rfl⟩
  clear h2
  cases hlg:qJf nm with
  | false =>
    rw [hlg,if_neg (by decide)] at hE
    go_wp2_with fail
    go_ret
    exact ⟨qQp (by first | exact hE.symm | rfl),H2.tail⟩
  | true =>
  rw [hlg,if_pos rfl] at hE
  obtain ⟨⟨vu,vr,vn,rows⟩,hx,H3⟩:=TkP.opened (H2.k t)
  dsimp only at hx H3
  have hg:∀w3,Hd w0 (cel t 77 #[.int .i64 m.words,vu,vr,vn]::SlE 3 vu m.units::SlE 80 vr rows::SlE 203 vn m.names::cel w.heap.size 36 #[.string nm,.int .i64 lv,.int .i64 fr,.slice a needs.length c,.string cd,.int .i64 p,.int .i64 f,.int .i64 g]::R) w3 →
      Calls Tryz.prog 79 #[.pointer (some ⟨t,3,none⟩),.string nm] w3 fun e w'=>(∃i,e=.returned (.tuple #[.int .i64 i,.bool (qQs m.names nm).isSome]))∧Hd w0 (TkP t m S::cel w.heap.size 36 #[.string nm,.int .i64 lv,.int .i64 fr,.slice a needs.length c,.string cd,.int .i64 p,.int .i64 f,.int .i64 g]::R) w':=fun w3 h3=>by
    cases hr:qQs m.names nm with
    | none =>
      refine (qqo (o:=3) ((h3.v vn).k t) rfl hm.out.nm (by have:=hm.out.nn;have:=hm.out.n;omega) nm hr).mono ?_
      rintro e w' ⟨rfl,h4⟩
      exact ⟨⟨_,rfl⟩,TkP.shut (x:=⟨vu,vr,vn,rows⟩) h4.re hx⟩
    | some y =>
      refine (zZJ (o:=3) ((h3.v vn).k t) rfl hm.out.nm (by have:=hm.out.nn;have:=hm.out.n;omega) nm hr).mono ?_
      rintro e w' ⟨rfl,h4⟩
      exact ⟨⟨_,rfl⟩,TkP.shut (x:=⟨vu,vr,vn,rows⟩) h4.re hx⟩
  have h3:=hg _ H3.re.drew
  clear hg hx c0
  have c0:=(show _=some (.string nm) from (H3.k w.heap.size).ce 0 rfl)
  go_wp2_with fail
  refine wm0 [(0,true),(1,true),(2,true),(3,true),(4,true),(5,false),(6,true),(7,true),(8,true),(9,true),(10,true)] (fun w'=>w'.cell? ⟨w.heap.size,0,none⟩=some (.string nm)) (c0) ?_
  iterate 5 (refine mh ?_;(try simp only [Act.put,List.setIfInBounds_toArray,List.set_cons_zero,List.set_cons_succ]))
  refine mm ?_
  go_wp2_with fail
  refine h3.mono ?_
  rintro e w3 ⟨⟨i,rfl⟩,H4⟩
  clear h3 H3 H2
  have c1:=(show _=some (.string nm) from (H4.k w.heap.size).ce 0 rfl)
  go_wp2_with fail
  refine qQd c1 ?_
  iterate 5 (refine mh ?_;(try simp only [Act.put,List.setIfInBounds_toArray,List.set_cons_zero,List.set_cons_succ]))
  refine qQe ?_
  (try dsimp only)
  cases hr:(qQs m.names nm).isSome with
  | true =>
    rw [hr,if_pos rfl] at hE
    go_wp2_with fail
    go_ret
    exact ⟨qQp (by first | exact hE.symm | rfl),by exact Hd.fin H4⟩
  | false =>
  rw [hr,if_neg (by decide)] at hE
  have hf:=H4.facts
  simp only [Nat.reduceAdd] at hf
  go_split_ands
  by_cases z2:lv<1
  · rw [if_pos (.inl z2)] at hE
    go_wp2_with fail
    go_ret
    exact ⟨qQp (by first | exact hE.symm | rfl),by exact Hd.fin H4⟩
  by_cases z3:32<lv
  · rw [if_pos (.inr (.inl z3))] at hE
    go_wp2_with fail
    go_ret
    exact ⟨qQp (by first | exact hE.symm | rfl),by exact Hd.fin H4⟩
  by_cases z4:fr<0
  · rw [if_pos (.inr (.inr (.inl z4)))] at hE
    go_wp2_with fail
    go_ret
    exact ⟨qQp (by first | exact hE.symm | rfl),by exact Hd.fin H4⟩
  by_cases z5:4096<fr
  · rw [if_pos (.inr (.inr (.inr (.inl z5))))] at hE
    go_wp2_with fail
    go_ret
    exact ⟨qQp (by first | exact hE.symm | rfl),by exact Hd.fin H4⟩
  have h4:=zJL H4 (.string nm) (.int .i64 lv) (.int .i64 fr) (.slice a needs.length c) (.string cd) p f g
  unfold qWk at h4
  go_wp2_with fail
  refine h4.mono ?_
  rintro e w4 ⟨rfl,H5⟩
  clear h4 H4
  cases ht:qQG p f g with
  | false =>
    rw [if_pos (.inr (.inr (.inr (.inr ht))))] at hE
    go_wp2_with fail
    go_ret
    exact ⟨qQp (by first | exact hE.symm | rfl),by exact Hd.fin H5⟩
  | true =>
  rw [if_neg (by rw [ht];simp;omega)] at hE
  have c3:=(show _=some (.slice a needs.length c) from (H5.k w.heap.size).ce 3 rfl)
  have h5:=zJs (m:=m) (R:=cel w.heap.size 36 #[.string nm,.int .i64 lv,.int .i64 fr,.slice a needs.length c,.string cd,.int .i64 p,.int .i64 f,.int .i64 g]::R) (t:=t) (S:=S) H5 hm.out (hs.out.of fun h=>h.tail) hL
  go_wp2_with fail
  refine h5.mono ?_
  rintro e w5 ⟨rfl,H6⟩
  clear h5 H5 c3
  obtain ⟨E2,hE2⟩:∃E2,qZp m.units needs none=E2:=⟨_,rfl⟩
  rw [hE2] at hE ⊢
  clear hE2
  by_cases z6:¬E2=0
  · rw [if_neg z6] at hE
    go_wp2_with fail
    go_ret
    exact ⟨qQp (by first | exact hE.symm | rfl),by exact Hd.fin H6⟩
  replace z6:E2=0:=by omega
  subst z6
  rw [if_pos rfl] at hE
  obtain ⟨⟨vu,vr,vn,rows⟩,hx,H7⟩:=TkP.opened H6
  dsimp only at hx H7
  have h6:=qXq (o:=2) ((H7.v vr).k t) rfl
  rw [hx.len] at h6
  go_wp2_with fail
  refine h6.mono ?_
  rintro e w6 ⟨rfl,rfl⟩
  clear h6 hx
  by_cases z7:(64:Int)≤m.rows.length
  · rw [if_pos z7] at hE
    go_wp2_with fail
    go_ret
    exact ⟨qQp (by first | exact hE.symm | rfl),by exact Hd.fin H6⟩
  rw [if_neg z7] at hE
  have c0:=(show _=some (.int .i64 m.words) from (H7.k t).ce 0 rfl)
  have c1:=(show _=some (.int .i64 lv) from (H7.k w.heap.size).ce 1 rfl)
  have c2:=(show _=some (.int .i64 fr) from (H7.k w.heap.size).ce 2 rfl)
  have h7:=zXz H6.drew hm.out lv fr
  clear H7
  go_wp2_with fail
  refine wm0 [(0,true),(1,true),(2,true),(3,true),(4,true),(6,true),(7,true),(8,true),(9,true),(5,false),(10,true),(11,true)] (fun w'=>w'.cell? ⟨w.heap.size,1,none⟩=some (.int .i64 lv)∧w'.cell? ⟨w.heap.size,2,none⟩=some (.int .i64 fr)∧w'.cell? ⟨t,0,none⟩=some (.int .i64 m.words)) (⟨c1,c2,c0⟩) ?_
  iterate 9 (refine mh ?_;(try simp only [Act.put,List.setIfInBounds_toArray,List.set_cons_zero,List.set_cons_succ]))
  refine mm ?_
  go_wp2_with fail
  refine h7.mono ?_
  rintro e w7 ⟨rfl,H8⟩
  clear h7 H6 c0 c1 c2
  obtain ⟨⟨vu2,vr2,vn2,rows2⟩,hx2,H9⟩:=TkP.opened H8
  have c0:=(show _=some (.int .i64 m.words) from (H9.k t).ce 0 rfl)
  have c1:=(show _=some (.int .i64 lv) from (H9.k w.heap.size).ce 1 rfl)
  have c2:=(show _=some (.int .i64 fr) from (H9.k w.heap.size).ce 2 rfl)
  clear H9 hx2
  go_wp2_with fail
  refine qQd ⟨c1,c2,c0⟩ ?_
  iterate 2 (refine mh ?_;(try simp only [Act.put,List.setIfInBounds_toArray,List.set_cons_zero,List.set_cons_succ]))
  refine qQe ?_
  (try dsimp only)
  obtain ⟨B,hB⟩:∃B,qXg m.rows lv fr=B:=⟨_,rfl⟩
  rw [hB] at hE ⊢
  by_cases z8:m.words<B
  · rw [if_pos z8] at hE
    go_wp2_with fail
    go_ret
    exact ⟨qQp (by first | exact hE.symm | rfl),by exact Hd.fin H8⟩
  · rw [if_neg z8] at hE
    go_wp2_with fail
    go_ret
    exact ⟨qQp (by first | exact hE.symm | rfl),by exact Hd.fin H8⟩
end
end
section
open Go.RowKit Spl
def TkM.added (m:TkM) (x:qQY):TkM:=⟨m.words,m.units,m.rows++[⟨x,(qQB x.cd).1⟩],m.names.take (pos m.names x.nm)++⟨x.nm,m.rows.length⟩::m.names.drop (pos m.names x.nm)⟩
theorem qVA {m:TkM} {x:qQY} (h:qQO m x=0):qQs m.names x.nm=none∧(qQB x.cd).2=0∧m.rows.length<64:=by
  unfold qQO at h
  split at h
  · rename_i h1
    split at h
    · split at h
      · cases h
      · rename_i h3
        split at h
        · cases h
        · split at h
          · split at h
            · cases h
            · rename_i h6
              refine ⟨?_,h1,by omega⟩
              cases hr:qQs m.names x.nm with
              | none=>rfl
              | some y=>rw [hr] at h3;simp at h3
          · rename_i h5;exact absurd h h5
    · cases h
  · rename_i h1;exact absurd h h1
section
variable {w0 w:World} {R:List Pr} {t:Nat} {m:TkM} {S:Hp}
theorem zKJ [Lay w0 R] (H:Hd w0 (TkP t m S::ro S::R) w) (hm:m.Ok) (x:qQY) {nv:Value} (hs:Srg w0 R nv x.needs) (hL:x.needs.length≤100000) (hc:qQO m x=0) :
    Calls Tryz.prog 52 #[.pointer (some ⟨t,0,none⟩),.agg #[.string x.nm,.int .i64 x.lv,.int .i64 x.fr,nv,.string x.cd,.int .i64 x.p,.int .i64 x.f,.int .i64 x.g]] w fun e w'=>e=.returned (.tuple #[.int .i64 m.rows.length,.int .i64 0])∧∃S',Le S S'∧Hd w0 (TkP t (m.added x) S'::ro S'::R) w':=by
  obtain ⟨hnm,hst,hlen⟩:=qVA hc
  obtain ⟨a,c,hv⟩:=hs.form
  subst hv
  have H1:Hd w0 _ (w.alloc (.cells #[.string x.nm,.int .i64 x.lv,.int .i64 x.fr,.slice a x.needs.length c,.string x.cd,.int .i64 x.p,.int .i64 x.f,.int .i64 x.g] 36)):=H.fol
  have h1:=qWF (H1.k t) hm x (hs.of fun h=>h.tail.tail) (by omega)
  rw [hc] at h1
  have hst2:∀w3,Hd w0 (SlE 80 (.slice none 0 0) ([]:List RowV)::R) w3→True:=fun _ _=>trivial
  clear hst2
  have hf0:=H1.facts
  simp only [Nat.reduceAdd] at hf0
  go_split_ands
  obtain ⟨n,hn⟩:∃n,m.rows.length=n:=⟨_,rfl⟩
  replace hs:=Lib.hid hs
  replace hm:=Lib.hid hm
  clear H H1 hc
  go_enter Tryz.func52,Tryz.ntmps52
  go_wp2_with fail
  refine h1.mono ?_
  rintro e w1 ⟨rfl,H2⟩
  clear h1
  obtain ⟨⟨vu,vr,vn,rows⟩,hx,H3⟩:=TkP.opened H2
  dsimp only at hx H3
  have h2:=qXq (o:=2) ((H3.v vr).k t) rfl
  rw [hx.len] at h2
  have hf:=H3.facts
  simp only [Nat.reduceAdd] at hf
  go_split_ands
  go_wp2_with fail
  refine h2.mono ?_
  rintro e w2 ⟨rfl,rfl⟩
  clear h2
  have h3:=qW6 (R:=cel t 77 #[.int .i64 m.words,vu,vr,vn]::SlE 3 vu m.units::SlE 80 vr rows::SlE 203 vn m.names::cel w.heap.size 36 #[.string x.nm,.int .i64 x.lv,.int .i64 x.fr,.slice a x.needs.length c,.string x.cd,.int .i64 x.p,.int .i64 x.f,.int .i64 x.g]::ro S::R) H3.re x.cd
  rw [hst] at h3
  go_wp2_with fail
  refine h3.mono ?_
  rintro e w3 ⟨sv,rfl,H4⟩
  clear h3 H3 H2
  have c3:=(show _=some (.slice a x.needs.length c) from (H4.k w.heap.size).ce 3 rfl)
  have h4:=qq2 H4 ((hs.out.of fun h=>by exact (Hd.re h:Hd w0 R _)).src) hL
  go_wp2_with fail
  refine h4.mono ?_
  rintro e w4 ⟨nv,rfl,H5⟩
  clear h4 H4 c3
  obtain ⟨na,nc,hnv,-,-,-,-⟩:=H5.slc_form
  obtain ⟨sa,sc,hsv,-,-,-,-⟩:=H5.tail.slc_form
  obtain ⟨L,hLs⟩:∃L,(qQB x.cd).1=L:=⟨_,rfl⟩
  obtain ⟨D,hD⟩:∃D,x.needs=D:=⟨_,rfl⟩
  rw [hLs] at hsv H5
  rw [hD] at hnv H5
  subst hnv
  subst hsv
  have f3:=(H5.k w.heap.size).fr 3
  have d3:=(show _=some (.slice a D.length c) from (H5.k w.heap.size).ce 3 rfl)
  have H6:Hd w0 _ (w4.setCell ⟨w.heap.size,3,none⟩ (.slice na D.length nc)):=H5.fol
  have hf:=H6.facts
  simp only [Nat.reduceAdd] at hf
  go_split_ands
  have hpush:=qYt (o:=2) (C:=#[.int .i64 m.words,vu,vr,vn]) ((H6.drew.v vr).k t) rfl (by rw [hx.len];omega) ⟨x.nm,x.lv,x.fr,na,D.length,nc,x.cd,x.p,x.f,x.g,sa,L.length,sc⟩
  have y0:=(show _=some (.string x.nm) from (H6.k w.heap.size).ce 0 rfl)
  have y1:=(show _=some (.int .i64 x.lv) from (H6.k w.heap.size).ce 1 rfl)
  have y2:=(show _=some (.int .i64 x.fr) from (H6.k w.heap.size).ce 2 rfl)
  have y3:=(show _=some (.slice na D.length nc) from (H6.k w.heap.size).ce 3 rfl)
  have y4:=(show _=some (.string x.cd) from (H6.k w.heap.size).ce 4 rfl)
  have y5:=(show _=some (.int .i64 x.p) from (H6.k w.heap.size).ce 5 rfl)
  have y6:=(show _=some (.int .i64 x.f) from (H6.k w.heap.size).ce 6 rfl)
  have y7:=(show _=some (.int .i64 x.g) from (H6.k w.heap.size).ce 7 rfl)
  clear H5
  go_wp2_with fail
  refine wm0 [(0,true),(1,true),(2,true),(3,true),(4,true),(5,true),(6,false)] (fun w'=>w'.cell? ⟨w.heap.size,0,none⟩=some (.string x.nm)∧w'.cell? ⟨w.heap.size,1,none⟩=some (.int .i64 x.lv)∧w'.cell? ⟨w.heap.size,2,none⟩=some (.int .i64 x.fr)∧w'.cell? ⟨w.heap.size,3,none⟩=some (.slice na D.length nc)∧w'.cell? ⟨w.heap.size,4,none⟩=some (.string x.cd)∧w'.cell? ⟨w.heap.size,5,none⟩=some (.int .i64 x.p)∧w'.cell? ⟨w.heap.size,6,none⟩=some (.int .i64 x.f)∧w'.cell? ⟨w.heap.size,7,none⟩=some (.int .i64 x.g)) (⟨y0,y1,y2,y3,y4,y5,y6,y7⟩) ?_
  iterate 6 (refine mh ?_;(try simp only [Act.put,List.setIfInBounds_toArray,List.set_cons_zero,List.set_cons_succ]))
  refine mm ?_
  go_wp2_with fail
  refine hpush.mono ?_
  rintro e w5 ⟨rfl,vr2,H7⟩
  clear hpush H6 y0 y1 y2 y3 y4 y5 y6 y7
  have hS:({ nm:=x.nm,lv:=x.lv,fr:=x.fr,na:=na,nl:=D.length,nc:=nc,cd:=x.cd,p:=x.p,f:=x.f,g:=x.g,sa:=sa,sl:=L.length,sc:=sc }:RowV)=⟨x.nm,x.lv,x.fr,na,D.length,nc,x.cd,x.p,x.f,x.g,sa,L.length,sc⟩:=rfl
  obtain ⟨RV,hRV⟩:∃RV:RowV,RV=⟨x.nm,x.lv,x.fr,na,D.length,nc,x.cd,x.p,x.f,x.g,sa,L.length,sc⟩:=⟨_,rfl⟩
  rw [← hRV] at H7
  replace H7:Hd w0 (cel t 77 #[.int .i64 m.words,vu,vr2,vn]::SlE 80 vr2 (rows++[RV])::SlE 3 vu m.units::SlE 203 vn m.names::cel w.heap.size 36 #[.string x.nm,.int .i64 x.lv,.int .i64 x.fr,.slice na D.length nc,.string x.cd,.int .i64 x.p,.int .i64 x.f,.int .i64 x.g]::SlE 63 (.slice na D.length nc) D::SlE 83 (.slice sa L.length sc) L::ro S::R) w5:=by
    have h:Hd w0 (cel t 77 #[.int .i64 m.words,vu,vr2,vn]::_) w5:=H7
    exact h.re
  have y0:=(show _=some (.string x.nm) from (H7.k w.heap.size).ce 0 rfl)
  have y1:=(show _=some (.int .i64 x.lv) from (H7.k w.heap.size).ce 1 rfl)
  have y2:=(show _=some (.int .i64 x.fr) from (H7.k w.heap.size).ce 2 rfl)
  have y3:=(show _=some (.slice na D.length nc) from (H7.k w.heap.size).ce 3 rfl)
  have y4:=(show _=some (.string x.cd) from (H7.k w.heap.size).ce 4 rfl)
  have y5:=(show _=some (.int .i64 x.p) from (H7.k w.heap.size).ce 5 rfl)
  have y6:=(show _=some (.int .i64 x.f) from (H7.k w.heap.size).ce 6 rfl)
  have y7:=(show _=some (.int .i64 x.g) from (H7.k w.heap.size).ce 7 rfl)
  have hset:=qYa (o:=3) (x:=⟨x.nm,n⟩) (((H7.drew.v vn).k t):Hd w0 _ w5.drew) rfl hm.out.nm (by have:=hm.out.nn;have:=hm.out.n;omega) hnm
  clear hS
  go_wp2_with fail
  refine qQd ⟨y0,y1,y2,y3,y4,y5,y6,y7⟩ ?_
  refine qQe ?_
  (try dsimp only)
  clear y1 y2 y3 y4 y5 y6 y7
  go_wp2_with fail
  refine wm0 [(0,true),(1,true),(2,true),(3,true),(4,true),(5,true),(6,false)] (fun w'=>w'.cell? ⟨w.heap.size,0,none⟩=some (.string x.nm)) (y0) ?_
  iterate 6 (refine mh ?_;(try simp only [Act.put,List.setIfInBounds_toArray,List.set_cons_zero,List.set_cons_succ]))
  refine mm ?_
  go_wp2_with fail
  refine hset.mono ?_
  rintro e w6 ⟨rfl,vn2,H8⟩
  clear hset H7 y0
  have y0:=(show _=some (.string x.nm) from (H8.k w.heap.size).ce 0 rfl)
  go_wp2_with fail
  refine qQd y0 ?_
  refine qQe ?_
  (try dsimp only)
  go_wp2_with fail
  go_ret2
  refine ⟨qZl (by rw [hn]) rfl,?_⟩
  have H9:Hd w0 (SlE 63 (.slice na D.length nc) D::ro S::cel t 77 #[.int .i64 m.words,vu,vr2,vn2]::SlE 3 vu m.units::SlE 80 vr2 (rows++[RV])::SlE 203 vn2 (m.names.take (pos m.names x.nm)++(⟨x.nm,n⟩:RowN)::m.names.drop (pos m.names x.nm))::SlE 83 (.slice sa L.length sc) L::R) w6:=by
    have h:Hd w0 (cel t 77 #[.int .i64 m.words,vu,vr2,vn2]::_) w6:=H8
    exact h.re
  obtain ⟨S1,hS1,hR1,H10⟩:=H9.ro_in
  have H11:Hd w0 (SlE 83 (.slice sa L.length sc) L::ro S1::cel t 77 #[.int .i64 m.words,vu,vr2,vn2]::SlE 3 vu m.units::SlE 80 vr2 (rows++[RV])::SlE 203 vn2 (m.names.take (pos m.names x.nm)++(⟨x.nm,n⟩:RowN)::m.names.drop (pos m.names x.nm))::R) w6:=by exact H10.re
  obtain ⟨S2,hS2,hR2,H12⟩:=H11.ro_in
  refine ⟨S2,hS1.trans hS2,?_⟩
  refine TkP.shut (m:=m.added x) (x:=⟨vu,vr2,vn2,rows++[RV]⟩) ?_ ?_
  · unfold TkM.added
    dsimp only
    rw [hn]
    exact H12.re
  · unfold TkM.added
    dsimp only
    refine (hx.mono (hS1.trans hS2)).snoc ?_
    subst hRV
    refine ⟨rfl,rfl,rfl,rfl,rfl,rfl,rfl,?_,?_⟩
    · rw [hD];exact Ros.mono hR1 hS2
    · rw [hLs];exact hR2
end
end
section
open Go.RowKit Spl
def qJA (words:Int) (units:List Int):Int:=if words<0∨65536<words then 1 else if (16:Int)<units.length then 4 else if units.all (fun x=>decide (1≤x) && decide (x≤255)) then 0 else 1
section
variable {w0 w:World} {R:List Pr} {S:Hp}
theorem zXR (H:Hd w0 R w) {words:Int} {units:List Int} {v:Value} (hs:Srg w0 R v units) (hc:qJA words units=0) :
    Calls Tryz.prog 57 #[.int .i64 words,v] w fun e w'=>∃t,e=.returned (.tuple #[.pointer (some ⟨t,0,none⟩),.int .i64 0])∧Hd w0 (TkP t ⟨words,units,[],[]⟩ S::R) w':=by
  unfold qJA at hc
  split at hc
  · cases hc
  rename_i h1
  split at hc
  · cases hc
  rename_i h2
  have hall:∀x∈units,1≤x∧x≤255:=by
    split at hc
    · rename_i h3
      intro x hx
      have:=List.all_eq_true.1 h3 x hx
      simpa using this
    · cases hc
  obtain ⟨a,c,hv⟩:=hs.form
  subst hv
  have n1:¬words<0:=by omega
  have n2:¬65536<words:=by omega
  have n3:¬(16:Int)<units.length:=by omega
  replace hs:=Lib.hid hs
  replace hall:=Lib.hid hall
  clear h1 h2 hc
  go_enter Tryz.func57,Tryz.ntmps57
  go_wp2_with fail
  go_loop [21] (fun x=>∃k:Nat,k≤units.length∧x=.int .i64 k) (fun x=>units.length-(intOf x).toNat)
  case atStart=>exact ⟨0,Nat.zero_le _,rfl⟩
  case round =>
    obtain ⟨k,hk,rfl⟩:=hrel
    by_cases hlt:k<units.length
    · obtain ⟨x,hx⟩:∃x,units[k]? = some x:=⟨units[k],List.getElem?_eq_getElem hlt⟩
      have hx2:=hall.out x (List.mem_of_getElem? hx)
      obtain ⟨g,go,c2,hv2,-,hcell⟩:=hs.out.at hx
      injection hv2 with q1 q2 q3
      subst q1;subst q3
      have f0:=hcell H 0 _ rfl
      simp only [Enc.size,Nat.add_zero,Nat.mul_one] at f0
      have n4:¬(k:Int)<0:=by omega
      have n5:(k:Int)<units.length:=by omega
      have n6:¬units.length≤k:=by omega
      have n7:¬x<1:=by omega
      have n8:¬255<x:=by omega
      have g5:IntKind.i64.wrap ((k:Int)+1)=(k:Int)+1:=IntWalk.i64_in _ (by omega)
      clear hcell q2 hx hx2
      go_wp2_with fail
      go_round
      case rel=>exact ⟨k+1,by omega,by simp⟩
      case measure=>simp [intOf];omega
    · obtain rfl:k=units.length:=by omega
      have hcl:=qJ5 H hs.out.src (by omega)
      go_wp2_with fail
      refine hcl.mono ?_
      rintro e w1 ⟨v',rfl,H1⟩
      obtain ⟨a',c',rfl,-,-,-,-⟩:=H1.slc_form
      go_wp2_with fail
      go_ret2
      refine ⟨_,rfl,?_⟩
      have H2:Hd w0 _ (w1.alloc (.cells #[.int .i64 words,.slice a' units.length c',.slice none 0 0,.slice none 0 0] 77)):=H1.fol
      have e1:=(H2.slc_nil 80 9)
      have e2:=(e1.slc_nil 203 2)
      refine TkP.shut (x:=⟨.slice a' units.length c',.slice none 0 0,.slice none 0 0,[]⟩) (m:=⟨words,units,[],[]⟩) ?_ ⟨rfl,fun i r v h=>by simp at h⟩
      have e3:Hd w0 (SlE 203 (.slice none 0 0) ([]:List RowN)::SlE 80 (.slice none 0 0) ([]:List RowV)::pt w1.heap.size (.cells #[.int .i64 words,.slice a' units.length c',.slice none 0 0,.slice none 0 0] 77)::SlE 3 (.slice a' units.length c') units::R) _:=e2
      exact e3.re
end
end
section
open Go.RowKit Spl
def qYF (units:List Int):Int:=if (16:Int)<units.length then 4 else if units.all (fun x=>decide (1≤x) && decide (x≤255)) then 0 else 1
theorem Src.follow {α:Type} [Enc α] {w0 w:World} {X:Pr} {R:List Pr} {v:Value} {l:List α} (_:Hd w0 (X::R) w) (h:Hid (Src w0 R v l)):Hid (Src w0 (X::R) v l):=Lib.hid (h.out.of (fun H=>H.tail))
theorem zJK {w0 w:World} {R:List Pr} (H:Hd w0 R w) (N:Nat) (hN:N≤100000):Hd w0 (SlE 3 (.slice (some ⟨w.heap.size,0,none⟩) N N) (qQX N)::R) (w.alloc (.cells (madeCells #[.int .i64 0] N) 3)):=by
  have h:=H.made 3 #[.int .i64 0] 1 N N (Nat.le_refl _) (by unfold maxLen;omega) rfl
  rw [Nat.mul_one] at h
  have e:(madeCells #[Value.int .i64 0] N).toList=flat (qQX N):=by
    have:=qU1 N
    rw [Nat.mul_one] at this
    exact this
  rw [e] at h
  have h2:=Hd.slc_mk h
  unfold SlE
  have:(qQX N).length=N:=by simp [qQX]
  rw [this]
  exact h2
section
variable {w0 w:World} {R:List Pr}
theorem zKm (H:Hd w0 R w) {units:List Int} {v:Value} (hs:Srd w0 R v units) (hc:qYF units=0) :
    Calls Tryz.prog 120 #[v] w fun e w'=>∃t,e=.returned (.tuple #[.pointer (some ⟨t,0,none⟩),.int .i64 0])∧Hd w0 (UnP t ⟨units,units,List.replicate units.length 0,[]⟩::R) w':=by
  unfold qYF at hc
  split at hc
  · cases hc
  rename_i h2
  have hall:∀x∈units,1≤x∧x≤255:=by
    split at hc
    · rename_i h3
      intro x hx
      have:=List.all_eq_true.1 h3 x hx
      simpa using this
    · cases hc
  obtain ⟨a,c,hv⟩:=hs.form
  subst hv
  have n3:¬(16:Int)<units.length:=by omega
  replace hs:=Lib.hid hs
  replace hall:=Lib.hid hall
  clear h2 hc
  go_enter Tryz.func120,Tryz.ntmps120
  go_wp2_with fail
  go_loop [11] (fun x=>∃k:Nat,k≤units.length∧x=.int .i64 k) (fun x=>units.length-(intOf x).toNat)
  case atStart=>exact ⟨0,Nat.zero_le _,rfl⟩
  case round =>
    obtain ⟨k,hk,rfl⟩:=hrel
    by_cases hlt:k<units.length
    · obtain ⟨x,hx⟩:∃x,units[k]? = some x:=⟨units[k],List.getElem?_eq_getElem hlt⟩
      have hx2:=hall.out x (List.mem_of_getElem? hx)
      obtain ⟨g,c2,hv2,-,hcell⟩:=hs.out.at hx
      injection hv2 with q1 q2 q3
      subst q1;subst q3
      have f0:=hcell H 0 _ rfl
      simp only [Enc.size,Nat.add_zero,Nat.mul_one] at f0
      have n4:¬(k:Int)<0:=by omega
      have n5:(k:Int)<units.length:=by omega
      have n6:¬units.length≤k:=by omega
      have n7:¬x<1:=by omega
      have n8:¬255<x:=by omega
      have g5:IntKind.i64.wrap ((k:Int)+1)=(k:Int)+1:=IntWalk.i64_in _ (by omega)
      clear hcell q2 hx hx2
      go_wp2_with fail
      go_round
      case rel=>exact ⟨k+1,by omega,by simp⟩
      case measure=>simp [intOf];omega
    · obtain rfl:k=units.length:=by omega
      have hsr:=Lib.hid hs.out.src
      clear hs hall
      obtain ⟨i0,hi,hz0,hz1,hz2⟩:=info_parts qWU
      go_wp2_with fail
      have H:=H.drew
      have tok:=Lib.hid True.intro
      have hmk:∀u:World,(Instr.makeSlice 22 (.int .i64 units.length) (.int .i64 units.length)).run Tryz.prog u=.ok (.slice (some ⟨u.heap.size,0,none⟩) units.length units.length) (u.alloc (.cells (madeCells #[.int .i64 0] units.length) 3)):=fun u=>by
        have h:=run_make (P:=Tryz.prog) u 22 3 i0 _ Tryz.underlying22 hi hz0 .i64 .i64 units.length units.length (by omega) (by omega) (by rw [hz2];omega) (by omega)
        rw [hz1] at h
        simp only [Int.toNat_natCast,Nat.mul_one] at h
        exact h
      clear hi hz0 hz1 hz2
      go_region_held3 (fun _=>True) (trivial) (first | (go_at_call 92;clear tok;(first | (refine (qJ5 H hsr.out (by omega)).mono ?_) | (have H:=zJK H units.length (by omega);have hsr:=Src.follow H hsr;refine (qJ5 H hsr.out (by omega)).mono ?_));rintro e w1 ⟨v1,rfl,H1⟩;obtain ⟨av1,cv1,rfl,-,-,-,-⟩:=H1.slc_form;have H:=H1;have hsr:=Src.follow H hsr) | (go_at_call 92;(first | (refine (qJ5 H hsr.out (by omega)).mono ?_) | (have H:=zJK H units.length (by omega);have hsr:=Src.follow H hsr;refine (qJ5 H hsr.out (by omega)).mono ?_));rintro e w2 ⟨v2,rfl,H2⟩;obtain ⟨av2,cv2,rfl,-,-,-,-⟩:=H2.slc_form;have H:=H2;have hsr:=Src.follow H hsr))
      · have H:=zJK H units.length (by omega)
        go_wp2_with fail
        go_ret2
        refine ⟨_,rfl,?_⟩
        have HA:Hd w0 _ ((w2.alloc (.cells (madeCells #[.int .i64 0] units.length) 3)).alloc (.cells #[.slice av1 units.length cv1,.slice av2 units.length cv2,.slice (some ⟨w2.heap.size,0,none⟩) units.length units.length,.slice none 0 0] 173)):=H.fol
        have HB:=HA.slc_nil 246 2
        have HC:Hd w0 (SlE 246 (.slice none 0 0) ([]:List RowH)::pt _ _::_) _:=HB
        refine UnP.shut (x:=⟨.slice av1 units.length cv1,.slice av2 units.length cv2,.slice (some ⟨w2.heap.size,0,none⟩) units.length units.length,.slice none 0 0,[]⟩) (m:=⟨units,units,qQX units.length,[]⟩) ?_ rfl
        dsimp only
        show Hd w0 (cel _ _ _::SlE _ _ units::SlE _ _ units::SlE _ _ (qQX units.length)::SlE _ _ ([]:List RowH)::all []::R) _
        have HD:Hd w0 (all []::SlE 246 (.slice none 0 0) ([]:List RowH)::pt _ _::_) _:=Hd.pack (L:=[]) HC
        exact HD.re
      · go_wp2_with fail
        go_ret2
        refine ⟨_,rfl,?_⟩
        have HA:Hd w0 _ (w2.alloc (.cells #[.slice av1 units.length cv1,.slice av2 units.length cv2,.slice (some ⟨w1.heap.size,0,none⟩) units.length units.length,.slice none 0 0] 173)):=H.fol
        have HB:=HA.slc_nil 246 2
        have HC:Hd w0 (SlE 246 (.slice none 0 0) ([]:List RowH)::pt _ _::_) _:=HB
        refine UnP.shut (x:=⟨.slice av1 units.length cv1,.slice av2 units.length cv2,.slice (some ⟨w1.heap.size,0,none⟩) units.length units.length,.slice none 0 0,[]⟩) (m:=⟨units,units,qQX units.length,[]⟩) ?_ rfl
        dsimp only
        show Hd w0 (cel _ _ _::SlE _ _ units::SlE _ _ units::SlE _ _ (qQX units.length)::SlE _ _ ([]:List RowH)::all []::R) _
        have HD:Hd w0 (all []::SlE 246 (.slice none 0 0) ([]:List RowH)::pt _ _::_) _:=Hd.pack (L:=[]) HC
        exact HD.re
      · go_wp2_with fail
        go_ret2
        refine ⟨_,rfl,?_⟩
        have HA:Hd w0 _ (w2.alloc (.cells #[.slice av1 units.length cv1,.slice av2 units.length cv2,.slice (some ⟨w.heap.size,0,none⟩) units.length units.length,.slice none 0 0] 173)):=H.fol
        have HB:=HA.slc_nil 246 2
        have HC:Hd w0 (SlE 246 (.slice none 0 0) ([]:List RowH)::pt _ _::_) _:=HB
        refine UnP.shut (x:=⟨.slice av1 units.length cv1,.slice av2 units.length cv2,.slice (some ⟨w.heap.size,0,none⟩) units.length units.length,.slice none 0 0,[]⟩) (m:=⟨units,units,qQX units.length,[]⟩) ?_ rfl
        dsimp only
        show Hd w0 (cel _ _ _::SlE _ _ units::SlE _ _ units::SlE _ _ (qQX units.length)::SlE _ _ ([]:List RowH)::all []::R) _
        have HD:Hd w0 (all []::SlE 246 (.slice none 0 0) ([]:List RowH)::pt _ _::SlE _ _ units::SlE _ _ units::SlE 3 (.slice (some ⟨w.heap.size,0,none⟩) units.length units.length) (qQX units.length)::R) _:=Hd.pack (L:=[]) HC
        exact HD.re
end
end
end Go.Proofs.YtkchopnkdjnocaaGreatDoor
