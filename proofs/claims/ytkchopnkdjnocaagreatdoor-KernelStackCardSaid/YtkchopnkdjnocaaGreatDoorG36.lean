/-
  Merged texts of one proof: CeM, CeR, CeAt.
-/
import Derived.Deep.MidRow
import Derived.Test.YtkchopnkdjnocaaGreatDoorG27
import Derived.Test.YtkchopnkdjnocaaGreatDoorG32

set_option maxHeartbeats 16000000
set_option maxRecDepth 20000
namespace Go.Proofs.YtkchopnkdjnocaaGreatDoor
section
open Go.RowKit Spl
def qZa (rs:List RowM) (res f:Int):Int:=rs.foldl (fun n r=>if f<qZi r.t.needs res then max n r.t.lv else n) 0
def qXz (m:TkM) (res free:Int):Int :=
  if res<0∨(m.units.length:Int)≤res∨(m.units[res.toNat]?.getD 0)<free then 0 else qZa m.rows res (max free 0)
theorem qVY {rs:List RowM} {k:Nat} {r:RowM} {res f:Int} (h:rs[k]? = some r):qZa (rs.take (k+1)) res f=if f<qZi r.t.needs res then max (qZa (rs.take k) res f) r.t.lv else qZa (rs.take k) res f:=by
  unfold qZa
  rw [List.take_add_one,h]
  simp [List.foldl_append]
theorem zJ5 {rs:List RowM} {res f:Int} (hf:∀r∈rs,1≤r.t.lv∧r.t.lv≤32):0≤qZa rs res f∧qZa rs res f≤32:=by
  suffices h:∀(l:List RowM) (n:Int),(∀r∈l,1≤r.t.lv∧r.t.lv≤32)→0≤n∧n≤32→0≤l.foldl (fun n r=>if f<qZi r.t.needs res then max n r.t.lv else n) n∧l.foldl (fun n r=>if f<qZi r.t.needs res then max n r.t.lv else n) n≤32 from h rs 0 hf (by omega)
  intro l
  induction l with
  | nil=>exact fun n _ hn=>hn
  | cons x l ih =>
    intro n hl hn
    have hx:=hl x (by simp)
    refine ih _ (fun r hr=>hl r (by simp [hr])) ?_
    dsimp only
    by_cases hq:f<qZi x.t.needs res
    · rw [if_pos hq];omega
    · rw [if_neg hq];omega
def qJn (rs:List RowM) (res:Int) (k:Nat):List Int:=(List.range 256).map fun f:Nat=>qZa (rs.take k) res f
def qJL (rs:List RowM) (res:Int) (k j:Nat) (lv:Int):List Int:=(List.range 256).map fun f:Nat=>if f<j then max (qZa (rs.take k) res f) lv else qZa (rs.take k) res f
theorem qXM (rs:List RowM) (res:Int) (k:Nat):(qJn rs res k).length=256:=by simp [qJn]
theorem qqt (rs:List RowM) (res:Int) (k j:Nat) (lv:Int):(qJL rs res k j lv).length=256:=by simp [qJL]
theorem qUb (rs:List RowM) (res:Int) (k:Nat) (lv:Int):qJL rs res k 0 lv=qJn rs res k:=by simp [qJL,qJn]
theorem zZP {rs:List RowM} {res:Int} {k f:Nat} (h:f<256):(qJn rs res k)[f]? = some (qZa (rs.take k) res f):=by simp [qJn,h]
theorem zZk {rs:List RowM} {res:Int} {k j:Nat} {lv:Int} (h:j<256):(qJL rs res k j lv)[j]? = some (qZa (rs.take k) res j):=by simp [qJL,h]
theorem qV3 {rs:List RowM} {res:Int} {k j:Nat} {lv:Int} (h:j<256):(qJL rs res k j lv).set j (max (qZa (rs.take k) res j) lv)=qJL rs res k (j+1) lv:=by
  apply List.ext_getElem?
  intro i
  by_cases hi:j=i
  · subst hi
    rw [List.getElem?_set_self (by rw [qqt];exact h)]
    simp [qJL,h]
  · rw [List.getElem?_set_ne hi]
    simp only [qJL,List.getElem?_map]
    rcases Nat.lt_or_ge i 256 with h2 | h2
    · rw [List.getElem?_range h2]
      simp only [Option.map_some]
      congr 1
      have e1:(i<j+1)=(i<j):=by apply propext;omega
      simp only [e1]
    · rw [List.getElem?_eq_none (by simpa using h2)]
      rfl
theorem qUc {rs:List RowM} {res:Int} {k:Nat} {r:RowM} {q:Nat} (h:rs[k]? = some r) (hq:qZi r.t.needs res=q):qJL rs res k q r.t.lv=qJn rs res (k+1):=by
  unfold qJL qJn
  apply List.map_congr_left
  intro f _
  rw [qVY h,hq]
  have e1:((f:Int)<q)=(f<q):=by apply propext;omega
  simp only [e1]
theorem qqa (rs:List RowM) (res:Int):qJn rs res 0=List.replicate 256 0:=by
  unfold qJn
  simp [qZa,List.map_const']
theorem qVg {m:TkM} (hm:m.Ok) {r:RowM} (hr:r∈m.rows) (res:Int):0≤qZi r.t.needs res∧qZi r.t.needs res≤255:=by
  unfold qZi
  split
  · rename_i x hx
    have:=(hm.nd r hr).2 x (List.mem_of_find?_eq_some hx)
    omega
  · omega
end
section
open Go.RowKit Spl
section
variable {w0 w:World} {R:List Pr} {t:Nat} {m:TkM} {S:Hp}
theorem zZo {l:List Int} {b T:Nat} {w:World} (H:Hd w0 (cel b T (qQ0 l)::R) w) {i:Nat} {x:Int} (h:l[i]? = some x):w.cell? ⟨b,i,none⟩=some (.int .i64 x):=by
  rw [H.rd]
  simp [qQ0,h]
theorem qK2 {l:List Int} {b T:Nat} {w:World} (H:Hd w0 (cel b T (qQ0 l)::R) w):w.rangeAt b 0 (l.map (Value.int .i64)):=fun q u hq=>by
  rw [Nat.zero_add]
  rw [H.rd]
  simpa [qQ0] using hq
theorem zQH (l:List Int) (i:Nat) (x:Int):(qQ0 l).setIfInBounds i (.int .i64 x)=qQ0 (l.set i x):=by simp [qQ0,List.map_set]
theorem qY1 (l:List Int):(qQ0 l).size=l.length:=by simp [qQ0]
theorem zQ2 (H:Hd w0 (TkP t m S::R) w) (hm:m.Ok) {res:Int} (hr:res<0∨(m.units.length:Int)≤res) :
    Calls Tryz.prog 56 #[.pointer (some ⟨t,0,none⟩),.int .i64 res] w fun e w'=>e=.returned (.tuple #[.agg (qQ0 (List.replicate 256 0)),.int .i64 (-1)])∧Hd w0 (TkP t m S::R) w':=by
  obtain ⟨Z,hZ⟩:∃Z:Array Value,qQ0 (List.replicate 256 0)=Z:=⟨_,rfl⟩
  have hZc:(Value.agg Z).cells=Z:=rfl
  have hZs:=Lib.hid (show Z.size=256 by rw [← hZ];simp [qQ0])
  have hone:=Lib.hid (hZ ▸ qJe (List.replicate 256 0))
  rw [hZ]
  have H2:Hd w0 _ ((w.alloc (.cells Z 111)).alloc (.cells Z 111)):=H.fol
  have hu:=qYe H2.b3 hm
  have hlenU:=hm.u
  replace hZ:=Lib.hid hZ
  clear H H2
  obtain ⟨N,hN⟩:∃N,m.units.length=N:=⟨_,rfl⟩
  have hr':res<0∨(¬res<0∧(N:Int)≤res):=by omega
  rw [hN] at hlenU hu
  clear hr
  rcases hr' with h1 | ⟨h1,h2⟩
  all_goals
    go_enter Tryz.func56,Tryz.ntmps56
    go_wp2_with (first | (refine qQz rfl 111 rfl (.agg Z) (by rw [← hZ.out];kernel_rfl) ?_))
    refine hu.mono ?_
    rintro e w1 ⟨g,rfl,H3⟩
    clear hu
    have H4:Hd w0 (cel (w.heap.size+1) 111 Z::cel w.heap.size 111 Z::SlEC 3 g N m.units::TkP t m S::R) w1:=H3.re
    have hcell:w1.rangeAt (w.heap.size+1) 0 Z.toList:=fun q u hq=>by rw [Nat.zero_add];rw [H4.rd];simpa using hq
    replace hcell:=Lib.hid hcell
    go_wp2_with (first | (refine wpList_load_mid rfl 111 _ rfl (w.heap.size+1) 0 rfl Z.toList _ hcell.out Tryz.underlying111 rfl (by rw [Array.length_toList,hZs.out];kernel_rfl) ?_;simp only [Array.toArray_toList]) | (refine qQk (cells:=Z) (H4.k w.heap.size) rfl 111 _ _ rfl rfl rfl (by rw [hZs.out];kernel_rfl) rfl hone.out ?_;intro w4 H9))
    (try simp only [Exit.inBlock,Exit.then])
    refine bodyPost_ret (qQg rfl _ _ w.heap.size 111 Z (0,0) _ (by rfl) (by exact ((Hd.fol H9:Hd w0 _ _).k w.heap.size).heap) Tryz.underlying111 rfl (by rw [hZs.out];kernel_rfl)) rfl ⟨rfl,?_⟩
    exact Hd.fin H9
theorem zQQ (H:Hd w0 (TkP t m S::ro S::R) w) (hm:m.Ok) {r:Nat} {U:Int} (hr:m.units[r]? = some U) :
    Calls Tryz.prog 56 #[.pointer (some ⟨t,0,none⟩),.int .i64 r] w fun e w'=>e=.returned (.tuple #[.agg (qQ0 (qJn m.rows r m.rows.length)),.int .i64 U])∧Hd w0 (TkP t m S::ro S::R) w':=by
  obtain ⟨Z,hZ⟩:∃Z:Array Value,qQ0 (List.replicate 256 0)=Z:=⟨_,rfl⟩
  have hZc:(Value.agg Z).cells=Z:=rfl
  have hZs:=Lib.hid (show Z.size=256 by rw [← hZ];simp [qQ0])
  have hZ0:=Lib.hid (show Z=qQ0 (qJn m.rows r 0) by rw [qqa,hZ])
  have H2:Hd w0 _ ((w.alloc (.cells Z 111)).alloc (.cells Z 111)):=H.fol
  have hu:=qYe H2.b3 hm
  have hlenU:=hm.u
  replace hZ:=Lib.hid hZ
  clear H H2
  have hrl:r<m.units.length:=qQa hr
  obtain ⟨N,hN⟩:∃N,m.units.length=N:=⟨_,rfl⟩
  rw [hN] at hlenU hu hrl
  have n1:¬(r:Int)<0:=by omega
  have n2:(r:Int)<N:=by omega
  have n3:¬N≤r:=by omega
  go_enter Tryz.func56,Tryz.ntmps56
  go_wp2_with (first | (refine qQz rfl 111 rfl (.agg Z) (by rw [← hZ.out];kernel_rfl) ?_))
  refine hu.mono ?_
  rintro e w1 ⟨g,rfl,H3⟩
  clear hu
  have H4:Hd w0 (TkP t m S::ro S::cel (w.heap.size+1) 111 Z::cel w.heap.size 111 Z::SlEC 3 g N m.units::R) w1:=H3.re
  have hl:=qqu H4
  clear H3
  go_wp2_with fail
  refine hl.mono ?_
  rintro e w2 ⟨rfl,rfl⟩
  clear hl
  have hML:=hm.n
  obtain ⟨M,hM⟩:∃M,m.rows.length=M:=⟨_,rfl⟩
  rw [hM] at hML ⊢
  go_wp2_with fail
  go_loopw [28] (fun x wr=>∃k:Nat,k≤M∧x=.int .i64 k∧Hd w0 (cel (w.heap.size+1) 111 (qQ0 (qJn m.rows r k))::TkP t m S::ro S::cel w.heap.size 111 Z::SlEC 3 g N m.units::R) wr) (fun x _=>M-(intOf x).toNat)
  case atStart=>exact ⟨0,Nat.zero_le _,rfl,by rw [← hZ0.out];exact H4.re⟩
  case round =>
    clear H4
    obtain ⟨k,hk,rfl,H5⟩:=hrel
    by_cases hlt:k<M
    · obtain ⟨x,hx⟩:∃x,m.rows[k]? = some x:=⟨m.rows[k]'(by omega),List.getElem?_eq_getElem _⟩
      have hxm:=List.mem_of_getElem? hx
      have hlv:=hm.lv x hxm
      have n4:(k:Int)<M:=by omega
      have g5:IntKind.i64.wrap ((k:Int)+1)=(k:Int)+1:=IntWalk.i64_in _ (by omega)
      have hg:=fun (w3:World) (h:Hd w0 (TkP t m S::ro S::cel (w.heap.size+1) 111 (qQ0 (qJn m.rows r k))::cel w.heap.size 111 Z::SlEC 3 g N m.units::R) w3)=>qqI h hm hx
      obtain ⟨q,hq⟩:∃q:Nat,qZi x.t.needs r=q:=⟨(qZi x.t.needs r).toNat,by have:=qVg hm hxm r;omega⟩
      have hql:=qVg hm hxm (r:Int)
      rw [hq] at hql
      have hdone:=Lib.hid (qUc hx hq)
      have hz0:=Lib.hid (qUb m.rows r k x.t.lv)
      obtain ⟨⟨nm,lv,fr,nds,cd,p,f,gg⟩,stp⟩:=x
      dsimp only at hlv hg hdone hz0 hq
      have hnd:=Lib.hid (fun (L:List Pr) (w3:World) (h:Hd w0 (TkP t m S::ro S::L) w3)=>zQY h hm hx r)
      have hg1:=hg _ H5.re
      clear hg hx hxm H5
      go_wp2_with fail
      refine hg1.mono ?_
      rintro e w3 ⟨v,rfl,H6⟩
      clear hg1
      obtain ⟨a1,c1,rfl,-,-,-,-⟩:=H6.slc_form
      have H7a:Hd w0 _ (w3.alloc (.cells #[.string nm,.int .i64 lv,.int .i64 fr,.slice a1 nds.length c1,.string cd,.int .i64 p,.int .i64 f,.int .i64 gg] 36)):=H6.fol
      have H7:Hd w0 (TkP t m S::ro S::cel w3.heap.size 36 #[.string nm,.int .i64 lv,.int .i64 fr,.slice a1 nds.length c1,.string cd,.int .i64 p,.int .i64 f,.int .i64 gg]::cel (w.heap.size+1) 111 (qQ0 (qJn m.rows r k))::cel w.heap.size 111 Z::SlEC 3 g N m.units::R) (w3.alloc (.cells #[.string nm,.int .i64 lv,.int .i64 fr,.slice a1 nds.length c1,.string cd,.int .i64 p,.int .i64 f,.int .i64 gg] 36)):=H7a.re
      have hn1:=hnd.out _ _ H7
      rw [hq] at hn1
      go_wp2_with fail
      refine hn1.mono ?_
      rintro e w4 ⟨rfl,H8⟩
      clear hn1 H6 H7 H7a
      go_wp2_with fail
      obtain ⟨xb,hxb⟩:∃xb,w3.heap.size=xb:=⟨_,rfl⟩
      rw [hxb] at H8 ⊢
      go_loopw [41] (fun y wv=>∃j:Nat,j≤q∧y=.int .i64 j∧Hd w0 (cel (w.heap.size+1) 111 (qQ0 (qJL m.rows r k j lv))::cel xb 36 #[.string nm,.int .i64 lv,.int .i64 fr,.slice a1 nds.length c1,.string cd,.int .i64 p,.int .i64 f,.int .i64 gg]::TkP t m S::ro S::cel w.heap.size 111 Z::SlEC 3 g N m.units::R) wv) (fun y _=>q-(intOf y).toNat)
      case atStart=>exact ⟨0,Nat.zero_le _,rfl,by rw [hz0.out];exact H8.re⟩
      case round =>
        clear H8
        obtain ⟨j,hj,rfl,H9⟩:=hrel
        by_cases hjq:j<q
        · have m1:(j:Int)<q:=by omega
          have m2:(0:Int)≤j:=by omega
          have m3:(j:Int)<256:=by omega
          have g6:IntKind.i64.wrap ((j:Int)+1)=(j:Int)+1:=IntWalk.i64_in _ (by omega)
          have j256:j<256:=by omega
          have d0:=zZo H9 (zZk (rs:=m.rows) (res:=r) (k:=k) (lv:=lv) j256)
          have d1:=(show _=some (Value.int .i64 lv) from (H9.k xb).ce 1 rfl)
          have d2:∀i,wr.frozen? ⟨w.heap.size+1,i,none⟩=false:=fun i=>(H9.k (w.heap.size+1)).fr i
          have hsuc:=qV3 (rs:=m.rows) (res:=r) (k:=k) (lv:=lv) j256
          obtain ⟨C,hC⟩:∃C,qZa (m.rows.take k) r j=C:=⟨_,rfl⟩
          rw [hC] at d0 hsuc
          replace hsuc:=Lib.hid hsuc
          have d3:=d2 j
          clear d2
          have H10:Hd w0 _ (wr.setCell ⟨w.heap.size+1,j,none⟩ (.int .i64 (max C lv))).drew:=H9.fol
          rw [zQH,hsuc.out] at H10
          go_wp2_with fail
          refine wm 7 [(0,true),(1,true),(2,true),(3,true),(4,true),(5,true),(6,false)] (fun w'=>w'.cell? ⟨w.heap.size+1,j,none⟩=some (.int .i64 C)∧w'.cell? ⟨xb,1,none⟩=some (.int .i64 lv)) (⟨d0,d1⟩) ?_
          simp only [List.drop_succ_cons,List.drop_zero]
          iterate 6 (refine mh ?_;(try simp only [Act.put,List.setIfInBounds_toArray,List.set_cons_zero,List.set_cons_succ]))
          refine mm ?_
          go_wp2_with fail
          refine qQd ⟨d0,d1⟩ ?_
          refine qQe ?_
          (try dsimp only)
          go_wp2_with fail
          go_roundw
          case rel=>exact ⟨j+1,by omega,by simp,H10.re⟩
          case measure=>simp [intOf];omega
        · obtain rfl:j=q:=by omega
          rw [hdone.out] at H9
          go_wp2_with fail
          go_roundw
          case rel=>exact ⟨k+1,by omega,by simp,H9.re⟩
          case measure=>simp [intOf];omega
    · obtain rfl:k=M:=by omega
      have hAs:=qXM m.rows r k
      obtain ⟨L,hL⟩:∃L,qJn m.rows r k=L:=⟨_,rfl⟩
      rw [hL] at hAs H5
      (try rw [hL])
      have h1:wr.rangeAt (w.heap.size+1) 0 (L.map (Value.int .i64)):=qK2 H5
      have h2:wr.cell? ⟨g,r,none⟩=some (.int .i64 U):=by
        have h:Hd w0 (SlEC 3 g m.units.length m.units::TkP t m S::R) wr:=by rw [hN];exact H5.re
        have:=h.slcC_rd (qQi hr (j:=0) rfl)
        simpa only [Enc.size,Nat.mul_one,Nat.add_zero] using this
      obtain ⟨A,hA⟩:∃A:Array Value,qQ0 L=A:=⟨_,rfl⟩
      have hone:=Lib.hid (hA ▸ qJe L)
      have hAz:=Lib.hid (show A.size=256 by rw [← hA];simp [qQ0,hAs])
      have hAl:=Lib.hid (show A=(L.map (Value.int .i64)).toArray from hA.symm)
      rw [hA] at H5
      have H6:Hd w0 _ wr.drew:=H5.fol
      replace hA:=Lib.hid hA
      replace hAs:=Lib.hid hAs
      replace hL:=Lib.hid hL
      go_wp2_with fail
      refine wm 6 [(0,true),(1,true),(2,true),(3,true),(4,true),(5,false)] (fun w'=>w'.rangeAt (w.heap.size+1) 0 (L.map (Value.int .i64))∧w'.cell? ⟨g,r,none⟩=some (.int .i64 U)) (⟨h1,h2⟩) ?_
      simp only [List.drop_succ_cons,List.drop_zero]
      refine ⟨_,.agg A,(by rfl),(by rw [hAl.out];exact yieldsIf_load_mid (by rfl) 111 _ rfl (w.heap.size+1) 0 rfl (L.map (Value.int .i64)) _ (fun w' h=>h.1) Tryz.underlying111 rfl (by rw [List.length_map,hAs.out];kernel_rfl)),?_⟩
      iterate 4 (refine qUO (o:=_) (v:=?_) (by (simp only [List.getElem?_toArray,List.getElem?_cons_succ,List.getElem?_cons_zero]);rfl) (by rfl) (fun w' hS=>?_) ?_;rotate_left 1;(focus ((try dsimp only at hS);(try go_split_ands);go_simp;(try with_reducible rfl)));(try simp only [Act.put,List.setIfInBounds_toArray]))
      refine mm ?_
      go_wp2_with (first | ((refine qQk (cells:=A) (H6.k w.heap.size) rfl 111 _ _ rfl rfl rfl (by rw [hAz.out];kernel_rfl) (hZs.out.trans hAz.out.symm) hone.out ?_);intro w4 H9))
      have H9a:Hd w0 (cel (w.heap.size+1) 111 (qQ0 L)::R) w4:=by rw [hA.out];exact H9.re
      have h3:w4.rangeAt (w.heap.size+1) 0 (L.map (Value.int .i64)):=qK2 H9a
      have h4:w4.cell? ⟨g,r,none⟩=some (.int .i64 U):=by
        have h:Hd w0 (SlEC 3 g m.units.length m.units::TkP t m S::R) w4:=by rw [hN];exact H9.re
        have:=h.slcC_rd (qQi hr (j:=0) rfl)
        simpa only [Enc.size,Nat.mul_one,Nat.add_zero] using this
      refine qQd ⟨h3,h4⟩ ?_
      refine qQe ?_
      (try dsimp only)
      go_wp2_with fail
      (try simp only [Exit.inBlock,Exit.then])
      refine bodyPost_ret (qQg rfl _ _ w.heap.size 111 A (0,0) _ (by rfl) (by exact ((Hd.fol H9:Hd w0 _ _).k w.heap.size).heap) Tryz.underlying111 rfl (by rw [hAz.out];kernel_rfl)) rfl ⟨by rw [hM,hL.out,hA.out];rfl,?_⟩
      exact Hd.fin H9
end
end
section
open Go.RowKit Spl
section
variable {w0 w:World} {R:List Pr} {t:Nat} {m:TkM} {S:Hp}
theorem ceAt (H:Hd w0 (TkP t m S::ro S::R) w) (hm:m.Ok) (res free:Int) :
    Calls Tryz.prog 180 #[.pointer (some ⟨t,0,none⟩),.int .i64 res,.int .i64 free] w fun e w'=>e=.returned (.int .i64 (qXz m res free))∧Hd w0 (TkP t m S::ro S::R) w':=by
  obtain ⟨Z,hZ⟩:∃Z:Array Value,qQ0 (List.replicate 256 0)=Z:=⟨_,rfl⟩
  have hZc:(Value.agg Z).cells=Z:=rfl
  have hZs:=Lib.hid (show Z.size=256 by rw [← hZ];simp [qQ0])
  by_cases hr:res<0∨(m.units.length:Int)≤res
  · have e1:qXz m res free=0:=by unfold qXz;rw [if_pos (by omega)]
    rw [e1]
    have hc:=zQ2 H hm hr
    have hone:=Lib.hid (hZ ▸ qJe (List.replicate 256 0))
    rw [hZ] at hc
    replace hZ:=Lib.hid hZ
    clear hr H e1
    go_enter Tryz.func180,Tryz.ntmps180
    go_wp2_with fail
    refine hc.mono ?_
    rintro e w1 ⟨rfl,H1⟩
    clear hc
    have H2:Hd w0 _ (w1.alloc (.cells Z 111)):=H1.fol
    go_wp2_with (first | (refine qQz rfl 111 rfl (.agg Z) (by rw [← hZ.out];kernel_rfl) ?_) | (refine qQk (cells:=Z) (H2.k w1.heap.size) rfl 111 _ _ rfl rfl rfl (by rw [hZs.out];kernel_rfl) rfl hone.out ?_;intro w4 H9))
    go_ret
    exact ⟨rfl,Hd.fin H9⟩
  · obtain ⟨r,rfl⟩:∃r:Nat,res=r:=⟨res.toNat,by omega⟩
    obtain ⟨U,hU⟩:∃U,m.units[r]? = some U:=⟨m.units[r]'(by omega),List.getElem?_eq_getElem _⟩
    have hc:=zQQ H hm hU
    have hu:=hm.uv U (List.mem_of_getElem? hU)
    obtain ⟨A,hA⟩:∃A:Array Value,qQ0 (qJn m.rows r m.rows.length)=A:=⟨_,rfl⟩
    have hone:=Lib.hid (hA ▸ qJe (qJn m.rows r m.rows.length))
    have hAz:=Lib.hid (show A.size=256 by rw [← hA,qY1,qXM])
    have hat:=Lib.hid (show ∀f:Nat,f<256→A[f]? = some (.int .i64 (qZa m.rows r f)) by
      intro f hf
      rw [← hA]
      have:=zZP (rs:=m.rows) (res:=r) (k:=m.rows.length) hf
      rw [List.take_length] at this
      simp [qQ0,this])
    have hcl:qXz m r free=if U<free then 0 else qZa m.rows r (max free 0):=by
      unfold qXz
      rw [Int.toNat_natCast,hU]
      simp only [Option.getD_some]
      by_cases h:U<free
      · rw [if_pos (by omega),if_pos h]
      · rw [if_neg (by omega),if_neg h]
    obtain ⟨E,hE⟩:∃E,qXz m r free=E:=⟨_,rfl⟩
    rw [hE] at hcl ⊢
    replace hcl:=Lib.hid hcl
    rw [hA] at hc
    replace hZ:=Lib.hid hZ
    replace hA:=Lib.hid hA
    clear hr H hE hU
    have n1:¬U<0:=by omega
    go_enter Tryz.func180,Tryz.ntmps180
    go_wp2_with fail
    refine hc.mono ?_
    rintro e w1 ⟨rfl,H1⟩
    clear hc
    have H2:Hd w0 _ (w1.alloc (.cells Z 111)):=H1.fol
    by_cases hf:U<free
    · go_wp2_with (first | (refine qQz rfl 111 rfl (.agg Z) (by rw [← hZ.out];kernel_rfl) ?_) | (refine qQk (cells:=A) (H2.k w1.heap.size) rfl 111 _ _ rfl rfl rfl (by rw [hAz.out];kernel_rfl) (hZs.out.trans hAz.out.symm) hone.out ?_;intro w4 H9))
      go_ret
      exact ⟨qQp (by rw [hcl.out,if_pos hf]),Hd.fin H9⟩
    · obtain ⟨f,hfe⟩:∃f:Nat,max free 0=f:=⟨(max free 0).toNat,by omega⟩
      have n2:(f:Int)<256:=by omega
      have n3:(0:Int)≤f:=by omega
      have hfa:=hat.out f (by omega)
      go_wp2_with (first | (refine qQz rfl 111 rfl (.agg Z) (by rw [← hZ.out];kernel_rfl) ?_) | (refine qQk (cells:=A) (H2.k w1.heap.size) rfl 111 _ _ rfl rfl rfl (by rw [hAz.out];kernel_rfl) (hZs.out.trans hAz.out.symm) hone.out ?_;intro w4 H9;have d0:=(H9.k w1.heap.size).rd f;rw [hfa] at d0))
      go_ret
      exact ⟨qQp (by rw [hcl.out,if_neg (by omega),hfe]),Hd.fin H9⟩
end
end
end Go.Proofs.YtkchopnkdjnocaaGreatDoor
