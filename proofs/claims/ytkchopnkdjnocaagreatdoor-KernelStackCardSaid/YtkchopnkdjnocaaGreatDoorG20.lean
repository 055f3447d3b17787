/-
  Merged texts of one proof: Q2, Ring, Lev, Lev2, QueueM.
-/
import Derived.Test.YtkchopnkdjnocaaGreatDoorG07
import Derived.Test.YtkchopnkdjnocaaGreatDoorG09
import Derived.Test.YtkchopnkdjnocaaGreatDoorG10

set_option maxHeartbeats 16000000
set_option maxRecDepth 20000
namespace Go.Proofs.YtkchopnkdjnocaaGreatDoor
section
open Go.RowKit Spl
section
variable {w0 w:World} {R:List Pr} {s o T:Nat} {C:Array Value} {v:Value} {l:List qQh} {f:Nat} {gar:List Value}
theorem qqO {x:qQh} (H:Hd w0 (cel s T C::Slc 42 3 v (f+(x::l).length) (gar++flat (x::l))::R) w) (hC:C[o]? = some v) (hC1:C[o+1]? = some (.int .i64 f)) (hg:gar.length=f*3) (hf:f≤100000) (hn:l.length<100000) :
    Calls Tryz.prog 152 #[.pointer (some ⟨s,o,none⟩)] w fun e w'=>e=.returned (.tuple #[.agg #[.int .i64 x.job,.int .i64 x.task,.int .i64 x.level],.bool true]) ∧
      ∃(v':Value) (f':Nat) (gar':List Value),gar'.length=f'*3∧f'≤l.length∧Hd w0 (cel s T ((C.setIfInBounds o v').setIfInBounds (o+1) (.int .i64 f'))::Slc 42 3 v' (f'+l.length) (gar'++flat l)::R) w':=by
  by_cases h:f+1≤l.length
  · refine (qUw H hC hC1 hg hf hn h).mono fun e w' ⟨he,h2⟩=>⟨he,v,f+1,gar++[.int .i64 0,.int .i64 0,.int .i64 0],by simp [hg];omega,h,?_⟩
    rw [qWE hC,Int.natCast_add]
    exact h2
  · refine (qUn H hC hC1 hg hf hn (by omega)).mono fun e w' ⟨he,v',h2⟩=>⟨he,v',0,[],by simp,Nat.zero_le _,?_⟩
    have h3:Hd w0 (cel s T ((C.setIfInBounds o v').setIfInBounds (o+1) (.int .i64 0))::Slc 42 3 v' l.length (flat l)::R) w':=h2
    simpa using h3
end
section
variable {w0 w:World} {R:List Pr} {s o T:Nat} {C:Array Value} {v:Value} {l:List EvM} {f:Nat} {gar:List Value}
theorem zZK {x:EvM} (H:Hd w0 (cel s T C::Slc 96 9 v (f+(x::l).length) (gar++flat (x::l))::R) w) (hC:C[o]? = some v) (hC1:C[o+1]? = some (.int .i64 f)) (hg:gar.length=f*9) (hf:f≤100000) (hn:l.length<100000) :
    Calls Tryz.prog 112 #[.pointer (some ⟨s,o,none⟩)] w fun e w'=>e=.returned (.tuple #[.agg #[.int .i64 x.kind,.int .i64 x.task,.int .i64 x.job,.int .i64 x.op.kind,.int .i64 x.op.res,.int .i64 x.op.n,.int .i64 x.op.v,.int .i64 x.why,.int .i64 x.clock],.bool true]) ∧
      ∃(v':Value) (f':Nat) (gar':List Value),gar'.length=f'*9∧f'≤l.length∧Hd w0 (cel s T ((C.setIfInBounds o v').setIfInBounds (o+1) (.int .i64 f'))::Slc 96 9 v' (f'+l.length) (gar'++flat l)::R) w':=by
  by_cases h:f+1≤l.length
  · refine (zZa H hC hC1 hg hf hn h).mono fun e w' ⟨he,h2⟩=>⟨he,v,f+1,gar++[.int .i64 0,.int .i64 0,.int .i64 0,.int .i64 0,.int .i64 0,.int .i64 0,.int .i64 0,.int .i64 0,.int .i64 0],by simp [hg];omega,h,?_⟩
    rw [qWE hC,Int.natCast_add]
    exact h2
  · refine (zQC H hC hC1 hg hf hn (by omega)).mono fun e w' ⟨he,v',h2⟩=>⟨he,v',0,[],by simp,Nat.zero_le _,?_⟩
    have h3:Hd w0 (cel s T ((C.setIfInBounds o v').setIfInBounds (o+1) (.int .i64 0))::Slc 96 9 v' l.length (flat l)::R) w':=h2
    simpa using h3
end
end
section
open Go.RowKit Spl
structure qX0 where
  l:List EvM
  most:Nat
  gone:Nat
structure qX0.Ok (m:qX0):Prop where
  l:m.l.length≤m.most
  m0:0<m.most
  m1:m.most≤4096
  g:m.gone≤4611686018427387904
def qX0.put (m:qX0) (x:EvM):qX0:=if m.l.length=m.most then ⟨m.l.tail++[x],m.most,m.gone+1⟩ else ⟨m.l++[x],m.most,m.gone⟩
structure QOk (size f n:Nat) (gar:List Value):Prop where
  gar:gar.length=f*size
  le:f≤n
def qQT (b:Nat) (m:qX0):Pr:=ex fun x:Value × Nat × List Value=>all [fact (QOk 9 x.2.1 m.l.length x.2.2),cel b 199 #[x.1,.int .i64 x.2.1,.int .i64 m.most,.int .i64 m.gone],Slc 96 9 x.1 (x.2.1+m.l.length) (x.2.2++flat m.l)]
instance (b:Nat) (m:qX0):Key (qQT b m) (.b b):=⟨trivial⟩
section
variable {w0 w:World} {R:List Pr} {b:Nat} {m:qX0}
theorem qQT.opened (H:Hd w0 (qQT b m::R) w):∃v f gar,QOk 9 f m.l.length gar∧Hd w0 (cel b 199 #[v,.int .i64 f,.int .i64 m.most,.int .i64 m.gone]::Slc 96 9 v (f+m.l.length) (gar++flat m.l)::R) w:=by
  obtain ⟨⟨v,f,gar⟩,H⟩:=H.out
  have H2:=H.flat
  exact ⟨v,f,gar,Hd.get H2,H2.tail⟩
theorem qQT.shut {v:Value} {f:Nat} {gar:List Value} (H:Hd w0 (cel b 199 #[v,.int .i64 f,.int .i64 m.most,.int .i64 m.gone]::Slc 96 9 v (f+m.l.length) (gar++flat m.l)::R) w) (h:QOk 9 f m.l.length gar):Hd w0 (qQT b m::R) w :=
  Hd.into (v,f,gar) (Hd.pack (L:=[_,_,_]) (H.put h))
theorem zJZ (H:Hd w0 R w):Calls Tryz.prog 59 #[.int .i64 4096] w fun e w'=>∃b,e=.returned (.tuple #[.pointer (some ⟨b,0,none⟩),.int .i64 0])∧Hd w0 (qQT b ⟨[],4096,0⟩::R) w':=by
  go_enter Tryz.func59,Tryz.ntmps59
  go_wp2
  go_ret2
  refine ⟨_,rfl,qQT.shut (m:=⟨[],4096,0⟩) (v:=.slice none 0 0) (f:=0) (gar:=[]) ?_ ⟨rfl,Nat.le_refl _⟩⟩
  exact ((H.alloc (.cells #[.slice none 0 0,.int .i64 0,.int .i64 4096,.int .i64 0] 199)).slc_nil 96 9).b2
theorem qUe (H:Hd w0 (qQT b m::R) w):Calls Tryz.prog 72 #[.pointer (some ⟨b,0,none⟩)] w fun e w'=>e=.returned (.int .i64 m.gone)∧w=w':=by
  obtain ⟨v,f,gar,hq,H1⟩:=qQT.opened H
  have c3:=H1.rd 3
  clear H1 H
  go_enter Tryz.func72,Tryz.ntmps72
  go_wp2
  go_ret
  exact ⟨rfl,rfl⟩
theorem zJp (H:Hd w0 (qQT b m::R) w) (hm:m.Ok) (x:EvM) :
    Calls Tryz.prog 76 #[.pointer (some ⟨b,0,none⟩),.agg #[.int .i64 x.kind,.int .i64 x.task,.int .i64 x.job,.int .i64 x.op.kind,.int .i64 x.op.res,.int .i64 x.op.n,.int .i64 x.op.v,.int .i64 x.why,.int .i64 x.clock]] w fun e w' =>
      e=.returned (.tuple #[])∧Hd w0 (qQT b (m.put x)::R) w':=by
  obtain ⟨v,f,gar,hq,H1⟩:=qQT.opened H
  have hml:=hm.l
  have hm1:=hm.m1
  have hfl:=hq.le
  have HB:Hd w0 _ (w.alloc (.cells #[.int .i64 x.kind,.int .i64 x.task,.int .i64 x.job,.int .i64 x.op.kind,.int .i64 x.op.res,.int .i64 x.op.n,.int .i64 x.op.v,.int .i64 x.why,.int .i64 x.clock] 96)):=H1.fol
  have c2:=(HB.k b).ce 2 (u:=.int .i64 m.most) rfl
  have hE:=Lib.hid (And.intro hm hq)
  have hg0:=hm.m0
  have hgg:=hm.g
  clear H H1 hm hq
  by_cases hfull:m.l.length=m.most
  · obtain ⟨y,l',hl⟩:∃y l',m.l=y::l':=by
      cases h:m.l with
      | nil=>rw [h] at hfull;simp at hfull;omega
      | cons y l'=>exact ⟨y,l',rfl⟩
    have e1:m.put x=⟨l'++[x],m.most,m.gone+1⟩:=by unfold qX0.put;rw [if_pos hfull,hl];rfl
    rw [e1]
    have hb:((m.l.length:Int) == m.most)=true:=by rw [hfull];simp
    have hlen:m.l.length=l'.length+1:=by rw [hl];simp
    have hw:IntKind.i64.wrap ((m.gone:Int)+1)=(m.gone:Int)+1:=IntWalk.i64_in _ (by omega)
    clear hgg
    have hF:=Lib.hid (And.intro hfull (And.intro hl hlen))
    clear e1
    go_enter Tryz.func76,Tryz.ntmps76
    go_wp2_with fail
    refine wm0 [(0,true),(1,true),(2,true),(4,true),(5,true),(6,true),(7,true),(3,false),(8,true)] (fun w'=>w'.cell? ⟨b,2,none⟩=some (.int .i64 m.most)) (c2) ?_
    iterate 7 (refine mh ?_;(try simp only [Act.put,List.setIfInBounds_toArray,List.set_cons_zero,List.set_cons_succ]))
    refine mm ?_
    go_wp2_with fail
    refine (qWt (o:=0) ((HB.drew.v v).k b) rfl rfl (by omega) (by omega)).mono ?_
    rintro e w' ⟨rfl,n,rfl⟩
    go_wp2_with fail
    refine qQd (by exact c2) ?_
    iterate 1 (refine mh ?_;(try simp only [Act.put,List.setIfInBounds_toArray,List.set_cons_zero,List.set_cons_succ]))
    refine qQe ?_
    (try dsimp only)
    have hD:Hd w0 (cel b 199 #[v,.int .i64 f,.int .i64 m.most,.int .i64 m.gone]::Slc 96 9 v (f+(y::l').length) (gar++flat (y::l'))::pt w.heap.size (.cells #[.int .i64 x.kind,.int .i64 x.task,.int .i64 x.job,.int .i64 x.op.kind,.int .i64 x.op.res,.int .i64 x.op.n,.int .i64 x.op.v,.int .i64 x.why,.int .i64 x.clock] 96)::R) (w.alloc (.cells #[.int .i64 x.kind,.int .i64 x.task,.int .i64 x.job,.int .i64 x.op.kind,.int .i64 x.op.res,.int .i64 x.op.n,.int .i64 x.op.v,.int .i64 x.why,.int .i64 x.clock] 96)):=by rw [← hF.out.2.1];exact HB.re
    go_wp2_with fail
    refine (zZK (C:=#[v,.int .i64 f,.int .i64 m.most,.int .i64 m.gone]) (v:=v) (o:=0) (f:=f) (l:=l') (gar:=gar) (x:=y) (Hd.fol hD) rfl rfl hE.out.2.gar (by omega) (by omega)).mono ?_
    rintro e w2 ⟨rfl,v2,f2,gar2,hg2,hf2,H2⟩
    have H3:Hd w0 (cel b 199 #[v2,.int .i64 f2,.int .i64 m.most,.int .i64 m.gone]::Slc 96 9 v2 (f2+l'.length) (gar2++flat l')::pt w.heap.size (.cells #[.int .i64 x.kind,.int .i64 x.task,.int .i64 x.job,.int .i64 x.op.kind,.int .i64 x.op.res,.int .i64 x.op.n,.int .i64 x.op.v,.int .i64 x.why,.int .i64 x.clock] 96)::R) w2:=H2
    have c3:=(H3.k b).rd 3
    have f3:=(H3.k b).fr 3
    clear c2
    have HL:Hd w0 _ (w2.setCell ⟨b,3,none⟩ (.int .i64 ((m.gone:Int)+1))):=H3.fol
    have hx:=HL.k w.heap.size
    have x0:=hx.rd 0
    have x1:=hx.rd 1
    have x2:=hx.rd 2
    have x3:=hx.rd 3
    have x4:=hx.rd 4
    have x5:=hx.rd 5
    have x6:=hx.rd 6
    have x7:=hx.rd 7
    have x8:=hx.rd 8
    simp only [List.getElem?_toArray,List.getElem?_cons_zero,List.getElem?_cons_succ] at x0 x1 x2 x3 x4 x5 x6 x7 x8
    clear hx
    go_wp2_with fail
    refine wm0 [(0,true),(1,true),(2,true),(3,true),(4,false)] (fun w'=>w'.cell? ⟨w.heap.size,0,none⟩=some (.int .i64 x.kind)∧w'.cell? ⟨w.heap.size,1,none⟩=some (.int .i64 x.task)∧w'.cell? ⟨w.heap.size,2,none⟩=some (.int .i64 x.job)∧w'.cell? ⟨w.heap.size,3,none⟩=some (.int .i64 x.op.kind)∧w'.cell? ⟨w.heap.size,4,none⟩=some (.int .i64 x.op.res)∧w'.cell? ⟨w.heap.size,5,none⟩=some (.int .i64 x.op.n)∧w'.cell? ⟨w.heap.size,6,none⟩=some (.int .i64 x.op.v)∧w'.cell? ⟨w.heap.size,7,none⟩=some (.int .i64 x.why)∧w'.cell? ⟨w.heap.size,8,none⟩=some (.int .i64 x.clock)) (⟨x0,x1,x2,x3,x4,x5,x6,x7,x8⟩) ?_
    iterate 4 (refine mh ?_;(try simp only [Act.put,List.setIfInBounds_toArray,List.set_cons_zero,List.set_cons_succ]))
    refine mm ?_
    go_wp2_with fail
    refine (zQg (o:=0) (f:=f2) (l:=l') (gar:=gar2) (((Hd.fol HL:Hd w0 _ _).v v2).k b) rfl (by omega) (by omega) x).mono ?_
    rintro e w4 ⟨rfl,v4,H4⟩
    have hx:=H4.k w.heap.size
    have y0:=hx.rd 0
    have y1:=hx.rd 1
    have y2:=hx.rd 2
    have y3:=hx.rd 3
    have y4:=hx.rd 4
    have y5:=hx.rd 5
    have y6:=hx.rd 6
    have y7:=hx.rd 7
    have y8:=hx.rd 8
    simp only [List.getElem?_toArray,List.getElem?_cons_zero,List.getElem?_cons_succ] at y0 y1 y2 y3 y4 y5 y6 y7 y8
    go_wp2_with fail
    refine qQd ⟨y0,y1,y2,y3,y4,y5,y6,y7,y8⟩ ?_
    refine qQe ?_
    (try dsimp only)
    go_wp2_with fail
    go_end0
    refine ⟨rfl,qQT.shut (m:=⟨l'++[x],m.most,m.gone+1⟩) (v:=v4) (f:=f2) (gar:=gar2) ?_ ⟨hg2,by simp;omega⟩⟩
    have H5:Hd w0 (cel b 199 #[v4,.int .i64 f2,.int .i64 m.most,.int .i64 ((m.gone+1:Nat):Int)]::Slc 96 9 v4 (f2+(l'++[x]).length) (gar2++flat (l'++[x]))::_) w4:=H4
    exact H5.re
  · have e1:m.put x=⟨m.l++[x],m.most,m.gone⟩:=by unfold qX0.put;rw [if_neg hfull]
    rw [e1]
    have hb:((m.l.length:Int) == m.most)=false:=by rw [beq_eq_false_iff_ne];omega
    clear hgg
    clear e1
    go_enter Tryz.func76,Tryz.ntmps76
    go_wp2_with fail
    refine wm0 [(0,true),(1,true),(2,true),(4,true),(5,true),(6,true),(7,true),(3,false),(8,true)] (fun w'=>w'.cell? ⟨b,2,none⟩=some (.int .i64 m.most)) (c2) ?_
    iterate 7 (refine mh ?_;(try simp only [Act.put,List.setIfInBounds_toArray,List.set_cons_zero,List.set_cons_succ]))
    refine mm ?_
    go_wp2_with fail
    refine (qWt (o:=0) ((HB.drew.v v).k b) rfl rfl (by omega) (by omega)).mono ?_
    rintro e w' ⟨rfl,n,rfl⟩
    go_wp2_with fail
    refine qQd (by exact c2) ?_
    iterate 1 (refine mh ?_;(try simp only [Act.put,List.setIfInBounds_toArray,List.set_cons_zero,List.set_cons_succ]))
    refine qQe ?_
    (try dsimp only)
    have HL:=HB
    have hx:=HL.k w.heap.size
    have x0:=hx.rd 0
    have x1:=hx.rd 1
    have x2:=hx.rd 2
    have x3:=hx.rd 3
    have x4:=hx.rd 4
    have x5:=hx.rd 5
    have x6:=hx.rd 6
    have x7:=hx.rd 7
    have x8:=hx.rd 8
    simp only [List.getElem?_toArray,List.getElem?_cons_zero,List.getElem?_cons_succ] at x0 x1 x2 x3 x4 x5 x6 x7 x8
    clear hx
    go_wp2_with fail
    refine wm0 [(0,true),(1,true),(2,true),(3,true),(4,false)] (fun w'=>w'.cell? ⟨w.heap.size,0,none⟩=some (.int .i64 x.kind)∧w'.cell? ⟨w.heap.size,1,none⟩=some (.int .i64 x.task)∧w'.cell? ⟨w.heap.size,2,none⟩=some (.int .i64 x.job)∧w'.cell? ⟨w.heap.size,3,none⟩=some (.int .i64 x.op.kind)∧w'.cell? ⟨w.heap.size,4,none⟩=some (.int .i64 x.op.res)∧w'.cell? ⟨w.heap.size,5,none⟩=some (.int .i64 x.op.n)∧w'.cell? ⟨w.heap.size,6,none⟩=some (.int .i64 x.op.v)∧w'.cell? ⟨w.heap.size,7,none⟩=some (.int .i64 x.why)∧w'.cell? ⟨w.heap.size,8,none⟩=some (.int .i64 x.clock)) (⟨x0,x1,x2,x3,x4,x5,x6,x7,x8⟩) ?_
    iterate 4 (refine mh ?_;(try simp only [Act.put,List.setIfInBounds_toArray,List.set_cons_zero,List.set_cons_succ]))
    refine mm ?_
    go_wp2_with fail
    refine (zQg (o:=0) (f:=f) (l:=m.l) (gar:=gar) (((Hd.fol HL:Hd w0 _ _).v v).k b) rfl (by omega) (by omega) x).mono ?_
    rintro e w4 ⟨rfl,v4,H4⟩
    have hx:=H4.k w.heap.size
    have y0:=hx.rd 0
    have y1:=hx.rd 1
    have y2:=hx.rd 2
    have y3:=hx.rd 3
    have y4:=hx.rd 4
    have y5:=hx.rd 5
    have y6:=hx.rd 6
    have y7:=hx.rd 7
    have y8:=hx.rd 8
    simp only [List.getElem?_toArray,List.getElem?_cons_zero,List.getElem?_cons_succ] at y0 y1 y2 y3 y4 y5 y6 y7 y8
    go_wp2_with fail
    refine qQd ⟨y0,y1,y2,y3,y4,y5,y6,y7,y8⟩ ?_
    refine qQe ?_
    (try dsimp only)
    go_wp2_with fail
    go_end0
    refine ⟨rfl,qQT.shut (m:=⟨m.l++[x],m.most,m.gone⟩) (v:=v4) (f:=f) (gar:=gar) ?_ ⟨hE.out.2.gar,by simp;omega⟩⟩
    have H5:Hd w0 (cel b 199 #[v4,.int .i64 f,.int .i64 m.most,.int .i64 m.gone]::Slc 96 9 v4 (f+(m.l++[x]).length) (gar++flat (m.l++[x]))::_) w4:=H4
    exact H5.re
end
end
section
open Go.RowKit Spl
structure QR where
  v:Value
  f:Nat
  gar:List Value
def QR.c (r:QR):List Value:=[r.v,.int .i64 r.f]
def rowC (rs:List QR) (sp:List Value):Array Value:=(rs.flatMap QR.c++sp).toArray
theorem qUP (rs:List QR):(rs.flatMap QR.c).length=2*rs.length:=by
  induction rs with
  | nil=>rfl
  | cons r rs ih=>simp only [List.flatMap_cons,List.length_append,ih,List.length_cons,QR.c,List.length_nil];omega
theorem zJz {r:QR}:∀ {rs:List QR} {i:Nat} (_:rs[i]? = some r),(rs.flatMap QR.c)[2*i]? = some r.v∧(rs.flatMap QR.c)[2*i+1]? = some (.int .i64 r.f):=by
  intro rs
  induction rs with
  | nil=>intro i h;simp at h
  | cons a rs ih =>
    intro i h
    cases i with
    | zero=>simp at h;subst h;simp [QR.c]
    | succ i =>
      have:=ih (i:=i) (by simpa using h)
      simp only [List.flatMap_cons,QR.c,Nat.mul_add,Nat.mul_one,List.cons_append,List.nil_append]
      exact this
theorem qJN {rs:List QR} {sp:List Value} {i:Nat} {r:QR} (h:rs[i]? = some r):(rowC rs sp)[i*2]? = some r.v∧(rowC rs sp)[i*2+1]? = some (.int .i64 r.f):=by
  have h1:=zJz h
  have h2:=qQa h
  have h3:=qUP rs
  rw [Nat.mul_comm] at h1
  simp only [rowC,List.getElem?_toArray]
  rw [List.getElem?_append_left (by omega),List.getElem?_append_left (by omega)]
  exact h1
theorem zZD {r:QR} {v:Value} {f:Nat} {gar:List Value}:∀ {rs:List QR} {i:Nat} (_:rs[i]? = some r),((rs.flatMap QR.c).set (2*i) v).set (2*i+1) (.int .i64 f)=(rs.set i ⟨v,f,gar⟩).flatMap QR.c:=by
  intro rs
  induction rs with
  | nil=>intro i h;simp at h
  | cons a rs ih =>
    intro i h
    cases i with
    | zero=>simp [QR.c]
    | succ i =>
      have:=ih (i:=i) (by simpa using h)
      simp only [List.flatMap_cons,QR.c,Nat.mul_add,Nat.mul_one,List.cons_append,List.nil_append,List.set_cons_succ]
      rw [← this]
theorem qUL {rs:List QR} {sp:List Value} {i:Nat} {r:QR} (h:rs[i]? = some r) (v:Value) (f:Nat) (gar:List Value):((rowC rs sp).setIfInBounds (i*2) v).setIfInBounds (i*2+1) (.int .i64 f)=rowC (rs.set i ⟨v,f,gar⟩) sp:=by
  have h2:=qQa h
  have h3:=qUP rs
  rw [Nat.mul_comm]
  simp only [rowC,List.setIfInBounds_toArray]
  rw [List.set_append_left _ _ (by omega),List.set_append_left _ _ (by rw [List.length_set];omega),zZD (gar:=gar) h]
theorem zQX {rs:List QR} {sp:List Value} {i:Nat} {r:QR} (h:rs[i]? = some r) (v:Value) (gar:List Value):(rowC rs sp).setIfInBounds (i*2) v=rowC (rs.set i ⟨v,r.f,gar⟩) sp:=by
  rw [← qUL h v r.f gar]
  have h2:=(qJN (sp:=sp) h).2
  have h3:((rowC rs sp).setIfInBounds (i*2) v)[i*2+1]? = some (.int .i64 r.f):=by
    rw [Array.getElem?_setIfInBounds_ne (by omega)];exact h2
  exact (qWE h3).symm
theorem qUR {α β γ:Type} (f:α→β→γ):∀(xs:List α) (bs:List β) (i:Nat) (a:α) (b:β),(List.zipWith f (xs.set i a) (bs.set i b)).eraseIdx i=(List.zipWith f xs bs).eraseIdx i:=by
  intro xs
  induction xs with
  | nil=>intro bs i a b;simp
  | cons x xs ih =>
    intro bs i a b
    cases bs with
    | nil=>cases i <;> simp
    | cons y bs=>cases i with
      | zero=>simp
      | succ i=>simp [ih]
def lq (r:QR) (l:List qQh):Pr:=all [fact (QOk 3 r.f l.length r.gar),Slc 42 3 r.v (r.f+l.length) (r.gar++flat l)]
structure LevF (v:Value) (g n:Nat) (rs:List QR):Prop where
  v:v=.slice (some ⟨g,0,none⟩) n n
  l:rs.length=n
def Lev (v:Value) (qs:List (List qQh)):Pr:=ex fun x:Nat × List QR × List Value=>all [fact (LevF v x.1 qs.length x.2.1),cel x.1 272 (rowC x.2.1 x.2.2),all (List.zipWith lq x.2.1 qs)]
instance (v:Value) (qs:List (List qQh)):Key (Lev v qs) (.v v):=⟨trivial⟩
def hiQ (qs:List (List qQh)):Nat→Nat
  | 0=>0
  | k+1=>if (qs[k]?.getD []).length=0 then hiQ qs k else k+1
theorem qXo {qs:List (List qQh)}:∀ {n k:Nat} (_:hiQ qs n=k+1),∃x l,qs[k]? = some (x::l):=by
  intro n
  induction n with
  | zero=>intro k h;simp [hiQ] at h
  | succ n ih =>
    intro k h
    unfold hiQ at h
    split at h
    · exact ih h
    · rename_i hl
      obtain rfl:n=k:=by omega
      cases hq:qs[n]? with
      | none=>rw [hq] at hl;simp at hl
      | some l=>cases l with
        | nil=>rw [hq] at hl;simp at hl
        | cons x l=>exact ⟨x,l,rfl⟩
section
variable {w0 w:World} {R:List Pr} {v:Value} {qs:List (List qQh)}
theorem Lev.opened {i:Nat} {l:List qQh} (H:Hd w0 (Lev v qs::R) w) (hi:qs[i]? = some l):∃g rs sp r,LevF v g qs.length rs∧rs[i]? = some r∧QOk 3 r.f l.length r.gar ∧
    Hd w0 (cel g 272 (rowC rs sp)::Slc 42 3 r.v (r.f+l.length) (r.gar++flat l)::all ((List.zipWith lq rs qs).eraseIdx i)::R) w:=by
  obtain ⟨⟨g,rs,sp⟩,H⟩:=H.out
  have H2:=H.flat
  have hf:=Hd.get H2
  obtain ⟨r,hr⟩:∃r,rs[i]? = some r:=⟨rs[i]'(by have h1:rs.length=qs.length:=hf.l;have:=qQa hi;omega),List.getElem?_eq_getElem _⟩
  have H3:Hd w0 (cel g 272 (rowC rs sp)::all (List.zipWith lq rs qs)::R) w:=H2.tail
  have H4:=(H3.b2.row_nth hr hi).flat
  exact ⟨g,rs,sp,r,hf,hr,Hd.get H4,H4.tail.b3⟩
theorem Lev.shut {i:Nat} {l l':List qQh} {g:Nat} {rs:List QR} {sp:List Value} {r r':QR} (H:Hd w0 (cel g 272 (rowC (rs.set i r') sp)::Slc 42 3 r'.v (r'.f+l'.length) (r'.gar++flat l')::all ((List.zipWith lq rs qs).eraseIdx i)::R) w)
    (hi:qs[i]? = some l) (hf:LevF v g qs.length rs) (hr:rs[i]? = some r) (hq:QOk 3 r'.f l'.length r'.gar):Hd w0 (Lev v (qs.set i l')::R) w:=by
  have hl1:=qQa hi
  have hl2:=qQa hr
  refine Hd.into (g,rs.set i r',sp) (Hd.pack (L:=[_,_,_]) (Hd.put ⟨by rw [List.length_set];exact hf.v,by simp [hf.l]⟩ ?_))
  have H1:Hd w0 (lq r' l'::all ((List.zipWith lq rs qs).eraseIdx i)::cel g 272 (rowC (rs.set i r') sp)::R) w:=Hd.pack (L:=[_,_]) (Hd.put hq H.d3)
  rw [← qUR lq rs qs i r' l'] at H1
  exact (H1.all_back (by simp [List.getElem?_zipWith,hl1,hl2])).b2
theorem Lev.same {i:Nat} {l:List qQh} {g:Nat} {rs:List QR} {sp:List Value} {r:QR} (H:Hd w0 (cel g 272 (rowC rs sp)::Slc 42 3 r.v (r.f+l.length) (r.gar++flat l)::all ((List.zipWith lq rs qs).eraseIdx i)::R) w)
    (hi:qs[i]? = some l) (hf:LevF v g qs.length rs) (hr:rs[i]? = some r) (hq:QOk 3 r.f l.length r.gar):Hd w0 (Lev v qs::R) w:=by
  refine Hd.into (g,rs,sp) (Hd.pack (L:=[_,_,_]) (Hd.put hf ?_))
  have H1:Hd w0 (lq r l::all ((List.zipWith lq rs qs).eraseIdx i)::cel g 272 (rowC rs sp)::R) w:=Hd.pack (L:=[_,_]) (Hd.put hq H.d3)
  exact (H1.row_same hr hi).b2
end
section
variable {w0 w:World} {R:List Pr} {b o T:Nat} {C:Array Value} {v:Value} {qs:List (List qQh)}
theorem qWL (H:Hd w0 (Lev v qs::R) w):∃g,v=.slice (some ⟨g,0,none⟩) qs.length qs.length:=by
  obtain ⟨⟨g,rs,sp⟩,H⟩:=H.out
  exact ⟨g,(Hd.get H.flat).v⟩
theorem zXb {i:Nat} {l:List qQh} (H:Hd w0 (cel b T C::Lev v qs::R) w) (hC:C[o]? = some v) (hi:qs[i]? = some l) (hn:l.length≤10000) (h32:qs.length≤32) (x:qQh) :
    Calls Tryz.prog 110 #[.pointer (some ⟨b,o,none⟩),.int .i64 ((i:Int)+1),.agg #[.int .i64 x.job,.int .i64 x.task,.int .i64 x.level]] w fun e w' =>
      e=.returned (.int .i64 0)∧Hd w0 (cel b T C::Lev v (qs.set i (l++[x]))::R) w':=by
  obtain ⟨g,rs,sp,r,hf,hr,hq,H1⟩:=Lev.opened H.b2 hi
  obtain rfl:=hf.v
  have hlt:=qQa hi
  have hle:=hq.le
  have HB:Hd w0 _ (w.alloc (.cells #[.int .i64 x.job,.int .i64 x.task,.int .i64 x.level] 42)):=H1.fol
  have c0:=(HB.k b).ce o hC
  have x0:=(HB.k w.heap.size).rd 0
  have x1:=(HB.k w.heap.size).rd 1
  have x2:=(HB.k w.heap.size).rd 2
  simp only [List.getElem?_toArray,List.getElem?_cons_zero,List.getElem?_cons_succ] at x0 x1 x2
  have g1:((i:Int)+1<1)=False:=by simp;omega
  have g2:decide ((qs.length:Int)<(i:Int)+1)=false:=by simp;omega
  have g3:IntKind.i64.wrap (i:Int)=i:=IntWalk.i64_in _ (by omega)
  have n0:¬((i:Int)<0):=by omega
  have n1:(i:Int)<qs.length:=by omega
  have n2:¬qs.length≤i:=by omega
  have hE:=Lib.hid (And.intro hf (And.intro hr hq))
  clear H hf hr hq H1 h32
  go_enter Tryz.func110,Tryz.ntmps110
  go_wp2_with fail
  refine wm0 [(0,true),(1,true),(2,true),(3,true),(4,true),(5,true),(6,true),(7,true),(8,false)] (fun w'=>w'.cell? ⟨b,o,none⟩=some (.slice (some ⟨g,0,none⟩) qs.length qs.length)∧w'.cell? ⟨w.heap.size,0,none⟩=some (.int .i64 x.job)∧w'.cell? ⟨w.heap.size,1,none⟩=some (.int .i64 x.task)∧w'.cell? ⟨w.heap.size,2,none⟩=some (.int .i64 x.level)) (⟨c0,x0,x1,x2⟩) ?_
  iterate 8 (refine mh ?_;(try simp only [Act.put,List.setIfInBounds_toArray,List.set_cons_zero,List.set_cons_succ]))
  refine mm ?_
  go_wp2_with fail
  refine (zQ0 (C:=rowC rs sp) (v:=r.v) (o:=i*2) (f:=r.f) (l:=l) (gar:=r.gar) ((((Hd.fol HB:Hd w0 _ _).v r.v).k g)) (qJN hE.out.2.1).1 (by omega) (by omega) x).mono ?_
  rintro e w2 ⟨rfl,v',H2⟩
  rw [zQX hE.out.2.1 v' r.gar] at H2
  have d0:=(H2.k b).ce o hC
  have y0:=(H2.k w.heap.size).rd 0
  have y1:=(H2.k w.heap.size).rd 1
  have y2:=(H2.k w.heap.size).rd 2
  simp only [List.getElem?_toArray,List.getElem?_cons_zero,List.getElem?_cons_succ] at y0 y1 y2
  go_wp2_with fail
  refine qQd ⟨d0,y0,y1,y2⟩ ?_
  refine qQe ?_
  (try dsimp only)
  go_wp2_with fail
  go_ret
  refine ⟨rfl,?_⟩
  have H3:=Lev.shut (l:=l) (l':=l++[x]) (r':=⟨v',r.f,r.gar⟩) (i:=i) (rs:=rs) (sp:=sp) (qs:=qs) (R:=cel b T C::R) (H2.re) hi hE.out.1 hE.out.2.1 ⟨hE.out.2.2.gar,by simp;omega⟩
  exact H3.b2
theorem zX7 (H:Hd w0 (cel b T C::Lev v qs::R) w) (hC:C[o]? = some v) (hn:∀l∈qs,l.length≤10000) (h32:qs.length≤32) :
    Calls Tryz.prog 173 #[.pointer (some ⟨b,o,none⟩)] w fun e w' =>
      e=.returned (.int .i64 (hiQ qs qs.length))∧∃n,w'=w.drewN n:=by
  obtain ⟨g,rfl⟩:=qWL H.b2
  have c0:=(H.rd o).trans hC
  have hO:=Lib.hid (And.intro H (And.intro hC hn))
  clear H hC hn
  go_enter Tryz.func173,Tryz.ntmps173
  go_wp2
  go_loopw [3] (fun i wr=>∃k n:Nat,k≤qs.length∧i=.int .i64 k∧hiQ qs qs.length=hiQ qs k∧wr=w.drewN n) (fun i _=>(intOf i).toNat)
  case atStart=>exact ⟨qs.length,0,Nat.le_refl _,rfl,rfl,rfl⟩
  case round =>
    obtain ⟨k,n,hk,rfl,hh,rfl⟩:=hrel
    cases k with
    | zero =>
      go_wp2
      go_ret
      exact ⟨by rw [hh];rfl,n,rfl⟩
    | succ k =>
      obtain ⟨l,hl⟩:∃l,qs[k]? = some l:=⟨qs[k]'(by omega),List.getElem?_eq_getElem _⟩
      have hln:=hO.out.2.2 l (List.mem_of_getElem? hl)
      obtain ⟨g2,rs,sp,r,hf,hr,hq,H1⟩:=Lev.opened hO.out.1.b2 hl
      have hle:=hq.le
      obtain rfl:g=g2:=by have:=hf.v;injection this with h1 _ _;injection h1 with h1;injection h1
      have hr2:=qJN (sp:=sp) hr
      have hcall:=qXO (C:=rowC rs sp) (v:=r.v) (o:=k*2) (f:=r.f) (l:=l) (gar:=r.gar) (((Hd.fol H1:Hd w0 _ (w.drewN n)).v r.v).k g) hr2.1 hr2.2 (by omega) (by omega)
      have g3:IntKind.i64.wrap (k:Int)=k:=IntWalk.i64_in _ (by omega)
      have n0:¬((k:Int)<0):=by omega
      have n1:(k:Int)<qs.length:=by omega
      have n2:¬qs.length≤k:=by omega
      have n4:(0:Int)<(k:Int)+1:=by omega
      by_cases h0:l.length=0
      · have e1:hiQ qs (k+1)=hiQ qs k:=by simp [hiQ,hl,h0]
        rw [e1] at hh
        rw [h0] at hcall
        clear H1 hr hr2 hq hf e1 h0 hle hln hl
        go_wp2_with fail
        refine hcall.mono ?_
        rintro e w' ⟨rfl,n',rfl⟩
        clear hcall
        go_wp2_with fail
        go_roundw
        case rel=>exact ⟨k,_,by omega,rfl,hh,rfl⟩
        case measure=>simp [intOf]
      · have e1:hiQ qs (k+1)=k+1:=by simp [hiQ,hl,h0]
        rw [e1] at hh
        have n5:(0:Int)<l.length:=by omega
        clear H1 hr hr2 hq hf e1 hle hln hl
        go_wp2_with fail
        refine hcall.mono ?_
        rintro e w' ⟨rfl,n',rfl⟩
        clear hcall
        go_wp2_with fail
        go_ret
        exact ⟨by rw [hh];rfl,_,rfl⟩
end
end
section
open Go.RowKit Spl
def qJF (n:Nat):List (List qQh):=List.replicate n []
theorem zKG:(Tryz.prog.info? 272).map (fun i=>(i.zero,i.size,i.bytes))=some (some (.agg #[.slice none 0 0,.int .i64 0]),2,32):=by kernel_rfl
theorem zKw (n:Nat):(madeCells #[.slice none 0 0,.int .i64 0] (n*2)).toList=(List.replicate n (QR.mk (.slice none 0 0) 0 [])).flatMap QR.c:=by
  induction n with
  | zero=>simp [madeCells]
  | succ n ih =>
    rw [List.replicate_succ',List.flatMap_append,← ih,Nat.add_mul,Nat.one_mul]
    simp only [madeCells,Array.toList_map,Array.toList_range]
    rw [List.range_succ,List.range_succ]
    simp [QR.c]
section
variable {w0 w:World} {R:List Pr} {b o T:Nat} {C:Array Value} {v:Value} {qs:List (List qQh)}
theorem Lev.made {g n cap:Nat} (H:Hd w0 (SlcC 272 2 g n cap (madeCells #[.slice none 0 0,.int .i64 0] (n*2)).toList::R) w):Hd w0 (Lev (.slice (some ⟨g,0,none⟩) n n) (qJF n)::R) w:=by
  obtain ⟨_,_,_,sp,_,H1⟩:=H.slcC
  rw [zKw] at H1
  refine Hd.into (g,List.replicate n (QR.mk (.slice none 0 0) 0 []),sp) (Hd.pack (L:=[_,_,_]) (Hd.put ⟨by simp [qJF],by simp [qJF]⟩ ?_))
  have H3:∀k,Hd w0 (all (List.zipWith lq (List.replicate k (QR.mk (.slice none 0 0) 0 [])) (qJF k))::cel g 272 (rowC (List.replicate n (QR.mk (.slice none 0 0) 0 [])) sp)::R) w:=by
    intro k
    induction k with
    | zero=>exact Hd.all_nil H1
    | succ k ih =>
      refine Hd.pack (L:=lq (QR.mk (.slice none 0 0) 0 []) []::List.zipWith lq (List.replicate k (QR.mk (.slice none 0 0) 0 [])) (qJF k)) ?_
      refine Hd.pack (L:=[_,_]) (Hd.put ⟨rfl,Nat.le_refl _⟩ ?_)
      exact (ih.flat).slc_nil _ _
  exact (H3 n).b2
theorem zXG (H:Hd w0 R w):Calls Tryz.prog 122 #[.int .i64 32] w fun e w'=>∃b v,e=.returned (.tuple #[.pointer (some ⟨b,0,none⟩),.int .i64 0])∧Hd w0 (cel b 223 #[v]::Lev v (qJF 32)::R) w':=by
  obtain ⟨i0,hi,hz0,hz1,hz2⟩:=info_parts zKG
  go_enter Tryz.func122,Tryz.ntmps122
  go_wp2_with (at_make;refine qQn rfl _ _ 221 rfl 272 i0 _ 2 Tryz.underlying221 hi hz0 hz1 rfl _ _ _ _ 32 32 rfl rfl rfl rfl (by omega) (by rw [hz2];omega) (by unfold maxLen;omega) H ?_;intro w1 H1)
  go_ret2
  exact ⟨_,_,rfl,Hd.fol (Lev.made H1)⟩
theorem qUJ {k:Nat} {x:qQh} {l:List qQh} (H:Hd w0 (cel b T C::Lev v qs::R) w) (hC:C[o]? = some v) (hn:∀l∈qs,l.length≤10000) (h32:qs.length≤32) (hh:hiQ qs qs.length=k+1) (hk:qs[k]? = some (x::l)) :
    Calls Tryz.prog 151 #[.pointer (some ⟨b,o,none⟩)] w fun e w' =>
      e=.returned (.tuple #[.int .i64 ((k:Int)+1),.agg #[.int .i64 x.job,.int .i64 x.task,.int .i64 x.level],.bool true])∧Hd w0 (cel b T C::Lev v qs::R) w':=by
  have HA:Hd w0 _ (w.alloc (.cells #[.int .i64 0,.int .i64 0,.int .i64 0] 42)):=H.fol
  have hhi:=zX7 (o:=o) ((HA.v v).k b) hC hn h32
  rw [hh] at hhi
  have hln:=hn _ (List.mem_of_getElem? hk)
  have hlt:=qQa hk
  have g3:IntKind.i64.wrap (k:Int)=k:=IntWalk.i64_in _ (by omega)
  have n0:¬((k:Int)<0):=by omega
  have n1:(k:Int)<qs.length:=by omega
  have n2:¬qs.length≤k:=by omega
  have n3:((k:Int)+1 == 0)=false:=by simp;omega
  obtain ⟨g,rs,sp,r,hf,hr,hq,H1⟩:=Lev.opened ((HA.v v).k b).b2 hk
  obtain rfl:=hf.v
  have hle:=hq.le
  have c0:=(H1.k b).ce o hC
  have hE:=Lib.hid (And.intro hf (And.intro hr (And.intro hq hn)))
  clear HA H h32 hf hr hq hn
  go_enter Tryz.func151,Tryz.ntmps151
  go_wp2_with fail
  refine hhi.mono ?_
  rintro e w1 ⟨rfl,n,rfl⟩
  clear hhi
  go_wp2_with fail
  refine (qXK (C:=rowC rs sp) (v:=r.v) (o:=k*2) (f:=r.f) (l:=l) (gar:=r.gar) (x:=x) ((((Hd.fol H1:Hd w0 _ _).v r.v).k g)) (qJN hE.out.2.1).1 (qJN hE.out.2.1).2 hE.out.2.2.1.gar (by simp at hle hln;omega) (by simp at hln;omega)).mono ?_
  rintro e w2 ⟨rfl,H2⟩
  have H3:Hd w0 _ (w2.alloc (.cells #[.int .i64 x.job,.int .i64 x.task,.int .i64 x.level] 42)):=H2.fol
  have x0:=(H3.k w2.heap.size).rd 0
  have x1:=(H3.k w2.heap.size).rd 1
  have x2:=(H3.k w2.heap.size).rd 2
  simp only [List.getElem?_toArray,List.getElem?_cons_zero,List.getElem?_cons_succ] at x0 x1 x2
  have y0:=(H3.k w.heap.size).rd 0
  have y1:=(H3.k w.heap.size).rd 1
  have y2:=(H3.k w.heap.size).rd 2
  simp only [List.getElem?_toArray,List.getElem?_cons_zero,List.getElem?_cons_succ] at y0 y1 y2
  have z0:=(H3.k w.heap.size).fr 0
  have z1:=(H3.k w.heap.size).fr 1
  have z2:=(H3.k w.heap.size).fr 2
  go_wp2_with fail
  refine wp_region_still_tail 3 (by kernel_rfl) (by kernel_rfl) ?_
  simp only [List.take_succ_cons,List.take_zero,List.drop_succ_cons,List.drop_zero,World.drew_eq]
  (repeat still_step)
  refine wpStill_nil ?_
  go_wp2_with fail
  (try simp only [Exit.inBlock,Exit.then])
  refine bodyPost_ret (qZh rfl _ _ w.heap.size 42 #[.int .i64 x.job,.int .i64 x.task,.int .i64 x.level] (0,0) _ rfl (by exact ((Hd.fol H3:Hd w0 _ _).k w.heap.size).heap) Tryz.underlying42 rfl (by kernel_rfl)) rfl ⟨rfl,?_⟩
  exact Hd.b2 (Lev.same (i:=k) (l:=x::l) (r:=r) (rs:=rs) (sp:=sp) (qs:=qs) (R:=cel b T C::R) (Hd.fin H3) hk hE.out.1 hE.out.2.1 hE.out.2.2.1)
theorem qYT (H:Hd w0 (cel b T C::Lev v qs::R) w) (hC:C[o]? = some v) (hn:∀l∈qs,l.length≤10000) (h32:qs.length≤32) (hh:hiQ qs qs.length=0) :
    Calls Tryz.prog 151 #[.pointer (some ⟨b,o,none⟩)] w fun e w' =>
      e=.returned (.tuple #[.int .i64 0,.agg #[.int .i64 0,.int .i64 0,.int .i64 0],.bool false])∧Hd w0 (cel b T C::Lev v qs::R) w':=by
  have HA:Hd w0 _ (w.alloc (.cells #[.int .i64 0,.int .i64 0,.int .i64 0] 42)):=H.fol
  have hhi:=zX7 (o:=o) ((HA.v v).k b) hC hn h32
  rw [hh] at hhi
  have H3:Hd w0 _ ((w.alloc (.cells #[.int .i64 0,.int .i64 0,.int .i64 0] 42)).alloc (.cells #[.int .i64 0,.int .i64 0,.int .i64 0] 42)):=HA.fol
  have x0:=(H3.k (w.heap.size+1)).rd 0
  have x1:=(H3.k (w.heap.size+1)).rd 1
  have x2:=(H3.k (w.heap.size+1)).rd 2
  simp only [List.getElem?_toArray,List.getElem?_cons_zero,List.getElem?_cons_succ] at x0 x1 x2
  have y0:=(H3.k w.heap.size).rd 0
  have y1:=(H3.k w.heap.size).rd 1
  have y2:=(H3.k w.heap.size).rd 2
  simp only [List.getElem?_toArray,List.getElem?_cons_zero,List.getElem?_cons_succ] at y0 y1 y2
  have z0:=(H3.k w.heap.size).fr 0
  have z1:=(H3.k w.heap.size).fr 1
  have z2:=(H3.k w.heap.size).fr 2
  replace HA:=Lib.hid HA
  clear H h32 hn hC
  go_enter Tryz.func151,Tryz.ntmps151
  go_wp2_with fail
  refine hhi.mono ?_
  rintro e w1 ⟨rfl,n,rfl⟩
  clear hhi
  go_wp2_with fail
  refine wp_region_still_tail 2 (by kernel_rfl) (by kernel_rfl) ?_
  simp only [List.take_succ_cons,List.take_zero,List.drop_succ_cons,List.drop_zero,World.drew_eq]
  (repeat still_step)
  refine wpStill_nil ?_
  go_wp2_with fail
  (try simp only [Exit.inBlock,Exit.then])
  refine bodyPost_ret (qZh rfl _ _ w.heap.size 42 #[.int .i64 0,.int .i64 0,.int .i64 0] (0,0) _ rfl (by exact ((Hd.fol HA.out:Hd w0 _ _).k w.heap.size).heap) Tryz.underlying42 rfl (by kernel_rfl)) rfl ⟨rfl,?_⟩
  exact (Hd.fin HA.out)
theorem zJ2 {k:Nat} {x:qQh} {l:List qQh} (H:Hd w0 (cel b T C::Lev v qs::R) w) (hC:C[o]? = some v) (hn:∀l∈qs,l.length≤10000) (h32:qs.length≤32) (hh:hiQ qs qs.length=k+1) (hk:qs[k]? = some (x::l)) :
    Calls Tryz.prog 129 #[.pointer (some ⟨b,o,none⟩)] w fun e w' =>
      e=.returned (.tuple #[.int .i64 ((k:Int)+1),.agg #[.int .i64 x.job,.int .i64 x.task,.int .i64 x.level],.bool true])∧Hd w0 (cel b T C::Lev v (qs.set k l)::R) w':=by
  have HA:Hd w0 _ (w.alloc (.cells #[.int .i64 0,.int .i64 0,.int .i64 0] 42)):=H.fol
  have hfr:=qUJ (o:=o) ((HA.v v).k b) hC hn h32 hh hk
  have hln:=hn _ (List.mem_of_getElem? hk)
  have hlt:=qQa hk
  have g3:IntKind.i64.wrap (k:Int)=k:=IntWalk.i64_in _ (by omega)
  have n0:¬((k:Int)<0):=by omega
  have n1:(k:Int)<qs.length:=by omega
  have n2:¬qs.length≤k:=by omega
  obtain ⟨g,hv⟩:=qWL H.b2
  have hE:=Lib.hid hn
  clear HA H h32 hn
  go_enter Tryz.func129,Tryz.ntmps129
  go_wp2_with fail
  refine hfr.mono ?_
  rintro e w1 ⟨rfl,H1⟩
  clear hfr
  have H2:Hd w0 _ (w1.alloc (.cells #[.int .i64 x.job,.int .i64 x.task,.int .i64 x.level] 42)):=H1.fol
  obtain ⟨g2,rs,sp,r,hf,hr,hq,H3⟩:=Lev.opened (H2.v v) hk
  obtain rfl:=hf.v
  obtain rfl:g2=g:=by injection hv with h1 _ _;injection h1 with h1;injection h1
  have hle:=hq.le
  have c0:=(H3.k b).ce o hC
  have hG:=Lib.hid (And.intro hf (And.intro hr hq))
  clear H1 H2 hf hr hq hv
  go_wp2_with fail
  refine (qqO (C:=rowC rs sp) (v:=r.v) (o:=k*2) (f:=r.f) (l:=l) (gar:=r.gar) (x:=x) ((((Hd.fol H3:Hd w0 _ _).v r.v).k g2)) (qJN hG.out.2.1).1 (qJN hG.out.2.1).2 hG.out.2.2.gar (by simp at hle hln;omega) (by simp at hln;omega)).mono ?_
  rintro e w2 ⟨rfl,v2,f2,gar2,hg2,hf2,H4⟩
  rw [qUL hG.out.2.1 v2 f2 gar2] at H4
  have x0:=(H4.k w1.heap.size).rd 0
  have x1:=(H4.k w1.heap.size).rd 1
  have x2:=(H4.k w1.heap.size).rd 2
  simp only [List.getElem?_toArray,List.getElem?_cons_zero,List.getElem?_cons_succ] at x0 x1 x2
  have y0:=(H4.k w.heap.size).rd 0
  have y1:=(H4.k w.heap.size).rd 1
  have y2:=(H4.k w.heap.size).rd 2
  simp only [List.getElem?_toArray,List.getElem?_cons_zero,List.getElem?_cons_succ] at y0 y1 y2
  have z0:=(H4.k w.heap.size).fr 0
  have z1:=(H4.k w.heap.size).fr 1
  have z2:=(H4.k w.heap.size).fr 2
  go_wp2_with fail
  refine wm0 [(0,true),(1,true),(2,true),(3,true),(4,false),(5,true)] (fun w'=>w'.cell? ⟨w1.heap.size,0,none⟩=some (.int .i64 x.job)∧w'.cell? ⟨w1.heap.size,1,none⟩=some (.int .i64 x.task)∧w'.cell? ⟨w1.heap.size,2,none⟩=some (.int .i64 x.level)) (⟨x0,x1,x2⟩) ?_
  iterate 4 (refine mh ?_;(try simp only [Act.put,List.setIfInBounds_toArray,List.set_cons_zero,List.set_cons_succ]))
  refine mm ?_
  go_wp2_with fail
  refine qQd ⟨by exact ((Hd.fol H4:Hd w0 _ _).k w1.heap.size).ce 0 rfl,by exact ((Hd.fol H4:Hd w0 _ _).k w1.heap.size).ce 1 rfl,by exact ((Hd.fol H4:Hd w0 _ _).k w1.heap.size).ce 2 rfl⟩ ?_
  iterate 1 (refine mh ?_;(try simp only [Act.put,List.setIfInBounds_toArray,List.set_cons_zero,List.set_cons_succ]))
  refine qQe ?_
  (try dsimp only)
  go_wp2_with fail
  (try simp only [Exit.inBlock,Exit.then])
  refine bodyPost_ret (qZh rfl _ _ w.heap.size 42 #[.int .i64 x.job,.int .i64 x.task,.int .i64 x.level] (0,0) _ rfl (by exact ((Hd.fol H4:Hd w0 _ _).k w.heap.size).heap) Tryz.underlying42 rfl (by kernel_rfl)) rfl ⟨rfl,?_⟩
  exact Hd.b2 (Lev.shut (i:=k) (l:=x::l) (l':=l) (r:=r) (r':=⟨v2,f2,gar2⟩) (rs:=rs) (sp:=sp) (qs:=qs) (R:=cel b T C::R) (Hd.fin H4) hk hG.out.1 hG.out.2.1 ⟨hg2,hf2⟩)
theorem zQn (H:Hd w0 (cel b T C::Lev v qs::R) w) (hC:C[o]? = some v) (hn:∀l∈qs,l.length≤10000) (h32:qs.length≤32) (hh:hiQ qs qs.length=0) :
    Calls Tryz.prog 129 #[.pointer (some ⟨b,o,none⟩)] w fun e w' =>
      e=.returned (.tuple #[.int .i64 0,.agg #[.int .i64 0,.int .i64 0,.int .i64 0],.bool false])∧Hd w0 (cel b T C::Lev v qs::R) w':=by
  have HA:Hd w0 _ (w.alloc (.cells #[.int .i64 0,.int .i64 0,.int .i64 0] 42)):=H.fol
  have hfr:=qYT (o:=o) ((HA.v v).k b) hC hn h32 hh
  clear HA H h32 hn
  go_enter Tryz.func129,Tryz.ntmps129
  go_wp2_with fail
  refine hfr.mono ?_
  rintro e w1 ⟨rfl,H1⟩
  clear hfr
  have H4:Hd w0 _ (w1.alloc (.cells #[.int .i64 0,.int .i64 0,.int .i64 0] 42)):=H1.fol
  have x0:=(H4.k w1.heap.size).rd 0
  have x1:=(H4.k w1.heap.size).rd 1
  have x2:=(H4.k w1.heap.size).rd 2
  simp only [List.getElem?_toArray,List.getElem?_cons_zero,List.getElem?_cons_succ] at x0 x1 x2
  have y0:=(H4.k w.heap.size).rd 0
  have y1:=(H4.k w.heap.size).rd 1
  have y2:=(H4.k w.heap.size).rd 2
  simp only [List.getElem?_toArray,List.getElem?_cons_zero,List.getElem?_cons_succ] at y0 y1 y2
  have z0:=(H4.k w.heap.size).fr 0
  have z1:=(H4.k w.heap.size).fr 1
  have z2:=(H4.k w.heap.size).fr 2
  go_wp2_with fail
  refine wm0 [(0,true),(1,true),(2,true),(3,true),(4,false),(5,true)] (fun w'=>w'.cell? ⟨w1.heap.size,0,none⟩=some (.int .i64 0)∧w'.cell? ⟨w1.heap.size,1,none⟩=some (.int .i64 0)∧w'.cell? ⟨w1.heap.size,2,none⟩=some (.int .i64 0)) (⟨x0,x1,x2⟩) ?_
  iterate 4 (refine mh ?_;(try simp only [Act.put,List.setIfInBounds_toArray,List.set_cons_zero,List.set_cons_succ]))
  refine mm ?_
  go_wp2_with fail
  refine qQd ⟨by exact ((Hd.fol H4:Hd w0 _ _).k w1.heap.size).ce 0 rfl,by exact ((Hd.fol H4:Hd w0 _ _).k w1.heap.size).ce 1 rfl,by exact ((Hd.fol H4:Hd w0 _ _).k w1.heap.size).ce 2 rfl⟩ ?_
  iterate 1 (refine mh ?_;(try simp only [Act.put,List.setIfInBounds_toArray,List.set_cons_zero,List.set_cons_succ]))
  refine qQe ?_
  (try dsimp only)
  go_wp2_with fail
  (try simp only [Exit.inBlock,Exit.then])
  refine bodyPost_ret (qZh rfl _ _ w.heap.size 42 #[.int .i64 0,.int .i64 0,.int .i64 0] (0,0) _ rfl (by exact ((Hd.fol H4:Hd w0 _ _).k w.heap.size).heap) Tryz.underlying42 rfl (by kernel_rfl)) rfl ⟨rfl,?_⟩
  exact (Hd.fin H4)
def lenQ (qs:List (List qQh)) (k:Nat):Nat:=((qs.take k).map List.length).sum
theorem qVe {k:Nat} {l:List qQh} (h:qs[k]? = some l):lenQ qs (k+1)=lenQ qs k+l.length:=by
  simp [lenQ,List.take_add_one,h]
theorem zZd {qs:List (List qQh)} (hn:∀l∈qs,l.length≤10000):∀k,k≤qs.length→lenQ qs k≤k*10000:=by
  intro k
  induction k with
  | zero=>intro _;simp [lenQ]
  | succ k ih =>
    intro hk
    have hl:qs[k]? = some (qs[k]'(by omega)):=List.getElem?_eq_getElem _
    have:=hn _ (List.mem_of_getElem? hl)
    have:=ih (by omega)
    rw [qVe hl]
    omega
theorem zXd (H:Hd w0 (cel b T C::Lev v qs::R) w) (hC:C[o]? = some v) (hn:∀l∈qs,l.length≤10000) (h32:qs.length≤32) :
    Calls Tryz.prog 107 #[.pointer (some ⟨b,o,none⟩)] w fun e w' =>
      e=.returned (.int .i64 (lenQ qs qs.length))∧∃n,w'=w.drewN n:=by
  obtain ⟨g,rfl⟩:=qWL H.b2
  have c0:=(H.rd o).trans hC
  have hO:=Lib.hid (And.intro H (And.intro hC hn))
  clear H hC hn
  go_enter Tryz.func107,Tryz.ntmps107
  go_wp2
  go_loopw [3,10] (fun s i wr=>∃k n:Nat,k≤qs.length∧i=.int .i64 k∧s=.int .i64 (lenQ qs k)∧wr=w.drewN n) (fun _ i _=>qs.length-(intOf i).toNat)
  case atStart=>exact ⟨0,0,Nat.zero_le _,rfl,rfl,rfl⟩
  case round =>
    obtain ⟨k,n,hk,rfl,rfl,rfl⟩:=hrel
    by_cases hlt:k<qs.length
    · obtain ⟨l,hl⟩:∃l,qs[k]? = some l:=⟨qs[k]'(by omega),List.getElem?_eq_getElem _⟩
      have hln:=hO.out.2.2 l (List.mem_of_getElem? hl)
      have hsum:=zZd hO.out.2.2 k hk
      obtain ⟨g2,rs,sp,r,hf,hr,hq,H1⟩:=Lev.opened hO.out.1.b2 hl
      have hle:=hq.le
      obtain rfl:g=g2:=by have:=hf.v;injection this with h1 _ _;injection h1 with h1;injection h1
      have hr2:=qJN (sp:=sp) hr
      have hcall:=qXO (C:=rowC rs sp) (v:=r.v) (o:=k*2) (f:=r.f) (l:=l) (gar:=r.gar) (((Hd.fol H1:Hd w0 _ (w.drewN n)).v r.v).k g) hr2.1 hr2.2 (by omega) (by omega)
      have g4:IntKind.i64.wrap ((lenQ qs k:Int)+(l.length:Int))=(lenQ qs k:Int)+l.length:=IntWalk.i64_in _ (by omega)
      have g5:IntKind.i64.wrap ((k:Int)+1)=(k:Int)+1:=IntWalk.i64_in _ (by omega)
      have n0:¬((k:Int)<0):=by omega
      have n1:(k:Int)<qs.length:=by omega
      have n2:¬qs.length≤k:=by omega
      have hs:=Lib.hid (qVe hl)
      clear H1 hr hr2 hq hf hle hln hl hsum
      go_wp2_with fail
      refine hcall.mono ?_
      rintro e w' ⟨rfl,n',rfl⟩
      clear hcall
      go_wp2_with fail
      go_roundw
      case rel=>exact ⟨k+1,_,by omega,rfl,by rw [hs.out];rfl,rfl⟩
      case measure=>simp [intOf];omega
    · obtain rfl:k=qs.length:=by omega
      go_wp2
      go_ret
      exact ⟨rfl,n,rfl⟩
end
end
section
open Go.RowKit Spl
structure WqM where
  qs:List (List qQh)
  act:List Int
structure WqM.Ok (m:WqM):Prop where
  q:m.qs.length=32
  a:m.act.length=64
  l:∀l∈m.qs,l.length≤1000
  c:∀x∈m.act,0≤x∧x≤8
def WqM.empty:WqM:=⟨qJF 32,List.replicate 64 0⟩
def WqM.putE (m:WqM) (t l j:Int):Int:=if t<0∨t ≥ 64∨l<1∨l > 32∨j<0 then 1 else if m.act[t.toNat]?.getD 0 ≥ 8 then 4 else 0
def WqM.put (m:WqM) (t l j:Int):WqM:=if m.putE t l j=0 then ⟨m.qs.set (l-1).toNat (m.qs[(l-1).toNat]?.getD []++[⟨j,t,l⟩]),m.act.set t.toNat (m.act[t.toNat]?.getD 0+1)⟩ else m
def WqM.next (m:WqM):Option qQh:=match hiQ m.qs m.qs.length with | 0=>none | k+1=>(m.qs[k]?.getD []).head?
def WqM.take (m:WqM):WqM:=match hiQ m.qs m.qs.length with | 0=>m | k+1=>match m.qs[k]?.getD [] with
  | []=>m
  | x::l=>⟨m.qs.set k l,m.act.set x.task.toNat (m.act[x.task.toNat]?.getD 0-1)⟩
def WqP (b:Nat) (m:WqM):Pr:=ex fun v:Value=>all [cel b 226 (v::m.act.map (Value.int .i64)).toArray,Lev v m.qs]
instance (b:Nat) (m:WqM):Key (WqP b m) (.b b):=⟨trivial⟩
section
variable {w0 w:World} {R:List Pr} {b:Nat} {m:WqM}
theorem WqP.opened (H:Hd w0 (WqP b m::R) w):∃v,Hd w0 (cel b 226 (v::m.act.map (Value.int .i64)).toArray::Lev v m.qs::R) w:=by
  obtain ⟨v,H⟩:=H.out
  exact ⟨v,H.flat⟩
theorem WqP.shut {v:Value} (H:Hd w0 (cel b 226 (v::m.act.map (Value.int .i64)).toArray::Lev v m.qs::R) w):Hd w0 (WqP b m::R) w :=
  Hd.into v (Hd.pack (L:=[_,_]) H)
theorem zX1:Tryz.zeroCells226=(.slice none 0 0::(List.replicate 64 (0:Int)).map (Value.int .i64)).toArray:=by kernel_rfl
theorem zKI (H:Hd w0 R w):Calls Tryz.prog 94 #[] w fun e w'=>∃b,e=.returned (.pointer (some ⟨b,0,none⟩))∧Hd w0 (WqP b WqM.empty::R) w':=by
  go_enter Tryz.func94,Tryz.ntmps94
  go_wp2_with fail
  refine (zXG H).mono ?_
  rintro e w1 ⟨b,v,rfl,H1⟩
  have c0:=(H1.k b).ce 0 rfl
  go_wp2_with fail
  go_ret
  refine ⟨_,rfl,WqP.shut (v:=v) ?_⟩
  rw [zX1,List.setIfInBounds_toArray,List.set_cons_zero]
  show Hd w0 (cel w1.heap.size 226 (v::(List.replicate 64 (0:Int)).map (Value.int .i64)).toArray::Lev v (qJF 32)::R) _
  exact (Hd.fin H1)
theorem zXo (H:Hd w0 (WqP b m::R) w) (hm:m.Ok) (t l j:Int):Calls Tryz.prog 75 #[.pointer (some ⟨b,0,none⟩),.int .i64 t,.int .i64 l,.int .i64 j] w fun e w'=>e=.returned (.int .i64 (m.putE t l j))∧Hd w0 (WqP b (m.put t l j)::R) w':=by
  obtain ⟨v,H1⟩:=WqP.opened H
  by_cases h1:t<0∨t ≥ 64∨l<1∨l > 32∨j<0
  · have e1:m.putE t l j=1:=by unfold WqM.putE;rw [if_pos h1]
    have e2:m.put t l j=m:=by unfold WqM.put;rw [e1];rfl
    rw [e1,e2]
    clear H1 e1 e2
    go_enter Tryz.func75,Tryz.ntmps75
    by_cases a1:t<0
    · go_wp2
      go_ret
      exact ⟨rfl,H⟩
    · by_cases a2:t ≥ 64
      · go_wp2
        go_ret
        exact ⟨rfl,H⟩
      · by_cases a3:l<1
        · go_wp2
          go_ret
          exact ⟨rfl,H⟩
        · by_cases a4:l > 32
          · go_wp2
            go_ret
            exact ⟨rfl,H⟩
          · have a5:j<0:=by omega
            go_wp2
            go_ret
            exact ⟨rfl,H⟩
  · obtain ⟨tn,rfl⟩:∃tn:Nat,t=tn:=⟨t.toNat,by omega⟩
    obtain ⟨ln,rfl⟩:∃ln:Nat,l=(ln:Int)+1:=⟨(l-1).toNat,by omega⟩
    have a1:¬((tn:Int)<0):=by omega
    have a2:¬((tn:Int) ≥ 64):=by omega
    have a3:¬((ln:Int)+1<1):=by omega
    have a4:¬((ln:Int)+1 > 32):=by omega
    have a5:¬(j<0):=by omega
    have e0:m.putE tn ((ln:Int)+1) j=if m.act[tn]?.getD 0 ≥ 8 then 4 else 0:=by unfold WqM.putE;rw [if_neg h1,Int.toNat_natCast]
    obtain ⟨a,ha⟩:∃a,m.act[tn]? = some a:=⟨m.act[tn]'(by have:=hm.a;omega),List.getElem?_eq_getElem _⟩
    have hC:((v::m.act.map (Value.int .i64)).toArray)[1+tn]? = some (.int .i64 a):=by simp [Nat.add_comm 1 tn,ha]
    have c0:=H1.ce (1+tn) hC
    have c1:=H1.fr (1+tn)
    clear h1
    by_cases h2:a ≥ 8
    · have e1:m.putE tn ((ln:Int)+1) j=4:=by rw [e0,ha];simp;omega
      have e2:m.put tn ((ln:Int)+1) j=m:=by unfold WqM.put;rw [e1];rfl
      rw [e1,e2]
      clear H1 e0 e1 e2 c1 hm
      go_enter Tryz.func75,Tryz.ntmps75
      go_wp2
      go_ret
      exact ⟨rfl,H⟩
    · have e1:m.putE tn ((ln:Int)+1) j=0:=by rw [e0,ha];simp;omega
      obtain ⟨l0,hl⟩:∃l0,m.qs[ln]? = some l0:=⟨m.qs[ln]'(by have:=hm.q;omega),List.getElem?_eq_getElem _⟩
      have hb:=hm.c a (List.mem_of_getElem? ha)
      have g1:IntKind.i64.wrap (a+1)=a+1:=IntWalk.i64_in _ (by omega)
      have e2:m.put tn ((ln:Int)+1) j=⟨m.qs.set ln (l0++[⟨j,tn,(ln:Int)+1⟩]),m.act.set tn (a+1)⟩:=by
        unfold WqM.put
        have e3:((ln:Int)+1-1).toNat=ln:=by omega
        rw [e1,if_pos rfl,e3,Int.toNat_natCast,ha,hl]
        rfl
      rw [e1,e2]
      have H2:Hd w0 _ (w.setCell ⟨b,1+tn,none⟩ (.int .i64 (a+1))):=H1.fol
      have e4:((v::m.act.map (Value.int .i64)).toArray).setIfInBounds (1+tn) (.int .i64 (a+1))=(v::(m.act.set tn (a+1)).map (Value.int .i64)).toArray:=by
        rw [List.setIfInBounds_toArray,Nat.add_comm 1 tn,List.set_cons_succ,List.map_set]
      rw [e4] at H2
      have hput:=zXb (i:=ln) (l:=l0) (C:=(v::(m.act.set tn (a+1)).map (Value.int .i64)).toArray) (o:=0) (v:=v) (qs:=m.qs) H2.drew rfl hl (by have:=hm.l _ (List.mem_of_getElem? hl);omega) (by have:=hm.q;omega) ⟨j,tn,(ln:Int)+1⟩
      clear H H1 H2 hC e0 e1 e2 e4 hm hb ha hl
      go_enter Tryz.func75,Tryz.ntmps75
      go_wp2_with fail
      refine wp_region_still_tail 10 (by kernel_rfl) (by kernel_rfl) ?_
      simp only [List.take_succ_cons,List.take_zero,List.drop_succ_cons,List.drop_zero,World.drew_eq]
      (repeat still_step)
      refine wpStill_nil ?_
      go_wp2_with fail
      refine hput.mono ?_
      rintro e w' ⟨rfl,H3⟩
      go_wp2_with fail
      go_ret
      exact ⟨rfl,WqP.shut H3⟩
theorem qU6 {x:qQh} (H:Hd w0 (WqP b m::R) w) (hm:m.Ok) (hx:m.next=some x):Calls Tryz.prog 127 #[.pointer (some ⟨b,0,none⟩)] w fun e w'=>e=.returned (.tuple #[.agg #[.int .i64 x.job,.int .i64 x.task,.int .i64 x.level],.bool true])∧Hd w0 (WqP b m::R) w':=by
  obtain ⟨v,H1⟩:=WqP.opened H
  obtain ⟨k,l,hh,hk⟩:∃k l,hiQ m.qs m.qs.length=k+1∧m.qs[k]? = some (x::l):=by
    unfold WqM.next at hx
    split at hx
    · cases hx
    · rename_i k hh
      obtain ⟨y,l,hk⟩:=qXo hh
      rw [hk] at hx
      simp at hx
      exact ⟨k,l,hh,by rw [hk,hx]⟩
  have HA:Hd w0 _ (w.alloc (.cells #[.int .i64 0,.int .i64 0,.int .i64 0] 42)):=H1.fol
  have hcall:=qUJ (o:=0) ((HA.v v).k b) rfl (fun l hl=>by have:=hm.l l hl;omega) (by have:=hm.q;omega) hh hk
  clear H H1 HA hm hx hh hk
  go_enter Tryz.func127,Tryz.ntmps127
  go_wp2_with fail
  refine hcall.mono ?_
  rintro e w1 ⟨rfl,H1⟩
  clear hcall
  have H4:Hd w0 _ (w1.alloc (.cells #[.int .i64 x.job,.int .i64 x.task,.int .i64 x.level] 42)):=H1.fol
  have x0:=(H4.k w1.heap.size).rd 0
  have x1:=(H4.k w1.heap.size).rd 1
  have x2:=(H4.k w1.heap.size).rd 2
  simp only [List.getElem?_toArray,List.getElem?_cons_zero,List.getElem?_cons_succ] at x0 x1 x2
  have y0:=(H4.k w.heap.size).rd 0
  have y1:=(H4.k w.heap.size).rd 1
  have y2:=(H4.k w.heap.size).rd 2
  simp only [List.getElem?_toArray,List.getElem?_cons_zero,List.getElem?_cons_succ] at y0 y1 y2
  have z0:=(H4.k w.heap.size).fr 0
  have z1:=(H4.k w.heap.size).fr 1
  have z2:=(H4.k w.heap.size).fr 2
  go_wp2_with fail
  (try simp only [Exit.inBlock,Exit.then])
  refine bodyPost_ret (qQg rfl _ _ w.heap.size 42 #[.int .i64 x.job,.int .i64 x.task,.int .i64 x.level] (0,0) _ rfl (by exact ((Hd.fol H4:Hd w0 _ _).k w.heap.size).heap) Tryz.underlying42 rfl (by kernel_rfl)) rfl ⟨rfl,?_⟩
  exact WqP.shut (v:=v) (Hd.fin H4)
theorem zZY (H:Hd w0 (WqP b m::R) w) (hm:m.Ok) (hx:m.next=none):Calls Tryz.prog 127 #[.pointer (some ⟨b,0,none⟩)] w fun e w'=>e=.returned (.tuple #[.agg #[.int .i64 0,.int .i64 0,.int .i64 0],.bool false])∧Hd w0 (WqP b m::R) w':=by
  obtain ⟨v,H1⟩:=WqP.opened H
  have hh:hiQ m.qs m.qs.length=0:=by
    unfold WqM.next at hx
    split at hx
    · rename_i h;exact h
    · rename_i k hh
      obtain ⟨y,l,hk⟩:=qXo hh
      rw [hk] at hx
      simp at hx
  have HA:Hd w0 _ (w.alloc (.cells #[.int .i64 0,.int .i64 0,.int .i64 0] 42)):=H1.fol
  have hcall:=qYT (o:=0) ((HA.v v).k b) rfl (fun l hl=>by have:=hm.l l hl;omega) (by have:=hm.q;omega) hh
  clear H H1 HA hm hx hh
  go_enter Tryz.func127,Tryz.ntmps127
  go_wp2_with fail
  refine hcall.mono ?_
  rintro e w1 ⟨rfl,H1⟩
  clear hcall
  have H4:Hd w0 _ (w1.alloc (.cells #[.int .i64 0,.int .i64 0,.int .i64 0] 42)):=H1.fol
  have x0:=(H4.k w1.heap.size).rd 0
  have x1:=(H4.k w1.heap.size).rd 1
  have x2:=(H4.k w1.heap.size).rd 2
  simp only [List.getElem?_toArray,List.getElem?_cons_zero,List.getElem?_cons_succ] at x0 x1 x2
  have y0:=(H4.k w.heap.size).rd 0
  have y1:=(H4.k w.heap.size).rd 1
  have y2:=(H4.k w.heap.size).rd 2
  simp only [List.getElem?_toArray,List.getElem?_cons_zero,List.getElem?_cons_succ] at y0 y1 y2
  have z0:=(H4.k w.heap.size).fr 0
  have z1:=(H4.k w.heap.size).fr 1
  have z2:=(H4.k w.heap.size).fr 2
  go_wp2_with fail
  (try simp only [Exit.inBlock,Exit.then])
  refine bodyPost_ret (qQg rfl _ _ w.heap.size 42 #[.int .i64 0,.int .i64 0,.int .i64 0] (0,0) _ rfl (by exact ((Hd.fol H4:Hd w0 _ _).k w.heap.size).heap) Tryz.underlying42 rfl (by kernel_rfl)) rfl ⟨rfl,?_⟩
  exact WqP.shut (v:=v) (Hd.fin H4)
theorem zJ8 {x:qQh} (H:Hd w0 (WqP b m::R) w) (hm:m.Ok) (hx:m.next=some x) (ht:0≤x.task∧x.task<64):Calls Tryz.prog 98 #[.pointer (some ⟨b,0,none⟩)] w fun e w'=>e=.returned (.tuple #[.agg #[.int .i64 x.job,.int .i64 x.task,.int .i64 x.level],.bool true])∧Hd w0 (WqP b m.take::R) w':=by
  obtain ⟨v,H1⟩:=WqP.opened H
  obtain ⟨k,l,hh,hk⟩:∃k l,hiQ m.qs m.qs.length=k+1∧m.qs[k]? = some (x::l):=by
    unfold WqM.next at hx
    split at hx
    · cases hx
    · rename_i k hh
      obtain ⟨y,l,hk⟩:=qXo hh
      rw [hk] at hx
      simp at hx
      exact ⟨k,l,hh,by rw [hk,hx]⟩
  obtain ⟨tn,htn⟩:∃tn:Nat,x.task=tn:=⟨x.task.toNat,by omega⟩
  obtain ⟨a,ha⟩:∃a,m.act[tn]? = some a:=⟨m.act[tn]'(by have:=hm.a;omega),List.getElem?_eq_getElem _⟩
  have hb:=hm.c a (List.mem_of_getElem? ha)
  have e2:m.take=⟨m.qs.set k l,m.act.set tn (a-1)⟩:=by
    unfold WqM.take
    simp only [hh,hk,Option.getD_some,htn,Int.toNat_natCast,ha]
  rw [e2]
  have HA:Hd w0 _ (w.alloc (.cells #[.int .i64 0,.int .i64 0,.int .i64 0] 42)):=H1.fol
  have hcall:=zJ2 (o:=0) ((HA.v v).k b) rfl (fun l hl=>by have:=hm.l l hl;omega) (by have:=hm.q;omega) hh hk
  have hC:((v::m.act.map (Value.int .i64)).toArray)[1+tn]? = some (.int .i64 a):=by simp [Nat.add_comm 1 tn,ha]
  have g1:IntKind.i64.wrap (a-1)=a-1:=IntWalk.i64_in _ (by omega)
  have g2:(tn:Int)<64:=by omega
  have e4:((v::m.act.map (Value.int .i64)).toArray).setIfInBounds (1+tn) (.int .i64 (a-1))=(v::(m.act.set tn (a-1)).map (Value.int .i64)).toArray:=by
    rw [List.setIfInBounds_toArray,Nat.add_comm 1 tn,List.set_cons_succ,List.map_set]
  rw [htn] at hcall ⊢
  replace e4:=Lib.hid e4
  clear H H1 HA hm hx hh hk hb ht e2 ha
  go_enter Tryz.func98,Tryz.ntmps98
  go_wp2_with fail
  refine hcall.mono ?_
  rintro e w1 ⟨rfl,H1⟩
  clear hcall
  have H4:Hd w0 _ (w1.alloc (.cells #[.int .i64 x.job,.int .i64 tn,.int .i64 x.level] 42)):=H1.fol
  have c0:=(H4.k b).ce (1+tn) hC
  have c1:=(H4.k b).fr (1+tn)
  have y0:=(H4.k w1.heap.size).rd 0
  have y1:=(H4.k w1.heap.size).rd 1
  have y2:=(H4.k w1.heap.size).rd 2
  simp only [List.getElem?_toArray,List.getElem?_cons_zero,List.getElem?_cons_succ] at y0 y1 y2
  have H5:Hd w0 _ ((w1.alloc (.cells #[.int .i64 x.job,.int .i64 tn,.int .i64 x.level] 42)).setCell ⟨b,1+tn,none⟩ (.int .i64 (a-1))):=H4.fol
  rw [e4.out] at H5
  clear H4
  have p0:=(H5.k w1.heap.size).rd 0
  have p1:=(H5.k w1.heap.size).rd 1
  have p2:=(H5.k w1.heap.size).rd 2
  simp only [List.getElem?_toArray,List.getElem?_cons_zero,List.getElem?_cons_succ] at p0 p1 p2
  have q0:=(H5.k w.heap.size).rd 0
  have q1:=(H5.k w.heap.size).rd 1
  have q2:=(H5.k w.heap.size).rd 2
  simp only [List.getElem?_toArray,List.getElem?_cons_zero,List.getElem?_cons_succ] at q0 q1 q2
  have r0:=(H5.k w.heap.size).fr 0
  have r1:=(H5.k w.heap.size).fr 1
  have r2:=(H5.k w.heap.size).fr 2
  go_wp2_with fail
  refine wp_region_still_tail 11 (by kernel_rfl) (by kernel_rfl) ?_
  simp only [List.take_succ_cons,List.take_zero,List.drop_succ_cons,List.drop_zero,World.drew_eq]
  (repeat still_step)
  refine wpStill_nil ?_
  go_wp2_with fail
  (try simp only [Exit.inBlock,Exit.then])
  refine bodyPost_ret (qQg rfl _ _ w.heap.size 42 #[.int .i64 x.job,.int .i64 tn,.int .i64 x.level] (0,0) _ rfl (by exact ((Hd.fol H5:Hd w0 _ _).k w.heap.size).heap) Tryz.underlying42 rfl (by kernel_rfl)) rfl ⟨rfl,?_⟩
  refine WqP.shut (v:=v) ?_
  show Hd w0 (cel b 226 (v::(m.act.set tn (a-1)).map (Value.int .i64)).toArray::Lev v (m.qs.set k l)::R) _
  exact (Hd.fin H5)
theorem zKd (H:Hd w0 (WqP b m::R) w) (hm:m.Ok) (hx:m.next=none):Calls Tryz.prog 98 #[.pointer (some ⟨b,0,none⟩)] w fun e w'=>e=.returned (.tuple #[.agg #[.int .i64 0,.int .i64 0,.int .i64 0],.bool false])∧Hd w0 (WqP b m::R) w':=by
  obtain ⟨v,H1⟩:=WqP.opened H
  have hh:hiQ m.qs m.qs.length=0:=by
    unfold WqM.next at hx
    split at hx
    · rename_i h;exact h
    · rename_i k hh
      obtain ⟨y,l,hk⟩:=qXo hh
      rw [hk] at hx
      simp at hx
  have HA:Hd w0 _ (w.alloc (.cells #[.int .i64 0,.int .i64 0,.int .i64 0] 42)):=H1.fol
  have hcall:=zQn (o:=0) ((HA.v v).k b) rfl (fun l hl=>by have:=hm.l l hl;omega) (by have:=hm.q;omega) hh
  clear H H1 HA hm hx hh
  go_enter Tryz.func98,Tryz.ntmps98
  go_wp2_with fail
  refine hcall.mono ?_
  rintro e w1 ⟨rfl,H1⟩
  clear hcall
  have H4:Hd w0 _ (w1.alloc (.cells #[.int .i64 0,.int .i64 0,.int .i64 0] 42)):=H1.fol
  have x0:=(H4.k w1.heap.size).rd 0
  have x1:=(H4.k w1.heap.size).rd 1
  have x2:=(H4.k w1.heap.size).rd 2
  simp only [List.getElem?_toArray,List.getElem?_cons_zero,List.getElem?_cons_succ] at x0 x1 x2
  have y0:=(H4.k w.heap.size).rd 0
  have y1:=(H4.k w.heap.size).rd 1
  have y2:=(H4.k w.heap.size).rd 2
  simp only [List.getElem?_toArray,List.getElem?_cons_zero,List.getElem?_cons_succ] at y0 y1 y2
  have z0:=(H4.k w.heap.size).fr 0
  have z1:=(H4.k w.heap.size).fr 1
  have z2:=(H4.k w.heap.size).fr 2
  go_wp2_with fail
  (try simp only [Exit.inBlock,Exit.then])
  refine bodyPost_ret (qQg rfl _ _ w.heap.size 42 #[.int .i64 0,.int .i64 0,.int .i64 0] (0,0) _ rfl (by exact ((Hd.fol H4:Hd w0 _ _).k w.heap.size).heap) Tryz.underlying42 rfl (by kernel_rfl)) rfl ⟨rfl,?_⟩
  exact WqP.shut (v:=v) (Hd.fin H4)
end
end
end Go.Proofs.YtkchopnkdjnocaaGreatDoor
