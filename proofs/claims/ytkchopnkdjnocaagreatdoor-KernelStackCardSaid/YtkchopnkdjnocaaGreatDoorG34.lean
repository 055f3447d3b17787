/-
  Merged texts of one proof: OpK, Open13, OpenT.
-/
import Derived.Deep.Slices
import Derived.Lib.SmallJoins
import Derived.Test.YtkchopnkdjnocaaGreatDoorG16
import Derived.Test.YtkchopnkdjnocaaGreatDoorG18
import Derived.Test.YtkchopnkdjnocaaGreatDoorG31

set_option maxHeartbeats 16000000
set_option maxRecDepth 20000
namespace Go.Proofs.YtkchopnkdjnocaaGreatDoor
section
open Go.RowKit Spl
theorem qKi {α:Type} [Enc α]:∀ {l:List α} {j:Nat} {u:Value},(flat l)[j]? = some u→∃(k:Nat) (x:α) (j':Nat),l[k]? = some x∧(Enc.cells x)[j']? = some u∧j=k*Enc.size α+j'
  | [],j,u,h=>by simp [flat] at h
  | y::l,j,u,h=>by
    rw [qQI] at h
    have hl:=Enc.len y
    by_cases hj:j<(Enc.cells y).length
    · rw [List.getElem?_append_left hj] at h
      exact ⟨0,y,j,rfl,h,by simp⟩
    · rw [List.getElem?_append_right (by omega)] at h
      obtain ⟨k,x,j',a,b,c⟩:=qKi h
      refine ⟨k+1,x,j',by simpa using a,b,?_⟩
      rw [Nat.add_mul]
      omega
def NdR {α:Type} [Enc α] (W:World) (v:Value) (l:List α):Prop :=
  (v=.slice none 0 0∧l = [])∨(∃ad c,v=.slice (some ad) 0 c∧l = []) ∨
    ∃g o c,v=.slice (some ⟨g,o,none⟩) l.length c∧∀(j:Nat) (u:Value),(flat l)[j]? = some u→W.cell? ⟨g,o+j,none⟩=some u
structure qXh where
  x:qQY
  na:Option Addr
  nc:Nat
def qXh.nv (t:qXh):Value:=.slice t.na t.x.needs.length t.nc
def qXh.cells (t:qXh):List Value:=[.string t.x.nm,.int .i64 t.x.lv,.int .i64 t.x.fr,t.nv,.string t.x.cd,.int .i64 t.x.p,.int .i64 t.x.f,.int .i64 t.x.g]
structure OpK where
  kd:Int
  n:Int
  t:qXh
def OpK.cells (x:OpK):List Value:=.int .i64 x.kd::.int .i64 x.n::x.t.cells
structure RdK (W:World) (v:Value) (ops:List OpK):Prop where
  at_:∃A cap,v=.slice A ops.length cap∧ops.length≤140737488351232∧ops.length≤cap ∧
    (0<ops.length→∃b o,A=some ⟨b,o,none⟩∧∀k x,ops[k]? = some x→∀j u,x.cells[j]? = some u→W.cell? ⟨b,o+(k*10+j),none⟩=some u)
  nd:∀x∈ops,NdR W x.t.nv x.t.x.needs
theorem NdR.srg {α:Type} [Enc α] {W w0:World} {R:List Pr} {v:Value} {l:List α} (h:NdR W v l) (hk:∀ {w1:World},Hd w0 R w1→∀(p:Addr) (u:Value),W.cell? p=some u→w1.cell? p=some u):Srg w0 R v l:=by
  rcases h with h | h | ⟨g,o,c,hv,hs⟩
  · exact .inl h
  · exact .inr (.inl h)
  · exact .inr (.inr ⟨g,o,c,hv,fun H j u hj=>hk H _ _ (hs j u hj)⟩)
end
section
open Go.ChangeShapes Go.WideShapes Go.ChangeAt Go.RowKit Spl Go.Deep
theorem zZs:Tryz.prog.cellsOf 9=1:=by kernel_rfl
theorem qqD:Tryz.prog.cellsOf 34=1:=by kernel_rfl
theorem qVM:Tryz.prog.cellsOf 63=2:=by kernel_rfl
theorem qUH:Tryz.prog.cellsOf 69=10:=by kernel_rfl
theorem qWx:Tryz.prog.bytesOf 69=112:=by kernel_rfl
theorem qW9:Tryz.prog.cellsOf 36=8:=by kernel_rfl
section
variable {H:Type} {enc:TypeId × Value→H} {w:World} {base:Nat} {spare:Nat→Bool} {held:Bool}
theorem qqR {fuel:Nat} {cs:List Value} {x:DataW H × List MemPlace} (h:DataW.trod enc Tryz.prog w base spare held fuel 63 cs=some x):∃n:qZy,cs=Enc.cells n:=by
  obtain ⟨xs,n,_,_,hlen,_,hf⟩:=DataW.trod_struct Tryz.underlying63 h
  rw [qVM] at hlen
  match cs,hlen with
  | [c0,c1],_ =>
    have g:∀(i:Nat) (f:Field),_→∃y,DataW.trod enc Tryz.prog w base spare held n f.type (([c0,c1].drop f.offset).take (Tryz.prog.cellsOf f.type))=some y:=fun i f hi=>by
      have h1:=hf i f hi
      have h2:i<xs.length:=by
        have:=(Array.getElem?_eq_some_iff.1 hi).1
        omega
      rw [List.getElem?_eq_getElem h2] at h1
      exact ⟨_,h1⟩
    obtain ⟨y0,h0⟩:∃y,DataW.trod enc Tryz.prog w base spare held n 3 (([c0,c1].drop 0).take (Tryz.prog.cellsOf 3))=some y:=g 0 _ rfl
    obtain ⟨y1,h1⟩:∃y,DataW.trod enc Tryz.prog w base spare held n 3 (([c0,c1].drop 1).take (Tryz.prog.cellsOf 3))=some y:=g 1 _ rfl
    rw [qXY] at h0 h1
    obtain ⟨n0,e0,_⟩:=DataW.trod_int Tryz.underlying3 h0
    obtain ⟨n1,e1,_⟩:=DataW.trod_int Tryz.underlying3 h1
    simp at e0 e1
    exact ⟨⟨n0,n1⟩,by rw [e0,e1];rfl⟩
theorem qqK {fuel:Nat} {v:Value} {x:DataW H × List MemPlace} (h:DataW.trod enc Tryz.prog w base spare held fuel 34 [v]=some x):∃(l:List qZy) (a:Option Addr) (c:Nat),v=.slice a l.length c∧NdR w v l:=by
  rcases open_slice Tryz.underlying34 h with ⟨hcs,hx⟩ | ⟨a,len,cap,m,n,D,Pl,hcs,_,hl,hm,hmm,hx,hi⟩
  · have:v=.slice none 0 0:=by simpa using hcs
    subst this
    exact ⟨[],none,0,rfl,.inl ⟨rfl,rfl⟩⟩
  · have:v=.slice (some a) len cap:=by simpa using hcs
    subst this
    have hlm:len≤m:=by rw [hmm];split <;> omega
    by_cases hz:len=0
    · subst hz
      exact ⟨[],some a,cap,rfl,.inr (.inl ⟨a,cap,rfl,rfl⟩)⟩
    · have hel:∀i,i<m→∃t:qZy,∀j u,(Enc.cells t)[j]? = some u→w.cell? (a.add (i*2+j))=some u:=by
        intro i him
        obtain ⟨cs',hc,ht⟩:=hi i him
        rw [qVM] at hc
        obtain ⟨t,rfl⟩:=qqR ht
        obtain ⟨_,hcl,hat⟩:=World.cells?_some hc
        refine ⟨t,fun j u hj=>?_⟩
        have hjl:j<2:=by have:=qQa hj;simpa [Enc.cells] using this
        have h1:=hat j hjl
        rw [add_add] at h1
        rw [h1]
        exact hj
      obtain ⟨f,hf⟩:∃f:Nat→qZy,∀i,i<m→∀j u,(Enc.cells (f i))[j]? = some u→w.cell? (a.add (i*2+j))=some u:=by
        refine ⟨fun i=>if h:i<m then (hel i h).choose else ⟨0,0⟩,fun i him=>?_⟩
        simp only [him,dif_pos]
        exact (hel i him).choose_spec
      obtain ⟨b,off,spot⟩:=a
      have h0:=hf 0 (by omega) 0 _ rfl
      have hspot:spot=none:=by simpa [Addr.add] using World.cell?_spot h0
      subst hspot
      have el:((List.range len).map f).length=len:=by simp
      refine ⟨(List.range len).map f,some ⟨b,off,none⟩,cap,by rw [el],.inr (.inr ⟨b,off,cap,by rw [el],fun j u hj=>?_⟩)⟩
      obtain ⟨k,x,j',hk,hj',e⟩:=qKi hj
      have hkl:=qQa hk
      rw [el] at hkl
      simp [hkl] at hk
      subst hk
      have hc:=hf k (by omega) j' u hj'
      have e2:(⟨b,off,none⟩:Addr).add (k*2+j')=⟨b,off+(k*2+j'),none⟩:=Addr.add_lit _ _ _
      rw [e2] at hc
      rw [e]
      exact hc
theorem qYY {fuel:Nat} {cs:List Value} {x:DataW H × List MemPlace} (h:DataW.trod enc Tryz.prog w base spare held fuel 36 cs=some x):∃t:qXh,cs=t.cells∧NdR w t.nv t.x.needs:=by
  obtain ⟨xs,n,_,_,hlen,_,hf⟩:=DataW.trod_struct Tryz.underlying36 h
  rw [qW9] at hlen
  match cs,hlen with
  | [c0,c1,c2,c3,c4,c5,c6,c7],_ =>
    have g:∀(i:Nat) (f:Field),_→∃y,DataW.trod enc Tryz.prog w base spare held n f.type (([c0,c1,c2,c3,c4,c5,c6,c7].drop f.offset).take (Tryz.prog.cellsOf f.type))=some y:=fun i f hi=>by
      have h1:=hf i f hi
      have h2:i<xs.length:=by
        have:=(Array.getElem?_eq_some_iff.1 hi).1
        omega
      rw [List.getElem?_eq_getElem h2] at h1
      exact ⟨_,h1⟩
    obtain ⟨y0,h0⟩:∃y,DataW.trod enc Tryz.prog w base spare held n 9 (([c0,c1,c2,c3,c4,c5,c6,c7].drop 0).take (Tryz.prog.cellsOf 9))=some y:=g 0 _ rfl
    obtain ⟨y1,h1⟩:∃y,DataW.trod enc Tryz.prog w base spare held n 3 (([c0,c1,c2,c3,c4,c5,c6,c7].drop 1).take (Tryz.prog.cellsOf 3))=some y:=g 1 _ rfl
    obtain ⟨y2,h2⟩:∃y,DataW.trod enc Tryz.prog w base spare held n 3 (([c0,c1,c2,c3,c4,c5,c6,c7].drop 2).take (Tryz.prog.cellsOf 3))=some y:=g 2 _ rfl
    obtain ⟨y3,h3⟩:∃y,DataW.trod enc Tryz.prog w base spare held n 34 (([c0,c1,c2,c3,c4,c5,c6,c7].drop 3).take (Tryz.prog.cellsOf 34))=some y:=g 3 _ rfl
    obtain ⟨y4,h4⟩:∃y,DataW.trod enc Tryz.prog w base spare held n 9 (([c0,c1,c2,c3,c4,c5,c6,c7].drop 4).take (Tryz.prog.cellsOf 9))=some y:=g 4 _ rfl
    obtain ⟨y5,h5⟩:∃y,DataW.trod enc Tryz.prog w base spare held n 3 (([c0,c1,c2,c3,c4,c5,c6,c7].drop 5).take (Tryz.prog.cellsOf 3))=some y:=g 5 _ rfl
    obtain ⟨y6,h6⟩:∃y,DataW.trod enc Tryz.prog w base spare held n 3 (([c0,c1,c2,c3,c4,c5,c6,c7].drop 6).take (Tryz.prog.cellsOf 3))=some y:=g 6 _ rfl
    obtain ⟨y7,h7⟩:∃y,DataW.trod enc Tryz.prog w base spare held n 3 (([c0,c1,c2,c3,c4,c5,c6,c7].drop 7).take (Tryz.prog.cellsOf 3))=some y:=g 7 _ rfl
    rw [zZs] at h0 h4
    rw [qXY] at h1 h2 h5 h6 h7
    rw [qqD] at h3
    have h3':DataW.trod enc Tryz.prog w base spare held n 34 [c3]=some y3:=by simpa using h3
    obtain ⟨s0,e0,_⟩:=DataW.trod_string Tryz.underlying9 h0
    obtain ⟨n1,e1,_⟩:=DataW.trod_int Tryz.underlying3 h1
    obtain ⟨n2,e2,_⟩:=DataW.trod_int Tryz.underlying3 h2
    obtain ⟨l3,a3,k3,e3,r3⟩:=qqK h3'
    obtain ⟨s4,e4,_⟩:=DataW.trod_string Tryz.underlying9 h4
    obtain ⟨n5,e5,_⟩:=DataW.trod_int Tryz.underlying3 h5
    obtain ⟨n6,e6,_⟩:=DataW.trod_int Tryz.underlying3 h6
    obtain ⟨n7,e7,_⟩:=DataW.trod_int Tryz.underlying3 h7
    simp at e0 e1 e2 e4 e5 e6 e7
    subst e3
    exact ⟨⟨⟨s0,n1,n2,l3,s4,n5,n6,n7⟩,a3,k3⟩,by simp [qXh.cells,qXh.nv,e0,e1,e2,e4,e5,e6,e7],r3⟩
theorem zQI {fuel:Nat} {cs:List Value} {x:DataW H × List MemPlace} (h:DataW.trod enc Tryz.prog w base spare held fuel 69 cs=some x):∃t:OpK,cs=t.cells∧NdR w t.t.nv t.t.x.needs:=by
  obtain ⟨xs,n,_,_,hlen,_,hf⟩:=DataW.trod_struct Tryz.underlying69 h
  rw [qUH] at hlen
  match cs,hlen with
  | [c0,c1,c2,c3,c4,c5,c6,c7,c8,c9],_ =>
    have g:∀(i:Nat) (f:Field),_→∃y,DataW.trod enc Tryz.prog w base spare held n f.type (([c0,c1,c2,c3,c4,c5,c6,c7,c8,c9].drop f.offset).take (Tryz.prog.cellsOf f.type))=some y:=fun i f hi=>by
      have h1:=hf i f hi
      have h2:i<xs.length:=by
        have:=(Array.getElem?_eq_some_iff.1 hi).1
        omega
      rw [List.getElem?_eq_getElem h2] at h1
      exact ⟨_,h1⟩
    obtain ⟨y0,h0⟩:∃y,DataW.trod enc Tryz.prog w base spare held n 3 (([c0,c1,c2,c3,c4,c5,c6,c7,c8,c9].drop 0).take (Tryz.prog.cellsOf 3))=some y:=g 0 _ rfl
    obtain ⟨y1,h1⟩:∃y,DataW.trod enc Tryz.prog w base spare held n 3 (([c0,c1,c2,c3,c4,c5,c6,c7,c8,c9].drop 1).take (Tryz.prog.cellsOf 3))=some y:=g 1 _ rfl
    obtain ⟨y2,h2⟩:∃y,DataW.trod enc Tryz.prog w base spare held n 36 (([c0,c1,c2,c3,c4,c5,c6,c7,c8,c9].drop 2).take (Tryz.prog.cellsOf 36))=some y:=g 2 _ rfl
    rw [qXY] at h0 h1
    rw [qW9] at h2
    obtain ⟨n0,e0,_⟩:=DataW.trod_int Tryz.underlying3 h0
    obtain ⟨n1,e1,_⟩:=DataW.trod_int Tryz.underlying3 h1
    obtain ⟨t,e2,r2⟩:=qYY h2
    simp at e0 e1 e2
    exact ⟨⟨n0,n1,t⟩,by simp [OpK.cells,e0,e1,← e2],r2⟩
theorem qKT {W:World} {a0:Option Addr} {len cap:Nat} {d:DataW H} {p:List MemPlace} (h:DataW.Trod enc Tryz.prog W 0 (fun _=>true) true 25 (.slice a0 len cap) d p) (hsz:∀elems spare,d=.slice elems spare→(elems.length+spare.length)*112≤reachBytes) :
    ∃ops:List OpK,RdK W (.slice a0 len cap) ops:=by
  obtain ⟨fuel,hf⟩:=h
  rcases open_slice Tryz.underlying25 hf with ⟨hcs,hx⟩ | ⟨a,len',cap',m,n,D,Pl,hcs,_,hl,hm,hmm,hx,hi⟩
  · have:(a0=none∧len=0)∧cap=0:=by simpa [Value.cells,and_assoc] using hcs
    obtain ⟨⟨rfl,rfl⟩,rfl⟩:=this
    exact ⟨[],⟨none,0,rfl,by simp,by simp,fun h=>by simp at h⟩,fun x hx=>by cases hx⟩
  · have:a0=some a∧len=len'∧cap=cap':=by simpa [Value.cells] using hcs
    obtain ⟨rfl,rfl,rfl⟩:=this
    simp only [if_true] at hmm
    subst hmm
    have hel:∀i,i<m→∃t:OpK,(∀j u,t.cells[j]? = some u→W.cell? (a.add (i*10+j))=some u)∧NdR W t.t.nv t.t.x.needs:=by
      intro i him
      obtain ⟨cs',hc,ht⟩:=hi i him
      rw [qUH] at hc
      obtain ⟨t,rfl,rt⟩:=zQI ht
      obtain ⟨_,hcl,hat⟩:=World.cells?_some hc
      refine ⟨t,fun j u hj=>?_,rt⟩
      have hjl:j<10:=by have:=qQa hj;simpa [OpK.cells,qXh.cells] using this
      have h1:=hat j hjl
      rw [add_add] at h1
      rw [h1]
      exact hj
    have hch:∃f:Nat→OpK,∀i,i<m→(∀j u,(f i).cells[j]? = some u→W.cell? (a.add (i*10+j))=some u)∧NdR W (f i).t.nv (f i).t.x.needs:=by
      refine ⟨fun i=>if h:i<m then (hel i h).choose else ⟨0,0,⟨⟨⟨#[]⟩,0,0,[],⟨#[]⟩,0,0,0⟩,none,0⟩⟩,fun i him=>?_⟩
      simp only [him,dif_pos]
      exact (hel i him).choose_spec
    obtain ⟨f,hf'⟩:=hch
    have hlm:len≤m:=hl
    refine ⟨(List.range len).map f,⟨some a,m,by simp,?_,by simpa using hl,fun hn=>?_⟩,fun x hx=>?_⟩
    rotate_left 2
    · obtain ⟨i,hi2,rfl⟩:=List.mem_map.1 hx
      exact (hf' i (by have:=List.mem_range.1 hi2;omega)).2
    · simp only [Prod.mk.injEq] at hx
      have:=hsz _ _ hx.1
      simp only [List.length_map,List.length_range,reachBytes] at this
      simp only [List.length_map,List.length_range]
      omega
    · simp only [List.length_map,List.length_range] at hn
      obtain ⟨b,off,spot⟩:=a
      have h0:=(hf' 0 (by omega)).1 0 _ rfl
      have hspot:spot=none:=by simpa [Addr.add] using World.cell?_spot h0
      subst hspot
      refine ⟨b,off,rfl,fun k x hx j u hj=>?_⟩
      have hk:=qQa hx
      simp only [List.length_map,List.length_range] at hk
      simp [hk] at hx
      subst hx
      have hc:=(hf' k (by omega)).1 j u hj
      have e:(⟨b,off,none⟩:Addr).add (k*10+j)=⟨b,off+(k*10+j),none⟩:=Addr.add_lit _ _ _
      rwa [e] at hc
theorem qq8 {fuel:Nat} {v:Value} {x:DataW H × List MemPlace} (h:DataW.trod enc Tryz.prog w base spare held fuel 22 [v]=some x):∃(l:List Int) (a:Option Addr) (c:Nat),v=.slice a l.length c∧NdR w v l:=by
  rcases open_slice1 Tryz.underlying22 qXY h with ⟨hcs,hx⟩ | ⟨a,len,cap,m,n,V,D,Pl,hcs,_,hl,hm,hmm,hx,hi⟩
  · have:v=.slice none 0 0:=by simpa using hcs
    subst this
    exact ⟨[],none,0,rfl,.inl ⟨rfl,rfl⟩⟩
  · have:v=.slice (some a) len cap:=by simpa using hcs
    subst this
    have hlm:len≤m:=by rw [hmm];split <;> omega
    by_cases hz:len=0
    · subst hz
      exact ⟨[],some a,cap,rfl,.inr (.inl ⟨a,cap,rfl,rfl⟩)⟩
    · have hel:∀i,i<m→∃z:Int,w.cell? (a.add i)=some (.int .i64 z):=by
        intro i him
        obtain ⟨hc,ht⟩:=hi i him
        obtain ⟨z,e1,_⟩:=DataW.trod_int Tryz.underlying3 ht
        have e2:V i=.int .i64 z:=by simpa using e1
        exact ⟨z,by rw [hc,e2]⟩
      obtain ⟨f,hf⟩:∃f:Nat→Int,∀i,i<m→w.cell? (a.add i)=some (.int .i64 (f i)):=by
        refine ⟨fun i=>if h:i<m then (hel i h).choose else 0,fun i him=>?_⟩
        simp only [him,dif_pos]
        exact (hel i him).choose_spec
      obtain ⟨b,off,spot⟩:=a
      have h0:=hf 0 (by omega)
      have hspot:spot=none:=by simpa [Addr.add] using World.cell?_spot h0
      subst hspot
      have el:((List.range len).map f).length=len:=by simp
      refine ⟨(List.range len).map f,some ⟨b,off,none⟩,cap,by rw [el],.inr (.inr ⟨b,off,cap,by rw [el],fun j u hj=>?_⟩)⟩
      obtain ⟨k,x,j',hk,hj',e⟩:=qKi hj
      have hkl:=qQa hk
      rw [el] at hkl
      simp [hkl] at hk
      subst hk
      have hj0:j'=0∧u=.int .i64 (f k):=by
        cases j' with
        | zero=>exact ⟨rfl,by simpa [Enc.cells] using hj'.symm⟩
        | succ j'=>simp [Enc.cells] at hj'
      obtain ⟨rfl,rfl⟩:=hj0
      have hc:=hf k (by omega)
      have e2:(⟨b,off,none⟩:Addr).add k=⟨b,off+k,none⟩:=Addr.add_lit _ _ _
      rw [e2] at hc
      rw [e]
      simpa [Enc.size] using hc
theorem qXE {v:Value} {W:World} {d:DataW H} {p:List MemPlace} {b0:Nat} (hv:Value.okWide Tryz.prog W .any b0 24 v) (h:DataW.Trod enc Tryz.prog W 0 (fun _=>true) true 24 v d p) :
    ∃(words:Int) (u:List Int) (a:Option Addr) (c:Nat),v=.agg #[.int .i64 words,.slice a u.length c]∧NdR W (.slice a u.length c) u:=by
  obtain ⟨v0,v1,y0,y1,n,rfl,-,-,h0,h1⟩:=Joins.open_agg2 Tryz.underlying24 (by kernel_rfl) (by kernel_rfl) hv h
  obtain ⟨z,e1,_⟩:=DataW.trod_int Tryz.underlying3 h0
  obtain ⟨u,a,c,rfl,hn⟩:=qq8 h1
  exact ⟨z,u,a,c,by rw [show v0=.int .i64 z by simpa using e1],hn⟩
end
end
section
open Go.RowKit Spl
section
variable {H:Type} {enc:TypeId × Value→H}
theorem qVv {v:Value} {W:World} {d:DataW H} {p:List MemPlace} {b0:Nat} (hv:Value.okWide Tryz.prog W .any b0 36 v) (h:DataW.Trod enc Tryz.prog W 0 (fun _=>true) true 36 v d p) :
    ∃t:qXh,v=.agg #[.string t.x.nm,.int .i64 t.x.lv,.int .i64 t.x.fr,t.nv,.string t.x.cd,.int .i64 t.x.p,.int .i64 t.x.f,.int .i64 t.x.g]∧NdR W t.nv t.x.needs:=by
  obtain ⟨cs,rfl,-⟩:=Go.WideShapes.okWide_struct Tryz.underlying36 hv
  obtain ⟨fuel,hf⟩:=h
  obtain ⟨t,ht,hr⟩:=qYY hf
  refine ⟨t,?_,hr⟩
  have h1:cs.toList=t.cells:=ht
  have h2:cs=t.cells.toArray:=by rw [← h1]
  rw [h2]
  rfl
end
end
end Go.Proofs.YtkchopnkdjnocaaGreatDoor
