/-
  Merged texts of one proof: ArM, Arena, Arena2, Arena3.
-/
import Derived.BigQuiet
import Derived.Deep.QuietTactic
import Derived.Deep.RegionHeld3
import Derived.Deep.RegionLaw
import Derived.Deep.RegionWith
import Derived.IntWalk
import Derived.Lib.Hide
import Derived.Lib.JoinLaws
import Derived.Lib.SliceRun
import Derived.StillTailTactics
import Derived.Test.YtkchopnkdjnocaaGreatDoorG01
import Derived.Test.YtkchopnkdjnocaaGreatDoorG02
import Derived.Test.YtkchopnkdjnocaaGreatDoorRows

set_option maxHeartbeats 16000000
set_option maxRecDepth 20000
namespace Go.Proofs.YtkchopnkdjnocaaGreatDoor
section
open Go.RowKit Spl
theorem qQr {α:Type} (l:List α):l = []∨∃a x,l=a++[x]:=by
  rcases List.eq_nil_or_concat l with h | ⟨a,x,h⟩
  · exact .inl h
  · exact .inr ⟨a,x,by rw [h,List.concat_eq_append]⟩
structure FrM where
  size:Nat
  laid:List Int
structure ArM where
  n:Nat
  fr:List FrM
  high:Nat
def qQX (n:Nat):List Int:=List.replicate n 0
theorem qYl (n:Nat):(qQX n).length=n:=by simp [qQX]
theorem qVT (a b:Nat):qQX (a+b)=qQX a++qQX b:=by simp [qQX,List.replicate_append_replicate]
def FrM.words (f:FrM):List Int:=f.laid++qQX (f.size-f.laid.length)
def qQu (l:List FrM):Nat:=(l.map FrM.size).sum
def qQ7 (l:List FrM):List Int:=l.flatMap FrM.words
theorem qW5 {l:List FrM} {f:FrM} (h:f∈l):f.size≤qQu l:=by
  induction l with
  | nil=>cases h
  | cons x l ih =>
    have e:qQu (x::l)=x.size+qQu l:=by simp [qQu]
    rw [e]
    rcases List.mem_cons.1 h with rfl | h
    · exact Nat.le_add_right _ _
    · have:=ih h;omega
theorem zKc:qQu []=0:=rfl
theorem qQ2 (a b:List FrM):qQu (a++b)=qQu a+qQu b:=by simp [qQu]
theorem qZz (f:FrM):qQu [f]=f.size:=by simp [qQu]
theorem qZf (a b:List FrM):qQ7 (a++b)=qQ7 a++qQ7 b:=by simp [qQ7]
theorem qZ3 (f:FrM):qQ7 [f]=f.words:=by simp [qQ7]
theorem FrM.words_len {f:FrM} (h:f.laid.length≤f.size):f.words.length=f.size:=by
  unfold FrM.words
  rw [List.length_append,qYl];omega
theorem qJC {l:List FrM} (h:∀f∈l,f.laid.length≤f.size):(qQ7 l).length=qQu l:=by
  induction l with
  | nil=>rfl
  | cons f l ih =>
    have e:qQ7 (f::l)=f.words++qQ7 l:=rfl
    have e2:qQu (f::l)=f.size+qQu l:=by simp [qQu]
    rw [e,e2,List.length_append,FrM.words_len (h f List.mem_cons_self),ih (fun g hg=>h g (List.mem_cons_of_mem _ hg))]
def frs (g:Nat):Nat→List FrM→List Value
  | _,[]=>[]
  | off,f::l=>.slice (some ⟨g,if f.size=0 then 0 else off,none⟩) f.laid.length f.size::frs g (off+f.size) l
theorem qX5 (g:Nat) (a b:List FrM):∀off,frs g off (a++b)=frs g off a++frs g (off+qQu a) b:=by
  induction a with
  | nil=>intro off;simp [frs,qQu]
  | cons f a ih =>
    intro off
    have e2:qQu (f::a)=f.size+qQu a:=by simp [qQu]
    rw [List.cons_append,frs,frs,ih,List.cons_append,e2,Nat.add_assoc]
theorem qQ5 (g:Nat) (l:List FrM):∀off,(frs g off l).length=l.length:=by
  induction l with
  | nil=>intro off;rfl
  | cons f l ih=>intro off;rw [frs,List.length_cons,ih,List.length_cons]
theorem zKA (g:Nat) (l:List FrM):∀off,∀u∈frs g off l,u.oneCell'=true:=by
  induction l with
  | nil=>intro off u h;cases h
  | cons f l ih =>
    intro off u h
    rw [frs] at h
    rcases List.mem_cons.1 h with rfl | h
    · rfl
    · exact ih _ u h
theorem zXy {g:Nat} {l:List FrM} {i:Nat} {f:FrM} (h:l[i]? = some f):∀off,(frs g off l)[i]? = some (.slice (some ⟨g,if f.size=0 then 0 else off+qQu (l.take i),none⟩) f.laid.length f.size):=by
  induction l generalizing i with
  | nil=>simp at h
  | cons x l ih =>
    intro off
    cases i with
    | zero =>
      simp at h;subst h
      simp [frs,qQu]
    | succ i =>
      have e2:qQu (x::l.take i)=x.size+qQu (l.take i):=by simp [qQu]
      rw [frs,List.getElem?_cons_succ,ih (by simpa using h),List.take_succ_cons,e2,Nat.add_assoc]
namespace ArM
def used (m:ArM):Nat:=qQu m.fr
def words (m:ArM):List Int:=qQ7 m.fr++qQX (m.n-m.used)
structure Ok (m:ArM):Prop where
  used:m.used≤m.n
  n:m.n≤65536
  high:m.used≤m.high
  high2:m.high≤m.n
  laid:∀f∈m.fr,f.laid.length≤f.size
  few:m.fr.length≤10000
theorem words_len {m:ArM} (h:m.Ok):m.words.length=m.n:=by
  unfold words
  have h1:=h.used
  unfold used at *
  rw [List.length_append,qJC h.laid,qYl]
  omega
def new (n:Nat):ArM:=⟨n,[],0⟩
theorem Ok.new {n:Nat} (h:n≤65536):(ArM.new n).Ok:=⟨Nat.zero_le _,h,Nat.zero_le _,Nat.zero_le _,(fun _ h=>nomatch h),Nat.zero_le _⟩
def openE (m:ArM) (size:Int):Int:=if size<0 then 1 else if size > m.n-m.used then 11 else 0
def openF (m:ArM) (size:Int):ArM:=if m.openE size=0 then ⟨m.n,m.fr++[⟨size.toNat,[]⟩],max m.high (m.used+size.toNat)⟩ else m
theorem Ok.openF {m:ArM} (h:m.Ok) (size:Int) (hl:m.fr.length<10000):(m.openF size).Ok:=by
  unfold ArM.openF
  split
  · rename_i he
    unfold openE at he
    have h1:=h.used
    have h2:=h.high2
    have h3:¬size<0:=by intro hh;rw [if_pos hh] at he;cases he
    have h4:¬size > m.n-m.used:=by intro hh;rw [if_neg h3,if_pos hh] at he;cases he
    have e:ArM.used ⟨m.n,m.fr++[⟨size.toNat,[]⟩],max m.high (m.used+size.toNat)⟩=m.used+size.toNat:=by
      unfold ArM.used;rw [qQ2,qZz]
    refine ⟨by rw [e];show _≤m.n;omega,h.n,by rw [e];exact Nat.le_max_right _ _,?_,?_,by simp;omega⟩
    · show max _ _≤m.n
      omega
    · intro f hf
      rcases List.mem_append.1 hf with hf | hf
      · exact h.laid f hf
      · obtain rfl:=List.mem_singleton.1 hf
        exact Nat.zero_le _
  · exact h
def pushE (m:ArM):Int:=match m.fr.getLast? with | none=>6 | some f=>if f.laid.length=f.size then 12 else 0
def push (m:ArM) (v:Int):ArM:=match m.fr.getLast? with
  | none=>m
  | some f=>if f.laid.length=f.size then m else ⟨m.n,m.fr.dropLast++[⟨f.size,f.laid++[v]⟩],m.high⟩
def popE (m:ArM):Int:=match m.fr.getLast? with | none=>6 | some f=>if f.laid = [] then 10 else 0
def popV (m:ArM):Int:=match m.fr.getLast? with | none=>0 | some f=>f.laid.getLast?.getD 0
def pop (m:ArM):ArM:=match m.fr.getLast? with
  | none=>m
  | some f=>if f.laid = [] then m else ⟨m.n,m.fr.dropLast++[⟨f.size,f.laid.dropLast⟩],m.high⟩
def closeE (m:ArM):Int:=if m.fr = [] then 6 else 0
def close (m:ArM):ArM:=⟨m.n,m.fr.dropLast,m.high⟩
theorem snoc_last {m:ArM} {init:List FrM} {f:FrM} (h:m.fr=init++[f]):m.fr.getLast? = some f∧m.fr.dropLast=init:=by rw [h];simp
theorem used_snoc {n high:Nat} {init:List FrM} {f:FrM}:ArM.used ⟨n,init++[f],high⟩=qQu init+f.size:=by
  show qQu (init++[f])=_
  rw [qQ2,qZz]
theorem Ok.turn {m:ArM} (h:m.Ok) {init:List FrM} {f f':FrM} (hf:m.fr=init++[f]) (hs:f'.size=f.size) (hl:f'.laid.length≤f'.size):Ok ⟨m.n,init++[f'],m.high⟩:=by
  have hu:m.used=qQu init+f.size:=by unfold ArM.used;rw [hf,qQ2,qZz]
  have h1:=h.used
  have h2:=h.high
  have hlen:=h.few
  rw [hf] at hlen
  refine ⟨by rw [used_snoc,hs];show _≤m.n;omega,h.n,by rw [used_snoc,hs];show _≤m.high;omega,h.high2,?_,by simpa using hlen⟩
  intro x hx
  rcases List.mem_append.1 hx with hx | hx
  · exact h.laid x (by rw [hf];exact List.mem_append_left _ hx)
  · obtain rfl:=List.mem_singleton.1 hx
    exact hl
theorem Ok.push {m:ArM} (h:m.Ok) (v:Int):(m.push v).Ok:=by
  rcases qQr m.fr with e | ⟨init,f,e⟩
  · unfold ArM.push;rw [e];exact h
  · obtain ⟨h1,h2⟩:=snoc_last e
    unfold ArM.push;rw [h1,h2]
    have hl:=h.laid f (by rw [e];simp)
    by_cases hh:f.laid.length=f.size
    · simp only [hh,if_true];exact h
    · simp only [hh,if_false]
      exact h.turn e rfl (by simp;omega)
theorem Ok.pop {m:ArM} (h:m.Ok):m.pop.Ok:=by
  rcases qQr m.fr with e | ⟨init,f,e⟩
  · unfold ArM.pop;rw [e];exact h
  · obtain ⟨h1,h2⟩:=snoc_last e
    unfold ArM.pop;rw [h1,h2]
    have hl:=h.laid f (by rw [e];simp)
    by_cases hh:f.laid = []
    · simp only [hh,if_true];exact h
    · simp only [hh,if_false]
      exact h.turn e rfl (by simp;omega)
theorem Ok.close {m:ArM} (h:m.Ok):m.close.Ok:=by
  rcases qQr m.fr with e | ⟨init,f,e⟩
  · have:m.close=m:=by unfold ArM.close;cases m;simp_all
    rw [this];exact h
  · obtain ⟨h1,h2⟩:=snoc_last e
    have hu:m.used=qQu init+f.size:=by unfold ArM.used;rw [e,qQ2,qZz]
    have hu2:m.close.used=qQu init:=by unfold ArM.close ArM.used;simp only [h2]
    have a1:=h.used
    have a2:=h.high
    have a3:=h.few
    rw [e] at a3
    refine ⟨by rw [hu2];show _≤m.n;omega,h.n,by rw [hu2];show _≤m.high;omega,h.high2,?_,?_⟩
    · intro x hx
      unfold ArM.close at hx
      simp only [h2] at hx
      exact h.laid x (by rw [e];exact List.mem_append_left _ hx)
    · unfold ArM.close
      simp only [h2]
      simp at a3
      omega
end ArM
section
variable {w0 w:World} {R:List Pr}
theorem Hd.setCells {b:Nat} {T:TypeId} {vs:List Value}:∀ {a old rest:List Value} {o:Nat} {w:World} (_:Hd w0 (cel b T (a++(old++rest)).toArray::R) w) (_:a.length=o) (_:old.length=vs.length),
    Hd w0 (cel b T (a++(vs++rest)).toArray::R) (w.setCells b o vs):=by
  induction vs with
  | nil =>
    intro a old rest o w H ho hl
    rw [List.eq_nil_of_length_eq_zero hl] at H
    exact H
  | cons v vs ih =>
    intro a old rest o w H ho hl
    cases old with
    | nil=>cases hl
    | cons x old =>
      have H1:=H.set o v
      rw [qXm ho] at H1
      have H2:Hd w0 (cel b T ((a++[v])++(old++rest)).toArray::R) (w.setCell ⟨b,o,none⟩ v):=by simpa using H1
      have H3:=ih H2 (o:=o+1) (by simp [ho]) (by simpa using hl)
      rw [World.setCells]
      simpa using H3
theorem qKE {P:Program} {ops:Array Oper} {rest:List Oper} {o:Oper} {a:Act} {Q:Exit→Act→World→Prop} (hgd:o.guard=none) (s x:Operand) (t:TypeId)
    (ho:o.op=.call { callee:=.builtin .append,args:=#[s,x],argTypes:=#[t,t] })
    (e:TypeId) (z:Value) (bytes:Nat) (ht:P.underlying t=some (.slice e)) (hinfo:(P.info? e).map (fun i=>(i.zero,i.size,i.bytes))=some (some z,1,bytes))
    (b off n cap:Nat) (hs:a.eval s=.slice (some ⟨b,off,none⟩) n cap) {T:TypeId} {pre post:List Value} {x0:Value} (H:Hd w0 (cel b T (pre++(x0::post)).toArray::R) w) (hpre:pre.length=off+n) (hroom:n+1≤cap)
    (ad:Addr) (c:Nat) (u:Value) (hx:a.eval x=.slice (some ad) 1 c) (hu:∀(j:Nat) (y:Value),[u][j]? = some y→w.cell? (ad.add j)=some y) (h1:u.oneCell'=true)
    (h:∀w',Hd w0 (cel b T (pre++(u::post)).toArray::R) w'→wpList P ops Q rest (a.put o.dst (.slice (some ⟨b,off,none⟩) (n+1) cap)) w'):wpList P ops Q (o::rest) a w:=by
  have hH:=Hd.setCells (vs:=[u]) (old:=[x0]) (a:=pre) (rest:=post) (o:=off+n) H hpre rfl
  refine wpList_append_room1 w hgd s x t t ho e z bytes ht hinfo b off n cap hs _ hx 1 [u] (Src.ofSlice w ht ad 1 c [u] rfl hu (by simpa using h1)) hroom ?_ ?_ (h _ hH)
  · intro j hj
    have hj0:j=0:=by simp at hj;exact hj
    subst hj0
    rw [Nat.add_zero,H.rd,qXs hpre]
    rfl
  · intro j _
    exact H.fr _
theorem qYi {P:Program} {ops:Array Oper} {rest:List Oper} {o:Oper} {a:Act} {Q:Exit→Act→World→Prop} (hgd:o.guard=none) (s:Operand) (t:TypeId)
    (ho:o.op=.call { callee:=.builtin .clear,args:=#[s],argTypes:=#[t] })
    (e:TypeId) (z:Value) (ht:P.underlying t=some (.slice e)) (hv:∀w,(zeroValue e).run P w=.ok z w) (hz:z.cells=#[z]) (h1:z.oneCell'=true)
    (b off n cap:Nat) (hs:a.eval s=.slice (some ⟨b,off,none⟩) n cap) {T:TypeId} {pre old post:List Value} (H:Hd w0 (cel b T (pre++(old++post)).toArray::R) w) (hpre:n=0∨pre.length=off) (hold:old.length=n)
    (h:∀w',Hd w0 (cel b T (pre++(List.replicate n z++post)).toArray::R) w'→wpList P ops Q rest (a.put o.dst (.tuple #[])) w'):wpList P ops Q (o::rest) a w :=
  wpList_plain hgd fun K hK=>by
    by_cases h0:n=0
    · subst h0
      rw [List.eq_nil_of_length_eq_zero hold] at H
      have hr:(Builtin.clear_ #[t] o.type #[.slice (some ⟨b,off,none⟩) 0 cap]).run P w=.ok (.tuple #[]) w:=by
        simp [Builtin.clear_,run_underlying ht]
      unfold Oper.wp execOp
      simp only [ho,resolve,invoke,builtin,Sem.run_bind,Sem.run_pure,Result.andThen_ok,List.map_toArray,List.map_cons,List.map_nil,hs,hr]
      exact hK _ _ (h w (by simpa using H))
    · have hp:pre.length=off:=hpre.resolve_left h0
      have hr:=Lib.run_clear_slice (P:=P) w t e o.type z ht hv hz h1 b off n cap (by omega) (fun j hj=>by
        rw [H.rd,qQU hp,List.getElem?_append_left (by omega),List.getElem?_eq_getElem (by omega)];rfl) (fun j _=>H.fr _)
      have hH:=Hd.setCells (vs:=List.replicate n z) H hp (by simpa using hold)
      unfold Oper.wp execOp
      simp only [ho,resolve,invoke,builtin,Sem.run_bind,Sem.run_pure,Result.andThen_ok,List.map_toArray,List.map_cons,List.map_nil,hs,hr]
      exact hK _ _ (h _ hH)
end
end
section
open Go.RowKit Spl
theorem qWU:(Tryz.prog.info? 3).map (fun i=>(i.zero,i.size,i.bytes))=some (some (.int .i64 0),1,8):=by kernel_rfl
theorem zJm:(Tryz.prog.info? 22).map (fun i=>(i.zero,i.size,i.bytes))=some (some (.slice none 0 0),1,24):=by kernel_rfl
def ArP (a:Nat) (m:ArM):Pr:=ex fun x:Nat × Value=>all [cel a 149 #[.slice (some ⟨x.1,0,none⟩) m.n m.n,x.2,.int .i64 m.used,.int .i64 m.high],SlcC 3 1 x.1 m.n m.n (flat m.words),Slc 22 1 x.2 m.fr.length (frs x.1 0 m.fr)]
instance (a:Nat) (m:ArM):Key (ArP a m) (.b a):=⟨trivial⟩
section
variable {w0 w:World} {R:List Pr} {a:Nat} {m:ArM}
theorem ArP.opened (H:Hd w0 (ArP a m::R) w):∃g v,Hd w0 (cel a 149 #[.slice (some ⟨g,0,none⟩) m.n m.n,v,.int .i64 m.used,.int .i64 m.high]::SlcC 3 1 g m.n m.n (flat m.words)::Slc 22 1 v m.fr.length (frs g 0 m.fr)::R) w:=by
  obtain ⟨⟨g,v⟩,H⟩:=H.out
  exact ⟨g,v,H.flat⟩
theorem ArP.shut {g:Nat} {v:Value} (H:Hd w0 (cel a 149 #[.slice (some ⟨g,0,none⟩) m.n m.n,v,.int .i64 m.used,.int .i64 m.high]::SlcC 3 1 g m.n m.n (flat m.words)::Slc 22 1 v m.fr.length (frs g 0 m.fr)::R) w):Hd w0 (ArP a m::R) w :=
  Hd.into (g,v) (Hd.pack (L:=[_,_,_]) H)
theorem qU1 (n:Nat):(madeCells (Value.int .i64 0).cells (n*1)).toList=flat (qQX n):=by
  rw [qXW]
  simp [madeCells,qQX,Value.cells]
  apply List.ext_getElem
  · simp
  · intro i h1 h2
    simp [Nat.mod_one]
theorem zKE (H:Hd w0 R w) (n:Nat) (hn:n≤65536) :
    Calls Tryz.prog 119 #[.int .i64 n] w fun e w'=>∃a,e=.returned (.tuple #[.pointer (some ⟨a,0,none⟩),.int .i64 0])∧Hd w0 (ArP a (ArM.new n)::R) w':=by
  obtain ⟨i0,hi,hz0,hz1,hz2⟩:=info_parts qWU
  have h1:¬((65536:Int)<n):=by omega
  have h2:¬((n:Int)<0):=by omega
  go_enter Tryz.func119,Tryz.ntmps119
  go_wp2_with (at_make;refine qQn rfl _ _ 22 rfl 3 i0 _ 1 Tryz.underlying22 hi hz0 hz1 rfl _ _ _ _ n n rfl rfl rfl rfl (by omega) (by rw [hz2];omega) (by unfold maxLen;omega) H ?_;intro w1 H1;rw [qU1] at H1)
  go_ret2
  refine ⟨_,rfl,ArP.shut (m:=ArM.new n) (g:=w.heap.size) (v:=.slice none 0 0) ?_⟩
  have H2:=(H1.alloc (.cells #[.slice (some ⟨w.heap.size,0,none⟩) n n,.slice none 0 0,.int .i64 0,.int .i64 0] 149)).slc_nil 22 1
  have H3:Hd w0 (cel w1.heap.size 149 #[.slice (some ⟨w.heap.size,0,none⟩) n n,.slice none 0 0,.int .i64 0,.int .i64 0]::SlcC 3 1 w.heap.size n n (flat (qQX n))::Slc 22 1 (.slice none 0 0) 0 []::R) _:=H2.re
  exact H3
theorem zXO (H:Hd w0 (ArP a m::R) w) (hm:m.Ok) :
    Calls Tryz.prog 153 #[.pointer (some ⟨a,0,none⟩)] w fun e w'=>e=.returned (.int .i64 ((m.n:Int)-m.used))∧∃n,w'=w.drewN n:=by
  obtain ⟨g,v,H1⟩:=ArP.opened H
  have c0:=H1.rd 0
  have c2:=H1.rd 2
  have h1:=hm.used
  have h2:=hm.n
  have hw:IntKind.i64.wrap ((m.n:Int)-m.used)=(m.n:Int)-m.used:=IntWalk.i64_in _ (by omega)
  clear H H1 hm
  go_enter Tryz.func153,Tryz.ntmps153
  go_wp2_with (go_quiet (fail))
  go_ret
  exact ⟨rfl,_,rfl⟩
theorem zQa (H:Hd w0 (ArP a m::R) w) :
    Calls Tryz.prog 188 #[.pointer (some ⟨a,0,none⟩)] w fun e w'=>e=.returned (.int .i64 m.fr.length)∧w=w':=by
  obtain ⟨g,v,H1⟩:=ArP.opened H
  have c1:=H1.rd 1
  obtain ⟨x,cap,rfl,_,_,_,_⟩:=(H1.v v).slc_form
  clear H H1
  go_enter Tryz.func188,Tryz.ntmps188
  go_wp2
  go_ret
  exact ⟨rfl,rfl⟩
theorem zQJ {T h k cap:Nat} {wv u hi:Value} (H:Hd w0 (cel a T #[wv,.slice (some ⟨h,0,none⟩) (k+1) cap,u,hi]::R) w) (hk:k≤100000) :
    Calls Tryz.prog 202 #[.pointer (some ⟨a,0,none⟩)] w fun e w'=>e=.returned (.pointer (some ⟨h,k,none⟩))∧∃n,w'=w.drewN n:=by
  have c1:=H.rd 1
  have hw:IntKind.i64.wrap (k:Int)=k:=IntWalk.i64_in _ (by omega)
  have hlt:(k:Int)<(k:Int)+1:=by omega
  have hne:((k:Int)+1 == 0)=false:=by rw [beq_eq_false_iff_ne];omega
  clear H
  go_enter Tryz.func202,Tryz.ntmps202
  go_wp2_with (go_quiet (fail))
  go_ret
  exact ⟨rfl,_,rfl⟩
theorem qWW {T cap:Nat} {x:Option Addr} {wv u hi:Value} (H:Hd w0 (cel a T #[wv,.slice x 0 cap,u,hi]::R) w) :
    Calls Tryz.prog 202 #[.pointer (some ⟨a,0,none⟩)] w fun e w'=>e=.returned (.pointer none)∧w=w':=by
  have c1:=H.rd 1
  clear H
  go_enter Tryz.func202,Tryz.ntmps202
  go_wp2
  go_ret
  exact ⟨rfl,rfl⟩
theorem ArP.snoc (H:Hd w0 (ArP a m::R) w) (hm:m.Ok) {init:List FrM} {f:FrM} (e:m.fr=init++[f]) :
    ∃g h cap,init.length+1≤cap∧f.laid.length≤f.size∧Hd w0 (cel a 149 #[.slice (some ⟨g,0,none⟩) m.n m.n,.slice (some ⟨h,0,none⟩) (init.length+1) cap,.int .i64 m.used,.int .i64 m.high] ::
      SlcC 3 1 g m.n m.n (flat m.words)::SlcC 22 1 h (init.length+1) cap (frs g 0 init++[.slice (some ⟨g,if f.size=0 then 0 else qQu init,none⟩) f.laid.length f.size])::R) w:=by
  obtain ⟨g,v,H1⟩:=ArP.opened H
  have hlen:m.fr.length=init.length+1:=by rw [e];simp
  obtain ⟨h,cap,rfl,H2⟩:=(H1.v v).slc_at (by omega)
  have hc:=H2.slcC.2.1
  have e2:frs g 0 m.fr=frs g 0 init++[.slice (some ⟨g,if f.size=0 then 0 else qQu init,none⟩) f.laid.length f.size]:=by
    rw [e,qX5];simp [frs]
  rw [hlen] at hc
  rw [e2,hlen] at H2
  exact ⟨g,h,cap,hc,hm.laid f (by rw [e];simp),H2.re⟩
theorem ArP.unsnoc {g h cap:Nat} {init:List FrM} {f:FrM} {n high:Nat} (H:Hd w0 (cel a 149 #[.slice (some ⟨g,0,none⟩) n n,.slice (some ⟨h,0,none⟩) (init.length+1) cap,.int .i64 ((qQu init+f.size:Nat):Int),.int .i64 high] ::
      SlcC 3 1 g n n (flat (ArM.words ⟨n,init++[f],high⟩))::SlcC 22 1 h (init.length+1) cap (frs g 0 init++[.slice (some ⟨g,if f.size=0 then 0 else qQu init,none⟩) f.laid.length f.size])::R) w) :
    Hd w0 (ArP a ⟨n,init++[f],high⟩::R) w:=by
  refine ArP.shut (m:=⟨n,init++[f],high⟩) (g:=g) (v:=.slice (some ⟨h,0,none⟩) (init.length+1) cap) ?_
  have e2:frs g 0 (init++[f])=frs g 0 init++[.slice (some ⟨g,if f.size=0 then 0 else qQu init,none⟩) f.laid.length f.size]:=by
    rw [qX5];simp [frs]
  have e3:(init++[f]).length=init.length+1:=by simp
  show Hd w0 (cel a 149 #[.slice (some ⟨g,0,none⟩) n n,.slice (some ⟨h,0,none⟩) (init.length+1) cap,.int .i64 (ArM.used ⟨n,init++[f],high⟩:Nat),.int .i64 high]::SlcC 3 1 g n n (flat (ArM.words ⟨n,init++[f],high⟩))::Slc 22 1 (.slice (some ⟨h,0,none⟩) (init.length+1) cap) (init++[f]).length (frs g 0 (init++[f]))::R) w
  rw [e2,e3,ArM.used_snoc]
  exact ((H.k h).slc_mk).re
theorem ArP.turned {g h cap:Nat} {init:List FrM} {f f':FrM} {sp:List Value} (H:Hd w0 (cel a 149 #[.slice (some ⟨g,0,none⟩) m.n m.n,.slice (some ⟨h,0,none⟩) (init.length+1) cap,.int .i64 m.used,.int .i64 m.high] ::
      cel g 3 (flat (ArM.words ⟨m.n,init++[f'],m.high⟩)++sp).toArray::SlcC 22 1 h (init.length+1) cap (frs g 0 init++[.slice (some ⟨g,qQu init,none⟩) f'.laid.length f.size])::R) w)
    (hm:m.Ok) (e:m.fr=init++[f]) (h0:¬f.size=0) (hs:f'.size=f.size) (hl:f'.laid.length≤f'.size) (hsp:m.n*1≤(flat (ArM.words ⟨m.n,init++[f'],m.high⟩)++sp).length) :
    Hd w0 (ArP a ⟨m.n,init++[f'],m.high⟩::R) w:=by
  have hu:m.used=qQu init+f'.size:=by rw [hs];unfold ArM.used;rw [e,qQ2,qZz]
  have hok:=hm.turn e hs hl
  have hwl:=ArM.words_len hok
  have H2:Hd w0 (SlcC 3 1 g m.n m.n (flat (ArM.words ⟨m.n,init++[f'],m.high⟩))::_) w:=(H.k g).slcC_mk (by rw [qQf,hwl];rfl) (Nat.le_refl _) (by unfold maxLen;have:=hm.n;omega) hsp
  have e1:Value.slice (some ⟨g,qQu init,none⟩) f'.laid.length f.size=.slice (some ⟨g,if f'.size=0 then 0 else qQu init,none⟩) f'.laid.length f'.size:=by
    rw [if_neg (by rw [hs];exact h0),hs]
  rw [e1,hu] at H2
  exact ArP.unsnoc (g:=g) (h:=h) (cap:=cap) H2.re
theorem zQN (H:Hd w0 (ArP a m::R) w) (hm:m.Ok) (v:Int) :
    Calls Tryz.prog 184 #[.pointer (some ⟨a,0,none⟩),.int .i64 v] w fun e w'=>e=.returned (.int .i64 (m.pushE))∧Hd w0 (ArP a (m.push v)::R) w':=by
  rcases qQr m.fr with e | ⟨init,f,e⟩
  · have e1:m.pushE=6:=by unfold ArM.pushE;rw [e];rfl
    have e2:m.push v=m:=by unfold ArM.push;rw [e];rfl
    rw [e1,e2]
    obtain ⟨g,u,H1⟩:=ArP.opened H
    obtain ⟨x,cap,rfl,_,_,_,_⟩:=(H1.v u).slc_form
    rw [e] at H1
    have hl:=qWW H1
    clear H1 e1 e2 e
    go_enter Tryz.func184,Tryz.ntmps184
    go_wp2_with fail
    refine hl.mono ?_
    rintro e w' ⟨rfl,rfl⟩
    go_wp2_with fail
    go_ret
    exact ⟨rfl,H⟩
  · obtain ⟨h1,h2⟩:=ArM.snoc_last e
    have hfew:=hm.few
    rw [e] at hfew
    simp at hfew
    obtain ⟨g,h,cap,hcap,hfl,H1⟩:=ArP.snoc H hm e
    have hl:=zQJ H1 (by omega)
    have hH2:=H1.k h
    have ch:=hH2.slcC_rd (j:=init.length) (u:=.slice (some ⟨g,if f.size=0 then 0 else qQu init,none⟩) f.laid.length f.size) (by rw [List.getElem?_append_right (by rw [qQ5];omega),qQ5];simp)
    have fh:=hH2.slcC_fr init.length
    have hb1:=hm.used
    have hb2:=hm.n
    have hu:m.used=qQu init+f.size:=by unfold ArM.used;rw [e,qQ2,qZz]
    by_cases hh:f.laid.length=f.size
    · have e1:m.pushE=12:=by unfold ArM.pushE;rw [h1];simp [hh]
      have e2:m.push v=m:=by unfold ArM.push;rw [h1];simp [hh]
      rw [e1,e2]
      have hb:((f.laid.length:Int) == f.size)=true:=by rw [hh];simp
      generalize (if f.size=0 then 0 else qQu init)=oo at ch
      clear hH2 H1 e1 e2 e h1 h2 hh hu hm
      go_enter Tryz.func184,Tryz.ntmps184
      go_wp2_with fail
      refine hl.mono ?_
      rintro e w' ⟨rfl,n,rfl⟩
      go_wp2_with (go_quiet (fail))
      go_ret
      exact ⟨rfl,H.fin⟩
    · have e1:m.pushE=0:=by unfold ArM.pushE;rw [h1];simp [hh]
      have e2:m.push v=⟨m.n,init++[⟨f.size,f.laid++[v]⟩],m.high⟩:=by unfold ArM.push;rw [h1];simp [hh,h2]
      rw [e1,e2]
      have hb:((f.laid.length:Int) == f.size)=false:=by rw [beq_eq_false_iff_ne];omega
      have hs0:¬f.size=0:=by omega
      rw [if_neg hs0] at ch
      have HG:Hd w0 (SlcC 3 1 g m.n m.n (flat m.words)::_) w:=H1.k g
      obtain ⟨_,_,hmx,sp,hsp,HG2⟩:=HG.slcC
      have ew:flat m.words++sp=flat (qQ7 init++f.laid)++(.int .i64 0::(flat (qQX (f.size-f.laid.length-1)++qQX (m.n-m.used))++sp)):=by
        have ez:qQX (f.size-f.laid.length)=0::qQX (f.size-f.laid.length-1):=by
          obtain ⟨k,hk⟩:∃k,f.size-f.laid.length=k+1:=⟨f.size-f.laid.length-1,by omega⟩
          rw [hk];rfl
        unfold ArM.words
        rw [e,qZf,qZ3]
        unfold FrM.words
        rw [ez]
        simp [qQc,qQI,Enc.cells]
      rw [ew] at HG2 hsp
      have hpre:(flat (qQ7 init++f.laid)).length=qQu init+f.laid.length:=by
        rw [qQf,List.length_append,qJC (fun x hx=>hm.laid x (by rw [e];exact List.mem_append_left _ hx))]
        simp [Enc.size]
      have hroom:f.laid.length+1≤f.size:=by omega
      have hE:=Lib.hid (And.intro e (And.intro hu ew))
      clear hH2 H1 e1 e2 e h1 h2 hh hu ew HG H
      go_enter Tryz.func184,Tryz.ntmps184
      go_wp2_with fail
      refine hl.mono ?_
      rintro e w' ⟨rfl,n,rfl⟩
      go_wp2_with (first | go_quiet (fail) | (at_builtin;(refine qKE rfl _ _ 22 rfl 3 _ 8 Tryz.underlying22 qWU g (qQu init) f.laid.length f.size rfl ((Hd.fol HG2:Hd w0 _ _).k g) hpre hroom ⟨_,0,none⟩ 1 (.int .i64 v) rfl (qWH (by simp)) rfl ?_);intro w2 H2;have p0:=(H2.k h).slcC_rd (j:=init.length) (u:=.slice (some ⟨g,qQu init,none⟩) f.laid.length f.size) (by rw [List.getElem?_append_right (by rw [qQ5];omega),qQ5];simp [hs0]);have p1:=(H2.k h).slcC_fr init.length))
      go_ret
      refine ⟨rfl,?_⟩
      obtain ⟨e,hu,ew⟩:=hE.out
      have H3:=(H2.k h).slcC_set (j:=init.length) (by rw [List.length_append,qQ5];simp) (.slice (some ⟨g,qQu init,none⟩) (f.laid.length+1) f.size)
      have es:(frs g 0 init++[Value.slice (some ⟨g,if f.size=0 then 0 else qQu init,none⟩) f.laid.length f.size]).set init.length (.slice (some ⟨g,qQu init,none⟩) (f.laid.length+1) f.size)=frs g 0 init++[.slice (some ⟨g,qQu init,none⟩) (f.laid++[v]).length f.size]:=by
        rw [List.set_append,if_neg (by rw [qQ5];omega),qQ5];simp
      have ew2:flat (qQ7 init++f.laid)++(.int .i64 v::(flat (qQX (f.size-f.laid.length-1)++qQX (m.n-m.used))++sp))=flat (ArM.words ⟨m.n,init++[⟨f.size,f.laid++[v]⟩],m.high⟩)++sp:=by
        unfold ArM.words
        rw [ArM.used_snoc,qZf,qZ3,hu]
        unfold FrM.words
        have:f.size-(f.laid++[v]).length=f.size-f.laid.length-1:=by simp;omega
        show _=flat (_++((f.laid++[v])++qQX (f.size-(f.laid++[v]).length))++_)++sp
        rw [this]
        simp [qQc,qQI,Enc.cells]
      rw [es] at H3
      rw [ew2] at H3
      exact ArP.turned (g:=g) (h:=h) (cap:=cap) (sp:=sp) H3.re hm e hs0 rfl (by simp;omega) (by rw [← ew2];simpa using hsp)
theorem zQk (H:Hd w0 (ArP a m::R) w) (hm:m.Ok) :
    Calls Tryz.prog 185 #[.pointer (some ⟨a,0,none⟩)] w fun e w'=>e=.returned (.tuple #[.int .i64 m.popV,.int .i64 m.popE])∧Hd w0 (ArP a m.pop::R) w':=by
  rcases qQr m.fr with e | ⟨init,f,e⟩
  · have e1:m.popE=6:=by unfold ArM.popE;rw [e];rfl
    have e3:m.popV=0:=by unfold ArM.popV;rw [e];rfl
    have e2:m.pop=m:=by unfold ArM.pop;rw [e];rfl
    rw [e1,e2,e3]
    obtain ⟨g,u,H1⟩:=ArP.opened H
    obtain ⟨x,cap,rfl,_,_,_,_⟩:=(H1.v u).slc_form
    rw [e] at H1
    have hl:=qWW H1
    clear H1 e1 e2 e3 e
    go_enter Tryz.func185,Tryz.ntmps185
    go_wp2_with fail
    refine hl.mono ?_
    rintro e w' ⟨rfl,rfl⟩
    go_wp2_with fail
    go_ret2
    exact ⟨rfl,H⟩
  · obtain ⟨h1,h2⟩:=ArM.snoc_last e
    have hfew:=hm.few
    rw [e] at hfew
    simp at hfew
    obtain ⟨g,h,cap,hcap,hfl,H1⟩:=ArP.snoc H hm e
    have hl:=zQJ H1 (by omega)
    have hb1:=hm.used
    have hb2:=hm.n
    have hu:m.used=qQu init+f.size:=by unfold ArM.used;rw [e,qQ2,qZz]
    rcases qQr f.laid with hf | ⟨l,x,hf⟩
    · have e1:m.popE=10:=by unfold ArM.popE;rw [h1];simp [hf]
      have e3:m.popV=0:=by unfold ArM.popV;rw [h1];simp [hf]
      have e2:m.pop=m:=by unfold ArM.pop;rw [h1];simp [hf]
      rw [e1,e2,e3]
      rw [hf] at H1
      have hH2:=H1.k h
      have ch:=hH2.slcC_rd (j:=init.length) (u:=.slice (some ⟨g,if f.size=0 then 0 else qQu init,none⟩) 0 f.size) (by rw [List.getElem?_append_right (by rw [qQ5];omega),qQ5];simp)
      generalize (if f.size=0 then 0 else qQu init)=oo at ch
      clear hH2 H1 e1 e2 e3 e h1 h2 hu hm hf
      go_enter Tryz.func185,Tryz.ntmps185
      go_wp2_with fail
      refine hl.mono ?_
      rintro e w' ⟨rfl,n,rfl⟩
      go_wp2_with fail
      go_ret2
      exact ⟨rfl,H.fin⟩
    · have hne:¬f.laid = []:=by rw [hf];simp
      have e1:m.popE=0:=by unfold ArM.popE;rw [h1];simp [hne]
      have e3:m.popV=x:=by unfold ArM.popV;rw [h1];simp [hf]
      have e2:m.pop=⟨m.n,init++[⟨f.size,l⟩],m.high⟩:=by unfold ArM.pop;rw [h1];simp [hf,h2]
      rw [e1,e2,e3]
      have hll:f.laid.length=l.length+1:=by rw [hf];simp
      have hs0:¬f.size=0:=by omega
      rw [hll,if_neg hs0] at H1
      have HG:Hd w0 (SlcC 3 1 g m.n m.n (flat m.words)::_) w:=H1.k g
      obtain ⟨_,_,hmx,sp,hsp,HG2⟩:=HG.slcC
      have ew:flat m.words++sp=flat (qQ7 init++l)++(.int .i64 x::(flat (qQX (f.size-f.laid.length)++qQX (m.n-m.used))++sp)):=by
        unfold ArM.words
        rw [e,qZf,qZ3]
        unfold FrM.words
        rw [hf]
        simp [qQc,qQI,Enc.cells]
      rw [ew] at HG2 hsp
      have hpre:(flat (qQ7 init++l)).length=qQu init+l.length:=by
        rw [qQf,List.length_append,qJC (fun x hx=>hm.laid x (by rw [e];exact List.mem_append_left _ hx))]
        simp [Enc.size]
      have hroom:l.length<f.size:=by omega
      have hroom2:l.length≤f.size:=by omega
      have hlt:(l.length:Int)<(l.length:Int)+1:=by omega
      have hbl:l.length≤65536:=by omega
      have hbn:((l.length:Int)+1 == 0)=false:=by rw [beq_eq_false_iff_ne];omega
      have hE:=Lib.hid (And.intro e (And.intro hu (And.intro ew (And.intro hf hll))))
      have hM:=Lib.hid hm
      clear H1 e1 e2 e3 e h1 h2 hu ew HG H hf hll hne hm
      go_enter Tryz.func185,Tryz.ntmps185
      go_wp2_with fail
      refine hl.mono ?_
      rintro e w' ⟨rfl,n,rfl⟩
      have HA:Hd w0 _ (w.drewN n):=HG2.fol
      have cg:=((HA.k g).rd (qQu init+l.length)).trans (qXs hpre)
      have fg:=(HA.k g).fr (qQu init+l.length)
      rw [List.getElem?_cons_zero] at cg
      have ch:=(HA.k h).slcC_rd (j:=init.length) (u:=.slice (some ⟨g,qQu init,none⟩) (l.length+1) f.size) (by rw [List.getElem?_append_right (by rw [qQ5];omega),qQ5];simp)
      have HB:Hd w0 _ ((w.drewN n).setCell ⟨g,qQu init+l.length,none⟩ (.int .i64 0)):=HA.fol
      rw [qXm hpre,List.set_cons_zero] at HB
      have dh:=(HB.k h).slcC_rd (j:=init.length) (u:=.slice (some ⟨g,qQu init,none⟩) (l.length+1) f.size) (by rw [List.getElem?_append_right (by rw [qQ5];omega),qQ5];simp)
      have fh:=(HB.k h).slcC_fr init.length
      clear HA
      go_wp2_with fail
      go_ret2
      refine ⟨rfl,?_⟩
      obtain ⟨e,hu,ew,hf,hll⟩:=hE.out
      have H3:=(HB.k h).slcC_set (j:=init.length) (by rw [List.length_append,qQ5];simp) (.slice (some ⟨g,qQu init,none⟩) l.length f.size)
      have es:(frs g 0 init++[Value.slice (some ⟨g,qQu init,none⟩) (l.length+1) f.size]).set init.length (.slice (some ⟨g,qQu init,none⟩) l.length f.size)=frs g 0 init++[.slice (some ⟨g,qQu init,none⟩) l.length f.size]:=by
        rw [List.set_append,if_neg (by rw [qQ5];omega),qQ5];simp
      have ew2:flat (qQ7 init++l)++(.int .i64 0::(flat (qQX (f.size-f.laid.length)++qQX (m.n-m.used))++sp))=flat (ArM.words ⟨m.n,init++[⟨f.size,l⟩],m.high⟩)++sp:=by
        unfold ArM.words
        rw [ArM.used_snoc,qZf,qZ3,hu]
        unfold FrM.words
        have:qQX (f.size-l.length)=0::qQX (f.size-f.laid.length):=by
          obtain ⟨k,hk⟩:∃k,f.size-f.laid.length=k∧f.size-l.length=k+1:=⟨f.size-f.laid.length,rfl,by omega⟩
          rw [hk.1,hk.2];rfl
        show _=flat (_++(l++qQX (f.size-l.length))++_)++sp
        rw [this]
        simp [qQc,qQI,Enc.cells]
      rw [es] at H3
      rw [ew2] at H3
      exact ArP.turned (g:=g) (h:=h) (cap:=cap) (sp:=sp) H3.re hM.out e hs0 rfl hroom2 (by rw [← ew2];simpa using hsp)
end
end
section
open Go.RowKit Spl
section
variable {w0 w:World} {R:List Pr} {a:Nat} {m:ArM}
theorem zZB (g:Nat) (l:List FrM) (s:Nat):frs g 0 (l++[⟨s,[]⟩])=frs g 0 l++[.slice (some ⟨g,if s=0 then 0 else qQu l,none⟩) 0 s]:=by
  rw [qX5];simp [frs]
theorem zXn (H:Hd w0 (ArP a m::R) w) (hm:m.Ok) (hfew:m.fr.length<10000) (size:Int) :
    Calls Tryz.prog 130 #[.pointer (some ⟨a,0,none⟩),.int .i64 size] w fun e w'=>e=.returned (.int .i64 (m.openE size))∧Hd w0 (ArP a (m.openF size)::R) w':=by
  have hroom:=zXO H hm
  by_cases hn:size<0
  · have e1:m.openE size=1:=by unfold ArM.openE;rw [if_pos hn]
    have e2:m.openF size=m:=by unfold ArM.openF;rw [e1];rfl
    rw [e1,e2]
    clear e1 e2
    go_enter Tryz.func130,Tryz.ntmps130
    go_wp2
    go_ret
    exact ⟨rfl,H⟩
  · by_cases hbig:(m.n:Int)-m.used<size
    · have e1:m.openE size=11:=by unfold ArM.openE;rw [if_neg hn,if_pos hbig]
      have e2:m.openF size=m:=by unfold ArM.openF;rw [e1];rfl
      rw [e1,e2]
      clear e1 e2
      go_enter Tryz.func130,Tryz.ntmps130
      go_wp2_with fail
      refine hroom.mono ?_
      rintro e w' ⟨rfl,n,rfl⟩
      go_wp2_with fail
      go_ret
      exact ⟨rfl,H.fin⟩
    · obtain ⟨s,rfl⟩:∃s:Nat,size=s:=⟨size.toNat,by omega⟩
      have e1:m.openE s=0:=by unfold ArM.openE;rw [if_neg hn,if_neg hbig]
      have e2:m.openF s=⟨m.n,m.fr++[⟨s,[]⟩],max m.high (m.used+s)⟩:=by unfold ArM.openF;rw [e1];simp
      rw [e1,e2]
      have hu:=hm.used
      have hN:=hm.n
      have hhi:=hm.high2
      obtain ⟨g,v,H1⟩:=ArP.opened H
      obtain ⟨x,cap,rfl,_,_,_,_⟩:=(H1.v v).slc_form
      have c0:=H1.rd 0
      have c1:=H1.rd 1
      have c2:=H1.rd 2
      have hw:IntKind.i64.wrap ((m.used:Int)+s)=(m.used:Int)+s:=IntWalk.i64_in _ (by omega)
      have b1:(m.used:Int)≤(m.used:Int)+s:=by omega
      have b2:(m.used:Int)+s≤m.n:=by omega
      have b3:(0:Int)≤(m.used:Int)+s:=by omega
      have b4:((m.used:Int)+s).toNat=m.used+s:=by omega
      have hM:=Lib.hid hm
      obtain ⟨i0,hi,hz0,hz1,hz2⟩:=info_parts zJm
      obtain ⟨A,hA⟩:∃A:Nat,A=if s=0 then 0 else m.used:=⟨_,rfl⟩
      have hA':=Lib.hid hA
      have hfit:∀ {w':World} {v':Value} {L:List Pr},Hd w0 (Slc 22 1 v' (m.fr.length+1) (frs g 0 m.fr++[.slice (some ⟨g,A,none⟩) 0 s])::cel a 149 #[.slice (some ⟨g,0,none⟩) m.n m.n,v',.int .i64 ((m.used:Int)+s),.int .i64 (max m.high (m.used+s):Nat)]::SlcC 3 1 g m.n m.n (flat m.words)::L) w' →
          Hd w0 (ArP a ⟨m.n,m.fr++[⟨s,[]⟩],max m.high (m.used+s)⟩::L) w':=by
        intro w' v' L h
        have hu2:ArM.used ⟨m.n,m.fr++[⟨s,[]⟩],max m.high (m.used+s)⟩=m.used+s:=ArM.used_snoc
        have hw2:ArM.words ⟨m.n,m.fr++[⟨s,[]⟩],max m.high (m.used+s)⟩=m.words:=by
          unfold ArM.words
          rw [hu2,qZf,qZ3]
          unfold FrM.words
          show qQ7 m.fr++([]++qQX (s-0))++qQX (m.n-(m.used+s))=_
          rw [List.nil_append,List.append_assoc,← qVT,show s-0+(m.n-(m.used+s))=m.n-m.used from by omega]
        refine ArP.shut (m:=⟨m.n,m.fr++[⟨s,[]⟩],max m.high (m.used+s)⟩) (g:=g) (v:=v') ?_
        show Hd w0 (cel a 149 #[.slice (some ⟨g,0,none⟩) m.n m.n,v',.int .i64 (ArM.used ⟨m.n,m.fr++[⟨s,[]⟩],max m.high (m.used+s)⟩:Nat),.int .i64 (max m.high (m.used+s):Nat)]::SlcC 3 1 g m.n m.n (flat (ArM.words ⟨m.n,m.fr++[⟨s,[]⟩],max m.high (m.used+s)⟩))::Slc 22 1 v' (m.fr++[(⟨s,[]⟩:FrM)]).length (frs g 0 (m.fr++[⟨s,[]⟩]))::L) w'
        have e3:(m.fr++[(⟨s,[]⟩:FrM)]).length=m.fr.length+1:=by simp
        have e4:(if s=0 then 0 else qQu m.fr)=A:=hA.symm
        rw [hu2,hw2,zZB,e3,e4,Int.natCast_add]
        exact h.re
      clear hm e1 e2 hn hbig H
      by_cases hs0:s=0
      · subst hs0
        rw [if_pos rfl] at hA
        subst hA
        have hw0:IntKind.i64.wrap (m.used:Int)=m.used:=IntWalk.i64_in _ (by omega)
        clear hw b1 b2 b3 b4
        go_enter Tryz.func130,Tryz.ntmps130
        go_wp2_with fail
        refine hroom.mono ?_
        rintro e w' ⟨rfl,n,rfl⟩
        go_wp2_with fail
        refine wm 26 [(0,true),(1,true),(2,true),(3,true),(4,true),(5,true),(6,true),(7,true),(8,true),(9,true),(10,true),(11,true),(12,true),(13,true),(14,true),(15,true),(16,true),(17,true),(18,true),(19,true),(20,true),(21,true),(22,true),(23,true),(24,false),(25,false)] (fun w'=>w'.cell? ⟨a,0,none⟩=some (.slice (some ⟨g,0,none⟩) m.n m.n)∧w'.cell? ⟨a,1,none⟩=some (.slice x m.fr.length cap)∧w'.cell? ⟨a,2,none⟩=some (.int .i64 m.used)) (⟨c0,c1,c2⟩) ?_
        simp only [List.drop_succ_cons,List.drop_zero]
        iterate 24 (refine mh ?_;(try simp only [Act.put,List.setIfInBounds_toArray,List.set_cons_zero,List.set_cons_succ]))
        refine mm ?_
        go_wp2_with fail
        refine qQd ⟨by go_keep,by go_keep,by go_keep⟩ ?_
        refine mm ?_
        go_wp2_with (at_builtin;(refine qQb rfl _ _ 147 rfl 22 i0 _ 1 24 Tryz.underlying147 hi hz0 hz1 hz2 rfl _ _ _ rfl ((Hd.fol H1:Hd w0 _ _).v (.slice x m.fr.length cap)) ⟨_,0,none⟩ 1 1 [.slice (some ⟨g,0,none⟩) 0 0] rfl rfl (qWH (by simp)) (by simp [Value.oneCell']) (by unfold maxLen;omega) (by omega) ?_);intro v' w2 H4;obtain ⟨a',cap',rfl,_,_,_,_⟩:=H4.slc_form)
        have hk:=H4.k a
        have d0:=hk.rd 0
        have d1:=hk.rd 1
        have d2:=hk.rd 2
        have d3:=hk.rd 3
        have f1:=hk.fr 1
        have f2:=hk.fr 2
        have f3:=hk.fr 3
        clear hk
        refine qQd ⟨d0,d1,d2⟩ ?_
        refine qQe ?_
        clear c0 c1 c2
        have H5:Hd w0 _ (w2.setCell ⟨a,1,none⟩ (.slice a' (m.fr.length+1) cap')):=H4.fol
        go_wp2_with fail
        refine wp_region_still_tail 12 (by kernel_rfl) (by kernel_rfl) ?_
        simp only [List.take_succ_cons,List.take_zero,List.drop_succ_cons,List.drop_zero,World.drew_eq]
        (repeat still_step)
        refine wpStill_nil ?_
        go_wp2_with fail
        all_goals
          go_ret
          refine ⟨rfl,hfit (v':=.slice a' (m.fr.length+1) cap') ?_⟩
          first
            | (rw [show ((max m.high (m.used+0):Nat):Int)=(m.used:Int)+((0:Nat):Int) from by omega];rw [Int.natCast_zero,Int.add_zero];exact H4.fin)
            | (rw [show ((max m.high (m.used+0):Nat):Int)=(m.high:Int) from by omega];rw [Int.natCast_zero,Int.add_zero];exact H4.fin)
      · rw [if_neg hs0] at hA
        subst hA
        go_enter Tryz.func130,Tryz.ntmps130
        go_wp2_with fail
        refine hroom.mono ?_
        rintro e w' ⟨rfl,n,rfl⟩
        go_wp2_with fail
        refine wm 26 [(0,true),(1,true),(2,true),(3,true),(4,true),(5,true),(6,true),(7,true),(8,true),(9,true),(10,true),(11,true),(12,true),(13,true),(14,true),(15,true),(16,true),(17,true),(18,true),(19,true),(20,true),(21,true),(22,true),(23,true),(24,false),(25,false)] (fun w'=>w'.cell? ⟨a,0,none⟩=some (.slice (some ⟨g,0,none⟩) m.n m.n)∧w'.cell? ⟨a,1,none⟩=some (.slice x m.fr.length cap)∧w'.cell? ⟨a,2,none⟩=some (.int .i64 m.used)) (⟨c0,c1,c2⟩) ?_
        simp only [List.drop_succ_cons,List.drop_zero]
        iterate 24 (refine mh ?_;(try simp only [Act.put,List.setIfInBounds_toArray,List.set_cons_zero,List.set_cons_succ]))
        refine mm ?_
        go_wp2_with fail
        refine qQd ⟨by go_keep,by go_keep,by go_keep⟩ ?_
        refine mm ?_
        go_wp2_with (at_builtin;(refine qQb rfl _ _ 147 rfl 22 i0 _ 1 24 Tryz.underlying147 hi hz0 hz1 hz2 rfl _ _ _ rfl ((Hd.fol H1:Hd w0 _ _).v (.slice x m.fr.length cap)) ⟨_,0,none⟩ 1 1 [.slice (some ⟨g,m.used,none⟩) 0 s] rfl rfl (qWH (by simp)) (by simp [Value.oneCell']) (by unfold maxLen;omega) (by omega) ?_);intro v' w2 H4;obtain ⟨a',cap',rfl,_,_,_,_⟩:=H4.slc_form)
        have hk:=H4.k a
        have d0:=hk.rd 0
        have d1:=hk.rd 1
        have d2:=hk.rd 2
        have d3:=hk.rd 3
        have f1:=hk.fr 1
        have f2:=hk.fr 2
        have f3:=hk.fr 3
        clear hk
        refine qQd ⟨d0,d1,d2⟩ ?_
        refine qQe ?_
        clear c0 c1 c2
        have H5:Hd w0 _ (w2.setCell ⟨a,1,none⟩ (.slice a' (m.fr.length+1) cap')):=H4.fol
        go_wp2_with fail
        refine wp_region_still_tail 12 (by kernel_rfl) (by kernel_rfl) ?_
        simp only [List.take_succ_cons,List.take_zero,List.drop_succ_cons,List.drop_zero,World.drew_eq]
        (repeat still_step)
        refine wpStill_nil ?_
        go_wp2_with fail
        all_goals
          go_ret
          refine ⟨rfl,hfit (v':=.slice a' (m.fr.length+1) cap') ?_⟩
          first
            | (rw [show ((max m.high (m.used+s):Nat):Int)=(m.used:Int)+((s:Nat):Int) from by omega];exact H4.fin)
            | (rw [show ((max m.high (m.used+s):Nat):Int)=(m.high:Int) from by omega];exact H4.fin)
theorem zJC (H:Hd w0 (ArP a m::R) w) (hm:m.Ok) :
    Calls Tryz.prog 191 #[.pointer (some ⟨a,0,none⟩)] w fun e w'=>e=.returned (.int .i64 m.closeE)∧Hd w0 (ArP a m.close::R) w':=by
  rcases qQr m.fr with e | ⟨init,f,e⟩
  · have e1:m.closeE=6:=by unfold ArM.closeE;rw [if_pos e]
    have e2:m.close=m:=by unfold ArM.close;cases m;simp_all
    rw [e1,e2]
    obtain ⟨g,u,H1⟩:=ArP.opened H
    obtain ⟨x,cap,rfl,_,_,_,_⟩:=(H1.v u).slc_form
    rw [e] at H1
    have hl:=qWW H1
    clear H1 e1 e2 e
    go_enter Tryz.func191,Tryz.ntmps191
    go_wp2_with fail
    refine hl.mono ?_
    rintro e w' ⟨rfl,rfl⟩
    go_wp2_with fail
    go_ret
    exact ⟨rfl,H⟩
  · obtain ⟨h1,h2⟩:=ArM.snoc_last e
    have hfew:=hm.few
    rw [e] at hfew
    simp at hfew
    obtain ⟨g,h,cap,hcap,hfl,H1⟩:=ArP.snoc H hm e
    have hl:=zQJ H1 (by omega)
    have hb1:=hm.used
    have hb2:=hm.n
    have hu:m.used=qQu init+f.size:=by unfold ArM.used;rw [e,qQ2,qZz]
    have e1:m.closeE=0:=by unfold ArM.closeE;rw [if_neg (by rw [e];simp)]
    have e2:m.close=⟨m.n,init,m.high⟩:=by unfold ArM.close;rw [h2]
    rw [e1,e2]
    have HG:Hd w0 (SlcC 3 1 g m.n m.n (flat m.words)::_) w:=H1.k g
    obtain ⟨_,_,hmx,sp,hsp,HG2⟩:=HG.slcC
    have hli:=qJC (l:=init) (fun x hx=>hm.laid x (by rw [e];exact List.mem_append_left _ hx))
    have ew:flat m.words++sp=flat (qQ7 init)++(flat f.words++(flat (qQX (m.n-m.used))++sp)):=by
      unfold ArM.words
      rw [e,qZf,qZ3]
      simp [qQc]
    rw [ew] at HG2 hsp
    obtain ⟨oo,hoo⟩:∃oo,oo=if f.size=0 then 0 else qQu init:=⟨_,rfl⟩
    rw [← hoo] at H1 HG2
    have hpre:f.size=0∨(flat (qQ7 init)).length=oo:=by
      by_cases h0:f.size=0
      · exact .inl h0
      · right;rw [hoo,if_neg h0,qQf,hli];simp [Enc.size]
    have hold:(flat f.words).length=f.size:=by rw [qQf,FrM.words_len hfl];simp [Enc.size]
    have hfin:∀ {w':World} {L:List Pr},Hd w0 (cel a 149 #[.slice (some ⟨g,0,none⟩) m.n m.n,.slice (some ⟨h,0,none⟩) init.length cap,.int .i64 ((m.used:Int)-f.size),.int .i64 m.high]::cel g 3 (flat (qQ7 init)++(List.replicate f.size (Value.int .i64 0)++(flat (qQX (m.n-m.used))++sp))).toArray ::
        SlcC 22 1 h (init.length+1) cap (frs g 0 init++[.slice (some ⟨g,oo,none⟩) f.laid.length f.size])::L) w'→Hd w0 (ArP a ⟨m.n,init,m.high⟩::L) w':=by
      intro w' L H
      have ez:flat (qQ7 init)++(List.replicate f.size (Value.int .i64 0)++(flat (qQX (m.n-m.used))++sp))=flat (ArM.words ⟨m.n,init,m.high⟩)++sp:=by
        unfold ArM.words
        show _=flat (qQ7 init++qQX (m.n-qQu init))++sp
        have er:(List.replicate f.size (Value.int .i64 0))=flat (qQX f.size):=by rw [qXW];simp [qQX]
        rw [er,show m.n-qQu init=f.size+(m.n-m.used) from by omega,qVT]
        simp [qQc]
      rw [ez] at H
      have hwl:(ArM.words ⟨m.n,init,m.high⟩).length=m.n:=by
        unfold ArM.words
        show (qQ7 init++qQX (m.n-qQu init)).length=m.n
        rw [List.length_append,hli,qYl];omega
      have H2:Hd w0 (SlcC 3 1 g m.n m.n (flat (ArM.words ⟨m.n,init,m.high⟩))::_) w':=(H.k g).slcC_mk (by rw [qQf,hwl];rfl) (Nat.le_refl _) (by unfold maxLen;omega) (by rw [List.length_append,qQf,hwl];simp [Enc.size])
      have H3:=((H2.k h).slcC_cut (k:=init.length) (c:=cap) (by omega) (by omega) (Nat.le_refl _)).slc_mk
      rw [show (frs g 0 init++[Value.slice (some ⟨g,oo,none⟩) f.laid.length f.size]).take (init.length*1)=frs g 0 init from by rw [Nat.mul_one];exact List.take_left' (qQ5 g init 0)] at H3
      refine ArP.shut (m:=⟨m.n,init,m.high⟩) (g:=g) (v:=.slice (some ⟨h,0,none⟩) init.length cap) ?_
      show Hd w0 (cel a 149 #[.slice (some ⟨g,0,none⟩) m.n m.n,.slice (some ⟨h,0,none⟩) init.length cap,.int .i64 (qQu init:Nat),.int .i64 m.high]::SlcC 3 1 g m.n m.n (flat (ArM.words ⟨m.n,init,m.high⟩))::Slc 22 1 (.slice (some ⟨h,0,none⟩) init.length cap) init.length (frs g 0 init)::L) w'
      rw [show ((qQu init:Nat):Int)=(m.used:Int)-f.size from by omega]
      exact H3.re
    have hb3:(f.size:Int)≤m.used:=by omega
    have hw1:IntKind.i64.wrap ((m.used:Int)-f.size)=(m.used:Int)-f.size:=IntWalk.i64_in _ (by omega)
    have hw2:IntKind.i64.wrap (init.length:Int)=init.length:=IntWalk.i64_in _ (by omega)
    have hlt:(init.length:Int)<(init.length:Int)+1:=by omega
    have hlc:init.length≤cap:=by omega
    have ch:=(H1.k h).slcC_rd (j:=init.length) (u:=.slice (some ⟨g,oo,none⟩) f.laid.length f.size) (by rw [List.getElem?_append_right (by rw [qQ5];omega),qQ5];simp)
    clear e1 e2 e h1 h2 hu ew HG H hm hoo hsp hmx hli H1
    go_enter Tryz.func191,Tryz.ntmps191
    go_wp2_with fail
    refine hl.mono ?_
    rintro e w' ⟨rfl,n,rfl⟩
    go_wp2_with fail
    refine wp_region_still_tail 8 (by kernel_rfl) (by kernel_rfl) ?_
    simp only [List.take_succ_cons,List.take_zero,List.drop_succ_cons,List.drop_zero,World.drew_eq]
    (repeat still_step)
    refine wpStill_nil ?_
    refine qYi rfl _ 22 rfl 3 (.int .i64 0) Tryz.underlying22 Tryz.zeroValue3 rfl rfl g oo f.size f.size rfl ((Hd.fol HG2:Hd w0 _ _).k g) hpre hold ?_
    intro w2 H2
    have hk:=H2.k a
    have c1:=hk.rd 1
    have c2:=hk.rd 2
    have f1:=hk.fr 1
    have f2:=hk.fr 2
    have ch2:=(H2.k h).slcC_rd (j:=init.length) (u:=.slice (some ⟨g,oo,none⟩) f.laid.length f.size) (by rw [List.getElem?_append_right (by rw [qQ5];omega),qQ5];simp)
    have H3:Hd w0 _ (w2.setCell ⟨a,2,none⟩ (.int .i64 ((m.used:Int)-f.size))):=H2.fol
    have d1:=(H3.k a).rd 1
    clear hk
    go_wp2_with fail
    refine wp_region_still_tail 11 (by kernel_rfl) (by kernel_rfl) ?_
    simp only [List.take_succ_cons,List.take_zero,List.drop_succ_cons,List.drop_zero,World.drew_eq]
    (repeat still_step)
    refine wpStill_nil ?_
    go_wp2_with fail
    refine wp_region_still_tail 14 (by kernel_rfl) (by kernel_rfl) ?_
    simp only [List.take_succ_cons,List.take_zero,List.drop_succ_cons,List.drop_zero,World.drew_eq]
    (repeat still_step)
    refine wpStill_nil ?_
    go_wp2_with fail
    go_ret
    refine ⟨rfl,hfin ?_⟩
    exact H3.fin
end
end
section
open Go.RowKit Spl
section
variable {w0 w:World} {R:List Pr} {a:Nat} {m:ArM}
theorem qUs (H:Hd w0 (ArP a m::R) w) (hm:m.Ok) (i:Nat) (f:FrM) (hi:m.fr[i]? = some f) :
    Calls Tryz.prog 68 #[.pointer (some ⟨a,0,none⟩),.int .i64 i] w fun e w'=>∃g,e=.returned (.tuple #[.slice (some ⟨g,0,none⟩) f.laid.length f.laid.length,.bool true])∧Hd w0 (SlEC 3 g f.laid.length f.laid::ArP a m::R) w':=by
  obtain ⟨g,v,H1⟩:=ArP.opened H
  have hil:=qQa hi
  obtain ⟨h,cap,rfl,H2⟩:=(H1.v v).slc_at (by omega)
  have hfl:=hm.laid f (List.mem_of_getElem? hi)
  have hb1:=hm.used
  have hb2:=hm.n
  have hfew:=hm.few
  obtain ⟨oo,hoo⟩:∃oo,oo=if f.size=0 then 0 else 0+qQu (m.fr.take i):=⟨_,rfl⟩
  have hat:=zXy (g:=g) hi 0
  rw [← hoo] at hat
  have hat2:=Lib.hid hat
  have c1:=(H2.k a).rd 1
  have ch:=H2.slcC_rd hat
  have hlaid:∀(w1:World) (L:List Pr),Hd w0 (SlcC 3 1 g m.n m.n (flat m.words)::L) w1→∀(j:Nat) (u:Value),(flat f.laid)[j]? = some u→w1.cell? ((⟨g,oo,none⟩:Addr).add j)=some u:=by
    intro w1 L h j u hj
    have hj1:=qQa hj
    rw [qQf] at hj1
    have hj2:j<f.laid.length:=by simpa [Enc.size] using hj1
    have h0:¬f.size=0:=by omega
    rw [if_neg h0,Nat.zero_add] at hoo
    subst hoo
    have es:m.fr=m.fr.take i++(f::m.fr.drop (i+1)):=by
      obtain ⟨hi1,hi2⟩:=List.getElem?_eq_some_iff.1 hi
      rw [← hi2,← List.drop_eq_getElem_cons hi1,List.take_append_drop]
    have hwl:(qQ7 (m.fr.take i)).length=qQu (m.fr.take i):=qJC (fun x hx=>hm.laid x (List.mem_of_mem_take hx))
    rw [Addr.add_lit]
    refine h.slcC_rd ?_
    have ew:m.words=qQ7 (m.fr.take i)++(f.laid++(qQX (f.size-f.laid.length)++(qQ7 (m.fr.drop (i+1))++qQX (m.n-m.used)))):=by
      unfold ArM.words
      conv=>lhs;rw [es]
      rw [qZf]
      have:qQ7 (f::m.fr.drop (i+1))=f.words++qQ7 (m.fr.drop (i+1)):=rfl
      rw [this]
      unfold FrM.words
      simp
    rw [ew,qQc,List.getElem?_append_right (by rw [qQf,hwl];simp [Enc.size]),qQf,hwl]
    have e0:qQu (m.fr.take i)+j-qQu (m.fr.take i)*Enc.size Int=j:=by simp [Enc.size]
    rw [e0,qQc,List.getElem?_append_left (qQa hj)]
    exact hj
  have hxl:f.laid.length≤65536:=by
    have h1:=qW5 (List.mem_of_getElem? hi)
    unfold ArM.used at hb1
    omega
  have hshut:∀(w':World) (L:List Pr),Hd w0 (SlcC 22 1 h m.fr.length cap (frs g 0 m.fr)::cel a 149 #[.slice (some ⟨g,0,none⟩) m.n m.n,.slice (some ⟨h,0,none⟩) m.fr.length cap,.int .i64 m.used,.int .i64 m.high]::SlcC 3 1 g m.n m.n (flat m.words)::L) w'→Hd w0 (ArP a m::L) w':=by
    intro w' L H
    exact ArP.shut (g:=g) (v:=.slice (some ⟨h,0,none⟩) m.fr.length cap) (H.slc_mk).re
  have n0:¬((i:Int)<0):=by omega
  have n1:(i:Int)<m.fr.length:=by omega
  have n2:¬m.fr.length≤i:=by omega
  obtain ⟨i0,hinf,hz0,hz1,hz2⟩:=info_parts qWU
  have hfl2:=Lib.hid (qQf f.laid)
  have hL:=Lib.hid hlaid
  have hSh:=Lib.hid hshut
  clear hoo hat H H1 hi hm hb1 hlaid hshut
  go_enter Tryz.func68,Tryz.ntmps68
  go_wp2_with fail
  refine wm 16 [(0,true),(1,true),(2,true),(3,true),(4,true),(5,true),(6,true),(7,true),(9,true),(10,true),(11,true),(12,true),(13,true),(14,true),(15,true),(8,false)] (fun w'=>w'.cell? ⟨a,1,none⟩=some (.slice (some ⟨h,0,none⟩) m.fr.length cap)∧w'.cell? ⟨h,i,none⟩=some (.slice (some ⟨g,oo,none⟩) f.laid.length f.size)) (⟨c1,ch⟩) ?_
  simp only [List.drop_succ_cons,List.drop_zero]
  iterate 15 (refine mh ?_;(try simp only [Act.put,List.setIfInBounds_toArray,List.set_cons_zero,List.set_cons_succ]))
  refine mm ?_
  go_wp2_with (at_make;(refine qQn rfl _ _ 22 rfl 3 i0 _ 1 Tryz.underlying22 hinf hz0 hz1 rfl _ _ _ _ 0 f.laid.length rfl rfl rfl rfl (by omega) (by rw [hz2];omega) (by unfold maxLen;omega) (Hd.fol H2) ?_);intro w1 H3;rw [qQw] at H3)
  have d1:=(H3.k a).rd 1
  have dh:=(H3.k h).slcC_rd hat2.out
  refine qQd ⟨d1,dh⟩ ?_
  refine qQe ?_
  have hn1:=Lib.hid (hL.out _ _ (H3.k g))
  go_wp2_with (at_builtin;(refine qQl rfl _ _ 22 rfl 3 i0 1 Tryz.underlying22 hinf hz1 _ 0 f.laid.length [] rfl H3 _ f.laid.length _ (flat f.laid) rfl hfl2.out (by simp) (fun ad had=>by obtain rfl:=Option.some.inj had;exact hn1.out) (qQx f.laid) (by omega) ?_);intro w2 H4;rw [Nat.zero_add,List.nil_append] at H4)
  go_ret2
  refine ⟨_,rfl,?_⟩
  have H5:Hd w0 (SlcC 22 1 h m.fr.length cap (frs g 0 m.fr)::cel a 149 #[.slice (some ⟨g,0,none⟩) m.n m.n,.slice (some ⟨h,0,none⟩) m.fr.length cap,.int .i64 m.used,.int .i64 m.high]::SlcC 3 1 g m.n m.n (flat m.words)::SlEC 3 w.heap.size f.laid.length f.laid::R) w2:=H4.re
  exact (hSh.out _ _ H5).b2
end
end
end Go.Proofs.YtkchopnkdjnocaaGreatDoor
