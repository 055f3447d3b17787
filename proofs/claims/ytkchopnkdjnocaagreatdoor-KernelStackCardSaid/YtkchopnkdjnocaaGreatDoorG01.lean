/-
  Merged texts of one proof: Sep, Slc, Auto, Enc, Encs.
-/
import Derived.WalkKit
import Derived.WalkLawsBesides
import Derived.WalkSpells

set_option maxHeartbeats 16000000
set_option maxRecDepth 20000
namespace Go.Proofs.YtkchopnkdjnocaaGreatDoor
section
open Go.RowKit
abbrev Hp:=Nat→Option Obj
abbrev Pr:=Hp→Prop
namespace Spl
def disj (g h:Hp):Prop:=∀i,g i=none∨h i=none
def join (g h:Hp):Hp:=fun i=>match g i with | some o=>some o | none=>h i
theorem qZb {g h:Hp} (d:disj g h):disj h g:=fun i=>(d i).symm
theorem qJH {g h:Hp} (d:disj g h):join g h=join h g:=by
  funext i
  unfold join
  rcases d i with e | e
  · rw [e];cases h i <;> rfl
  · rw [e];cases g i <;> rfl
theorem qZP (a b c:Hp):join (join a b) c=join a (join b c):=by
  funext i
  unfold join
  cases a i <;> rfl
theorem qZk {a b c:Hp}:disj a (join b c)↔disj a b∧disj a c:=by
  constructor
  · intro d
    refine ⟨fun i=>?_,fun i=>?_⟩
    · rcases d i with e | e
      · exact .inl e
      · refine .inr ?_
        unfold join at e
        cases hb:b i with
        | none=>rfl
        | some o=>rw [hb] at e;cases e
    · rcases d i with e | e
      · exact .inl e
      · unfold join at e
        cases hb:b i with
        | none=>rw [hb] at e;exact .inr e
        | some o=>rw [hb] at e;cases e
  · rintro ⟨d,d'⟩ i
    rcases d i with e | e
    · exact .inl e
    · rcases d' i with e' | e'
      · exact .inl e'
      · refine .inr ?_
        unfold join
        rw [e];exact e'
theorem qXN {a b c:Hp}:disj (join a b) c↔disj a c∧disj b c:=by
  constructor
  · intro d
    have:=qZk.1 (qZb d)
    exact ⟨qZb this.1,qZb this.2⟩
  · rintro ⟨d,d'⟩
    exact qZb (qZk.2 ⟨qZb d,qZb d'⟩)
theorem qXe {a b:Hp} {i:Nat} {o:Obj} (h:a i=some o):join a b i=some o:=by unfold join;rw [h]
theorem qq0 {a b:Hp} {i:Nat} {o:Obj} (d:disj a b) (h:b i=some o):join a b i=some o:=by
  rcases d i with e | e
  · unfold join;rw [e];exact h
  · rw [e] at h;cases h
def sat:List Pr→Hp→Prop
  | [],_=>True
  | P::L,h=>∃a b,disj a b∧h=join a b∧P a∧sat L b
def sub (a h:Hp):Prop:=∃b,disj a b∧h=join a b
theorem qX3 {L:List Pr}:∀ {a h:Hp},sub a h→sat L a→sat L h:=by
  induction L with
  | nil=>intros;trivial
  | cons P L ih =>
    rintro a h ⟨c,d,rfl⟩ ⟨x,y,d1,rfl,hx,hy⟩
    obtain ⟨dx,dy⟩:=qXN.1 d
    refine ⟨x,join y c,qZk.2 ⟨d1,dx⟩,qZP _ _ _,hx,ih ⟨c,dy,rfl⟩ hy⟩
theorem qU0 {P:Pr} {L:List Pr} {h:Hp} (hs:sat (P::L) h):sat L h:=by
  obtain ⟨a,b,d,rfl,_,hb⟩:=hs
  exact qX3 ⟨a,qZb d,qJH d⟩ hb
theorem qKL {P Q:Pr} {L:List Pr} {h:Hp} (hs:sat (P::Q::L) h):sat (Q::P::L) h:=by
  obtain ⟨a,b,d,rfl,ha,c,e,d',rfl,hc,he⟩:=hs
  obtain ⟨dac,dae⟩:=qZk.1 d
  refine ⟨c,join a e,qZk.2 ⟨qZb dac,d'⟩,?_,hc,a,e,dae,rfl,ha,he⟩
  rw [← qZP,qJH dac,qZP]
theorem qZo {P Q:Pr} {L L':List Pr} {h:Hp} (hp:∀a,P a→Q a) (hl:∀a,sat L a→sat L' a) (hs:sat (P::L) h):sat (Q::L') h:=by
  obtain ⟨a,b,d,rfl,ha,hb⟩:=hs
  exact ⟨a,b,d,rfl,hp _ ha,hl _ hb⟩
theorem qZ6 {L M:List Pr}:∀ {h:Hp},sat (L++M) h↔∃a b,disj a b∧h=join a b∧sat L a∧sat M b:=by
  induction L with
  | nil =>
    intro h
    constructor
    · intro hs
      exact ⟨fun _=>none,h,fun _=>.inl rfl,by funext i;rfl,trivial,hs⟩
    · rintro ⟨a,b,d,rfl,_,hb⟩
      exact qX3 ⟨a,qZb d,qJH d⟩ hb
  | cons P L ih =>
    intro h
    constructor
    · rintro ⟨a,b,d,rfl,ha,hb⟩
      obtain ⟨c,e,d',rfl,hc,he⟩:=ih.1 hb
      obtain ⟨dac,dae⟩:=qZk.1 d
      exact ⟨join a c,e,qXN.2 ⟨dae,d'⟩,(qZP _ _ _).symm,⟨a,c,dac,rfl,ha,hc⟩,he⟩
    · rintro ⟨x,e,d,rfl,⟨a,c,dac,rfl,ha,hc⟩,he⟩
      obtain ⟨dae,dce⟩:=qXN.1 d
      exact ⟨a,join c e,qZk.2 ⟨dac,dae⟩,qZP _ _ _,ha,ih.2 ⟨c,e,dce,rfl,hc,he⟩⟩
theorem qWp {L M:List Pr} (p:L.Perm M):∀ {h:Hp},sat L h→sat M h:=by
  induction p with
  | nil=>exact fun h=>h
  | cons x _ ih=>exact fun h=>qZo (fun _ h=>h) (fun _ h=>ih h) h
  | swap x y l=>exact fun h=>qKL h
  | trans _ _ ih1 ih2=>exact fun h=>ih2 (ih1 h)
def pt (b:Nat) (o:Obj):Pr:=fun h=>h=fun i=>if i=b then some o else none
def all (L:List Pr):Pr:=sat L
def ex {α:Type} (P:α→Pr):Pr:=fun h=>∃x,P x h
def fact (p:Prop):Pr:=fun _=>p
def qQm (w:World):Pr:=fun h=>h=fun i=>w.heap[i]?
structure Kpt (w0 w:World):Prop where
  os:w.os=w0.os
  tape:w.tape=w0.tape
  output:w.output=w0.output
  size:w0.heap.size≤w.heap.size
theorem Kpt.refl (w:World):Kpt w w:=⟨rfl,rfl,rfl,Nat.le_refl _⟩
theorem Kpt.trans {a b c:World} (h:Kpt a b) (k:Kpt b c):Kpt a c:=⟨k.os.trans h.os,k.tape.trans h.tape,k.output.trans h.output,Nat.le_trans h.size k.size⟩
end Spl
open Spl
def Hd (w0:World) (L:List Pr) (w:World):Prop:=Kpt w0 w∧sat L (fun i=>w.heap[i]?)
section
variable {w0 w w':World} {P Q A B C D E F G:Pr} {R L M:List Pr}
theorem Hd.calm (H:Hd w0 L w):Kpt w0 w:=H.1
theorem Hd.start (w:World):Hd w [qQm w] w :=
  ⟨Kpt.refl w,fun i=>w.heap[i]?,fun _=>none,fun _=>.inr rfl,by funext i;unfold join;cases h:w.heap[i]? <;> simp [h],rfl,trivial⟩
theorem Hd.nil (w:World):Hd w [] w:=⟨Kpt.refl w,trivial⟩
theorem Hd.perm (H:Hd w0 L w) (p:L.Perm M):Hd w0 M w:=⟨H.1,qWp p H.2⟩
theorem Hd.tail (H:Hd w0 (A::R) w):Hd w0 R w:=⟨H.1,qU0 H.2⟩
theorem Hd.mono (H:Hd w0 (A::R) w) (h:∀a,A a→B a):Hd w0 (B::R) w:=⟨H.1,qZo h (fun _ h=>h) H.2⟩
theorem Hd.under (H:Hd w0 (A::L) w) (h:∀a,sat L a→sat M a):Hd w0 (A::M) w:=⟨H.1,qZo (fun _ h=>h) h H.2⟩
theorem Hd.b2 (H:Hd w0 (A::B::R) w):Hd w0 (B::A::R) w:=⟨H.1,qKL H.2⟩
theorem Hd.b3 (H:Hd w0 (A::B::C::R) w):Hd w0 (C::A::B::R) w:=⟨H.1,qKL (qZo (fun _ h=>h) (fun _ h=>qKL h) H.2)⟩
variable {X1 X2 X3 X4 X5 X6 X7 X8 X9 X10 X11 X12 X13 X14 X15 X16:Pr}
theorem Hd.b4 (H:Hd w0 (X1::X2::X3::X4::R) w):Hd w0 (X4::X1::X2::X3::R) w:=H.perm (List.perm_middle (a:=X4) (l₁:=[X1,X2,X3]) (l₂:=R))
theorem Hd.b5 (H:Hd w0 (X1::X2::X3::X4::X5::R) w):Hd w0 (X5::X1::X2::X3::X4::R) w:=H.perm (List.perm_middle (a:=X5) (l₁:=[X1,X2,X3,X4]) (l₂:=R))
theorem Hd.b6 (H:Hd w0 (X1::X2::X3::X4::X5::X6::R) w):Hd w0 (X6::X1::X2::X3::X4::X5::R) w:=H.perm (List.perm_middle (a:=X6) (l₁:=[X1,X2,X3,X4,X5]) (l₂:=R))
theorem Hd.b7 (H:Hd w0 (X1::X2::X3::X4::X5::X6::X7::R) w):Hd w0 (X7::X1::X2::X3::X4::X5::X6::R) w:=H.perm (List.perm_middle (a:=X7) (l₁:=[X1,X2,X3,X4,X5,X6]) (l₂:=R))
theorem Hd.b8 (H:Hd w0 (X1::X2::X3::X4::X5::X6::X7::X8::R) w):Hd w0 (X8::X1::X2::X3::X4::X5::X6::X7::R) w:=H.perm (List.perm_middle (a:=X8) (l₁:=[X1,X2,X3,X4,X5,X6,X7]) (l₂:=R))
theorem Hd.b9 (H:Hd w0 (X1::X2::X3::X4::X5::X6::X7::X8::X9::R) w):Hd w0 (X9::X1::X2::X3::X4::X5::X6::X7::X8::R) w:=H.perm (List.perm_middle (a:=X9) (l₁:=[X1,X2,X3,X4,X5,X6,X7,X8]) (l₂:=R))
theorem Hd.b10 (H:Hd w0 (X1::X2::X3::X4::X5::X6::X7::X8::X9::X10::R) w):Hd w0 (X10::X1::X2::X3::X4::X5::X6::X7::X8::X9::R) w:=H.perm (List.perm_middle (a:=X10) (l₁:=[X1,X2,X3,X4,X5,X6,X7,X8,X9]) (l₂:=R))
theorem Hd.b11 (H:Hd w0 (X1::X2::X3::X4::X5::X6::X7::X8::X9::X10::X11::R) w):Hd w0 (X11::X1::X2::X3::X4::X5::X6::X7::X8::X9::X10::R) w:=H.perm (List.perm_middle (a:=X11) (l₁:=[X1,X2,X3,X4,X5,X6,X7,X8,X9,X10]) (l₂:=R))
theorem Hd.b12 (H:Hd w0 (X1::X2::X3::X4::X5::X6::X7::X8::X9::X10::X11::X12::R) w):Hd w0 (X12::X1::X2::X3::X4::X5::X6::X7::X8::X9::X10::X11::R) w:=H.perm (List.perm_middle (a:=X12) (l₁:=[X1,X2,X3,X4,X5,X6,X7,X8,X9,X10,X11]) (l₂:=R))
theorem Hd.b13 (H:Hd w0 (X1::X2::X3::X4::X5::X6::X7::X8::X9::X10::X11::X12::X13::R) w):Hd w0 (X13::X1::X2::X3::X4::X5::X6::X7::X8::X9::X10::X11::X12::R) w:=H.perm (List.perm_middle (a:=X13) (l₁:=[X1,X2,X3,X4,X5,X6,X7,X8,X9,X10,X11,X12]) (l₂:=R))
theorem Hd.b14 (H:Hd w0 (X1::X2::X3::X4::X5::X6::X7::X8::X9::X10::X11::X12::X13::X14::R) w):Hd w0 (X14::X1::X2::X3::X4::X5::X6::X7::X8::X9::X10::X11::X12::X13::R) w:=H.perm (List.perm_middle (a:=X14) (l₁:=[X1,X2,X3,X4,X5,X6,X7,X8,X9,X10,X11,X12,X13]) (l₂:=R))
theorem Hd.b15 (H:Hd w0 (X1::X2::X3::X4::X5::X6::X7::X8::X9::X10::X11::X12::X13::X14::X15::R) w):Hd w0 (X15::X1::X2::X3::X4::X5::X6::X7::X8::X9::X10::X11::X12::X13::X14::R) w:=H.perm (List.perm_middle (a:=X15) (l₁:=[X1,X2,X3,X4,X5,X6,X7,X8,X9,X10,X11,X12,X13,X14]) (l₂:=R))
theorem Hd.b16 (H:Hd w0 (X1::X2::X3::X4::X5::X6::X7::X8::X9::X10::X11::X12::X13::X14::X15::X16::R) w):Hd w0 (X16::X1::X2::X3::X4::X5::X6::X7::X8::X9::X10::X11::X12::X13::X14::X15::R) w:=H.perm (List.perm_middle (a:=X16) (l₁:=[X1,X2,X3,X4,X5,X6,X7,X8,X9,X10,X11,X12,X13,X14,X15]) (l₂:=R))
theorem Hd.d2 (H:Hd w0 (X1::X2::R) w):Hd w0 (X2::X1::R) w:=H.perm (List.perm_middle (a:=X1) (l₁:=[X2]) (l₂:=R)).symm
theorem Hd.d3 (H:Hd w0 (X1::X2::X3::R) w):Hd w0 (X2::X3::X1::R) w:=H.perm (List.perm_middle (a:=X1) (l₁:=[X2,X3]) (l₂:=R)).symm
theorem Hd.d4 (H:Hd w0 (X1::X2::X3::X4::R) w):Hd w0 (X2::X3::X4::X1::R) w:=H.perm (List.perm_middle (a:=X1) (l₁:=[X2,X3,X4]) (l₂:=R)).symm
theorem Hd.d5 (H:Hd w0 (X1::X2::X3::X4::X5::R) w):Hd w0 (X2::X3::X4::X5::X1::R) w:=H.perm (List.perm_middle (a:=X1) (l₁:=[X2,X3,X4,X5]) (l₂:=R)).symm
theorem Hd.d6 (H:Hd w0 (X1::X2::X3::X4::X5::X6::R) w):Hd w0 (X2::X3::X4::X5::X6::X1::R) w:=H.perm (List.perm_middle (a:=X1) (l₁:=[X2,X3,X4,X5,X6]) (l₂:=R)).symm
theorem Hd.d7 (H:Hd w0 (X1::X2::X3::X4::X5::X6::X7::R) w):Hd w0 (X2::X3::X4::X5::X6::X7::X1::R) w:=H.perm (List.perm_middle (a:=X1) (l₁:=[X2,X3,X4,X5,X6,X7]) (l₂:=R)).symm
theorem Hd.d8 (H:Hd w0 (X1::X2::X3::X4::X5::X6::X7::X8::R) w):Hd w0 (X2::X3::X4::X5::X6::X7::X8::X1::R) w:=H.perm (List.perm_middle (a:=X1) (l₁:=[X2,X3,X4,X5,X6,X7,X8]) (l₂:=R)).symm
theorem Hd.d9 (H:Hd w0 (X1::X2::X3::X4::X5::X6::X7::X8::X9::R) w):Hd w0 (X2::X3::X4::X5::X6::X7::X8::X9::X1::R) w:=H.perm (List.perm_middle (a:=X1) (l₁:=[X2,X3,X4,X5,X6,X7,X8,X9]) (l₂:=R)).symm
theorem Hd.d10 (H:Hd w0 (X1::X2::X3::X4::X5::X6::X7::X8::X9::X10::R) w):Hd w0 (X2::X3::X4::X5::X6::X7::X8::X9::X10::X1::R) w:=H.perm (List.perm_middle (a:=X1) (l₁:=[X2,X3,X4,X5,X6,X7,X8,X9,X10]) (l₂:=R)).symm
theorem Hd.d11 (H:Hd w0 (X1::X2::X3::X4::X5::X6::X7::X8::X9::X10::X11::R) w):Hd w0 (X2::X3::X4::X5::X6::X7::X8::X9::X10::X11::X1::R) w:=H.perm (List.perm_middle (a:=X1) (l₁:=[X2,X3,X4,X5,X6,X7,X8,X9,X10,X11]) (l₂:=R)).symm
theorem Hd.d12 (H:Hd w0 (X1::X2::X3::X4::X5::X6::X7::X8::X9::X10::X11::X12::R) w):Hd w0 (X2::X3::X4::X5::X6::X7::X8::X9::X10::X11::X12::X1::R) w:=H.perm (List.perm_middle (a:=X1) (l₁:=[X2,X3,X4,X5,X6,X7,X8,X9,X10,X11,X12]) (l₂:=R)).symm
theorem Hd.d13 (H:Hd w0 (X1::X2::X3::X4::X5::X6::X7::X8::X9::X10::X11::X12::X13::R) w):Hd w0 (X2::X3::X4::X5::X6::X7::X8::X9::X10::X11::X12::X13::X1::R) w:=H.perm (List.perm_middle (a:=X1) (l₁:=[X2,X3,X4,X5,X6,X7,X8,X9,X10,X11,X12,X13]) (l₂:=R)).symm
theorem Hd.d14 (H:Hd w0 (X1::X2::X3::X4::X5::X6::X7::X8::X9::X10::X11::X12::X13::X14::R) w):Hd w0 (X2::X3::X4::X5::X6::X7::X8::X9::X10::X11::X12::X13::X14::X1::R) w:=H.perm (List.perm_middle (a:=X1) (l₁:=[X2,X3,X4,X5,X6,X7,X8,X9,X10,X11,X12,X13,X14]) (l₂:=R)).symm
theorem Hd.d15 (H:Hd w0 (X1::X2::X3::X4::X5::X6::X7::X8::X9::X10::X11::X12::X13::X14::X15::R) w):Hd w0 (X2::X3::X4::X5::X6::X7::X8::X9::X10::X11::X12::X13::X14::X15::X1::R) w:=H.perm (List.perm_middle (a:=X1) (l₁:=[X2,X3,X4,X5,X6,X7,X8,X9,X10,X11,X12,X13,X14,X15]) (l₂:=R)).symm
theorem Hd.d16 (H:Hd w0 (X1::X2::X3::X4::X5::X6::X7::X8::X9::X10::X11::X12::X13::X14::X15::X16::R) w):Hd w0 (X2::X3::X4::X5::X6::X7::X8::X9::X10::X11::X12::X13::X14::X15::X16::X1::R) w:=H.perm (List.perm_middle (a:=X1) (l₁:=[X2,X3,X4,X5,X6,X7,X8,X9,X10,X11,X12,X13,X14,X15,X16]) (l₂:=R)).symm
theorem Hd.heap {b:Nat} {o:Obj} (H:Hd w0 (pt b o::R) w):w.heap[b]? = some o:=by
  obtain ⟨_,a,c,d,e,ha,_⟩:=H
  have hb:a b=some o:=by rw [ha];simp
  have:=congrFun e b
  rw [qXe hb] at this
  exact this
theorem Hd.lt {b:Nat} {o:Obj} (H:Hd w0 (pt b o::R) w):b<w.heap.size:=by
  have:=H.heap
  exact (Array.getElem?_eq_some_iff.1 this).1
theorem Hd.ne {b c:Nat} {o u:Obj} (H:Hd w0 (pt b o::pt c u::R) w):b≠c:=by
  rintro rfl
  obtain ⟨_,x,y,d,_,hx,x',y',d',e',hx',_⟩:=H
  have h1:x b=some o:=by rw [hx];simp
  have h2:x' b=some u:=by rw [hx'];simp
  have h3:y b=some u:=by rw [e'];exact qXe h2
  rcases d b with h | h
  · rw [h1] at h;cases h
  · rw [h3] at h;cases h
theorem Hd.upd {b:Nat} {o o':Obj} (H:Hd w0 (pt b o::R) w) (hb:∀i:Nat,w'.heap[i]? = if i=b then some o' else w.heap[i]?) (hc:Kpt w w'):Hd w0 (pt b o'::R) w':=by
  obtain ⟨hcalm,a,c,d,e,ha,hr⟩:=H
  refine ⟨hcalm.trans hc,fun i=>if i=b then some o' else none,c,fun i=>?_,?_,rfl,hr⟩
  · by_cases hi:i=b
    · rcases d i with h | h
      · rw [ha] at h;simp [hi] at h
      · exact .inr h
    · exact .inl (by simp [hi])
  · funext i
    rw [hb]
    have ei:=congrFun e i
    unfold join at ei ⊢
    by_cases hi:i=b
    · simp [hi]
    · rw [ha] at ei
      simp only [hi,if_false] at ei ⊢
      exact ei
theorem Hd.same (H:Hd w0 L w) (hb:∀i:Nat,w'.heap[i]? = w.heap[i]?) (hc:Kpt w w'):Hd w0 L w':=by
  refine ⟨H.1.trans hc,?_⟩
  have:(fun i=>w'.heap[i]?)=fun i=>w.heap[i]?:=funext hb
  rw [this]
  exact H.2
theorem Hd.drew (H:Hd w0 L w):Hd w0 L w.drew:=⟨⟨H.1.os,H.1.tape,H.1.output,H.1.size⟩,H.2⟩
theorem Hd.drewN (H:Hd w0 L w) (n:Nat):Hd w0 L (w.drewN n):=⟨⟨H.1.os,H.1.tape,H.1.output,H.1.size⟩,H.2⟩
theorem Hd.new {o:Obj} (H:Hd w0 L w) (hb:∀i:Nat,w'.heap[i]? = if i=w.heap.size then some o else w.heap[i]?) (hc:Kpt w w'):Hd w0 (pt w.heap.size o::L) w':=by
  refine ⟨H.1.trans hc,fun i=>if i=w.heap.size then some o else none,fun i=>w.heap[i]?,fun i=>?_,?_,rfl,H.2⟩
  · by_cases hi:i=w.heap.size
    · exact .inr (by simp [hi])
    · exact .inl (by simp [hi])
  · funext i
    rw [hb]
    unfold join
    by_cases hi:i=w.heap.size
    · simp [hi]
    · simp [hi]
theorem Hd.alloc (H:Hd w0 L w) (o:Obj):Hd w0 (pt w.heap.size o::L) (w.alloc o) :=
  H.new (fun i=>by
    show (w.heap.push o)[i]? = _
    rw [Array.getElem?_push]) ⟨rfl,rfl,rfl,by simp⟩
theorem Hd.flat (H:Hd w0 (all L::R) w):Hd w0 (L++R) w:=by
  obtain ⟨hc,a,b,d,e,ha,hb⟩:=H
  exact ⟨hc,qZ6.2 ⟨a,b,d,e,ha,hb⟩⟩
theorem Hd.pack (H:Hd w0 (L++R) w):Hd w0 (all L::R) w:=by
  obtain ⟨hc,hs⟩:=H
  obtain ⟨a,b,d,e,ha,hb⟩:=qZ6.1 hs
  exact ⟨hc,a,b,d,e,ha,hb⟩
theorem Hd.out {α:Type} {S:α→Pr} (H:Hd w0 (ex S::R) w):∃x,Hd w0 (S x::R) w:=by
  obtain ⟨hc,a,b,d,e,⟨x,hx⟩,hb⟩:=H
  exact ⟨x,hc,a,b,d,e,hx,hb⟩
theorem Hd.into {α:Type} {S:α→Pr} (x:α) (H:Hd w0 (S x::R) w):Hd w0 (ex S::R) w:=H.mono fun _ h=>⟨x,h⟩
theorem Hd.get {p:Prop} (H:Hd w0 (fact p::R) w):p:=H.2.choose_spec.choose_spec.2.2.1
theorem Hd.put {p:Prop} (h:p) (H:Hd w0 R w):Hd w0 (fact p::R) w :=
  ⟨H.1,fun _=>none,fun i=>w.heap[i]?,fun _=>.inl rfl,by funext i;rfl,h,H.2⟩
theorem Hd.old {u:World} (H:Hd w0 (qQm u::R) w):∀(i:Nat) (o:Obj),u.heap[i]? = some o→w.heap[i]? = some o:=by
  obtain ⟨_,a,c,d,e,ha,_⟩:=H
  intro i o h
  have hb:a i=some o:=by rw [ha];exact h
  have:=congrFun e i
  rw [qXe hb] at this
  exact this
theorem Hd.below {u:World} (H:Hd u (qQm u::R) w):Below u.heap.size u w :=
  ⟨H.1.os,H.1.tape,H.1.output,H.1.size,fun k hk=>by
    have h:=Array.getElem?_eq_getElem hk
    rw [h]
    exact H.old k _ h⟩
theorem Hd.all_perm (H:Hd w0 (all L::R) w) (p:L.Perm M):Hd w0 (all M::R) w:=H.mono fun _ h=>qWp p h
theorem qYX {α:Type} {L:List α} {i:Nat} {P:α} (h:L[i]? = some P):L.Perm (P::L.eraseIdx i):=by
  obtain ⟨hi,rfl⟩:=List.getElem?_eq_some_iff.1 h
  have e:L=L.take i++L[i]::L.drop (i+1):=by rw [← List.drop_eq_getElem_cons hi,List.take_append_drop]
  rw [List.eraseIdx_eq_take_drop_succ]
  exact (List.Perm.of_eq e).trans List.perm_middle
theorem Hd.all_nth {i:Nat} (H:Hd w0 (all L::R) w) (h:L[i]? = some P):Hd w0 (P::all (L.eraseIdx i)::R) w :=
  ((H.all_perm (qYX h)).flat:Hd w0 (P::(L.eraseIdx i++R)) w).under fun a h=>by
    obtain ⟨b,c,d,e,hb,hc⟩:=qZ6.1 h
    exact ⟨b,c,d,e,hb,hc⟩
theorem Hd.all_back {i:Nat} (H:Hd w0 (P::all (L.eraseIdx i)::R) w) (h:L[i]? = some P):Hd w0 (all L::R) w:=by
  have h2:Hd w0 (P::(L.eraseIdx i++R)) w:=H.under fun a h=>by
    obtain ⟨b,c,d,e,hb,hc⟩:=h
    exact qZ6.2 ⟨b,c,d,e,hb,hc⟩
  exact (Hd.pack (L:=P::L.eraseIdx i) h2).all_perm (qYX h).symm
theorem Hd.all_snoc (H:Hd w0 (P::all L::R) w):Hd w0 (all (L++[P])::R) w:=by
  have h2:Hd w0 (P::(L++R)) w:=H.under fun a h=>by
    obtain ⟨b,c,d,e,hb,hc⟩:=h
    exact qZ6.2 ⟨b,c,d,e,hb,hc⟩
  exact (Hd.pack (L:=P::L) h2).all_perm (List.perm_append_comm (l₁:=[P]) (l₂:=L))
theorem Hd.all_nil (H:Hd w0 R w):Hd w0 (all []::R) w:=Hd.pack (L:=[]) H
theorem zXD {α:Type} (l:List α) (i:Nat) (x:α):(l.set i x).eraseIdx i=l.eraseIdx i:=by
  induction l generalizing i with
  | nil=>rfl
  | cons y l ih=>cases i with
    | zero=>rfl
    | succ i=>simp [ih]
theorem qWQ {α β γ:Type} (f:α→β→γ) (as:List α) (bs:List β) (i:Nat) (b:β):(List.zipWith f as (bs.set i b)).eraseIdx i=(List.zipWith f as bs).eraseIdx i:=by
  induction as generalizing bs i with
  | nil=>simp
  | cons a as ih=>cases bs with
    | nil=>simp
    | cons c bs=>cases i with
      | zero=>simp
      | succ i=>simp [ih]
theorem Hd.row_nth {α β:Type} {f:α→β→Pr} {as:List α} {bs:List β} {i:Nat} {a:α} {b:β} (H:Hd w0 (all (List.zipWith f as bs)::R) w) (ha:as[i]? = some a) (hb:bs[i]? = some b) :
    Hd w0 (f a b::all ((List.zipWith f as bs).eraseIdx i)::R) w:=H.all_nth (by simp [List.getElem?_zipWith,ha,hb])
theorem Hd.row_back {α β:Type} {f:α→β→Pr} {as:List α} {bs:List β} {i:Nat} {a:α} {b b':β} (H:Hd w0 (f a b'::all ((List.zipWith f as bs).eraseIdx i)::R) w) (ha:as[i]? = some a) (hb:bs[i]? = some b) :
    Hd w0 (all (List.zipWith f as (bs.set i b'))::R) w:=by
  rw [← qWQ f as bs i b'] at H
  have hi:i<bs.length:=(List.getElem?_eq_some_iff.1 hb).1
  exact H.all_back (by simp [List.getElem?_zipWith,ha,hi])
theorem Hd.row_same {α β:Type} {f:α→β→Pr} {as:List α} {bs:List β} {i:Nat} {a:α} {b:β} (H:Hd w0 (f a b::all ((List.zipWith f as bs).eraseIdx i)::R) w) (ha:as[i]? = some a) (hb:bs[i]? = some b) :
    Hd w0 (all (List.zipWith f as bs)::R) w:=H.all_back (by simp [List.getElem?_zipWith,ha,hb])
theorem Hd.row_snoc {α β:Type} {f:α→β→Pr} {as:List α} {bs:List β} {a:α} {b:β} (H:Hd w0 (f a b::all (List.zipWith f as bs)::R) w) (hl:as.length=bs.length) :
    Hd w0 (all (List.zipWith f (as++[a]) (bs++[b]))::R) w:=by
  rw [List.zipWith_append hl]
  exact H.all_snoc
abbrev cel (b:Nat) (T:TypeId) (c:Array Value):Pr:=pt b (.cells c T (0,0))
variable {b:Nat} {T:TypeId} {c:Array Value}
theorem Hd.rd (H:Hd w0 (cel b T c::R) w) (i:Nat):w.cell? ⟨b,i,none⟩=c[i]?:=cell_of_row w b i c T (0,0) H.heap
theorem Hd.fr (H:Hd w0 (cel b T c::R) w) (i:Nat):w.frozen? ⟨b,i,none⟩=false:=by
  have:=H.heap
  simp [World.frozen?,this]
theorem Hd.set (H:Hd w0 (cel b T c::R) w) (i:Nat) (v:Value):Hd w0 (cel b T (c.setIfInBounds i v)::R) (w.setCell ⟨b,i,none⟩ v) :=
  H.upd (fun k=>by
    have h:=H.heap
    simp only [World.setCell,Array.getElem?_modify]
    by_cases hk:b=k
    · subst hk;simp [h]
    · have hk':¬k=b:=fun e=>hk e.symm
      simp [hk,hk']) ⟨rfl,rfl,rfl,by simp⟩
end
end
section
open Go.RowKit Spl
def SlcC (e:TypeId) (size g n cap:Nat) (xs:List Value):Pr:=fun h =>
  xs.length=n*size∧n≤cap∧cap≤maxLen∧∃sp:List Value,cap*size≤(xs++sp).length∧cel g e (xs++sp).toArray h
def Slc (e:TypeId) (size:Nat) (v:Value) (n:Nat) (xs:List Value):Pr:=fun h =>
  (v=.slice none 0 0∧n=0∧xs = [])∨∃g cap,v=.slice (some ⟨g,0,none⟩) n cap∧SlcC e size g n cap xs h
theorem qQa {α:Type} {l:List α} {j:Nat} {u:α} (h:l[j]? = some u):j<l.length:=(List.getElem?_eq_some_iff.1 h).1
section
variable {w0 w w':World} {R:List Pr} {e:TypeId} {size g n cap:Nat} {v:Value} {xs:List Value}
theorem Hd.slcC (H:Hd w0 (SlcC e size g n cap xs::R) w):xs.length=n*size∧n≤cap∧cap≤maxLen∧∃sp:List Value,cap*size≤(xs++sp).length∧Hd w0 (cel g e (xs++sp).toArray::R) w:=by
  obtain ⟨hc,a,b,d,he,⟨hl,h1,h2,sp,h3,h4⟩,hr⟩:=H
  exact ⟨hl,h1,h2,sp,h3,hc,a,b,d,he,h4,hr⟩
theorem Hd.slcC_mk {sp:List Value} (H:Hd w0 (cel g e (xs++sp).toArray::R) w) (hl:xs.length=n*size) (h1:n≤cap) (h2:cap≤maxLen) (h3:cap*size≤(xs++sp).length) :
    Hd w0 (SlcC e size g n cap xs::R) w:=H.mono fun _ h=>⟨hl,h1,h2,sp,h3,h⟩
theorem Hd.slcC_rd (H:Hd w0 (SlcC e size g n cap xs::R) w) {j:Nat} {u:Value} (hj:xs[j]? = some u):w.cell? ⟨g,j,none⟩=some u:=by
  obtain ⟨hl,h1,h2,sp,h3,hH⟩:=H.slcC
  rw [hH.rd]
  simp only [List.getElem?_toArray]
  rw [List.getElem?_append_left (qQa hj)]
  exact hj
theorem Hd.slcC_fr (H:Hd w0 (SlcC e size g n cap xs::R) w) (j:Nat):w.frozen? ⟨g,j,none⟩=false:=by
  obtain ⟨hl,h1,h2,sp,h3,hH⟩:=H.slcC
  exact hH.fr j
theorem Hd.slcC_lt (H:Hd w0 (SlcC e size g n cap xs::R) w):g<w.heap.size:=by
  obtain ⟨hl,h1,h2,sp,h3,hH⟩:=H.slcC
  exact hH.lt
theorem Hd.slcC_cut (H:Hd w0 (SlcC e size g n cap xs::R) w) {k c:Nat} (hk:k≤n) (hkc:k≤c) (hc:c≤cap):Hd w0 (SlcC e size g k c (xs.take (k*size))::R) w:=by
  obtain ⟨hl,h1,h2,sp,h3,hH⟩:=H.slcC
  have hks:k*size≤n*size:=Nat.mul_le_mul_right _ hk
  have hcs:c*size≤cap*size:=Nat.mul_le_mul_right _ hc
  have e1:xs++sp=xs.take (k*size)++(xs.drop (k*size)++sp):=by rw [← List.append_assoc,List.take_append_drop]
  rw [e1] at hH h3
  exact hH.slcC_mk (by rw [List.length_take];omega) hkc (by omega) (by omega)
theorem Hd.slcC_set (H:Hd w0 (SlcC e size g n cap xs::R) w) {j:Nat} (hj:j<xs.length) (u:Value):Hd w0 (SlcC e size g n cap (xs.set j u)::R) (w.setCell ⟨g,j,none⟩ u):=by
  obtain ⟨hl,h1,h2,sp,h3,hH⟩:=H.slcC
  have hs:=hH.set j u
  have e1:(xs++sp).toArray.setIfInBounds j u=(xs.set j u++sp).toArray:=by
    apply Array.ext'
    simp [hj]
  rw [e1] at hs
  exact hs.slcC_mk (by simpa using hl) h1 h2 (by simpa using h3)
theorem Hd.slc (H:Hd w0 (Slc e size v n xs::R) w) :
    (v=.slice none 0 0∧n=0∧xs = []∧Hd w0 R w)∨∃g cap,v=.slice (some ⟨g,0,none⟩) n cap∧Hd w0 (SlcC e size g n cap xs::R) w:=by
  obtain ⟨hc,a,b,d,he,hs,hr⟩:=H
  rcases hs with ⟨hv,hn,hx⟩ | ⟨g,cap,hv,h⟩
  · refine .inl ⟨hv,hn,hx,hc,?_⟩
    rw [he]
    exact qX3 ⟨a,qZb d,qJH d⟩ hr
  · exact .inr ⟨g,cap,hv,hc,a,b,d,he,h,hr⟩
theorem Hd.slc_len (H:Hd w0 (Slc e size v n xs::R) w):xs.length=n*size:=by
  rcases H.slc with ⟨_,rfl,rfl,_⟩ | ⟨g,cap,_,h⟩
  · simp
  · exact h.slcC.1
theorem Hd.slc_nil (H:Hd w0 R w) (e:TypeId) (size:Nat):Hd w0 (Slc e size (.slice none 0 0) 0 []::R) w :=
  ⟨H.1,fun _=>none,fun i=>w.heap[i]?,fun _=>.inl rfl,by funext i;rfl,.inl ⟨rfl,rfl,rfl⟩,H.2⟩
theorem Hd.slc_mk (H:Hd w0 (SlcC e size g n cap xs::R) w):Hd w0 (Slc e size (.slice (some ⟨g,0,none⟩) n cap) n xs::R) w :=
  H.mono fun _ h=>.inr ⟨g,cap,rfl,h⟩
theorem Hd.slc_form (H:Hd w0 (Slc e size v n xs::R) w):∃a cap,v=.slice a n cap∧n≤cap∧cap≤maxLen∧xs.length=n*size ∧
    (0<n→∃g,a=some ⟨g,0,none⟩∧∀(j:Nat) (u:Value),xs[j]? = some u→w.cell? ⟨g,j,none⟩=some u):=by
  rcases H.slc with ⟨rfl,rfl,rfl,_⟩ | ⟨g,cap,rfl,h⟩
  · exact ⟨none,0,rfl,Nat.le_refl _,Nat.zero_le _,by simp,fun h=>absurd h (Nat.lt_irrefl _)⟩
  · obtain ⟨hl,h1,h2,_⟩:=h.slcC
    exact ⟨_,cap,rfl,h1,h2,hl,fun _=>⟨g,rfl,fun j u hj=>h.slcC_rd hj⟩⟩
theorem Hd.slc_at (H:Hd w0 (Slc e size v n xs::R) w) (hn:0<n):∃g cap,v=.slice (some ⟨g,0,none⟩) n cap∧Hd w0 (SlcC e size g n cap xs::R) w:=by
  rcases H.slc with ⟨_,rfl,_,_⟩ | h
  · exact absurd hn (Nat.lt_irrefl _)
  · exact h
end
section
variable {P:Program} {w0 w:World} {R:List Pr}
theorem Hd.made (H:Hd w0 R w) (e:TypeId) (z:Array Value) (size l c:Nat) (hlc:l≤c) (hc:c≤maxLen) (_hz:z.size=size) :
    Hd w0 (SlcC e size w.heap.size l c (madeCells z (l*size)).toList::R) (w.alloc (.cells (madeCells z (c*size)) e)):=by
  have hA:=H.alloc (.cells (madeCells z (c*size)) e)
  have hle:l*size≤c*size:=Nat.mul_le_mul_right _ hlc
  have e1:madeCells z (c*size)=((madeCells z (l*size)).toList++(madeCells z (c*size)).toList.drop (l*size)).toArray:=by
    apply Array.ext'
    have e2:(madeCells z (l*size)).toList=(madeCells z (c*size)).toList.take (l*size):=by
      simp [madeCells,← List.map_take,List.take_range,Nat.min_eq_left hle]
    rw [e2]
    simp
  rw [e1] at hA ⊢
  exact hA.slcC_mk (size:=size) (by simp [size_madeCells]) hlc hc (by
    rw [List.length_append,List.length_drop,Array.length_toList,Array.length_toList,size_madeCells,size_madeCells]
    omega)
theorem qQw (z:Array Value) (size:Nat):(madeCells z (0*size)).toList = []:=by simp [madeCells]
theorem Hd.slc_news {e:TypeId} {size n cap:Nat} {a:Option Addr} {xs:List Value} (H:Hd w0 (Slc e size (.slice a n cap) n xs::R) w) :
    (a=none→n=0)∧∀ad,a=some ad→∀j u,xs[j]? = some u→w.cell? (ad.add j)=some u:=by
  rcases H.slc with ⟨h,rfl,rfl,_⟩ | ⟨g,c,h,h2⟩
  · exact ⟨fun _=>rfl,fun _ _ _ _ hj=>by simp at hj⟩
  · injection h with h3
    subst h3
    refine ⟨(fun h=>nomatch h),fun ad had j u hj=>?_⟩
    obtain rfl:=Option.some.inj had
    have hadd:(⟨g,0,none⟩:Addr).add j=⟨g,j,none⟩:=by unfold Addr.add;split <;> simp_all
    rw [hadd]
    exact h2.slcC_rd hj
theorem qQn {ops:Array Oper} {rest:List Oper} {o:Oper} {a:Act} {Q:Exit→Act→World→Prop}
    (hg:o.guard=none) (l c:Operand) (t:TypeId) (hop:o.op=Op.makeSlice t l c)
    (e:TypeId) (i:TypeInfo) (z:Value) (size:Nat) (h1:P.underlying t=some (.slice e)) (h2:P.info? e=some i) (h3:i.zero=some z) (h4:i.size=size) (h5:z.cells.size=size)
    (kl kc:IntKind) (L C:Int) (m n:Nat) (hl:a.eval l=.int kl L) (hc:a.eval c=.int kc C) (hL:L=(m:Int)) (hC:C=(n:Int)) (hmn:m≤n) (b2:i.bytes*n≤281474976710656) (b3:n≤maxLen)
    (H:Hd w0 R w)
    (hK:∀w',Hd w0 (SlcC e size w.heap.size m n (madeCells z.cells (m*size)).toList::R) w'→wpList P ops Q rest (a.put o.dst (.slice (some ⟨w.heap.size,0,none⟩) m n)) w') :
    wpList P ops Q (o::rest) a w:=by
  refine wpList_plain hg fun K hK'=>?_
  subst hL hC h4
  have h63':(n:Int)≤9223372036854775807:=by
    have h:=b3
    simp [maxLen] at h
    omega
  have hb':(i.bytes:Int)*(n:Int)≤281474976710656:=by
    have h:((i.bytes*n:Nat):Int)≤281474976710656:=by omega
    rwa [Int.natCast_mul] at h
  have hrun:=run_make (P:=P) w t e i z h1 h2 h3 kl kc m n (by omega) (by omega) hb' h63'
  simp only [Int.toNat_natCast] at hrun
  unfold Oper.wp
  simp [execOp,hop,hl,hc,hrun,Result.andThen]
  exact hK' _ _ (hK _ (H.made e z.cells i.size m n hmn b3 h5))
theorem qWH {w:World} {x:Value} {e:TypeId} {n:Nat} (hn:n=w.heap.size):∀j u,[x][j]? = some u→(w.alloc (.cells #[x] e)).cell? ((⟨n,0,none⟩:Addr).add j)=some u:=by
  subst hn
  exact cell_one_new _ _ _
theorem qZt (t ty e:TypeId) (i:TypeInfo) (size:Nat) (ht:P.underlying t=some (.slice e)) (hi:P.info? e=some i)
    (hsize:i.size=size) (g n cap:Nat) (xs:List Value) (H:Hd w0 (SlcC e size g n cap xs::R) w)
    (a:Addr) (m c:Nat) (news:List Value) (hl:news.length=m*size) (hnews:∀j u,news[j]? = some u→w.cell? (a.add j)=some u) (h1:∀u∈news,u.oneCell'=true)
    (hroom:n+m≤cap) :
    ∃w',(Builtin.append_ #[t,t] ty #[.slice (some ⟨g,0,none⟩) n cap,.slice (some a) m c]).run P w=.ok (.slice (some ⟨g,0,none⟩) (n+m) cap) w'∧Hd w0 (SlcC e size g (n+m) cap (xs++news)::R) w':=by
  subst hsize
  obtain ⟨hxl,hnc,hcm,sp,hcs,hH⟩:=H.slcC
  have hg:=hH.heap
  have hlen:(xs++news).length=(n+m)*i.size:=by rw [List.length_append,hxl,hl,Nat.add_mul]
  have hfit:n*i.size+news.length≤(xs++sp).toArray.size:=by rw [hl,List.size_toArray,← Nat.add_mul];exact Nat.le_trans (Nat.mul_le_mul_right _ hroom) hcs
  have hr:=run_append_room (P:=P) w t ty e i ht hi g n cap (xs++sp).toArray hg a m c news hl hnews h1 hroom hfit
  have e1:((xs++sp).toArray.toList.take (n*i.size)++news++(xs++sp).toArray.toList.drop (n*i.size+news.length)).toArray=((xs++news)++sp.drop news.length).toArray:=by
    rw [← hxl]
    simp [List.take_left',List.drop_append]
  rw [e1] at hr
  refine ⟨_,hr,?_⟩
  have hset:Hd w0 (cel g e ((xs++news)++sp.drop news.length).toArray::R) (w.setRow g ((xs++news)++sp.drop news.length).toArray) :=
    hH.upd (fun k=>by
      by_cases hk:k=g
      · subst hk;rw [if_pos rfl];exact setRow_heap w k _ _ e _ hg
      · rw [if_neg hk];exact setRow_other w g k _ hk) ⟨rfl,rfl,rfl,by simp [World.setRow]⟩
  refine hset.slcC_mk hlen hroom hcm ?_
  have h2:(n+m)*i.size≤cap*i.size:=Nat.mul_le_mul_right _ hroom
  rw [List.length_append] at hcs hlen
  rw [List.length_append,List.length_append,List.length_drop]
  omega
theorem qJP (t ty e:TypeId) (i:TypeInfo) (size:Nat) (ht:P.underlying t=some (.slice e)) (hi:P.info? e=some i)
    (hsize:i.size=size) (g n cap:Nat) (xs:List Value) (H:Hd w0 (SlcC e size g n cap xs::R) w)
    (ao:Option Addr) (m c:Nat) (news:List Value) (hl:news.length=m*size) (hnone:ao=none→m=0) (hnews:∀ad,ao=some ad→∀j u,news[j]? = some u→w.cell? (ad.add j)=some u)
    (h1:∀u∈news,u.oneCell'=true) (hroom:n+m≤cap) :
    ∃w',(Builtin.append_ #[t,t] ty #[.slice (some ⟨g,0,none⟩) n cap,.slice ao m c]).run P w=.ok (.slice (some ⟨g,0,none⟩) (n+m) cap) w'∧Hd w0 (SlcC e size g (n+m) cap (xs++news)::R) w':=by
  cases ao with
  | some a=>exact qZt t ty e i size ht hi hsize g n cap xs H a m c news hl (hnews a rfl) h1 hroom
  | none =>
    obtain rfl:=hnone rfl
    have hn:news = []:=List.eq_nil_of_length_eq_zero (by simpa using hl)
    subst hn
    obtain ⟨_,hnc,_,_⟩:=H.slcC
    refine ⟨w,?_,by simpa using H⟩
    simp [Builtin.append_,run_underlying ht,sizeOf,typeInfo,hi,Builtin.lenOf,Builtin.firstCells,hnc,storeCells]
theorem qJz (t ty e:TypeId) (i:TypeInfo) (z:Value) (size bytes:Nat) (ht:P.underlying t=some (.slice e)) (hi:P.info? e=some i) (hz:i.zero=some z)
    (hsize:i.size=size) (hby:i.bytes=bytes) (hzs:z.cells.size=size)
    (v:Value) (n:Nat) (xs:List Value) (H:Hd w0 (Slc e size v n xs::R) w)
    (a:Addr) (m c:Nat) (news:List Value) (hl:news.length=m*size) (hnews:∀j u,news[j]? = some u→w.cell? (a.add j)=some u) (h1:∀u∈news,u.oneCell'=true)
    (h63:n+m≤maxLen) (hbytes:(n+m)*bytes≤140737488355328) :
    ∃v' w',(Builtin.append_ #[t,t] ty #[v,.slice (some a) m c]).run P w=.ok v' w'∧Hd w0 (Slc e size v' (n+m) (xs++news)::R) w':=by
  subst hsize
  subst hby
  have hsmall:n+m≤9223372036854775807:=by simp only [maxLen] at h63;omega
  have hxl:=H.slc_len
  have hlen:(xs++news).length=(n+m)*i.size:=by rw [List.length_append,hxl,hl,Nat.add_mul]
  have grown:∀(old:Nat),old<n+m→Hd w0 R w →
      Hd w0 (Slc e i.size (.slice (some ⟨w.heap.size,0,none⟩) (n+m) (grownCap w (n+m) old e)) (n+m) (xs++news)::R)
        (w.drew.alloc (.cells (xs.toArray++news.toArray++Builtin.zeroCells z.cells (grownCap w (n+m) old e-(n+m))) e)):=by
    intro old ho hR
    have hge:=grownCap_ge w (n+m) old e
    have hcm:grownCap w (n+m) old e≤maxLen:=grownCap_le_maxLen w (n+m) old e h63
    have hA:=hR.drew.alloc (.cells (xs.toArray++news.toArray++Builtin.zeroCells z.cells (grownCap w (n+m) old e-(n+m))) e)
    have harr:xs.toArray++news.toArray++Builtin.zeroCells z.cells (grownCap w (n+m) old e-(n+m))=((xs++news)++(Builtin.zeroCells z.cells (grownCap w (n+m) old e-(n+m))).toList).toArray:=by
      apply Array.ext'
      simp
    rw [harr] at hA ⊢
    refine (hA.slcC_mk hlen hge hcm (Nat.le_of_eq (Eq.symm ?_))).slc_mk
    rw [List.length_append,hlen,Array.length_toList,size_zeroCells,hzs,← Nat.add_mul]
    congr 1
    omega
  rcases H.slc with ⟨rfl,rfl,rfl,hR⟩ | ⟨g,cap,rfl,hC⟩
  · by_cases hm:m=0
    · subst hm
      have hn:news = []:=List.eq_nil_of_length_eq_zero (by simpa using hl)
      subst hn
      refine ⟨.slice none 0 0,w,?_,hR.slc_nil e i.size⟩
      simp [Builtin.append_,run_underlying ht,sizeOf,typeInfo,hi,Builtin.lenOf,Builtin.firstCells,loadCells,loadCellsFrom]
    · have hr:=run_append_nil (P:=P) w t ty e i z ht hi hz a m c news hl hnews (by omega) (by omega) (by have hb:=hbytes;simp only [Nat.zero_add] at hb;omega)
      have hgr:=grown 0 (by omega) hR
      simp only [Nat.zero_add,List.nil_append,Array.empty_append] at hgr ⊢
      exact ⟨_,_,hr,hgr⟩
  · by_cases hroom:n+m≤cap
    · obtain ⟨w',hr,h2⟩:=qZt (P:=P) t ty e i i.size ht hi rfl g n cap xs hC a m c news hl hnews h1 hroom
      exact ⟨_,w',hr,h2.slc_mk⟩
    · have holds:∀j u,xs[j]? = some u→w.cell? ((⟨g,0,none⟩:Addr).add j)=some u:=by
        intro j u hj
        have hadd:(⟨g,0,none⟩:Addr).add j=⟨g,j,none⟩:=by unfold Addr.add;split <;> simp_all
        rw [hadd]
        exact hC.slcC_rd hj
      have hr:=run_append_grow (P:=P) w t ty e i z ht hi hz ⟨g,0,none⟩ n cap xs hxl holds a m c news hl hnews (by omega) (by omega) (growslice_fits (by omega) hbytes)
      exact ⟨_,_,hr,grown cap (by omega) hC.tail⟩
theorem qWX {ops:Array Oper} {rest:List Oper} {o:Oper} {a:Act} {Q:Exit→Act→World→Prop} (hgd:o.guard=none) (s x:Operand) (t:TypeId)
    (ho:o.op=.call { callee:=.builtin .append,args:=#[s,x],argTypes:=#[t,t] })
    (e:TypeId) (i:TypeInfo) (size:Nat) (ht:P.underlying t=some (.slice e)) (hi:P.info? e=some i) (hsize:i.size=size)
    (g n cap:Nat) (xs:List Value) (hs:a.eval s=.slice (some ⟨g,0,none⟩) n cap) (H:Hd w0 (SlcC e size g n cap xs::R) w)
    (ad:Addr) (m c:Nat) (news:List Value) (hx:a.eval x=.slice (some ad) m c) (hl:news.length=m*size) (hnews:∀j u,news[j]? = some u→w.cell? (ad.add j)=some u) (h1:∀u∈news,u.oneCell'=true)
    (hroom:n+m≤cap)
    (h:∀w',Hd w0 (SlcC e size g (n+m) cap (xs++news)::R) w'→wpList P ops Q rest (a.put o.dst (.slice (some ⟨g,0,none⟩) (n+m) cap)) w'):wpList P ops Q (o::rest) a w :=
  wpList_plain hgd fun K hK=>by
    obtain ⟨w',hr,h2⟩:=qZt (P:=P) t o.type e i size ht hi hsize g n cap xs H ad m c news hl hnews h1 hroom
    unfold Oper.wp execOp
    simp only [ho,resolve,invoke,builtin,Sem.run_bind,Sem.run_pure,Result.andThen_ok,List.map_toArray,List.map_cons,List.map_nil,hs,hx,hr]
    exact hK _ _ (h w' h2)
theorem qQl {ops:Array Oper} {rest:List Oper} {o:Oper} {a:Act} {Q:Exit→Act→World→Prop} (hgd:o.guard=none) (s x:Operand) (t:TypeId)
    (ho:o.op=.call { callee:=.builtin .append,args:=#[s,x],argTypes:=#[t,t] })
    (e:TypeId) (i:TypeInfo) (size:Nat) (ht:P.underlying t=some (.slice e)) (hi:P.info? e=some i) (hsize:i.size=size)
    (g n cap:Nat) (xs:List Value) (hs:a.eval s=.slice (some ⟨g,0,none⟩) n cap) (H:Hd w0 (SlcC e size g n cap xs::R) w)
    (ao:Option Addr) (m c:Nat) (news:List Value) (hx:a.eval x=.slice ao m c) (hl:news.length=m*size) (hnone:ao=none→m=0) (hnews:∀ad,ao=some ad→∀j u,news[j]? = some u→w.cell? (ad.add j)=some u)
    (h1:∀u∈news,u.oneCell'=true) (hroom:n+m≤cap)
    (h:∀w',Hd w0 (SlcC e size g (n+m) cap (xs++news)::R) w'→wpList P ops Q rest (a.put o.dst (.slice (some ⟨g,0,none⟩) (n+m) cap)) w'):wpList P ops Q (o::rest) a w :=
  wpList_plain hgd fun K hK=>by
    obtain ⟨w',hr,h2⟩:=qJP (P:=P) t o.type e i size ht hi hsize g n cap xs H ao m c news hl hnone hnews h1 hroom
    unfold Oper.wp execOp
    simp only [ho,resolve,invoke,builtin,Sem.run_bind,Sem.run_pure,Result.andThen_ok,List.map_toArray,List.map_cons,List.map_nil,hs,hx,hr]
    exact hK _ _ (h w' h2)
theorem qQb {ops:Array Oper} {rest:List Oper} {o:Oper} {a:Act} {Q:Exit→Act→World→Prop} (hgd:o.guard=none) (s x:Operand) (t:TypeId)
    (ho:o.op=.call { callee:=.builtin .append,args:=#[s,x],argTypes:=#[t,t] })
    (e:TypeId) (i:TypeInfo) (z:Value) (size bytes:Nat) (ht:P.underlying t=some (.slice e)) (hi:P.info? e=some i) (hz:i.zero=some z)
    (hsize:i.size=size) (hby:i.bytes=bytes) (hzs:z.cells.size=size)
    (v:Value) (n:Nat) (xs:List Value) (hs:a.eval s=v) (H:Hd w0 (Slc e size v n xs::R) w)
    (ad:Addr) (m c:Nat) (news:List Value) (hx:a.eval x=.slice (some ad) m c) (hl:news.length=m*size) (hnews:∀j u,news[j]? = some u→w.cell? (ad.add j)=some u) (h1:∀u∈news,u.oneCell'=true)
    (h63:n+m≤maxLen) (hbytes:(n+m)*bytes≤140737488355328)
    (h:∀v' w',Hd w0 (Slc e size v' (n+m) (xs++news)::R) w'→wpList P ops Q rest (a.put o.dst v') w'):wpList P ops Q (o::rest) a w :=
  wpList_plain hgd fun K hK=>by
    obtain ⟨v',w',hr,h2⟩:=qJz (P:=P) t o.type e i z size bytes ht hi hz hsize hby hzs v n xs H ad m c news hl hnews h1 h63 hbytes
    unfold Oper.wp execOp
    simp only [ho,resolve,invoke,builtin,Sem.run_bind,Sem.run_pure,Result.andThen_ok,List.map_toArray,List.map_cons,List.map_nil,hs,hx,hr]
    exact hK _ _ (h v' w' h2)
end
end
section
open Go.RowKit Spl
inductive Ky where
  | b (n:Nat)
  | v (x:Value)
class Key (P:Pr) (k:Ky):Prop where
  tt:True
class Pick (k:Ky) (L:List Pr) (P:outParam Pr) (R:outParam (List Pr)):Prop where
  perm:L.Perm (P::R)
instance (priority:=high) Pick.head {k:Ky} {P:Pr} {R:List Pr} [Key P k]:Pick k (P::R) P R:=⟨List.Perm.refl _⟩
instance Pick.tail {k:Ky} {L:List Pr} {P Q:Pr} {R:List Pr} [h:Pick k L P R]:Pick k (Q::L) P (Q::R):=⟨(h.perm.cons Q).trans (List.Perm.swap P Q R)⟩
instance Key.pt {b:Nat} {o:Obj}:Key (pt b o) (.b b):=⟨trivial⟩
instance Key.slc {e:TypeId} {s n:Nat} {v:Value} {xs:List Value}:Key (Slc e s v n xs) (.v v):=⟨trivial⟩
instance Key.slcC {e:TypeId} {s g n cap:Nat} {xs:List Value}:Key (SlcC e s g n cap xs) (.b g):=⟨trivial⟩
class Take (P:Pr) (L:List Pr) (R:outParam (List Pr)):Prop where
  perm:L.Perm (P::R)
instance (priority:=high) Take.head {P:Pr} {R:List Pr}:Take P (P::R) R:=⟨List.Perm.refl _⟩
instance Take.tail {P Q:Pr} {L R:List Pr} [h:Take P L R]:Take P (Q::L) (Q::R):=⟨(h.perm.cons Q).trans (List.Perm.swap P Q R)⟩
class Sub (M L:List Pr):Prop where
  imp:∀ {h:Hp},sat L h→sat M h
instance (priority:=high) Sub.same {L:List Pr}:Sub L L:=⟨fun h=>h⟩
instance Sub.cons {P:Pr} {M L R:List Pr} [h:Take P L R] [s:Sub M R]:Sub (P::M) L:=⟨fun hs=>qZo (fun _ h=>h) (fun _ h=>s.imp h) (qWp h.perm hs)⟩
instance (priority:=low) Sub.drop {M L:List Pr} {X:Pr} [s:Sub M L]:Sub M (X::L):=⟨fun hs=>s.imp (qU0 hs)⟩
instance (priority:=low) Sub.nil {L:List Pr}:Sub [] L:=⟨fun _=>trivial⟩
section
variable {w0 w w':World} {L M R:List Pr} {P:Pr}
theorem Hd.pick {k:Ky} [h:Pick k L P R] (H:Hd w0 L w):Hd w0 (P::R) w:=H.perm h.perm
theorem Hd.k (b:Nat) [h:Pick (.b b) L P R] (H:Hd w0 L w):Hd w0 (P::R) w:=H.perm h.perm
theorem Hd.v (x:Value) [h:Pick (.v x) L P R] (H:Hd w0 L w):Hd w0 (P::R) w:=H.perm h.perm
theorem Hd.re [s:Sub M L] (H:Hd w0 L w):Hd w0 M w:=⟨H.1,s.imp H.2⟩
end
class SetL (l:List Value) (i:Nat) (v:Value) (l':outParam (List Value)):Prop where
  eq:l.set i v=l'
instance SetL.zero {a v:Value} {l:List Value}:SetL (a::l) 0 v (v::l):=⟨rfl⟩
instance SetL.succ {a v:Value} {l l':List Value} {i:Nat} [h:SetL l i v l']:SetL (a::l) (i+1) v (a::l'):=⟨by rw [List.set_cons_succ,h.eq]⟩
class SetA (c:Array Value) (i:Nat) (v:Value) (c':outParam (Array Value)):Prop where
  eq:c.setIfInBounds i v=c'
instance (priority:=high) SetA.lit {l l':List Value} {i:Nat} {v:Value} [h:SetL l i v l']:SetA l.toArray i v l'.toArray:=⟨by rw [← h.eq];simp⟩
instance (priority:=low) SetA.any {c:Array Value} {i:Nat} {v:Value}:SetA c i v (c.setIfInBounds i v):=⟨rfl⟩
class qXy (w:World) (n:outParam Nat):Prop where
  eq:w.heap.size=n
instance (priority:=low) qXy.any {w:World}:qXy w w.heap.size:=⟨rfl⟩
instance qXy.alloc {w:World} {o:Obj} {n:Nat} [h:qXy w n]:qXy (w.alloc o) (n+1):=⟨by rw [← h.eq];unfold World.alloc;exact Array.size_push ..⟩
instance qXy.drew {w:World} {n:Nat} [h:qXy w n]:qXy w.drew n:=⟨h.eq⟩
instance qXy.drewN {w:World} {n k:Nat} [h:qXy w n]:qXy (w.drewN k) n:=⟨h.eq⟩
instance qXy.setCell {w:World} {n:Nat} {a:Addr} {v:Value} [h:qXy w n]:qXy (w.setCell a v) n:=⟨by rw [← h.eq];simp [World.setCell]⟩
class Foll (w:World) (L:List Pr) (w':World) (L':outParam (List Pr)):Prop where
  imp:∀ {w0:World},Hd w0 L w→Hd w0 L' w'
instance (priority:=high) Foll.same {w:World} {L:List Pr}:Foll w L w L:=⟨fun H=>H⟩
instance Foll.drew {w w':World} {L L':List Pr} [h:Foll w L w' L']:Foll w L w'.drew L':=⟨fun H=>(h.imp H).drew⟩
instance Foll.drewN {w w':World} {L L':List Pr} {n:Nat} [h:Foll w L w' L']:Foll w L (w'.drewN n) L':=⟨fun H=>(h.imp H).drewN n⟩
instance Foll.alloc {w w':World} {L L':List Pr} {o:Obj} {n:Nat} [h:Foll w L w' L'] [s:qXy w' n]:Foll w L (w'.alloc o) (pt n o::L'):=⟨fun H=>s.eq ▸ (h.imp H).alloc o⟩
instance Foll.setCell {w w':World} {L L' R:List Pr} {b i:Nat} {T:TypeId} {c c':Array Value} {v:Value} [h:Foll w L w' L'] [p:Pick (.b b) L' (pt b (.cells c T (0,0))) R] [s:SetA c i v c'] :
    Foll w L (w'.setCell ⟨b,i,none⟩ v) (pt b (.cells c' T (0,0))::R):=⟨fun H=>s.eq ▸ ((h.imp H).perm p.perm).set i v⟩
theorem Hd.fol {w0 w w':World} {L L':List Pr} [h:Foll w L w' L'] (H:Hd w0 L w):Hd w0 L' w':=h.imp H
theorem Hd.fin {w0 w w':World} {L L' M:List Pr} [h:Foll w L w' L'] [s:Sub M L'] (H:Hd w0 L w):Hd w0 M w':=(h.imp H).re
section
variable {w0 w:World} {R:List Pr} (b c g n cap:Nat) (T U e:TypeId) (v:Value) (xs:List Value)
end
end
section
open Go.RowKit Spl
class Enc (α:Type) where
  size:Nat
  cells:α→List Value
  len:∀x,(cells x).length=size
  one:∀x,∀u∈cells x,u.oneCell'=true
section
variable {α:Type} [Enc α]
def flat (l:List α):List Value:=l.flatMap Enc.cells
theorem zKf:flat ([]:List α) = []:=rfl
theorem qQI (x:α) (l:List α):flat (x::l)=Enc.cells x++flat l:=rfl
theorem qQc (a b:List α):flat (a++b)=flat a++flat b:=by simp [flat]
theorem qQK (x:α):flat [x]=Enc.cells x:=by simp [flat]
theorem qQf (l:List α):(flat l).length=l.length*Enc.size α:=by
  induction l with
  | nil=>simp [flat]
  | cons x l ih=>rw [qQI,List.length_append,Enc.len,ih,List.length_cons,Nat.add_mul,Nat.one_mul,Nat.add_comm]
theorem qQx (l:List α):∀u∈flat l,u.oneCell'=true:=by
  intro u hu
  obtain ⟨x,_,hx⟩:=List.mem_flatMap.1 hu
  exact Enc.one x u hx
theorem qQi {l:List α}:∀ {k:Nat} {x:α} (_:l[k]? = some x) {j:Nat} {u:Value} (_:(Enc.cells x)[j]? = some u),(flat l)[k*Enc.size α+j]? = some u:=by
  induction l with
  | nil=>intro k x h;simp at h
  | cons y l ih =>
    intro k x h j u hj
    rw [qQI]
    cases k with
    | zero =>
      simp at h;subst h
      rw [List.getElem?_append_left (by have:=qQa hj;omega)]
      simpa using hj
    | succ k =>
      rw [List.getElem?_append_right (by rw [Enc.len,Nat.add_mul];omega),Enc.len]
      have e:(k+1)*Enc.size α+j-Enc.size α=k*Enc.size α+j:=by rw [Nat.add_mul];omega
      rw [e]
      exact ih (by simpa using h) hj
theorem qJT {l:List α}:∀ {k:Nat} {x y:α} (_:l[k]? = some x) {j:Nat} {v:Value} (_:j<Enc.size α) (_:(Enc.cells x).set j v=Enc.cells y),(flat l).set (k*Enc.size α+j) v=flat (l.set k y):=by
  induction l with
  | nil=>intro k x y h;simp at h
  | cons z l ih =>
    intro k x y h j v hj hy
    rw [qQI]
    cases k with
    | zero =>
      simp at h;subst h
      rw [List.set_cons_zero,qQI,List.set_append,if_pos (by rw [Enc.len];omega),Nat.zero_mul,Nat.zero_add,hy]
    | succ k =>
      rw [List.set_cons_succ,qQI,List.set_append,if_neg (by rw [Enc.len,Nat.add_mul];omega),Enc.len]
      have e:(k+1)*Enc.size α+j-Enc.size α=k*Enc.size α+j:=by rw [Nat.add_mul];omega
      rw [e,ih (by simpa using h) hj hy]
theorem qXT (l:List α) (k:Nat):(flat l).take (k*Enc.size α)=flat (l.take k):=by
  by_cases hk:k≤l.length
  · have e:flat l=flat (l.take k)++flat (l.drop k):=by rw [← qQc,List.take_append_drop]
    rw [e,List.take_left']
    rw [qQf,List.length_take,Nat.min_eq_left hk]
  · rw [List.take_of_length_le,List.take_of_length_le (by omega)]
    rw [qQf]
    exact Nat.mul_le_mul_right _ (by omega)
theorem zKb (l:List α) (k:Nat):(flat l).drop (k*Enc.size α)=flat (l.drop k):=by
  by_cases hk:k≤l.length
  · have e:flat l=flat (l.take k)++flat (l.drop k):=by rw [← qQc,List.take_append_drop]
    rw [e,List.drop_left']
    rw [qQf,List.length_take,Nat.min_eq_left hk]
  · rw [List.drop_of_length_le,List.drop_of_length_le (by omega)]
    · rfl
    · rw [qQf]
      exact Nat.mul_le_mul_right _ (by omega)
end
instance encInt:Enc Int where
  size:=1
  cells x:=[.int .i64 x]
  len _:=rfl
  one x u hu:=by simp at hu;subst hu;rfl
theorem qXW (l:List Int):flat l=l.map (Value.int .i64):=by
  induction l with
  | nil=>rfl
  | cons x l ih=>rw [qQI,ih];rfl
abbrev SlE {α:Type} [Enc α] (e:TypeId) (v:Value) (l:List α):Pr:=Slc e (Enc.size α) v l.length (flat l)
abbrev SlEC {α:Type} [Enc α] (e:TypeId) (g cap:Nat) (l:List α):Pr:=SlcC e (Enc.size α) g l.length cap (flat l)
end
section
open Go.RowKit Spl
structure OpM where
  kind:Int
  res:Int
  n:Int
  v:Int
  deriving DecidableEq
structure qZy where
  res:Int
  units:Int
  deriving DecidableEq
structure qZQ where
  res:Int
  units:Int
  deriving DecidableEq
structure qqc where
  job:Int
  units:Int
  deriving DecidableEq
structure qQh where
  job:Int
  task:Int
  level:Int
  deriving DecidableEq
structure ActM where
  job:Int
  task:Int
  level:Int
  at_:Int
  deriving DecidableEq
structure EvM where
  kind:Int
  task:Int
  job:Int
  op:OpM
  why:Int
  clock:Int
  deriving DecidableEq
structure Ptr where
  b:Nat
structure RowV where
  nm:ByteArray
  lv:Int
  fr:Int
  na:Option Addr
  nl:Nat
  nc:Nat
  cd:ByteArray
  p:Int
  f:Int
  g:Int
  sa:Option Addr
  sl:Nat
  sc:Nat
instance encOp:Enc OpM where
  size:=4
  cells x:=[.int .i64 x.kind,.int .i64 x.res,.int .i64 x.n,.int .i64 x.v]
  len _:=rfl
  one x u hu:=by simp at hu;rcases hu with rfl | rfl | rfl | rfl <;> rfl
instance encNeed:Enc qZy where
  size:=2
  cells x:=[.int .i64 x.res,.int .i64 x.units]
  len _:=rfl
  one x u hu:=by simp at hu;rcases hu with rfl | rfl <;> rfl
instance encLock:Enc qZQ where
  size:=2
  cells x:=[.int .i64 x.res,.int .i64 x.units]
  len _:=rfl
  one x u hu:=by simp at hu;rcases hu with rfl | rfl <;> rfl
instance encHold:Enc qqc where
  size:=2
  cells x:=[.int .i64 x.job,.int .i64 x.units]
  len _:=rfl
  one x u hu:=by simp at hu;rcases hu with rfl | rfl <;> rfl
instance encWait:Enc qQh where
  size:=3
  cells x:=[.int .i64 x.job,.int .i64 x.task,.int .i64 x.level]
  len _:=rfl
  one x u hu:=by simp at hu;rcases hu with rfl | rfl | rfl <;> rfl
instance encAct:Enc ActM where
  size:=4
  cells x:=[.int .i64 x.job,.int .i64 x.task,.int .i64 x.level,.int .i64 x.at_]
  len _:=rfl
  one x u hu:=by simp at hu;rcases hu with rfl | rfl | rfl | rfl <;> rfl
instance encEv:Enc EvM where
  size:=9
  cells x:=[.int .i64 x.kind,.int .i64 x.task,.int .i64 x.job,.int .i64 x.op.kind,.int .i64 x.op.res,.int .i64 x.op.n,.int .i64 x.op.v,.int .i64 x.why,.int .i64 x.clock]
  len _:=rfl
  one x u hu:=by simp at hu;rcases hu with rfl | rfl | rfl | rfl | rfl | rfl | rfl | rfl | rfl <;> rfl
instance encPtr:Enc Ptr where
  size:=1
  cells x:=[.pointer (some ⟨x.b,0,none⟩)]
  len _:=rfl
  one x u hu:=by simp at hu;subst hu;rfl
instance encRow:Enc RowV where
  size:=9
  cells x:=[.string x.nm,.int .i64 x.lv,.int .i64 x.fr,.slice x.na x.nl x.nc,.string x.cd,.int .i64 x.p,.int .i64 x.f,.int .i64 x.g,.slice x.sa x.sl x.sc]
  len _:=rfl
  one x u hu:=by
    simp at hu
    rcases hu with rfl | rfl | rfl | rfl | rfl | rfl | rfl | rfl | rfl <;> rfl
structure RowH where
  k:Int
  b:Nat
structure RowN where
  k:ByteArray
  i:Int
instance encRowH:Enc RowH where
  size:=2
  cells x:=[.int .i64 x.k,.pointer (some ⟨x.b,0,none⟩)]
  len _:=rfl
  one x u hu:=by simp at hu;rcases hu with rfl | rfl <;> rfl
instance encRowN:Enc RowN where
  size:=2
  cells x:=[.string x.k,.int .i64 x.i]
  len _:=rfl
  one x u hu:=by simp at hu;rcases hu with rfl | rfl <;> rfl
theorem qQg {P:Program} {fn:Func} {p u:Tmp} {ty:TypeId} (h:fn.results=#[.cell p ty,.tmp u]) (tmps:Array Value) (w:World) (g:Nat) (t:TypeId) (cs:Array Value) (fr:Nat × Nat) (d:TypeDesc)
    (hp:tmps.getD p undef=.pointer (some ⟨g,0,none⟩)) (hg:w.heap[g]? = some (.cells cs t fr))
    (hu:P.underlying ty=some d) (hd:(match d with | .struct _ | .array _ _=>true | _=>false)=true) (hi:(P.info? ty).map (·.size)=some cs.size) :
    (results fn tmps).run P w=.ok (.tuple #[.agg cs,tmps.getD u undef]) w:=by
  have hp':tmps[p]?.getD undef=.pointer (some ⟨g,0,none⟩):=by simpa using hp
  simp [results,h,hp',asAddr,run_loadVar_row w g t ty cs fr d hg hu hd hi]
theorem qZh {P:Program} {fn:Func} {p u q:Tmp} {ty:TypeId} (h:fn.results=#[.tmp q,.cell p ty,.tmp u]) (tmps:Array Value) (w:World) (g:Nat) (t:TypeId) (cs:Array Value) (fr:Nat × Nat) (d:TypeDesc)
    (hp:tmps.getD p undef=.pointer (some ⟨g,0,none⟩)) (hg:w.heap[g]? = some (.cells cs t fr))
    (hu:P.underlying ty=some d) (hd:(match d with | .struct _ | .array _ _=>true | _=>false)=true) (hi:(P.info? ty).map (·.size)=some cs.size) :
    (results fn tmps).run P w=.ok (.tuple #[tmps.getD q undef,.agg cs,tmps.getD u undef]) w:=by
  have hp':tmps[p]?.getD undef=.pointer (some ⟨g,0,none⟩):=by simpa using hp
  simp [results,h,hp',asAddr,run_loadVar_row w g t ty cs fr d hg hu hd hi]
theorem qQU {a L:List Value} {n:Nat} (h:a.length=n) (j:Nat):(a++L).toArray[n+j]? = L[j]?:=by
  subst h
  rw [List.getElem?_toArray,List.getElem?_append_right (Nat.le_add_right _ _),Nat.add_sub_cancel_left]
theorem qXs {a L:List Value} {n:Nat} (h:a.length=n):(a++L).toArray[n]? = L[0]?:=by
  have:=qQU (L:=L) h 0
  simpa using this
theorem qQ4 {a L:List Value} {n:Nat} (h:a.length=n) (j:Nat) (v:Value):(a++L).toArray.setIfInBounds (n+j) v=(a++L.set j v).toArray:=by
  subst h
  apply Array.ext'
  simp
theorem qXm {a L:List Value} {n:Nat} (h:a.length=n) (v:Value):(a++L).toArray.setIfInBounds n v=(a++L.set 0 v).toArray:=by
  have:=qQ4 (L:=L) h 0 v
  simpa using this
theorem qXt {C:Array Value} {o:Nat} {v u:Value} (h:C[o]? = some u):(C.setIfInBounds o v)[o]? = some v:=by
  obtain ⟨hi,_⟩:=Array.getElem?_eq_some_iff.1 h
  simp [hi]
theorem set3 {C:Array Value} {o:Nat} {v a b:Value}:((C.setIfInBounds (o+1) a).setIfInBounds o v).setIfInBounds (o+1) b=(C.setIfInBounds o v).setIfInBounds (o+1) b:=by
  apply Array.ext'
  simp only [Array.toList_setIfInBounds]
  rw [List.set_comm _ _ (by omega:o≠o+1),List.set_set]
  exact List.set_comm _ _ (by omega)
theorem qWE {C:Array Value} {o:Nat} {v:Value} (h:C[o]? = some v):C.setIfInBounds o v=C:=by
  apply Array.ext'
  have h':C.toList[o]? = some v:=by simpa using h
  obtain ⟨hi,e⟩:=List.getElem?_eq_some_iff.1 h'
  rw [Array.toList_setIfInBounds,← e,List.set_getElem_self]
theorem add0 (b j:Nat):(⟨b,0,none⟩:Addr).add j=⟨b,j,none⟩:=by unfold Addr.add;split <;> simp_all
theorem qQA {w0 w:World} {R:List Pr} {b T:Nat} {C:Array Value} (H:Hd w0 (cel b T C::R) w):∀j u,C.toList[j]? = some u→w.cell? ((⟨b,0,none⟩:Addr).add j)=some u:=by
  intro j u hj
  rw [add0]
  exact (H.rd j).trans (by simpa using hj)
theorem qZA {P:Program} {w0 w:World} {R:List Pr} {ops:Array Oper} {o:Oper} {a:Act} {K:Act→World→Prop} {Q:Exit→Act→World→Prop} {E:Prop} (hgd:o.guard=none) (s x:Operand) (t:TypeId)
    (ho:o.op=.call { callee:=.builtin .append,args:=#[s,x],argTypes:=#[t,t] })
    (e:TypeId) (i:TypeInfo) (z:Value) (size bytes:Nat) (ht:P.underlying t=some (.slice e)) (hi:P.info? e=some i) (hz:i.zero=some z)
    (hsize:i.size=size) (hby:i.bytes=bytes) (hzs:z.cells.size=size)
    (v:Value) (n:Nat) (xs:List Value) (hs:a.eval s=v) (H:Hd w0 (Slc e size v n xs::R) w)
    (ad:Addr) (m c:Nat) (news:List Value) (hx:a.eval x=.slice (some ad) m c) (hl:news.length=m*size) (hnews:∀j u,news[j]? = some u→w.cell? (ad.add j)=some u) (h1:∀u∈news,u.oneCell'=true)
    (h63:n+m≤maxLen) (hbytes:(n+m)*bytes≤140737488355328)
    (h:∀v' w',Hd w0 (Slc e size v' (n+m) (xs++news)::R) w'→K (a.put o.dst v') w'):if Region.wanted o (yielded ops a.tmps)=true then o.wp P a w K Q else E:=by
  simp only [Region.wanted,hgd,if_true]
  obtain ⟨v',w',hr,h2⟩:=qJz (P:=P) t o.type e i z size bytes ht hi hz hsize hby hzs v n xs H ad m c news hl hnews h1 h63 hbytes
  unfold Oper.wp execOp
  simp only [ho,resolve,invoke,builtin,Sem.run_bind,Sem.run_pure,Result.andThen_ok,List.map_toArray,List.map_cons,List.map_nil,hs,hx,hr]
  exact h v' w' h2
end
end Go.Proofs.YtkchopnkdjnocaaGreatDoor
