/-
  Merged texts of one proof: Mix.
-/
import Derived.Deep.RegionHeld
import Derived.OrdersHeld
import Derived.StillTail
import Derived.WalkKit

set_option maxHeartbeats 16000000
set_option maxRecDepth 20000
namespace Go.Proofs.YtkchopnkdjnocaaGreatDoor
section
open Go
section
variable {P:Program} {ops:Array Oper} {Q:Exit→Act→World→Prop} {md:Region.Mode} {S:World→Prop} {m:Nat}
def mixQ (Q:Exit→Act→World→Prop) (X:Act→World→Prop):Exit→Act→World→Prop
  | .normal,a,w=>X a w
  | .exit i,a,w=>Q (.exit i) a w
  | .goto l,a,w=>Q (.goto l) a w
  | .ret,a,w=>Q .ret a w
  | .panic c,a,w=>Q (.panic c) a w
  | .outgrown,a,w=>Q .outgrown a w
theorem qQd {X:Act→World→Prop} {a:Act} {w:World} (hS:S w) (h:X a w):mixQ Q (fun a w=>S w∧X a w) .normal a w:=⟨hS,h⟩
def qVy (P:Program) (md:Region.Mode) (ops:Array Oper) (Q:Exit→Act→World→Prop) (S:World→Prop) (m:Nat) (L:Array Bool→Act→World→Prop):Nat→Array Bool→Act→World→Prop
  | 0,listed,a,w=>L listed a w
  | f+1,listed,a,w=>Region.ready md ops listed ≠ []∧∀i∈Region.ready md ops listed,i<m∧wpOp P ops Q i (fun a' w'=>S w'∧qVy P md ops Q S m L f (listed.setIfInBounds i true) a' w') a w
theorem qJE {g:Nat} {L:Array Bool→Act→World→Prop} (hL:∀listed a w,L listed a w→wpAny P md ops Q g listed a w) :
    ∀(f:Nat) (listed:Array Bool) (a:Act) (w:World),qVy P md ops Q S m L f listed a w→wpAny P md ops Q (f+g) listed a w
  | 0,listed,a,w,h=>by rw [Nat.zero_add];exact hL _ _ _ h
  | f+1,listed,a,w,h=>by
    rw [show f+1+g=(f+g)+1 by omega]
    exact ⟨fun h0=>absurd h0 h.1,fun i hi=>wpOp_mono (fun a' w' h'=>qJE hL f _ a' w' h'.2) (h.2 i hi).2⟩
theorem qVn {i:Nat} {oi:Oper} {v:Value} {L:Array Bool→Act→World→Prop} (hi:ops[i]? = some oi) (hsel:∀(j:Nat) (o:Oper) cs b,ops[j]? = some o→o.op≠.select cs b)
    (hQ:∀c a w,Q (.panic c) (a.put oi.dst v) w→Q (.panic c) a w)
    (htail:∀listed,HeadInv md ops m listed→∀i,i<m→listed.getD i true=false→∀t,m≤t→t ∉ Region.ready md ops listed) (him:i<m)
    (hdone:∀listed a w,L listed a w→∀j∈Region.ready md ops listed,m≤j) :
    ∀(f:Nat) (listed:Array Bool) (a:Act) (w:World),HeadInv md ops m listed →
      (∀j oj,ops[j]? = some oj→j≠i→listed.getD j true=false→(∀e∈oj.after,Region.binds md e=true→e.on≠i)→oi.apart ops oj=true) →
      i∈Region.ready md ops listed→YieldsIf P ops S oi v a→S w →
      qVy P md ops Q S m L f (listed.setIfInBounds i true) (a.put oi.dst v) w→qVy P md ops Q S m L (f+1) listed a w:=by
  intro f
  induction f with
  | zero =>
    intro listed a w inv _ hr hy hS H
    have hun:=(mem_ready.1 hr).1
    refine ⟨fun h=>(by rw [h] at hr;cases hr),fun j hj=>?_⟩
    have hjn:j<m:=by
      rcases Nat.lt_or_ge j m with h | h
      · exact h
      · exact absurd hj (htail listed inv i him hun j h)
    refine ⟨hjn,?_⟩
    by_cases hji:j=i
    · subst hji;exact hy.wpOp hi hS ⟨hS,H⟩
    · have:=hdone _ _ _ H j (ready_mono hj hji)
      omega
  | succ f ih =>
    intro listed a w inv hfree hr hy hS H
    have hun:=(mem_ready.1 hr).1
    refine ⟨fun h=>(by rw [h] at hr;cases hr),fun j hj=>?_⟩
    have hjn:j<m:=by
      rcases Nat.lt_or_ge j m with h | h
      · exact h
      · exact absurd hj (htail listed inv i him hun j h)
    refine ⟨hjn,?_⟩
    by_cases hji:j=i
    · subst hji;exact hy.wpOp hi hS ⟨hS,H⟩
    · have h1:=(H.2 j (ready_mono hj hji)).2
      obtain ⟨hjun,oj,hoj,hall⟩:=mem_ready.1 hj
      have hnot:∀e∈oj.after,Region.binds md e=true→e.on≠i:=fun e he hb heq=>by
        have h1:=hall e he hb
        rw [heq,getD_both hun] at h1
        cases h1
      have h2:=wpOp_putIf hoj (hfree j oj hoj hji hjun hnot) (fun cs b=>hsel i oi cs b hi) (fun cs b=>hsel j oj cs b hoj) hQ hy h1
      have hfree':∀k ok,ops[k]? = some ok→k≠i→(listed.setIfInBounds j true).getD k true=false →
          (∀e∈ok.after,Region.binds md e=true→e.on≠i)→oi.apart ops ok=true:=fun k ok hk hki hun hno=>by
        refine hfree k ok hk hki ?_ hno
        by_cases hjk:j=k
        · subst hjk;exact hjun
        · rw [getD_set_ne true hjk] at hun;exact hun
      refine wpOp_mono (fun a' w' h3=>⟨h3.2.1,ih (listed.setIfInBounds j true) a' w' (inv.set hj hjn) hfree' (ready_mono hr (Ne.symm hji)) h3.1 h3.2.1 ?_⟩) h2
      rw [Array.setIfInBounds_comm _ _ hji]
      exact h3.2.2
def mixB (md:Region.Mode) (ops:Array Oper) (m:Nat):List (Nat × Bool)→Array Bool→Bool
  | [],listed=>Region.seqB md ops (ops.size-m) m listed
  | (k,true)::r,listed=>decide (k<m) && (Region.ready md ops listed).contains k && Region.free md ops listed k && mixB md ops m r (listed.setIfInBounds k true)
  | (k,false)::r,listed=>decide (k<m) && decide (Region.ready md ops listed = [k]) && mixB md ops m r (listed.setIfInBounds k true)
def zQw (md:Region.Mode) (ops:Array Oper) (m:Nat) (ord:List (Nat × Bool)):Bool :=
  Region.noSelect ops && decide (m<ops.size) && Region.sinkB md ops m && Region.chainB md ops m && decide (ord.length=m) && mixB md ops m ord (Array.replicate ops.size false)
def qJm (P:Program) (ops:Array Oper) (Q:Exit→Act→World→Prop) (S:World→Prop) (T:Act→World→Prop):List (Nat × Bool)→Act→World→Prop
  | [],a,w=>T a w
  | (k,true)::r,a,w=>∃o v,ops[k]? = some o∧YieldsIf P ops S o v a∧qJm P ops Q S T r (a.put o.dst v) w
  | (k,false)::r,a,w=>∃o,ops[k]? = some o∧wpList P ops (mixQ Q fun a' w'=>S w'∧qJm P ops Q S T r a' w') [o] a w
theorem qUO {T:Act→World→Prop} {k:Nat} {r:List (Nat × Bool)} {o:Oper} {v:Value} {a:Act} {w:World} (hi:ops[k]? = some o) (hw:Region.wanted o (yielded ops a.tmps)=true)
    (hy:∀w',S w'→(execOp a.eval o).run P w'=.ok (.value v) w') (h:qJm P ops Q S T r (a.put o.dst v) w):qJm P ops Q S T ((k,true)::r) a w :=
  ⟨o,v,hi,.inl ⟨hw,hy⟩,h⟩
theorem mh {T:Act→World→Prop} {k:Nat} {r:List (Nat × Bool)} {o:Oper} {v:Value} {a:Act} {w:World} (h:qJm P ops Q S T r (a.put o.dst v) w) (hi:ops[k]? = some o:=by (simp only [List.getElem?_toArray,List.getElem?_cons_succ,List.getElem?_cons_zero]);rfl) (hw:Region.wanted o (yielded ops a.tmps)=true:=by rfl)
    (hy:∀w',S w'→(execOp a.eval o).run P w'=.ok (.value v) w':=by intro w' hS;(try dsimp only at hS);(try go_split_ands);go_simp;(try with_reducible rfl)):qJm P ops Q S T ((k,true)::r) a w:=qUO hi hw hy h
theorem mm {T:Act→World→Prop} {k:Nat} {r:List (Nat × Bool)} {o:Oper} {a:Act} {w:World}
    (h:wpList P ops (mixQ Q fun a' w'=>S w'∧qJm P ops Q S T r a' w') [o] a w) (hi:ops[k]? = some o:=by (simp only [List.getElem?_toArray,List.getElem?_cons_succ,List.getElem?_cons_zero]);rfl):qJm P ops Q S T ((k,false)::r) a w:=⟨o,hi,h⟩
theorem ms {T:Act→World→Prop} {k:Nat} {r:List (Nat × Bool)} {o:Oper} {a:Act} {w:World} (h:qJm P ops Q S T r (a.put o.dst undef) w) (hi:ops[k]? = some o:=by (simp only [List.getElem?_toArray,List.getElem?_cons_succ,List.getElem?_cons_zero]);rfl) (hw:Region.wanted o (yielded ops a.tmps)=false:=by rfl):qJm P ops Q S T ((k,true)::r) a w:=⟨o,undef,hi,.inr ⟨hw,rfl⟩,h⟩
theorem zKj {T:Act→World→Prop} {k:Nat} {r:List (Nat × Bool)} {o:Oper} {a:Act} {w:World} (hi:ops[k]? = some o)
    (h:wpList P ops (mixQ Q fun a' w'=>S w'∧qJm P ops Q S T r a' w') [o] a w):qJm P ops Q S T ((k,false)::r) a w:=⟨o,hi,h⟩
theorem qQe {T:Act→World→Prop} {a:Act} {w:World} (h:T a w):qJm P ops Q S T [] a w:=h
theorem qq3 {X:Act→World→Prop} {o:Oper} {a:Act} {w:World} {K:Act→World→Prop} (h:o.wp P a w K (mixQ Q X)):o.wp P a w K Q:=by
  unfold Oper.wp at *
  generalize (execOp a.eval o).run P w=r at *
  cases r with
  | ok n w'=>cases n <;> exact h
  | halt x w'=>cases x <;> exact h
theorem qVQ {X:Act→World→Prop} {k:Nat} {o:Oper} {a:Act} {w:World} (hi:ops[k]? = some o) (h:wpList P ops (mixQ Q X) [o] a w):wpOp P ops Q k X a w:=by
  unfold wpOp
  simp only [hi]
  simp only [wpList] at h
  split
  · rename_i hw
    rw [if_pos hw] at h
    rcases h with h | ⟨h1,h2⟩
    · exact .inl (qq3 h)
    · exact .inr ⟨h1,h2⟩
  · rename_i hw
    rw [if_neg hw] at h
    exact h
theorem qZ5 (hsel:Region.noSelect ops=true) (htail:∀listed,HeadInv md ops m listed→∀i,i<m→listed.getD i true=false→∀t,m≤t→t ∉ Region.ready md ops listed)
    (hQ:∀c (a:Act) d v w,Q (.panic c) (a.put d v) w→Q (.panic c) a w) :
    ∀(ord:List (Nat × Bool)) (listed:Array Bool) (a:Act) (w:World),HeadInv md ops m listed→mixB md ops m ord listed=true→S w →
      qJm P ops Q S (wpList P ops Q (ops.toList.drop m)) ord a w →
      qVy P md ops Q S m (fun listed' a' w'=>Region.seqB md ops (ops.size-m) m listed'=true∧wpList P ops Q (ops.toList.drop m) a' w') ord.length listed a w
  | [],listed,a,w,_,hB,_,h=>⟨hB,h⟩
  | (k,true)::r,listed,a,w,inv,hB,hS,h=>by
    obtain ⟨o,v,hi,hy,h⟩:=h
    simp only [mixB,Bool.and_eq_true,decide_eq_true_eq] at hB
    obtain ⟨⟨⟨hkm,hr⟩,hf⟩,hB'⟩:=hB
    have hr':k∈Region.ready md ops listed:=by simpa using hr
    exact qVn hi (Region.noSelect_spec hsel) (fun c a w=>hQ c a _ _ w) htail hkm (fun listed' a' w' hL=>seqB_ready hL.1) r.length listed a w inv (Region.free_spec hi hf) hr' hy hS
      (qZ5 hsel htail hQ r _ _ w (inv.set hr' hkm) hB' hS h)
  | (k,false)::r,listed,a,w,inv,hB,hS,h=>by
    obtain ⟨o,hi,h⟩:=h
    simp only [mixB,Bool.and_eq_true,decide_eq_true_eq] at hB
    obtain ⟨⟨hkm,hr⟩,hB'⟩:=hB
    have hr':k∈Region.ready md ops listed:=by rw [hr];exact List.mem_singleton.2 rfl
    refine ⟨fun h0=>(by rw [hr] at h0;cases h0),fun j hj=>?_⟩
    rw [hr] at hj
    obtain rfl:j=k:=List.mem_singleton.1 hj
    exact ⟨hkm,wpOp_mono (fun a' w' h'=>⟨h'.1,qZ5 hsel htail hQ r _ a' w' (inv.set hr' hkm) hB' h'.1 h'.2⟩) (qVQ hi h)⟩
theorem qWy {id:Nat} {l:List Oper} {a:Act} {w:World} (m:Nat) (ord:List (Nat × Bool)) (S:World→Prop) (hf:P.follows .mixedOrders=true) (hB:zQw .any l.toArray m ord=true) (hS:S w.drew)
    (hQ:∀c (a:Act) d v w,Q (.panic c) (a.put d v) w→Q (.panic c) a w)
    (h:qJm P l.toArray Q S (wpList P l.toArray Q (l.drop m)) ord a w.drew):(Code.region id l.toArray true).wp P Q a w:=by
  simp only [zQw,Bool.and_eq_true,decide_eq_true_eq] at hB
  obtain ⟨⟨⟨⟨⟨hsel,hm⟩,hs⟩,hc⟩,hlen⟩,hord⟩:=hB
  refine wp_region_any hf ?_
  have inv0:HeadInv .any l.toArray m (Array.replicate l.toArray.size false) :=
    ⟨by simp,fun j oj _ hl=>(by rw [getD_replicate_false] at hl;cases hl),fun t _ ht=>getD_in (by simpa using ht) (getD_replicate_false _ _)⟩
  have H:=qZ5 (P:=P) (Q:=Q) (S:=S) hsel (fun _ inv i hi hun t ht=>tail_waits hs hc hm inv _ i rfl hi hun t ht) hQ ord _ a w.drew inv0 hord hS h
  have hdl:(l.drop m).length=l.toArray.size-m:=by simp
  have H2:=qJE (g:=(l.drop m).length) (fun listed a w hL=>wpAny_of_seq (l.drop m) m listed a w (fun j=>by simp) (by rw [hdl];exact hL.1) hL.2) ord.length _ _ _ H
  have e:ord.length+(l.drop m).length=l.toArray.size:=by rw [hlen,hdl];omega
  rw [e] at H2
  exact H2
theorem wm {id:Nat} {l:List Oper} {a:Act} {w:World} (m:Nat) (ord:List (Nat × Bool)) (S:World→Prop) (hS:S w.drew)
    (h:qJm P l.toArray Q S (wpList P l.toArray Q (l.drop m)) ord a w.drew) (hf:P.follows .mixedOrders=true:=by kernel_rfl) (hB:zQw .any l.toArray m ord=true:=by kernel_rfl)
    (hQ:∀c (a:Act) d v w,Q (.panic c) (a.put d v) w→Q (.panic c) a w:=by exact (fun _ _ d _ _ h=>by cases d <;> exact h)):(Code.region id l.toArray true).wp P Q a w:=qWy m ord S hf hB hS hQ h
def qVq (md:Region.Mode) (ops:Array Oper) (ord:List (Nat × Bool)):Bool :=
  Region.noSelect ops && decide (ord.length=ops.size) && mixB md ops ops.size ord (Array.replicate ops.size false)
theorem qYA {id:Nat} {l:List Oper} {a:Act} {w:World} (ord:List (Nat × Bool)) (S:World→Prop) (hf:P.follows .mixedOrders=true) (hB:qVq .any l.toArray ord=true) (hS:S w.drew)
    (hQ:∀c (a:Act) d v w,Q (.panic c) (a.put d v) w→Q (.panic c) a w)
    (h:qJm P l.toArray Q S (fun a w=>Q .normal a w) ord a w.drew):(Code.region id l.toArray true).wp P Q a w:=by
  simp only [qVq,Bool.and_eq_true,decide_eq_true_eq] at hB
  obtain ⟨⟨hsel,hlen⟩,hord⟩:=hB
  refine wp_region_any hf ?_
  have inv0:HeadInv .any l.toArray l.toArray.size (Array.replicate l.toArray.size false) :=
    ⟨by simp,fun j oj _ hl=>(by rw [getD_replicate_false] at hl;cases hl),fun t h1 h2=>absurd h2 (Nat.not_lt.2 h1)⟩
  have hd:l.toArray.toList.drop l.toArray.size = []:=by simp
  have H:=qZ5 (P:=P) (Q:=Q) (S:=S) hsel (fun _ _ i hi hun t ht hr=>by
    obtain ⟨_,o,ho,_⟩:=mem_ready.1 hr
    have:=(Array.getElem?_eq_some_iff.1 ho).1
    omega) hQ ord _ a w.drew inv0 hord hS (by rw [hd];exact h)
  rw [hd] at H
  have H2:=qJE (g:=0) (fun listed a w hL=>by
    have h1:=hL.1
    rw [Nat.sub_self] at h1
    exact (⟨by simpa [Region.seqB] using h1,hL.2⟩:wpAny P .any l.toArray Q 0 listed a w)) ord.length _ _ _ H
  rw [Nat.add_zero,hlen] at H2
  exact H2
theorem wm0 {id:Nat} {l:List Oper} {a:Act} {w:World} (ord:List (Nat × Bool)) (S:World→Prop) (hS:S w.drew) (h:qJm P l.toArray Q S (fun a w=>Q .normal a w) ord a w.drew)
    (hf:P.follows .mixedOrders=true:=by kernel_rfl) (hB:qVq .any l.toArray ord=true:=by kernel_rfl) (hQ:∀c (a:Act) d v w,Q (.panic c) (a.put d v) w→Q (.panic c) a w:=by exact (fun _ _ d _ _ h=>by cases d <;> exact h)):(Code.region id l.toArray true).wp P Q a w:=qYA ord S hf hB hS hQ h
end
end
end Go.Proofs.YtkchopnkdjnocaaGreatDoor
