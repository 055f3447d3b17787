/-
  Merged texts of one proof: InvC.
-/
import Derived.Test.YtkchopnkdjnocaaGreatDoorG31

set_option maxHeartbeats 16000000
set_option maxRecDepth 20000
namespace Go.Proofs.YtkchopnkdjnocaaGreatDoor
section
open Go.RowKit Spl
inductive Bal (p:List OpM) (e:List Int):Nat→Nat→Prop
  | nil (a:Nat):Bal p e a a
  | one {a b:Nat} {o:OpM}:Bal p e a b→p[b]? = some o→¬o.kind=10→¬o.kind=11→Bal p e a (b+1)
  | blk {a b c:Nat} {o:OpM}:Bal p e a b→p[b]? = some o→o.kind=10→e[b]? = some (c:Int)→b<c→Bal p e (b+1) c→Bal p e a (c+1)
theorem Bal.le {p:List OpM} {e:List Int} {a b:Nat} (h:Bal p e a b):a≤b:=by
  induction h with
  | nil=>exact Nat.le_refl _
  | one _ _ _ _ ih=>omega
  | blk _ _ _ _ _ _ ih _=>omega
theorem Bal.congr {p:List OpM} {e e':List Int} {a b:Nat} (h:Bal p e a b):(∀i,a≤i→i<b→e'[i]? = e[i]?)→Bal p e' a b:=by
  induction h with
  | nil=>intro _;exact .nil _
  | one h1 h2 h3 h4 ih=>intro k;exact .one (ih fun i a b=>k i a (by omega)) h2 h3 h4
  | blk h1 h2 h3 h4 h5 h6 ih1 ih2 =>
    intro k
    have:=h1.le
    exact .blk (ih1 fun i a b=>k i a (by omega)) h2 h3 (by rw [k _ (by omega) (by omega)];exact h4) h5 (ih2 fun i a b=>k i (by omega) (by omega))
theorem Bal.head {p:List OpM} {e:List Int} {a b:Nat} (h:Bal p e a b):a=b∨∃o,p[a]? = some o∧((¬o.kind=10∧¬o.kind=11∧Bal p e (a+1) b)∨(o.kind=10∧∃c:Nat,e[a]? = some (c:Int)∧Bal p e (a+1) c∧Bal p e (c+1) b)):=by
  induction h with
  | nil=>exact .inl rfl
  | @one a b o h1 h2 h3 h4 ih =>
    refine .inr ?_
    rcases ih with rfl | ⟨x,hx,⟨k1,k2,k3⟩ | ⟨k1,c,k2,k3,k4⟩⟩
    · exact ⟨o,h2,.inl ⟨h3,h4,.nil _⟩⟩
    · exact ⟨x,hx,.inl ⟨k1,k2,.one k3 h2 h3 h4⟩⟩
    · exact ⟨x,hx,.inr ⟨k1,c,k2,k3,.one k4 h2 h3 h4⟩⟩
  | @blk a b c o h1 h2 h3 h4 h5 h6 ih1 ih2 =>
    refine .inr ?_
    rcases ih1 with rfl | ⟨x,hx,⟨k1,k2,k3⟩ | ⟨k1,c',k2,k3,k4⟩⟩
    · exact ⟨o,h2,.inr ⟨h3,c,h4,h6,.nil _⟩⟩
    · exact ⟨x,hx,.inl ⟨k1,k2,.blk k3 h2 h3 h4 h5 h6⟩⟩
    · exact ⟨x,hx,.inr ⟨k1,c',k2,k3,.blk k4 h2 h3 h4 h5 h6⟩⟩
def Chn (p:List OpM) (e:List Int):List Nat→Nat→Prop
  | [],k=>Bal p e 0 k
  | j::r,k=>j<k∧Bal p e (j+1) k∧(∃x,p[j]? = some x∧x.kind=10)∧Chn p e r j
theorem Chn.congr {p:List OpM} {e e':List Int}:∀ {r:List Nat} {k:Nat} (_:Chn p e r k) (_:∀i,i<k→e'[i]? = e[i]?),Chn p e' r k
  | [],k,h,he=>Bal.congr h fun i _ hi=>he i hi
  | j::r,k,⟨h1,h2,h3,h4⟩,he=>⟨h1,h2.congr fun i _ hi=>he i hi,h3,Chn.congr h4 fun i hi=>he i (by omega)⟩
theorem Chn.one {p:List OpM} {e:List Int} {o:OpM} {r:List Nat} {k:Nat} (h:Chn p e r k) (ho:p[k]? = some o) (h1:¬o.kind=10) (h2:¬o.kind=11):Chn p e r (k+1):=by
  cases r with
  | nil=>exact Bal.one h ho h1 h2
  | cons j r =>
    obtain ⟨a,b,c,d⟩:=h
    exact ⟨by omega,b.one ho h1 h2,c,d⟩
theorem Chn.close {p:List OpM} {e:List Int} {r:List Nat} {j k:Nat} (h:Chn p e (j::r) k) (hj:j<e.length):Chn p (e.set j k) r (k+1):=by
  obtain ⟨h1,h2,⟨x,hx,h10⟩,h4⟩:=h
  have e1:(e.set j (k:Int))[j]? = some (k:Int):=List.getElem?_set_self hj
  have h5:Bal p (e.set j k) (j+1) k:=h2.congr fun i a b=>List.getElem?_set_ne (by omega)
  have h6:Chn p (e.set j k) r j:=h4.congr fun i a=>List.getElem?_set_ne (by omega)
  cases r with
  | nil=>exact Bal.blk h6 hx h10 e1 h1 h5
  | cons i r =>
    obtain ⟨a,b,c,d⟩:=h6
    exact ⟨by omega,b.blk hx h10 e1 h1 h5,c,d⟩
def revI (r:List Nat):List Int:=(r.map fun n:Nat=>(n:Int)).reverse
theorem qKP {p:List OpM}:∀ {l:List OpM} {k:Nat} {e:List Int} {r:List Nat} (_:p.drop k=l) (_:k≤p.length) (_:e.length=p.length) (_:Chn p e r k) (_:(qQM l k r.length).2=0),Bal p (qJw l k e (revI r)).1 0 p.length
  | [],k,e,r,hd,hk,he,hc,hg=>by
    have:k=p.length:=by have:=List.drop_eq_nil_iff.1 hd;omega
    rw [qQM] at hg
    split at hg
    · cases hg
    · have h0:r = []:=List.eq_nil_of_length_eq_zero (by omega)
      subst h0;subst this
      exact hc
  | x::l,k,e,r,hd,hk,he,hc,hg=>by
    have hkl:k<p.length:=by
      have:=congrArg List.length hd
      rw [List.length_drop,List.length_cons] at this;omega
    have hx:p[k]? = some x:=by
      have:=congrArg List.head? hd
      rw [List.head?_drop] at this;exact this
    have hd2:p.drop (k+1)=l:=by
      have:=congrArg List.tail hd
      rw [List.tail_drop] at this;exact this
    rw [qQM] at hg
    split at hg
    · cases hg
    · rw [qJw]
      by_cases h10:x.kind=10
      · rw [if_pos h10] at hg ⊢
        split at hg
        · cases hg
        · have e1:revI r++[(k:Int)]=revI (k::r):=by unfold revI;rw [List.map_cons,List.reverse_cons]
          rw [e1]
          exact qKP (r:=k::r) hd2 (by omega) he ⟨by omega,.nil _,⟨x,hx,h10⟩,hc⟩ hg
      · rw [if_neg h10] at hg ⊢
        by_cases h11:x.kind=11
        · rw [if_pos h11] at hg ⊢
          split at hg
          · cases hg
          · cases r with
            | nil=>simp at *
            | cons j r =>
              have e1:(revI (j::r)).getLast?.getD 0=(j:Int):=by unfold revI;simp
              have e2:(revI (j::r)).dropLast=revI r:=by unfold revI;simp
              rw [e1,e2,Int.toNat_natCast]
              have hj:=hc.1
              exact qKP (r:=r) hd2 (by omega) (by rw [List.length_set];exact he) (hc.close (by omega)) hg
        · rw [if_neg h11] at hg ⊢
          exact qKP (r:=r) hd2 (by omega) he (hc.one hx h10 h11) hg
theorem qqB {p:List OpM} (h:(qQW p).2=0):Bal p (qQ6 p) 0 p.length :=
  qKP (r:=[]) rfl (Nat.zero_le _) (by simp [qZF]) (.nil 0) (qK1 h)
theorem qqg {o:OpM} (h:qQL o=true):(1≤o.kind∧o.kind≤11)∧0≤o.n∧o.n≤4096:=by
  unfold qQL at h
  split at h
  · cases h
  · rename_i hk
    refine ⟨by omega,?_⟩
    split at h
    · simp at h;omega
    · split at h
      · simp at h;omega
      · split at h
        · simp at h;omega
        · split at h <;> · simp at h;omega
def zQm (o:OpM):Prop:=1≤o.kind∧o.kind≤8∧0≤o.n∧o.n≤4096
def qV4 (m:WkM):Prop:=∀o∈m.out,zQm o
def qJ2 (r:Bool × WkM):Prop:=if r.1=true then qV4 r.2 else (r.2.over=true∨∃l o,r.2.out=l++[o]∧(∀x∈l,zQm x)∧o.kind=9∧0≤o.n∧o.n≤4096)
theorem qJ2.go {m:WkM} (h:qV4 m):qJ2 (true,m):=by unfold qJ2;rw [if_pos rfl];exact h
theorem qJ2.true_ {r:Bool × WkM} (h:qJ2 r) (h1:r.1=true):qV4 r.2:=by unfold qJ2 at h;rwa [if_pos h1] at h
theorem qYZ {m:WkM} (h:qV4 m) {o:OpM} (ho:zQm o):qJ2 (qZH m o):=by
  unfold qZH
  split
  · unfold qJ2;rw [if_neg (by simp)];exact .inl rfl
  · refine qJ2.go fun x hx=>?_
    rcases List.mem_append.1 hx with hx | hx
    · exact h x hx
    · rw [List.mem_singleton] at hx;subst hx;exact ho
theorem qVV {g:WkM→Bool × WkM} {b:Option Nat} (hg:∀m,qV4 m→qJ2 (g m)):∀(n:Nat) (m:WkM),qV4 m→qJ2 (repW g b n m):=by
  intro n
  induction n with
  | zero=>intro m h;exact qJ2.go h
  | succ n ih =>
    intro m h
    rw [repW]
    split
    · exact hg m h
    · rename_i h1
      have h2:=(hg m h).true_ (by simpa using h1)
      split
      · exact qJ2.go h2
      · exact ih _ h2
theorem qqN {p:List OpM} {ends:List Int} (hf:∀o∈p,qQL o=true):∀(f i to:Nat) (m:WkM),Bal p ends i to→qV4 m→qJ2 (qZI p ends f i to m):=by
  intro f
  induction f with
  | zero=>intro i to m hb h;exact qJ2.go h
  | succ f ih =>
    intro i to m hb h
    rw [qZI]
    split
    · rename_i hlt
      rcases hb.head with he | ⟨o,ho,hb2⟩
      · omega
      · rw [ho]
        dsimp only
        obtain ⟨f1,f2,f3⟩:=qqg (hf o (List.mem_of_getElem? ho))
        rcases hb2 with ⟨k1,k2,k3⟩ | ⟨k1,c,k2,k3,k4⟩
        · rw [if_neg k1]
          by_cases h5:o.kind=5
          · rw [if_pos h5]
            have hr:=qVV (g:=fun m=>qZH m ⟨5,0,1,0⟩) (b:=none) (fun m hm=>qYZ hm (by unfold zQm;simp)) o.n.toNat m h
            split
            · exact hr
            · rename_i h1
              exact ih _ _ _ k3 (hr.true_ (by simpa using h1))
          · rw [if_neg h5]
            by_cases h9:o.kind=9
            · rw [if_pos h9]
              unfold qJ2 qZH
              rw [if_neg (by simp)]
              split
              · exact .inl rfl
              · exact .inr ⟨m.out,o,rfl,h,h9,f2,f3⟩
            · rw [if_neg h9]
              have hr:=qYZ (o:=o) h ⟨f1.1,by omega,f2,f3⟩
              split
              · exact hr
              · rename_i h1
                exact ih _ _ _ k3 (hr.true_ (by simpa using h1))
        · rw [if_pos k1]
          have e1:(ends.getD i 0).toNat=c:=by rw [List.getD_eq_getElem?_getD,k2];simp
          rw [e1]
          have hr:=qVV (g:=qZI p ends f (i+1) c) (b:=some m.out.length) (fun m hm=>ih _ _ _ k3 hm) o.n.toNat m h
          split
          · exact hr
          · rename_i h1
            exact ih _ _ _ k4 (hr.true_ (by simpa using h1))
    · exact qJ2.go h
structure qJq (l:List OpM):Prop where
  ne:0<l.length
  k:∀o∈l,(1≤o.kind∧o.kind≤9) ∧ -100000≤o.n∧o.n≤100000
  e:∀(i:Nat) (o:OpM),l[i]? = some o→¬o.kind=9→i+1<l.length
theorem qJq.of {l:List OpM} {o:OpM} (h:∀x∈l,zQm x) (h9:o.kind=9) (h1:0≤o.n) (h2:o.n≤4096):qJq (l++[o]):=by
  refine ⟨by simp,fun x hx=>?_,fun i x hx hk=>?_⟩
  · rcases List.mem_append.1 hx with hx | hx
    · obtain ⟨a,b,c,d⟩:=h x hx
      omega
    · rw [List.mem_singleton] at hx;subst hx;omega
  · have:=qQa hx
    rw [List.length_append,List.length_singleton] at this ⊢
    by_cases hi:i=l.length
    · subst hi
      rw [List.getElem?_append_right (Nat.le_refl _),Nat.sub_self] at hx
      simp at hx;subst hx
      exact absurd h9 hk
    · omega
theorem qqJ {p:List OpM} (h:(qZj p).2=0):qJq (qZj p).1:=by
  unfold qZj at h ⊢
  split at h
  · rename_i hc
    rw [if_pos hc]
    split at h
    · cases h
    · rename_i ho
      rw [if_neg ho]
      have hp:=qqN (qWe (qK1 hc)) (p.length+1) 0 p.length ⟨[],false⟩ (qqB hc) (fun o ho=>by cases ho)
      unfold qZ0 at ho ⊢
      split at ho
      · rename_i h1
        rw [if_pos h1]
        have hg:=hp.true_ h1
        unfold qZH at ho ⊢
        split at ho
        · exact absurd rfl ho
        · rename_i h2
          rw [if_neg h2]
          exact .of hg rfl (by simp) (by simp)
      · rename_i h1
        rw [if_neg h1]
        unfold qJ2 at hp
        rw [if_neg h1] at hp
        rcases hp with hp | ⟨l,o,e1,e2,e3,e4,e5⟩
        · exact absurd hp ho
        · rw [e1];exact .of e2 e3 e4 e5
  · rename_i hc
    exact absurd h hc
end
end Go.Proofs.YtkchopnkdjnocaaGreatDoor
