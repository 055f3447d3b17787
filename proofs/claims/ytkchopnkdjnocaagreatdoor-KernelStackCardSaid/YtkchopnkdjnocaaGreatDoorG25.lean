/-
  Merged texts of one proof: InvQ.
-/
import Derived.Test.YtkchopnkdjnocaaGreatDoorG20

set_option maxHeartbeats 16000000
set_option maxRecDepth 20000
namespace Go.Proofs.YtkchopnkdjnocaaGreatDoor
section
open Go.RowKit Spl
theorem qKK:∀ {l:List Nat} {k a b:Nat},l[k]? = some a→(l.set k b).sum+a=l.sum+b
  | [],k,a,b,h=>by simp at h
  | x::l,0,a,b,h=>by simp at h;subst h;simp;omega
  | x::l,k+1,a,b,h=>by
    have:=qKK (l:=l) (k:=k) (a:=a) (b:=b) (by simpa using h)
    simp only [List.set_cons_succ,List.sum_cons]
    omega
theorem qUv:∀ {l:List Nat} {k a:Nat},l[k]? = some a→a≤l.sum
  | [],k,a,h=>by simp at h
  | x::l,0,a,h=>by simp at h;subst h;simp
  | x::l,k+1,a,h=>by
    have:=qUv (l:=l) (k:=k) (a:=a) (by simpa using h)
    simp only [List.sum_cons]
    omega
def cntL (l:List qQh) (t:Nat):Nat:=l.countP (fun x=>x.task == (t:Int))
def cntQ (qs:List (List qQh)) (t:Nat):Nat:=(qs.map fun l=>cntL l t).sum
theorem qUY (x:qQh) (t:Nat):cntL [x] t=if x.task=t then 1 else 0:=by
  unfold cntL
  by_cases h:x.task=t <;> simp [h]
theorem qYc (l m:List qQh) (t:Nat):cntL (l++m) t=cntL l t+cntL m t:=List.countP_append
theorem qVf (x:qQh) (l:List qQh) (t:Nat):cntL (x::l) t=(if x.task=t then 1 else 0)+cntL l t:=by
  rw [← qUY,← qYc];rfl
theorem qU4:∀(n:Nat) (x:Int),0≤x→((List.range n).map fun t:Nat=>if x=(t:Int) then 1 else 0).sum=if x<n then 1 else 0
  | 0,x,h=>by simp;omega
  | n+1,x,h=>by
    have:=qU4 n x h
    rw [List.range_succ,List.map_append,List.sum_append,this]
    simp only [List.map_cons,List.map_nil,List.sum_cons,List.sum_nil]
    by_cases h1:x<n
    · rw [if_pos h1,if_neg (by omega),if_pos (by omega)];rfl
    · rw [if_neg h1]
      by_cases h2:x=n
      · rw [if_pos h2,if_pos (by omega)];rfl
      · rw [if_neg h2,if_neg (by omega)];rfl
theorem qWc (f g:Nat→Nat):∀l:List Nat,(l.map fun t=>f t+g t).sum=(l.map f).sum+(l.map g).sum
  | []=>rfl
  | t::l=>by
    have:=qWc f g l
    simp only [List.map_cons,List.sum_cons]
    omega
theorem qW1 (f:Nat→Nat) (c:Nat):∀l:List Nat,(∀t∈l,f t≤c)→(l.map f).sum≤l.length*c
  | [],_=>by simp
  | t::l,h=>by
    have h1:=qW1 f c l (fun u hu=>h u (by simp [hu]))
    have h2:=h t (by simp)
    simp only [List.map_cons,List.sum_cons,List.length_cons,Nat.add_mul]
    omega
theorem zQE {n:Nat}:∀ {l:List qQh},(∀x∈l,0≤x.task∧x.task<n)→l.length=((List.range n).map fun t=>cntL l t).sum
  | [],_=>by
    have:∀k:List Nat,(k.map fun t=>cntL [] t).sum=0:=by
      intro k
      induction k with
      | nil=>rfl
      | cons t k ih=>simp only [List.map_cons,List.sum_cons,ih];rfl
    rw [this];rfl
  | x::l,h=>by
    have h1:=zQE (l:=l) (fun y hy=>h y (by simp [hy]))
    have h2:=h x (by simp)
    have h3:(fun t=>cntL (x::l) t)=fun t:Nat=>(if x.task=(t:Int) then 1 else 0)+cntL l t:=by funext t;exact qVf x l t
    rw [h3,qWc,qU4 n x.task h2.1,if_pos h2.2,List.length_cons,h1]
    exact Nat.add_comm _ _
theorem zJ0 {qs:List (List qQh)} {k:Nat} {l:List qQh} (h:qs[k]? = some l) (t:Nat):cntL l t≤cntQ qs t :=
  qUv (k:=k) (by rw [List.getElem?_map,h];rfl)
theorem qUD {qs:List (List qQh)} {k:Nat} {l l':List qQh} (h:qs[k]? = some l) (t:Nat):cntQ (qs.set k l') t+cntL l t=cntQ qs t+cntL l' t:=by
  unfold cntQ
  rw [List.map_set]
  exact qKK (by rw [List.getElem?_map,h];rfl)
structure WqM.Inv (m:WqM) (n:Nat):Prop where
  q:m.qs.length=32
  a:m.act.length=64
  c:∀t,t<64→m.act[t]? = some (cntQ m.qs t:Int)
  c8:∀t,t<64→cntQ m.qs t≤8
  e:∀(k:Nat) (l:List qQh) (x:qQh),m.qs[k]? = some l→x∈l→0≤x.task∧x.task<64∧x.level=k+1∧0≤x.job∧x.job<n
theorem WqM.Inv.len {m:WqM} {n:Nat} (h:m.Inv n) {l:List qQh} (hl:l∈m.qs):l.length≤512:=by
  obtain ⟨k,hk⟩:=List.getElem?_of_mem hl
  rw [zQE (n:=64) (fun x hx=>⟨(h.e k l x hk hx).1,(h.e k l x hk hx).2.1⟩)]
  have:=qW1 (fun t=>cntL l t) 8 (List.range 64) (fun t ht=>Nat.le_trans (zJ0 hk t) (h.c8 t (List.mem_range.1 ht)))
  rw [List.length_range] at this
  omega
theorem WqM.Inv.ok {m:WqM} {n:Nat} (h:m.Inv n):m.Ok:=by
  refine ⟨h.q,h.a,fun l hl=>by have:=h.len hl;omega,fun x hx=>?_⟩
  obtain ⟨t,ht⟩:=List.getElem?_of_mem hx
  have h64:=qQa ht
  rw [h.a] at h64
  have h1:=h.c t h64
  rw [ht] at h1
  injection h1 with h1
  have:=h.c8 t h64
  omega
theorem WqM.Inv.empty (n:Nat):WqM.empty.Inv n:=by
  have h0:∀t k:Nat,cntQ (qJF k) t=0:=by
    intro t k
    unfold qJF
    induction k with
    | zero=>rfl
    | succ k ih =>
      unfold cntQ at ih ⊢
      rw [List.replicate_succ,List.map_cons,List.sum_cons,ih];rfl
  refine ⟨by simp [WqM.empty,qJF],by simp [WqM.empty],fun t ht=>?_,fun t _=>?_,fun k l x hk hx=>?_⟩
  · show (List.replicate 64 (0:Int))[t]? = some (cntQ (qJF 32) t:Int)
    rw [h0,List.getElem?_replicate,if_pos ht];rfl
  · show cntQ (qJF 32) t≤8
    rw [h0];omega
  · have hk2:(List.replicate 32 ([]:List qQh))[k]? = some l:=hk
    rw [List.getElem?_replicate] at hk2
    split at hk2
    · injection hk2 with hk2
      subst hk2
      simp at hx
    · cases hk2
theorem WqM.Inv.put {m:WqM} {n:Nat} (h:m.Inv n) {t l:Int} (hE:m.putE t l n=0):(m.put t l n).Inv (n+1):=by
  unfold WqM.put
  rw [if_pos hE]
  unfold WqM.putE at hE
  split at hE
  · cases hE
  · rename_i hr
    split at hE
    · cases hE
    · rename_i h8
      obtain ⟨i,rfl⟩:=Int.eq_ofNat_of_zero_le (show 0≤t by omega)
      obtain ⟨k,rfl⟩:∃k:Nat,l=k+1:=⟨(l-1).toNat,by omega⟩
      have hk:k<m.qs.length:=by rw [h.q];omega
      have hi:i<64:=by omega
      obtain ⟨L,hL⟩:∃L,m.qs[k]? = some L:=⟨m.qs[k],List.getElem?_eq_getElem hk⟩
      have e1:((k:Int)+1-1).toNat=k:=by omega
      rw [e1,hL,Int.toNat_natCast,Option.getD_some]
      rw [Int.toNat_natCast] at h8
      have hci:=h.c i hi
      rw [hci,Option.getD_some] at h8 ⊢
      have hset:∀t,cntQ (m.qs.set k (L++[⟨n,i,k+1⟩])) t=cntQ m.qs t+if (i:Int)=t then 1 else 0:=by
        intro t
        have h1:=qUD (l':=L++[⟨n,i,k+1⟩]) hL t
        rw [qYc,qUY] at h1
        dsimp only at h1
        omega
      refine ⟨by rw [List.length_set];exact h.q,by rw [List.length_set];exact h.a,fun t ht=>?_,fun t ht=>?_,fun k' l' x hk' hx=>?_⟩
      · dsimp only
        rw [hset]
        by_cases hit:i=t
        · subst hit
          rw [List.getElem?_set_self (by rw [h.a];exact hi),if_pos rfl]
          rfl
        · rw [List.getElem?_set_ne hit,h.c t ht,if_neg (by omega)]
          rfl
      · dsimp only
        rw [hset]
        have:=h.c8 t ht
        by_cases hit:(i:Int)=t
        · have:i=t:=by omega
          subst this
          rw [if_pos rfl]
          omega
        · rw [if_neg hit];omega
      · dsimp only at hk'
        by_cases hkk:k=k'
        · subst hkk
          rw [List.getElem?_set_self hk] at hk'
          injection hk' with hk'
          subst hk'
          rcases List.mem_append.1 hx with hx | hx
          · have:=h.e k L x hL hx
            refine ⟨this.1,this.2.1,this.2.2.1,this.2.2.2.1,by omega⟩
          · rw [List.mem_singleton] at hx
            subst hx
            dsimp only
            omega
        · rw [List.getElem?_set_ne hkk] at hk'
          have:=h.e k' l' x hk' hx
          refine ⟨this.1,this.2.1,this.2.2.1,this.2.2.2.1,by omega⟩
theorem WqM.Inv.take {m:WqM} {n:Nat} (h:m.Inv n):m.take.Inv n:=by
  unfold WqM.take
  cases hh:hiQ m.qs m.qs.length with
  | zero=>exact h
  | succ k =>
    obtain ⟨x,L,hL⟩:=qXo hh
    dsimp only
    rw [hL,Option.getD_some]
    dsimp only
    have hx:=h.e k _ x hL (by simp)
    obtain ⟨i,hi⟩:=Int.eq_ofNat_of_zero_le hx.1
    have hi64:i<64:=by omega
    rw [hi,Int.toNat_natCast,h.c i hi64,Option.getD_some]
    have hset:∀t,cntQ (m.qs.set k L) t+(if (i:Int)=t then 1 else 0)=cntQ m.qs t:=by
      intro t
      have h1:=qUD (l':=L) hL t
      rw [qVf,hi] at h1
      omega
    have hk:=qQa hL
    refine ⟨by rw [List.length_set];exact h.q,by rw [List.length_set];exact h.a,fun t ht=>?_,fun t ht=>?_,fun k' l' y hk' hy=>?_⟩
    · dsimp only
      have h1:=hset t
      by_cases hit:i=t
      · subst hit
        rw [if_pos rfl] at h1
        rw [List.getElem?_set_self (by rw [h.a];exact hi64)]
        congr 1
        omega
      · rw [if_neg (by omega)] at h1
        rw [List.getElem?_set_ne hit,h.c t ht]
        congr 1
        omega
    · dsimp only
      have h1:=hset t
      have:=h.c8 t ht
      omega
    · dsimp only at hk'
      by_cases hkk:k=k'
      · subst hkk
        rw [List.getElem?_set_self hk] at hk'
        injection hk' with hk'
        subst hk'
        exact h.e k _ y hL (by simp [hy])
      · rw [List.getElem?_set_ne hkk] at hk'
        exact h.e k' l' y hk' hy
end
end Go.Proofs.YtkchopnkdjnocaaGreatDoor
