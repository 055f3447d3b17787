/-
  Merged texts of one proof: UnI, UnI2, UnI3, UnI4, Hol1, Hol2, Hol3, Hol4, InvU.
-/
import Derived.Test.YtkchopnkdjnocaaGreatDoorG07
import Derived.Test.YtkchopnkdjnocaaGreatDoorG25
import Derived.Test.YtkchopnkdjnocaaGreatDoorG32

set_option maxHeartbeats 16000000
set_option maxRecDepth 20000
namespace Go.Proofs.YtkchopnkdjnocaaGreatDoor
section
open Go.RowKit Spl
def qXx (l:List qZQ) (r:Nat):Int:=(l.map fun x:qZQ=>if x.res=(r:Int) then x.units else 0).sum
def qQD (l:List JobM) (r:Nat):Int:=(l.map fun j=>j.h.held[r]?.getD 0).sum
structure UnM.Inv (m:UnM):Prop where
  u16:m.units.length≤16
  uv:∀x∈m.units,1≤x∧x≤255
  cl:m.cells.length=m.units.length
  fl:m.free.length=m.units.length
  s:qQ9 m.jobs
  hl:∀j∈m.jobs,j.h.held.length=16
  hv:∀j∈m.jobs,∀(r:Nat) (h:Int),j.h.held[r]? = some h→h=qXx j.h.locks r
  lk:∀j∈m.jobs,j.h.locks ≠ []∧∀x∈j.h.locks,0≤x.res∧x.res<m.units.length∧1≤x.units∧x.units≤255
  fr:∀(r:Nat) (F U:Int),m.free[r]? = some F→m.units[r]? = some U→0≤F∧F+qQD m.jobs r=U
theorem qYy (r:Nat):qXx [] r=0:=rfl
theorem qZ7 (x:qZQ) (l:List qZQ) (r:Nat):qXx (x::l) r=(if x.res=r then x.units else 0)+qXx l r:=rfl
theorem qYW (x:qZQ) (l:List qZQ) (r:Nat):qXx (l++[x]) r=qXx l r+(if x.res=r then x.units else 0):=by
  induction l with
  | nil=>simp [qXx]
  | cons y l ih=>rw [List.cons_append,qZ7,ih,qZ7];omega
theorem qVu {l:List qZQ} (h:∀x∈l,1≤x.units) (r:Nat):0≤qXx l r:=by
  induction l with
  | nil=>exact Int.le_refl _
  | cons y l ih =>
    rw [qZ7]
    have h1:=h y (List.mem_cons_self ..)
    have h2:=ih (fun x hx=>h x (List.mem_cons_of_mem _ hx))
    split <;> omega
theorem qW8 {l:List qZQ} {n r:Nat} (h:∀x∈l,x.res<(n:Int)) (hr:n≤r):qXx l r=0:=by
  induction l with
  | nil=>rfl
  | cons y l ih =>
    rw [qZ7,ih (fun x hx=>h x (List.mem_cons_of_mem _ hx))]
    have h1:=h y (List.mem_cons_self ..)
    rw [if_neg (by omega)]
    rfl
theorem qQH (j:JobM) (l:List JobM) (r:Nat):qQD (j::l) r=j.h.held[r]?.getD 0+qQD l r:=rfl
theorem qK0 (l1 l2:List JobM) (r:Nat):qQD (l1++l2) r=qQD l1 r+qQD l2 r:=by
  induction l1 with
  | nil=>simp [qQD]
  | cons j l ih=>rw [List.cons_append,qQH,ih,qQH];omega
theorem qXD {l:List JobM} {r:Nat} (h:∀j∈l,0≤j.h.held[r]?.getD 0):0≤qQD l r:=by
  induction l with
  | nil=>exact Int.le_refl _
  | cons j l ih =>
    rw [qQH]
    have h1:=h j (List.mem_cons_self ..)
    have h2:=ih (fun x hx=>h x (List.mem_cons_of_mem _ hx))
    omega
theorem qWf {l:List JobM} {r:Nat} (h:∀j∈l,0≤j.h.held[r]?.getD 0):∀j∈l,j.h.held[r]?.getD 0≤qQD l r:=by
  induction l with
  | nil=>intro j hj;cases hj
  | cons k l ih =>
    intro j hj
    rw [qQH]
    have h1:=h k (List.mem_cons_self ..)
    have h3:=qXD (fun x hx=>h x (List.mem_cons_of_mem _ hx))
    rcases List.mem_cons.1 hj with e | hj
    · subst e;omega
    · have:=ih (fun x hx=>h x (List.mem_cons_of_mem _ hx)) j hj
      omega
theorem qK7 {l:List JobM} {i:Nat} {j j':JobM} (hj:l[i]? = some j) (r:Nat):qQD (l.set i j') r=qQD l r-j.h.held[r]?.getD 0+j'.h.held[r]?.getD 0:=by
  induction l generalizing i with
  | nil=>simp at hj
  | cons k l ih =>
    cases i with
    | zero =>
      simp at hj
      subst hj
      rw [List.set_cons_zero,qQH,qQH]
      omega
    | succ i =>
      rw [List.set_cons_succ,qQH,qQH,ih (by simpa using hj)]
      omega
theorem qWv {l:List JobM} {i:Nat} {j:JobM} (hj:l[i]? = some j) (r:Nat):qQD (l.eraseIdx i) r=qQD l r-j.h.held[r]?.getD 0:=by
  induction l generalizing i with
  | nil=>simp at hj
  | cons k l ih =>
    cases i with
    | zero =>
      simp at hj
      subst hj
      rw [List.eraseIdx_cons_zero,qQH]
      omega
    | succ i =>
      rw [List.eraseIdx_cons_succ,qQH,qQH,ih (by simpa using hj)]
      omega
theorem qUh (l:List JobM) (i:Nat) (j:JobM) (r:Nat):qQD (l.take i++j::l.drop i) r=qQD l r+j.h.held[r]?.getD 0:=by
  rw [qK0,qQH]
  have h:qQD (l.take i++l.drop i) r=qQD l r:=by rw [List.take_append_drop]
  rw [qK0] at h
  omega
theorem UnM.Inv.pos {m:UnM} (h:m.Inv):∀j∈m.jobs,∀r:Nat,0≤j.h.held[r]?.getD 0:=by
  intro j hj r
  cases hr:j.h.held[r]? with
  | none=>exact Int.le_refl _
  | some x =>
    rw [Option.getD_some,h.hv j hj r x hr]
    exact qVu (fun x hx=>((h.lk j hj).2 x hx).2.2.1) r
theorem UnM.Inv.held {m:UnM} (h:m.Inv):∀j∈m.jobs,∀x∈j.h.held,0≤x∧x≤255:=by
  intro j hj x hx
  obtain ⟨r,hr⟩:=List.getElem?_of_mem hx
  have h0:=h.pos j hj r
  rw [hr,Option.getD_some] at h0
  refine ⟨h0,?_⟩
  by_cases hlt:r<m.units.length
  · have hU:m.units[r]? = some m.units[r]:=List.getElem?_eq_getElem hlt
    have hF:m.free[r]? = some (m.free[r]'(by rw [h.fl];exact hlt)):=List.getElem?_eq_getElem _
    have h1:=h.fr r _ _ hF hU
    have h2:=qWf (fun j hj=>h.pos j hj r) j hj
    rw [hr,Option.getD_some] at h2
    have h3:=h.uv _ (List.getElem_mem hlt)
    omega
  · have h1:=h.hv j hj r x hr
    rw [qW8 (n:=m.units.length) (fun x hx=>((h.lk j hj).2 x hx).2.1) (by omega)] at h1
    omega
theorem UnM.Inv.free {m:UnM} (h:m.Inv):∀x∈m.free,0≤x∧x≤255:=by
  intro x hx
  obtain ⟨r,hr⟩:=List.getElem?_of_mem hx
  have hlt:=qQa hr
  rw [h.fl] at hlt
  have hU:m.units[r]? = some m.units[r]:=List.getElem?_eq_getElem hlt
  have h1:=h.fr r _ _ hr hU
  have h2:=qXD (fun j hj=>h.pos j hj r)
  have h3:=h.uv _ (List.getElem_mem hlt)
  omega
theorem UnM.Inv.ok3 {m:UnM} (h:m.Inv):m.Ok3:=⟨h.lk⟩
end
section
open Go.RowKit Spl
theorem qXk {α K:Type} [KLt K] [qQ8 α K] (y:α) (l:List α) (k:K):pos (y::l) k=if KLt.lt (qQ8.key y:K) k=true then pos l k+1 else 0:=by
  unfold pos
  rw [List.takeWhile_cons]
  split <;> simp [*]
theorem qX9 {α K:Type} [KLt K] [qQ8 α K] {l:List α} {k:K} {x:α} (hs:qQ9 l) (hk:(qQ8.key x:K)=k) (hn:qQs l k=none):qQ9 (l.take (pos l k)++x::l.drop (pos l k)):=by
  induction l with
  | nil=>exact List.pairwise_singleton ..
  | cons y l ih =>
    have h2:=List.pairwise_cons.1 hs
    by_cases hlt:KLt.lt (qQ8.key y:K) k=true
    · have hp:pos (y::l) k=pos l k+1:=by rw [qXk,if_pos hlt]
      have hn2:qQs l k=none:=by
        unfold qQs at hn ⊢
        rw [hp,List.getElem?_cons_succ] at hn
        exact hn
      rw [hp,List.take_succ_cons,List.drop_succ_cons,List.cons_append]
      refine List.pairwise_cons.2 ⟨?_,ih h2.2 hn2⟩
      intro z hz
      rcases List.mem_append.1 hz with h | h
      · exact h2.1 z (List.mem_of_mem_take h)
      · rcases List.mem_cons.1 h with e | h
        · subst e;rw [hk];exact hlt
        · exact h2.1 z (List.mem_of_mem_drop h)
    · have hp:pos (y::l) k=0:=by rw [qXk,if_neg hlt]
      have hky:KLt.lt k (qQ8.key y:K)=true:=by
        unfold qQs at hn
        rw [hp,List.getElem?_cons_zero] at hn
        dsimp only at hn
        split at hn
        · assumption
        · cases hn
      rw [hp,List.take_zero,List.drop_zero,List.nil_append]
      refine List.pairwise_cons.2 ⟨?_,hs⟩
      intro z hz
      rw [hk]
      rcases List.mem_cons.1 hz with e | h
      · subst e;exact hky
      · exact KLt.tr hky (h2.1 z h)
theorem qUA {α:Type} {l:List α} {i:Nat} {x y:α} (h:y∈l.take i++x::l.drop i):y=x∨y∈l:=by
  rcases List.mem_append.1 h with h | h
  · exact .inr (List.mem_of_mem_take h)
  · rcases List.mem_cons.1 h with e | h
    · exact .inl e
    · exact .inr (List.mem_of_mem_drop h)
theorem qq5 {m:UnM} {job n need:Int} {r:Nat} (hE:m.lockE job r n need=0):0≤job∧r<m.units.length∧1≤n∧n≤m.units[r]?.getD 0∧n≤m.free[r]?.getD 0:=by
  unfold UnM.lockE at hE
  rw [Int.toNat_natCast] at hE
  by_cases a1:job<0∨(r:Int)<0∨(m.units.length:Int)≤r∨n<1∨m.units[r]?.getD 0<n
  · rw [if_pos a1] at hE;cases hE
  rw [if_neg a1] at hE
  split at hE
  · cases hE
  split at hE
  · cases hE
  omega
theorem UnM.Inv.locked {m:UnM} (h:m.Inv) {job n need:Int} {r:Nat} (hE:m.lockE job r n need=0):(m.locked job r n).Inv:=by
  obtain ⟨z1,z2,z3,z4,z5⟩:=qq5 hE
  have hU:m.units[r]? = some m.units[r]:=List.getElem?_eq_getElem z2
  have hF:m.free[r]? = some (m.free[r]'(by rw [h.fl];exact z2)):=List.getElem?_eq_getElem _
  obtain ⟨F,hF0⟩:∃F,m.free[r]? = some F:=⟨_,hF⟩
  obtain ⟨U,hU0⟩:∃U,m.units[r]? = some U:=⟨_,hU⟩
  have hUb:=h.uv U (List.mem_of_getElem? hU0)
  rw [hF0,Option.getD_some] at z5
  rw [hU0,Option.getD_some] at z4
  have hu16:=h.u16
  unfold UnM.locked
  rw [hF0,Option.getD_some]
  cases hrow:qQs m.jobs job with
  | some j =>
    dsimp only
    obtain ⟨hpos,hkey⟩:=qQv h.s hrow
    have hmem:=List.mem_of_getElem? hpos
    have hl16:=h.hl j hmem
    obtain ⟨hd,hhd⟩:∃hd,j.h.held[r]? = some hd:=⟨j.h.held[r]'(by omega),List.getElem?_eq_getElem _⟩
    rw [hhd,Option.getD_some]
    have hdv:=h.hv j hmem r hd hhd
    have hks:=qKN (K:=Int) (y:=(⟨j.job,⟨j.h.locks++[⟨(r:Int),n⟩],j.h.held.set r (hd+n)⟩⟩:JobM)) hpos rfl
    refine ⟨h.u16,h.uv,h.cl,by rw [List.length_set];exact h.fl,qXL hks.symm h.s,?_,?_,?_,?_⟩
    · intro j' hj'
      rcases List.mem_or_eq_of_mem_set hj' with q | q
      · exact h.hl j' q
      · rw [q];dsimp only;rw [List.length_set];exact hl16
    · intro j' hj' k x hx
      rcases List.mem_or_eq_of_mem_set hj' with q | q
      · exact h.hv j' q k x hx
      · rw [q] at hx ⊢
        dsimp only at hx ⊢
        rw [qYW]
        by_cases hk:r=k
        · subst hk
          rw [List.getElem?_set_self (qQa hhd)] at hx
          injection hx with hx
          dsimp only
          rw [if_pos rfl]
          omega
        · rw [List.getElem?_set_ne hk] at hx
          have:=h.hv j hmem k x hx
          dsimp only
          rw [if_neg (by omega)]
          omega
    · intro j' hj'
      rcases List.mem_or_eq_of_mem_set hj' with q | q
      · exact h.lk j' q
      · rw [q]
        refine ⟨by simp,?_⟩
        intro x hx
        rcases List.mem_append.1 hx with hx | hx
        · exact (h.lk j hmem).2 x hx
        · rw [List.mem_singleton.1 hx]
          dsimp only
          omega
    · intro k F' U' hF' hU'
      dsimp only at hF' hU' ⊢
      rw [qK7 hpos]
      dsimp only
      by_cases hk:r=k
      · subst hk
        rw [List.getElem?_set_self (qQa hF0)] at hF'
        injection hF' with hF'
        have h1:=h.fr r F U' hF0 hU'
        rw [List.getElem?_set_self (qQa hhd),hhd,Option.getD_some,Option.getD_some]
        omega
      · rw [List.getElem?_set_ne hk] at hF'
        have h1:=h.fr k F' U' hF' hU'
        rw [List.getElem?_set_ne hk]
        omega
  | none =>
    dsimp only
    rw [Int.zero_add]
    have h16:(List.replicate 16 (0:Int)).length=16:=by simp
    refine ⟨h.u16,h.uv,h.cl,by rw [List.length_set];exact h.fl,qX9 h.s rfl hrow,?_,?_,?_,?_⟩
    · intro j' hj'
      rcases qUA hj' with q | q
      · rw [q];dsimp only;rw [List.length_set];exact h16
      · exact h.hl j' q
    · intro j' hj' k x hx
      rcases qUA hj' with q | q
      · rw [q] at hx ⊢
        dsimp only at hx ⊢
        rw [qZ7,qYy]
        dsimp only
        by_cases hk:r=k
        · subst hk
          rw [List.getElem?_set_self (by omega)] at hx
          injection hx with hx
          rw [if_pos rfl]
          omega
        · rw [List.getElem?_set_ne hk,List.getElem?_replicate] at hx
          rw [if_neg (by omega)]
          split at hx
          · injection hx with hx;omega
          · cases hx
      · exact h.hv j' q k x hx
    · intro j' hj'
      rcases qUA hj' with q | q
      · rw [q]
        refine ⟨by simp,?_⟩
        intro x hx
        rw [List.mem_singleton.1 hx]
        dsimp only
        omega
      · exact h.lk j' q
    · intro k F' U' hF' hU'
      dsimp only at hF' hU' ⊢
      rw [qUh]
      dsimp only
      by_cases hk:r=k
      · subst hk
        rw [List.getElem?_set_self (qQa hF0)] at hF'
        injection hF' with hF'
        have h1:=h.fr r F U' hF0 hU'
        rw [List.getElem?_set_self (by omega),Option.getD_some]
        omega
      · rw [List.getElem?_set_ne hk] at hF'
        have h1:=h.fr k F' U' hF' hU'
        rw [List.getElem?_set_ne hk,List.getElem?_replicate]
        split <;> simp <;> omega
theorem UnM.Inv.stored {m:UnM} (h:m.Inv) (r:Nat) (v:Int):(m.stored r v).Inv:=⟨h.u16,h.uv,by unfold UnM.stored;rw [List.length_set];exact h.cl,h.fl,h.s,h.hl,h.hv,h.lk,h.fr⟩
end
section
open Go.RowKit Spl
theorem qYv {α:Type} {l:List α} {i:Nat} {x:α} (h:x∈l.eraseIdx i):x∈l:=(List.eraseIdx_sublist l i).mem h
theorem UnM.Inv.popped {m:UnM} (h:m.Inv) (job:Int):(m.popped job).Inv:=by
  unfold UnM.popped
  cases hrow:qQs m.jobs job with
  | none=>exact h
  | some j =>
    dsimp only
    obtain ⟨hpos,hkey⟩:=qQv h.s hrow
    have hmem:=List.mem_of_getElem? hpos
    have hl16:=h.hl j hmem
    obtain ⟨hne,hlk⟩:=h.lk j hmem
    obtain ⟨l,x,hl⟩:∃l x,j.h.locks=l++[x]:=⟨_,_,(List.dropLast_concat_getLast hne).symm⟩
    have h1:j.h.locks.getLast? = some x:=by rw [hl];simp
    have h2:j.h.locks.length=l.length+1:=by rw [hl];simp
    have h3:j.h.locks.dropLast=l:=by rw [hl];simp
    rw [h1]
    dsimp only
    rw [h2,h3]
    obtain ⟨x1,x2,x3,x4⟩:=hlk x (by rw [hl];simp)
    have hu16:=h.u16
    obtain ⟨r,hr⟩:∃r:Nat,x.res=r:=⟨x.res.toNat,by omega⟩
    rw [hr,Int.toNat_natCast]
    have hrl:r<m.units.length:=by omega
    obtain ⟨F,hF0⟩:∃F,m.free[r]? = some F:=⟨m.free[r]'(by rw [h.fl];exact hrl),List.getElem?_eq_getElem _⟩
    obtain ⟨U,hU0⟩:∃U,m.units[r]? = some U:=⟨m.units[r],List.getElem?_eq_getElem hrl⟩
    obtain ⟨hd,hhd⟩:∃hd,j.h.held[r]? = some hd:=⟨j.h.held[r]'(by omega),List.getElem?_eq_getElem _⟩
    rw [hF0,hhd,Option.getD_some,Option.getD_some]
    have hlkl:∀y∈l,0≤y.res∧y.res<m.units.length∧1≤y.units∧y.units≤255:=fun y hy=>hlk y (by rw [hl];exact List.mem_append_left _ hy)
    have hsum:∀(k:Nat) (v:Int),j.h.held[k]? = some v→v=qXx l k+(if r=k then x.units else 0):=by
      intro k v hv
      have:=h.hv j hmem k v hv
      rw [hl,qYW] at this
      rw [this]
      by_cases hk:r=k
      · rw [if_pos hk,if_pos (by omega)]
      · rw [if_neg hk,if_neg (by omega)]
    have hFr:=h.fr r F U hF0 hU0
    have hfar:∀(k:Nat),r≠k→(m.free.set r (F+x.units))[k]? = m.free[k]?:=fun k hk=>List.getElem?_set_ne hk
    by_cases hz:l.length=0
    · rw [if_pos (by omega)]
      have hl0:l = []:=List.eq_nil_of_length_eq_zero hz
      refine ⟨h.u16,h.uv,h.cl,by rw [List.length_set];exact h.fl,h.s.sublist (List.eraseIdx_sublist _ _),?_,?_,?_,?_⟩
      · exact fun j' hj'=>h.hl j' (qYv hj')
      · exact fun j' hj'=>h.hv j' (qYv hj')
      · exact fun j' hj'=>h.lk j' (qYv hj')
      · intro k F' U' hF' hU'
        dsimp only at hF' hU' ⊢
        rw [qWv hpos]
        by_cases hk:r=k
        · subst hk
          rw [List.getElem?_set_self (qQa hF0)] at hF'
          injection hF' with hF'
          rw [hU0] at hU'
          injection hU' with hU'
          have h4:=hsum r hd hhd
          rw [if_pos rfl,hl0,qYy] at h4
          rw [hhd,Option.getD_some]
          omega
        · rw [hfar k hk] at hF'
          have h4:=h.fr k F' U' hF' hU'
          cases hkd:j.h.held[k]? with
          | none=>simp;omega
          | some v =>
            have h5:=hsum k v hkd
            rw [if_neg hk,hl0,qYy] at h5
            rw [Option.getD_some]
            omega
    · rw [if_neg (by omega)]
      have hks:=qKN (K:=Int) (y:=(⟨j.job,⟨l,j.h.held.set r (hd-x.units)⟩⟩:JobM)) hpos rfl
      refine ⟨h.u16,h.uv,h.cl,by rw [List.length_set];exact h.fl,qXL hks.symm h.s,?_,?_,?_,?_⟩
      · intro j' hj'
        rcases List.mem_or_eq_of_mem_set hj' with q | q
        · exact h.hl j' q
        · rw [q];dsimp only;rw [List.length_set];exact hl16
      · intro j' hj' k v hv
        rcases List.mem_or_eq_of_mem_set hj' with q | q
        · exact h.hv j' q k v hv
        · rw [q] at hv ⊢
          dsimp only at hv ⊢
          by_cases hk:r=k
          · subst hk
            rw [List.getElem?_set_self (qQa hhd)] at hv
            injection hv with hv
            have h4:=hsum r hd hhd
            rw [if_pos rfl] at h4
            omega
          · rw [List.getElem?_set_ne hk] at hv
            have h4:=hsum k v hv
            rw [if_neg hk] at h4
            omega
      · intro j' hj'
        rcases List.mem_or_eq_of_mem_set hj' with q | q
        · exact h.lk j' q
        · rw [q]
          exact ⟨fun e=>hz (by rw [show l = [] from e];rfl),hlkl⟩
      · intro k F' U' hF' hU'
        dsimp only at hF' hU' ⊢
        rw [qK7 hpos]
        dsimp only
        by_cases hk:r=k
        · subst hk
          rw [List.getElem?_set_self (qQa hF0)] at hF'
          injection hF' with hF'
          rw [hU0] at hU'
          injection hU' with hU'
          rw [List.getElem?_set_self (qQa hhd),hhd,Option.getD_some,Option.getD_some]
          omega
        · rw [hfar k hk] at hF'
          have h4:=h.fr k F' U' hF' hU'
          rw [List.getElem?_set_ne hk]
          omega
theorem UnM.Inv.popN {m:UnM} (h:m.Inv) (job:Int):∀k,(m.popN job k).Inv
  | 0=>h
  | k+1=>(UnM.Inv.popN h job k).popped job
theorem UnM.Inv.new {units:List Int} (hc:qYF units=0):(UnM.mk units units (List.replicate units.length 0) []).Inv:=by
  unfold qYF at hc
  split at hc
  · cases hc
  rename_i h2
  split at hc
  · rename_i h3
    have hall:∀x∈units,1≤x∧x≤255:=by
      intro x hx
      have:=List.all_eq_true.1 h3 x hx
      simpa using this
    refine ⟨by dsimp only;omega,hall,by simp,rfl,List.Pairwise.nil,fun j hj=>(by cases hj),fun j hj=>(by cases hj),fun j hj=>(by cases hj),?_⟩
    intro r F U hF hU
    dsimp only at hF hU ⊢
    rw [hF] at hU
    injection hU with hU
    have:=hall F (List.mem_of_getElem? hF)
    have e:qQD [] r=0:=rfl
    rw [e]
    omega
  · cases hc
end
section
open Go.RowKit Spl
def tot (f:Nat→Int):Nat→Int
  | 0=>0
  | n+1=>tot f n+f n
theorem qWu (f g:Nat→Int):∀n,tot (fun r=>f r+g r) n=tot f n+tot g n
  | 0=>rfl
  | n+1=>by
    have:=qWu f g n
    show tot (fun r=>f r+g r) n+(f n+g n)=(tot f n+f n)+(tot g n+g n)
    omega
theorem qUM {f g:Nat→Int}:∀ {n:Nat} (_:∀r,r<n→f r≤g r),tot f n≤tot g n
  | 0,_=>Int.le_refl _
  | n+1,h=>by
    have h1:=qUM (n:=n) (fun r hr=>h r (by omega))
    have h2:=h n (by omega)
    show tot f n+f n≤tot g n+g n
    omega
theorem qXi (c:Int):∀n:Nat,tot (fun _=>c) n=n*c
  | 0=>by simp [tot]
  | n+1=>by
    show tot (fun _=>c) n+c=((n+1:Nat):Int)*c
    rw [qXi c n]
    push_cast
    rw [Int.add_mul,Int.one_mul]
theorem zQ4 (k:Nat) (u:Int):∀n:Nat,tot (fun r=>if (k:Int)=(r:Int) then u else 0) n=if k<n then u else 0
  | 0=>rfl
  | n+1=>by
    have h1:=zQ4 k u n
    show tot (fun r=>if (k:Int)=(r:Int) then u else 0) n+(if (k:Int)=(n:Int) then u else 0)=_
    rw [h1]
    by_cases a:k<n
    · rw [if_pos a,if_neg (by omega),if_pos (by omega)];omega
    · rw [if_neg a]
      by_cases b:k=n
      · rw [if_pos (by omega),if_pos (by omega)];omega
      · rw [if_neg (by omega),if_neg (by omega)];rfl
theorem zX3 {l:List qZQ} (h:∀x∈l,0≤x.res∧x.res<16∧1≤x.units):(l.length:Int)≤tot (qXx l) 16:=by
  induction l with
  | nil =>
    show (0:Int)≤tot (fun r=>qXx [] r) 16
    have:tot (fun r=>qXx [] r) 16=0:=by rw [show (fun r=>qXx [] r)=fun _=>(0:Int) from rfl,qXi];rfl
    omega
  | cons y l ih =>
    have h1:=ih (fun x hx=>h x (List.mem_cons_of_mem _ hx))
    obtain ⟨a,b,c⟩:=h y (List.mem_cons_self ..)
    obtain ⟨k,hk⟩:∃k:Nat,y.res=k:=⟨y.res.toNat,by omega⟩
    have e:tot (qXx (y::l)) 16=tot (fun r=>if (k:Int)=(r:Int) then y.units else 0) 16+tot (qXx l) 16:=by
      rw [← qWu]
      congr 1
      funext r
      rw [qZ7,hk]
    rw [e,zQ4,if_pos (by omega)]
    simp only [List.length_cons]
    omega
theorem UnM.Inv.lkTot {m:UnM} (h:m.Inv):∀j∈m.jobs,(j.h.locks.length:Int)≤tot (fun r=>j.h.held[r]?.getD 0) 16:=by
  intro j hj
  have h1:=zX3 (l:=j.h.locks) (fun x hx=>by have:=(h.lk j hj).2 x hx;have:=h.u16;omega)
  refine Int.le_trans h1 (qUM ?_)
  intro r hr
  have hlen:=h.hl j hj
  have e:j.h.held[r]? = some (j.h.held[r]'(by omega)):=List.getElem?_eq_getElem _
  rw [e,Option.getD_some,← h.hv j hj r _ e]
  exact Int.le_refl _
theorem zZ0 {l:List JobM} (h:∀j∈l,(1:Int)≤tot (fun r=>j.h.held[r]?.getD 0) 16):(l.length:Int)≤tot (qQD l) 16:=by
  induction l with
  | nil =>
    show (0:Int)≤tot (fun r=>qQD [] r) 16
    have:tot (fun r=>qQD [] r) 16=0:=by rw [show (fun r=>qQD [] r)=fun _=>(0:Int) from rfl,qXi];rfl
    omega
  | cons y l ih =>
    have h1:=ih (fun x hx=>h x (List.mem_cons_of_mem _ hx))
    have h2:=h y (List.mem_cons_self ..)
    have e:tot (qQD (y::l)) 16=tot (fun r=>y.h.held[r]?.getD 0) 16+tot (qQD l) 16:=by
      rw [← qWu]
      rfl
    rw [e]
    simp only [List.length_cons]
    omega
theorem UnM.Inv.heldTop {m:UnM} (h:m.Inv):tot (qQD m.jobs) 16≤4080:=by
  have h1:tot (qQD m.jobs) 16≤tot (fun _=>(255:Int)) 16:=by
    refine qUM ?_
    intro r _
    by_cases hlt:r<m.units.length
    · have hU:m.units[r]? = some m.units[r]:=List.getElem?_eq_getElem hlt
      have hF:m.free[r]? = some (m.free[r]'(by rw [h.fl];exact hlt)):=List.getElem?_eq_getElem _
      have h1:=h.fr r _ _ hF hU
      have h3:=h.uv _ (List.getElem_mem hlt)
      omega
    · have hz:∀l:List JobM,(∀j∈l,j.h.held[r]?.getD 0=0)→qQD l r=0:=by
        intro l
        induction l with
        | nil=>intro _;rfl
        | cons y l ih =>
          intro hl
          rw [qQH,ih (fun j hj=>hl j (List.mem_cons_of_mem _ hj)),hl y (List.mem_cons_self ..)]
          rfl
      rw [hz m.jobs ?_]
      · omega
      · intro j hj
        cases hx:j.h.held[r]? with
        | none=>rfl
        | some x =>
          rw [Option.getD_some,h.hv j hj r x hx]
          exact qW8 (n:=m.units.length) (fun x hx=>((h.lk j hj).2 x hx).2.1) (by omega)
  rw [qXi] at h1
  omega
theorem UnM.Inv.locksLe {m:UnM} (h:m.Inv):∀j∈m.jobs,j.h.locks.length≤5000:=by
  intro j hj
  have h1:=h.lkTot j hj
  have h2:tot (fun r=>j.h.held[r]?.getD 0) 16≤tot (qQD m.jobs) 16:=qUM (fun r _=>qWf (fun j hj=>h.pos j hj r) j hj)
  have h3:=h.heldTop
  omega
theorem UnM.Inv.jobsLe {m:UnM} (h:m.Inv):m.jobs.length≤5000:=by
  have h1:=zZ0 (l:=m.jobs) (fun j hj=>by
    have h2:=h.lkTot j hj
    have h3:=List.length_pos_iff.2 (h.lk j hj).1
    omega)
  have h3:=h.heldTop
  omega
theorem UnM.Inv.ok {m:UnM} (h:m.Inv):m.Ok:=⟨h.s,h.jobsLe,h.hl⟩
theorem UnM.Inv.ok2 {m:UnM} (h:m.Inv):m.Ok2:=⟨h.u16,h.fl,h.cl,h.uv,h.free,fun j hj=>⟨h.held j hj,h.locksLe j hj⟩⟩
end
section
open Go.RowKit Spl
theorem zZL:(Tryz.prog.info? 246).map (fun i=>(i.zero,i.size,i.bytes))=some (some (.agg #[.int .i64 0,.pointer none]),2,16):=by kernel_rfl
section
variable {w0 w:World} {R:List Pr} {l:List RowH}
theorem qYb (H:Hd w0 R w) (hn:l.length≤100000) {n:Nat} (hnl:n=l.length) {A:Option Addr} {cap:Nat} (hA:A=none→l.length=0)
    (hs:∀ {w1:World},Hd w0 R w1→∀ad,A=some ad→∀(j:Nat) (u:Value),(flat l)[j]? = some u→w1.cell? (ad.add j)=some u) :
    Calls Tryz.prog 118 #[.slice A n cap] w fun e w'=>∃g,e=.returned (.slice (some ⟨g,0,none⟩) l.length l.length)∧Hd w0 (SlEC 246 g l.length l::R) w':=by
  subst hnl
  obtain ⟨i0,hi,hz0,hz1,hz2⟩:=info_parts zZL
  have hfl:=Lib.hid (qQf l)
  go_enter Tryz.func118,Tryz.ntmps118
  go_wp2_with (first | (at_make;refine qQn rfl _ _ 169 rfl 246 i0 _ 2 Tryz.underlying169 hi hz0 hz1 rfl _ _ _ _ 0 l.length rfl rfl rfl rfl (by omega) (by rw [hz2];omega) (by unfold maxLen;omega) H ?_;intro w1 H1;rw [qQw] at H1;have hs1:=hs H1.tail) | (at_builtin;refine qQl rfl _ _ 169 rfl 246 i0 2 Tryz.underlying169 hi hz1 _ 0 l.length [] rfl H1 _ l.length _ (flat l) rfl hfl.out hA hs1 (qQx l) (by omega) ?_;intro w2 H2;rw [Nat.zero_add]))
  go_ret
  exact ⟨_,rfl,by rw [List.nil_append,Nat.zero_add] at H2;exact H2⟩
theorem allH {t o:Nat} (H:Hd w0 R w):Calls Tryz.prog 89 #[.pointer (some ⟨t,o,none⟩)] w fun e w'=>∃b,e=.returned (.func (.func 117) #[] #[.pointer (some ⟨b,0,none⟩)])∧Hd w0 (cel b 242 #[.pointer (some ⟨t,o,none⟩)]::R) w':=by
  have HA:Hd w0 _ (w.alloc (.cells #[.pointer (some ⟨t,o,none⟩)] 242)):=H.fol
  go_enter Tryz.func89,Tryz.ntmps89
  go_wp2_with fail
  go_ret
  exact ⟨_,rfl,HA⟩
end
end
section
open Go.RowKit Spl
attribute [local go_sem] Oper.semAt_some
section
variable {w0:World} {R:List Pr} {l:List RowH}
set_option maxRecDepth 100000 in
theorem zJY {b t:Nat} {vu vf vc vj:Value} (hn:l.length≤100000) :
    zQG Tryz.prog 117 #[.pointer (some ⟨b,0,none⟩)] (fun x:RowH=>#[.int .i64 x.k,.pointer (some ⟨x.b,0,none⟩)]) w0 (cel b 242 #[.pointer (some ⟨t,3,none⟩)]::cel t 173 #[vu,vf,vc,vj]::SlE 246 vj l::R) l:=by
  intro lp Y W n H hY
  obtain ⟨a,c,rfl,-,-,-,-⟩:=(H.v vj).slc_form
  have c0:=(show _=some (.pointer (some ⟨t,3,none⟩)) from (H.k b).ce 0 rfl)
  have c1:=(show _=some (.slice a l.length c) from (H.k t).ce 3 rfl)
  have H1:Hd w0 (SlE 246 (.slice a l.length c) l::Y 0::cel b 242 #[.pointer (some ⟨t,3,none⟩)]::cel t 173 #[vu,vf,vc,.slice a l.length c]::R) W:=H.re
  have hsrc:=Src.slc H1
  have hcp:Calls Tryz.prog 118 #[.slice a l.length c] W fun e w'=>∃g,e=.returned (.slice (some ⟨g,0,none⟩) l.length l.length)∧Hd w0 (SlEC 246 g l.length l::SlE 246 (.slice a l.length c) l::Y 0::cel b 242 #[.pointer (some ⟨t,3,none⟩)]::cel t 173 #[vu,vf,vc,.slice a l.length c]::R) w':=by
    rcases hsrc with ⟨h,h2⟩ | ⟨ad,c2,h,h2⟩
    · injection h with q1 q2 q3
      exact qYb H1 hn rfl (fun _=>q2) (fun _ ad h=>by rw [q1] at h;cases h)
    · injection h with q1 q2 q3
      exact qYb H1 hn rfl (fun h=>by rw [q1] at h;cases h) (fun H ad2 e j u hu=>by rw [q1] at e;injection e with e;subst e;exact h2 H j u hu)
  have hcpI:=callsIn_wide (n:=n-1).2 hcp
  clear hsrc hcp H H1
  refine callsIn_of_wp Tryz.func117 rfl trivial ?_ rfl
  simp only [Tryz.ntmps117,List.size_toArray,List.length_cons,List.length_nil,Nat.reduceAdd,Nat.reduceSub,Array.replicate_succ,Array.replicate_zero,List.push_toArray,List.append_toArray,List.nil_append,List.cons_append]
  gi_wp2_with (first | (refine ⟨trivial,fun h=>(by cases h),?_⟩;refine hcpI.mono ?_;rintro e W1 ⟨g,rfl,H2⟩))
  clear hcpI
  gi_loopw [11] (fun i wr=>∃k:Nat,k≤l.length∧i=.int .i64 k∧Hd w0 (Y k::SlEC 246 g l.length l::SlE 246 (.slice a l.length c) l::cel b 242 #[.pointer (some ⟨t,3,none⟩)]::cel t 173 #[vu,vf,vc,.slice a l.length c]::R) wr) (fun i _=>l.length-(intOf i).toNat)
  case atStart=>exact ⟨0,Nat.zero_le _,rfl,H2.re⟩
  case round =>
    obtain ⟨k,hk,rfl,HI⟩:=hrel
    by_cases hlt:k<l.length
    · obtain ⟨x,hx⟩:∃x,l[k]? = some x:=⟨l[k],List.getElem?_eq_getElem hlt⟩
      have H5:Hd w0 (SlEC 246 g l.length l::Y k::SlE 246 (.slice a l.length c) l::cel b 242 #[.pointer (some ⟨t,3,none⟩)]::cel t 173 #[vu,vf,vc,.slice a l.length c]::R) wr:=HI.re
      have f0:=H5.slcC_rd (qQi hx (j:=0) rfl)
      have f1:=H5.slcC_rd (qQi hx (j:=1) rfl)
      simp only [Enc.size,Nat.add_zero] at f0 f1
      have HA:Hd w0 _ (wr.alloc (.cells #[.int .i64 x.k,.pointer (some ⟨x.b,0,none⟩)] 246)):=HI.fol
      have q0:=(show _=some (Value.int .i64 x.k) from HA.ce 0 rfl)
      have q1:=(show _=some (Value.pointer (some ⟨x.b,0,none⟩)) from HA.ce 1 rfl)
      obtain ⟨fn,tmps,assign,body,hy,hR⟩:=hY k x _ _ (n-1) hx HA.b2
      have n4:¬(k:Int)<0:=by omega
      have n5:(k:Int)<l.length:=by omega
      have n6:¬l.length≤k:=by omega
      have g5:IntKind.i64.wrap ((k:Int)+1)=(k:Int)+1:=IntWalk.i64_in _ (by omega)
      clear H5 HA HI
      gi_wp2
      refine ⟨fun h=>(by cases h),?_⟩
      refine hR.mono ?_
      rintro e W3 ⟨rfl,H6⟩
      gi_wp2
      refine ⟨⟨k+1,by omega,by go_num,Hd.re H6⟩,by simp [intOf];omega⟩
    · obtain rfl:k=l.length:=by omega
      gi_wp2
      go_end0
      exact ⟨⟨_,rfl⟩,HI.re⟩
end
end
section
open Go.RowKit Spl
section
variable {w0 w:World} {R:List Pr} {l:List qqc}
theorem Hd.clip {e:TypeId} {size g n cap:Nat} {xs:List Value} (H:Hd w0 (SlcC e size g n cap xs::R) w):Hd w0 (SlcC e size g n n xs::R) w :=
  H.mono fun a h=>by
    obtain ⟨h1,h2,h3,sp,h4,h5⟩:=h
    exact ⟨h1,Nat.le_refl _,by omega,sp,by have:=Nat.mul_le_mul_right size h2;omega,h5⟩
theorem zQM {v:Value} (H:Hd w0 (SlE 184 v l::R) w) :
    Calls Tryz.prog 90 #[v] w fun e w'=>∃v',e=.returned v'∧Hd w0 (SlE 184 v' l::R) w':=by
  rcases H.slc with ⟨rfl,-,-,-⟩ | ⟨g,c,rfl,HC⟩
  · go_enter Tryz.func90,Tryz.ntmps90
    go_wp2_with fail
    go_ret
    exact ⟨_,rfl,H⟩
  · have hcap:=HC.slcC.2.1
    have n1:(0:Int)≤l.length:=by omega
    have n2:(l.length:Int)≤c:=by omega
    go_enter Tryz.func90,Tryz.ntmps90
    go_wp2_with fail
    go_ret
    exact ⟨_,rfl,HC.clip.slc_mk⟩
end
end
section
open Go.RowKit Spl
attribute [local go_sem] Oper.semAt_some
def qQS (m:UnM) (r:Nat):List qqc:=m.jobs.filterMap fun j=>if 0<j.h.held[r]?.getD 0 then some ⟨j.job,j.h.held[r]?.getD 0⟩ else none
def qJj (m:UnM) (r i:Nat):List qqc:=(m.jobs.take i).filterMap fun j=>if 0<j.h.held[r]?.getD 0 then some ⟨j.job,j.h.held[r]?.getD 0⟩ else none
section
variable {w0 w:World} {R:List Pr} {t:Nat} {m:UnM}
theorem zZy:(Tryz.prog.info? 184).map (fun i=>(i.zero,i.size,i.bytes))=some (some (.agg #[.int .i64 0,.int .i64 0]),2,16):=by kernel_rfl
set_option maxRecDepth 100000 in
theorem zQr (H:Hd w0 (UnP t m::R) w) (hm:m.Inv) {r:Nat} (hr:r<m.units.length) :
    Calls Tryz.prog 55 #[.pointer (some ⟨t,0,none⟩),.int .i64 r] w fun e w'=>∃v,e=.returned v∧Hd w0 (SlE 184 v (qQS m r)::UnP t m::R) w':=by
  refine (callsIn_wide (n:=5)).1 ?_
  have HA:Hd w0 (UnP t m::cel (w.heap.size+1) 58 #[.slice none 0 0]::cel w.heap.size 3 #[.int .i64 r]::R) ((w.alloc (.cells #[.int .i64 r] 3)).alloc (.cells #[.slice none 0 0] 58)):=by
    have h:Hd w0 _ ((w.alloc (.cells #[.int .i64 r] 3)).alloc (.cells #[.slice none 0 0] 58)):=H.fol
    exact h.re
  have hhas:=callsIn_wide (n:=4).2 (qqH HA r hr)
  have c0:=(show _=some (Value.int .i64 r) from (HA.k w.heap.size).ce 0 rfl)
  refine callsIn_of_wp_marks Tryz.func55 rfl trivial ?_ rfl
  simp only [Tryz.ntmps55,List.size_toArray,List.length_cons,List.length_nil,Nat.reduceAdd,Nat.reduceSub,Array.replicate_succ,Array.replicate_zero,List.push_toArray,List.append_toArray,List.nil_append,List.cons_append]
  gi_wp2_with (first | (refine ⟨trivial,?_⟩;gi_at_call 88;refine hhas.mono ?_;rintro e W1 ⟨rfl,rfl⟩) | (refine ⟨trivial,?_⟩;gi_at_call 89;refine (callsIn_wide.2 (allH (t:=t) (o:=3) HA)).mono ?_;rintro e W2 ⟨b,rfl,HB⟩))
  clear hhas c0 HA H
  obtain ⟨⟨vu,vf,vc,vj,bs⟩,hb,HC⟩:=UnP.opened HB.b2
  dsimp only at hb HC
  obtain ⟨p,hp⟩:∃p,w.heap.size=p:=⟨_,rfl⟩
  rw [hp] at HC ⊢
  have HD:Hd w0 (all [ex fun v:Value=>all [cel (p+1) 58 #[v],SlE 184 v (qJj m r 0)],cel p 3 #[.int .i64 r],all (List.zipWith hol bs m.jobs)]::cel b 242 #[.pointer (some ⟨t,3,none⟩)]::cel t 173 #[vu,vf,vc,vj]::SlE 246 vj (qQq m.jobs bs)::SlE 3 vu m.units::SlE 3 vf m.free::SlE 3 vc m.cells::R) W2:=by
    have HN:Hd w0 (SlE 184 (.slice none 0 0) (qJj m r 0)::_) W2:=HC.slc_nil 184 2
    have H2:Hd w0 (cel (p+1) 58 #[.slice none 0 0]::SlE 184 (.slice none 0 0) (qJj m r 0)::cel p 3 #[.int .i64 r]::all (List.zipWith hol bs m.jobs)::cel b 242 #[.pointer (some ⟨t,3,none⟩)]::cel t 173 #[vu,vf,vc,vj]::SlE 246 vj (qQq m.jobs bs)::SlE 3 vu m.units::SlE 3 vf m.free::SlE 3 vc m.cells::R) W2:=HN.re
    have H3:=Hd.into (S:=fun v:Value=>all [cel (p+1) 58 #[v],SlE 184 v (qJj m r 0)]) (.slice none 0 0) (Hd.pack (L:=[_,_]) H2)
    exact Hd.pack (L:=[_,_,_]) H3
  refine qKb (gf:=117) (lb:=#[.pointer (some ⟨b,0,none⟩)]) rfl (enters_of Tryz.func117 (by kernel_rfl) rfl) (encs:=fun x:RowH=>#[.int .i64 x.k,.pointer (some ⟨x.b,0,none⟩)]) (fun _=>rfl) (fun i=>[ex fun v:Value=>all [cel (p+1) 58 #[v],SlE 184 v (qJj m r i)],cel p 3 #[.int .i64 r],all (List.zipWith hol bs m.jobs)]) HD (zJY (by rw [qQZ hb];have:=hm.jobsLe;omega)) (fun x=>{ tmps:=#[.pointer (some ⟨t,0,none⟩),.int .i64 r,undef,.pointer (some ⟨p,0,none⟩),.slice none 0 0,.pointer (some ⟨p+1,0,none⟩),.int .i64 x.k,.pointer (some ⟨x.b,0,none⟩),undef,.pointer (some ⟨t,0,none⟩),.int .i64 r,.bool true,.bool false,undef,.pointer (some ⟨t,0,none⟩),.pointer (some ⟨t,0,none⟩),.pointer (some ⟨t,3,none⟩),.func (.func 117) #[] #[.pointer (some ⟨b,0,none⟩)],.int .i64 x.k,.pointer (some ⟨x.b,0,none⟩),undef,undef,undef,undef,undef,undef,undef,undef,undef,undef,undef,undef,undef,undef,undef,undef],defers:=[] }) ?assign ?body ?done
  case assign =>
    intro l x W K hK
    gi_wp2
    exact hK
  case body =>
    intro lp i x X W hx HW
    obtain ⟨v,H5⟩:=Hd.out (R:=[cel p 3 #[.int .i64 r],all (List.zipWith hol bs m.jobs)]++X) HW
    have H6:Hd w0 (all (List.zipWith hol bs m.jobs)::cel (p+1) 58 #[v]::SlE 184 v (qJj m r i)::cel p 3 #[.int .i64 r]::X) W:=by
      have h:Hd w0 (cel (p+1) 58 #[v]::SlE 184 v (qJj m r i)::cel p 3 #[.int .i64 r]::all (List.zipWith hol bs m.jobs)::X) W:=H5.flat
      exact h.d4.re
    obtain ⟨j,b',hj,hb',rfl⟩:∃j b',m.jobs[i]? = some j∧bs[i]? = some b'∧x=⟨j.job,b'⟩:=by
      have hi:=qQa hx
      rw [qQZ hb] at hi
      have q1:m.jobs[i]? = some m.jobs[i]:=List.getElem?_eq_getElem hi
      have q2:bs[i]? = some (bs[i]'(by omega)):=List.getElem?_eq_getElem _
      rw [qYh q1 q2] at hx
      exact ⟨_,_,q1,q2,(Option.some.inj hx).symm⟩
    obtain ⟨lv,H7⟩:=(H6.row_nth hb' hj).out
    have H8:Hd w0 (cel b' 182 (lv::j.h.held.map (Value.int .i64)).toArray::SlE 320 lv j.h.locks::all ((List.zipWith hol bs m.jobs).eraseIdx i)::cel (p+1) 58 #[v]::SlE 184 v (qJj m r i)::cel p 3 #[.int .i64 r]::X) W:=H7.flat
    have h16:=hm.hl j (List.mem_of_getElem? hj)
    have hu:=hm.u16
    obtain ⟨h,hh⟩:∃h,j.h.held[r]? = some h:=⟨j.h.held[r]'(by omega),List.getElem?_eq_getElem _⟩
    have hC:((lv::j.h.held.map (Value.int .i64)).toArray)[1+r]? = some (.int .i64 h):=by simp [Nat.add_comm 1 r,hh]
    have k0:=H8.ce (1+r) hC
    have k1:=(show _=some (Value.int .i64 r) from (H8.k p).ce 0 rfl)
    have k2:=(show _=some v from (H8.k (p+1)).ce 0 rfl)
    have n6:(r:Int)<16:=by omega
    have n7:(0:Int)≤r:=by omega
    have n8:¬(r:Int)<0:=by omega
    have hp1:qJj m r (i+1)=qJj m r i++(if 0<h then [⟨j.job,h⟩] else []):=by
      unfold qJj
      rw [List.take_add_one,hj,List.filterMap_append]
      simp only [Option.toList_some,List.filterMap_cons,List.filterMap_nil,hh,Option.getD_some]
      by_cases hz:0<h
      · simp [hz]
      · simp [hz]
    obtain ⟨T,hT⟩:∃T,qJj m r i=T:=⟨_,rfl⟩
    have hTl:T.length≤5000:=by
      rw [← hT]
      unfold qJj
      refine Nat.le_trans (List.length_filterMap_le _ _) ?_
      have:=hm.jobsLe
      rw [List.length_take]
      omega
    rw [hT] at hp1 H8
    rw [hp1]
    obtain ⟨i0,hi,hz0,hz1,hz2⟩:=info_parts zZy
    have HB:∀(L:List Pr) (W':World),Hd w0 (cel b' 182 (lv::j.h.held.map (Value.int .i64)).toArray::SlE 320 lv j.h.locks::all ((List.zipWith hol bs m.jobs).eraseIdx i)::L) W'→Hd w0 (all (List.zipWith hol bs m.jobs)::L) W':=by
      intro L W' h
      have h2:Hd w0 (hol b' j::all ((List.zipWith hol bs m.jobs).eraseIdx i)::L) W':=Hd.into lv (Hd.pack (L:=[_,_]) h)
      exact h2.row_same hb' hj
    have n9:¬(h:Int) ≤ -1:=by
      have:=hm.pos j (List.mem_of_getElem? hj) r
      rw [hh] at this
      simp at this
      omega
    clear hp1 H5 H6 H7 hx hT hC
    replace HB:=Lib.hid HB
    by_cases hz:0<h
    · rw [if_pos hz]
      have HP:Hd w0 _ (W.drew.alloc (.cells #[.int .i64 j.job,.int .i64 h] 184)):=H8.fol
      have y0:=(show _=some v from (HP.k (p+1)).ce 0 rfl)
      have hS:∀ {v':Value} {L:List Pr} {w:World},Hd w0 (Slc 184 2 v' (T.length+1) (flat T++[.int .i64 j.job,.int .i64 h])::L) w→Hd w0 (SlE 184 v' (T++[⟨j.job,h⟩])::L) w:=by
        intro v' L w h2
        have e1:(T++[(⟨j.job,h⟩:qqc)]).length=T.length+1:=by simp
        have e2:flat (T++[(⟨j.job,h⟩:qqc)])=flat T++[.int .i64 j.job,.int .i64 h]:=by rw [qQc,qQK];rfl
        unfold SlE
        rw [e1,e2]
        exact h2
      gi_wp2
      gi_region
      all_goals gi_wp2_with (gi_at_builtin;refine qJi rfl _ _ 58 rfl 184 i0 _ 2 16 Tryz.underlying58 hi hz0 hz1 hz2 rfl _ _ _ rfl (HP.v v) ⟨W.heap.size,0,none⟩ 1 1 [.int .i64 j.job,.int .i64 h] rfl rfl (qQA (HP.k W.heap.size)) (by simp [Value.oneCell']) (by unfold maxLen;omega) (by omega) ?_;intro v' w2 H4;have HF:=hS H4;obtain ⟨l',hl'⟩:∃l',T++[⟨j.job,h⟩]=l':=⟨_,rfl⟩;rw [hl'] at HF;obtain ⟨a',c',rfl,-,-,-,-⟩:=HF.slc_form;replace hl':=Lib.hid hl';have d0:=(HF.k (p+1)).ce 0 rfl;have f0:=(HF.k (p+1)).fr 0;clear H4)
      all_goals (
        rw [hl'.out]
        have HG0:Hd w0 (cel b' 182 (lv::j.h.held.map (Value.int .i64)).toArray::SlE 320 lv j.h.locks::all ((List.zipWith hol bs m.jobs).eraseIdx i)::cel (p+1) 58 #[.slice a' l'.length c']::SlE 184 (.slice a' l'.length c') l'::cel p 3 #[.int .i64 r]::X) (w2.setCell ⟨p+1,0,none⟩ (.slice a' l'.length c')):=Hd.fin HF
        have HG:=HB.out _ _ HG0
        have HI:Hd w0 (cel (p+1) 58 #[.slice a' l'.length c']::SlE 184 (.slice a' l'.length c') l'::cel p 3 #[.int .i64 r]::all (List.zipWith hol bs m.jobs)::X) (w2.setCell ⟨p+1,0,none⟩ (.slice a' l'.length c')):=HG.re
        exact Hd.into (S:=fun v:Value=>all [cel (p+1) 58 #[v],SlE 184 v l']) _ (Hd.pack (L:=[_,_]) HI))
    · rw [if_neg hz]
      gi_wp2
      gi_region
      all_goals gi_wp2
      all_goals (
        rw [List.append_nil]
        have HF:Hd w0 _ W.drew:=H8.fol
        have HG:Hd w0 (all (List.zipWith hol bs m.jobs)::cel (p+1) 58 #[v]::SlE 184 v T::cel p 3 #[.int .i64 r]::X) W.drew:=HB.out _ _ HF
        have HI:Hd w0 (cel (p+1) 58 #[v]::SlE 184 v T::cel p 3 #[.int .i64 r]::all (List.zipWith hol bs m.jobs)::X) W.drew:=HG.re
        exact Hd.into (S:=fun v:Value=>all [cel (p+1) 58 #[v],SlE 184 v T]) v (Hd.pack (L:=[_,_]) HI))
  case done =>
    intro D W HW
    obtain ⟨v,H5⟩:=Hd.out (R:=[cel p 3 #[.int .i64 r],all (List.zipWith hol bs m.jobs)]++_) HW
    have H6:=H5.flat
    have c1:=(show _=some v from H6.ce 0 rfl)
    have hcl:=callsIn_wide (n:=4).2 (zQM H6.b2)
    gi_wp2_with (first | (refine ⟨trivial,?_⟩;gi_at_call 90;refine hcl.mono ?_;rintro e W3 ⟨v',rfl,H7⟩))
    have e1:qJj m r (qQq m.jobs bs).length=qQS m r:=by unfold qJj qQS;rw [qQZ hb,List.take_length]
    rw [e1] at H7
    have H9:Hd w0 (SlE 184 v' (qQS m r)::cel (p+1) 58 #[v]::cel p 3 #[.int .i64 r]::all (List.zipWith hol bs m.jobs)::pt D (.deferred (some []))::cel b 242 #[.pointer (some ⟨t,3,none⟩)]::cel t 173 #[vu,vf,vc,vj]::SlE 246 vj (qQq m.jobs bs)::SlE 3 vu m.units::SlE 3 vf m.free::SlE 3 vc m.cells::R) W3:=H7
    have H8:Hd w0 (pt D (.deferred (some []))::SlE 184 v' (qQS m r)::cel t 173 #[vu,vf,vc,vj]::SlE 3 vu m.units::SlE 3 vf m.free::SlE 3 vc m.cells::SlE 246 vj (qQq m.jobs bs)::all (List.zipWith hol bs m.jobs)::R) W3:=H9.re
    refine qYf H8 (fun W HW=>⟨_,results_tmp rfl _ _ _,v',rfl,?_⟩)
    have HX:Hd w0 (cel t 173 #[vu,vf,vc,vj]::SlE 3 vu m.units::SlE 3 vf m.free::SlE 3 vc m.cells::SlE 246 vj (qQq m.jobs bs)::all (List.zipWith hol bs m.jobs)::SlE 184 v' (qQS m r)::R) W:=HW.re
    exact (UnP.shut (x:=⟨vu,vf,vc,vj,bs⟩) HX hb).re
end
end
section
open Go.RowKit Spl
def qQy (l:List JobM):Nat:=(l.map fun j=>j.h.locks.length).sum
theorem qZm (j:JobM) (l:List JobM):qQy (j::l)=j.h.locks.length+qQy l:=rfl
theorem qKu (a b:List JobM):qQy (a++b)=qQy a+qQy b:=by simp [qQy]
theorem qKy {l:List JobM} {i:Nat} {j j':JobM} (h:l[i]? = some j):qQy (l.set i j')+j.h.locks.length=qQy l+j'.h.locks.length:=by
  unfold qQy
  rw [List.map_set]
  exact qKK (by rw [List.getElem?_map,h];rfl)
theorem qVs (l:List JobM) (i:Nat) (j:JobM):qQy (l.take i++j::l.drop i)=qQy l+j.h.locks.length:=by
  have h:qQy (l.take i++l.drop i)=qQy l:=by rw [List.take_append_drop]
  rw [qKu] at h
  rw [qKu,qZm]
  omega
theorem qXB:∀ {l:List JobM} {i:Nat} {j:JobM} (_:l[i]? = some j),qQy (l.eraseIdx i)+j.h.locks.length=qQy l
  | [],i,j,h=>by simp at h
  | x::l,0,j,h=>by
    simp at h;subst h
    rw [List.eraseIdx_cons_zero,qZm];omega
  | x::l,i+1,j,h=>by
    have:=qXB (l:=l) (i:=i) (j:=j) (by simpa using h)
    rw [List.eraseIdx_cons_succ,qZm,qZm];omega
theorem qKw:∀ {l:List JobM} {j:JobM},j∈l→j.h.locks.length≤qQy l
  | x::l,j,h=>by
    rw [qZm]
    rcases List.mem_cons.1 h with rfl | h
    · omega
    · have:=qKw h;omega
theorem qKm:∀ {l:List JobM} (_:∀j∈l,(j.h.locks.length:Int)≤tot (fun r=>j.h.held[r]?.getD 0) 16),(qQy l:Int)≤tot (qQD l) 16
  | [],_=>by
    have:qQD []=fun _=>(0:Int):=by funext r;rfl
    rw [this,qXi]
    simp [qQy]
  | j::l,h=>by
    have h1:=h j (by simp)
    have h2:=qKm (l:=l) (fun x hx=>h x (by simp [hx]))
    have h3:qQD (j::l)=fun r=>j.h.held[r]?.getD 0+qQD l r:=by funext r;rfl
    rw [qZm,h3,qWu]
    push_cast
    omega
theorem UnM.Inv.locksTop {m:UnM} (h:m.Inv):qQy m.jobs≤4080:=by
  have h1:=qKm h.lkTot
  have h2:=h.heldTop
  omega
theorem qKg {α K:Type} [KLt K] [qQ8 α K] (y:α) (l:List α) (k:K):qQs (y::l) k=if KLt.lt (qQ8.key y:K) k=true then qQs l k else if KLt.lt k (qQ8.key y)=true then none else some y:=by
  by_cases h:KLt.lt (qQ8.key y:K) k=true
  · rw [if_pos h]
    unfold qQs
    rw [qXk,if_pos h,List.getElem?_cons_succ]
  · rw [if_neg h]
    unfold qQs
    rw [qXk,if_neg h]
    rfl
theorem qYz {α K:Type} [KLt K] [qQ8 α K]:∀ {l:List α} {k:K} (_:qQ9 l) {x:α} (_:qQs l k=some x),qQs (l.eraseIdx (pos l k)) k=none
  | [],k,hs,x,h=>by cases h
  | y::l,k,hs,x,h=>by
    have h2:=List.pairwise_cons.1 hs
    rw [qKg] at h
    by_cases hl:KLt.lt (qQ8.key y:K) k=true
    · rw [if_pos hl] at h
      rw [qXk,if_pos hl,List.eraseIdx_cons_succ,qKg,if_pos hl]
      exact qYz h2.2 h
    · rw [if_neg hl] at h
      split at h
      · cases h
      · rename_i hg
        injection h with h
        subst h
        rw [qXk,if_neg hl,List.eraseIdx_cons_zero]
        have hk:(qQ8.key y:K)=k:=KLt.tot (by simpa using hl) (by simpa using hg)
        cases l with
        | nil=>rfl
        | cons z l =>
          have hz:=h2.1 z (by simp)
          rw [hk] at hz
          rw [qKg,if_neg (fun hh=>by have:=KLt.tr hz hh;rw [KLt.irr] at this;cases this),if_pos hz]
theorem UnM.locksN_le {m:UnM} (h:m.Inv) (job:Int):m.locksN job≤qQy m.jobs:=by
  unfold UnM.locksN
  cases hr:qQs m.jobs job with
  | none=>exact Nat.zero_le _
  | some j=>exact qKw (List.mem_of_getElem? (qQv h.s hr).1)
theorem UnM.locked_all {m:UnM} (h:m.Inv) (job:Int) (r:Nat) (n:Int):qQy (m.locked job r n).jobs=qQy m.jobs+1∧(m.locked job r n).units=m.units:=by
  unfold UnM.locked
  cases hr:qQs m.jobs job with
  | none=>exact ⟨by dsimp only;rw [qVs];rfl,rfl⟩
  | some j =>
    refine ⟨?_,rfl⟩
    have:=qKy (j':=(⟨j.job,⟨j.h.locks++[⟨r,n⟩],j.h.held.set r ((j.h.held[r]?.getD 0)+n)⟩⟩:JobM)) (qQv h.s hr).1
    dsimp only at this ⊢
    rw [List.length_append,List.length_singleton] at this
    omega
theorem UnM.popped_all {m:UnM} (h:m.Inv) (job:Int):qQy (m.popped job).jobs=qQy m.jobs-(if m.locksN job=0 then 0 else 1)∧(m.popped job).locksN job=m.locksN job-1∧(m.popped job).units=m.units:=by
  unfold UnM.popped
  cases hr:qQs m.jobs job with
  | none =>
    have h0:m.locksN job=0:=by unfold UnM.locksN;rw [hr]
    dsimp only
    rw [h0]
    exact ⟨rfl,rfl,rfl⟩
  | some j =>
    have h0:m.locksN job=j.h.locks.length:=by unfold UnM.locksN;rw [hr]
    obtain ⟨hp,hkey⟩:=qQv h.s hr
    obtain ⟨hne,-⟩:=h.lk j (List.mem_of_getElem? hp)
    obtain ⟨l,x,hl⟩:∃l x,j.h.locks=l++[x]:=⟨_,_,(List.dropLast_concat_getLast hne).symm⟩
    have h1:j.h.locks.getLast? = some x:=by rw [hl];simp
    have h2:j.h.locks.length=l.length+1:=by rw [hl];simp
    have h3:j.h.locks.dropLast=l:=by rw [hl];simp
    dsimp only
    rw [h1]
    dsimp only
    rw [h0,h2,if_neg (show ¬l.length+1=0 by omega),h3]
    by_cases hz:l.length+1=1
    · rw [if_pos hz]
      have:=qXB hp
      refine ⟨by omega,?_,rfl⟩
      unfold UnM.locksN
      dsimp only
      rw [qYz h.s hr]
      dsimp only
      omega
    · rw [if_neg hz]
      have:=qKy (j':=(⟨j.job,⟨l,j.h.held.set x.res.toNat ((j.h.held[x.res.toNat]?.getD 0)-x.units)⟩⟩:JobM)) hp
      refine ⟨by dsimp only at this ⊢;omega,?_,rfl⟩
      unfold UnM.locksN
      dsimp only
      rw [qVH (y:=(⟨j.job,⟨l,j.h.held.set x.res.toNat ((j.h.held[x.res.toNat]?.getD 0)-x.units)⟩⟩:JobM)) h.s hr rfl]
      rfl
theorem UnM.popN_all {m:UnM} (h:m.Inv) (job:Int):∀k,k≤m.locksN job→qQy (m.popN job k).jobs+k=qQy m.jobs∧(m.popN job k).locksN job=m.locksN job-k∧(m.popN job k).units=m.units
  | 0,_=>⟨rfl,rfl,rfl⟩
  | k+1,hk=>by
    obtain ⟨a,b,c⟩:=UnM.popN_all h job k (by omega)
    obtain ⟨d,e,f⟩:=UnM.popped_all (h.popN job k) job
    have hle:=UnM.locksN_le (h.popN job k) job
    rw [b] at d e hle
    rw [if_neg (by omega)] at d
    show qQy ((m.popN job k).popped job).jobs+(k+1)=_∧((m.popN job k).popped job).locksN job=_∧((m.popN job k).popped job).units=_
    rw [d,e,f]
    exact ⟨by omega,by omega,c⟩
theorem UnM.unlockE_lock {m:UnM} {job res:Int} (h:m.unlockE job res=0):0<m.locksN job:=by
  unfold UnM.unlockE at h
  split at h
  · cases h
  · unfold UnM.locksN
    cases hr:qQs m.jobs job with
    | none=>rw [hr] at h;cases h
    | some j =>
      rw [hr] at h
      dsimp only at h ⊢
      cases hl:j.h.locks with
      | nil=>rw [hl] at h;simp at h
      | cons x l=>simp
end
end Go.Proofs.YtkchopnkdjnocaaGreatDoor
