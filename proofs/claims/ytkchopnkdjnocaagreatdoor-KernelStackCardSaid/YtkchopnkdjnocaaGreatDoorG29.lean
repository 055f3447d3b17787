/-
  Merged texts of one proof: Un9, Un10.
-/
import Derived.Test.YtkchopnkdjnocaaGreatDoorG27

set_option maxHeartbeats 16000000
set_option maxRecDepth 20000
namespace Go.Proofs.YtkchopnkdjnocaaGreatDoor
section
open Go.RowKit Spl
def UnM.cellE (m:UnM) (job res:Int):Int :=
  if job<0∨res<0∨(m.units.length:Int)≤res then 1
  else if (m.heldL job)[res.toNat]?.getD 0=0 then 23 else 0
def UnM.stored (m:UnM) (r:Nat) (v:Int):UnM:=⟨m.units,m.free,m.cells.set r v,m.jobs⟩
section
variable {w0 w:World} {R:List Pr} {t:Nat} {m:UnM} {job res:Int}
theorem UnM.cellE_cases (m:UnM) (job res:Int):m.cellE job res=1∨m.cellE job res=23∨(m.cellE job res=0∧∃r:Nat,res=r∧r<m.units.length):=by
  unfold UnM.cellE
  by_cases a:job<0∨res<0∨(m.units.length:Int)≤res
  · rw [if_pos a];exact .inl rfl
  · rw [if_neg a]
    by_cases c:(m.heldL job)[res.toNat]?.getD 0=0
    · rw [if_pos c];exact .inr (.inl rfl)
    · rw [if_neg c];exact .inr (.inr ⟨rfl,res.toNat,by omega,by omega⟩)
theorem qU2 (H:Hd w0 (UnP t m::R) w) (hm:m.Ok) (h2:m.Ok2) :
    Calls Tryz.prog 203 #[.pointer (some ⟨t,0,none⟩),.int .i64 job,.int .i64 res] w fun e w'=>e=.returned (.int .i64 (m.cellE job res))∧Hd w0 (UnP t m::R) w':=by
  obtain ⟨E,hE⟩:∃E,m.cellE job res=E:=⟨_,rfl⟩
  rw [hE]
  unfold UnM.cellE at hE
  by_cases z1:job<0
  · rw [if_pos (.inl z1)] at hE
    subst hE
    go_enter Tryz.func203,Tryz.ntmps203
    go_wp2_with fail
    go_ret
    exact ⟨rfl,H⟩
  by_cases z2:res<0∨(m.units.length:Int)≤res
  · have hno:=qUu H res z2
    rw [if_pos (.inr z2)] at hE
    subst hE
    clear z2
    go_enter Tryz.func203,Tryz.ntmps203
    go_wp2_with fail
    refine hno.mono ?_
    rintro e w1 ⟨rfl,rfl⟩
    go_wp2_with fail
    go_ret
    exact ⟨rfl,H⟩
  obtain ⟨r,rfl⟩:∃r:Nat,res=r:=⟨res.toNat,by omega⟩
  rw [if_neg (by omega),Int.toNat_natCast] at hE
  have hr:r<m.units.length:=by omega
  have hyes:=qqH H r hr
  clear z2
  have hlen:=UnM.heldL_len hm job
  have hof:=unOf H hm job
  obtain ⟨h,hh⟩:∃h,(m.heldL job)[r]? = some h:=⟨(m.heldL job)[r]'(by have:=h2.u;omega),List.getElem?_eq_getElem _⟩
  have hix:=qKf hlen hh
  rw [hh,Option.getD_some] at hE
  obtain ⟨A,hA⟩:∃A,qQ0 (m.heldL job)=A:=⟨_,rfl⟩
  rw [hA] at hof hix
  clear hA hh hlen hm h2
  by_cases z3:h=0
  · rw [if_pos z3] at hE
    subst hE
    go_enter Tryz.func203,Tryz.ntmps203
    go_wp2_with fail
    refine hyes.mono ?_
    rintro e w1 ⟨rfl,rfl⟩
    clear hyes
    go_wp2_with fail
    refine hof.mono ?_
    rintro e w2 ⟨rfl,H2⟩
    clear hof
    go_wp2_with fail
    go_ret
    exact ⟨rfl,H2⟩
  · rw [if_neg z3] at hE
    subst hE
    go_enter Tryz.func203,Tryz.ntmps203
    go_wp2_with fail
    refine hyes.mono ?_
    rintro e w1 ⟨rfl,rfl⟩
    clear hyes
    go_wp2_with fail
    refine hof.mono ?_
    rintro e w2 ⟨rfl,H2⟩
    clear hof
    go_wp2_with fail
    go_ret
    exact ⟨rfl,H2⟩
theorem qUS (H:Hd w0 (UnP t m::R) w) (hm:m.Ok) (h2:m.Ok2) (hE:¬m.cellE job res=0) :
    Calls Tryz.prog 186 #[.pointer (some ⟨t,0,none⟩),.int .i64 job,.int .i64 res] w fun e w'=>e=.returned (.tuple #[.int .i64 0,.int .i64 (m.cellE job res)])∧Hd w0 (UnP t m::R) w':=by
  have hc:=qU2 (job:=job) (res:=res) H hm h2
  obtain ⟨E,hEE⟩:∃E,m.cellE job res=E:=⟨_,rfl⟩
  rw [hEE] at hc hE ⊢
  clear hEE hm h2 H
  go_enter Tryz.func186,Tryz.ntmps186
  go_wp2_with fail
  refine hc.mono ?_
  rintro e w1 ⟨rfl,H2⟩
  clear hc
  go_wp2_with fail
  go_ret2
  exact ⟨rfl,H2⟩
theorem zQz {r:Nat} {n:Int} (H:Hd w0 (UnP t m::R) w) (hm:m.Ok) (h2:m.Ok2) (hE:m.cellE job r=0) (hn:m.cells[r]? = some n) :
    Calls Tryz.prog 186 #[.pointer (some ⟨t,0,none⟩),.int .i64 job,.int .i64 r] w fun e w'=>e=.returned (.tuple #[.int .i64 n,.int .i64 0])∧Hd w0 (UnP t m::R) w':=by
  have hc:=qU2 (job:=job) (res:=r) H hm h2
  rw [hE] at hc
  clear hE hm h2 H
  go_enter Tryz.func186,Tryz.ntmps186
  go_wp2_with fail
  refine hc.mono ?_
  rintro e w1 ⟨rfl,H2⟩
  clear hc
  obtain ⟨⟨vu,vf,vc,vj,bs⟩,hb,H1⟩:=UnP.opened H2
  dsimp only at H1
  obtain ⟨g,cap,rfl,-,-,-,hcu⟩:=(H1.v vc).slE_at hn
  have u0:=hcu 0 _ rfl
  simp only [Enc.size,Nat.add_zero,Nat.mul_one] at u0
  have c0:=(show _=some (.slice (some ⟨g,0,none⟩) m.cells.length cap) from (H1.k t).ce 2 rfl)
  have hlt:=qQa hn
  have n1:¬(r:Int)<0:=by omega
  have n2:(r:Int)<m.cells.length:=by omega
  have n3:¬m.cells.length≤r:=by omega
  clear hcu H1 hb hn
  go_wp2_with fail
  go_ret2
  exact ⟨rfl,H2⟩
theorem zKa (H:Hd w0 (UnP t m::R) w) (hm:m.Ok) (h2:m.Ok2) {v:Int} (hE:¬m.cellE job res=0) :
    Calls Tryz.prog 187 #[.pointer (some ⟨t,0,none⟩),.int .i64 job,.int .i64 res,.int .i64 v] w fun e w'=>e=.returned (.int .i64 (m.cellE job res))∧Hd w0 (UnP t m::R) w':=by
  have hc:=qU2 (job:=job) (res:=res) H hm h2
  obtain ⟨E,hEE⟩:∃E,m.cellE job res=E:=⟨_,rfl⟩
  rw [hEE] at hc hE ⊢
  clear hEE hm h2 H
  go_enter Tryz.func187,Tryz.ntmps187
  go_wp2_with fail
  refine hc.mono ?_
  rintro e w1 ⟨rfl,H2⟩
  clear hc
  go_wp2_with fail
  go_ret
  exact ⟨rfl,H2⟩
theorem zJh {r:Nat} {n:Int} (H:Hd w0 (UnP t m::R) w) (hm:m.Ok) (h2:m.Ok2) {v:Int} (hE:m.cellE job r=0) (hn:m.cells[r]? = some n) :
    Calls Tryz.prog 187 #[.pointer (some ⟨t,0,none⟩),.int .i64 job,.int .i64 r,.int .i64 v] w fun e w'=>e=.returned (.int .i64 0)∧Hd w0 (UnP t (m.stored r v)::R) w':=by
  have hc:=qU2 (job:=job) (res:=r) H hm h2
  rw [hE] at hc
  clear hE hm h2 H
  go_enter Tryz.func187,Tryz.ntmps187
  go_wp2_with fail
  refine hc.mono ?_
  rintro e w1 ⟨rfl,H2⟩
  clear hc
  obtain ⟨⟨vu,vf,vc,vj,bs⟩,hb,H1⟩:=UnP.opened H2
  dsimp only at H1 hb
  obtain ⟨g,cap,rfl,-,-,HC,hcu⟩:=(H1.v vc).slE_at hn
  have u0:=hcu 0 _ rfl
  simp only [Enc.size,Nat.add_zero,Nat.mul_one] at u0
  have c0:=(show _=some (.slice (some ⟨g,0,none⟩) m.cells.length cap) from (H1.k t).ce 2 rfl)
  have hlt:=qQa hn
  have n1:¬(r:Int)<0:=by omega
  have n2:(r:Int)<m.cells.length:=by omega
  have n3:¬m.cells.length≤r:=by omega
  have fx:=HC.slcC_fr r
  have HS:=HC.slcC_set (j:=r) (by rw [qQf];simp [Enc.size];omega) (.int .i64 v)
  have e5:(flat m.cells).set r (.int .i64 v)=flat (m.cells.set r v):=by
    have:=qJT (l:=m.cells) (k:=r) (x:=n) (y:=v) hn (j:=0) (v:=.int .i64 v) (by decide) rfl
    simpa [Enc.size] using this
  rw [e5] at HS
  clear hcu H1 hn HC
  go_wp2_with fail
  go_ret
  refine ⟨rfl,?_⟩
  have HT:=Hd.slc_mk HS
  refine UnP.shut (x:=⟨vu,vf,.slice (some ⟨g,0,none⟩) m.cells.length cap,vj,bs⟩) ?_ hb
  dsimp only [UnM.stored]
  unfold SlE at HT ⊢
  rw [List.length_set]
  exact HT.re
end
end
section
open Go.RowKit Spl
theorem qUQ {α K:Type} [KLt K] [qQ8 α K] {l l':List α} (h:l.map (qQ8.key:α→K)=l'.map qQ8.key) (k:K):pos l k=pos l' k:=by
  have e:∀l:List α,pos l k=((l.map (qQ8.key:α→K)).takeWhile (fun a=>KLt.lt a k)).length:=by
    intro l
    rw [List.takeWhile_map,List.length_map]
    rfl
  rw [e l,e l',h]
theorem qXL {α K:Type} [KLt K] [qQ8 α K] {l l':List α} (h:l.map (qQ8.key:α→K)=l'.map qQ8.key) (hs:qQ9 l):qQ9 l':=by
  have e:∀l:List α,qQ9 l↔(l.map (qQ8.key:α→K)).Pairwise (fun a b=>KLt.lt a b=true):=by
    intro l
    rw [List.pairwise_map]
    exact Iff.rfl
  rw [e,← h,← e]
  exact hs
theorem qKN {α K:Type} [KLt K] [qQ8 α K] {l:List α} {i:Nat} {x y:α} (hx:l[i]? = some x) (hk:(qQ8.key y:K)=qQ8.key x):(l.set i y).map (qQ8.key:α→K)=l.map qQ8.key:=by
  rw [List.map_set]
  exact qJV (by rw [List.getElem?_map,hx,hk];rfl)
theorem qVH {α K:Type} [KLt K] [qQ8 α K] {l:List α} {k:K} {x y:α} (hs:qQ9 l) (h:qQs l k=some x) (hk:(qQ8.key y:K)=qQ8.key x):qQs (l.set (pos l k) y) k=some y:=by
  obtain ⟨h1,h2⟩:=qQv hs h
  have hp:=qUQ (qKN h1 hk) k
  unfold qQs
  rw [hp,List.getElem?_set_self (qQa h1)]
  dsimp only
  rw [hk,h2,KLt.irr]
  rfl
def UnM.popN (m:UnM) (job:Int):Nat→UnM
  | 0=>m
  | k+1=>(m.popN job k).popped job
structure zQP (m0:UnM) (job:Int) (L:List qZQ) (k:Nat) (m:UnM):Prop where
  ok:m.Ok
  row:∃j,qQs m.jobs job=some j∧j.h.locks=L.take (L.length-k)∧∀x∈j.h.held,-(255+255*(k:Int))≤x∧x≤255+255*(k:Int)
  p:pos m.jobs job=pos m0.jobs job
  u:m.units=m0.units
  f:m.free.length=m0.units.length∧∀x∈m.free,-(255+255*(k:Int))≤x∧x≤255+255*(k:Int)
theorem qVl {α:Type} {L:List α} {k:Nat} (hk:k<L.length):∃x,x∈L∧L.take (L.length-k)=L.take (L.length-(k+1))++[x]:=by
  have e:L.length-k=(L.length-(k+1))+1:=by omega
  refine ⟨L[L.length-(k+1)]'(by omega),List.getElem_mem _,?_⟩
  rw [e,List.take_add_one,List.getElem?_eq_getElem (by omega)]
  rfl
theorem qYN {l:List Int} {i:Nat} {y a b:Int} (h:∀x∈l,a≤x∧x≤b) (hy:a≤y∧y≤b):∀x∈l.set i y,a≤x∧x≤b:=by
  intro x hx
  rcases List.mem_or_eq_of_mem_set hx with h1 | h1
  · exact h x h1
  · rw [h1];exact hy
theorem zQP.step {m0 m:UnM} {job:Int} {L:List qZQ} {k:Nat} (h:zQP m0 job L k m) (hL:∀x∈L,0≤x.res∧x.res<m0.units.length∧1≤x.units∧x.units≤255) (h16:m0.units.length≤16) (hk:k+1<L.length):zQP m0 job L (k+1) (m.popped job):=by
  obtain ⟨j,hrow,hl,hh⟩:=h.row
  obtain ⟨x,hx,htk⟩:=qVl (L:=L) (k:=k) (by omega)
  obtain ⟨x1,x2,x3,x4⟩:=hL x hx
  have hl2:=hl.trans htk
  obtain ⟨hpos,hkey⟩:=qQv h.ok.s hrow
  have h1:j.h.locks.getLast? = some x:=by rw [hl2];simp
  have h2:j.h.locks.length=L.length-(k+1)+1:=by rw [hl2];simp
  have h3:j.h.locks.dropLast=L.take (L.length-(k+1)):=by rw [hl2];simp
  obtain ⟨r,hr⟩:∃r:Nat,x.res=r:=⟨x.res.toNat,by omega⟩
  have hlen:=h.ok.h j (List.mem_of_getElem? hpos)
  obtain ⟨F,hF⟩:∃F,m.free[r]? = some F:=⟨m.free[r]'(by rw [h.f.1];omega),List.getElem?_eq_getElem _⟩
  obtain ⟨hd,hhd⟩:∃hd,j.h.held[r]? = some hd:=⟨j.h.held[r]'(by omega),List.getElem?_eq_getElem _⟩
  have hFb:=h.f.2 F (List.mem_of_getElem? hF)
  have hhb:=hh hd (List.mem_of_getElem? hhd)
  have e9:m.popped job=⟨m.units,m.free.set r (F+x.units),m.cells,m.jobs.set (pos m.jobs job) ⟨j.job,⟨L.take (L.length-(k+1)),j.h.held.set r (hd-x.units)⟩⟩⟩:=by
    unfold UnM.popped
    rw [hrow]
    dsimp only
    rw [h1]
    dsimp only
    rw [h2,h3,if_neg (by omega),hr,Int.toNat_natCast,hF,hhd]
    rfl
  have hks:=qKN (K:=Int) (y:=(⟨j.job,⟨L.take (L.length-(k+1)),j.h.held.set r (hd-x.units)⟩⟩:JobM)) hpos rfl
  rw [e9]
  refine ⟨⟨qXL hks.symm h.ok.s,by rw [List.length_set];exact h.ok.n,?_⟩,⟨_,qVH h.ok.s hrow rfl,rfl,?_⟩,(qUQ hks job).trans h.p,h.u,?_,?_⟩
  · intro j' hj'
    rcases List.mem_or_eq_of_mem_set hj' with q | q
    · exact h.ok.h j' q
    · rw [q];dsimp only;rw [List.length_set];exact hlen
  · push_cast
    refine qYN (fun x hx=>?_) (by omega)
    have:=hh x hx
    omega
  · dsimp only;rw [List.length_set];exact h.f.1
  · push_cast
    refine qYN (fun x hx=>?_) (by omega)
    have:=h.f.2 x hx
    omega
def UnM.locksN (m:UnM) (job:Int):Nat :=
  match qQs m.jobs job with
  | none=>0
  | some j=>j.h.locks.length
section
variable {w0 w:World} {R:List Pr} {t:Nat} {m:UnM} {bs:List Nat} {job:Int}
theorem zXU (H:Hd w0 (UnPB t m bs::R) w) (hm:m.Ok) {j:JobM} {b:Nat} (hrow:qQs m.jobs job=some j) (hbs:bs[pos m.jobs job]? = some b):Calls Tryz.prog 204 #[.pointer (some ⟨b,0,none⟩)] w fun e w' =>
    e=.returned (.int .i64 j.h.locks.length)∧w=w':=by
  obtain ⟨⟨vu,vf,vc,vj⟩,hb,H1⟩:=UnPB.opened H
  dsimp only at H1
  have hpos:=(qQv hm.s hrow).1
  have H5:Hd w0 (all (List.zipWith hol bs m.jobs)::cel t 173 #[vu,vf,vc,vj]::SlE 3 vu m.units::SlE 3 vf m.free::SlE 3 vc m.cells::SlE 246 vj (qQq m.jobs bs)::R) w:=H1.re
  obtain ⟨lv,H6⟩:=(H5.row_nth hbs hpos).out
  have H7:Hd w0 (cel b 182 (lv::j.h.held.map (Value.int .i64)).toArray::SlE 320 lv j.h.locks::all ((List.zipWith hol bs m.jobs).eraseIdx (pos m.jobs job))::cel t 173 #[vu,vf,vc,vj]::SlE 3 vu m.units::SlE 3 vf m.free::SlE 3 vc m.cells::SlE 246 vj (qQq m.jobs bs)::R) w:=H6.flat
  exact qXG (o:=0) H7 rfl
theorem zX0 (H:Hd w0 (UnP t m::R) w) (hm:m.Ok) (h2:m.Ok2) (h3:m.Ok3) :
    Calls Tryz.prog 189 #[.pointer (some ⟨t,0,none⟩),.int .i64 job] w fun e w'=>e=.returned (.int .i64 (m.locksN job))∧Hd w0 (UnP t (m.popN job (m.locksN job))::R) w':=by
  obtain ⟨bs,H⟩:=UnP.toB H
  unfold UnM.locksN
  cases hrow:qQs m.jobs job with
  | none =>
    have hg:=qUF H hm hrow
    clear H
    go_enter Tryz.func189,Tryz.ntmps189
    go_wp2_with fail
    refine hg.mono ?_
    rintro e w1 ⟨rfl,H2⟩
    clear hg
    go_wp2_with fail
    go_ret
    exact ⟨rfl,UnPB.toP H2⟩
  | some j =>
    obtain ⟨b,hbs,hg⟩:=zJa H hm hrow
    have hpos:=(qQv hm.s hrow).1
    have hmem:=List.mem_of_getElem? hpos
    obtain ⟨hne,hlk⟩:=h3.k j hmem
    have hN0:0<j.h.locks.length:=List.length_pos_iff.2 hne
    have hN5:=(h2.hv j hmem).2
    have hS0:zQP m job j.h.locks 0 m:=⟨hm,⟨j,hrow,by simp,fun x hx=>by have:=(h2.hv j hmem).1 x hx;omega⟩,rfl,rfl,h2.f,fun x hx=>by have:=h2.fv x hx;omega⟩
    have hu:=h2.u
    obtain ⟨L,hL⟩:∃L,j.h.locks=L:=⟨_,rfl⟩
    have hlen0:=fun (w1:World) (H2:Hd w0 (UnPB t m bs::R) w1)=>zXU H2 hm hrow hbs
    rw [hL] at hlk hN0 hN5 hS0
    dsimp only
    rw [hL] at hlen0 ⊢
    clear hne hL hmem H
    obtain ⟨N,hN⟩:∃N,L.length=N:=⟨_,rfl⟩
    rw [hN] at hN0 hN5 hlen0 ⊢
    replace hlk:=Lib.hid hlk
    have hlenH:=Lib.hid hlen0
    clear hlen0
    go_enter Tryz.func189,Tryz.ntmps189
    go_wp2_with fail
    refine hg.mono ?_
    rintro e w1 ⟨rfl,H2⟩
    clear hg
    have hlen:=hlenH.out _ H2
    clear hlenH
    go_wp2_with fail
    refine hlen.mono ?_
    rintro e w2 ⟨rfl,rfl⟩
    clear hlen
    go_wp2_with fail
    go_loopw [23] (fun i wr=>∃k:Nat,k≤N∧i=.int .i64 k∧(k<N→zQP m job L k (m.popN job k)∧Hd w0 (UnPB t (m.popN job k) bs::R) wr)∧(k=N→Hd w0 (UnP t (m.popN job k)::R) wr)) (fun i _=>N-(intOf i).toNat)
    case atStart=>exact ⟨0,Nat.zero_le _,rfl,fun _=>⟨hS0,H2⟩,fun h=>by omega⟩
    case round =>
      obtain ⟨k,hk,rfl,hA,hB⟩:=hrel
      by_cases hlt:k<N
      · obtain ⟨hS,HI⟩:=hA hlt
        clear hA hB
        obtain ⟨j',hrow',hl',hh'⟩:=hS.row
        obtain ⟨x,hx,htk⟩:=qVl (L:=L) (k:=k) (by omega)
        obtain ⟨x1,x2,x3,x4⟩:=hlk.out x hx
        have hl2:=hl'.trans htk
        have hbs':bs[pos (m.popN job k).jobs job]? = some b:=by rw [hS.p];exact hbs
        obtain ⟨xr,n⟩:=x
        obtain ⟨r,rfl⟩:∃r:Nat,xr=r:=⟨xr.toNat,by dsimp only at x1;omega⟩
        dsimp only at x2 x3 x4
        have hlen':=hS.ok.h j' (List.mem_of_getElem? (qQv hS.ok.s hrow').1)
        obtain ⟨F,hF⟩:∃F,(m.popN job k).free[r]? = some F:=⟨(m.popN job k).free[r]'(by rw [hS.f.1];omega),List.getElem?_eq_getElem _⟩
        obtain ⟨hd,hhd⟩:∃hd,j'.h.held[r]? = some hd:=⟨j'.h.held[r]'(by omega),List.getElem?_eq_getElem _⟩
        have hFb:=hS.f.2 F (List.mem_of_getElem? hF)
        have hhb:=hh' hd (List.mem_of_getElem? hhd)
        have hp:=zX8 HI hS.ok hrow' hbs' hl2 (by simp;omega) hhd hF (by omega)
        have g1:IntKind.i64.wrap ((k:Int)+1)=(k:Int)+1:=IntWalk.i64_in _ (by omega)
        have hlti:(k:Int)<N:=by omega
        clear hF hhd hl' htk hh' hFb hhb hlen' hx x1
        go_wp2_with fail
        refine hp.mono ?_
        rintro e w3 ⟨rfl,H4⟩
        clear hp
        go_wp2_with fail
        refine ⟨⟨k+1,by omega,by go_num,fun hk1=>⟨hS.step hlk.out hu (by omega),?_⟩,fun hk1=>UnPB.toP H4⟩,by simp [intOf];omega⟩
        rw [if_neg (by simp;omega)] at H4
        exact H4
      · obtain rfl:k=N:=by omega
        have HF:=hB rfl
        clear hA hB
        go_wp2_with fail
        go_ret
        exact ⟨rfl,HF⟩
end
end
end Go.Proofs.YtkchopnkdjnocaaGreatDoor
