/-
  Merged texts of one proof: Un3, Un4, Un5, Un6, Un7, Un8.
-/
import Derived.Deep.MidRow
import Derived.Test.YtkchopnkdjnocaaGreatDoorG07
import Derived.Test.YtkchopnkdjnocaaGreatDoorG11
import Derived.Test.YtkchopnkdjnocaaGreatDoorG22

set_option maxHeartbeats 16000000
set_option maxRecDepth 20000
namespace Go.Proofs.YtkchopnkdjnocaaGreatDoor
section
open Go.RowKit Spl
def qQ0 (l:List Int):Array Value:=(l.map (Value.int .i64)).toArray
theorem qJe (l:List Int):(qQ0 l).all (·.oneCell')=true:=by
  unfold qQ0
  refine all_oneCell_toArray fun v hv=>?_
  simp at hv
  obtain ⟨x,_,rfl⟩:=hv
  rfl
section
variable {w0 w:World} {R:List Pr} {t:Nat} {m:UnM}
theorem unOf (H:Hd w0 (UnP t m::R) w) (hm:m.Ok) (job:Int):Calls Tryz.prog 194 #[.pointer (some ⟨t,0,none⟩),.int .i64 job] w fun e w'=>e=.returned (.agg (qQ0 (m.heldL job)))∧Hd w0 (UnP t m::R) w':=by
  obtain ⟨⟨vu,vf,vc,vj,bs⟩,hb,H1⟩:=UnP.opened H
  dsimp only at hb H1
  obtain ⟨Z,hZ⟩:∃Z:Array Value,qQ0 (List.replicate 16 0)=Z:=⟨_,rfl⟩
  have hZc:(Value.agg Z).cells=Z:=rfl
  have H2:Hd w0 _ (w.alloc (.cells Z 180)):=H1.fol
  have hZs:=Lib.hid (show Z.size=16 by rw [← hZ];simp [qQ0])
  cases hr:qQs m.jobs job with
  | none =>
    have e1:m.heldL job=List.replicate 16 0:=by unfold UnM.heldL;rw [hr]
    rw [e1,hZ]
    have hg:=qX7 (o:=3) ((H2.v vj).k t) rfl (qQ3 hm.s) (by rw [qQZ hb];have:=hm.n;omega) job (qJW hb hr)
    have hone:=Lib.hid (hZ ▸ qJe (List.replicate 16 0))
    replace hZ:=Lib.hid hZ
    clear H H1 H2 e1 hr hm
    go_enter Tryz.func194,Tryz.ntmps194
    go_wp2_with (first | (refine qQz rfl 180 rfl (.agg Z) (by rw [← hZ.out];kernel_rfl) ?_))
    refine hg.mono ?_
    rintro e w1 ⟨rfl,H3⟩
    go_wp2_with (first | (refine qZV rfl 180 _ rfl Z (by rw [← hZ.out];kernel_rfl) ?_) | (refine qQk (cells:=Z) (H3.k w.heap.size) rfl 180 _ _ rfl rfl rfl (by rw [hZs.out];kernel_rfl) rfl hone.out ?_;intro w4 H9))
    (try simp only [Exit.inBlock,Exit.then])
    refine bodyPost_ret (qQC rfl _ _ w.heap.size 180 Z (0,0) _ (by rfl) (by exact ((Hd.fol H9:Hd w0 _ _).k w.heap.size).heap) Tryz.underlying180 rfl (by rw [hZs.out];kernel_rfl)) rfl ⟨rfl,?_⟩
    exact UnP.shut (x:=⟨vu,vf,vc,vj,bs⟩) (by exact Hd.fin H9) hb
  | some j =>
    have e1:m.heldL job=j.h.held:=by unfold UnM.heldL;rw [hr]
    rw [e1]
    obtain ⟨b,hbs,hrow⟩:=qXu hb hr
    have hjm:j∈m.jobs:=List.mem_of_getElem? (qQv hm.s hr).1
    have hlen:=hm.h j hjm
    have hg:=qWB (o:=3) ((H2.v vj).k t) rfl (qQ3 hm.s) (by rw [qQZ hb];have:=hm.n;omega) job hrow
    obtain ⟨A,hA⟩:∃A:Array Value,qQ0 j.h.held=A:=⟨_,rfl⟩
    have hone:=Lib.hid (hA ▸ qJe j.h.held)
    have hAs:=Lib.hid (show A.size=16 by rw [← hA];simp [qQ0,hlen])
    have hpos:=(qQv hm.s hr).1
    rw [hA]
    replace hZ:=Lib.hid hZ
    clear H H1 H2 e1 hm hrow
    go_enter Tryz.func194,Tryz.ntmps194
    go_wp2_with (first | (refine qQz rfl 180 rfl (.agg Z) (by rw [← hZ.out];kernel_rfl) ?_))
    refine hg.mono ?_
    rintro e w1 ⟨rfl,H3⟩
    clear hg
    have H4:Hd w0 (all (List.zipWith hol bs m.jobs)::cel w.heap.size 180 Z::cel t 173 #[vu,vf,vc,vj]::SlE 3 vu m.units::SlE 3 vf m.free::SlE 3 vc m.cells::SlE 246 vj (qQq m.jobs bs)::R) w1:=by exact H3.re
    obtain ⟨lv,H5⟩:=(H4.row_nth hbs hpos).out
    have H6:=H5.flat
    have hcell:w1.rangeAt b 1 (j.h.held.map (Value.int .i64)):=fun q u hq=>by
      have:=H6.rd (1+q)
      rw [this]
      simp only [List.getElem?_toArray]
      rw [show 1+q=q+1 by omega,List.getElem?_cons_succ]
      exact hq
    replace hcell:=Lib.hid hcell
    have hAl:=Lib.hid (show A=(j.h.held.map (Value.int .i64)).toArray from hA.symm)
    replace hA:=Lib.hid hA
    clear H5 H6 H4 hpos hbs hjm hr
    go_wp2_with (first | (refine wpList_load_mid rfl 180 _ rfl b 1 rfl (j.h.held.map (Value.int .i64)) _ hcell.out Tryz.underlying180 rfl (by rw [List.length_map,hlen];kernel_rfl) ?_;rw [← hAl.out]) | (refine qQk (cells:=A) (H3.k w.heap.size) rfl 180 _ _ rfl rfl rfl (by rw [hAs.out];kernel_rfl) (hZs.out.trans hAs.out.symm) hone.out ?_;intro w4 H9))
    (try simp only [Exit.inBlock,Exit.then])
    refine bodyPost_ret (qQC rfl _ _ w.heap.size 180 A (0,0) _ (by rfl) (by exact ((Hd.fol H9:Hd w0 _ _).k w.heap.size).heap) Tryz.underlying180 rfl (by rw [hAs.out];kernel_rfl)) rfl ⟨rfl,?_⟩
    exact UnP.shut (x:=⟨vu,vf,vc,vj,bs⟩) (by exact Hd.fin H9) hb
end
end
section
open Go.RowKit Spl
theorem qKf {l:List Int} (hl:l.length=16) {r:Nat} {h:Int} (hr:l[r]? = some h) (w:World):(Instr.index 180 (.agg (qQ0 l)) (.int .i64 r)).run Tryz.prog w=.ok (.int .i64 h) w:=by
  have h1:=qQa hr
  have h2:(0:Int)≤r∧(r:Int)<16:=by omega
  have h3:(qQ0 l)[r]? = some (.int .i64 h):=by simp [qQ0,hr]
  simp [Instr.index,run_underlying Tryz.underlying180,asIntOf,h2,go_sem,h3,part]
  intro h;omega
def UnM.lockE (m:UnM) (job res n need:Int):Int :=
  if job<0∨res<0∨(m.units.length:Int)≤res∨n<1∨(m.units[res.toNat]?.getD 0)<n then 1
  else if need<n+((m.heldL job)[res.toNat]?.getD 0) then 22 else if (m.free[res.toNat]?.getD 0)<n then 20 else 0
structure UnM.Ok2 (m:UnM):Prop where
  u:m.units.length≤16
  f:m.free.length=m.units.length
  c:m.cells.length=m.units.length
  uv:∀x∈m.units,1≤x∧x≤255
  fv:∀x∈m.free,0≤x∧x≤255
  hv:∀j∈m.jobs,(∀x∈j.h.held,0≤x∧x≤255)∧j.h.locks.length≤5000
theorem UnM.heldL_len {m:UnM} (hm:m.Ok) (job:Int):(m.heldL job).length=16:=by
  unfold UnM.heldL
  cases hr:qQs m.jobs job with
  | none=>simp
  | some j=>exact hm.h j (List.mem_of_getElem? (qQv hm.s hr).1)
theorem UnM.heldL_le {m:UnM} (hm:m.Ok) (h2:m.Ok2) (job:Int):∀x∈m.heldL job,0≤x∧x≤255:=by
  unfold UnM.heldL
  cases hr:qQs m.jobs job with
  | none=>intro x hx;simp at hx;omega
  | some j=>exact (h2.hv j (List.mem_of_getElem? (qQv hm.s hr).1)).1
section
variable {w0 w:World} {R:List Pr} {t:Nat} {m:UnM}
theorem zZA (H:Hd w0 (UnP t m::R) w) (hm:m.Ok) (h2:m.Ok2) {job res n need:Int} (hn:-100000≤n∧n≤100000) (hE:¬m.lockE job res n need=0) :
    Calls Tryz.prog 178 #[.pointer (some ⟨t,0,none⟩),.int .i64 job,.int .i64 res,.int .i64 n,.int .i64 need] w fun e w'=>e=.returned (.int .i64 (m.lockE job res n need))∧Hd w0 (UnP t m::R) w':=by
  obtain ⟨E,hEE⟩:∃E,m.lockE job res n need=E:=⟨_,rfl⟩
  rw [hEE] at hE ⊢
  unfold UnM.lockE at hEE
  by_cases z1:job<0
  · rw [if_pos (.inl z1)] at hEE
    go_enter Tryz.func178,Tryz.ntmps178
    go_wp2_with fail
    go_ret
    exact ⟨qQp (by first | exact hEE.symm | rfl),H⟩
  by_cases z2:res<0∨(m.units.length:Int)≤res
  · have hno:=qUu H res z2
    rw [if_pos (by omega)] at hEE
    clear z2
    go_enter Tryz.func178,Tryz.ntmps178
    go_wp2_with fail
    refine hno.mono ?_
    rintro e w1 ⟨rfl,rfl⟩
    go_wp2_with fail
    go_ret
    exact ⟨qQp (by first | exact hEE.symm | rfl),H⟩
  obtain ⟨r,rfl⟩:∃r:Nat,res=r:=⟨res.toNat,by omega⟩
  have hr:r<m.units.length:=by omega
  have hyes:=qqH H r hr
  rw [Int.toNat_natCast] at hEE
  obtain ⟨U,hU⟩:∃U,m.units[r]? = some U:=⟨m.units[r],List.getElem?_eq_getElem hr⟩
  rw [hU,Option.getD_some] at hEE
  by_cases z3:n<1
  · rw [if_pos (.inr (.inr (.inr (.inl z3))))] at hEE
    clear z2 hU
    go_enter Tryz.func178,Tryz.ntmps178
    go_wp2_with fail
    refine hyes.mono ?_
    rintro e w1 ⟨rfl,rfl⟩
    go_wp2_with fail
    go_ret
    exact ⟨qQp (by first | exact hEE.symm | rfl),H⟩
  obtain ⟨⟨vu,vf,vc,vj,bs⟩,hb,H1⟩:=UnP.opened H
  dsimp only at hb H1
  obtain ⟨gu,cu,hvu,-,-,-,hcu⟩:=(H1.v vu).slE_at hU
  subst hvu
  have u0:=hcu 0 _ rfl
  simp only [Enc.size,Nat.add_zero,Nat.mul_one] at u0
  have c0:=(show _=some (.slice (some ⟨gu,0,none⟩) m.units.length cu) from (H1.k t).ce 0 rfl)
  have n1:¬(r:Int)<0:=by omega
  have n2:(r:Int)<m.units.length:=by omega
  have n3:¬m.units.length≤r:=by omega
  by_cases z4:U<n
  · rw [if_pos (.inr (.inr (.inr (.inr z4))))] at hEE
    clear z2 hU hcu H1
    go_enter Tryz.func178,Tryz.ntmps178
    go_wp2_with fail
    refine hyes.mono ?_
    rintro e w1 ⟨rfl,rfl⟩
    go_wp2_with fail
    go_ret
    exact ⟨qQp (by first | exact hEE.symm | rfl),H⟩
  rw [if_neg (by omega)] at hEE
  have hlen:=UnM.heldL_len hm job
  have hof:=unOf H hm job
  obtain ⟨h,hh⟩:∃h,(m.heldL job)[r]? = some h:=⟨(m.heldL job)[r]'(by have:=h2.u;omega),List.getElem?_eq_getElem _⟩
  have hhb:=UnM.heldL_le hm h2 job h (List.mem_of_getElem? hh)
  have hix:=qKf hlen hh
  rw [hh,Option.getD_some] at hEE
  obtain ⟨A,hA⟩:∃A,qQ0 (m.heldL job)=A:=⟨_,rfl⟩
  rw [hA] at hof hix
  have g5:IntKind.i64.wrap (n+h)=n+h:=IntWalk.i64_in _ (by omega)
  obtain ⟨F,hF⟩:∃F,m.free[r]? = some F:=⟨m.free[r]'(by rw [h2.f];exact hr),List.getElem?_eq_getElem _⟩
  rw [hF,Option.getD_some] at hEE
  have hff:=h2.f
  clear z2 hU hcu H1 hA hh hlen hb
  by_cases z5:need<n+h
  · rw [if_pos z5] at hEE
    clear hm h2 hF
    go_enter Tryz.func178,Tryz.ntmps178
    go_wp2_with fail
    refine hyes.mono ?_
    rintro e w1 ⟨rfl,rfl⟩
    clear hyes
    go_wp2_with fail
    refine hof.mono ?_
    rintro e w2 ⟨rfl,H2⟩
    go_wp2_with fail
    go_ret
    exact ⟨qQp (by first | exact hEE.symm | rfl),H2⟩
  rw [if_neg z5] at hEE
  by_cases z6:F<n
  · rw [if_pos z6] at hEE
    clear hm h2
    go_enter Tryz.func178,Tryz.ntmps178
    go_wp2_with fail
    refine hyes.mono ?_
    rintro e w1 ⟨rfl,rfl⟩
    clear hyes
    go_wp2_with fail
    refine hof.mono ?_
    rintro e w2 ⟨rfl,H2⟩
    clear hof
    obtain ⟨⟨vu2,vf2,vc2,vj2,bs2⟩,hb2,H3⟩:=UnP.opened H2
    dsimp only at hb2 H3
    obtain ⟨gf,cf,hvf,-,-,-,hcf⟩:=(H3.v vf2).slE_at hF
    subst hvf
    have v0:=hcf 0 _ rfl
    simp only [Enc.size,Nat.add_zero,Nat.mul_one] at v0
    have d1:=(show _=some (.slice (some ⟨gf,0,none⟩) m.free.length cf) from (H3.k t).ce 1 rfl)
    have n4:(r:Int)<m.free.length:=by omega
    have n5:¬m.free.length≤r:=by omega
    clear hcf H3 hb2 hF
    go_wp2_with fail
    go_ret
    exact ⟨qQp (by first | exact hEE.symm | rfl),H2⟩
  · rw [if_neg z6] at hEE
    exact absurd hEE.symm hE
end
end
section
open Go.RowKit Spl
def UnM.locked (m:UnM) (job:Int) (r:Nat) (n:Int):UnM :=
  match qQs m.jobs job with
  | some j=>⟨m.units,m.free.set r ((m.free[r]?.getD 0)-n),m.cells,m.jobs.set (pos m.jobs job) ⟨j.job,⟨j.h.locks++[⟨r,n⟩],j.h.held.set r ((j.h.held[r]?.getD 0)+n)⟩⟩⟩
  | none=>⟨m.units,m.free.set r ((m.free[r]?.getD 0)-n),m.cells,m.jobs.take (pos m.jobs job)++⟨job,⟨[⟨r,n⟩],(List.replicate 16 0).set r (0+n)⟩⟩::m.jobs.drop (pos m.jobs job)⟩
theorem qWa {jobs:List JobM} {bs:List Nat} {i:Nat} {j j':JobM} (hj:jobs[i]? = some j) (he:j'.job=j.job):qQq (jobs.set i j') bs=qQq jobs bs:=by
  apply List.ext_getElem?
  intro k
  simp only [qQq,List.getElem?_zipWith]
  by_cases hk:i=k
  · subst hk
    rw [List.getElem?_set_self (qQa hj),hj]
    cases bs[i]? <;> simp [he]
  · rw [List.getElem?_set_ne hk]
theorem qqU {jobs:List JobM} {bs:List Nat} {i:Nat} {j:JobM} {b:Nat} (h:bs.length=jobs.length) (hi:i≤jobs.length):qQq (jobs.take i++j::jobs.drop i) (bs.take i++b::bs.drop i)=(qQq jobs bs).take i++(⟨j.job,b⟩:RowH)::(qQq jobs bs).drop i:=by
  unfold qQq
  rw [List.zipWith_append (by simp;omega),List.zipWith_cons_cons,List.take_zipWith,List.drop_zipWith]
theorem zJA {α β:Type} {f:α→β→Pr} {xa:List α} {bs:List β} {i:Nat} {a:α} {b:β} (h:xa.length=bs.length) (hi:i≤bs.length):(f a b::List.zipWith f xa bs).Perm (List.zipWith f (xa.take i++a::xa.drop i) (bs.take i++b::bs.drop i)):=by
  rw [List.zipWith_append (by simp;omega),List.zipWith_cons_cons]
  have e:List.zipWith f xa bs=List.zipWith f (xa.take i) (bs.take i)++List.zipWith f (xa.drop i) (bs.drop i):=by
    rw [← List.zipWith_append (by simp;omega),List.take_append_drop,List.take_append_drop]
  rw [e]
  exact List.perm_middle.symm
theorem Hd.zip_in {α β:Type} {f:α→β→Pr} {xa:List α} {bs:List β} {i:Nat} {a:α} {b:β} {w0 w:World} {R:List Pr} (H:Hd w0 (f a b::all (List.zipWith f xa bs)::R) w) (h:xa.length=bs.length) (hi:i≤bs.length):Hd w0 (all (List.zipWith f (xa.take i++a::xa.drop i) (bs.take i++b::bs.drop i))::R) w:=by
  have h2:Hd w0 (f a b::(List.zipWith f xa bs++R)) w:=H.under fun a h=>by
    obtain ⟨b,c,d,e,hb,hc⟩:=h
    exact qZ6.2 ⟨b,c,d,e,hb,hc⟩
  exact (Hd.pack (L:=f a b::List.zipWith f xa bs) h2).all_perm (zJA h hi)
section
variable {w0 w:World} {R:List Pr} {t:Nat} {m:UnM}
theorem zXA (H:Hd w0 (UnP t m::R) w) (hm:m.Ok) (h2:m.Ok2) {job n need:Int} {r:Nat} (hn:-100000≤n∧n≤100000) (hE:m.lockE job r n need=0) :
    Calls Tryz.prog 178 #[.pointer (some ⟨t,0,none⟩),.int .i64 job,.int .i64 r,.int .i64 n,.int .i64 need] w fun e w'=>e=.returned (.int .i64 0)∧Hd w0 (UnP t (m.locked job r n)::R) w':=by
  have hEE:=hE
  unfold UnM.lockE at hEE
  rw [Int.toNat_natCast] at hEE
  obtain ⟨U,hU0⟩:∃U,m.units[r]?.getD 0=U:=⟨_,rfl⟩
  obtain ⟨F,hF0⟩:∃F,m.free[r]?.getD 0=F:=⟨_,rfl⟩
  obtain ⟨h,hh0⟩:∃h,(m.heldL job)[r]?.getD 0=h:=⟨_,rfl⟩
  rw [hU0,hF0,hh0] at hEE
  have q:¬job<0∧¬(m.units.length:Int)≤r∧¬n<1∧¬U<n∧¬need<n+h∧¬F<n:=by
    by_cases a1:job<0∨(r:Int)<0∨(m.units.length:Int)≤r∨n<1∨U<n
    · rw [if_pos a1] at hEE;cases hEE
    rw [if_neg a1] at hEE
    by_cases a2:need<n+h
    · rw [if_pos a2] at hEE;cases hEE
    rw [if_neg a2] at hEE
    by_cases a3:F<n
    · rw [if_pos a3] at hEE;cases hEE
    omega
  obtain ⟨z1,z2,z3,z4,z5,z6⟩:=q
  clear hEE hE
  have hr:r<m.units.length:=by omega
  have hyes:=qqH H r hr
  have hU:m.units[r]? = some U:=by rw [List.getElem?_eq_getElem hr];rw [List.getElem?_eq_getElem hr] at hU0;rw [← hU0];rfl
  have hfl:=h2.f
  have hF:m.free[r]? = some F:=by
    have:r<m.free.length:=by omega
    rw [List.getElem?_eq_getElem this];rw [List.getElem?_eq_getElem this] at hF0;rw [← hF0];rfl
  have hlen:=UnM.heldL_len hm job
  have hu16:=h2.u
  have hh:(m.heldL job)[r]? = some h:=by
    have:r<(m.heldL job).length:=by omega
    rw [List.getElem?_eq_getElem this];rw [List.getElem?_eq_getElem this] at hh0;rw [← hh0];rfl
  have hhb:=UnM.heldL_le hm h2 job h (List.mem_of_getElem? hh)
  have hFb:=h2.fv F (List.mem_of_getElem? hF)
  have hof:=unOf H hm job
  have hix:=qKf hlen hh
  obtain ⟨A,hA⟩:∃A,qQ0 (m.heldL job)=A:=⟨_,rfl⟩
  rw [hA] at hof hix
  obtain ⟨⟨vu,vf,vc,vj,bs⟩,hb,H1⟩:=UnP.opened H
  dsimp only at hb H1
  obtain ⟨gu,cu,hvu,-,-,-,hcu⟩:=(H1.v vu).slE_at hU
  subst hvu
  have u0:=hcu 0 _ rfl
  simp only [Enc.size,Nat.add_zero,Nat.mul_one] at u0
  have c0:=(show _=some (.slice (some ⟨gu,0,none⟩) m.units.length cu) from (H1.k t).ce 0 rfl)
  have n1:¬(r:Int)<0:=by omega
  have n2:(r:Int)<m.units.length:=by omega
  have n3:¬m.units.length≤r:=by omega
  have n4:(r:Int)<m.free.length:=by omega
  have n5:¬m.free.length≤r:=by omega
  have n6:(r:Int)<16:=by omega
  have n7:(0:Int)≤r:=by omega
  have g5:IntKind.i64.wrap (n+h)=n+h:=IntWalk.i64_in _ (by omega)
  have g6:IntKind.i64.wrap (h+n)=h+n:=IntWalk.i64_in _ (by omega)
  have g7:IntKind.i64.wrap (F-n)=F-n:=IntWalk.i64_in _ (by omega)
  have hNoN:=Lib.hid hm.n
  clear hcu H1 hA hb hlen hU0
  go_enter Tryz.func178,Tryz.ntmps178
  go_wp2_with fail
  refine hyes.mono ?_
  rintro e w1 ⟨rfl,rfl⟩
  clear hyes
  go_wp2_with fail
  refine hof.mono ?_
  rintro e w2 ⟨rfl,H2⟩
  clear hof H c0 u0
  obtain ⟨⟨vu,vf,vc,vj,bs⟩,hb,H3⟩:=UnP.opened H2
  dsimp only at hb H3
  obtain ⟨gf,cf,hvf,-,-,-,hcf⟩:=(H3.v vf).slE_at hF
  subst hvf
  have v0:=hcf 0 _ rfl
  simp only [Enc.size,Nat.add_zero,Nat.mul_one] at v0
  have d1:=(show _=some (.slice (some ⟨gf,0,none⟩) m.free.length cf) from (H3.k t).ce 1 rfl)
  clear hcf H2
  cases hrow:qQs m.jobs job with
  | some j =>
    have hjh:m.heldL job=j.h.held:=by unfold UnM.heldL;rw [hrow]
    obtain ⟨b,hbs,hrw⟩:=qXu hb hrow
    have hpos:=(qQv hm.s hrow).1
    have hlk:=(h2.hv j (List.mem_of_getElem? hpos)).2
    have hg:=qWB (o:=3) ((H3.v vj).k t) rfl (qQ3 hm.s) (by rw [qQZ hb];have:=hNoN.out;omega) job hrw
    have e9:m.locked job r n=⟨m.units,m.free.set r (F-n),m.cells,m.jobs.set (pos m.jobs job) ⟨j.job,⟨j.h.locks++[⟨r,n⟩],j.h.held.set r (h+n)⟩⟩⟩:=by
      unfold UnM.locked;rw [hrow];dsimp only;rw [hF0,← hjh,hh0]
    rw [hjh] at hh
    replace e9:=Lib.hid e9
    clear hrw hjh hF0 hh0 H3
    go_wp2_with fail
    refine hg.mono ?_
    rintro e w3 ⟨rfl,H4⟩
    clear hg
    have H5:Hd w0 (all (List.zipWith hol bs m.jobs)::cel t 173 #[vu,.slice (some ⟨gf,0,none⟩) m.free.length cf,vc,vj]::SlE 3 vu m.units::SlE 3 (.slice (some ⟨gf,0,none⟩) m.free.length cf) m.free::SlE 3 vc m.cells::SlE 246 vj (qQq m.jobs bs)::R) w3:=by exact H4.re
    obtain ⟨lv,H6⟩:=(H5.row_nth hbs hpos).out
    have H7:Hd w0 (cel b 182 (lv::j.h.held.map (Value.int .i64)).toArray::SlE 320 lv j.h.locks::all ((List.zipWith hol bs m.jobs).eraseIdx (pos m.jobs job))::cel t 173 #[vu,.slice (some ⟨gf,0,none⟩) m.free.length cf,vc,vj]::SlE 3 vu m.units::SlE 3 (.slice (some ⟨gf,0,none⟩) m.free.length cf) m.free::SlE 3 vc m.cells::SlE 246 vj (qQq m.jobs bs)::R) w3:=H6.flat
    clear H4 H5 H6
    have hpu:=qKq (o:=0) H7 rfl (by omega) ⟨r,n⟩
    go_wp2_with fail
    refine hpu.mono ?_
    rintro e w4 ⟨rfl,lv2,H8⟩
    clear hpu H7
    have H9:Hd w0 (cel b 182 (lv2::j.h.held.map (Value.int .i64)).toArray::_) w4:=H8
    have hC:((lv2::j.h.held.map (Value.int .i64)).toArray)[1+r]? = some (.int .i64 h):=by simp [Nat.add_comm 1 r,hh]
    have k0:=(H9.k b).ce (1+r) hC
    have k1:=(H9.k b).fr (1+r)
    have e4:((lv2::j.h.held.map (Value.int .i64)).toArray).setIfInBounds (1+r) (.int .i64 (h+n))=(lv2::(j.h.held.set r (h+n)).map (Value.int .i64)).toArray:=by
      rw [List.setIfInBounds_toArray,Nat.add_comm 1 r,List.set_cons_succ,List.map_set]
    have HA:Hd w0 _ (w4.setCell ⟨b,1+r,none⟩ (.int .i64 (h+n))):=H9.fol
    rw [e4] at HA
    obtain ⟨gf2,cf2,hvf,-,-,HB,hcf⟩:=(HA.v (.slice (some ⟨gf,0,none⟩) m.free.length cf)).slE_at hF
    injection hvf with r1 r2 r3
    injection r1 with r1
    injection r1 with r1
    subst r1;subst r3
    have x0:=hcf 0 _ rfl
    simp only [Enc.size,Nat.add_zero,Nat.mul_one] at x0
    have x1:=(show _=some (.slice (some ⟨gf,0,none⟩) m.free.length cf) from (HA.k t).ce 1 rfl)
    have fx:=HB.slcC_fr r
    have HS:=HB.slcC_set (j:=r) (by rw [qQf];simp [Enc.size];omega) (.int .i64 (F-n))
    have e5:(flat m.free).set r (.int .i64 (F-n))=flat (m.free.set r (F-n)):=by
      have:=qJT (l:=m.free) (k:=r) (x:=F) (y:=F-n) hF (j:=0) (v:=.int .i64 (F-n)) (by decide) rfl
      simpa [Enc.size] using this
    rw [e5] at HS
    clear hcf HA HB H8 H9 r2 e5 hC e4
    go_wp2_with fail
    refine wp_region_still_tail 11 (by kernel_rfl) (by kernel_rfl) ?_
    simp only [List.take_succ_cons,List.take_zero,List.drop_succ_cons,List.drop_zero,World.drew_eq]
    (repeat still_step)
    refine wpStill_nil ?_
    go_wp2_with fail
    go_ret
    refine ⟨rfl,?_⟩
    rw [e9.out]
    have HT:=(Hd.slc_mk HS).drew
    have HU:Hd w0 (cel b 182 (lv2::(j.h.held.set r (h+n)).map (Value.int .i64)).toArray::SlE 320 lv2 (j.h.locks++[⟨r,n⟩])::all ((List.zipWith hol bs m.jobs).eraseIdx (pos m.jobs job))::cel t 173 #[vu,.slice (some ⟨gf,0,none⟩) m.free.length cf,vc,vj]::SlE 3 vu m.units::Slc 3 (Enc.size Int) (.slice (some ⟨gf,0,none⟩) m.free.length cf) m.free.length (flat (m.free.set r (F-n)))::SlE 3 vc m.cells::SlE 246 vj (qQq m.jobs bs)::R) _:=HT.re
    have HV:=Hd.into (S:=fun lv:Value=>all [cel b 182 (lv::(j.h.held.set r (h+n)).map (Value.int .i64)).toArray,SlE 320 lv (j.h.locks++[⟨r,n⟩])]) lv2 (Hd.pack (L:=[_,_]) HU)
    have HW:=HV.row_back (f:=hol) (b':=⟨j.job,⟨j.h.locks++[⟨r,n⟩],j.h.held.set r (h+n)⟩⟩) hbs hpos
    refine UnP.shut (x:=⟨vu,.slice (some ⟨gf,0,none⟩) m.free.length cf,vc,vj,bs⟩) ?_ (by simpa using hb)
    dsimp only
    unfold SlE
    rw [qWa (j':=⟨j.job,⟨j.h.locks++[(⟨(r:Int),n⟩:qZQ)],j.h.held.set r (h+n)⟩⟩) (bs:=bs) hpos rfl,List.length_set]
    exact HW.re
  | none =>
    have hjh:m.heldL job=List.replicate 16 0:=by unfold UnM.heldL;rw [hrow]
    have hg:=qX7 (o:=3) ((H3.v vj).k t) rfl (qQ3 hm.s) (by rw [qQZ hb];have:=hNoN.out;omega) job (qJW hb hrow)
    have hz:h=0:=by
      rw [hjh] at hh
      have:r<16:=by omega
      rw [List.getElem?_replicate] at hh
      simp [this] at hh
      exact hh.symm
    subst hz
    have e9:m.locked job r n=⟨m.units,m.free.set r (F-n),m.cells,m.jobs.take (pos m.jobs job)++⟨job,⟨[⟨r,n⟩],(List.replicate 16 0).set r n⟩⟩::m.jobs.drop (pos m.jobs job)⟩:=by
      unfold UnM.locked;rw [hrow];dsimp only;rw [hF0,Int.zero_add]
    rw [hjh] at hh
    replace e9:=Lib.hid e9
    have hple:=qYQ m.jobs job
    obtain ⟨D,hD⟩:∃D:List Int,List.replicate 16 0=D:=⟨_,rfl⟩
    have hDl:D.length=16:=by rw [← hD];simp
    rw [hD] at hh
    clear hjh hF0 hh0 H3
    go_wp2_with fail
    refine hg.mono ?_
    rintro e w3 ⟨rfl,H4⟩
    clear hg
    have H5:Hd w0 _ (w3.alloc (.cells #[.slice none 0 0,.int .i64 0,.int .i64 0,.int .i64 0,.int .i64 0,.int .i64 0,.int .i64 0,.int .i64 0,.int .i64 0,.int .i64 0,.int .i64 0,.int .i64 0,.int .i64 0,.int .i64 0,.int .i64 0,.int .i64 0,.int .i64 0] 182)):=H4.fol
    have hset:=qUx (o:=3) (x:=⟨job,w3.heap.size⟩) ((H5.v vj).k t) rfl (qQ3 hm.s) (by rw [qQZ hb];have:=hNoN.out;omega) (qJW hb hrow)
    clear H4
    go_wp2_with fail
    refine hset.mono ?_
    rintro e w4 ⟨rfl,vj2,H6⟩
    clear hset H5
    obtain ⟨b,hbw⟩:∃b,w3.heap.size=b:=⟨_,rfl⟩
    rw [hbw] at H6 ⊢
    rw [← qJK hb] at hple
    have H7:Hd w0 (cel b 182 (.slice none 0 0::D.map (Value.int .i64)).toArray::SlE 320 (.slice none 0 0) ([]:List qZQ)::all (List.zipWith hol bs m.jobs)::cel t 173 #[vu,.slice (some ⟨gf,0,none⟩) m.free.length cf,vc,vj2]::SlE 3 vu m.units::SlE 3 (.slice (some ⟨gf,0,none⟩) m.free.length cf) m.free::SlE 3 vc m.cells::SlE 246 vj2 ((qQq m.jobs bs).take (pos (qQq m.jobs bs) job)++(⟨job,b⟩:RowH)::(qQq m.jobs bs).drop (pos (qQq m.jobs bs) job))::R) w4:=by
      have h:Hd w0 (cel t 173 #[vu,.slice (some ⟨gf,0,none⟩) m.free.length cf,vc,vj2]::_) w4:=H6
      have h3:Hd w0 (cel b 182 #[.slice none 0 0,.int .i64 0,.int .i64 0,.int .i64 0,.int .i64 0,.int .i64 0,.int .i64 0,.int .i64 0,.int .i64 0,.int .i64 0,.int .i64 0,.int .i64 0,.int .i64 0,.int .i64 0,.int .i64 0,.int .i64 0,.int .i64 0]::all (List.zipWith hol bs m.jobs)::cel t 173 #[vu,.slice (some ⟨gf,0,none⟩) m.free.length cf,vc,vj2]::SlE 3 vu m.units::SlE 3 (.slice (some ⟨gf,0,none⟩) m.free.length cf) m.free::SlE 3 vc m.cells::SlE 246 vj2 ((qQq m.jobs bs).take (pos (qQq m.jobs bs) job)++(⟨job,b⟩:RowH)::(qQq m.jobs bs).drop (pos (qQq m.jobs bs) job))::R) w4:=h.re
      rw [← hD]
      exact (h3.slc_nil 320 2).b2
    clear H6
    have hpu:=qKq (o:=0) H7 rfl (by simp) ⟨r,n⟩
    go_wp2_with fail
    refine hpu.mono ?_
    rintro e w4 ⟨rfl,lv2,H8⟩
    clear hpu H7
    have H9:Hd w0 (cel b 182 (lv2::D.map (Value.int .i64)).toArray::_) w4:=H8
    have hC:((lv2::D.map (Value.int .i64)).toArray)[1+r]? = some (.int .i64 0):=by simp [Nat.add_comm 1 r,hh]
    have k0:=(H9.k b).ce (1+r) hC
    have k1:=(H9.k b).fr (1+r)
    have e4:((lv2::D.map (Value.int .i64)).toArray).setIfInBounds (1+r) (.int .i64 n)=(lv2::(D.set r n).map (Value.int .i64)).toArray:=by
      rw [List.setIfInBounds_toArray,Nat.add_comm 1 r,List.set_cons_succ,List.map_set]
    have HA:Hd w0 _ (w4.setCell ⟨b,1+r,none⟩ (.int .i64 n)):=H9.fol
    rw [e4] at HA
    obtain ⟨gf2,cf2,hvf,-,-,HB,hcf⟩:=(HA.v (.slice (some ⟨gf,0,none⟩) m.free.length cf)).slE_at hF
    injection hvf with r1 r2 r3
    injection r1 with r1
    injection r1 with r1
    subst r1;subst r3
    have x0:=hcf 0 _ rfl
    simp only [Enc.size,Nat.add_zero,Nat.mul_one] at x0
    have x1:=(show _=some (.slice (some ⟨gf,0,none⟩) m.free.length cf) from (HA.k t).ce 1 rfl)
    have fx:=HB.slcC_fr r
    have HS:=HB.slcC_set (j:=r) (by rw [qQf];simp [Enc.size];omega) (.int .i64 (F-n))
    have e5:(flat m.free).set r (.int .i64 (F-n))=flat (m.free.set r (F-n)):=by
      have:=qJT (l:=m.free) (k:=r) (x:=F) (y:=F-n) hF (j:=0) (v:=.int .i64 (F-n)) (by decide) rfl
      simpa [Enc.size] using this
    rw [e5] at HS
    have gn:IntKind.i64.wrap n=n:=IntWalk.i64_in _ (by omega)
    clear hcf HA HB H8 H9 r2 e5 hC e4
    go_wp2_with fail
    refine wp_region_still_tail 11 (by kernel_rfl) (by kernel_rfl) ?_
    simp only [List.take_succ_cons,List.take_zero,List.drop_succ_cons,List.drop_zero,World.drew_eq]
    (repeat still_step)
    refine wpStill_nil ?_
    go_wp2_with fail
    go_ret
    refine ⟨rfl,?_⟩
    rw [e9.out]
    have HT:=(Hd.slc_mk HS).drew
    have HU:Hd w0 (cel b 182 (lv2::(D.set r n).map (Value.int .i64)).toArray::SlE 320 lv2 (([]:List qZQ)++[⟨r,n⟩])::all (List.zipWith hol bs m.jobs)::cel t 173 #[vu,.slice (some ⟨gf,0,none⟩) m.free.length cf,vc,vj2]::SlE 3 vu m.units::Slc 3 (Enc.size Int) (.slice (some ⟨gf,0,none⟩) m.free.length cf) m.free.length (flat (m.free.set r (F-n)))::SlE 3 vc m.cells::SlE 246 vj2 ((qQq m.jobs bs).take (pos (qQq m.jobs bs) job)++(⟨job,b⟩:RowH)::(qQq m.jobs bs).drop (pos (qQq m.jobs bs) job))::R) _:=HT.re
    have HV:Hd w0 (hol b ⟨job,⟨[⟨r,n⟩],D.set r n⟩⟩::_) _:=Hd.into (S:=fun lv:Value=>all [cel b 182 (lv::(D.set r n).map (Value.int .i64)).toArray,SlE 320 lv (([]:List qZQ)++[⟨r,n⟩])]) lv2 (Hd.pack (L:=[_,_]) HU)
    have hpp:pos (qQq m.jobs bs) job=pos m.jobs job:=qJK hb
    have hple2:=qYQ m.jobs job
    have HW:=HV.zip_in hb hple2
    rw [hD]
    refine UnP.shut (x:=⟨vu,.slice (some ⟨gf,0,none⟩) m.free.length cf,vc,vj2,bs.take (pos m.jobs job)++b::bs.drop (pos m.jobs job)⟩) ?_ (by simp;omega)
    dsimp only
    unfold SlE
    rw [qqU hb hple2,List.length_set,← hpp]
    rw [← hpp] at HW
    exact HW.re
end
end
section
open Go.RowKit Spl
section
variable {w0 w:World} {R:List Pr} {t b r:Nat} {vu vf vc vj lv:Value} {l:List qZQ} {held free:List Int} {n h F job:Int}
theorem zXc (H:Hd w0 (cel b 182 (lv::held.map (Value.int .i64)).toArray::SlE 320 lv (l++[⟨(r:Int),n⟩])::cel t 173 #[vu,vf,vc,vj]::SlE 3 vf free::R) w) (hl:0<l.length) (hll:l.length≤5000) (hlen:held.length=16) (hh:held[r]? = some h) (hF:free[r]? = some F) (hb:0≤n∧n≤100000 ∧ -1000000000≤h∧h≤1000000000 ∧ -1000000000≤F∧F≤1000000000) :
    Calls Tryz.prog 200 #[.pointer (some ⟨t,0,none⟩),.int .i64 job,.pointer (some ⟨b,0,none⟩)] w fun e w'=>e=.returned (.int .i64 n)∧∃lv' vf',Hd w0 (cel b 182 (lv'::(held.set r (h-n)).map (Value.int .i64)).toArray::SlE 320 lv' l::cel t 173 #[vu,vf',vc,vj]::SlE 3 vf' (free.set r (F+n))::R) w':=by
  have hlk:l.length<100000:=by omega
  have hpop:=qKY (o:=0) H rfl hlk
  have hr:=qQa hF
  obtain ⟨gf,cf,rfl,-,-,-,hcf⟩:=(H.v vf).slE_at hF
  clear hcf
  have g5:IntKind.i64.wrap (h-n)=h-n:=IntWalk.i64_in _ (by omega)
  have g6:IntKind.i64.wrap (F+n)=F+n:=IntWalk.i64_in _ (by omega)
  have hrh:=qQa hh
  have n1:¬(r:Int)<0:=by omega
  have n4:(r:Int)<free.length:=by omega
  have n5:¬free.length≤r:=by omega
  have n6:(r:Int)<16:=by omega
  have n7:(0:Int)≤r:=by omega
  dsimp only at hpop
  go_enter Tryz.func200,Tryz.ntmps200
  go_wp2_with fail
  refine hpop.mono ?_
  rintro e w1 ⟨rfl,lv2,H2⟩
  clear hpop H
  have H3:Hd w0 (cel b 182 (lv2::held.map (Value.int .i64)).toArray::_) w1:=H2
  clear H2
  have HA:Hd w0 _ (w1.alloc (.cells #[.int .i64 r,.int .i64 n] 320)):=H3.fol
  obtain ⟨q,hq⟩:∃q,w1.heap.size=q:=⟨_,rfl⟩
  rw [hq] at HA
  have p0:=(show _=some (Value.int .i64 r) from (HA.k q).ce 0 rfl)
  have p1:=(show _=some (Value.int .i64 n) from (HA.k q).ce 1 rfl)
  have hC:((lv2::held.map (Value.int .i64)).toArray)[1+r]? = some (.int .i64 h):=by simp [Nat.add_comm 1 r,hh]
  have k0:=(HA.k b).ce (1+r) hC
  have k1:=(HA.k b).fr (1+r)
  go_wp2_with fail
  refine wp_region_still_tail 13 (by kernel_rfl) (by kernel_rfl) ?_
  simp only [List.take_succ_cons,List.take_zero,List.drop_succ_cons,List.drop_zero,World.drew_eq]
  (repeat still_step)
  refine wpStill_nil ?_
  have e4:((lv2::held.map (Value.int .i64)).toArray).setIfInBounds (1+r) (.int .i64 (h-n))=(lv2::(held.set r (h-n)).map (Value.int .i64)).toArray:=by
    rw [List.setIfInBounds_toArray,Nat.add_comm 1 r,List.set_cons_succ,List.map_set]
  have HB:Hd w0 _ ((w1.alloc (.cells #[.int .i64 r,.int .i64 n] 320)).setCell ⟨b,1+r,none⟩ (.int .i64 (h-n))):=HA.fol
  rw [e4] at HB
  have s0:=(show _=some (Value.int .i64 r) from (HB.k q).ce 0 rfl)
  have s1:=(show _=some (Value.int .i64 n) from (HB.k q).ce 1 rfl)
  have x1:=(show _=some (.slice (some ⟨gf,0,none⟩) free.length cf) from (HB.k t).ce 1 rfl)
  obtain ⟨gf2,cf2,hvf,-,-,HC,hcf⟩:=(HB.v (.slice (some ⟨gf,0,none⟩) free.length cf)).slE_at hF
  injection hvf with r1 r2 r3
  injection r1 with r1
  injection r1 with r1
  subst r1;subst r3
  have x0:=hcf 0 _ rfl
  simp only [Enc.size,Nat.add_zero,Nat.mul_one] at x0
  have fx:=HC.slcC_fr r
  clear hcf HA p0 p1 H3
  have HS:=HC.slcC_set (j:=r) (by rw [qQf];simp [Enc.size];omega) (.int .i64 (F+n))
  have e5:(flat free).set r (.int .i64 (F+n))=flat (free.set r (F+n)):=by
    have:=qJT (l:=free) (k:=r) (x:=F) (y:=F+n) hF (j:=0) (v:=.int .i64 (F+n)) (by decide) rfl
    simpa [Enc.size] using this
  rw [e5] at HS
  have HT:=((Hd.slc_mk HS).drew).drew
  have HU:Hd w0 (cel b 182 (lv2::(held.set r (h-n)).map (Value.int .i64)).toArray::SlE 320 lv2 l::cel q 320 #[.int .i64 r,.int .i64 n]::cel t 173 #[vu,.slice (some ⟨gf,0,none⟩) free.length cf,vc,vj]::Slc 3 (Enc.size Int) (.slice (some ⟨gf,0,none⟩) free.length cf) free.length (flat (free.set r (F+n)))::R) _:=HT.re
  have hlen2:=qXG (o:=0) HU rfl
  go_wp2_with fail
  refine wp_region_still_tail 12 (by kernel_rfl) (by kernel_rfl) ?_
  simp only [List.take_succ_cons,List.take_zero,List.drop_succ_cons,List.drop_zero,World.drew_eq]
  (repeat still_step)
  refine wpStill_nil ?_
  have y1:=(show _=some (Value.int .i64 n) from (HU.k q).ce 1 rfl)
  clear HB HC HS HT s0 s1 x1 k0 k1
  go_wp2_with fail
  refine hlen2.mono ?_
  rintro e w2 ⟨rfl,rfl⟩
  clear hlen2
  have z1:¬(l.length:Int)=0:=by omega
  go_wp2_with fail
  go_ret
  refine ⟨rfl,lv2,.slice (some ⟨gf,0,none⟩) free.length cf,?_⟩
  unfold SlE
  rw [List.length_set]
  exact HU.re
theorem zXB {RW:List RowH} {x:RowH} (H:Hd w0 (cel b 182 (lv::held.map (Value.int .i64)).toArray::SlE 320 lv (l++[⟨(r:Int),n⟩])::cel t 173 #[vu,vf,vc,vj]::SlE 3 vf free::SlE 246 vj RW::R) w) (hl:l.length=0) (hs:qQ9 RW) (hRW:RW.length≤100000) (hx:qQs RW job=some x) (hlen:held.length=16) (hh:held[r]? = some h) (hF:free[r]? = some F) (hb:0≤n∧n≤100000 ∧ -1000000000≤h∧h≤1000000000 ∧ -1000000000≤F∧F≤1000000000) :
    Calls Tryz.prog 200 #[.pointer (some ⟨t,0,none⟩),.int .i64 job,.pointer (some ⟨b,0,none⟩)] w fun e w'=>e=.returned (.int .i64 n)∧∃vf' vj',Hd w0 (cel t 173 #[vu,vf',vc,vj']::SlE 3 vf' (free.set r (F+n))::SlE 246 vj' (RW.eraseIdx (pos RW job))::R) w':=by
  have hll:l.length≤5000:=by omega
  replace hRW:=Lib.hid hRW
  have hlk:l.length<100000:=by omega
  have hpop:=qKY (o:=0) H rfl hlk
  have hr:=qQa hF
  obtain ⟨gf,cf,rfl,-,-,-,hcf⟩:=(H.v vf).slE_at hF
  clear hcf
  have g5:IntKind.i64.wrap (h-n)=h-n:=IntWalk.i64_in _ (by omega)
  have g6:IntKind.i64.wrap (F+n)=F+n:=IntWalk.i64_in _ (by omega)
  have hrh:=qQa hh
  have n1:¬(r:Int)<0:=by omega
  have n4:(r:Int)<free.length:=by omega
  have n5:¬free.length≤r:=by omega
  have n6:(r:Int)<16:=by omega
  have n7:(0:Int)≤r:=by omega
  dsimp only at hpop
  go_enter Tryz.func200,Tryz.ntmps200
  go_wp2_with fail
  refine hpop.mono ?_
  rintro e w1 ⟨rfl,lv2,H2⟩
  clear hpop H
  have H3:Hd w0 (cel b 182 (lv2::held.map (Value.int .i64)).toArray::_) w1:=H2
  clear H2
  have HA:Hd w0 _ (w1.alloc (.cells #[.int .i64 r,.int .i64 n] 320)):=H3.fol
  obtain ⟨q,hq⟩:∃q,w1.heap.size=q:=⟨_,rfl⟩
  rw [hq] at HA
  have p0:=(show _=some (Value.int .i64 r) from (HA.k q).ce 0 rfl)
  have p1:=(show _=some (Value.int .i64 n) from (HA.k q).ce 1 rfl)
  have hC:((lv2::held.map (Value.int .i64)).toArray)[1+r]? = some (.int .i64 h):=by simp [Nat.add_comm 1 r,hh]
  have k0:=(HA.k b).ce (1+r) hC
  have k1:=(HA.k b).fr (1+r)
  go_wp2_with fail
  refine wp_region_still_tail 13 (by kernel_rfl) (by kernel_rfl) ?_
  simp only [List.take_succ_cons,List.take_zero,List.drop_succ_cons,List.drop_zero,World.drew_eq]
  (repeat still_step)
  refine wpStill_nil ?_
  have e4:((lv2::held.map (Value.int .i64)).toArray).setIfInBounds (1+r) (.int .i64 (h-n))=(lv2::(held.set r (h-n)).map (Value.int .i64)).toArray:=by
    rw [List.setIfInBounds_toArray,Nat.add_comm 1 r,List.set_cons_succ,List.map_set]
  have HB:Hd w0 _ ((w1.alloc (.cells #[.int .i64 r,.int .i64 n] 320)).setCell ⟨b,1+r,none⟩ (.int .i64 (h-n))):=HA.fol
  rw [e4] at HB
  have s0:=(show _=some (Value.int .i64 r) from (HB.k q).ce 0 rfl)
  have s1:=(show _=some (Value.int .i64 n) from (HB.k q).ce 1 rfl)
  have x1:=(show _=some (.slice (some ⟨gf,0,none⟩) free.length cf) from (HB.k t).ce 1 rfl)
  obtain ⟨gf2,cf2,hvf,-,-,HC,hcf⟩:=(HB.v (.slice (some ⟨gf,0,none⟩) free.length cf)).slE_at hF
  injection hvf with r1 r2 r3
  injection r1 with r1
  injection r1 with r1
  subst r1;subst r3
  have x0:=hcf 0 _ rfl
  simp only [Enc.size,Nat.add_zero,Nat.mul_one] at x0
  have fx:=HC.slcC_fr r
  clear hcf HA p0 p1 H3
  have HS:=HC.slcC_set (j:=r) (by rw [qQf];simp [Enc.size];omega) (.int .i64 (F+n))
  have e5:(flat free).set r (.int .i64 (F+n))=flat (free.set r (F+n)):=by
    have:=qJT (l:=free) (k:=r) (x:=F) (y:=F+n) hF (j:=0) (v:=.int .i64 (F+n)) (by decide) rfl
    simpa [Enc.size] using this
  rw [e5] at HS
  have HT:=((Hd.slc_mk HS).drew).drew
  have HU:Hd w0 (cel b 182 (lv2::(held.set r (h-n)).map (Value.int .i64)).toArray::SlE 320 lv2 l::cel q 320 #[.int .i64 r,.int .i64 n]::cel t 173 #[vu,.slice (some ⟨gf,0,none⟩) free.length cf,vc,vj]::Slc 3 (Enc.size Int) (.slice (some ⟨gf,0,none⟩) free.length cf) free.length (flat (free.set r (F+n)))::SlE 246 vj RW::R) _:=HT.re
  have hlen2:=qXG (o:=0) HU rfl
  go_wp2_with fail
  refine wp_region_still_tail 12 (by kernel_rfl) (by kernel_rfl) ?_
  simp only [List.take_succ_cons,List.take_zero,List.drop_succ_cons,List.drop_zero,World.drew_eq]
  (repeat still_step)
  refine wpStill_nil ?_
  have y1:=(show _=some (Value.int .i64 n) from (HU.k q).ce 1 rfl)
  clear HB HC HS HT s0 s1 x1 k0 k1
  go_wp2_with fail
  refine hlen2.mono ?_
  rintro e w2 ⟨rfl,rfl⟩
  clear hlen2
  have z1:(l.length:Int)=0:=by omega
  have HV:Hd w0 (cel t 173 #[vu,.slice (some ⟨gf,0,none⟩) free.length cf,vc,vj]::SlE 246 vj RW::cel q 320 #[.int .i64 r,.int .i64 n]::Slc 3 (Enc.size Int) (.slice (some ⟨gf,0,none⟩) free.length cf) free.length (flat (free.set r (F+n)))::R) _:=HU.re
  have hdel:=zQ1 (o:=3) HV rfl hs hRW.out hx
  clear HV
  go_wp2_with fail
  refine hdel.mono ?_
  rintro e w3 ⟨rfl,vj2,HW⟩
  clear hdel
  have y2:=(show _=some (Value.int .i64 n) from (HW.k q).ce 1 rfl)
  go_wp2_with fail
  go_ret
  refine ⟨rfl,.slice (some ⟨gf,0,none⟩) free.length cf,vj2,?_⟩
  have HX:Hd w0 (cel t 173 #[vu,.slice (some ⟨gf,0,none⟩) free.length cf,vc,vj2]::_) _:=HW
  unfold SlE
  rw [List.length_set]
  exact HX.re
end
end
section
open Go.RowKit Spl
def UnM.popped (m:UnM) (job:Int):UnM :=
  match qQs m.jobs job with
  | none=>m
  | some j=>match j.h.locks.getLast? with
    | none=>m
    | some x=>⟨m.units,m.free.set x.res.toNat ((m.free[x.res.toNat]?.getD 0)+x.units),m.cells,if j.h.locks.length=1 then m.jobs.eraseIdx (pos m.jobs job) else m.jobs.set (pos m.jobs job) ⟨j.job,⟨j.h.locks.dropLast,j.h.held.set x.res.toNat ((j.h.held[x.res.toNat]?.getD 0)-x.units)⟩⟩⟩
theorem qWZ {α β γ:Type} (f:α→β→γ):∀(xs:List α) (ys:List β) (i:Nat),(List.zipWith f xs ys).eraseIdx i=List.zipWith f (xs.eraseIdx i) (ys.eraseIdx i):=by
  intro xs
  induction xs with
  | nil=>intro ys i;simp
  | cons x xs ih =>
    intro ys i
    cases ys with
    | nil=>simp
    | cons y ys =>
      cases i with
      | zero=>simp
      | succ i=>simp [ih]
theorem qVa (jobs:List JobM) (bs:List Nat) (i:Nat):(qQq jobs bs).eraseIdx i=qQq (jobs.eraseIdx i) (bs.eraseIdx i):=by
  unfold qQq
  exact qWZ _ _ _ _
structure UnW where
  vu:Value
  vf:Value
  vc:Value
  vj:Value
def UnPB (t:Nat) (m:UnM) (bs:List Nat):Pr:=ex fun x:UnW=>all [fact (bs.length=m.jobs.length),cel t 173 #[x.vu,x.vf,x.vc,x.vj],SlE 3 x.vu m.units,SlE 3 x.vf m.free,SlE 3 x.vc m.cells,SlE 246 x.vj (qQq m.jobs bs),all (List.zipWith hol bs m.jobs)]
instance (b:Nat) (m:UnM) (bs:List Nat):Key (UnPB b m bs) (.b b):=⟨trivial⟩
section
variable {w0 w:World} {R:List Pr} {t b r:Nat} {m:UnM} {bs:List Nat} {job n h F:Int} {j:JobM} {l:List qZQ}
theorem UnPB.opened (H:Hd w0 (UnPB t m bs::R) w):∃x:UnW,bs.length=m.jobs.length∧Hd w0 (cel t 173 #[x.vu,x.vf,x.vc,x.vj]::SlE 3 x.vu m.units::SlE 3 x.vf m.free::SlE 3 x.vc m.cells::SlE 246 x.vj (qQq m.jobs bs)::all (List.zipWith hol bs m.jobs)::R) w:=by
  obtain ⟨x,H⟩:=H.out
  have H2:=H.flat
  exact ⟨x,Hd.get H2,H2.tail⟩
theorem UnPB.shut {x:UnW} (H:Hd w0 (cel t 173 #[x.vu,x.vf,x.vc,x.vj]::SlE 3 x.vu m.units::SlE 3 x.vf m.free::SlE 3 x.vc m.cells::SlE 246 x.vj (qQq m.jobs bs)::all (List.zipWith hol bs m.jobs)::R) w) (h:bs.length=m.jobs.length):Hd w0 (UnPB t m bs::R) w :=
  Hd.into x (Hd.pack (L:=[_,_,_,_,_,_,_]) (Hd.put h H))
theorem UnP.toB (H:Hd w0 (UnP t m::R) w):∃bs,Hd w0 (UnPB t m bs::R) w:=by
  obtain ⟨⟨vu,vf,vc,vj,bs⟩,hb,H1⟩:=UnP.opened H
  exact ⟨bs,UnPB.shut (x:=⟨vu,vf,vc,vj⟩) H1 hb⟩
theorem UnPB.toP (H:Hd w0 (UnPB t m bs::R) w):Hd w0 (UnP t m::R) w:=by
  obtain ⟨⟨vu,vf,vc,vj⟩,hb,H1⟩:=UnPB.opened H
  exact UnP.shut (x:=⟨vu,vf,vc,vj,bs⟩) H1 hb
theorem UnPB.len (H:Hd w0 (UnPB t m bs::R) w):bs.length=m.jobs.length:=(UnPB.opened H).choose_spec.1
theorem zX8 (H:Hd w0 (UnPB t m bs::R) w) (hm:m.Ok) (hrow:qQs m.jobs job=some j) (hbs:bs[pos m.jobs job]? = some b) (hl:j.h.locks=l++[⟨(r:Int),n⟩]) (hll:l.length≤5000) (hh:j.h.held[r]? = some h) (hF:m.free[r]? = some F) (hn:0≤n∧n≤100000 ∧ -1000000000≤h∧h≤1000000000 ∧ -1000000000≤F∧F≤1000000000) :
    Calls Tryz.prog 200 #[.pointer (some ⟨t,0,none⟩),.int .i64 job,.pointer (some ⟨b,0,none⟩)] w fun e w'=>e=.returned (.int .i64 n)∧Hd w0 (UnPB t (m.popped job) (if l.length=0 then bs.eraseIdx (pos m.jobs job) else bs)::R) w':=by
  obtain ⟨⟨vu,vf,vc,vj⟩,hb,H1⟩:=UnPB.opened H
  dsimp only at H1
  have hpos:=(qQv hm.s hrow).1
  have hlen:=hm.h j (List.mem_of_getElem? hpos)
  have h1:j.h.locks.getLast? = some ⟨(r:Int),n⟩:=by rw [hl];simp
  have h2:j.h.locks.length=l.length+1:=by rw [hl];simp
  have h3:j.h.locks.dropLast=l:=by rw [hl];simp
  have e9:m.popped job=⟨m.units,m.free.set r (F+n),m.cells,if l.length=0 then m.jobs.eraseIdx (pos m.jobs job) else m.jobs.set (pos m.jobs job) ⟨j.job,⟨l,j.h.held.set r (h-n)⟩⟩⟩:=by
    unfold UnM.popped
    rw [hrow]
    dsimp only
    rw [h1]
    dsimp only
    rw [h2,h3,Int.toNat_natCast,hF,hh]
    by_cases hz:l.length=0
    · rw [if_pos (by omega),if_pos hz];rfl
    · rw [if_neg (by omega),if_neg hz];rfl
  rw [e9]
  have H5:Hd w0 (all (List.zipWith hol bs m.jobs)::cel t 173 #[vu,vf,vc,vj]::SlE 3 vu m.units::SlE 3 vf m.free::SlE 3 vc m.cells::SlE 246 vj (qQq m.jobs bs)::R) w:=H1.re
  obtain ⟨lv,H6⟩:=(H5.row_nth hbs hpos).out
  rw [hl] at H6
  have H7:Hd w0 (cel b 182 (lv::j.h.held.map (Value.int .i64)).toArray::SlE 320 lv (l++[⟨(r:Int),n⟩])::all ((List.zipWith hol bs m.jobs).eraseIdx (pos m.jobs job))::cel t 173 #[vu,vf,vc,vj]::SlE 3 vu m.units::SlE 3 vf m.free::SlE 3 vc m.cells::SlE 246 vj (qQq m.jobs bs)::R) w:=H6.flat
  have hpl:=qQa hpos
  by_cases hz:l.length=0
  · rw [if_pos hz,if_pos hz]
    obtain ⟨b2,hb2,hrw⟩:=qXu hb hrow
    have hB:=zXB (job:=job) (H7.re:Hd w0 (cel b 182 (lv::j.h.held.map (Value.int .i64)).toArray::SlE 320 lv (l++[⟨(r:Int),n⟩])::cel t 173 #[vu,vf,vc,vj]::SlE 3 vf m.free::SlE 246 vj (qQq m.jobs bs)::all ((List.zipWith hol bs m.jobs).eraseIdx (pos m.jobs job))::SlE 3 vu m.units::SlE 3 vc m.cells::R) w) hz (qQ3 hm.s) (by rw [qQZ hb];have:=hm.n;omega) hrw hlen hh hF hn
    refine hB.mono ?_
    rintro e w1 ⟨rfl,vf2,vj2,H8⟩
    refine ⟨rfl,?_⟩
    rw [qJK hb,qVa] at H8
    rw [qWZ] at H8
    refine UnPB.shut (x:=⟨vu,vf2,vc,vj2⟩) ?_ (by rw [List.length_eraseIdx,List.length_eraseIdx,hb])
    exact H8.re
  · rw [if_neg hz,if_neg hz]
    have hA:=zXc (job:=job) (H7.re:Hd w0 (cel b 182 (lv::j.h.held.map (Value.int .i64)).toArray::SlE 320 lv (l++[⟨(r:Int),n⟩])::cel t 173 #[vu,vf,vc,vj]::SlE 3 vf m.free::SlE 246 vj (qQq m.jobs bs)::all ((List.zipWith hol bs m.jobs).eraseIdx (pos m.jobs job))::SlE 3 vu m.units::SlE 3 vc m.cells::R) w) (by omega) hll hlen hh hF hn
    refine hA.mono ?_
    rintro e w1 ⟨rfl,lv2,vf2,H8⟩
    refine ⟨rfl,?_⟩
    have H9:Hd w0 (cel b 182 (lv2::(j.h.held.set r (h-n)).map (Value.int .i64)).toArray::SlE 320 lv2 l::all ((List.zipWith hol bs m.jobs).eraseIdx (pos m.jobs job))::cel t 173 #[vu,vf2,vc,vj]::SlE 3 vu m.units::SlE 3 vf2 (m.free.set r (F+n))::SlE 3 vc m.cells::SlE 246 vj (qQq m.jobs bs)::R) w1:=H8.re
    have HV:=Hd.into (S:=fun lv:Value=>all [cel b 182 (lv::(j.h.held.set r (h-n)).map (Value.int .i64)).toArray,SlE 320 lv l]) lv2 (Hd.pack (L:=[_,_]) H9)
    have HW:=HV.row_back (f:=hol) (b':=⟨j.job,⟨l,j.h.held.set r (h-n)⟩⟩) hbs hpos
    refine UnPB.shut (x:=⟨vu,vf2,vc,vj⟩) ?_ (by simpa using hb)
    dsimp only
    rw [qWa (j':=⟨j.job,⟨l,j.h.held.set r (h-n)⟩⟩) (bs:=bs) hpos rfl]
    exact HW.re
end
end
section
open Go.RowKit Spl
structure UnM.Ok3 (m:UnM):Prop where
  k:∀j∈m.jobs,j.h.locks ≠ []∧∀x∈j.h.locks,0≤x.res∧x.res<m.units.length∧1≤x.units∧x.units≤255
def UnM.unlockE (m:UnM) (job res:Int):Int :=
  if job<0∨res<0∨(m.units.length:Int)≤res then 1
  else match qQs m.jobs job with
    | none=>21
    | some j=>if j.h.locks.getLast?.map (·.res)=some res then 0 else 21
def UnM.topN (m:UnM) (job:Int):Int :=
  match qQs m.jobs job with
  | none=>0
  | some j=>(j.h.locks.getLast?.map (·.units)).getD 0
theorem qJV {α:Type} {l:List α} {i:Nat} {a:α} (h:l[i]? = some a):l.set i a=l:=by
  apply List.ext_getElem?
  intro k
  by_cases hk:i=k
  · subst hk;rw [List.getElem?_set_self (qQa h),h]
  · rw [List.getElem?_set_ne hk]
section
variable {w0 w:World} {R:List Pr} {t:Nat} {m:UnM} {bs:List Nat} {job res:Int}
theorem zJa (H:Hd w0 (UnPB t m bs::R) w) (hm:m.Ok) {j:JobM} (hrow:qQs m.jobs job=some j):∃b,bs[pos m.jobs job]? = some b∧Calls Tryz.prog 195 #[.pointer (some ⟨t,3,none⟩),.int .i64 job] w fun e w' =>
    e=.returned (.tuple #[.pointer (some ⟨b,0,none⟩),.bool true])∧Hd w0 (UnPB t m bs::R) w':=by
  obtain ⟨⟨vu,vf,vc,vj⟩,hb,H1⟩:=UnPB.opened H
  dsimp only at H1
  obtain ⟨b,hbs,hrw⟩:=qXu hb hrow
  have hg:=qWB (o:=3) ((H1.v vj).k t) rfl (qQ3 hm.s) (by rw [qQZ hb];have:=hm.n;omega) job hrw
  refine ⟨b,hbs,hg.mono ?_⟩
  rintro e w1 ⟨rfl,H2⟩
  exact ⟨rfl,UnPB.shut (x:=⟨vu,vf,vc,vj⟩) H2.re hb⟩
theorem qUF (H:Hd w0 (UnPB t m bs::R) w) (hm:m.Ok) (hrow:qQs m.jobs job=none):Calls Tryz.prog 195 #[.pointer (some ⟨t,3,none⟩),.int .i64 job] w fun e w' =>
    e=.returned (.tuple #[.pointer none,.bool false])∧Hd w0 (UnPB t m bs::R) w':=by
  obtain ⟨⟨vu,vf,vc,vj⟩,hb,H1⟩:=UnPB.opened H
  dsimp only at H1
  have hg:=qX7 (o:=3) ((H1.v vj).k t) rfl (qQ3 hm.s) (by rw [qQZ hb];have:=hm.n;omega) job (qJW hb hrow)
  refine hg.mono ?_
  rintro e w1 ⟨rfl,H2⟩
  exact ⟨rfl,UnPB.shut (x:=⟨vu,vf,vc,vj⟩) H2.re hb⟩
theorem zZ7 (H:Hd w0 (UnPB t m bs::R) w) (hm:m.Ok) {j:JobM} {b:Nat} (hrow:qQs m.jobs job=some j) (hbs:bs[pos m.jobs job]? = some b) {l:List qZQ} {x:qZQ} (hl:j.h.locks=l++[x]) (hll:l.length≤5000):Calls Tryz.prog 199 #[.pointer (some ⟨b,0,none⟩)] w fun e w' =>
    e=.returned (.tuple #[.agg #[.int .i64 x.res,.int .i64 x.units],.bool true])∧Hd w0 (UnPB t m bs::R) w':=by
  obtain ⟨⟨vu,vf,vc,vj⟩,hb,H1⟩:=UnPB.opened H
  dsimp only at H1
  have hpos:=(qQv hm.s hrow).1
  have H5:Hd w0 (all (List.zipWith hol bs m.jobs)::cel t 173 #[vu,vf,vc,vj]::SlE 3 vu m.units::SlE 3 vf m.free::SlE 3 vc m.cells::SlE 246 vj (qQq m.jobs bs)::R) w:=H1.re
  obtain ⟨lv,H6⟩:=(H5.row_nth hbs hpos).out
  rw [hl] at H6
  have H7:Hd w0 (cel b 182 (lv::j.h.held.map (Value.int .i64)).toArray::SlE 320 lv (l++[x])::all ((List.zipWith hol bs m.jobs).eraseIdx (pos m.jobs job))::cel t 173 #[vu,vf,vc,vj]::SlE 3 vu m.units::SlE 3 vf m.free::SlE 3 vc m.cells::SlE 246 vj (qQq m.jobs bs)::R) w:=H6.flat
  have hlk:l.length<100000:=by omega
  have htop:=qYo (o:=0) H7 rfl hlk
  refine htop.mono ?_
  rintro e w1 ⟨rfl,H8⟩
  refine ⟨rfl,?_⟩
  rw [← hl] at H8
  have HV:=Hd.into (S:=fun lv:Value=>all [cel b 182 (lv::j.h.held.map (Value.int .i64)).toArray,SlE 320 lv j.h.locks]) lv (Hd.pack (L:=[_,_]) H8)
  have HW:=HV.row_back (f:=hol) (b':=j) hbs hpos
  rw [qJV hpos] at HW
  refine UnPB.shut (x:=⟨vu,vf,vc,vj⟩) ?_ hb
  exact HW.re
theorem qUN (H:Hd w0 (UnP t m::R) w) (hm:m.Ok) (h2:m.Ok2) (h3:m.Ok3) :
    Calls Tryz.prog 182 #[.pointer (some ⟨t,0,none⟩),.int .i64 job,.int .i64 res] w fun e w'=>e=.returned (.tuple #[.int .i64 (if m.unlockE job res=0 then m.topN job else 0),.int .i64 (m.unlockE job res)])∧Hd w0 (UnP t (if m.unlockE job res=0 then m.popped job else m)::R) w':=by
  obtain ⟨bs,H⟩:=UnP.toB H
  obtain ⟨E,hE⟩:∃E,m.unlockE job res=E:=⟨_,rfl⟩
  rw [hE]
  unfold UnM.unlockE at hE
  by_cases z1:job<0
  · rw [if_pos (.inl z1)] at hE
    subst hE
    rw [if_neg (by decide),if_neg (by decide)]
    go_enter Tryz.func182,Tryz.ntmps182
    go_wp2_with fail
    go_ret2
    exact ⟨rfl,UnPB.toP H⟩
  by_cases z2:res<0∨(m.units.length:Int)≤res
  · have hno:=qUu (UnPB.toP H) res z2
    rw [if_pos (.inr z2)] at hE
    subst hE
    rw [if_neg (by decide),if_neg (by decide)]
    clear z2
    go_enter Tryz.func182,Tryz.ntmps182
    go_wp2_with fail
    refine hno.mono ?_
    rintro e w1 ⟨rfl,rfl⟩
    go_wp2_with fail
    go_ret2
    exact ⟨rfl,UnPB.toP H⟩
  obtain ⟨r,rfl⟩:∃r:Nat,res=r:=⟨res.toNat,by omega⟩
  rw [if_neg (by omega)] at hE
  have hr:r<m.units.length:=by omega
  have hyes:=qqH (UnPB.toP H) r hr
  clear z2
  cases hrow:qQs m.jobs job with
  | none =>
    have hg:=qUF H hm hrow
    rw [hrow] at hE
    dsimp only at hE
    subst hE
    rw [if_neg (by decide),if_neg (by decide)]
    go_enter Tryz.func182,Tryz.ntmps182
    go_wp2_with fail
    refine hyes.mono ?_
    rintro e w1 ⟨rfl,rfl⟩
    clear hyes
    go_wp2_with fail
    refine hg.mono ?_
    rintro e w1 ⟨rfl,H2⟩
    clear hg
    go_wp2_with fail
    go_ret2
    exact ⟨rfl,UnPB.toP H2⟩
  | some j =>
    obtain ⟨b,hbs,hg⟩:=zJa H hm hrow
    have hpos:=(qQv hm.s hrow).1
    have hmem:=List.mem_of_getElem? hpos
    obtain ⟨hne,hlk⟩:=h3.k j hmem
    obtain ⟨l,x,hl⟩:∃l x,j.h.locks=l++[x]:=⟨_,_,(List.dropLast_concat_getLast hne).symm⟩
    have hll:l.length≤5000:=by
      have:=(h2.hv j hmem).2
      rw [hl] at this
      simp at this
      omega
    have hx:=hlk x (by rw [hl];simp)
    have htop:m.topN job=x.units:=by unfold UnM.topN;rw [hrow];dsimp only;rw [hl];simp
    rw [hrow] at hE
    dsimp only at hE
    have hlast:j.h.locks.getLast?.map (·.res)=some x.res:=by rw [hl];simp
    rw [hlast] at hE
    rw [htop]
    have hlH:=Lib.hid hl
    clear hl hlk hlast htop hne
    by_cases hc:x.res=r
    · rw [if_pos (by rw [hc])] at hE
      subst hE
      rw [if_pos rfl,if_pos rfl]
      obtain ⟨xr,n⟩:=x
      dsimp only at hc hx ⊢
      subst hc
      obtain ⟨F,hF⟩:∃F,m.free[r]? = some F:=⟨m.free[r]'(by rw [h2.f];exact hr),List.getElem?_eq_getElem _⟩
      have h16:=hm.h j hmem
      obtain ⟨h,hh⟩:∃h,j.h.held[r]? = some h:=⟨j.h.held[r]'(by have:=h2.u;omega),List.getElem?_eq_getElem _⟩
      have hhb:=(h2.hv j hmem).1 h (List.mem_of_getElem? hh)
      have hFb:=h2.fv F (List.mem_of_getElem? hF)
      clear hmem h16
      go_enter Tryz.func182,Tryz.ntmps182
      go_wp2_with fail
      refine hyes.mono ?_
      rintro e w1 ⟨rfl,rfl⟩
      clear hyes
      go_wp2_with fail
      refine hg.mono ?_
      rintro e w1 ⟨rfl,H2⟩
      clear hg
      have ht:=zZ7 H2 hm hrow hbs hlH.out hll
      go_wp2_with fail
      refine ht.mono ?_
      rintro e w2 ⟨rfl,H3⟩
      clear ht H2
      have HA:Hd w0 _ (w2.alloc (.cells #[.int .i64 r,.int .i64 n] 320)):=H3.fol
      obtain ⟨q,hq⟩:∃q,w2.heap.size=q:=⟨_,rfl⟩
      rw [hq] at HA
      have p0:=(show _=some (Value.int .i64 r) from (HA.k q).ce 0 rfl)
      have hp:=zX8 (HA.b2) hm hrow hbs hlH.out hll hh hF (by omega)
      clear H3
      go_wp2_with fail
      refine hp.mono ?_
      rintro e w3 ⟨rfl,H4⟩
      clear hp
      go_wp2_with fail
      go_ret2
      exact ⟨rfl,(UnPB.toP H4).re⟩
    · rw [if_neg (fun h=>hc (Option.some.inj h))] at hE
      subst hE
      rw [if_neg (by decide),if_neg (by decide)]
      have hcn:¬(r:Int)=x.res:=fun h=>hc h.symm
      go_enter Tryz.func182,Tryz.ntmps182
      go_wp2_with fail
      refine hyes.mono ?_
      rintro e w1 ⟨rfl,rfl⟩
      clear hyes
      go_wp2_with fail
      refine hg.mono ?_
      rintro e w1 ⟨rfl,H2⟩
      clear hg
      have ht:=zZ7 H2 hm hrow hbs hlH.out hll
      go_wp2_with fail
      refine ht.mono ?_
      rintro e w2 ⟨rfl,H3⟩
      clear ht H2
      have HA:Hd w0 _ (w2.alloc (.cells #[.int .i64 x.res,.int .i64 x.units] 320)):=H3.fol
      obtain ⟨q,hq⟩:∃q,w2.heap.size=q:=⟨_,rfl⟩
      rw [hq] at HA
      have p0:=(show _=some (Value.int .i64 x.res) from (HA.k q).ce 0 rfl)
      clear H3
      go_wp2_with fail
      go_ret2
      exact ⟨rfl,(UnPB.toP HA.b2).re⟩
end
end
end Go.Proofs.YtkchopnkdjnocaaGreatDoor
