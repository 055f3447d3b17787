/-
  Merged texts of one proof: Wi2, Wi3.
-/
import Derived.Test.YtkchopnkdjnocaaGreatDoorG07
import Derived.Test.YtkchopnkdjnocaaGreatDoorG20
import Derived.Test.YtkchopnkdjnocaaGreatDoorG24
import Derived.Test.YtkchopnkdjnocaaGreatDoorG27

set_option maxHeartbeats 16000000
set_option maxRecDepth 20000
namespace Go.Proofs.YtkchopnkdjnocaaGreatDoor
section
open Go.RowKit Spl
attribute [local go_sem] Oper.semAt_some
def allL (qs:List (List qQh)):Nat→List (qQh × Nat)
  | 0=>[]
  | i+1=>(qs[i]?.getD []).map (fun x=>(x,i+1))++allL qs i
def qZr (qs:List (List qQh)) (k:Nat):List (List qQh):=qs.take k++List.replicate (qs.length-k) []
def nowE (v:Value) (l:List qQh):Pr:=SlE 42 v l
def qZT (D:Nat):Pr:=pt D (.deferred (some []))
def zKr (D:Nat):Deferred:={ target:=.collected D,args:=#[] }
theorem zZ9 {w0 w:World} {R:List Pr} (H:Hd w0 R w):∀N,Hd w0 (all (List.zipWith nowE (List.replicate N (.slice none 0 0)) (List.replicate N []))::R) w
  | 0=>Hd.all_nil H
  | N+1=>by
    have h:=zZ9 H N
    have h2:Hd w0 (nowE (.slice none 0 0) []::all (List.zipWith nowE (List.replicate N (.slice none 0 0)) (List.replicate N []))::R) w:=h.slc_nil 42 3
    have h3:=h2.all_snoc
    refine h3.all_perm ?_
    rw [List.replicate_succ,List.replicate_succ,List.zipWith_cons_cons]
    exact List.perm_append_comm (l₂:=[_])
theorem qqx {qs:List (List qQh)} {k:Nat} {l:List qQh} (h:qs[k]? = some l):(qZr qs k).set k (l.take 0)=qZr qs k:=by
  have hk:=qQa h
  apply qJV
  unfold qZr
  rw [List.getElem?_append_right (by rw [List.length_take];omega),List.length_take,Nat.min_eq_left (by omega),Nat.sub_self,List.getElem?_replicate,if_pos (by omega)]
  rfl
theorem qqq {qs:List (List qQh)} {k:Nat} {l:List qQh} (h:qs[k]? = some l):(qZr qs k).set k l=qZr qs (k+1):=by
  have hk:=qQa h
  unfold qZr
  rw [List.take_add_one,h,List.append_assoc,List.set_append,if_neg (by rw [List.length_take];omega),List.length_take,Nat.min_eq_left (by omega),Nat.sub_self]
  rw [show qs.length-k=(qs.length-(k+1))+1 by omega,List.replicate_succ]
  rfl
theorem Spl.Hd_tailmark {w0 w:World} {A:Pr} {D:Nat} {ds:List Nat} {R:List Pr} (H:Hd w0 (A::pt D (.deferred (some []))::all (ds.map qZT)::R) w):Hd w0 (all ((D::ds).map qZT)::A::R) w:=by
  have h1:Hd w0 (qZT D::all (ds.map qZT)::A::R) w:=H.d3
  have h2:=h1.all_snoc
  exact h2.all_perm (List.perm_append_comm (l₂:=[qZT D]))
theorem qU8 (qs:List (List qQh)) {i:Nat}:∀ {k:Nat} (_:i≤k),∃pre,allL qs k=pre++allL qs i
  | 0,h=>⟨[],by obtain rfl:i=0:=by omega
                rfl⟩
  | k+1,h=>by
    rcases Nat.eq_or_lt_of_le h with rfl | h2
    · exact ⟨[],rfl⟩
    · obtain ⟨pre,hp⟩:=qU8 qs (show i≤k by omega)
      exact ⟨(qs[k]?.getD []).map (fun x=>(x,k+1))++pre,by rw [List.append_assoc,← hp];rfl⟩
theorem qYq {w0 w:World} {R:List Pr} {v:Value} {L:List qQh} {x:qQh} (h:Hd w0 (Slc 42 3 v (L.length+1) (flat L++[.int .i64 x.job,.int .i64 x.task,.int .i64 x.level])::R) w):Hd w0 (SlE 42 v (L++[x])::R) w:=by
  have e1:(L++[x]).length=L.length+1:=by simp
  have e2:flat (L++[x])=flat L++[.int .i64 x.job,.int .i64 x.task,.int .i64 x.level]:=by rw [qQc,qQK];rfl
  unfold SlE
  rw [e1,e2]
  exact h
theorem qVE (qs:List (List qQh)) (k:Nat):(qZr qs k).length=qs.length:=by
  unfold qZr
  rw [List.length_append,List.length_take,List.length_replicate]
  omega
def Jn (ib nb ng k N:Nat) (ql:List (List qQh)) (l:List qQh) (i:Nat):List Pr :=
  [ex fun vs:List Value=>all [fact (vs.length=N),SlcC 39 1 ng N N vs,all (List.zipWith nowE vs (ql.set k (l.take i)))],cel ib 3 #[.int .i64 (k:Int)],cel nb 274 #[.slice (some ⟨ng,0,none⟩) N N]]
theorem zJn (N:Nat):(madeCells (Value.slice none 0 0).cells (N*1)).toList=List.replicate N (.slice none 0 0):=by
  rw [Nat.mul_one]
  induction N with
  | zero=>simp [madeCells]
  | succ n ih =>
    rw [List.replicate_succ',← ih]
    simp only [madeCells,Array.toList_map,Array.toList_range,Value.cells]
    rw [List.range_succ]
    simp [Nat.mod_one]
theorem zKl:(Tryz.prog.info? 39).map (fun i=>(i.zero,i.size,i.bytes))=some (some (.slice none 0 0),1,24):=by kernel_rfl
section
variable {w0 w:World} {R:List Pr} {qs:List (List qQh)}
set_option maxRecDepth 100000 in
theorem zXk {b q T:Nat} {C:Array Value} {v:Value} (hC:C[0]? = some v) (hn:∀l∈qs,l.length≤10000) (h32:qs.length≤32) :
    zQG Tryz.prog 138 #[.pointer (some ⟨b,0,none⟩)] encW w0 (cel b 252 #[.pointer (some ⟨q,0,none⟩)]::cel q T C::Lev v qs::R) (allL qs qs.length):=by
  intro lp Y W n H hY
  obtain ⟨G,rfl⟩:=qWL H.b4
  have c0:=(show _=some (.pointer (some ⟨q,0,none⟩)) from (H.k b).ce 0 rfl)
  have c1:=((H.k q).rd 0).trans hC
  obtain ⟨N,hN⟩:∃N,qs.length=N:=⟨_,rfl⟩
  rw [hN] at c1 h32
  obtain ⟨i0,hi,hz0,hz1,hz2⟩:=info_parts zKl
  replace hC:=Lib.hid hC
  replace hN:=Lib.hid hN
  refine callsIn_of_wp_marks Tryz.func138 rfl trivial ?_ rfl
  simp only [Tryz.ntmps138,List.size_toArray,List.length_cons,List.length_nil,Nat.reduceAdd,Nat.reduceSub,Array.replicate_succ,Array.replicate_zero,List.push_toArray,List.append_toArray,List.nil_append,List.cons_append]
  refine wpIn_wide.2 ?_
  go_wp2_with (at_make;(refine qQn rfl _ _ 274 rfl 39 i0 _ 1 Tryz.underlying274 hi hz0 hz1 rfl _ _ _ _ N N rfl rfl rfl rfl (by omega) (by rw [hz2];omega) (by unfold maxLen;omega) H ?_);intro w2 H5;have H6:Hd w0 _ (w2.alloc (.cells #[.slice (some ⟨W.heap.size,0,none⟩) N N] 274)):=H5.fol;have d0:=(show _=some (Value.pointer (some ⟨q,0,none⟩)) from (H6.k b).ce 0 rfl);have d1:=((H6.k q).rd 0).trans hC.out;rw [hN.out] at d1)
  clear c0 c1 d0 d1 H
  obtain ⟨nb,hnb⟩:∃nb,w2.heap.size=nb:=⟨_,rfl⟩
  obtain ⟨ng,hng⟩:∃ng,W.heap.size=ng:=⟨_,rfl⟩
  rw [hnb,hng] at H6
  rw [hnb,hng]
  clear hnb hng H5
  rw [zJn] at H6
  refine wp_loop (fun a' w'=>∃(k:Nat) (ds:List Nat) (vs:List Value) (u4 u22 u23 u24 u25 u26 u27 u28 u29 u30 u43:Value),k≤N∧vs.length=N∧a' = { tmps:=#[.func (.yield lp) #[] #[],.pointer (some ⟨b,0,none⟩),undef,.pointer (some ⟨nb,0,none⟩),u4,undef,undef,undef,undef,undef,.pointer (some ⟨q,0,none⟩),.pointer (some ⟨q,0,none⟩),.pointer (some ⟨q,0,none⟩),.slice (some ⟨G,0,none⟩) N N,.int .i64 N,.slice (some ⟨ng,0,none⟩) N N,.pointer (some ⟨q,0,none⟩),.pointer (some ⟨q,0,none⟩),.pointer (some ⟨q,0,none⟩),.slice (some ⟨G,0,none⟩) N N,.int .i64 N,.int .i64 (k:Int),u22,u23,u24,u25,u26,u27,u28,u29,u30,undef,undef,undef,undef,undef,undef,undef,undef,undef,undef,undef,undef,u43,undef,undef,undef,undef,undef,undef,undef,undef,undef,undef,undef,undef,undef,undef,undef,undef,undef,undef,undef,undef,undef,undef],defers:=ds.map zKr } ∧ Hd w0 (SlcC 39 1 ng N N vs::all (List.zipWith nowE vs (qZr qs k))::all (ds.map qZT)::cel nb 274 #[.slice (some ⟨ng,0,none⟩) N N]::Y 0::cel b 252 #[.pointer (some ⟨q,0,none⟩)]::cel q T C::Lev (.slice (some ⟨G,0,none⟩) qs.length qs.length) qs::R) w') (fun a' _=>N-(intOf (a'.tmps.getD 21 undef)).toNat) ?start ?round
  case start =>
    refine ⟨0,[],List.replicate N (.slice none 0 0),_,_,_,_,_,_,_,_,_,_,_,Nat.zero_le _,by simp,rfl,?_⟩
    have e1:qZr qs 0=List.replicate N []:=by unfold qZr;rw [hN.out];simp
    rw [e1]
    have h1:=zZ9 H6 N
    have h2:Hd w0 (all ([].map qZT)::_) _:=Hd.all_nil h1
    exact h2.re
  case round =>
    rintro a' w' ⟨k,ds,vs,u4,u22,u23,u24,u25,u26,u27,u28,u29,u30,u43,hk,hvs,rfl,H7⟩
    by_cases hlt:k<N
    · obtain ⟨l,hl⟩:∃l,qs[k]? = some l:=⟨qs[k]'(by rw [hN.out];exact hlt),List.getElem?_eq_getElem _⟩
      have hll:=hn l (List.mem_of_getElem? hl)
      obtain ⟨g,rs,sp,r,hLF,hr,hQ,H8⟩:=Lev.opened (show Hd w0 (Lev (.slice (some ⟨G,0,none⟩) qs.length qs.length) qs::_) w' from H7.b8) hl
      have hgG:g=G:=by
        have:=hLF.v
        injection this with h1 _ _
        injection h1 with h1
        injection h1 with h1 _ _
        exact h1.symm
      subst hgG
      obtain ⟨hrc1,hrc2⟩:=qJN (sp:=sp) hr
      have n1:(k:Int)<N:=by omega
      have n2:¬(k:Int)<0:=by omega
      have n3:¬N≤k:=by omega
      have g6:IntKind.i64.wrap ((k:Int)+1)=(k:Int)+1:=IntWalk.i64_in _ (by omega)
      have H9:Hd w0 _ (w'.alloc (.cells #[.int .i64 (k:Int)] 3)):=H8.fol
      obtain ⟨ib,hib⟩:∃ib,w'.heap.size=ib:=⟨_,rfl⟩
      rw [hib] at H9
      have e0:=(show _=some (Value.pointer (some ⟨q,0,none⟩)) from (H9.k b).ce 0 rfl)
      have e1:=((H9.k q).rd 0).trans hC.out
      rw [hN.out] at e1
      have e2:=(show _=some (Value.int .i64 k) from (H9.k ib).ce 0 rfl)
      have hqa:=zKo (t:=g) (o:=k*2) H9.drew
      replace hl:=Lib.hid hl
      replace hr:=Lib.hid hr
      replace hrc1:=Lib.hid hrc1
      replace hrc2:=Lib.hid hrc2
      replace hLF:=Lib.hid hLF
      replace hQ:=Lib.hid hQ
      replace hvs:=Lib.hid hvs
      clear H6 H7
      go_wp2_with fail
      refine wp_region_still_tail 6 (by kernel_rfl) (by kernel_rfl) ?_
      simp only [List.take_succ_cons,List.take_zero,List.drop_succ_cons,List.drop_zero,World.drew_eq]
      (repeat still_step)
      refine wpStill_nil ?_
      go_wp2_with fail
      refine hqa.mono ?_
      rintro e w3 ⟨bq,rfl,H10⟩
      clear hqa
      go_wp2_with fail
      have H11:Hd w0 (SlcC 39 1 ng N N vs::all (List.zipWith nowE vs (qZr qs k))::cel ib 3 #[.int .i64 (k:Int)]::cel nb 274 #[.slice (some ⟨ng,0,none⟩) N N]::cel bq 288 #[.pointer (some ⟨g,k*2,none⟩)]::cel g 272 (rowC rs sp)::Slc 42 3 r.v (r.f+l.length) (r.gar++flat l)::all ((List.zipWith lq rs qs).eraseIdx k)::all (ds.map qZT)::Y 0::cel b 252 #[.pointer (some ⟨q,0,none⟩)]::cel q T C::R) w3:=H10.re
      have hset:qZr qs k=(qZr qs k).set k (l.take 0):=(qqx hl.out).symm
      rw [hset] at H11
      have H12:Hd w0 (all (Jn ib nb ng k N (qZr qs k) l 0)::_) w3:=Hd.pack (L:=[_,_,_]) (Hd.into (S:=fun vs:List Value=>all [fact (vs.length=N),SlcC 39 1 ng N N vs,all (List.zipWith nowE vs ((qZr qs k).set k (l.take 0)))]) vs (Hd.pack (L:=[_,_,_]) (Hd.put hvs.out H11)))
      refine wpIn_wide (n:=n).1 ?_
      refine qJs (gf:=155) (lb:=#[.pointer (some ⟨bq,0,none⟩)]) rfl (enters_of Tryz.func155 (by kernel_rfl) rfl) (encs:=encW) (fun _=>rfl) (fun i=>Jn ib nb ng k N (qZr qs k) l i) H12 (zJx hrc1.out hrc2.out hQ.out.gar (by have:=hQ.out.le;omega) (by omega)) (fun i x a' Z=>∃p:Nat,a' = { tmps:=#[.func (.yield lp) #[] #[],.pointer (some ⟨b,0,none⟩),undef,.pointer (some ⟨nb,0,none⟩),.pointer (some ⟨ib,0,none⟩),undef,.pointer (some ⟨p,0,none⟩),undef,undef,undef,.pointer (some ⟨q,0,none⟩),.pointer (some ⟨q,0,none⟩),.pointer (some ⟨q,0,none⟩),.slice (some ⟨g,0,none⟩) N N,.int .i64 N,.slice (some ⟨ng,0,none⟩) N N,.pointer (some ⟨q,0,none⟩),.pointer (some ⟨q,0,none⟩),.pointer (some ⟨q,0,none⟩),.slice (some ⟨g,0,none⟩) N N,.int .i64 N,.int .i64 k,.bool true,.int .i64 k,.pointer (some ⟨q,0,none⟩),.pointer (some ⟨q,0,none⟩),.pointer (some ⟨q,0,none⟩),.slice (some ⟨g,0,none⟩) N N,.int .i64 k,.pointer (some ⟨g,k*2,none⟩),.func (.func 155) #[] #[.pointer (some ⟨bq,0,none⟩)],.int .i64 x.2,.agg (qXJ x.1),undef,undef,undef,undef,undef,undef,undef,undef,undef,undef,u43,undef,undef,undef,undef,undef,undef,undef,undef,undef,undef,undef,undef,undef,undef,undef,undef,undef,undef,undef,undef,undef,undef],defers:=[] } ∧ Z=cel p 42 (qXJ x.1)::Jn ib nb ng k N (qZr qs k) l i) ?assign ?body ?done
      case assign =>
        intro lq2 i x X W2 hx K
        have K1:Hd w0 _ (W2.alloc (.cells (qXJ x.1) 42)):=K.fol
        gi_wp2
        exact ⟨_,⟨_,rfl,rfl⟩,K1⟩
      case body =>
        rintro lq2 i x X Z a' W2 hx ⟨p,rfl,rfl⟩ HW
        dsimp only
        have HW1:Hd w0 (cel p 42 (qXJ x.1)::(ex fun vs:List Value=>all [fact (vs.length=N),SlcC 39 1 ng N N vs,all (List.zipWith nowE vs ((qZr qs k).set k (l.take i)))])::cel ib 3 #[.int .i64 (k:Int)]::cel nb 274 #[.slice (some ⟨ng,0,none⟩) N N]::X) W2:=HW
        obtain ⟨vs2,HW2⟩:=HW1.b2.out
        have HW3:Hd w0 (fact (vs2.length=N)::SlcC 39 1 ng N N vs2::all (List.zipWith nowE vs2 ((qZr qs k).set k (l.take i)))::cel p 42 (qXJ x.1)::cel ib 3 #[.int .i64 (k:Int)]::cel nb 274 #[.slice (some ⟨ng,0,none⟩) N N]::X) W2:=HW2.flat
        have hv2:=HW3.get
        obtain ⟨vk,hvk⟩:∃vk,vs2[k]? = some vk:=⟨vs2[k]'(by omega),List.getElem?_eq_getElem _⟩
        have hqk:((qZr qs k).set k (l.take i))[k]? = some (l.take i):=List.getElem?_set_self (by rw [qVE];exact qQa hl.out)
        have HW4:Hd w0 (nowE vk (l.take i)::all ((List.zipWith nowE vs2 ((qZr qs k).set k (l.take i))).eraseIdx k)::SlcC 39 1 ng N N vs2::cel p 42 (qXJ x.1)::cel ib 3 #[.int .i64 (k:Int)]::cel nb 274 #[.slice (some ⟨ng,0,none⟩) N N]::X) W2:=by
          have h:=(show Hd w0 (all (List.zipWith nowE vs2 ((qZr qs k).set k (l.take i)))::SlcC 39 1 ng N N vs2::cel p 42 (qXJ x.1)::cel ib 3 #[.int .i64 (k:Int)]::cel nb 274 #[.slice (some ⟨ng,0,none⟩) N N]::X) W2 from HW3.tail.re)
          exact h.row_nth hvk hqk
        have hx1:l[i]? = some x.1:=by
          have h:=hx
          rw [List.getElem?_zipIdx] at h
          cases hli:l[i]? with
          | none=>rw [hli] at h;cases h
          | some y=>rw [hli] at h;simp at h;rw [← h]
        have htk:l.take (i+1)=l.take i++[x.1]:=by rw [List.take_add_one,hx1];rfl
        obtain ⟨L,hL⟩:∃L,l.take i=L:=⟨_,rfl⟩
        have hLl:L.length≤10000:=by rw [← hL,List.length_take];omega
        rw [hL] at HW4 hqk htk
        obtain ⟨a0,c0,rfl,-,-,-,-⟩:=(show Hd w0 (Slc 42 3 vk L.length (flat L)::_) W2 from HW4).slc_form
        obtain ⟨iw,hwi,hwz0,hwz1,hwz2⟩:=info_parts qJG
        have hng:=(show Hd w0 (SlcC 39 1 ng N N vs2::_) W2 from HW4.b3).slcC_rd hvk
        have s0:=(show _=some _ from (HW4.k nb).ce 0 rfl)
        have s1:=(show _=some (Value.int .i64 k) from (HW4.k ib).ce 0 rfl)
        have s2:=(show _=some (Value.int .i64 x.1.job) from (HW4.k p).ce 0 rfl)
        have s3:=(show _=some (Value.int .i64 x.1.task) from (HW4.k p).ce 1 rfl)
        have s4:=(show _=some (Value.int .i64 x.1.level) from (HW4.k p).ce 2 rfl)
        have HP:Hd w0 _ (W2.drew.alloc (.cells (qXJ x.1) 42)):=HW4.fol
        have hP:=Lib.hid HP
        have hHQ:=Lib.hid hqk
        have hVK:=Lib.hid hvk
        have hHL:=Lib.hid hL
        have hHT:=Lib.hid htk
        have hV2:=Lib.hid hv2
        have p1:(k:Int)<N:=by omega
        have p2:¬N≤k:=by omega
        clear HW HW1 HW2 HW3 hqk hvk hL htk hx hx1 hv2
        gi_wp2
        refine qKz 9 [(0,true),(1,true),(2,true),(3,true),(4,true),(5,true),(6,true),(7,false),(8,false)] (fun w'=>w'.cell? ⟨nb,0,none⟩=some (.slice (some ⟨ng,0,none⟩) N N)∧w'.cell? ⟨ib,0,none⟩=some (.int .i64 k)∧w'.cell? ⟨ng,k,none⟩=some (.slice a0 L.length c0)∧w'.cell? ⟨p,0,none⟩=some (.int .i64 x.1.job)∧w'.cell? ⟨p,1,none⟩=some (.int .i64 x.1.task)∧w'.cell? ⟨p,2,none⟩=some (.int .i64 x.1.level)) (by kernel_rfl) (by kernel_rfl) (by kernel_rfl) (⟨s0,s1,hng,s2,s3,s4⟩) (by intro _ _ d _ _ h;cases d <;> exact h) (by intro _ _ h;exact h) ?_
        simp only [List.drop_succ_cons,List.drop_zero]
        iterate 7 (refine mh ?_;(try simp only [Act.put,List.setIfInBounds_toArray,List.set_cons_zero,List.set_cons_succ]))
        refine mm ?_
        go_wp2_with fail
        have HP2:=hP.out
        refine qQd ⟨(show _=some _ from (HP2.k nb).ce 0 rfl),(show _=some _ from (HP2.k ib).ce 0 rfl),(show Hd w0 (SlcC 39 1 ng N N vs2::_) _ from HP2.b4).slcC_rd hVK.out,(show _=some _ from (HP2.k p).ce 0 rfl),(show _=some _ from (HP2.k p).ce 1 rfl),(show _=some _ from (HP2.k p).ce 2 rfl)⟩ ?_
        refine mm ?_
        go_wp2_with (at_builtin;refine qQb rfl _ _ 39 rfl 42 iw _ 3 24 Tryz.underlying39 hwi hwz0 hwz1 hwz2 rfl _ _ _ rfl (show Hd w0 (Slc 42 3 (.slice a0 L.length c0) L.length (flat L)::_) _ from HP2.b2) ⟨W2.heap.size,0,none⟩ 1 1 [.int .i64 x.1.job,.int .i64 x.1.task,.int .i64 x.1.level] rfl rfl (qQA HP2) (by simp [Value.oneCell']) (by unfold maxLen;omega) (by omega) ?_;intro v' w5 H20)
        have H21:=qYq H20
        obtain ⟨L',hL'⟩:∃L',L++[x.1]=L':=⟨_,rfl⟩
        rw [hL'] at H21
        obtain ⟨a1,c1,rfl,-,-,-,-⟩:=H21.slc_form
        replace hL':=Lib.hid hL'
        refine qQd ⟨(show _=some _ from (H21.k nb).ce 0 rfl),(show _=some _ from (H21.k ib).ce 0 rfl),(show Hd w0 (SlcC 39 1 ng N N vs2::_) _ from H21.b4).slcC_rd hVK.out,(show _=some _ from (H21.k p).ce 0 rfl),(show _=some _ from (H21.k p).ce 1 rfl),(show _=some _ from (H21.k p).ce 2 rfl)⟩ ?_
        refine qQe ?_
        (try dsimp only)
        have H22:=(show Hd w0 (SlcC 39 1 ng N N vs2::_) w5 from H21.b4)
        have u0:=H22.slcC_rd hVK.out
        have u1:=H22.slcC_fr k
        have H23:=H22.slcC_set (j:=k) (by rw [hV2.out];omega) (.slice a1 L'.length c1)
        go_wp2_with fail
        have hLL:l.take (i+1)=L':=by rw [hHT.out,hL'.out]
        have hz2:=qUR nowE vs2 ((qZr qs k).set k L) k (.slice a1 L'.length c1) L'
        rw [← hz2] at H23
        have hat:(List.zipWith nowE (vs2.set k (.slice a1 L'.length c1)) (((qZr qs k).set k L).set k L'))[k]? = some (nowE (.slice a1 L'.length c1) L'):=by
          rw [List.getElem?_zipWith,List.getElem?_set_self (by rw [hV2.out];omega),List.getElem?_set_self (by rw [List.length_set,qVE];exact qQa hl.out)]
        have H24:Hd w0 (nowE (.slice a1 L'.length c1) L'::all ((List.zipWith nowE (vs2.set k (.slice a1 L'.length c1)) (((qZr qs k).set k L).set k L')).eraseIdx k)::SlcC 39 1 ng N N (vs2.set k (.slice a1 L'.length c1))::cel ib 3 #[.int .i64 (k:Int)]::cel nb 274 #[.slice (some ⟨ng,0,none⟩) N N]::X) (w5.setCell ⟨ng,k,none⟩ (.slice a1 L'.length c1)):=by
          have h:Hd w0 (SlcC 39 1 ng N N (vs2.set k (.slice a1 L'.length c1))::nowE (.slice a1 L'.length c1) L'::_) _:=H23
          exact h.re
        have H25:=H24.all_back hat
        rw [List.set_set] at H25
        show Hd w0 ((ex fun vs:List Value=>all [fact (vs.length=N),SlcC 39 1 ng N N vs,all (List.zipWith nowE vs ((qZr qs k).set k (l.take (i+1))))])::cel ib 3 #[.int .i64 (k:Int)]::cel nb 274 #[.slice (some ⟨ng,0,none⟩) N N]::X) _
        rw [hLL]
        exact Hd.into (S:=fun vs:List Value=>all [fact (vs.length=N),SlcC 39 1 ng N N vs,all (List.zipWith nowE vs ((qZr qs k).set k L'))]) (vs2.set k (.slice a1 L'.length c1)) (Hd.pack (L:=[_,_,_]) (Hd.put (by rw [List.length_set,hV2.out]) H25.b2))
      case done =>
        intro D W4 K4
        rw [List.length_zipIdx] at K4
        (try dsimp only)
        go_wp2_with fail
        have K4a:Hd w0 ((ex fun vs:List Value=>all [fact (vs.length=N),SlcC 39 1 ng N N vs,all (List.zipWith nowE vs ((qZr qs k).set k (l.take l.length)))])::cel ib 3 #[.int .i64 (k:Int)]::cel nb 274 #[.slice (some ⟨ng,0,none⟩) N N]::pt D (.deferred (some []))::cel bq 288 #[.pointer (some ⟨g,k*2,none⟩)]::cel g 272 (rowC rs sp)::Slc 42 3 r.v (r.f+l.length) (r.gar++flat l)::all ((List.zipWith lq rs qs).eraseIdx k)::all (ds.map qZT)::Y 0::cel b 252 #[.pointer (some ⟨q,0,none⟩)]::cel q T C::R) W4:=K4
        rw [List.take_length,qqq hl.out] at K4a
        obtain ⟨vs3,K5⟩:=K4a.out
        have K6:Hd w0 (fact (vs3.length=N)::SlcC 39 1 ng N N vs3::all (List.zipWith nowE vs3 (qZr qs (k+1)))::cel ib 3 #[.int .i64 (k:Int)]::cel nb 274 #[.slice (some ⟨ng,0,none⟩) N N]::pt D (.deferred (some []))::cel bq 288 #[.pointer (some ⟨g,k*2,none⟩)]::cel g 272 (rowC rs sp)::Slc 42 3 r.v (r.f+l.length) (r.gar++flat l)::all ((List.zipWith lq rs qs).eraseIdx k)::all (ds.map qZT)::Y 0::cel b 252 #[.pointer (some ⟨q,0,none⟩)]::cel q T C::R) W4:=K5.flat
        have hv3:=K6.get
        have K7:Hd w0 (cel g 272 (rowC rs sp)::Slc 42 3 r.v (r.f+l.length) (r.gar++flat l)::all ((List.zipWith lq rs qs).eraseIdx k)::pt D (.deferred (some []))::all (ds.map qZT)::SlcC 39 1 ng N N vs3::all (List.zipWith nowE vs3 (qZr qs (k+1)))::cel nb 274 #[.slice (some ⟨ng,0,none⟩) N N]::Y 0::cel b 252 #[.pointer (some ⟨q,0,none⟩)]::cel q T C::R) W4:=K6.re
        have K8:=Spl.Hd_tailmark (Lev.same K7 hl.out hLF.out hr.out hQ.out)
        refine ⟨⟨k+1,D::ds,vs3,_,_,_,_,_,_,_,_,_,_,_,by omega,hv3,rfl,?_⟩,by simp [intOf];omega⟩
        exact K8.re
    · obtain rfl:k=N:=by omega
      have etk:qZr qs k=qs:=by
        unfold qZr
        rw [← hN.out,List.take_length,Nat.sub_self]
        simp
      rw [etk] at H7
      have d3:=(show _=some (Value.slice (some ⟨ng,0,none⟩) k k) from (H7.k nb).ce 0 rfl)
      clear H6
      go_wp2_with fail
      refine wpIn_wide (n:=n).1 ?_
      gi_loopw [7] (fun v wr=>∃i:Nat,i≤k∧v=.int .i64 i∧Hd w0 (Y ((allL qs k).length-(allL qs i).length)::SlcC 39 1 ng k k vs::all (List.zipWith nowE vs qs)::all (ds.map qZT)::cel nb 274 #[.slice (some ⟨ng,0,none⟩) k k]::cel b 252 #[.pointer (some ⟨q,0,none⟩)]::cel q T C::Lev (.slice (some ⟨G,0,none⟩) qs.length qs.length) qs::R) wr) (fun v _=>(intOf v).toNat)
      case atStart=>exact ⟨k,Nat.le_refl _,rfl,by rw [Nat.sub_self];exact H7.re⟩
      case round =>
        clear H7 d3
        obtain ⟨i,hik,rfl,H8⟩:=hrel
        rcases Nat.eq_zero_or_pos i with rfl | hpos
        · gi_wp2
          have ey:(allL qs k).length-(allL qs 0).length=(allL qs qs.length).length:=by rw [hN.out];rfl
          rw [ey] at H8
          have H9:Hd w0 (all (ds.map qZT)::Y (allL qs qs.length).length::cel b 252 #[.pointer (some ⟨q,0,none⟩)]::cel q T C::Lev (.slice (some ⟨G,0,none⟩) qs.length qs.length) qs::R) wr:=H8.re
          exact qKr (fun W HW=>⟨_,results_none rfl _ _ _,⟨_,rfl⟩,HW⟩) ds H9
        · obtain ⟨j,rfl⟩:∃j,i=j+1:=⟨i-1,by omega⟩
          obtain ⟨l,hl⟩:∃l,qs[j]? = some l:=⟨qs[j]'(by rw [hN.out];omega),List.getElem?_eq_getElem _⟩
          have hll:=hn l (List.mem_of_getElem? hl)
          obtain ⟨vk,hvk⟩:∃vk,vs[j]? = some vk:=⟨vs[j]'(by omega),List.getElem?_eq_getElem _⟩
          obtain ⟨pre,hpre⟩:=qU8 qs (show j+1≤k by omega)
          have hstep:allL qs (j+1)=l.map (fun x=>(x,j+1))++allL qs j:=by
            show (qs[j]?.getD []).map (fun x=>(x,j+1))++allL qs j=_
            rw [hl];rfl
          have H9:Hd w0 (nowE vk l::all ((List.zipWith nowE vs qs).eraseIdx j)::SlcC 39 1 ng k k vs::Y ((allL qs k).length-(allL qs (j+1)).length)::all (ds.map qZT)::cel nb 274 #[.slice (some ⟨ng,0,none⟩) k k]::cel b 252 #[.pointer (some ⟨q,0,none⟩)]::cel q T C::Lev (.slice (some ⟨G,0,none⟩) qs.length qs.length) qs::R) wr:=by
            have h:=(show Hd w0 (all (List.zipWith nowE vs qs)::SlcC 39 1 ng k k vs::Y ((allL qs k).length-(allL qs (j+1)).length)::all (ds.map qZT)::cel nb 274 #[.slice (some ⟨ng,0,none⟩) k k]::cel b 252 #[.pointer (some ⟨q,0,none⟩)]::cel q T C::Lev (.slice (some ⟨G,0,none⟩) qs.length qs.length) qs::R) wr from H8.re)
            exact h.row_nth hvk hl
          obtain ⟨a0,c0,rfl,-,-,-,-⟩:=(show Hd w0 (Slc 42 3 vk l.length (flat l)::_) wr from H9).slc_form
          have d3:=(show _=some (Value.slice (some ⟨ng,0,none⟩) k k) from (H9.k nb).ce 0 rfl)
          have d4:=(show Hd w0 (SlcC 39 1 ng k k vs::_) wr from H9.b3).slcC_rd hvk
          have g7:IntKind.i64.wrap (((j+1:Nat):Int)-1)=j:=by rw [show ((j+1:Nat):Int)-1=j by omega];exact IntWalk.i64_in _ (by omega)
          have m1:(j:Int)<k:=by omega
          have m2:¬(j:Int)<0:=by omega
          have m3:¬k≤j:=by omega
          have m4:(0:Int)<((j+1:Nat):Int):=by omega
          obtain ⟨J1,hJ1⟩:∃J1:Nat,j+1=J1:=⟨_,rfl⟩
          rw [hJ1] at g7 m4 H9 hik
          rw [hJ1]
          replace hl:=Lib.hid hl
          replace hvk:=Lib.hid hvk
          replace hpre:=Lib.hid hpre
          replace hstep:=Lib.hid hstep
          replace hJ1:=Lib.hid hJ1
          clear H8
          gi_wp2
          obtain ⟨B,hB⟩:∃B,(allL qs k).length-(allL qs J1).length=B:=⟨_,rfl⟩
          rw [hB] at H9
          replace hB:=Lib.hid hB
          gi_loopw [56] (fun v wv=>∃c:Nat,c≤l.length∧v=.int .i64 c∧Hd w0 (nowE (.slice a0 l.length c0) l::Y (B+c)::all ((List.zipWith nowE vs qs).eraseIdx j)::SlcC 39 1 ng k k vs::all (ds.map qZT)::cel nb 274 #[.slice (some ⟨ng,0,none⟩) k k]::cel b 252 #[.pointer (some ⟨q,0,none⟩)]::cel q T C::Lev (.slice (some ⟨G,0,none⟩) qs.length qs.length) qs::R) wv) (fun v _=>l.length-(intOf v).toNat)
          case atStart=>exact ⟨0,Nat.zero_le _,rfl,by rw [Nat.add_zero];exact H9.re⟩
          case round =>
            clear H9 d3 d4
            obtain ⟨c,hcl,rfl,H10⟩:=hrel
            by_cases hlt:c<l.length
            · obtain ⟨x,hx⟩:∃x,l[c]? = some x:=⟨l[c],List.getElem?_eq_getElem hlt⟩
              obtain ⟨g0,ccap,hsl,H11⟩:=(show Hd w0 (Slc 42 3 (.slice a0 l.length c0) l.length (flat l)::_) wr from H10).slc_at (by omega)
              injection hsl with q1 q2 q3
              subst q1
              have f0:=H11.slcC_rd (qQi hx (j:=0) rfl)
              have f1:=H11.slcC_rd (qQi hx (j:=1) rfl)
              have f2:=H11.slcC_rd (qQi hx (j:=2) rfl)
              simp only [Enc.size,Nat.add_zero] at f0 f1 f2
              have HA:Hd w0 _ (wr.alloc (.cells #[.int .i64 x.job,.int .i64 x.task,.int .i64 x.level] 42)):=H10.fol
              have hz:(allL qs qs.length)[B+c]? = some (x,J1):=by
                rw [hN.out,hpre.out]
                have hB2:B=pre.length:=by rw [← hB.out,hpre.out,hJ1.out,List.length_append,Nat.add_sub_cancel]
                rw [hB2,List.getElem?_append_right (Nat.le_add_right _ _),Nat.add_sub_cancel_left,hstep.out,List.getElem?_append_left (by simpa using hlt)]
                simp [hx,hJ1.out]
              obtain ⟨fn,tm,asg,bdy,hy,hR⟩:=hY (B+c) (x,J1) _ _ (n-1) hz (HA.b3)
              have q0:=(show _=some (Value.int .i64 x.job) from HA.ce 0 rfl)
              have q4:=(show _=some (Value.int .i64 x.task) from HA.ce 1 rfl)
              have q5:=(show _=some (Value.int .i64 x.level) from HA.ce 2 rfl)
              have n4:¬(c:Int)<0:=by omega
              have n5:(c:Int)<l.length:=by omega
              have n6:¬l.length≤c:=by omega
              have g5:IntKind.i64.wrap ((c:Int)+1)=(c:Int)+1:=IntWalk.i64_in _ (by omega)
              replace hx:=Lib.hid hx
              replace hz:=Lib.hid hz
              clear HA H10 H11 q2 q3
              gi_wp2
              refine ⟨fun h=>(by cases h),?_⟩
              refine hR.mono ?_
              rintro e W3 ⟨rfl,H6⟩
              gi_wp2
              refine ⟨⟨c+1,by omega,by go_num,Hd.re H6⟩,by simp [intOf];omega⟩
            · obtain rfl:c=l.length:=by omega
              have eL:(allL qs J1).length=l.length+(allL qs j).length:=by rw [← hJ1.out,hstep.out,List.length_append,List.length_map]
              have eT:(allL qs k).length=pre.length+(allL qs J1).length:=by rw [hpre.out,hJ1.out,List.length_append]
              have eB:B+l.length=(allL qs k).length-(allL qs j).length:=by rw [← hB.out];omega
              rw [eB] at H10
              have H12:Hd w0 (nowE (.slice a0 l.length c0) l::all ((List.zipWith nowE vs qs).eraseIdx j)::Y ((allL qs k).length-(allL qs j).length)::SlcC 39 1 ng k k vs::all (ds.map qZT)::cel nb 274 #[.slice (some ⟨ng,0,none⟩) k k]::cel b 252 #[.pointer (some ⟨q,0,none⟩)]::cel q T C::Lev (.slice (some ⟨G,0,none⟩) qs.length qs.length) qs::R) wr:=H10.re
              have H13:=H12.row_same hvk.out hl.out
              have eJ:(J1:Int)=(j:Int)+1:=by rw [← hJ1.out];omega
              clear H10 H12 eB eT eL
              gi_wp2
              refine ⟨⟨j,by omega,rfl,H13.re⟩,by simp [intOf];omega⟩
end
end
section
open Go.RowKit Spl
attribute [local go_sem] Oper.semAt_some
def qZJ (qs:List (List qQh)):List qQh:=(allL qs qs.length).map Prod.fst
theorem qKH {qs:List (List qQh)} (hn:∀l∈qs,l.length≤1000):∀k,(allL qs k).length≤1000*k
  | 0=>Nat.le_refl _
  | k+1=>by
    have h:=qKH hn k
    show ((qs[k]?.getD []).map (fun x=>(x,k+1))++allL qs k).length≤_
    rw [List.length_append,List.length_map]
    have h2:(qs[k]?.getD []).length≤1000:=by
      cases hq:qs[k]? with
      | none=>simp
      | some l=>exact hn l (List.mem_of_getElem? hq)
    omega
section
variable {w0 w:World} {R:List Pr} {b:Nat} {m:WqM}
theorem zKD {t o:Nat} (H:Hd w0 R w):Calls Tryz.prog 108 #[.pointer (some ⟨t,o,none⟩)] w fun e w'=>∃b,e=.returned (.func (.func 138) #[] #[.pointer (some ⟨b,0,none⟩)])∧Hd w0 (cel b 252 #[.pointer (some ⟨t,o,none⟩)]::R) w':=by
  have HA:Hd w0 _ (w.alloc (.cells #[.pointer (some ⟨t,o,none⟩)] 252)):=H.fol
  go_enter Tryz.func108,Tryz.ntmps108
  go_wp2_with fail
  go_ret
  exact ⟨_,rfl,HA⟩
set_option maxRecDepth 100000 in
theorem zZ4 (H:Hd w0 (WqP b m::R) w) (hm:m.Ok) :
    Calls Tryz.prog 73 #[.pointer (some ⟨b,0,none⟩)] w fun e w'=>∃v,e=.returned v∧Hd w0 (SlE 42 v (qZJ m.qs)::WqP b m::R) w':=by
  refine (callsIn_wide (n:=5)).1 ?_
  obtain ⟨v,H1⟩:=WqP.opened H
  have hn:∀l∈m.qs,l.length≤10000:=fun l hl=>by have:=hm.l l hl;omega
  have h32:m.qs.length≤32:=by have:=hm.q;omega
  obtain ⟨X,hX⟩:∃X:Array Value,(v::m.act.map (Value.int .i64)).toArray=X:=⟨_,rfl⟩
  have hX0:X[0]? = some v:=by rw [← hX];rfl
  rw [hX] at H1
  have hlen:=zXd (o:=0) H1 hX0 hn h32
  have hle:=zZd hn m.qs.length (Nat.le_refl _)
  obtain ⟨CP,hCP⟩:∃CP,lenQ m.qs m.qs.length=CP:=⟨_,rfl⟩
  rw [hCP] at hlen hle
  replace hX:=Lib.hid hX
  replace hCP:=Lib.hid hCP
  obtain ⟨i0,hi,hz0,hz1,hz2⟩:=info_parts qJG
  have hcp:CP≤320000:=by omega
  refine callsIn_of_wp_marks Tryz.func73 rfl trivial ?_ rfl
  simp only [Tryz.ntmps73,List.size_toArray,List.length_cons,List.length_nil,Nat.reduceAdd,Nat.reduceSub,Array.replicate_succ,Array.replicate_zero,List.push_toArray,List.append_toArray,List.nil_append,List.cons_append]
  refine wpIn_wide.2 ?_
  clear H hle
  go_wp2_with fail
  refine hlen.mono ?_
  rintro e w1 ⟨rfl,dn,rfl⟩
  clear hlen
  have H2:Hd w0 _ (w.drewN dn):=H1.drewN dn
  go_wp2_with (at_make;(refine qQn rfl _ _ 39 rfl 42 i0 _ 3 Tryz.underlying39 hi hz0 hz1 rfl _ _ _ _ 0 CP rfl rfl rfl rfl (by omega) (by rw [hz2];omega) (by unfold maxLen;omega) H2 ?_);intro w2 H5)
  obtain ⟨rb,hrb⟩:∃rb,w2.heap.size=rb:=⟨_,rfl⟩
  have H6:Hd w0 _ (w2.alloc (.cells #[.slice (some ⟨w.heap.size,0,none⟩) 0 CP] 39)):=H5.fol
  rw [hrb] at H6 ⊢
  rw [qQw] at H6
  have hsz:(w.drewN dn).heap.size=w.heap.size:=rfl
  rw [hsz] at H6
  have hal:=zKD (t:=b) (o:=0) H6
  refine hal.mono ?_
  rintro e w3 ⟨bl,rfl,H7⟩
  clear hal H5
  go_wp2_with fail
  have H8:Hd w0 (SlcC 42 3 w.heap.size 0 CP []::cel rb 39 #[.slice (some ⟨w.heap.size,0,none⟩) 0 CP]::cel bl 252 #[.pointer (some ⟨b,0,none⟩)]::cel b 226 X::Lev v m.qs::R) w3:=H7.re
  have H9:Hd w0 (SlE 42 (.slice (some ⟨w.heap.size,0,none⟩) 0 CP) ([]:List qQh)::_) w3:=H8.slc_mk
  have H10:Hd w0 (cel rb 39 #[.slice (some ⟨w.heap.size,0,none⟩) 0 CP]::SlE 42 (.slice (some ⟨w.heap.size,0,none⟩) 0 CP) ([]:List qQh)::cel bl 252 #[.pointer (some ⟨b,0,none⟩)]::cel b 226 X::Lev v m.qs::R) w3:=H9.re
  have H11:Hd w0 (all [ex fun u:Value=>all [cel rb 39 #[u],SlE 42 u (((allL m.qs m.qs.length).take 0).map Prod.fst)]]::cel bl 252 #[.pointer (some ⟨b,0,none⟩)]::cel b 226 X::Lev v m.qs::R) w3:=by
    have h:=Hd.into (S:=fun u:Value=>all [cel rb 39 #[u],SlE 42 u (((allL m.qs m.qs.length).take 0).map Prod.fst)]) (.slice (some ⟨w.heap.size,0,none⟩) 0 CP) (Hd.pack (L:=[_,_]) H10)
    exact Hd.pack (L:=[_]) h
  refine wpIn_wide (n:=5).1 ?_
  refine qJs (gf:=138) (lb:=#[.pointer (some ⟨bl,0,none⟩)]) rfl (enters_of Tryz.func138 (by kernel_rfl) rfl) (encs:=encW) (fun _=>rfl) (fun i=>[ex fun u:Value=>all [cel rb 39 #[u],SlE 42 u (((allL m.qs m.qs.length).take i).map Prod.fst)]]) H11 (zXk hX0 hn h32) (fun i x a' Z=>∃p:Nat,a' = { tmps:=#[.pointer (some ⟨b,0,none⟩),undef,.slice none 0 0,.pointer (some ⟨rb,0,none⟩),undef,.pointer (some ⟨p,0,none⟩),.pointer (some ⟨b,0,none⟩),.pointer (some ⟨b,0,none⟩),.pointer (some ⟨b,0,none⟩),.int .i64 CP,.slice (some ⟨w.heap.size,0,none⟩) 0 CP,.pointer (some ⟨b,0,none⟩),.pointer (some ⟨b,0,none⟩),.pointer (some ⟨b,0,none⟩),.func (.func 138) #[] #[.pointer (some ⟨bl,0,none⟩)],.int .i64 x.2,.agg (qXJ x.1),undef,undef,undef,undef,undef],defers:=[] } ∧ Z = [cel p 42 (qXJ x.1),ex fun u:Value=>all [cel rb 39 #[u],SlE 42 u (((allL m.qs m.qs.length).take i).map Prod.fst)]]) ?assign ?body ?done
  case assign =>
    intro lq2 i x X2 W2 hx K
    have K1:Hd w0 _ (W2.alloc (.cells (qXJ x.1) 42)):=K.fol
    gi_wp2
    exact ⟨_,⟨_,rfl,rfl⟩,K1⟩
  case body =>
    rintro lq2 i x X2 Z a' W2 hx ⟨p,rfl,rfl⟩ HW
    have HW1:Hd w0 (cel p 42 (qXJ x.1)::(ex fun u:Value=>all [cel rb 39 #[u],SlE 42 u (((allL m.qs m.qs.length).take i).map Prod.fst)])::X2) W2:=HW
    obtain ⟨u,HW2⟩:=HW1.b2.out
    have HW3:Hd w0 (cel rb 39 #[u]::SlE 42 u (((allL m.qs m.qs.length).take i).map Prod.fst)::cel p 42 (qXJ x.1)::X2) W2:=HW2.flat
    have htk:((allL m.qs m.qs.length).take (i+1)).map Prod.fst=((allL m.qs m.qs.length).take i).map Prod.fst++[x.1]:=by
      rw [List.take_add_one,hx,List.map_append];rfl
    have hbd:=qKH hm.l m.qs.length
    obtain ⟨L,hL⟩:∃L,((allL m.qs m.qs.length).take i).map Prod.fst=L:=⟨_,rfl⟩
    have hLl:L.length≤40000:=by rw [← hL,List.length_map,List.length_take];omega
    rw [hL] at HW3 htk
    obtain ⟨a0,c0,rfl,-,-,-,-⟩:=HW3.b2.slc_form
    have s0:=(show _=some _ from (HW3.k rb).ce 0 rfl)
    have hfp:=(HW3.k p).fact1
    simp only [Nat.reduceAdd] at hfp
    go_split_ands
    have HP:Hd w0 _ (W2.alloc (.cells (qXJ x.1) 42)):=HW3.fol
    have hP:=Lib.hid HP
    replace htk:=Lib.hid htk
    clear HW HW1 HW2 HW3 hL hx hbd
    gi_wp2_with (gi_at_builtin;refine qJi rfl _ _ 39 rfl 42 i0 _ 3 24 Tryz.underlying39 hi hz0 hz1 hz2 rfl _ _ _ rfl (show Hd w0 (Slc 42 3 (.slice a0 L.length c0) L.length (flat L)::_) _ from hP.out.b3) ⟨W2.heap.size,0,none⟩ 1 1 [.int .i64 x.1.job,.int .i64 x.1.task,.int .i64 x.1.level] rfl rfl (qQA hP.out) (by simp [Value.oneCell']) (by unfold maxLen;omega) (by omega) ?_;intro v' w5 H20;have H21:=qYq H20;obtain ⟨L',hL'⟩:∃L',L++[x.1]=L':=⟨_,rfl⟩;rw [hL'] at H21;obtain ⟨a1,c1,rfl,-,-,-,-⟩:=H21.slc_form;replace hL':=Lib.hid hL';have d0:=(show _=some _ from (H21.k rb).ce 0 rfl);have f0:=(H21.k rb).fr 0;clear H20)
    have H22:Hd w0 (cel rb 39 #[.slice a1 L'.length c1]::SlE 42 (.slice a1 L'.length c1) L'::X2) (w5.setCell ⟨rb,0,none⟩ (.slice a1 L'.length c1)):=Hd.fin H21
    show Hd w0 ((ex fun u:Value=>all [cel rb 39 #[u],SlE 42 u (((allL m.qs m.qs.length).take (i+1)).map Prod.fst)])::X2) _
    rw [htk.out,hL'.out]
    exact Hd.into (S:=fun u:Value=>all [cel rb 39 #[u],SlE 42 u L']) _ (Hd.pack (L:=[_,_]) H22)
  case done =>
    intro D W4 K4
    rw [List.take_length] at K4
    have K5:Hd w0 ((ex fun u:Value=>all [cel rb 39 #[u],SlE 42 u ((allL m.qs m.qs.length).map Prod.fst)])::pt D (.deferred (some []))::cel bl 252 #[.pointer (some ⟨b,0,none⟩)]::cel b 226 X::Lev v m.qs::R) W4:=K4
    obtain ⟨u,K6⟩:=K5.out
    have K7:Hd w0 (cel rb 39 #[u]::SlE 42 u ((allL m.qs m.qs.length).map Prod.fst)::pt D (.deferred (some []))::cel bl 252 #[.pointer (some ⟨b,0,none⟩)]::cel b 226 X::Lev v m.qs::R) W4:=K6.flat
    have e0:=(show _=some u from (K7.k rb).ce 0 rfl)
    (try dsimp only)
    go_wp2_with fail
    have K8:Hd w0 (pt D (.deferred (some []))::cel b 226 X::Lev v m.qs::SlE 42 u (qZJ m.qs)::R) W4:=(show Hd w0 (_::SlE 42 u (qZJ m.qs)::_) W4 from K7).re
    refine qYf K8 (fun W HW=>⟨_,results_tmp rfl _ _ _,u,rfl,?_⟩)
    have K9:Hd w0 (cel b 226 (v::m.act.map (Value.int .i64)).toArray::Lev v m.qs::SlE 42 u (qZJ m.qs)::R) W:=by rw [hX.out];exact HW
    exact (WqP.shut K9).b2
end
end
end Go.Proofs.YtkchopnkdjnocaaGreatDoor
