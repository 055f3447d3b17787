/-
  Merged texts of one proof: Dp6.
-/
import Derived.Test.YtkchopnkdjnocaaGreatDoorG40
import Derived.Test.YtkchopnkdjnocaaGreatDoorG41

set_option maxHeartbeats 16000000
set_option maxRecDepth 20000
namespace Go.Proofs.YtkchopnkdjnocaaGreatDoor
section
open Go.RowKit Spl
attribute [local go_sem] Oper.semAt_some
def qJ7 (tk:TkM) (task at_:Int):Int:=match tk.rows[task.toNat]? with
  | some r=>r.steps.length-at_
  | none=>0
def LOk (tk:TkM) (task at_:Int):Prop:=0≤task∧∃r,tk.rows[task.toNat]? = some r∧0≤at_∧at_≤r.steps.length
def qKh (tk:TkM) (l:List ActM):Int:=(l.map fun x=>qJ7 tk x.task x.at_).sum
def qKA (tk:TkM) (l:List qQh):Int:=(l.map fun x=>qJ7 tk x.task 0).sum
def DpM.left (tk:TkM) (m:DpM):Int:=qKh tk (m.co.jobs.map StM.act)+qKA tk (qZJ m.wq.qs)
theorem LOk.le {tk:TkM} (ht:tk.Ok) {t p:Int} (h:LOk tk t p):0≤qJ7 tk t p∧qJ7 tk t p≤4096:=by
  obtain ⟨_,r,hr,h1,h2⟩:=h
  have:=ht.st r (List.mem_of_getElem? hr)
  unfold qJ7
  rw [hr]
  dsimp only
  omega
theorem zQo {α:Type} (f:α→Int):∀ {l:List α},(∀x∈l,0≤f x∧f x≤4096)→0≤(l.map f).sum∧(l.map f).sum≤4096*l.length
  | [],_=>⟨by simp,by simp⟩
  | x::l,h=>by
    have h1:=h x (by simp)
    have h2:=zQo f (l:=l) (fun y hy=>h y (by simp [hy]))
    simp only [List.map_cons,List.sum_cons,List.length_cons]
    omega
theorem qUV {tk:TkM} (ht:tk.Ok) {l:List ActM} (h:∀x∈l,LOk tk x.task x.at_) (k:Nat):0≤qKh tk (l.take k)∧qKh tk (l.take k)≤4096*l.length:=by
  have:=zQo (fun x:ActM=>qJ7 tk x.task x.at_) (l:=l.take k) (fun x hx=>(h x (List.mem_of_mem_take hx)).le ht)
  have h2:(l.take k).length≤l.length:=by rw [List.length_take];omega
  unfold qKh
  omega
theorem zZw {tk:TkM} (ht:tk.Ok) {l:List qQh} (h:∀x∈l,LOk tk x.task 0) (k:Nat):0≤qKA tk (l.take k)∧qKA tk (l.take k)≤4096*l.length:=by
  have:=zQo (fun x:qQh=>qJ7 tk x.task 0) (l:=l.take k) (fun x hx=>(h x (List.mem_of_mem_take hx)).le ht)
  have h2:(l.take k).length≤l.length:=by rw [List.length_take];omega
  unfold qKA
  omega
theorem qqF {tk:TkM} {l:List ActM} {k:Nat} {x:ActM} (hx:l[k]? = some x):qKh tk (l.take (k+1))=qKh tk (l.take k)+qJ7 tk x.task x.at_:=by
  unfold qKh
  rw [List.take_add_one,hx,List.map_append,List.sum_append]
  simp
theorem qqm {tk:TkM} {l:List qQh} {k:Nat} {x:qQh} (hx:l[k]? = some x):qKA tk (l.take (k+1))=qKA tk (l.take k)+qJ7 tk x.task 0:=by
  unfold qKA
  rw [List.take_add_one,hx,List.map_append,List.sum_append]
  simp
theorem qYr {tk:TkM} {i:Nat} {r:RowM} (hr:tk.rows[i]? = some r) (p:Int):qJ7 tk i p=r.steps.length-p:=by
  unfold qJ7
  rw [Int.toNat_natCast,hr]
section
variable {w0 w:World} {R:List Pr} {S:Hp} {tk:TkM} {m:DpM} {y:DpV}
theorem zXm (H:Hd w0 (DpL y tk S m R) w) (ht:tk.Ok) (hq:m.wq.Ok) (hn:m.co.jobs.length≤1000) (hj:∀j∈m.co.jobs,LOk tk j.task j.pos) (hw:∀x∈qZJ m.wq.qs,LOk tk x.task 0) :
    Calls Tryz.prog 70 #[.pointer (some ⟨y.d,0,none⟩)] w fun e w'=>e=.returned (.int .i64 (m.left tk))∧Hd w0 (DpL y tk S m R) w':=by
  obtain ⟨⟨l,t,a,u,ce⟩,hx⟩:∃x,y.x=x:=⟨_,rfl⟩
  obtain ⟨d,c,q,x⟩:=y
  dsimp only at hx
  subst hx
  dsimp only
  have hA:∀x∈m.co.jobs.map StM.act,LOk tk x.task x.at_:=by
    intro x hx
    obtain ⟨j,hj2,rfl⟩:=List.mem_map.1 hx
    exact hj j hj2
  have hlq:(qZJ m.wq.qs).length≤32000:=by
    have h1:=qKH hq.l m.wq.qs.length
    have h2:=hq.q
    unfold qZJ
    rw [List.length_map]
    omega
  have hAl:(m.co.jobs.map StM.act).length≤1000:=by rw [List.length_map];exact hn
  have HA:Hd w0 _ ((w.alloc (.cells #[.pointer (some ⟨d,0,none⟩)] 49)).alloc (.cells #[.int .i64 0] 3)):=H.fol
  have k0:=(show _=some (Value.pointer (some ⟨l,0,none⟩)) from (HA.k d).ce 0 rfl)
  have k1:=(show _=some (Value.pointer (some ⟨d,0,none⟩)) from (HA.k w.heap.size).ce 0 rfl)
  have hjb:=zXP (HA.k l) hn
  obtain ⟨LA,hLA⟩:∃LA,m.co.jobs.map StM.act=LA:=⟨_,rfl⟩
  obtain ⟨LW,hLW⟩:∃LW,qZJ m.wq.qs=LW:=⟨_,rfl⟩
  obtain ⟨V,hV⟩:∃V,m.left tk=V:=⟨_,rfl⟩
  rw [hV]
  unfold DpM.left at hV
  rw [hLA] at hA hAl hjb hV
  rw [hLW] at hw hlq hV
  replace hV:=Lib.hid hV
  replace hLA:=Lib.hid hLA
  replace hLW:=Lib.hid hLW
  clear H hj hn HA
  go_enter Tryz.func70,Tryz.ntmps70
  go_wp2_with fail
  refine hjb.mono ?_
  rintro e w1 ⟨v,rfl,H1⟩
  clear hjb k0 k1
  obtain ⟨a1,c1,rfl,-,-,-,-⟩:=H1.slc_form
  obtain ⟨p,hp⟩:∃p,w.heap.size=p:=⟨_,rfl⟩
  rw [hp] at H1 ⊢
  have H2:Hd w0 (cel (p+1) 3 #[.int .i64 (qKh tk (LA.take 0))]::cel p 49 #[.pointer (some ⟨d,0,none⟩)]::cel d 123 (dRow l t c q m.count)::TkP t tk S::ro S::SlE 213 (.slice a1 LA.length c1) LA::cel c 194 (qQj c l)::LkP ⟨l,t,a,u,ce⟩ S m.co::WqP q m.wq::R) w1:=by
    have e0:qKh tk (LA.take 0)=0:=rfl
    rw [e0]
    exact H1.re
  clear H1
  go_wp2_with fail
  go_loopw [16] (fun y wr=>∃k:Nat,k≤LA.length∧y=.int .i64 k∧Hd w0 (cel (p+1) 3 #[.int .i64 (qKh tk (LA.take k))]::cel p 49 #[.pointer (some ⟨d,0,none⟩)]::cel d 123 (dRow l t c q m.count)::TkP t tk S::ro S::SlE 213 (.slice a1 LA.length c1) LA::cel c 194 (qQj c l)::LkP ⟨l,t,a,u,ce⟩ S m.co::WqP q m.wq::R) wr) (fun y _=>LA.length-(intOf y).toNat)
  case atStart=>exact ⟨0,Nat.zero_le _,rfl,H2⟩
  case round =>
    obtain ⟨k,hk,rfl,H3⟩:=hrel
    clear H2
    by_cases hlt:k<LA.length
    · obtain ⟨x,hx⟩:∃x,LA[k]? = some x:=⟨LA[k],List.getElem?_eq_getElem hlt⟩
      have hxo:=hA x (List.mem_of_getElem? hx)
      have hs:=qqF (tk:=tk) hx
      have hb:=qUV ht hA k
      obtain ⟨s,hs0⟩:∃s,qKh tk (LA.take k)=s:=⟨_,rfl⟩
      rw [hs0] at hs hb H3
      obtain ⟨hb1,hb2⟩:=hb
      obtain ⟨xj,xt,xl,xa⟩:=x
      dsimp only at hxo hs
      obtain ⟨h0,r,hr,h1,h2⟩:=hxo
      obtain ⟨i,rfl⟩:=Int.eq_ofNat_of_zero_le h0
      rw [Int.toNat_natCast] at hr
      rw [qYr hr] at hs
      obtain ⟨g,cap,he,H4⟩:=(H3.v (.slice a1 LA.length c1)).slc_at (by omega)
      injection he with e1 e2 e3;clear e2
      subst e1
      subst e3
      have d0:=H4.slcC_rd (qQi hx (j:=0) rfl)
      have d1:=H4.slcC_rd (qQi hx (j:=1) rfl)
      have d2:=H4.slcC_rd (qQi hx (j:=2) rfl)
      have d3:=H4.slcC_rd (qQi hx (j:=3) rfl)
      simp only [Enc.size,Nat.add_zero] at d0 d1 d2 d3
      have H5:Hd w0 _ (wr.alloc (.cells #[.int .i64 xj,.int .i64 i,.int .i64 xl,.int .i64 xa] 213)):=H3.fol
      have hf:=(H5.k wr.heap.size).fact1
      simp only [Nat.reduceAdd] at hf
      go_split_ands
      have hcl:=zZj (bx:=p) (bs:=p+1) (d:=d) (l:=l) (c:=c) (q:=q) (n:=m.count) (show Hd w0 (cel (p+1) 3 #[.int .i64 s]::cel p 49 #[.pointer (some ⟨d,0,none⟩)]::cel d 123 (dRow l t c q m.count)::TkP t tk S::ro S::SlE 213 (.slice (some ⟨g,0,none⟩) LA.length c1) LA::cel c 194 (qQj c l)::LkP ⟨l,t,a,u,ce⟩ S m.co::WqP q m.wq::R) _ from H5.re) ht hr h1 h2 hb1 (by omega)
      have n1:(k:Int)<LA.length:=by omega
      have n2:¬(k:Int)<0:=by omega
      have n3:¬LA.length≤k:=by omega
      have g6:IntKind.i64.wrap ((k:Int)+1)=(k:Int)+1:=IntWalk.i64_in _ (by omega)
      replace hs:=Lib.hid hs
      replace hcl:=Lib.hid hcl
      clear H3 H4 H5 hx h1 h2 hr h0 hb1 hb2 hs0
      go_wp2_with fail
      refine hcl.out.mono ?_
      rintro e w5 ⟨rfl,H6⟩
      go_wp2_with fail
      go_roundw
      case rel=>exact ⟨k+1,by omega,by simp,by rw [hs.out];exact H6⟩
      case measure=>simp [intOf];omega
    · obtain rfl:k=LA.length:=by omega
      rw [List.take_length] at H3
      have k2:=(show _=some (Value.pointer (some ⟨d,0,none⟩)) from (H3.k p).ce 0 rfl)
      have k3:=(show _=some (Value.pointer (some ⟨q,0,none⟩)) from (H3.k d).ce 3 rfl)
      have hli:=zZ4 (H3.k q) hq
      rw [hLW.out] at hli
      clear H3
      go_wp2_with fail
      refine hli.mono ?_
      rintro e w6 ⟨v2,rfl,H4⟩
      clear hli k2 k3
      obtain ⟨a2,c2,rfl,-,-,-,-⟩:=H4.slc_form
      have bA:=qUV ht hA LA.length
      rw [List.take_length] at bA
      have H5:Hd w0 (cel (p+1) 3 #[.int .i64 (qKh tk LA+qKA tk (LW.take 0))]::cel p 49 #[.pointer (some ⟨d,0,none⟩)]::cel d 123 (dRow l t c q m.count)::TkP t tk S::ro S::SlE 42 (.slice a2 LW.length c2) LW::cel c 194 (qQj c l)::LkP ⟨l,t,a,u,ce⟩ S m.co::WqP q m.wq::R) w6:=by
        have e0:qKA tk (LW.take 0)=0:=rfl
        rw [e0,Int.add_zero]
        exact H4.re
      clear H4
      obtain ⟨sA,hsA⟩:∃sA,qKh tk LA=sA:=⟨_,rfl⟩
      rw [hsA] at H5 bA hV
      obtain ⟨bA1,bA2⟩:=bA
      have hLL:=hAl
      obtain ⟨nA,hnA⟩:∃nA,LA.length=nA:=⟨_,rfl⟩
      rw [hnA] at bA2 hLL ⊢
      clear hAl hk hA hlt
      replace hnA:=Lib.hid hnA
      go_wp2_with fail
      go_loopw [33] (fun y wr=>∃k:Nat,k≤LW.length∧y=.int .i64 k∧Hd w0 (cel (p+1) 3 #[.int .i64 (sA+qKA tk (LW.take k))]::cel p 49 #[.pointer (some ⟨d,0,none⟩)]::cel d 123 (dRow l t c q m.count)::TkP t tk S::ro S::SlE 42 (.slice a2 LW.length c2) LW::cel c 194 (qQj c l)::LkP ⟨l,t,a,u,ce⟩ S m.co::WqP q m.wq::R) wr) (fun y _=>LW.length-(intOf y).toNat)
      case atStart=>exact ⟨0,Nat.zero_le _,rfl,H5⟩
      case round =>
        obtain ⟨k,hk,rfl,H3⟩:=hrel
        clear H5
        by_cases hlt:k<LW.length
        · obtain ⟨x,hx⟩:∃x,LW[k]? = some x:=⟨LW[k],List.getElem?_eq_getElem hlt⟩
          have hxo:=hw x (List.mem_of_getElem? hx)
          have hs:=qqm (tk:=tk) hx
          have hb:=zZw ht hw k
          obtain ⟨s,hs0⟩:∃s,qKA tk (LW.take k)=s:=⟨_,rfl⟩
          rw [hs0] at hs hb H3
          obtain ⟨hb1,hb2⟩:=hb
          obtain ⟨xj,xt,xl⟩:=x
          dsimp only at hxo hs
          obtain ⟨h0,r,hr,h1,h2⟩:=hxo
          obtain ⟨i,rfl⟩:=Int.eq_ofNat_of_zero_le h0
          rw [Int.toNat_natCast] at hr
          rw [qYr hr] at hs
          obtain ⟨g,cap,he,H4⟩:=(H3.v (.slice a2 LW.length c2)).slc_at (by omega)
          injection he with e1 e2 e3;clear e2
          subst e1
          subst e3
          have d0:=H4.slcC_rd (qQi hx (j:=0) rfl)
          have d1:=H4.slcC_rd (qQi hx (j:=1) rfl)
          have d2:=H4.slcC_rd (qQi hx (j:=2) rfl)
          simp only [Enc.size,Nat.add_zero] at d0 d1 d2
          have H5:Hd w0 _ (wr.alloc (.cells #[.int .i64 xj,.int .i64 i,.int .i64 xl] 42)):=H3.fol
          have hf:=(H5.k wr.heap.size).fact1
          simp only [Nat.reduceAdd] at hf
          go_split_ands
          have hcl:=zZj (bx:=p) (bs:=p+1) (d:=d) (l:=l) (c:=c) (q:=q) (n:=m.count) (show Hd w0 (cel (p+1) 3 #[.int .i64 (sA+s)]::cel p 49 #[.pointer (some ⟨d,0,none⟩)]::cel d 123 (dRow l t c q m.count)::TkP t tk S::ro S::SlE 42 (.slice (some ⟨g,0,none⟩) LW.length c2) LW::cel c 194 (qQj c l)::LkP ⟨l,t,a,u,ce⟩ S m.co::WqP q m.wq::R) _ from H5.re) ht hr h1 h2 (by omega) (by omega)
          have n1:(k:Int)<LW.length:=by omega
          have n2:¬(k:Int)<0:=by omega
          have n3:¬LW.length≤k:=by omega
          have g6:IntKind.i64.wrap ((k:Int)+1)=(k:Int)+1:=IntWalk.i64_in _ (by omega)
          have e5:sA+qKA tk (LW.take (k+1))=sA+s+(r.steps.length-0):=by rw [hs];omega
          replace e5:=Lib.hid e5
          replace hcl:=Lib.hid hcl
          clear H3 H4 H5 hx h1 h2 hr h0 hb1 hb2 hs0 hs
          go_wp2_with fail
          refine hcl.out.mono ?_
          rintro e w5 ⟨rfl,H6⟩
          go_wp2_with fail
          go_roundw
          case rel=>exact ⟨k+1,by omega,by simp,by rw [e5.out];exact H6⟩
          case measure=>simp [intOf];omega
        · obtain rfl:k=LW.length:=by omega
          rw [List.take_length,hV.out] at H3
          have k4:=(show _=some (Value.int .i64 V) from (H3.k (p+1)).ce 0 rfl)
          have h3:=Lib.hid H3
          clear H3
          go_wp2_with fail
          go_ret
          exact ⟨rfl,h3.out.re⟩
end
end
end Go.Proofs.YtkchopnkdjnocaaGreatDoor
