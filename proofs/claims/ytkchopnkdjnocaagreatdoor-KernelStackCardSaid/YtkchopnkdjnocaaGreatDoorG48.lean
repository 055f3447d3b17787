/-
  Merged texts of one proof: ActM, Kp1, Kp2, Kp3, Kp4, Kp5, Kc1.
-/
import Derived.Test.YtkchopnkdjnocaaGreatDoorG30
import Derived.Test.YtkchopnkdjnocaaGreatDoorG34
import Derived.Test.YtkchopnkdjnocaaGreatDoorG47

set_option maxHeartbeats 16000000
set_option maxRecDepth 20000
namespace Go.Proofs.YtkchopnkdjnocaaGreatDoor
section
open Go.RowKit Spl
def qKv (x:OpK):Bool:=decide (x.t.x.cd.size≤4200) && decide (x.t.x.needs.length≤20)
def cutN (kd n:Int):Int:=if kd=2∧40<n∧n≤1000 then 40 else if kd=4∧60<n∧n≤4096 then 60 else n
def cutK (x:OpK):OpK:=⟨x.kd,cutN x.kd x.n,x.t⟩
def fewK (ops:List OpK) (most:Nat):List OpK:=((ops.take most).filter qKv).map cutK
def KeM.tickN (m:KeM) (n:Int):KeM:=if 1≤n∧n≤1000∧n≤1099511627776-m.ck.now then (m.ticks n.toNat).2 else m
def KeM.runN (m:KeM) (n:Int):KeM:=if 0≤n∧n≤4096 then (m.run n.toNat).2 else m
def actK (m:KeM) (x:OpK):KeM :=
  if x.kd=0 then m.register x.t.x else if x.kd=1 then m.release x.n else if x.kd=2 then m.tickN x.n else if x.kd=3 then m.step.2 else if x.kd=4 then m.runN x.n else m
def qYD (m:KeM) (l:List OpK):KeM:=l.foldl actK m
theorem KeI.act {m:KeM} {k:Nat} (h:KeI m k) (hk:k+100000≤4611686018427387904) (x:OpK):KeI (actK m x) (k+100000):=by
  unfold actK KeM.tickN KeM.runN
  split
  · exact (h.register (by omega) _).more (by omega)
  · split
    · exact (h.release (by omega) _).more (by omega)
    · split
      · split
        · rename_i hn
          exact (h.ticks (k:=x.n.toNat) (by omega)).more (by omega)
        · exact h.more (by omega)
      · split
        · exact (h.step (by omega)).more (by omega)
        · split
          · split
            · rename_i hn
              exact (h.run (k:=x.n.toNat) (by omega)).more (by omega)
            · exact h.more (by omega)
          · exact h.more (by omega)
theorem Ext.act {m:KeM} {k:Nat} (e:Ext m) (h:KeI m k) (hk:k+100000≤4611686018427387904) (x:OpK):Ext (actK m x):=by
  unfold actK KeM.tickN KeM.runN
  split
  · exact e.register h _
  · split
    · exact e.release _
    · split
      · split
        · exact e.ticks
        · exact e
      · split
        · exact e.step h
        · split
          · split
            · rename_i hn
              exact e.run (k:=x.n.toNat) h (by omega)
            · exact e
          · exact e
theorem qXS:∀ {l:List OpK} {m:KeM} {k:Nat} (_:KeI m k) (_:Ext m) (_:k+100000*l.length≤4611686018427387904),KeI (qYD m l) (k+100000*l.length)∧Ext (qYD m l)
  | [],m,k,h,e,_=>⟨h,e⟩
  | x::l,m,k,h,e,hk=>by
    obtain ⟨q,hq⟩:∃q,100000*l.length=q:=⟨_,rfl⟩
    have e1:100000*(x::l).length=q+100000:=by rw [List.length_cons,Nat.mul_succ,hq]
    rw [e1] at hk ⊢
    have h1:k+100000≤4611686018427387904:=Nat.le_trans (by rw [Nat.add_comm q,← Nat.add_assoc];exact Nat.le_add_right _ _) hk
    have h2:k+100000+q≤4611686018427387904:=by rw [Nat.add_assoc,Nat.add_comm 100000];exact hk
    have:=qXS (l:=l) (h.act h1 x) (e.act h h1 x) (by rw [hq];exact h2)
    rw [hq] at this
    rw [Nat.add_comm q,← Nat.add_assoc]
    exact this
def qZE (n lo hi:Int):Int:=if n<lo then lo else if hi<n then hi else n
def qQN (w:Int):Int:=qZE w 0 65536
def qZe (u:List Int):List Int:=(u.take 16).map fun x=>qZE x 1 255
theorem qXr (w:Int) (u:List Int):qJA (qQN w) (qZe u)=0:=by
  have h1:¬(qQN w<0∨65536<qQN w):=by
    unfold qQN qZE
    split
    · omega
    · split <;> omega
  have h2:¬(16:Int)<(qZe u).length:=by unfold qZe;rw [List.length_map,List.length_take];omega
  unfold qJA
  rw [if_neg h1,if_neg h2,if_pos]
  rw [List.all_eq_true]
  intro x hx
  obtain ⟨y,hy,rfl⟩:=List.mem_map.1 hx
  have:1≤qZE y 1 255∧qZE y 1 255≤255:=by
    unfold qZE
    split
    · omega
    · split <;> omega
  simp [this]
theorem qX8 {ops:List OpK} {n:Nat} {x:OpK} (h:x∈fewK ops n):∃y∈ops,x.t=y.t∧x.t.x.needs.length≤20:=by
  obtain ⟨y,hy,rfl⟩:=List.mem_map.1 h
  obtain ⟨h1,h2⟩:=List.mem_filter.1 hy
  refine ⟨y,List.mem_of_mem_take h1,rfl,?_⟩
  unfold qKv at h2
  simp at h2
  exact h2.2
theorem qKM (ops:List OpK) (n:Nat):(fewK ops n).length≤n:=by
  unfold fewK
  rw [List.length_map]
  have h1:=List.length_filter_le qKv (ops.take n)
  have h2:(ops.take n).length≤n:=by rw [List.length_take];omega
  omega
end
section
open Go.RowKit Spl
attribute [local go_sem] Oper.semAt_some
section
variable {w0 w:World} {R:List Pr} {S:Hp} {m:KeM} {z:KeV} {k:Nat}
theorem zQL {tk:TkM} {y:DpV} {m:DpM} (H:Hd w0 (DpL y tk S m R) w) (hq:m.wq.Ok) :
    Calls Tryz.prog 43 #[.pointer (some ⟨y.d,0,none⟩)] w fun e w'=>∃v,e=.returned v∧Hd w0 (SlE 42 v (qZJ m.wq.qs)::DpL y tk S m R) w':=by
  obtain ⟨d,c,q,⟨l,t,a,u,ce⟩⟩:=y
  have hc:=zZ4 (show Hd w0 (WqP q m.wq::cel d 123 #[.pointer (some ⟨l,0,none⟩),.pointer (some ⟨t,0,none⟩),.pointer (some ⟨c,0,none⟩),.pointer (some ⟨q,0,none⟩),.int .i64 m.count]::cel c 194 (qQj c l)::LkP ⟨l,t,a,u,ce⟩ S m.co::TkP t tk S::ro S::R) w from H.re) hq
  have k3:=(show _=some (Value.pointer (some ⟨q,0,none⟩)) from (H.k d).ce 3 rfl)
  clear H
  go_enter Tryz.func43,Tryz.ntmps43
  go_wp2_with fail
  refine hc.mono ?_
  rintro e w1 ⟨v,rfl,H1⟩
  clear hc
  go_wp2_with fail
  go_ret
  exact ⟨v,rfl,H1.re⟩
theorem qYg (H:Hd w0 (KeL z S m R) w) (h:KeI m k) :
    Calls Tryz.prog 13 #[.pointer (some ⟨z.k,0,none⟩)] w fun e w'=>∃v,e=.returned v∧Hd w0 (SlE 42 v (qZJ m.dp.wq.qs)::KeL z S m R) w':=by
  obtain ⟨kk,cl,rg,y⟩:=z
  have hc:=zQL (show Hd w0 (DpL y m.tk S m.dp (cel kk 53 #[.pointer (some ⟨y.x.l,0,none⟩),.pointer (some ⟨y.x.t,0,none⟩),.pointer (some ⟨y.d,0,none⟩),.pointer (some ⟨cl,0,none⟩),.pointer (some ⟨rg,0,none⟩)]::qQE cl m.ck::qQT rg m.ev::R)) w from H.re) h.d.q.ok
  have k2:=(show _=some (Value.pointer (some ⟨y.d,0,none⟩)) from (H.k kk).ce 2 rfl)
  clear H
  go_enter Tryz.func13,Tryz.ntmps13
  go_wp2_with fail
  refine hc.mono ?_
  rintro e w1 ⟨v,rfl,H1⟩
  clear hc
  go_wp2_with fail
  go_ret
  exact ⟨v,rfl,H1.re⟩
theorem qYw {w:World} (n lo hi:Int) :
    Calls Tryz.prog 20 #[.int .i64 n,.int .i64 lo,.int .i64 hi] w fun e w'=>e=.returned (.int .i64 (qZE n lo hi))∧w=w':=by
  unfold qZE
  by_cases h1:n<lo
  · rw [if_pos h1]
    go_enter Tryz.func20,Tryz.ntmps20
    go_wp2_with fail
    go_ret
    exact ⟨rfl,rfl⟩
  · rw [if_neg h1]
    by_cases h2:hi<n
    · rw [if_pos h2]
      go_enter Tryz.func20,Tryz.ntmps20
      go_wp2_with fail
      go_ret
      exact ⟨rfl,rfl⟩
    · rw [if_neg h2]
      go_enter Tryz.func20,Tryz.ntmps20
      go_wp2_with fail
      go_ret
      exact ⟨rfl,rfl⟩
end
end
section
open Go.RowKit Spl
attribute [local go_sem] Oper.semAt_some
section
variable {w0 w:World} {R:List Pr} {S:Hp} {m:KeM} {z:KeV} {k:Nat}
abbrev opKA (x:OpK):Value:=.agg #[.int .i64 x.kd,.int .i64 x.n,.string x.t.x.nm,.int .i64 x.t.x.lv,.int .i64 x.t.x.fr,.slice x.t.na x.t.x.needs.length x.t.nc,.string x.t.x.cd,.int .i64 x.t.x.p,.int .i64 x.t.x.f,.int .i64 x.t.x.g]
theorem zKz [Lay w0 R] (H:Hd w0 (KeL z S m R) w) (h:KeI m k) (hk:k+100000≤4611686018427387904) (x:OpK) (hs:Srg w0 R x.t.nv x.t.x.needs) (hL:x.t.x.needs.length≤100000) :
    Calls Tryz.prog 30 #[.pointer (some ⟨z.k,0,none⟩),opKA x] w fun e w'=>e=.returned (.tuple #[])∧∃S',Le S S'∧Hd w0 (KeL z S' (actK m x) R) w':=by
  obtain ⟨kd,n,⟨⟨nm,lv,fr,needs,cd,p,f,g⟩,na,nc⟩⟩:=x
  obtain ⟨zk,zc,zr,zy⟩:=z
  dsimp only [qXh.nv] at hs hL
  have H0:Hd w0 _ (w.alloc (.cells #[.int .i64 kd,.int .i64 n,.string nm,.int .i64 lv,.int .i64 fr,.slice na needs.length nc,.string cd,.int .i64 p,.int .i64 f,.int .i64 g] 69)):=H.fol
  have H1:Hd w0 (KeL ⟨zk,zc,zr,zy⟩ S m (cel w.heap.size 69 #[.int .i64 kd,.int .i64 n,.string nm,.int .i64 lv,.int .i64 fr,.slice na needs.length nc,.string cd,.int .i64 p,.int .i64 f,.int .i64 g]::R)) _:=H0.re
  have hf:=(H0.k w.heap.size).fact1
  simp only [Nat.reduceAdd] at hf
  go_split_ands
  clear H H0
  obtain ⟨T,hT⟩:∃T,actK m ⟨kd,n,⟨⟨nm,lv,fr,needs,cd,p,f,g⟩,na,nc⟩⟩=T:=⟨_,rfl⟩
  rw [hT]
  unfold actK at hT
  dsimp only at hT
  by_cases k0:kd=0
  · subst k0
    rw [if_pos rfl] at hT
    have hc:=qZg H1 h (by omega) ⟨nm,lv,fr,needs,cd,p,f,g⟩ (nv:=.slice na needs.length nc) (hs.of fun h=>h.tail) hL
    rw [hT] at hc
    clear hs hT H1
    go_enter Tryz.func30,Tryz.ntmps30
    go_wp2_with fail
    refine hc.mono ?_
    rintro e w1 ⟨he,S',hle,H2⟩
    obtain ⟨X,Y,rfl⟩:∃X Y:Int,e=.returned (.tuple #[.int .i64 X,.int .i64 Y]):=⟨_,_,he⟩
    clear hc he
    go_wp2_with fail
    go_end0
    exact ⟨rfl,S',hle,H2.re⟩
  rw [if_neg k0] at hT
  by_cases k1:kd=1
  · subst k1
    rw [if_pos rfl] at hT
    have hc:=qZ2 H1 h (by omega) n
    rw [hT] at hc
    clear hs hT H1 k0
    go_enter Tryz.func30,Tryz.ntmps30
    go_wp2_with fail
    refine hc.mono ?_
    rintro e w1 ⟨he,H2⟩
    obtain ⟨X,Y,rfl⟩:∃X Y:Int,e=.returned (.tuple #[.int .i64 X,.int .i64 Y]):=⟨_,_,he⟩
    clear hc he
    go_wp2_with fail
    go_end0
    exact ⟨rfl,S,Le.refl S,H2.re⟩
  rw [if_neg k1] at hT
  by_cases k2:kd=2
  · subst k2
    rw [if_pos rfl] at hT
    unfold KeM.tickN at hT
    by_cases hn:1≤n∧n≤1000∧n≤1099511627776-m.ck.now
    · rw [if_pos hn] at hT
      obtain ⟨N,rfl⟩:=Int.eq_ofNat_of_zero_le (show 0≤n by omega)
      rw [Int.toNat_natCast] at hT
      have hc:=zQy (n:=N) H1 h (by omega) (by omega) hn.2.2 (by omega)
      rw [hT] at hc
      clear hs hT H1 k0 k1 hn
      go_enter Tryz.func30,Tryz.ntmps30
      go_wp2_with fail
      refine hc.mono ?_
      rintro e w1 ⟨v,rfl,H2⟩
      clear hc
      go_wp2_with fail
      go_end0
      exact ⟨rfl,S,Le.refl S,H2.re⟩
    · rw [if_neg hn] at hT
      subst hT
      have hc:=qWP H1 (n:=n) ⟨h.k.n0,h.k.n1⟩ (by omega)
      clear hs k0 k1 hn
      go_enter Tryz.func30,Tryz.ntmps30
      go_wp2_with fail
      refine hc.mono ?_
      rintro e w1 ⟨rfl,rfl⟩
      clear hc
      go_wp2_with fail
      go_end0
      exact ⟨rfl,S,Le.refl S,H1.re⟩
  rw [if_neg k2] at hT
  by_cases k3:kd=3
  · subst k3
    rw [if_pos rfl] at hT
    have hc:=zQl H1 h (by omega)
    rw [hT] at hc
    clear hs hT H1 k0 k1 k2
    go_enter Tryz.func30,Tryz.ntmps30
    go_wp2_with fail
    refine hc.mono ?_
    rintro e w1 ⟨rfl,S',hle,H2⟩
    clear hc
    go_wp2_with fail
    go_end0
    exact ⟨rfl,S',hle,H2.re⟩
  rw [if_neg k3] at hT
  by_cases k4:kd=4
  · subst k4
    rw [if_pos rfl] at hT
    unfold KeM.runN at hT
    by_cases hn:0≤n∧n≤4096
    · rw [if_pos hn] at hT
      obtain ⟨N,rfl⟩:=Int.eq_ofNat_of_zero_le hn.1
      rw [Int.toNat_natCast] at hT
      have hc:=zQx (n:=N) H1 h (by omega) (by omega)
      rw [hT] at hc
      clear hs hT H1 k0 k1 k2 k3 hn
      go_enter Tryz.func30,Tryz.ntmps30
      go_wp2_with fail
      refine hc.mono ?_
      rintro e w1 ⟨rfl,S',hle,H2⟩
      clear hc
      go_wp2_with fail
      go_end0
      exact ⟨rfl,S',hle,H2.re⟩
    · rw [if_neg hn] at hT
      subst hT
      have hc:=zQV (n:=n) (by omega) (w.alloc (.cells #[.int .i64 4,.int .i64 n,.string nm,.int .i64 lv,.int .i64 fr,.slice na needs.length nc,.string cd,.int .i64 p,.int .i64 f,.int .i64 g] 69)) zk
      clear hs k0 k1 k2 k3 hn
      go_enter Tryz.func30,Tryz.ntmps30
      go_wp2_with fail
      refine hc.mono ?_
      rintro e w1 ⟨rfl,rfl⟩
      clear hc
      go_wp2_with fail
      go_end0
      exact ⟨rfl,S,Le.refl S,H1.re⟩
  rw [if_neg k4] at hT
  subst hT
  clear hs
  go_enter Tryz.func30,Tryz.ntmps30
  go_wp2_with fail
  go_end0
  exact ⟨rfl,S,Le.refl S,H1.re⟩
end
end
section
open Go.RowKit Spl
attribute [local go_sem] Oper.semAt_some
instance:Enc OpK where
  size:=10
  cells:=OpK.cells
  len _:=rfl
  one x u hu:=by
    simp only [OpK.cells,qXh.cells,qXh.nv,List.mem_cons,List.not_mem_nil,or_false] at hu
    rcases hu with rfl | rfl | rfl | rfl | rfl | rfl | rfl | rfl | rfl | rfl <;> rfl
class Old (W w0:World) (R:List Pr):Prop where
  keep:∀ {w1:World},Hd w0 R w1→∀(p:Addr) (u:Value),W.cell? p=some u→w1.cell? p=some u
instance {W w0:World} {P:Pr} {R:List Pr} [h:Old W w0 R]:Old W w0 (P::R):=⟨fun H=>h.keep H.tail⟩
theorem zJS:(Tryz.prog.info? 69).map (fun i=>(i.zero,i.size,i.bytes))=some (some (.agg #[.int .i64 0,.int .i64 0,.string ⟨#[]⟩,.int .i64 0,.int .i64 0,.slice none 0 0,.string ⟨#[]⟩,.int .i64 0,.int .i64 0,.int .i64 0]),10,112):=by kernel_rfl
section
variable {w0 w W:World} {R:List Pr}
theorem qZO {v:Value} {L:List OpK} {x:OpK} (h:Hd w0 (Slc 69 10 v (L.length+1) (flat L++x.cells)::R) w):Hd w0 (SlE 69 v (L++[x])::R) w:=by
  have e1:(L++[x]).length=L.length+1:=by simp
  have e2:flat (L++[x])=flat L++x.cells:=by rw [qQc,qQK];rfl
  unfold SlE
  rw [e1,e2]
  exact h
theorem zZe {ops:List OpK} {j:Nat} {x:OpK} (h:ops[j]? = some x):fewK ops (j+1)=fewK ops j++(if qKv x=true then [cutK x] else []):=by
  unfold fewK
  rw [List.take_add_one,h,List.filter_append,List.map_append]
  congr 1
  by_cases hs:qKv x=true
  · simp [hs]
  · simp [hs]
theorem zJg [ho:Old W w0 R] (H:Hd w0 R w) {ops:List OpK} {v:Value} (hR:RdK W v ops) {most:Nat} (hm:most≤1000) :
    Calls Tryz.prog 7 #[v,.int .i64 most] w fun e w'=>∃v',e=.returned v'∧Hd w0 (SlE 69 v' (fewK ops most)::R) w':=by
  obtain ⟨⟨A,cap,rfl,hlen,hcap,hcell⟩,-⟩:=hR
  obtain ⟨i0,hi,hz0,hz1,hz2⟩:=info_parts zJS
  obtain ⟨N,hN⟩:∃N,ops.length=N:=⟨_,rfl⟩
  rw [hN] at hlen hcap hcell ⊢
  replace hlen:=Lib.hid hlen
  replace hcap:=Lib.hid hcap
  replace hcell:=Lib.hid hcell
  replace hN:=Lib.hid hN
  have hk:=Lib.hid (fun (w1:World) (h:Hd w0 R w1) (p:Addr) (u:Value) (hp:W.cell? p=some u)=>ho.keep h p u hp)
  go_enter Tryz.func7,Tryz.ntmps7
  go_wp2_with fail
  go_loopw [5,6] (fun y z wr=>∃(j:Nat) (v':Value),j≤N∧j≤most∧v'=y∧z=.int .i64 j∧Hd w0 (SlE 69 v' (fewK ops j)::R) wr) (fun _ z _=>most-(intOf z).toNat)
  case atStart=>exact ⟨0,_,Nat.zero_le _,Nat.zero_le _,rfl,rfl,H.slc_nil 69 10⟩
  case round =>
    obtain ⟨j,v',hj1,hj2,rfl,rfl,H1⟩:=hrel
    clear H
    by_cases hlt:j<N
    · by_cases hltm:j<most
      · obtain ⟨x,hx⟩:∃x,ops[j]? = some x:=⟨ops[j]'(by rw [hN.out];exact hlt),List.getElem?_eq_getElem _⟩
        obtain ⟨b,o,rfl,hc⟩:=hcell.out (by omega)
        have hstep:=Lib.hid (zZe hx)
        have hF:=Lib.hid (qKM ops j)
        obtain ⟨F,hFe⟩:∃F,fewK ops j=F:=⟨_,rfl⟩
        rw [hFe] at hstep hF H1
        have cc:∀(i:Nat) (u:Value),x.cells[i]? = some u→wr.cell? ⟨b,o+j*10+i,none⟩=some u:=fun i u hu=>by
          rw [Nat.add_assoc]
          exact hk.out wr H1.tail _ _ (hc j x hx i u hu)
        obtain ⟨kd,n,⟨⟨nm,lv,fr,needs,cd,p,f,g⟩,na,nc⟩⟩:=x
        have d0:=cc 0 _ rfl
        have d1:=cc 1 _ rfl
        have d2:=cc 2 _ rfl
        have d3:=cc 3 _ rfl
        have d4:=cc 4 _ rfl
        have d5:=cc 5 _ rfl
        have d6:=cc 6 _ rfl
        have d7:=cc 7 _ rfl
        have d8:=cc 8 _ rfl
        have d9:=cc 9 _ rfl
        rw [Nat.add_zero] at d0
        dsimp only [qXh.nv] at d5
        have n1:(j:Int)<N:=by omega
        have n2:(j:Int)<most:=by omega
        have n3:¬(j:Int)<0:=by omega
        have n4:¬N≤j:=by omega
        have g6:IntKind.i64.wrap ((j:Int)+1)=(j:Int)+1:=IntWalk.i64_in _ (by omega)
        have HA:Hd w0 _ (wr.alloc (.cells #[.int .i64 kd,.int .i64 n,.string nm,.int .i64 lv,.int .i64 fr,.slice na needs.length nc,.string cd,.int .i64 p,.int .i64 f,.int .i64 g] 69)):=H1.fol
        have hf:=(HA.k wr.heap.size).fact1
        simp only [Nat.reduceAdd] at hf
        go_split_ands
        replace hx:=Lib.hid hx
        clear hc cc hFe
        by_cases s1:(4200:Int)<cd.size
        · have e1:fewK ops (j+1)=F:=by
            rw [hstep.out,if_neg (by unfold qKv;simp;omega)]
            simp
          replace e1:=Lib.hid e1
          replace hF:=Lib.hid hF
          replace hstep:=Lib.hid hstep
          go_wp2_with fail
          go_roundw
          case rel=>exact ⟨j+1,v',by omega,by omega,rfl,by simp,by rw [e1.out];exact Hd.fin H1⟩
          case measure=>simp [intOf];omega
        by_cases s2:(20:Int)<needs.length
        · have e1:fewK ops (j+1)=F:=by
            rw [hstep.out,if_neg (by unfold qKv;simp;omega)]
            simp
          replace e1:=Lib.hid e1
          replace hF:=Lib.hid hF
          replace hstep:=Lib.hid hstep
          go_wp2_with fail
          go_roundw
          case rel=>exact ⟨j+1,v',by omega,by omega,rfl,by simp,by rw [e1.out];exact Hd.fin H1⟩
          case measure=>simp [intOf];omega
        replace hstep:Hid (fewK ops (j+1)=F++[cutK ⟨kd,n,⟨⟨nm,lv,fr,needs,cd,p,f,g⟩,na,nc⟩⟩]):=Lib.hid (by rw [hstep.out,if_pos (by unfold qKv;simp;omega)])
        by_cases k2:kd=2
        · subst k2
          by_cases a1:40<n
          · by_cases a2:n≤1000
            · have e1:fewK ops (j+1)=F++[(⟨2,40,⟨⟨nm,lv,fr,needs,cd,p,f,g⟩,na,nc⟩⟩:OpK)]:=by rw [hstep.out];simp [cutK,cutN,a1,a2]
              have HB:Hd w0 _ ((wr.alloc (.cells #[.int .i64 2,.int .i64 40,.string nm,.int .i64 lv,.int .i64 fr,.slice na needs.length nc,.string cd,.int .i64 p,.int .i64 f,.int .i64 g] 69)).alloc (.cells #[.int .i64 2,.int .i64 40,.string nm,.int .i64 lv,.int .i64 fr,.slice na needs.length nc,.string cd,.int .i64 p,.int .i64 f,.int .i64 g] 69)):=H1.fol
              have hB:=Lib.hid HB
              replace e1:=Lib.hid e1
              clear HB H1
              go_wp2_with (at_builtin;refine qQb rfl _ _ 25 rfl 69 i0 _ 10 112 Tryz.underlying25 hi hz0 hz1 hz2 rfl _ _ _ rfl (show Hd w0 (Slc 69 10 v' F.length (flat F)::_) _ from hB.out.v v') ⟨wr.heap.size+1,0,none⟩ 1 1 [.int .i64 2,.int .i64 40,.string nm,.int .i64 lv,.int .i64 fr,.slice na needs.length nc,.string cd,.int .i64 p,.int .i64 f,.int .i64 g] rfl rfl (qQA (hB.out.k (wr.heap.size+1))) (by simp [Value.oneCell']) (by have:=hF.out;unfold maxLen;omega) (by have:=hF.out;omega) ?_;intro v2 w5 H20;have H21:=qZO (x:=⟨2,40,⟨⟨nm,lv,fr,needs,cd,p,f,g⟩,na,nc⟩⟩) H20)
              go_roundw
              case rel=>exact ⟨j+1,v2,by omega,by omega,rfl,rfl,by rw [e1.out];exact H21.re⟩
              case measure=>simp [intOf];omega
            · have e1:fewK ops (j+1)=F++[(⟨2,n,⟨⟨nm,lv,fr,needs,cd,p,f,g⟩,na,nc⟩⟩:OpK)]:=by rw [hstep.out];simp [cutK,cutN,a2]
              have HB:Hd w0 _ ((wr.alloc (.cells #[.int .i64 2,.int .i64 n,.string nm,.int .i64 lv,.int .i64 fr,.slice na needs.length nc,.string cd,.int .i64 p,.int .i64 f,.int .i64 g] 69)).alloc (.cells #[.int .i64 2,.int .i64 n,.string nm,.int .i64 lv,.int .i64 fr,.slice na needs.length nc,.string cd,.int .i64 p,.int .i64 f,.int .i64 g] 69)):=H1.fol
              have hB:=Lib.hid HB
              replace e1:=Lib.hid e1
              clear HB H1
              go_wp2_with (at_builtin;refine qQb rfl _ _ 25 rfl 69 i0 _ 10 112 Tryz.underlying25 hi hz0 hz1 hz2 rfl _ _ _ rfl (show Hd w0 (Slc 69 10 v' F.length (flat F)::_) _ from hB.out.v v') ⟨wr.heap.size+1,0,none⟩ 1 1 [.int .i64 2,.int .i64 n,.string nm,.int .i64 lv,.int .i64 fr,.slice na needs.length nc,.string cd,.int .i64 p,.int .i64 f,.int .i64 g] rfl rfl (qQA (hB.out.k (wr.heap.size+1))) (by simp [Value.oneCell']) (by have:=hF.out;unfold maxLen;omega) (by have:=hF.out;omega) ?_;intro v2 w5 H20;have H21:=qZO (x:=⟨2,n,⟨⟨nm,lv,fr,needs,cd,p,f,g⟩,na,nc⟩⟩) H20)
              go_roundw
              case rel=>exact ⟨j+1,v2,by omega,by omega,rfl,rfl,by rw [e1.out];exact H21.re⟩
              case measure=>simp [intOf];omega
          · have e1:fewK ops (j+1)=F++[(⟨2,n,⟨⟨nm,lv,fr,needs,cd,p,f,g⟩,na,nc⟩⟩:OpK)]:=by rw [hstep.out];simp [cutK,cutN,a1]
            have HB:Hd w0 _ ((wr.alloc (.cells #[.int .i64 2,.int .i64 n,.string nm,.int .i64 lv,.int .i64 fr,.slice na needs.length nc,.string cd,.int .i64 p,.int .i64 f,.int .i64 g] 69)).alloc (.cells #[.int .i64 2,.int .i64 n,.string nm,.int .i64 lv,.int .i64 fr,.slice na needs.length nc,.string cd,.int .i64 p,.int .i64 f,.int .i64 g] 69)):=H1.fol
            have hB:=Lib.hid HB
            replace e1:=Lib.hid e1
            clear HB H1
            go_wp2_with (at_builtin;refine qQb rfl _ _ 25 rfl 69 i0 _ 10 112 Tryz.underlying25 hi hz0 hz1 hz2 rfl _ _ _ rfl (show Hd w0 (Slc 69 10 v' F.length (flat F)::_) _ from hB.out.v v') ⟨wr.heap.size+1,0,none⟩ 1 1 [.int .i64 2,.int .i64 n,.string nm,.int .i64 lv,.int .i64 fr,.slice na needs.length nc,.string cd,.int .i64 p,.int .i64 f,.int .i64 g] rfl rfl (qQA (hB.out.k (wr.heap.size+1))) (by simp [Value.oneCell']) (by have:=hF.out;unfold maxLen;omega) (by have:=hF.out;omega) ?_;intro v2 w5 H20;have H21:=qZO (x:=⟨2,n,⟨⟨nm,lv,fr,needs,cd,p,f,g⟩,na,nc⟩⟩) H20)
            go_roundw
            case rel=>exact ⟨j+1,v2,by omega,by omega,rfl,rfl,by rw [e1.out];exact H21.re⟩
            case measure=>simp [intOf];omega
        by_cases k4:kd=4
        · subst k4
          by_cases a1:60<n
          · by_cases a2:n≤4096
            · have e1:fewK ops (j+1)=F++[(⟨4,60,⟨⟨nm,lv,fr,needs,cd,p,f,g⟩,na,nc⟩⟩:OpK)]:=by rw [hstep.out];simp [cutK,cutN,a1,a2]
              have HB:Hd w0 _ ((wr.alloc (.cells #[.int .i64 4,.int .i64 60,.string nm,.int .i64 lv,.int .i64 fr,.slice na needs.length nc,.string cd,.int .i64 p,.int .i64 f,.int .i64 g] 69)).alloc (.cells #[.int .i64 4,.int .i64 60,.string nm,.int .i64 lv,.int .i64 fr,.slice na needs.length nc,.string cd,.int .i64 p,.int .i64 f,.int .i64 g] 69)):=H1.fol
              have hB:=Lib.hid HB
              replace e1:=Lib.hid e1
              clear HB H1
              go_wp2_with (at_builtin;refine qQb rfl _ _ 25 rfl 69 i0 _ 10 112 Tryz.underlying25 hi hz0 hz1 hz2 rfl _ _ _ rfl (show Hd w0 (Slc 69 10 v' F.length (flat F)::_) _ from hB.out.v v') ⟨wr.heap.size+1,0,none⟩ 1 1 [.int .i64 4,.int .i64 60,.string nm,.int .i64 lv,.int .i64 fr,.slice na needs.length nc,.string cd,.int .i64 p,.int .i64 f,.int .i64 g] rfl rfl (qQA (hB.out.k (wr.heap.size+1))) (by simp [Value.oneCell']) (by have:=hF.out;unfold maxLen;omega) (by have:=hF.out;omega) ?_;intro v2 w5 H20;have H21:=qZO (x:=⟨4,60,⟨⟨nm,lv,fr,needs,cd,p,f,g⟩,na,nc⟩⟩) H20)
              go_roundw
              case rel=>exact ⟨j+1,v2,by omega,by omega,rfl,rfl,by rw [e1.out];exact H21.re⟩
              case measure=>simp [intOf];omega
            · have e1:fewK ops (j+1)=F++[(⟨4,n,⟨⟨nm,lv,fr,needs,cd,p,f,g⟩,na,nc⟩⟩:OpK)]:=by rw [hstep.out];simp [cutK,cutN,a2]
              have HB:Hd w0 _ ((wr.alloc (.cells #[.int .i64 4,.int .i64 n,.string nm,.int .i64 lv,.int .i64 fr,.slice na needs.length nc,.string cd,.int .i64 p,.int .i64 f,.int .i64 g] 69)).alloc (.cells #[.int .i64 4,.int .i64 n,.string nm,.int .i64 lv,.int .i64 fr,.slice na needs.length nc,.string cd,.int .i64 p,.int .i64 f,.int .i64 g] 69)):=H1.fol
              have hB:=Lib.hid HB
              replace e1:=Lib.hid e1
              clear HB H1
              go_wp2_with (at_builtin;refine qQb rfl _ _ 25 rfl 69 i0 _ 10 112 Tryz.underlying25 hi hz0 hz1 hz2 rfl _ _ _ rfl (show Hd w0 (Slc 69 10 v' F.length (flat F)::_) _ from hB.out.v v') ⟨wr.heap.size+1,0,none⟩ 1 1 [.int .i64 4,.int .i64 n,.string nm,.int .i64 lv,.int .i64 fr,.slice na needs.length nc,.string cd,.int .i64 p,.int .i64 f,.int .i64 g] rfl rfl (qQA (hB.out.k (wr.heap.size+1))) (by simp [Value.oneCell']) (by have:=hF.out;unfold maxLen;omega) (by have:=hF.out;omega) ?_;intro v2 w5 H20;have H21:=qZO (x:=⟨4,n,⟨⟨nm,lv,fr,needs,cd,p,f,g⟩,na,nc⟩⟩) H20)
              go_roundw
              case rel=>exact ⟨j+1,v2,by omega,by omega,rfl,rfl,by rw [e1.out];exact H21.re⟩
              case measure=>simp [intOf];omega
          · have e1:fewK ops (j+1)=F++[(⟨4,n,⟨⟨nm,lv,fr,needs,cd,p,f,g⟩,na,nc⟩⟩:OpK)]:=by rw [hstep.out];simp [cutK,cutN,a1]
            have HB:Hd w0 _ ((wr.alloc (.cells #[.int .i64 4,.int .i64 n,.string nm,.int .i64 lv,.int .i64 fr,.slice na needs.length nc,.string cd,.int .i64 p,.int .i64 f,.int .i64 g] 69)).alloc (.cells #[.int .i64 4,.int .i64 n,.string nm,.int .i64 lv,.int .i64 fr,.slice na needs.length nc,.string cd,.int .i64 p,.int .i64 f,.int .i64 g] 69)):=H1.fol
            have hB:=Lib.hid HB
            replace e1:=Lib.hid e1
            clear HB H1
            go_wp2_with (at_builtin;refine qQb rfl _ _ 25 rfl 69 i0 _ 10 112 Tryz.underlying25 hi hz0 hz1 hz2 rfl _ _ _ rfl (show Hd w0 (Slc 69 10 v' F.length (flat F)::_) _ from hB.out.v v') ⟨wr.heap.size+1,0,none⟩ 1 1 [.int .i64 4,.int .i64 n,.string nm,.int .i64 lv,.int .i64 fr,.slice na needs.length nc,.string cd,.int .i64 p,.int .i64 f,.int .i64 g] rfl rfl (qQA (hB.out.k (wr.heap.size+1))) (by simp [Value.oneCell']) (by have:=hF.out;unfold maxLen;omega) (by have:=hF.out;omega) ?_;intro v2 w5 H20;have H21:=qZO (x:=⟨4,n,⟨⟨nm,lv,fr,needs,cd,p,f,g⟩,na,nc⟩⟩) H20)
            go_roundw
            case rel=>exact ⟨j+1,v2,by omega,by omega,rfl,rfl,by rw [e1.out];exact H21.re⟩
            case measure=>simp [intOf];omega
        have e1:fewK ops (j+1)=F++[(⟨kd,n,⟨⟨nm,lv,fr,needs,cd,p,f,g⟩,na,nc⟩⟩:OpK)]:=by rw [hstep.out];simp [cutK,cutN,k2,k4]
        have HB:Hd w0 _ ((wr.alloc (.cells #[.int .i64 kd,.int .i64 n,.string nm,.int .i64 lv,.int .i64 fr,.slice na needs.length nc,.string cd,.int .i64 p,.int .i64 f,.int .i64 g] 69)).alloc (.cells #[.int .i64 kd,.int .i64 n,.string nm,.int .i64 lv,.int .i64 fr,.slice na needs.length nc,.string cd,.int .i64 p,.int .i64 f,.int .i64 g] 69)):=H1.fol
        have hB:=Lib.hid HB
        replace e1:=Lib.hid e1
        clear HB H1
        go_wp2_with (at_builtin;refine qQb rfl _ _ 25 rfl 69 i0 _ 10 112 Tryz.underlying25 hi hz0 hz1 hz2 rfl _ _ _ rfl (show Hd w0 (Slc 69 10 v' F.length (flat F)::_) _ from hB.out.v v') ⟨wr.heap.size+1,0,none⟩ 1 1 [.int .i64 kd,.int .i64 n,.string nm,.int .i64 lv,.int .i64 fr,.slice na needs.length nc,.string cd,.int .i64 p,.int .i64 f,.int .i64 g] rfl rfl (qQA (hB.out.k (wr.heap.size+1))) (by simp [Value.oneCell']) (by have:=hF.out;unfold maxLen;omega) (by have:=hF.out;omega) ?_;intro v2 w5 H20;have H21:=qZO (x:=⟨kd,n,⟨⟨nm,lv,fr,needs,cd,p,f,g⟩,na,nc⟩⟩) H20)
        go_roundw
        case rel=>exact ⟨j+1,v2,by omega,by omega,rfl,rfl,by rw [e1.out];exact H21.re⟩
        case measure=>simp [intOf];omega
      · obtain rfl:j=most:=by omega
        have n1:(j:Int)<N:=by omega
        go_wp2_with fail
        go_ret
        exact ⟨_,rfl,H1⟩
    · obtain rfl:j=N:=by omega
      have e1:fewK ops j=fewK ops most:=by
        unfold fewK
        rw [List.take_of_length_le (by rw [hN.out];exact Nat.le_refl _),List.take_of_length_le (by rw [hN.out];exact hj2)]
      replace e1:=Lib.hid e1
      go_wp2_with fail
      go_ret
      exact ⟨_,rfl,by rw [← e1.out];exact H1⟩
end
end
section
open Go.RowKit Spl
attribute [local go_sem] Oper.semAt_some
section
variable {w0 w:World} {R:List Pr}
def qJt (u:List Int) (j:Nat):List Int:=(u.take j).map fun x=>qZE x 1 255
theorem qWK {u:List Int} {j:Nat} {x:Int} (h:u[j]? = some x):qJt u (j+1)=qJt u j++[qZE x 1 255]:=by
  unfold qJt
  rw [List.take_add_one,h,List.map_append]
  rfl
theorem zZm {v:Value} {L:List Int} {x:Int} (h:Hd w0 (Slc 3 1 v (L.length+1) (flat L++[.int .i64 x])::R) w):Hd w0 (SlE 3 v (L++[x])::R) w:=by
  have e1:(L++[x]).length=L.length+1:=by simp
  have e2:flat (L++[x])=flat L++[.int .i64 x]:=by rw [qQc,qQK];rfl
  unfold SlE
  rw [e1,e2]
  exact h
theorem qKl (u:List Int) {j:Nat} (h:u.length≤j∨16≤j) (h2:j≤16):qJt u j=qZe u:=by
  unfold qJt qZe
  congr 1
  by_cases h3:16≤j
  · have:j=16:=by omega
    rw [this]
  · rw [List.take_of_length_le (by omega),List.take_of_length_le (by omega)]
theorem qqk (H:Hd w0 R w) {W:Int} {u:List Int} {v:Value} (hs:Srg w0 R v u) :
    Calls Tryz.prog 61 #[.agg #[.int .i64 W,v,.slice none 0 0],.int .i64 0] w fun e w'=>∃v',e=.returned (.agg #[.int .i64 (qQN W),v',.slice none 0 0])∧Hd w0 (SlE 3 v' (qZe u)::R) w':=by
  obtain ⟨a,c,hv⟩:=hs.form
  subst hv
  obtain ⟨N,hN⟩:∃N,u.length=N:=⟨_,rfl⟩
  rw [hN]
  rw [hN] at hs
  obtain ⟨i0,hi,hz0,hz1,hz2⟩:=info_parts qJ9
  have HA:Hd w0 _ (w.alloc (.cells #[.int .i64 W,.slice a N c,.slice none 0 0] 127)):=H.fol
  have HB:Hd w0 _ ((w.alloc (.cells #[.int .i64 W,.slice a N c,.slice none 0 0] 127)).alloc (.cells #[.int .i64 0,.slice none 0 0,.slice none 0 0] 127)):=HA.fol
  have HC:Hd w0 _ (((w.alloc (.cells #[.int .i64 W,.slice a N c,.slice none 0 0] 127)).alloc (.cells #[.int .i64 0,.slice none 0 0,.slice none 0 0] 127)).alloc (.cells #[.int .i64 0,.slice none 0 0,.slice none 0 0] 127)):=HB.fol
  have HD:Hd w0 _ (((w.alloc (.cells #[.int .i64 W,.slice a N c,.slice none 0 0] 127)).alloc (.cells #[.int .i64 0,.slice none 0 0,.slice none 0 0] 127)).alloc (.cells #[.int .i64 (qQN W),.slice none 0 0,.slice none 0 0] 127)):=HB.fol
  have hcl:=fun (w:World)=>qYw (w:=w) W 0 65536
  have e0:qZE W 0 65536=qQN W:=rfl
  rw [e0] at hcl
  have hf0:=(HC.k w.heap.size).fact1
  have hf2:=(HC.k (w.heap.size+1+1)).fact1
  simp only [Nat.reduceAdd] at hf0 hf2
  go_split_ands
  replace hs:=Lib.hid hs
  replace hN:=Lib.hid hN
  clear H HA HB HC
  go_enter Tryz.func61,Tryz.ntmps61
  go_wp2_with fail
  refine (hcl _).mono ?_
  rintro e w1 ⟨rfl,rfl⟩
  clear hcl
  go_wp2_with fail
  go_loopw [6] (fun y wr=>∃(j:Nat) (v':Value),j≤N∧j≤16∧y=.int .i64 j∧Hd w0 (SlE 3 v' (qJt u j)::cel (w.heap.size+1+1) 127 #[.int .i64 (qQN W),v',.slice none 0 0]::cel (w.heap.size+1) 127 #[.int .i64 0,.slice none 0 0,.slice none 0 0]::cel w.heap.size 127 #[.int .i64 W,.slice a N c,.slice none 0 0]::R) wr) (fun y _=>16-(intOf y).toNat)
  case atStart =>
    have h0:Hd w0 (SlE 3 (.slice none 0 0) ([]:List Int)::_) _:=HD.slc_nil 3 1
    have h:Hd w0 (SlE 3 (.slice none 0 0) ([]:List Int)::cel (w.heap.size+1+1) 127 #[.int .i64 (qQN W),.slice none 0 0,.slice none 0 0]::cel (w.heap.size+1) 127 #[.int .i64 0,.slice none 0 0,.slice none 0 0]::cel w.heap.size 127 #[.int .i64 W,.slice a N c,.slice none 0 0]::R) _:=h0.re
    exact ⟨0,.slice none 0 0,Nat.zero_le _,Nat.zero_le _,rfl,h⟩
  case round =>
    obtain ⟨j,v',hj1,hj2,rfl,H1⟩:=hrel
    clear HD
    obtain ⟨b0,hb0⟩:∃b0,w.heap.size=b0:=⟨_,rfl⟩
    rw [hb0] at H1 ⊢
    replace hb0:=Lib.hid hb0
    by_cases hlt:j<N
    · by_cases h16:j<16
      · obtain ⟨x,hx⟩:∃x,u[j]? = some x:=⟨u[j]'(by rw [hN.out];exact hlt),List.getElem?_eq_getElem _⟩
        obtain ⟨g,o,c2,hve,-,hcell⟩:=hs.out.at hx
        injection hve with q1 q2 q3
        clear q2
        subst q1
        subst q3
        have f0:=hcell H1.drew.tail.tail.tail.tail 0 _ rfl
        simp only [Enc.size,Nat.add_zero,Nat.mul_one] at f0
        have hst:=Lib.hid (qWK hx)
        obtain ⟨L,hL⟩:∃L,qJt u j=L:=⟨_,rfl⟩
        have hLl:L.length≤16:=by rw [← hL];unfold qJt;rw [List.length_map,List.length_take];omega
        rw [hL] at H1 hst
        have hcl:=fun (w:World)=>qYw (w:=w) x 1 255
        obtain ⟨X,hX⟩:∃X,qZE x 1 255=X:=⟨_,rfl⟩
        rw [hX] at hcl hst
        have q2:=(show _=some v' from (H1.drew.k (b0+1+1)).ce 1 rfl)
        have q0:=(show _=some (Value.slice (some ⟨g,o,none⟩) N c) from (H1.drew.k b0).ce 1 rfl)
        have n1:(j:Int)<N:=by omega
        have n2:(j:Int)<16:=by omega
        have n3:¬(j:Int)<0:=by omega
        have n4:¬N≤j:=by omega
        have g6:IntKind.i64.wrap ((j:Int)+1)=(j:Int)+1:=IntWalk.i64_in _ (by omega)
        have HE:Hd w0 _ (wr.drew.alloc (.cells #[.int .i64 X] 3)):=H1.drew.fol
        have z2:=(show _=some v' from (HE.k (b0+1+1)).ce 1 rfl)
        have z0:=(show _=some (Value.slice (some ⟨g,o,none⟩) N c) from (HE.k b0).ce 1 rfl)
        have z1:=hcell (show Hd w0 R _ from HE.tail.tail.tail.tail.tail) 0 _ rfl
        simp only [Enc.size,Nat.add_zero,Nat.mul_one] at z1
        have hcell2:=Lib.hid (fun (w1:World) (h:Hd w0 R w1)=>hcell h 0 _ rfl)
        clear hcell hx hL hX
        have ff0:=(H1.k (b0+1+1)).ce 1 rfl
        have ff1:=(H1.k b0).ce 1 rfl
        go_wp2_with fail
        refine wm 10 [(0,true),(1,true),(2,true),(3,true),(4,true),(5,true),(6,true),(7,false),(8,false),(9,false)] (fun w'=>w'.cell? ⟨b0+1+1,1,none⟩=some v'∧w'.cell? ⟨b0,1,none⟩=some (.slice (some ⟨g,o,none⟩) N c)∧w'.cell? ⟨g,o+j,none⟩=some (.int .i64 x)) (⟨q2,q0,f0⟩) ?_
        simp only [List.drop_succ_cons,List.drop_zero]
        iterate 7 (refine mh ?_;(try simp only [Act.put,List.setIfInBounds_toArray,List.set_cons_zero,List.set_cons_succ]))
        refine mm ?_
        go_wp2_with fail
        refine (hcl _).mono ?_
        rintro e w3 ⟨rfl,rfl⟩
        clear hcl
        go_wp2_with fail
        refine qQd ⟨q2,q0,f0⟩ ?_
        refine mm ?_
        go_wp2_with fail
        refine qQd ⟨z2,z0,z1⟩ ?_
        refine mm ?_
        have hE:=Lib.hid HE
        go_wp2_with (at_builtin;refine qQb rfl _ _ 22 rfl 3 i0 _ 1 8 Tryz.underlying22 hi hz0 hz1 hz2 rfl _ _ _ rfl (show Hd w0 (Slc 3 1 v' L.length (flat L)::_) _ from hE.out.v v') ⟨wr.heap.size,0,none⟩ 1 1 [.int .i64 X] rfl rfl (qQA (hE.out.k wr.heap.size)) (by simp [Value.oneCell']) (by unfold maxLen;omega) (by omega) ?_;intro v2 w5 H20;have H21:=zZm (x:=X) H20)
        have x2:=(show _=some v' from (H21.k (b0+1+1)).ce 1 rfl)
        have x0:=(show _=some (Value.slice (some ⟨g,o,none⟩) N c) from (H21.k b0).ce 1 rfl)
        have x1:=hcell2.out w5 (show Hd w0 R _ from H21.tail.tail.tail.tail.tail)
        simp only [Enc.size,Nat.add_zero,Nat.mul_one] at x1
        refine qQd ⟨x2,x0,x1⟩ ?_
        refine qQe ?_
        (try dsimp only)
        obtain ⟨a2,c2',hv2,-,-,-,-⟩:=H21.slc_form
        obtain ⟨M,hM⟩:∃M,(L++[X]).length=M:=⟨_,rfl⟩
        rw [hM] at hv2
        subst hv2
        replace hM:=Lib.hid hM
        have hf5:=(H21.k (b0+1+1)).fact1
        simp only [Nat.reduceAdd] at hf5
        go_split_ands
        have H22:Hd w0 _ (w5.setCell ⟨b0+1+1,1,none⟩ (.slice a2 M c2')):=H21.fol
        rw [← hst.out] at H22
        clear H20 H21 x2 x0 x1 H1 q2 q0 z2 z0 z1 f0 HE
        go_wp2_with fail
        go_roundw
        case rel=>exact ⟨j+1,.slice a2 M c2',by omega,by omega,by simp,by have h:=hb0.out;subst h;exact H22.re⟩
        case measure=>simp [intOf];omega
      · obtain rfl:j=16:=by omega
        have n2:(16:Int)<N:=by omega
        rw [qKl u (.inr (Nat.le_refl _)) (Nat.le_refl _)] at H1
        obtain ⟨a2,c2,hv2,-,-,-,-⟩:=H1.slc_form
        obtain ⟨M,hM⟩:∃M,(qZe u).length=M:=⟨_,rfl⟩
        rw [hM] at hv2
        subst hv2
        replace hM:=Lib.hid hM
        have hs1:=(H1.k b0).fact1
        have hs2:=(H1.k (b0+1)).fact1
        have hs3:=(H1.k (b0+1+1)).fact1
        simp only [Nat.reduceAdd] at hs1 hs2 hs3
        go_split_ands
        go_wp2_with fail
        go_loopw [7] (fun y wq=>y=.int .i64 0∧wq=wr) (fun _ _=>0)
        case atStart=>exact ⟨rfl,rfl⟩
        case round =>
          obtain ⟨rfl,rfl⟩:=hrel
          go_wp2_with fail
          have H9:Hd w0 _ (wr.setCell ⟨b0+1,0,none⟩ (.int .i64 (qQN W))):=H1.fol
          have H10:Hd w0 _ ((wr.setCell ⟨b0+1,0,none⟩ (.int .i64 (qQN W))).setCell ⟨b0+1,1,none⟩ (.slice a2 M c2)):=H9.fol
          have H11:Hd w0 _ (((wr.setCell ⟨b0+1,0,none⟩ (.int .i64 (qQN W))).setCell ⟨b0+1,1,none⟩ (.slice a2 M c2)).setCell ⟨b0+1,2,none⟩ (.slice none 0 0)):=H10.fol
          refine bodyPost_ret (qQC rfl _ _ (b0+1) 127 #[.int .i64 (qQN W),.slice a2 M c2,.slice none 0 0] (0,0) _ (by rfl) (by exact (H11.k (b0+1)).heap) Tryz.underlying127 rfl (by kernel_rfl)) rfl ⟨_,rfl,?_⟩
          exact H11.re
    · obtain rfl:j=N:=by omega
      rw [qKl u (.inl (by rw [hN.out];exact Nat.le_refl _)) hj2] at H1
      obtain ⟨a2,c2,hv2,-,-,-,-⟩:=H1.slc_form
      obtain ⟨M,hM⟩:∃M,(qZe u).length=M:=⟨_,rfl⟩
      rw [hM] at hv2
      subst hv2
      replace hM:=Lib.hid hM
      have hs1:=(H1.k b0).fact1
      have hs2:=(H1.k (b0+1)).fact1
      have hs3:=(H1.k (b0+1+1)).fact1
      simp only [Nat.reduceAdd] at hs1 hs2 hs3
      go_split_ands
      go_wp2_with fail
      go_loopw [7] (fun y wq=>y=.int .i64 0∧wq=wr) (fun _ _=>0)
      case atStart=>exact ⟨rfl,rfl⟩
      case round =>
        obtain ⟨rfl,rfl⟩:=hrel
        go_wp2_with fail
        have H9:Hd w0 _ (wr.setCell ⟨b0+1,0,none⟩ (.int .i64 (qQN W))):=H1.fol
        have H10:Hd w0 _ ((wr.setCell ⟨b0+1,0,none⟩ (.int .i64 (qQN W))).setCell ⟨b0+1,1,none⟩ (.slice a2 M c2)):=H9.fol
        have H11:Hd w0 _ (((wr.setCell ⟨b0+1,0,none⟩ (.int .i64 (qQN W))).setCell ⟨b0+1,1,none⟩ (.slice a2 M c2)).setCell ⟨b0+1,2,none⟩ (.slice none 0 0)):=H10.fol
        refine bodyPost_ret (qQC rfl _ _ (b0+1) 127 #[.int .i64 (qQN W),.slice a2 M c2,.slice none 0 0] (0,0) _ (by rfl) (by exact (H11.k (b0+1)).heap) Tryz.underlying127 rfl (by kernel_rfl)) rfl ⟨_,rfl,?_⟩
        exact H11.re
end
end
section
open Go.RowKit Spl
attribute [local go_sem] Oper.semAt_some
section
variable {w0 w:World} {R:List Pr}
theorem qKJ {words:Int} {u:List Int} (h:qJA words u=0):qYF u=0:=by
  unfold qJA at h
  unfold qYF
  split at h
  · cases h
  · exact h
theorem qqS (H:Hd w0 R w) {words:Int} {u:List Int} {v:Value} (hs:Srg w0 R v u) :
    Calls Tryz.prog 29 #[.agg #[.int .i64 words,v]] w fun e w'=>∃v',e=.returned (.agg #[.int .i64 (qQN words),v'])∧Hd w0 (SlE 3 v' (qZe u)::R) w':=by
  obtain ⟨a,c,hv⟩:=hs.form
  subst hv
  obtain ⟨N,hN⟩:∃N,u.length=N:=⟨_,rfl⟩
  rw [hN]
  rw [hN] at hs
  have HA:Hd w0 _ (w.alloc (.cells #[.int .i64 words,.slice a N c] 24)):=H.fol
  have HB:Hd w0 _ ((w.alloc (.cells #[.int .i64 words,.slice a N c] 24)).alloc (.cells #[.int .i64 0,.slice none 0 0] 24)):=HA.fol
  have hc:=qqk (W:=words) HB (hs.of fun h=>h.tail.tail)
  have hf0:=(HB.k w.heap.size).fact1
  simp only [Nat.reduceAdd] at hf0
  go_split_ands
  clear H HA
  obtain ⟨BW,hBW⟩:∃BW,qQN words=BW:=⟨_,rfl⟩
  rw [hBW] at hc ⊢
  replace hs:=Lib.hid hs
  replace hN:=Lib.hid hN
  replace hBW:=Lib.hid hBW
  go_enter Tryz.func29,Tryz.ntmps29
  go_wp2_with fail
  refine hc.mono ?_
  rintro e w1 ⟨v',rfl,H1⟩
  clear hc HB
  obtain ⟨a',c',rfl,-,-,-,-⟩:=H1.slc_form
  obtain ⟨L,hL⟩:∃L,(qZe u).length=L:=⟨_,rfl⟩
  rw [hL] at H1 ⊢
  replace hL:=Lib.hid hL
  have H2:Hd w0 _ (w1.alloc (.cells #[.int .i64 BW,.slice a' L c',.slice none 0 0] 127)):=H1.fol
  have hf1:=(H2.k (w.heap.size+1)).fact1
  have hf2:=(H2.k w1.heap.size).fact1
  simp only [Nat.reduceAdd] at hf1 hf2
  go_split_ands
  go_wp2_with fail
  have H9:Hd w0 _ ((w1.alloc (.cells #[.int .i64 BW,.slice a' L c',.slice none 0 0] 127)).setCell ⟨w.heap.size+1,0,none⟩ (.int .i64 BW)):=H2.fol
  have H10:Hd w0 _ (((w1.alloc (.cells #[.int .i64 BW,.slice a' L c',.slice none 0 0] 127)).setCell ⟨w.heap.size+1,0,none⟩ (.int .i64 BW)).setCell ⟨w.heap.size+1,1,none⟩ (.slice a' L c')):=H9.fol
  refine bodyPost_ret (qQC rfl _ _ (w.heap.size+1) 24 #[.int .i64 BW,.slice a' L c'] (0,0) _ (by rfl) (by exact (H10.k (w.heap.size+1)).heap) Tryz.underlying24 rfl (by kernel_rfl)) rfl ⟨_,rfl,?_⟩
  exact H10.re
theorem zQA [Lay w0 R] {v:Value} {F:List OpK} (H:Hd w0 (SlE 69 v F::R) w) {words:Int} {u:List Int} {vu:Value} (hu:Srg w0 R vu u) (hF:∀x∈F,Srg w0 R x.t.nv x.t.x.needs∧x.t.x.needs.length≤20) (hn:F.length≤1000) :
    Calls Tryz.prog 6 #[.agg #[.int .i64 words,vu],v] w fun e w'=>∃z S,e=.returned (.pointer (some ⟨KeV.k z,0,none⟩))∧Hd w0 (KeL z S (qYD (KeM.new (qQN words) (qZe u)) F) R) w':=by
  obtain ⟨a,c,hv⟩:=hu.form
  subst hv
  have HA:Hd w0 _ (w.alloc (.cells #[.int .i64 words,.slice a u.length c] 24)):=H.fol
  have hb:=qqS (words:=words) HA (hu.of fun h=>h.tail.tail)
  have hf0:=(HA.k w.heap.size).fact1
  simp only [Nat.reduceAdd] at hf0
  go_split_ands
  have hnew:=qXr words u
  have hI:=KeI.new hnew (qKJ hnew)
  have hE:=Ext.new (qQN words) (qZe u)
  obtain ⟨BW,hBW⟩:∃BW,qQN words=BW:=⟨_,rfl⟩
  obtain ⟨BU,hBU⟩:∃BU,qZe u=BU:=⟨_,rfl⟩
  rw [hBW,hBU] at hnew hI hE hb ⊢
  obtain ⟨m0,hm0⟩:∃m0,KeM.new BW BU=m0:=⟨_,rfl⟩
  rw [hm0] at hI hE ⊢
  replace hI:=Lib.hid hI
  replace hE:=Lib.hid hE
  replace hnew:=Lib.hid hnew
  replace hm0:=Lib.hid hm0
  replace hF:=Lib.hid hF
  replace hu:=Lib.hid hu
  clear H hBW hBU
  go_enter Tryz.func6,Tryz.ntmps6
  go_wp2_with fail
  refine hb.mono ?_
  rintro e w1 ⟨v2,rfl,H1⟩
  clear hb HA
  have hk:=zXI (S:=fun _=>none) (R:=SlE 3 v2 BU::SlE 69 v F::R) (Hd.ro_nil (show Hd w0 (SlE 3 v2 BU::SlE 69 v F::R) w1 from H1.re)) (words:=BW) (units:=BU) ((Srg.slE (show Hd w0 (SlE 3 v2 BU::SlE 69 v F::R) w1 from H1.re)).of fun h=>h.tail) hnew.out
  rw [hm0.out] at hk
  go_wp2_with fail
  refine hk.mono ?_
  rintro e w2 ⟨z,rfl,H2⟩
  clear hk H1
  have H3:Hd w0 (KeL z (fun _=>none) m0 (SlE 69 v F::R)) w2:=H2.re
  clear H2
  obtain ⟨N,hN⟩:∃N,F.length=N:=⟨_,rfl⟩
  rw [hN] at hn
  replace hN:=Lib.hid hN
  obtain ⟨va,vc,hv,-,-,-,-⟩:=(show Hd w0 (SlE 69 v F::R) w2 from H3.re).slc_form
  rw [hN.out] at hv
  subst hv
  go_wp2_with fail
  go_loopw [7] (fun y wr=>∃(j:Nat) (S:Hp),j≤N∧y=.int .i64 j∧Hd w0 (KeL z S (qYD m0 (F.take j)) (SlE 69 (.slice va N vc) F::R)) wr) (fun y _=>N-(intOf y).toNat)
  case atStart=>exact ⟨0,_,Nat.zero_le _,rfl,H3⟩
  case round =>
    obtain ⟨j,S,hj,rfl,H4⟩:=hrel
    clear H3
    by_cases hlt:j<N
    · obtain ⟨x,hx⟩:∃x,F[j]? = some x:=⟨F[j]'(by rw [hN.out];exact hlt),List.getElem?_eq_getElem _⟩
      obtain ⟨hi,he⟩:=qXS (l:=F.take j) hI.out hE.out (by rw [List.length_take];omega)
      obtain ⟨hs1,hs2⟩:=hF.out x (List.mem_of_getElem? hx)
      have hact:=zKz H4 hi (by rw [List.length_take];omega) x (hs1.of fun h=>h.tail) (by omega)
      have e1:qYD m0 (F.take (j+1))=actK (qYD m0 (F.take j)) x:=by
        unfold qYD
        rw [List.take_add_one,hx,List.foldl_append]
        rfl
      rw [← e1] at hact
      obtain ⟨g,cp,hve,H5⟩:=(show Hd w0 (SlE 69 (.slice va N vc) F::R) _ from H4.re).slc_at (by rw [hN.out];omega)
      rw [hN.out] at hve
      injection hve with q1 q2 q3
      clear q2
      subst q1
      subst q3
      have cc:∀(i:Nat) (u:Value),x.cells[i]? = some u→wr.cell? ⟨g,j*10+i,none⟩=some u:=fun i u hu=>H5.slcC_rd (qQi hx hu)
      obtain ⟨kd,n,⟨⟨nm,lv,fr,needs,cd,p,f,gg⟩,na,nc⟩⟩:=x
      have d0:=cc 0 _ rfl
      have d1:=cc 1 _ rfl
      have d2:=cc 2 _ rfl
      have d3:=cc 3 _ rfl
      have d4:=cc 4 _ rfl
      have d5:=cc 5 _ rfl
      have d6:=cc 6 _ rfl
      have d7:=cc 7 _ rfl
      have d8:=cc 8 _ rfl
      have d9:=cc 9 _ rfl
      rw [Nat.add_zero] at d0
      dsimp only [qXh.nv] at d5
      have n1:(j:Int)<N:=by omega
      have n2:¬(j:Int)<0:=by omega
      have n3:¬N≤j:=by omega
      have g6:IntKind.i64.wrap ((j:Int)+1)=(j:Int)+1:=IntWalk.i64_in _ (by omega)
      clear H4 H5 hx hi he hs1 hs2 e1 cc
      go_wp2_with fail
      refine hact.mono ?_
      rintro e w3 ⟨rfl,S',hle,H6⟩
      clear hact
      go_wp2_with fail
      go_roundw
      case rel=>exact ⟨j+1,S',by omega,by simp,H6⟩
      case measure=>simp [intOf];omega
    · obtain rfl:j=N:=by omega
      have e1:F.take j=F:=List.take_of_length_le (by rw [hN.out];exact Nat.le_refl _)
      rw [e1] at H4
      go_wp2_with fail
      go_ret
      exact ⟨z,S,rfl,H4.re⟩
end
end
section
open Go.RowKit Spl
attribute [local go_sem] Oper.semAt_some
section
variable {w0 w:World} {R:List Pr} {S:Hp} {m:TkM} {t:Nat}
theorem zXW (H:Hd w0 (TkP t m S::ro S::R) w) (hm:m.Ok) (hnm:m.names=qQF m.rows m.rows.length) (hnd:∀(i:Nat) (r:RowM),m.rows[i]? = some r→qQs (qQF m.rows i) r.t.nm=none) :
    Calls Tryz.prog 31 #[.pointer (some ⟨t,0,none⟩)] w fun e w'=>∃t2,e=.returned (.pointer (some ⟨t2,0,none⟩))∧Hd w0 (TkP t2 m S::TkP t m S::ro S::R) w':=by
  obtain ⟨⟨vu,vr,vn,rows⟩,hx,H1⟩:=TkP.opened H
  dsimp only at hx H1
  obtain ⟨N,hN⟩:∃N,m.rows.length=N:=⟨_,rfl⟩
  have hN64:N≤64:=by have:=hm.n;omega
  have hnew:=zXR (S:=S) (R:=SlE 3 vu m.units::cel t 77 #[.int .i64 m.words,vu,vr,vn]::SlE 80 vr rows::SlE 203 vn m.names::ro S::R) (H1.drew.re) (Srg.slE (show Hd w0 (SlE 3 vu m.units::cel t 77 #[.int .i64 m.words,vu,vr,vn]::SlE 80 vr rows::SlE 203 vn m.names::ro S::R) w from H1.re)) (zZG hm)
  have k0:=(show _=some (Value.int .i64 m.words) from (H1.k t).ce 0 rfl)
  have k1:=(show _=some vu from (H1.k t).ce 1 rfl)
  replace hx:=Lib.hid hx
  replace hm:=Lib.hid hm
  replace hnm:=Lib.hid hnm
  replace hnd:=Lib.hid hnd
  rw [hN] at hnm
  replace hN:=Lib.hid hN
  clear H
  go_enter Tryz.func31,Tryz.ntmps31
  go_wp2_with fail
  refine wm0 [(0,true),(1,true),(2,true),(3,true),(4,true),(5,true),(6,true),(7,true),(8,false),(9,true),(10,true),(11,true),(12,true),(13,true)] (fun w'=>w'.cell? ⟨t,0,none⟩=some (.int .i64 m.words)∧w'.cell? ⟨t,1,none⟩=some vu) (⟨k0,k1⟩) ?_
  iterate 8 (refine mh ?_;(try simp only [Act.put,List.setIfInBounds_toArray,List.set_cons_zero,List.set_cons_succ]))
  refine mm ?_
  go_wp2_with fail
  refine hnew.mono ?_
  rintro e w1 ⟨t2,rfl,H2⟩
  clear hnew
  have k0':=(show _=some (Value.int .i64 m.words) from (H2.k t).ce 0 rfl)
  have k1':=(show _=some vu from (H2.k t).ce 1 rfl)
  go_wp2_with fail
  refine qQd ⟨k0',k1'⟩ ?_
  iterate 5 (refine mh ?_;(try simp only [Act.put,List.setIfInBounds_toArray,List.set_cons_zero,List.set_cons_succ]))
  refine qQe ?_
  (try dsimp only)
  clear k0 k1 k0' k1' H1
  have hlen:=qqu (TkP.shut (S:=S) (m:=m) (x:=⟨vu,vr,vn,rows⟩) (show Hd w0 (cel t 77 #[.int .i64 m.words,vu,vr,vn]::SlE 3 vu m.units::SlE 80 vr rows::SlE 203 vn m.names::TkP t2 ⟨m.words,m.units,[],[]⟩ S::ro S::R) w1 from H2.re) hx.out)
  rw [hN.out] at hlen
  go_wp2_with fail
  refine hlen.mono ?_
  rintro e w2 ⟨rfl,rfl⟩
  clear hlen
  go_wp2_with fail
  go_loopw [22] (fun y wr=>∃k:Nat,k≤N∧y=.int .i64 k∧Hd w0 (TkP t2 ⟨m.words,m.units,m.rows.take k,qQF m.rows k⟩ S::cel t 77 #[.int .i64 m.words,vu,vr,vn]::SlE 3 vu m.units::SlE 80 vr rows::SlE 203 vn m.names::ro S::R) wr) (fun y _=>N-(intOf y).toNat)
  case atStart =>
    have h:Hd w0 (TkP t2 ⟨m.words,m.units,[],[]⟩ S::cel t 77 #[.int .i64 m.words,vu,vr,vn]::SlE 3 vu m.units::SlE 80 vr rows::SlE 203 vn m.names::ro S::R) _:=H2.re
    exact ⟨0,Nat.zero_le _,rfl,h⟩
  case round =>
    obtain ⟨k,hk,rfl,H3⟩:=hrel
    clear H2
    by_cases hlt:k<N
    · obtain ⟨r,hr⟩:∃r,m.rows[k]? = some r:=⟨m.rows[k]'(by rw [hN.out];exact hlt),List.getElem?_eq_getElem _⟩
      obtain ⟨RV,hRV,hri⟩:=hx.out.get hr
      have hat:=qJ4 (o:=2) ((H3.v vr).k t) rfl (by rw [hx.out.len,hN.out];omega) k RV hRV
      obtain ⟨hso,hsl⟩:=qY7 hnd.out k (by rw [hN.out];omega)
      have hno:=hnd.out k r hr
      have hsu:=qVJ hr
      have htk:m.rows.take (k+1)=m.rows.take k++[r]:=by rw [List.take_add_one,hr];rfl
      have hkl:(m.rows.take k).length=k:=by rw [List.length_take,hN.out];omega
      have hnmr:RV.nm=r.t.nm:=hri.nm
      replace hsu:=Lib.hid hsu
      replace htk:=Lib.hid htk
      replace hkl:=Lib.hid hkl
      replace hso:=Lib.hid hso
      replace hsl:=Lib.hid hsl
      replace hno:=Lib.hid hno
      replace hri:Hid (qUt S r RV):=Lib.hid hri
      replace hRV:=Lib.hid hRV
      replace hr:=Lib.hid hr
      replace hnmr:=Lib.hid hnmr
      have n1:(k:Int)<N:=by omega
      have g6:IntKind.i64.wrap ((k:Int)+1)=(k:Int)+1:=IntWalk.i64_in _ (by omega)
      go_wp2_with fail
      refine hat.mono ?_
      rintro e w3 ⟨rfl,H4⟩
      clear hat
      obtain ⟨nm,lv,fr,na,nl,nc,cd,p,f,g,sa,sl,sc⟩:=RV
      have H5:Hd w0 _ (w3.alloc (.cells #[.string nm,.int .i64 lv,.int .i64 fr,.slice na nl nc,.string cd,.int .i64 p,.int .i64 f,.int .i64 g,.slice sa sl sc] 80)):=H4.fol
      obtain ⟨⟨vu2,vr2,vn2,rows2⟩,hx2,H6⟩:=TkP.opened (show Hd w0 (TkP t2 ⟨m.words,m.units,m.rows.take k,qQF m.rows k⟩ S::cel w3.heap.size 80 #[.string nm,.int .i64 lv,.int .i64 fr,.slice na nl nc,.string cd,.int .i64 p,.int .i64 f,.int .i64 g,.slice sa sl sc]::cel t 77 #[.int .i64 m.words,vu,vr,vn]::SlE 3 vu m.units::SlE 80 vr rows::SlE 203 vn m.names::ro S::R) _ from H5.re)
      dsimp only at hx2 H6
      have hl2:rows2.length=k:=hx2.len.trans hkl.out
      have hpush:=qYt (o:=2) (C:=#[.int .i64 m.words,vu2,vr2,vn2]) ((H6.drew.v vr2).k t2) rfl (by rw [hl2];omega) ⟨nm,lv,fr,na,nl,nc,cd,p,f,g,sa,sl,sc⟩
      have hf:=(H6.k w3.heap.size).fact1
      simp only [Nat.reduceAdd] at hf
      go_split_ands
      replace hx2:=Lib.hid hx2
      replace hl2:=Lib.hid hl2
      have y0:=(show _=some (Value.string nm) from (H6.k w3.heap.size).ce 0 rfl)
      have y1:=(show _=some (Value.int .i64 lv) from (H6.k w3.heap.size).ce 1 rfl)
      have y2:=(show _=some (Value.int .i64 fr) from (H6.k w3.heap.size).ce 2 rfl)
      have y3:=(show _=some (Value.slice na nl nc) from (H6.k w3.heap.size).ce 3 rfl)
      have y4:=(show _=some (Value.string cd) from (H6.k w3.heap.size).ce 4 rfl)
      have y5:=(show _=some (Value.int .i64 p) from (H6.k w3.heap.size).ce 5 rfl)
      have y6:=(show _=some (Value.int .i64 f) from (H6.k w3.heap.size).ce 6 rfl)
      have y7:=(show _=some (Value.int .i64 g) from (H6.k w3.heap.size).ce 7 rfl)
      have y8:=(show _=some (Value.slice sa sl sc) from (H6.k w3.heap.size).ce 8 rfl)
      go_wp2_with fail
      refine wm0 [(0,true),(1,true),(2,true),(3,true),(4,false)] (fun w'=>w'.cell? ⟨w3.heap.size,0,none⟩=some (.string nm)∧w'.cell? ⟨w3.heap.size,1,none⟩=some (.int .i64 lv)∧w'.cell? ⟨w3.heap.size,2,none⟩=some (.int .i64 fr)∧w'.cell? ⟨w3.heap.size,3,none⟩=some (.slice na nl nc)∧w'.cell? ⟨w3.heap.size,4,none⟩=some (.string cd)∧w'.cell? ⟨w3.heap.size,5,none⟩=some (.int .i64 p)∧w'.cell? ⟨w3.heap.size,6,none⟩=some (.int .i64 f)∧w'.cell? ⟨w3.heap.size,7,none⟩=some (.int .i64 g)∧w'.cell? ⟨w3.heap.size,8,none⟩=some (.slice sa sl sc)) (⟨y0,y1,y2,y3,y4,y5,y6,y7,y8⟩) ?_
      iterate 4 (refine mh ?_;(try simp only [Act.put,List.setIfInBounds_toArray,List.set_cons_zero,List.set_cons_succ]))
      refine mm ?_
      go_wp2_with fail
      refine hpush.mono ?_
      rintro e w4 ⟨rfl,vr3,H7⟩
      clear hpush H6 H5 H4 y0 y1 y2 y3 y4 y5 y6 y7 y8
      obtain ⟨RV,hRVe⟩:∃RV:RowV,RV=⟨nm,lv,fr,na,nl,nc,cd,p,f,g,sa,sl,sc⟩:=⟨_,rfl⟩
      rw [← hRVe] at H7 hri
      replace H7:Hd w0 (cel t2 77 #[.int .i64 m.words,vu2,vr3,vn2]::SlE 80 vr3 (rows2++[RV])::SlE 3 vu2 m.units::SlE 203 vn2 (qQF m.rows k)::cel w3.heap.size 80 #[.string nm,.int .i64 lv,.int .i64 fr,.slice na nl nc,.string cd,.int .i64 p,.int .i64 f,.int .i64 g,.slice sa sl sc]::cel t 77 #[.int .i64 m.words,vu,vr,vn]::SlE 3 vu m.units::SlE 80 vr rows::SlE 203 vn m.names::ro S::R) w4:=by
        have h:Hd w0 (cel t2 77 #[.int .i64 m.words,vu2,vr3,vn2]::_) w4:=H7
        exact h.re
      replace hRVe:=Lib.hid hRVe
      have y0:=(show _=some (Value.string nm) from (H7.k w3.heap.size).ce 0 rfl)
      have y1:=(show _=some (Value.int .i64 lv) from (H7.k w3.heap.size).ce 1 rfl)
      have y2:=(show _=some (Value.int .i64 fr) from (H7.k w3.heap.size).ce 2 rfl)
      have y3:=(show _=some (Value.slice na nl nc) from (H7.k w3.heap.size).ce 3 rfl)
      have y4:=(show _=some (Value.string cd) from (H7.k w3.heap.size).ce 4 rfl)
      have y5:=(show _=some (Value.int .i64 p) from (H7.k w3.heap.size).ce 5 rfl)
      have y6:=(show _=some (Value.int .i64 f) from (H7.k w3.heap.size).ce 6 rfl)
      have y7:=(show _=some (Value.int .i64 g) from (H7.k w3.heap.size).ce 7 rfl)
      have y8:=(show _=some (Value.slice sa sl sc) from (H7.k w3.heap.size).ce 8 rfl)
      have hset:=qYa (o:=3) (x:=⟨nm,k⟩) (((H7.drew.v vn2).k t2):Hd w0 _ w4.drew) rfl hso.out (by rw [hsl.out];omega) (by have h:=hno.out;rw [← hnmr.out] at h;exact h)
      go_wp2_with fail
      refine qQd ⟨y0,y1,y2,y3,y4,y5,y6,y7,y8⟩ ?_
      refine qQe ?_
      (try dsimp only)
      clear y1 y2 y3 y4 y5 y6 y7 y8
      go_wp2_with fail
      refine wm0 [(0,true),(1,true),(2,true),(3,true),(4,true),(5,true),(6,true),(7,false)] (fun w'=>w'.cell? ⟨w3.heap.size,0,none⟩=some (.string nm)) (y0) ?_
      iterate 7 (refine mh ?_;(try simp only [Act.put,List.setIfInBounds_toArray,List.set_cons_zero,List.set_cons_succ]))
      refine mm ?_
      go_wp2_with fail
      refine hset.mono ?_
      rintro e w5 ⟨rfl,vn3,H8⟩
      clear hset H7 y0
      have y0:=(show _=some (Value.string nm) from (H8.k w3.heap.size).ce 0 rfl)
      go_wp2_with fail
      refine qQd y0 ?_
      refine qQe ?_
      (try dsimp only)
      go_wp2_with fail
      have H9:Hd w0 (cel t2 77 #[.int .i64 m.words,vu2,vr3,vn3]::SlE 3 vu2 m.units::SlE 80 vr3 (rows2++[RV])::SlE 203 vn3 (qQF m.rows (k+1))::cel t 77 #[.int .i64 m.words,vu,vr,vn]::SlE 3 vu m.units::SlE 80 vr rows::SlE 203 vn m.names::ro S::R) w5:=by
        rw [hsu.out,← hnmr.out]
        have h:Hd w0 (cel t2 77 #[.int .i64 m.words,vu2,vr3,vn3]::_) w5:=H8
        exact h.re
      have H10:=TkP.shut (t:=t2) (S:=S) (m:=⟨m.words,m.units,m.rows.take (k+1),qQF m.rows (k+1)⟩) (x:=⟨vu2,vr3,vn3,rows2++[RV]⟩) H9 (by dsimp only;rw [htk.out];exact hx2.out.snoc hri.out)
      clear H8 H9 y0
      go_roundw
      case rel=>exact ⟨k+1,by omega,by simp,H10⟩
      case measure=>simp [intOf];omega
    · obtain rfl:k=N:=by omega
      have e1:m.rows.take k=m.rows:=List.take_of_length_le (by rw [hN.out];exact Nat.le_refl _)
      rw [e1,← hnm.out] at H3
      go_wp2_with fail
      go_ret
      exact ⟨t2,rfl,(TkP.shut (S:=S) (m:=m) (x:=⟨vu,vr,vn,rows⟩) (show Hd w0 (cel t 77 #[.int .i64 m.words,vu,vr,vn]::SlE 3 vu m.units::SlE 80 vr rows::SlE 203 vn m.names::TkP t2 m S::ro S::R) _ from H3.re) hx.out).b2⟩
theorem qWz {m:KeM} {z:KeV} {k:Nat} (H:Hd w0 (KeL z S m R) w) (h:KeI m k) (he:Ext m) :
    Calls Tryz.prog 8 #[.pointer (some ⟨z.k,0,none⟩)] w fun e w'=>∃t2,e=.returned (.pointer (some ⟨t2,0,none⟩))∧Hd w0 (KeL z S m (TkP t2 m.tk S::R)) w':=by
  obtain ⟨kk,cl,rg,⟨d,c,q,⟨l,t,a,u,ce⟩⟩⟩:=z
  have hc:=zXW (show Hd w0 (TkP t m.tk S::ro S::cel kk 53 #[.pointer (some ⟨l,0,none⟩),.pointer (some ⟨t,0,none⟩),.pointer (some ⟨d,0,none⟩),.pointer (some ⟨cl,0,none⟩),.pointer (some ⟨rg,0,none⟩)]::qQE cl m.ck::qQT rg m.ev::cel d 123 #[.pointer (some ⟨l,0,none⟩),.pointer (some ⟨t,0,none⟩),.pointer (some ⟨c,0,none⟩),.pointer (some ⟨q,0,none⟩),.int .i64 m.dp.count]::cel c 194 (qQj c l)::LkP ⟨l,t,a,u,ce⟩ S m.dp.co::WqP q m.dp.wq::R) w from H.re) h.t.t he.nm he.nd
  have k1:=(show _=some (Value.pointer (some ⟨t,0,none⟩)) from (H.k kk).ce 1 rfl)
  clear H
  go_enter Tryz.func8,Tryz.ntmps8
  go_wp2_with fail
  refine hc.mono ?_
  rintro e w1 ⟨t2,rfl,H1⟩
  clear hc
  go_wp2_with fail
  go_ret
  exact ⟨t2,rfl,H1.re⟩
end
end
end Go.Proofs.YtkchopnkdjnocaaGreatDoor
