/-
  Merged texts of one proof: St1.
-/
import Derived.Test.YtkchopnkdjnocaaGreatDoorG47
import Derived.Test.YtkchopnkdjnocaaGreatDoorG48
import Derived.Test.YtkchopnkdjnocaaGreatDoorG49
import Derived.Test.YtkchopnkdjnocaaGreatDoorG50
import Derived.Test.YtkchopnkdjnocaaGreatDoorG51

set_option maxHeartbeats 16000000
set_option maxRecDepth 20000
namespace Go.Proofs.YtkchopnkdjnocaaGreatDoor
section
open Go.RowKit Spl
attribute [local go_sem] Oper.semAt_some
section
variable {W:World}
theorem zJ1 [Lay W [qQm W]] (H:Hd W [qQm W] W) (words:Int) {u:List Int} {a:Option Addr} {c:Nat} (hu:NdR W (.slice a u.length c) u) {v:Value} {ops:List OpK} (hR:RdK W v ops) {nm:ByteArray} {lv fr:Int} {nds:List qZy} {cd:ByteArray} {p f gg:Int} {na:Option Addr} {nc:Nat} (hx:NdR W (.slice na nds.length nc) nds) :
    Calls Tryz.prog 4 #[.agg #[.int .i64 words,.slice a u.length c],v,.agg #[.string nm,.int .i64 lv,.int .i64 fr,.slice na nds.length nc,.string cd,.int .i64 p,.int .i64 f,.int .i64 gg]] W fun e w'=>e=.returned (.bool true)∧Hd W [qQm W] w':=by
  obtain ⟨ND,hND⟩:∃ND,nds.length=ND:=⟨_,rfl⟩
  rw [hND] at hx ⊢
  have HA:Hd W _ ((W.alloc (.cells #[.int .i64 words,.slice a u.length c] 24)).alloc (.cells #[.string nm,.int .i64 lv,.int .i64 fr,.slice na ND nc,.string cd,.int .i64 p,.int .i64 f,.int .i64 gg] 36)):=H.fol
  have hu2:Srg W [qQm W] (.slice a u.length c) u:=hu.srg fun h p x hx=>(inferInstance:Old W W [qQm W]).keep h p x hx
  have hfew:=zJg (W:=W) (HA.drew) hR (most:=120) (by decide)
  have k0:=(show _=some (Value.int .i64 words) from (HA.k W.heap.size).ce 0 rfl)
  have k1:=(show _=some (Value.slice a u.length c) from (HA.k W.heap.size).ce 1 rfl)
  have hsm:∀x∈fewK ops 120,Srg W [qQm W] x.t.nv x.t.x.needs∧x.t.x.needs.length≤20:=fun x hx=>by
    obtain ⟨y,hy,e,hl⟩:=qX8 hx
    refine ⟨?_,hl⟩
    rw [e]
    exact (hR.nd y hy).srg fun h p x hx=>(inferInstance:Old W W [qQm W]).keep h p x hx
  obtain ⟨F,hF⟩:∃F,fewK ops 120=F:=⟨_,rfl⟩
  have hFl:=qKM ops 120
  rw [hF] at hfew hsm hFl
  replace hsm:=Lib.hid hsm
  replace hu2:=Lib.hid hu2
  clear hF hu hR
  obtain ⟨N,hN⟩:∃N,u.length=N:=⟨_,rfl⟩
  rw [hN] at hu2 HA k0 k1 hfew ⊢
  replace hN:=Lib.hid hN
  go_enter Tryz.func4,Tryz.ntmps4
  go_wp2_with fail
  refine wm0 [(0,true),(1,true),(2,false),(3,false),(4,true)] (fun w'=>w'.cell? ⟨W.heap.size,0,none⟩=some (.int .i64 words)∧w'.cell? ⟨W.heap.size,1,none⟩=some (.slice a N c)) (⟨k0,k1⟩) ?_
  iterate 2 (refine mh ?_;(try simp only [Act.put,List.setIfInBounds_toArray,List.set_cons_zero,List.set_cons_succ]))
  refine mm ?_
  go_wp2_with fail
  refine hfew.mono ?_
  rintro e w1 ⟨fv,rfl,H1⟩
  clear hfew HA
  have k0':=(show _=some (Value.int .i64 words) from (H1.k W.heap.size).ce 0 rfl)
  have k1':=(show _=some (Value.slice a N c) from (H1.k W.heap.size).ce 1 rfl)
  have hmade:=zQA (R:=[cel W.heap.size 24 #[.int .i64 words,.slice a N c],cel (W.heap.size+1) 36 #[.string nm,.int .i64 lv,.int .i64 fr,.slice na ND nc,.string cd,.int .i64 p,.int .i64 f,.int .i64 gg],qQm W]) (v:=fv) (F:=F) (show Hd W [SlE 69 fv F,cel W.heap.size 24 #[.int .i64 words,.slice a N c],cel (W.heap.size+1) 36 #[.string nm,.int .i64 lv,.int .i64 fr,.slice na ND nc,.string cd,.int .i64 p,.int .i64 f,.int .i64 gg],qQm W] w1 from H1.re) (words:=words) (u:=u) (vu:=.slice a N c) (hu2.out.of fun h=>h.tail.tail) (fun x hx=>⟨(hsm.out x hx).1.of fun h=>h.tail.tail,(hsm.out x hx).2⟩) (by omega)
  go_wp2_with fail
  refine qQd ⟨k0',k1'⟩ ?_
  refine mm ?_
  go_wp2_with fail
  refine hmade.mono ?_
  rintro e w2 ⟨z,S,rfl,H2⟩
  clear hmade H1 k0 k1
  have k0':=(show _=some (Value.int .i64 words) from (H2.k W.heap.size).ce 0 rfl)
  have k1':=(show _=some (Value.slice a N c) from (H2.k W.heap.size).ce 1 rfl)
  go_wp2_with fail
  refine qQd ⟨k0',k1'⟩ ?_
  iterate 1 (refine mh ?_;(try simp only [Act.put,List.setIfInBounds_toArray,List.set_cons_zero,List.set_cons_succ]))
  refine qQe ?_
  (try dsimp only)
  clear k0' k1'
  have hnew:=qXr words u
  obtain ⟨hi,he⟩:=qXS (l:=F) (KeI.new hnew (qKJ hnew)) (Ext.new (qQN words) (qZe u)) (by omega)
  obtain ⟨m,hm⟩:∃m,qYD (KeM.new (qQN words) (qZe u)) F=m:=⟨_,rfl⟩
  rw [hm] at hi he H2
  replace hi:KeI m 12000000:=hi.more (by omega)
  clear hm hnew
  have H3:Hd W (KeL z S m [cel (W.heap.size+1) 36 #[.string nm,.int .i64 lv,.int .i64 fr,.slice na ND nc,.string cd,.int .i64 p,.int .i64 f,.int .i64 gg],qQm W]) w2:=H2.re
  clear H2
  have ht:=qWz H3 hi he
  have hi':=Lib.hid hi
  have he':=Lib.hid he
  have hx':=Lib.hid hx
  clear hi he hx
  go_wp2_with fail
  refine ht.mono ?_
  rintro e w3 ⟨t2,rfl,H4⟩
  clear ht H3
  obtain ⟨zk,zc,zr,⟨zd,zo,zq,⟨zl,zt,za,zu,ze⟩⟩⟩:=z
  have hbd:=fun (w1:World) (h1:Hd W (KeL ⟨zk,zc,zr,⟨zd,zo,zq,⟨zl,zt,za,zu,ze⟩⟩⟩ S m (TkP t2 m.tk S::[cel (W.heap.size+1) 36 #[.string nm,.int .i64 lv,.int .i64 fr,.slice na ND nc,.string cd,.int .i64 p,.int .i64 f,.int .i64 gg],qQm W])) w1)=>(qV0 (R:=KeL ⟨zk,zc,zr,⟨zd,zo,zq,⟨zl,zt,za,zu,ze⟩⟩⟩ S m [cel (W.heap.size+1) 36 #[.string nm,.int .i64 lv,.int .i64 fr,.slice na ND nc,.string cd,.int .i64 p,.int .i64 f,.int .i64 gg],qQm W]) (show Hd W (TkP t2 m.tk S::KeL ⟨zk,zc,zr,⟨zd,zo,zq,⟨zl,zt,za,zu,ze⟩⟩⟩ S m [cel (W.heap.size+1) 36 #[.string nm,.int .i64 lv,.int .i64 fr,.slice na ND nc,.string cd,.int .i64 p,.int .i64 f,.int .i64 gg],qQm W]) w1 from h1.re) hi'.out.t.t).mono (fun e w2 h2=>(⟨h2.1,h2.2.re⟩:e=_∧Hd W (KeL ⟨zk,zc,zr,⟨zd,zo,zq,⟨zl,zt,za,zu,ze⟩⟩⟩ S m (TkP t2 m.tk S::[cel (W.heap.size+1) 36 #[.string nm,.int .i64 lv,.int .i64 fr,.slice na ND nc,.string cd,.int .i64 p,.int .i64 f,.int .i64 gg],qQm W])) w2))
  obtain ⟨u1,u2,u3⟩:=qq7 hi'.out he'.out
  obtain ⟨BD,hBD⟩:∃BD,qQ1 m.tk.rows=BD:=⟨_,rfl⟩
  obtain ⟨US,hUS⟩:∃US,m.dp.co.ar.used=US:=⟨_,rfl⟩
  obtain ⟨HI,hHI⟩:∃HI,m.dp.co.ar.high=HI:=⟨_,rfl⟩
  have hus:=fun (w1:World) (h1:Hd W (KeL ⟨zk,zc,zr,⟨zd,zo,zq,⟨zl,zt,za,zu,ze⟩⟩⟩ S m (TkP t2 m.tk S::[cel (W.heap.size+1) 36 #[.string nm,.int .i64 lv,.int .i64 fr,.slice na ND nc,.string cd,.int .i64 p,.int .i64 f,.int .i64 gg],qQm W])) w1)=>zXX h1
  have hhi:=fun (w1:World) (h1:Hd W (KeL ⟨zk,zc,zr,⟨zd,zo,zq,⟨zl,zt,za,zu,ze⟩⟩⟩ S m (TkP t2 m.tk S::[cel (W.heap.size+1) 36 #[.string nm,.int .i64 lv,.int .i64 fr,.slice na ND nc,.string cd,.int .i64 p,.int .i64 f,.int .i64 gg],qQm W])) w1)=>zXJ h1
  have hwo:=fun (w1:World) (h1:Hd W (KeL ⟨zk,zc,zr,⟨zd,zo,zq,⟨zl,zt,za,zu,ze⟩⟩⟩ S m (TkP t2 m.tk S::[cel (W.heap.size+1) 36 #[.string nm,.int .i64 lv,.int .i64 fr,.slice na ND nc,.string cd,.int .i64 p,.int .i64 f,.int .i64 gg],qQm W])) w1)=>qUy (show Hd W (TkP t2 m.tk S::KeL ⟨zk,zc,zr,⟨zd,zo,zq,⟨zl,zt,za,zu,ze⟩⟩⟩ S m [cel (W.heap.size+1) 36 #[.string nm,.int .i64 lv,.int .i64 fr,.slice na ND nc,.string cd,.int .i64 p,.int .i64 f,.int .i64 gg],qQm W]) w1 from h1.re)
  obtain ⟨WD,hWD⟩:∃WD,m.tk.words=WD:=⟨_,rfl⟩
  rw [hBD] at hbd u1 u2 u3
  rw [hUS] at hus u1
  rw [hHI] at hhi u2
  rw [hWD] at hwo u3
  have l1:¬BD<(US:Int):=by omega
  have l2:¬BD<(HI:Int):=by omega
  have l3:¬WD<BD:=by omega
  have kk0:=(show _=some (Value.pointer (some ⟨zl,0,none⟩)) from (H4.k zk).ce 0 rfl)
  have g1:=hus _ H4
  go_wp2_with fail
  refine g1.mono ?_
  rintro e w4 ⟨rfl,rfl⟩
  clear g1
  have g1:=hbd _ H4
  go_wp2_with fail
  refine g1.mono ?_
  rintro e w4 ⟨rfl,H5⟩
  clear g1 H4 kk0
  have kk0:=(show _=some (Value.pointer (some ⟨zl,0,none⟩)) from (H5.k zk).ce 0 rfl)
  have g1:=hhi _ H5
  go_wp2_with fail
  refine g1.mono ?_
  rintro e w5 ⟨rfl,rfl⟩
  clear g1
  have g1:=hbd _ H5
  go_wp2_with fail
  refine g1.mono ?_
  rintro e w5 ⟨rfl,H6⟩
  clear g1 H5 kk0
  have g1:=hbd _ H6
  go_wp2_with fail
  refine g1.mono ?_
  rintro e w6 ⟨rfl,H7⟩
  clear g1 H6
  have g1:=hwo _ H7
  have t3:=(show _=some (Value.slice na ND nc) from (H7.k (W.heap.size+1)).ce 3 rfl)
  have t4:=(show _=some (Value.string cd) from (H7.k (W.heap.size+1)).ce 4 rfl)
  by_cases s1:(4200:Int)<cd.size
  · have hrun:=qJ0 (R:=[qQm W]) (show Hd W [qQm W] w6 from H7.re)
    go_wp2_with fail
    refine g1.mono ?_
    rintro e w7 ⟨rfl,rfl⟩
    clear g1
    go_wp2_with fail
    refine hrun.mono ?_
    rintro e w5 ⟨rfl,H5⟩
    go_wp2_with fail
    go_ret
    exact ⟨rfl,H5⟩
  by_cases s2:(20:Int)<ND
  · have hrun:=qJ0 (R:=[qQm W]) (show Hd W [qQm W] w6 from H7.re)
    go_wp2_with fail
    refine g1.mono ?_
    rintro e w7 ⟨rfl,rfl⟩
    clear g1
    go_wp2_with fail
    refine hrun.mono ?_
    rintro e w5 ⟨rfl,H5⟩
    go_wp2_with fail
    go_ret
    exact ⟨rfl,H5⟩
  go_wp2_with fail
  refine g1.mono ?_
  rintro e w7 ⟨rfl,rfl⟩
  clear g1
  go_wp2_with fail
  clear t3 t4
  obtain ⟨n,hn⟩:∃n,m.tk.rows.length=n:=⟨_,rfl⟩
  have hlen:=fun (w1:World) (h1:Hd W (KeL ⟨zk,zc,zr,⟨zd,zo,zq,⟨zl,zt,za,zu,ze⟩⟩⟩ S m (TkP t2 m.tk S::[cel (W.heap.size+1) 36 #[.string nm,.int .i64 lv,.int .i64 fr,.slice na ND nc,.string cd,.int .i64 p,.int .i64 f,.int .i64 gg],qQm W])) w1)=>zXu h1
  rw [hn] at hlen
  have hn64:n≤64:=by have:=hi'.out.t.t.n;omega
  have hget:=fun (w1:World) (h1:Hd W (KeL ⟨zk,zc,zr,⟨zd,zo,zq,⟨zl,zt,za,zu,ze⟩⟩⟩ S m (TkP t2 m.tk S::[cel (W.heap.size+1) 36 #[.string nm,.int .i64 lv,.int .i64 fr,.slice na ND nc,.string cd,.int .i64 p,.int .i64 f,.int .i64 gg],qQm W])) w1) (i:Nat) (r:RowM) (hr:m.tk.rows[i]? = some r)=>zJ9 h1 hi'.out.t.t hr
  replace hn:=Lib.hid hn
  replace hlen:=Lib.hid hlen
  replace hget:=Lib.hid hget
  replace hus:=Lib.hid hus
  replace hhi:=Lib.hid hhi
  replace hbd:=Lib.hid hbd
  replace hwo:=Lib.hid hwo
  replace hBD:=Lib.hid hBD
  replace hUS:=Lib.hid hUS
  replace hHI:=Lib.hid hHI
  replace hWD:=Lib.hid hWD
  clear u1 u2 u3
  go_loopw [9,10] (fun y1 y2 wr=>∃k:Nat,k≤32∧y1=.int .i64 (qZn m.tk.rows lv fr k)∧y2=.int .i64 ((k:Int)+1)∧Hd W (KeL ⟨zk,zc,zr,⟨zd,zo,zq,⟨zl,zt,za,zu,ze⟩⟩⟩ S m (TkP t2 m.tk S::[cel (W.heap.size+1) 36 #[.string nm,.int .i64 lv,.int .i64 fr,.slice na ND nc,.string cd,.int .i64 p,.int .i64 f,.int .i64 gg],qQm W])) wr) (fun _ y2 _=>40-(intOf y2).toNat)
  case atStart=>exact ⟨0,Nat.zero_le _,rfl,rfl,H7⟩
  case round =>
    clear H7
    obtain ⟨k,hk,rfl,rfl,H8⟩:=hrel
    have hsl:=qKW hi'.out.t.t.fr lv fr k
    obtain ⟨SK,hSK⟩:∃SK,qZn m.tk.rows lv fr k=SK:=⟨_,rfl⟩
    rw [hSK] at hsl ⊢
    replace hSK:=Lib.hid hSK
    by_cases hlt:k<32
    · have n1:(k:Int)+1≤32:=by omega
      have g5:IntKind.i64.wrap ((k:Int)+1+1)=(k:Int)+1+1:=IntWalk.i64_in _ (by omega)
      go_wp2_with fail
      go_loopw [11,12] (fun y1 y2 wr=>∃i:Nat,i≤n∧y1=.int .i64 (qQo (m.tk.rows.take i) ((k:Int)+1))∧y2=.int .i64 i∧Hd W (KeL ⟨zk,zc,zr,⟨zd,zo,zq,⟨zl,zt,za,zu,ze⟩⟩⟩ S m (TkP t2 m.tk S::[cel (W.heap.size+1) 36 #[.string nm,.int .i64 lv,.int .i64 fr,.slice na ND nc,.string cd,.int .i64 p,.int .i64 f,.int .i64 gg],qQm W])) wr) (fun _ y2 _=>n-(intOf y2).toNat)
      case atStart=>exact ⟨0,Nat.zero_le _,rfl,rfl,H8⟩
      case round =>
        clear H8
        obtain ⟨i,hi2,rfl,rfl,H9⟩:=hrel
        obtain ⟨MO,hMO⟩:∃MO,qQo (m.tk.rows.take i) ((k:Int)+1)=MO:=⟨_,rfl⟩
        have hll:=hlen.out _ H9
        by_cases hil:i<n
        · have m1:(i:Int)<n:=by omega
          have g6:IntKind.i64.wrap ((i:Int)+1)=(i:Int)+1:=IntWalk.i64_in _ (by omega)
          obtain ⟨r,hr⟩:∃r,m.tk.rows[i]? = some r:=⟨m.tk.rows[i]'(by rw [hn.out];exact hil),List.getElem?_eq_getElem _⟩
          have hsu:=qXa (lv:=(k:Int)+1) hr
          have hgg:=hget.out _ H9 i r hr
          obtain ⟨⟨rn,rl,rf,rds,rc,rp,rq,rg⟩,rst⟩:=r
          dsimp only at hsu hgg
          rw [hMO] at hsu ⊢
          replace hMO:=Lib.hid hMO
          replace hr:=Lib.hid hr
          go_wp2_with fail
          refine hll.mono ?_
          rintro e w8 ⟨rfl,rfl⟩
          clear hll
          go_wp2_with fail
          refine hgg.mono ?_
          rintro e w8 ⟨nv,rfl,H10⟩
          clear hgg H9
          obtain ⟨ra,rcp,rfl,-,-,-,-⟩:=H10.slc_form
          obtain ⟨RL,hRL⟩:∃RL,rds.length=RL:=⟨_,rfl⟩
          rw [hRL] at H10 ⊢
          replace hRL:=Lib.hid hRL
          have H11:Hd W _ (w8.alloc (.cells #[.string rn,.int .i64 rl,.int .i64 rf,.slice ra RL rcp,.string rc,.int .i64 rp,.int .i64 rq,.int .i64 rg] 36)):=H10.fol
          have d1:=(show _=some (Value.int .i64 rl) from (H11.k w8.heap.size).ce 1 rfl)
          have d2:=(show _=some (Value.int .i64 rf) from (H11.k w8.heap.size).ce 2 rfl)
          have H12:Hd W (KeL ⟨zk,zc,zr,⟨zd,zo,zq,⟨zl,zt,za,zu,ze⟩⟩⟩ S m (TkP t2 m.tk S::[cel (W.heap.size+1) 36 #[.string nm,.int .i64 lv,.int .i64 fr,.slice na ND nc,.string cd,.int .i64 p,.int .i64 f,.int .i64 gg],qQm W])) _:=H11.re
          replace H12:=Lib.hid H12
          clear H10 H11
          by_cases c1:rl=(k:Int)+1
          · rw [if_pos c1] at hsu
            have b1:(rl == (k:Int)+1)=true:=by simpa using c1
            replace c1:=Lib.hid c1
            by_cases c2:MO<rf
            · rw [show max MO rf=rf by omega] at hsu
              replace hsu:=Lib.hid hsu
              have b2:decide (MO<rf)=true:=by simpa using c2
              go_wp2_with fail
              go_roundw
              case rel=>exact ⟨i+1,by omega,by rw [hsu.out],by simp,H12.out⟩
              case measure=>simp [intOf];omega
            · rw [show max MO rf=MO by omega] at hsu
              replace hsu:=Lib.hid hsu
              have b2:decide (MO<rf)=false:=by simpa using c2
              go_wp2_with fail
              go_roundw
              case rel=>exact ⟨i+1,by omega,by rw [hsu.out],by simp,H12.out⟩
              case measure=>simp [intOf];omega
          · rw [if_neg c1] at hsu
            have b1:(rl == (k:Int)+1)=false:=by simpa using c1
            replace hsu:=Lib.hid hsu
            replace c1:=Lib.hid c1
            go_wp2_with fail
            go_roundw
            case rel=>exact ⟨i+1,by omega,by rw [hsu.out],by simp,H12.out⟩
            case measure=>simp [intOf];omega
        · obtain rfl:i=n:=by omega
          rw [← hn.out,List.take_length] at hMO
          have hmo:=qXH (lv:=(k:Int)+1) hi'.out.t.t.fr
          have hlm:=qWY hi'.out.t.t.fr lv fr (k+1)
          have hss:qZn m.tk.rows lv fr (k+1)=SK+qKt m.tk.rows lv fr (k+1):=by rw [← hSK.out];rfl
          obtain ⟨LM,hLM⟩:∃LM,qKt m.tk.rows lv fr (k+1)=LM:=⟨_,rfl⟩
          have hLe:LM=if (k:Int)+1=lv∧MO<fr then qZE fr 0 5000 else MO:=by
            rw [← hLM,← hMO]
            unfold qKt
            push_cast
            rfl
          rw [hMO] at hmo
          rw [hLM] at hlm hss
          replace hss:=Lib.hid hss
          replace hLM:=Lib.hid hLM
          rw [show qQo (m.tk.rows.take i) ((k:Int)+1)=MO by rw [← hn.out,List.take_length];exact hMO]
          replace hMO:=Lib.hid hMO
          have tl:=(show _=some (Value.int .i64 lv) from (H9.k (W.heap.size+1)).ce 1 rfl)
          have tf:=(show _=some (Value.int .i64 fr) from (H9.k (W.heap.size+1)).ce 2 rfl)
          have g7:IntKind.i64.wrap (SK+LM)=SK+LM:=IntWalk.i64_in _ (by omega)
          clear hlt hsl hmo hlm
          by_cases c1:(k:Int)+1=lv
          · have b1:((k:Int)+1 == lv)=true:=by simpa using c1
            by_cases c2:MO<fr
            · rw [if_pos ⟨c1,c2⟩] at hLe
              have b2:decide (MO<fr)=true:=by simpa using c2
              have hcs:=fun (w:World)=>qYw (w:=w) fr 0 5000
              rw [← hLe] at hcs
              replace hLe:=Lib.hid hLe
              replace c1:=Lib.hid c1
              go_wp2_with fail
              refine hll.mono ?_
              rintro e w8 ⟨rfl,rfl⟩
              clear hll
              go_wp2_with fail
              refine (hcs _).mono ?_
              rintro e w8 ⟨rfl,rfl⟩
              clear hcs
              go_wp2_with fail
              go_roundw
              case rel=>exact ⟨k+1,by omega,by rw [hss.out],by simp,H9⟩
              case measure=>simp [intOf];omega
            · rw [if_neg (fun h=>c2 h.2)] at hLe
              subst hLe
              have b2:decide (LM<fr)=false:=by simpa using c2
              replace c1:=Lib.hid c1
              go_wp2_with fail
              refine hll.mono ?_
              rintro e w8 ⟨rfl,rfl⟩
              clear hll
              go_wp2_with fail
              go_roundw
              case rel=>exact ⟨k+1,by omega,by rw [hss.out],by simp,H9⟩
              case measure=>simp [intOf];omega
          · rw [if_neg (fun h=>c1 h.1)] at hLe
            subst hLe
            have b1:((k:Int)+1 == lv)=false:=by simpa using c1
            · go_wp2_with fail
              refine hll.mono ?_
              rintro e w8 ⟨rfl,rfl⟩
              clear hll
              go_wp2_with fail
              go_roundw
              case rel=>exact ⟨k+1,by omega,by rw [hss.out],by simp,H9⟩
              case measure=>simp [intOf];omega
    · obtain rfl:k=32:=by omega
      have hf:=(H8.k (W.heap.size+1)).fact1
      simp only [Nat.reduceAdd] at hf
      go_split_ands
      have HS:Hd W _ (wr.alloc (.cells #[.string nm,.int .i64 lv,.int .i64 fr,.slice na ND nc,.string cd,.int .i64 p,.int .i64 f,.int .i64 gg] 36)):=H8.fol
      have hf:=(HS.k wr.heap.size).fact1
      simp only [Nat.reduceAdd] at hf
      go_split_ands
      clear HS
      have HS2:Hd W _ (wr.alloc (.cells #[.string nm,.int .i64 lv,.int .i64 0,.slice na ND nc,.string cd,.int .i64 p,.int .i64 f,.int .i64 gg] 36)):=H8.fol
      have hf:=(HS2.k (W.heap.size+1)).fact1
      simp only [Nat.reduceAdd] at hf
      go_split_ands
      have hsr:Srg W [TkP t2 m.tk S,cel (W.heap.size+1) 36 #[.string nm,.int .i64 lv,.int .i64 fr,.slice na ND nc,.string cd,.int .i64 p,.int .i64 f,.int .i64 gg],qQm W] (.slice na ND nc) nds:=hx'.out.srg fun h p1 x1 hx1=>(inferInstance:Old W W [TkP t2 m.tk S,cel (W.heap.size+1) 36 #[.string nm,.int .i64 lv,.int .i64 fr,.slice na ND nc,.string cd,.int .i64 p,.int .i64 f,.int .i64 gg],qQm W]).keep h p1 x1 hx1
      have hnl:nds.length≤100000:=by rw [hND];omega
      have hck:=fun (w1:World) (h1:Hd W (KeL ⟨zk,zc,zr,⟨zd,zo,zq,⟨zl,zt,za,zu,ze⟩⟩⟩ S m (TkP t2 m.tk S::[cel (W.heap.size+1) 36 #[.string nm,.int .i64 lv,.int .i64 fr,.slice na ND nc,.string cd,.int .i64 p,.int .i64 f,.int .i64 gg],qQm W])) w1)=>qWN h1 hi'.out.keC ⟨nm,lv,fr,nds,cd,p,f,gg⟩ (nv:=.slice na ND nc) hsr hnl
      have hcs:=fun (w1:World) (h1:Hd W (KeL ⟨zk,zc,zr,⟨zd,zo,zq,⟨zl,zt,za,zu,ze⟩⟩⟩ S m (TkP t2 m.tk S::[cel (W.heap.size+1) 36 #[.string nm,.int .i64 lv,.int .i64 fr,.slice na ND nc,.string cd,.int .i64 p,.int .i64 f,.int .i64 gg],qQm W])) w1)=>qWN h1 hi'.out.keC ⟨nm,lv,0,nds,cd,p,f,gg⟩ (nv:=.slice na ND nc) hsr hnl
      have hreg:=fun (w1:World) (h1:Hd W (KeL ⟨zk,zc,zr,⟨zd,zo,zq,⟨zl,zt,za,zu,ze⟩⟩⟩ S m (TkP t2 m.tk S::[cel (W.heap.size+1) 36 #[.string nm,.int .i64 lv,.int .i64 fr,.slice na ND nc,.string cd,.int .i64 p,.int .i64 f,.int .i64 gg],qQm W])) w1)=>qZg h1 hi'.out (by omega) ⟨nm,lv,fr,nds,cd,p,f,gg⟩ (nv:=.slice na ND nc) hsr hnl
      have hno:=fun hh=>zZQ hi'.out (x:=⟨nm,lv,fr,nds,cd,p,f,gg⟩) hh
      have hyes:=fun h1 h2=>zZt hi'.out (x:=⟨nm,lv,fr,nds,cd,p,f,gg⟩) h1 h2
      dsimp only [qKk] at hno hyes
      rw [hSK.out,hWD.out] at hyes
      obtain ⟨SM,hSM⟩:∃SM,m.checkE ⟨nm,lv,0,nds,cd,p,f,gg⟩=SM:=⟨_,rfl⟩
      obtain ⟨EV,hEV⟩:∃EV,m.checkE ⟨nm,lv,fr,nds,cd,p,f,gg⟩=EV:=⟨_,rfl⟩
      rw [hSM] at hcs hno hyes
      rw [hEV] at hck hreg hno hyes
      rw [hn.out] at hreg
      obtain ⟨NV,hNV⟩:∃NV:Int,(if EV=0 then (n:Int) else -1)=NV:=⟨_,rfl⟩
      rw [hNV] at hreg
      clear hEV hSM hsr
      have hout:∀o:Bool,(o=true→¬EV=25)→(o=false→EV=if WD<SK then 25 else 0)→∃b0 b25:Bool,(EV == 0)=b0∧(EV == 25)=b25∧decide ((0:Int)≤NV)=b0∧(b0 != b0)=false∧(o=false→decide (WD<SK)=b25∧(b25 != b25)=false∧((EV != 0)=false∨(EV != 0)=true∧(EV != 25)=false))∧(o=true→b25=false):=by
        intro o h1 h2
        have hnv:NV=if EV=0 then (n:Int) else -1:=hNV.symm
        cases o with
        | true =>
          have h3:=h1 rfl
          by_cases h0:EV=0
          · subst h0
            exact ⟨true,false,rfl,rfl,by rw [hnv,if_pos rfl];simp,rfl,(fun h=>by cases h),fun _=>rfl⟩
          · exact ⟨false,false,by simpa using h0,by simpa using h3,by rw [hnv,if_neg h0];rfl,rfl,(fun h=>by cases h),fun _=>rfl⟩
        | false =>
          have h3:=h2 rfl
          by_cases h0:WD<SK
          · rw [if_pos h0] at h3
            subst h3
            exact ⟨false,true,rfl,rfl,by rw [hnv,if_neg (by decide)];rfl,rfl,(fun _=>⟨by simpa using h0,rfl,.inr ⟨rfl,rfl⟩⟩),(fun h=>by cases h)⟩
          · rw [if_neg h0] at h3
            subst h3
            exact ⟨true,false,rfl,rfl,by rw [hnv,if_pos rfl];simp,rfl,(fun _=>⟨by simpa using h0,rfl,.inl rfl⟩),(fun h=>by cases h)⟩
      replace hNV:=Lib.hid hNV
      replace hout:=Lib.hid hout
      replace hck:=Lib.hid hck
      replace hcs:=Lib.hid hcs
      replace hreg:=Lib.hid hreg
      replace hno:=Lib.hid hno
      replace hyes:=Lib.hid hyes
      by_cases c1:fr<0
      · have b1:decide (fr<0)=true:=by simpa using c1
        obtain ⟨b0,b25,e0,e25,en,ex,-,eo⟩:=hout.out true (fun _ h=>by have:=(hno.out h).1;omega) (fun h=>by cases h)
        obtain rfl:=eo rfl
        clear eo
        go_wp2_with fail
        refine (hck.out _ (show Hd W (KeL ⟨zk,zc,zr,⟨zd,zo,zq,⟨zl,zt,za,zu,ze⟩⟩⟩ S m (TkP t2 m.tk S::[cel (W.heap.size+1) 36 #[.string nm,.int .i64 lv,.int .i64 fr,.slice na ND nc,.string cd,.int .i64 p,.int .i64 f,.int .i64 gg],qQm W])) _ from HS2.re)).mono ?_
        rintro e w10 ⟨rfl,H10⟩
        have H11:Hd W (KeL ⟨zk,zc,zr,⟨zd,zo,zq,⟨zl,zt,za,zu,ze⟩⟩⟩ S m (TkP t2 m.tk S::[cel (W.heap.size+1) 36 #[.string nm,.int .i64 lv,.int .i64 fr,.slice na ND nc,.string cd,.int .i64 p,.int .i64 f,.int .i64 gg],qQm W])) w10:=H10.re
        clear H10
        have hf:=(H11.k (W.heap.size+1)).fact1
        simp only [Nat.reduceAdd] at hf
        go_split_ands
        go_wp2_with fail
        refine (hreg.out _ H11).mono ?_
        rintro e w11 ⟨rfl,S',hS,H12⟩
        clear H11
        have hrun:=qJ0 (R:=[qQm W]) (show Hd W [qQm W] w11 from H12.re)
        go_wp2_with fail
        refine hrun.mono ?_
        rintro e w5 ⟨rfl,H5⟩
        go_wp2_with fail
        go_ret
        exact ⟨rfl,H5⟩
      have b1:decide (fr<0)=false:=by simpa using c1
      by_cases c2:4096<fr
      · have b2:decide (4096<fr)=true:=by simpa using c2
        obtain ⟨b0,b25,e0,e25,en,ex,-,eo⟩:=hout.out true (fun _ h=>by have:=(hno.out h).1;omega) (fun h=>by cases h)
        obtain rfl:=eo rfl
        clear eo
        go_wp2_with fail
        refine (hck.out _ (show Hd W (KeL ⟨zk,zc,zr,⟨zd,zo,zq,⟨zl,zt,za,zu,ze⟩⟩⟩ S m (TkP t2 m.tk S::[cel (W.heap.size+1) 36 #[.string nm,.int .i64 lv,.int .i64 fr,.slice na ND nc,.string cd,.int .i64 p,.int .i64 f,.int .i64 gg],qQm W])) _ from HS2.re)).mono ?_
        rintro e w10 ⟨rfl,H10⟩
        have H11:Hd W (KeL ⟨zk,zc,zr,⟨zd,zo,zq,⟨zl,zt,za,zu,ze⟩⟩⟩ S m (TkP t2 m.tk S::[cel (W.heap.size+1) 36 #[.string nm,.int .i64 lv,.int .i64 fr,.slice na ND nc,.string cd,.int .i64 p,.int .i64 f,.int .i64 gg],qQm W])) w10:=H10.re
        clear H10
        have hf:=(H11.k (W.heap.size+1)).fact1
        simp only [Nat.reduceAdd] at hf
        go_split_ands
        go_wp2_with fail
        refine (hreg.out _ H11).mono ?_
        rintro e w11 ⟨rfl,S',hS,H12⟩
        clear H11
        have hrun:=qJ0 (R:=[qQm W]) (show Hd W [qQm W] w11 from H12.re)
        go_wp2_with fail
        refine hrun.mono ?_
        rintro e w5 ⟨rfl,H5⟩
        go_wp2_with fail
        go_ret
        exact ⟨rfl,H5⟩
      have b2:decide (4096<fr)=false:=by simpa using c2
      have hf:=(HS2.k wr.heap.size).fact1
      simp only [Nat.reduceAdd] at hf
      go_split_ands
      go_wp2_with fail
      refine (hcs.out _ (show Hd W (KeL ⟨zk,zc,zr,⟨zd,zo,zq,⟨zl,zt,za,zu,ze⟩⟩⟩ S m (TkP t2 m.tk S::[cel (W.heap.size+1) 36 #[.string nm,.int .i64 lv,.int .i64 fr,.slice na ND nc,.string cd,.int .i64 p,.int .i64 f,.int .i64 gg],qQm W])) _ from HS2.re)).mono ?_
      rintro e w9 ⟨rfl,H9a⟩
      have H9:Hd W (KeL ⟨zk,zc,zr,⟨zd,zo,zq,⟨zl,zt,za,zu,ze⟩⟩⟩ S m (TkP t2 m.tk S::[cel (W.heap.size+1) 36 #[.string nm,.int .i64 lv,.int .i64 fr,.slice na ND nc,.string cd,.int .i64 p,.int .i64 f,.int .i64 gg],qQm W])) w9:=H9a.re
      clear H9a HS2
      have hf:=(H9.k (W.heap.size+1)).fact1
      simp only [Nat.reduceAdd] at hf
      go_split_ands
      by_cases c3:SM=0
      · subst c3
        obtain ⟨b0,b25,e0,e25,en,ex,ey,-⟩:=hout.out false (fun h=>by cases h) (fun _=>hyes.out (by omega) rfl)
        obtain ⟨ew,ey,ez⟩:=ey rfl
        rcases ez with ez | ⟨ez,eu⟩
        · skip
          go_wp2_with fail
          refine (hck.out _ (show Hd W (KeL ⟨zk,zc,zr,⟨zd,zo,zq,⟨zl,zt,za,zu,ze⟩⟩⟩ S m (TkP t2 m.tk S::[cel (W.heap.size+1) 36 #[.string nm,.int .i64 lv,.int .i64 fr,.slice na ND nc,.string cd,.int .i64 p,.int .i64 f,.int .i64 gg],qQm W])) _ from H9)).mono ?_
          rintro e w10 ⟨rfl,H10⟩
          have H11:Hd W (KeL ⟨zk,zc,zr,⟨zd,zo,zq,⟨zl,zt,za,zu,ze⟩⟩⟩ S m (TkP t2 m.tk S::[cel (W.heap.size+1) 36 #[.string nm,.int .i64 lv,.int .i64 fr,.slice na ND nc,.string cd,.int .i64 p,.int .i64 f,.int .i64 gg],qQm W])) w10:=H10.re
          clear H10
          have hf:=(H11.k (W.heap.size+1)).fact1
          simp only [Nat.reduceAdd] at hf
          go_split_ands
          go_wp2_with fail
          refine (hreg.out _ H11).mono ?_
          rintro e w11 ⟨rfl,S',hS,H12⟩
          clear H11
          have hwd:=qU9 (show Hd W (KeL ⟨zk,zc,zr,⟨zd,zo,zq,⟨zl,zt,za,zu,ze⟩⟩⟩ S' (m.register ⟨nm,lv,fr,nds,cd,p,f,gg⟩) (TkP t2 m.tk S::[cel (W.heap.size+1) 36 #[.string nm,.int .i64 lv,.int .i64 fr,.slice na ND nc,.string cd,.int .i64 p,.int .i64 f,.int .i64 gg],qQm W])) w11 from H12.re)
          rw [hWD.out] at hwd
          have hrun:=qJ0 (R:=[qQm W]) (show Hd W [qQm W] w11 from H12.re)
          go_wp2_with fail
          refine hwd.mono ?_
          rintro e w12 ⟨rfl,rfl⟩
          clear hwd
          go_wp2_with fail
          refine hrun.mono ?_
          rintro e w5 ⟨rfl,H5⟩
          go_wp2_with fail
          go_ret
          exact ⟨rfl,H5⟩
        · skip
          go_wp2_with fail
          refine (hck.out _ (show Hd W (KeL ⟨zk,zc,zr,⟨zd,zo,zq,⟨zl,zt,za,zu,ze⟩⟩⟩ S m (TkP t2 m.tk S::[cel (W.heap.size+1) 36 #[.string nm,.int .i64 lv,.int .i64 fr,.slice na ND nc,.string cd,.int .i64 p,.int .i64 f,.int .i64 gg],qQm W])) _ from H9)).mono ?_
          rintro e w10 ⟨rfl,H10⟩
          have H11:Hd W (KeL ⟨zk,zc,zr,⟨zd,zo,zq,⟨zl,zt,za,zu,ze⟩⟩⟩ S m (TkP t2 m.tk S::[cel (W.heap.size+1) 36 #[.string nm,.int .i64 lv,.int .i64 fr,.slice na ND nc,.string cd,.int .i64 p,.int .i64 f,.int .i64 gg],qQm W])) w10:=H10.re
          clear H10
          have hf:=(H11.k (W.heap.size+1)).fact1
          simp only [Nat.reduceAdd] at hf
          go_split_ands
          go_wp2_with fail
          refine (hreg.out _ H11).mono ?_
          rintro e w11 ⟨rfl,S',hS,H12⟩
          clear H11
          have hwd:=qU9 (show Hd W (KeL ⟨zk,zc,zr,⟨zd,zo,zq,⟨zl,zt,za,zu,ze⟩⟩⟩ S' (m.register ⟨nm,lv,fr,nds,cd,p,f,gg⟩) (TkP t2 m.tk S::[cel (W.heap.size+1) 36 #[.string nm,.int .i64 lv,.int .i64 fr,.slice na ND nc,.string cd,.int .i64 p,.int .i64 f,.int .i64 gg],qQm W])) w11 from H12.re)
          rw [hWD.out] at hwd
          have hrun:=qJ0 (R:=[qQm W]) (show Hd W [qQm W] w11 from H12.re)
          go_wp2_with fail
          refine hwd.mono ?_
          rintro e w12 ⟨rfl,rfl⟩
          clear hwd
          go_wp2_with fail
          refine hrun.mono ?_
          rintro e w5 ⟨rfl,H5⟩
          go_wp2_with fail
          go_ret
          exact ⟨rfl,H5⟩
      · have b3:(SM != 0)=true:=by simpa using c3
        obtain ⟨b0,b25,e0,e25,en,ex,-,eo⟩:=hout.out true (fun _ h=>absurd (hno.out h).2 c3) (fun h=>by cases h)
        obtain rfl:=eo rfl
        clear eo
        go_wp2_with fail
        refine (hck.out _ (show Hd W (KeL ⟨zk,zc,zr,⟨zd,zo,zq,⟨zl,zt,za,zu,ze⟩⟩⟩ S m (TkP t2 m.tk S::[cel (W.heap.size+1) 36 #[.string nm,.int .i64 lv,.int .i64 fr,.slice na ND nc,.string cd,.int .i64 p,.int .i64 f,.int .i64 gg],qQm W])) _ from H9)).mono ?_
        rintro e w10 ⟨rfl,H10⟩
        have H11:Hd W (KeL ⟨zk,zc,zr,⟨zd,zo,zq,⟨zl,zt,za,zu,ze⟩⟩⟩ S m (TkP t2 m.tk S::[cel (W.heap.size+1) 36 #[.string nm,.int .i64 lv,.int .i64 fr,.slice na ND nc,.string cd,.int .i64 p,.int .i64 f,.int .i64 gg],qQm W])) w10:=H10.re
        clear H10
        have hf:=(H11.k (W.heap.size+1)).fact1
        simp only [Nat.reduceAdd] at hf
        go_split_ands
        go_wp2_with fail
        refine (hreg.out _ H11).mono ?_
        rintro e w11 ⟨rfl,S',hS,H12⟩
        clear H11
        have hrun:=qJ0 (R:=[qQm W]) (show Hd W [qQm W] w11 from H12.re)
        go_wp2_with fail
        refine hrun.mono ?_
        rintro e w5 ⟨rfl,H5⟩
        go_wp2_with fail
        go_ret
        exact ⟨rfl,H5⟩
end
end
end Go.Proofs.YtkchopnkdjnocaaGreatDoor
