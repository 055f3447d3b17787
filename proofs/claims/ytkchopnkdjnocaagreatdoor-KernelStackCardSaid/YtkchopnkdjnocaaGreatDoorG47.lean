/-
  Merged texts of one proof: Ke10, KeI, KrM, KrL, Kr1, Ext, FullM, FullN, Nm, ByM.
-/
import Derived.Test.YtkchopnkdjnocaaGreatDoorG15
import Derived.Test.YtkchopnkdjnocaaGreatDoorG16
import Derived.Test.YtkchopnkdjnocaaGreatDoorG38
import Derived.Test.YtkchopnkdjnocaaGreatDoorG46

set_option maxHeartbeats 16000000
set_option maxRecDepth 20000
namespace Go.Proofs.YtkchopnkdjnocaaGreatDoor
section
open Go.RowKit Spl
attribute [local go_sem] Oper.semAt_some
section
variable {w0 w:World} {R:List Pr} {S:Hp} {m:KeM} {z:KeV}
theorem zJH (H:Hd w0 R w) {words:Int} {units:List Int} {v:Value} (hs:Srg w0 R v units) {E:Int} (hc:qJA words units=E) (h0:¬E=0) :
    Calls Tryz.prog 57 #[.int .i64 words,v] w fun e w'=>e=.returned (.tuple #[.pointer none,.int .i64 E])∧w=w':=by
  obtain ⟨a,c,hv⟩:=hs.form
  subst hv
  unfold qJA at hc
  by_cases n1:words<0
  · rw [if_pos (.inl n1)] at hc
    subst hc
    clear hs
    go_enter Tryz.func57,Tryz.ntmps57
    go_wp2_with fail
    go_ret2
    exact ⟨rfl,rfl⟩
  · by_cases n2:65536<words
    · rw [if_pos (.inr n2)] at hc
      subst hc
      clear hs
      go_enter Tryz.func57,Tryz.ntmps57
      go_wp2_with fail
      go_ret2
      exact ⟨rfl,rfl⟩
    · rw [if_neg (by omega)] at hc
      by_cases n3:(16:Int)<units.length
      · rw [if_pos n3] at hc
        subst hc
        clear hs
        go_enter Tryz.func57,Tryz.ntmps57
        go_wp2_with fail
        go_ret2
        exact ⟨rfl,rfl⟩
      · rw [if_neg n3] at hc
        split at hc
        · exact absurd hc.symm h0
        · rename_i hall
          subst hc
          replace hs:=Lib.hid hs
          replace hall:Hid (¬ ∀(j:Nat) (y:Int),units[j]? = some y→1≤y∧y≤255):=Lib.hid fun hh=>hall (List.all_eq_true.2 fun x hx=>by
            obtain ⟨j,hj⟩:=List.getElem?_of_mem hx
            have:=hh j x hj
            simp;omega)
          clear h0
          go_enter Tryz.func57,Tryz.ntmps57
          go_wp2_with fail
          go_loop [21] (fun x=>∃k:Nat,k≤units.length∧x=.int .i64 k∧Hid (∀(j:Nat) (y:Int),j<k→units[j]? = some y→1≤y∧y≤255)) (fun x=>units.length-(intOf x).toNat)
          case atStart=>exact ⟨0,Nat.zero_le _,rfl,Lib.hid fun j y hj=>absurd hj (Nat.not_lt_zero _)⟩
          case round =>
            obtain ⟨k,hk,rfl,hbef⟩:=hrel
            by_cases hlt:k<units.length
            · obtain ⟨x,hx⟩:∃x,units[k]? = some x:=⟨units[k],List.getElem?_eq_getElem hlt⟩
              obtain ⟨g,go,c2,hv2,-,hcell⟩:=hs.out.at hx
              injection hv2 with q1 q2 q3
              subst q1;subst q3
              have f0:=hcell H 0 _ rfl
              simp only [Enc.size,Nat.add_zero,Nat.mul_one] at f0
              have n4:¬(k:Int)<0:=by omega
              have n5:(k:Int)<units.length:=by omega
              have n6:¬units.length≤k:=by omega
              have g5:IntKind.i64.wrap ((k:Int)+1)=(k:Int)+1:=IntWalk.i64_in _ (by omega)
              replace hx:=Lib.hid hx
              clear hcell q2
              by_cases n7:x<1
              · go_wp2_with fail
                go_ret2
                exact ⟨rfl,rfl⟩
              · by_cases n8:255<x
                · go_wp2_with fail
                  go_ret2
                  exact ⟨rfl,rfl⟩
                · go_wp2_with fail
                  go_round
                  case rel =>
                    refine ⟨k+1,by omega,by simp,Lib.hid fun j y hj hy=>?_⟩
                    by_cases hjk:j=k
                    · subst hjk
                      rw [hx.out] at hy
                      injection hy with hy
                      omega
                    · exact hbef.out j y (by omega) hy
                  case measure=>simp [intOf];omega
            · exact absurd (fun j y hy=>hbef.out j y (by have:=qQa hy;omega) hy) hall.out
theorem zJw (H:Hd w0 R w) {words:Int} {units:List Int} {v:Value} (hs:Srg w0 R v units) {E:Int} (hc:qJA words units=E) (h0:¬E=0) :
    Calls Tryz.prog 28 #[.agg #[.int .i64 words,v]] w fun e w'=>e=.returned (.tuple #[.pointer none,.int .i64 E])∧Hd w0 R w':=by
  obtain ⟨a,c,hv⟩:=hs.form
  subst hv
  have H0:Hd w0 _ (w.alloc (.cells #[.int .i64 words,.slice a units.length c] 24)):=H.fol
  have h1:=zJH H0 (hs.of fun h=>h.tail) hc h0
  have hf:=(H0.k w.heap.size).fact1
  simp only [Nat.reduceAdd] at hf
  go_split_ands
  replace hs:=Lib.hid hs
  replace hc:=Lib.hid hc
  clear H
  go_enter Tryz.func28,Tryz.ntmps28
  go_wp2_with fail
  refine h1.mono ?_
  rintro e w1 ⟨rfl,rfl⟩
  clear h1
  go_wp2_with fail
  go_ret2
  exact ⟨rfl,H0.re⟩
theorem zQV {n:Int} (hn:n<0∨4096<n) (w:World) (k:Nat) :
    Calls Tryz.prog 37 #[.pointer (some ⟨k,0,none⟩),.int .i64 n] w fun e w'=>e=.returned (.tuple #[.int .i64 0,.int .i64 1])∧w=w':=by
  by_cases n1:n<0
  · clear hn
    go_enter Tryz.func37,Tryz.ntmps37
    go_wp2_with fail
    go_ret2
    exact ⟨rfl,rfl⟩
  · have n2:4096<n:=by omega
    clear hn
    go_enter Tryz.func37,Tryz.ntmps37
    go_wp2_with fail
    go_ret2
    exact ⟨rfl,rfl⟩
end
end
section
open Go.RowKit Spl
theorem zQK {qs:List (List qQh)}:∀ {n:Nat} {y:qQh × Nat},y∈allL qs n→∃(k:Nat) (l:List qQh),qs[k]? = some l∧y.1∈l
  | 0,y,h=>by cases h
  | n+1,y,h=>by
    have h2:y∈(qs[n]?.getD []).map (fun x=>(x,n+1))++allL qs n:=h
    rcases List.mem_append.1 h2 with h3 | h3
    · obtain ⟨x,hx,rfl⟩:=List.mem_map.1 h3
      cases hq:qs[n]? with
      | none=>rw [hq] at hx;cases hx
      | some l=>rw [hq] at hx;exact ⟨n,l,hq,hx⟩
    · exact zQK h3
theorem zZ1 {qs:List (List qQh)} {x:qQh} (h:x∈qZJ qs):∃(k:Nat) (l:List qQh),qs[k]? = some l∧x∈l:=by
  obtain ⟨y,hy,rfl⟩:=List.mem_map.1 h
  exact zQK hy
namespace KeI
variable {m:KeM} {n:Nat}
theorem dues:∀ {l:List Int} {m:KeM} {n:Nat} (_:KeI m n) (_:n+l.length≤4611686018427387904),KeI (m.dues l).2 (n+l.length)
  | [],m,n,h,hn=>h
  | i::l,m,n,h,hn=>by
    rw [List.length_cons] at hn ⊢
    have:=dues (l:=l) (h.due (by omega) i.toNat) (by omega)
    rw [show n+(l.length+1)=n+1+l.length by omega]
    exact this
theorem tick1 (h:KeI m n) (hn:n+65≤4611686018427387904):KeI m.tick1.2 (n+65):=by
  have h1:=qVk m.ck
  have h2:=h.k.len
  exact (dues (l:=m.ck.tickL) (h.tickE (by omega)) (by omega)).more (by omega)
theorem ticks:∀ {k:Nat} {m:KeM} {n:Nat} (_:KeI m n) (_:n+65*k≤4611686018427387904),KeI (m.ticks k).2 (n+65*k)
  | 0,m,n,h,hn=>h
  | k+1,m,n,h,hn=>by
    have:=ticks (k:=k) (h.tick1 (by omega)) (by omega)
    rw [show n+65*(k+1)=n+65+65*k by omega]
    exact this
theorem run:∀ {k:Nat} {m:KeM} {n:Nat} (_:KeI m n) (_:n+3*k≤4611686018427387904),KeI (m.run k).2 (n+3*k)
  | 0,m,n,h,hn=>h
  | k+1,m,n,h,hn=>by
    unfold KeM.run
    split
    · exact (h.step (by omega)).more (by omega)
    · have:=run (k:=k) (h.step (by omega)) (by omega)
      rw [show n+3*(k+1)=n+3+3*k by omega]
      exact this
theorem lokJ (h:KeI m n):∀j∈m.dp.co.jobs,LOk m.tk j.task j.pos:=by
  intro j hj
  obtain ⟨r,hr,e1,e2⟩:=(h.d.c.j j hj).r
  have:=(h.d.c.j j hj).p
  rw [← e2] at this
  refine ⟨by omega,r,by rw [Int.toNat_natCast];exact hr,by omega,by omega⟩
theorem lokQ (h:KeI m n) {k:Nat} {l:List qQh} {x:qQh} (hk:m.dp.wq.qs[k]? = some l) (hx:x∈l):LOk m.tk x.task 0:=by
  obtain ⟨r,hr,e⟩:=h.d.r k l x hk hx
  exact ⟨(h.d.q.e k l x hk hx).1,r,hr,by omega,by omega⟩
end KeI
section
variable {w0 w:World} {R:List Pr} {S:Hp} {m:KeM} {z:KeV} {k:Nat}
theorem zQl (H:Hd w0 (KeL z S m R) w) (h:KeI m k) (hk:k+4≤4611686018427387904) :
    Calls Tryz.prog 35 #[.pointer (some ⟨z.k,0,none⟩)] w fun e w'=>e=.returned (.agg (didA m.step.1))∧∃S',Le S S'∧Hd w0 (KeL z S' m.step.2 R) w' :=
  zZ6 H h.dpS h.e (by have:=h.eg;omega)
theorem zQx {n:Nat} (H:Hd w0 (KeL z S m R) w) (h:KeI m k) (hn:n≤4096) (hk:k+3*n+4≤4611686018427387904) :
    Calls Tryz.prog 37 #[.pointer (some ⟨z.k,0,none⟩),.int .i64 n] w fun e w'=>e=.returned (.tuple #[.int .i64 (m.run n).1,.int .i64 0])∧∃S',Le S S'∧Hd w0 (KeL z S' (m.run n).2 R) w' :=
  zKu (i:=0) (fun i m=>KeI m (k+3*i)) (fun i m hi hP=>⟨hP.dpS,hP.e,by have:=hP.eg;omega⟩) (fun i m hi hP=>by
    have:=hP.step (by omega)
    rw [show k+3*(i+1)=k+3*i+3 by omega]
    exact this) H h hn
theorem zQy {n:Nat} (H:Hd w0 (KeL z S m R) w) (h:KeI m k) (h1:1≤n) (h2:n≤1000) (h3:(n:Int)≤1099511627776-m.ck.now) (hk:k+65*n+1≤4611686018427387904) :
    Calls Tryz.prog 36 #[.pointer (some ⟨z.k,0,none⟩),.int .i64 n] w fun e w'=>∃v,e=.returned (.tuple #[v,.int .i64 0])∧Hd w0 (SlE 42 v (m.ticks n).1::KeL z S (m.ticks n).2 R) w' :=
  zXt (i:=k) (K:=k+65*n) (fun i m=>KeI m i) (fun i m hi hP=>hP.keR (by omega)) (fun i m hi hP=>hP.tickE (by omega)) (fun i m j hi _ hP=>hP.due (by omega) j) (Nat.le_refl _) H h h1 h2 h3
theorem qZ2 (H:Hd w0 (KeL z S m R) w) (h:KeI m k) (hk:k+1≤4611686018427387904) (task:Int) :
    Calls Tryz.prog 14 #[.pointer (some ⟨z.k,0,none⟩),.int .i64 task] w fun r w'=>r=.returned (.tuple #[.int .i64 (if m.releaseE task=0 then m.dp.count else -1),.int .i64 (m.releaseE task)])∧Hd w0 (KeL z S (m.release task) R) w':=by
  have hR:=h.keR (by omega)
  unfold KeM.release
  by_cases hr:m.ck.ready task=0
  · obtain ⟨i,r,rfl,hrow⟩:=zZh hR hr
    have e1:m.releaseE i=m.dp.releaseE m.tk i:=by unfold KeM.releaseE;rw [if_pos hr,Int.toNat_natCast]
    rw [e1,Int.toNat_natCast]
    by_cases hD:m.dp.releaseE m.tk i=0
    · rw [hD,if_pos rfl,if_pos rfl]
      exact qqQ H hR hrow hr hD
    · rw [if_neg hD,if_neg hD]
      exact qqj H hR hrow hr rfl hD
  · have e1:m.releaseE task=m.ck.ready task:=by unfold KeM.releaseE;rw [if_neg hr]
    rw [e1,if_neg hr,if_neg hr]
    exact qqA H hR rfl hr
theorem qZg [Lay w0 R] (H:Hd w0 (KeL z S m R) w) (h:KeI m k) (hk:k+1≤4611686018427387904) (x:qQY) {nv:Value} (hs:Srg w0 R nv x.needs) (hL:x.needs.length≤100000) :
    Calls Tryz.prog 22 #[.pointer (some ⟨z.k,0,none⟩),qYL x nv] w fun e w'=>e=.returned (.tuple #[.int .i64 (if m.checkE x=0 then m.tk.rows.length else -1),.int .i64 (m.checkE x)])∧∃S',Le S S'∧Hd w0 (KeL z S' (m.register x) R) w' :=
  qqT H h.keC (h.keR (by omega)) x hs hL
theorem zJV (H:Hd w0 (KeL z S m R) w) (h:KeI m k) :
    Calls Tryz.prog 39 #[.pointer (some ⟨z.k,0,none⟩)] w fun e w'=>e=.returned (.int .i64 m.left)∧Hd w0 (KeL z S m R) w' :=
  zXY H h.t.t h.d.q.ok (by have:=(h.d.c.few h.t.t).1;omega) h.lokJ (fun x hx=>by
    obtain ⟨i,l,hl,hxl⟩:=zZ1 hx
    exact h.lokQ hl hxl)
end
end
section
open Go.RowKit Spl
def loT:qQY:=⟨⟨#[108,111]⟩,1,4,[⟨0,1⟩],⟨#[108,111,99,107,32,48,32,49,59,32,112,117,115,104,32,53,59,32,115,116,111,114,101,32,48,59,32,117,110,108,111,99,107,32,48]⟩,0,0,0⟩
def hiT:qQY:=⟨⟨#[104,105]⟩,3,6,[⟨0,1⟩],⟨#[108,111,99,107,32,48,32,49,59,32,108,111,97,100,32,48]⟩,3,2,0⟩
def x1T:qQY:=⟨⟨#[120]⟩,2,1,[],⟨#[]⟩,0,0,0⟩
def x2T:qQY:=⟨⟨#[120]⟩,3,6,[],⟨#[]⟩,0,0,0⟩
def y1T:qQY:=⟨⟨#[121]⟩,1,0,[⟨0,1⟩],⟨#[]⟩,0,0,0⟩
def y2T:qQY:=⟨⟨#[121]⟩,1,0,[],⟨#[]⟩,0,0,0⟩
def q0:KeM:=KeM.new 10 [1]
def q1:KeM:=q0.register loT
def q2:KeM:=q1.register hiT
def q3:KeM:=q2.register x2T
def q4:KeM:=q3.release 0
def q5:KeM:=q4.step.2
def q6:KeM:=(q5.ticks 2).2
def q7:KeM:=q6.register y2T
def q8:KeM:=(q7.run 5).2
def q9:KeM:=(q8.run 9).2
theorem zKL:qJA 10 [1]=0∧qJA (-1) []=1:=by decide
theorem zKF:q0.checkE loT=0:=by kernel_rfl
theorem zXw:q1.checkE hiT=0∧q1.tk.rows.length=1:=⟨by kernel_rfl,by kernel_rfl⟩
theorem zKq:q2.checkE x1T=25:=by kernel_rfl
theorem zXj:q2.checkE x2T=0∧q2.tk.rows.length=2:=⟨by kernel_rfl,by kernel_rfl⟩
theorem q3_r:q3.releaseE 0=0∧q3.dp.count=0:=⟨by kernel_rfl,by kernel_rfl⟩
theorem q4_s:q4.step.1.started=true∧q4.step.1.done.op.kind=1:=⟨by kernel_rfl,by kernel_rfl⟩
theorem q5_t:(q5.ticks 2).1 = [⟨1,1,3⟩]∧q5.ck.now=0∧topI q6.dp.co.ce=3:=⟨by kernel_rfl,by kernel_rfl,by kernel_rfl⟩
theorem q6_y:q6.checkE y1T=24∧q6.checkE y2T=0∧q6.tk.rows.length=3:=⟨by kernel_rfl,by kernel_rfl,by kernel_rfl⟩
theorem q7_r:(q7.run 5).1=5:=by kernel_rfl
theorem q8_r:(q8.run 9).1=2∧q9.left=0:=⟨by kernel_rfl,by kernel_rfl⟩
theorem q9_e:q9.releaseE 1=40∧q9.releaseE 9=1∧q9.ck.now=2∧q9.ev.gone=0:=⟨by kernel_rfl,by kernel_rfl,by kernel_rfl,by kernel_rfl⟩
theorem q9_v:(q9.ev.l.map (·.kind)).take 7 = [1,1,1,2,4,5,7]:=by kernel_rfl
theorem q8_f:qJp q8.dp.co.jobs 1=(1:Nat)∧q8.dp.co.ar.fr[1]? = some ⟨6,[5]⟩:=⟨by kernel_rfl,by kernel_rfl⟩
theorem qYI:KeI q0 0∧KeI q1 1∧KeI q2 2∧KeI q3 3∧KeI q4 4∧KeI q5 7∧KeI q6 137∧KeI q7 138∧KeI q8 153∧KeI q9 180:=by
  have h0:KeI q0 0:=KeI.new (by decide) (by decide)
  have h1:KeI q1 1:=h0.register (by decide) loT
  have h2:KeI q2 2:=h1.register (by decide) hiT
  have h3:KeI q3 3:=h2.register (by decide) x2T
  have h4:KeI q4 4:=h3.release (by decide) 0
  have h5:KeI q5 7:=h4.step (by decide)
  have h6:KeI q6 137:=h5.ticks (k:=2) (by decide)
  have h7:KeI q7 138:=h6.register (by decide) y2T
  have h8:KeI q8 153:=h7.run (k:=5) (by decide)
  have h9:KeI q9 180:=h8.run (k:=9) (by decide)
  exact ⟨h0,h1,h2,h3,h4,h5,h6,h7,h8,h9⟩
structure Sc13 (p0 p1 p2 p3 p4 p5 p6 p7 p8 p9:KeM):Prop where
  e0:KeM.new 10 [1]=p0
  e1:p0.register loT=p1
  e2:p1.register hiT=p2
  e3:p2.register x2T=p3
  e4:p3.release 0=p4
  e5:p4.step.2=p5
  e6:(p5.ticks 2).2=p6
  e7:p6.register y2T=p7
  e8:(p7.run 5).2=p8
  e9:(p8.run 9).2=p9
  i0:KeI p0 0
  i1:KeI p1 1
  i2:KeI p2 2
  i3:KeI p3 3
  i4:KeI p4 4
  i5:KeI p5 7
  i6:KeI p6 137
  i7:KeI p7 138
  i8:KeI p8 153
  i9:KeI p9 180
  r0:p0.checkE loT=0
  r0l:p0.tk.rows.length=0
  r1:p1.checkE hiT=0
  r1l:p1.tk.rows.length=1
  r2:p2.checkE x1T=25
  r2x:p2.checkE x2T=0
  r2l:p2.tk.rows.length=2
  r3:p3.releaseE 0=0
  r3c:p3.dp.count=0
  r4:p4.step.1.started=true
  r4k:p4.step.1.done.op.kind=1
  r5:(p5.ticks 2).1 = [⟨1,1,3⟩]
  r5n:p5.ck.now=0
  r6:topI p6.dp.co.ce=3
  r6y:p6.checkE y1T=24
  r6z:p6.checkE y2T=0
  r6l:p6.tk.rows.length=3
  r7:(p7.run 5).1=5
  r8:(p8.run 9).1=2
  r8p:qJp p8.dp.co.jobs 1=(1:Nat)
  r8f:p8.dp.co.ar.fr[1]? = some ⟨6,[5]⟩
  r9l:p9.left=0
  r9a:p9.releaseE 1=40
  r9b:p9.releaseE 9=1
  r9n:p9.ck.now=2
  r9g:p9.ev.gone=0
  r9v:(p9.ev.l.map (·.kind)).take 7 = [1,1,1,2,4,5,7]
theorem sc13:∃p0 p1 p2 p3 p4 p5 p6 p7 p8 p9:KeM,Sc13 p0 p1 p2 p3 p4 p5 p6 p7 p8 p9 :=
  ⟨q0,q1,q2,q3,q4,q5,q6,q7,q8,q9,rfl,rfl,rfl,rfl,rfl,rfl,rfl,rfl,rfl,rfl,
    qYI.1,qYI.2.1,qYI.2.2.1,qYI.2.2.2.1,qYI.2.2.2.2.1,qYI.2.2.2.2.2.1,qYI.2.2.2.2.2.2.1,qYI.2.2.2.2.2.2.2.1,qYI.2.2.2.2.2.2.2.2.1,qYI.2.2.2.2.2.2.2.2.2,
    zKF,by kernel_rfl,zXw.1,zXw.2,zKq,zXj.1,zXj.2,q3_r.1,q3_r.2,q4_s.1,q4_s.2,q5_t.1,q5_t.2.1,q5_t.2.2,q6_y.1,q6_y.2.1,q6_y.2.2,q7_r,q8_r.1,q8_f.1,q8_f.2,q8_r.2,q9_e.1,q9_e.2.1,q9_e.2.2.1,q9_e.2.2.2,q9_v⟩
end
section
open Go.RowKit Spl
attribute [local go_sem] Oper.semAt_some
theorem qWS {w0 w:World} {R:List Pr} {g:Nat} (H:Hd w0 (cel g 63 #[.int .i64 0,.int .i64 1]::R) w):Hd w0 (SlE 63 (.slice (some ⟨g,0,none⟩) 1 1) [(⟨0,1⟩:qZy)]::R) w :=
  ((show Hd w0 (cel g 63 (([.int .i64 0,.int .i64 1]:List Value)++[]).toArray::R) w from H).slcC_mk (n:=1) (cap:=1) (size:=2) rfl (Nat.le_refl _) (by unfold maxLen;omega) (by decide)).slc_mk
theorem qq9 {w0 w:World} {R:List Pr} {g:Nat} {x:Int} (H:Hd w0 (cel g 3 #[.int .i64 x]::R) w):Hd w0 (SlE 3 (.slice (some ⟨g,0,none⟩) 1 1) [x]::R) w :=
  ((show Hd w0 (cel g 3 (([.int .i64 x]:List Value)++[]).toArray::R) w from H).slcC_mk (n:=1) (cap:=1) (size:=1) rfl (Nat.le_refl _) (by unfold maxLen;omega) (Nat.le_refl _)).slc_mk
section
variable {w0 w:World} {R:List Pr}
theorem Hd.ro_nil (H:Hd w0 R w):Hd w0 (ro (fun _=>none)::R) w :=
  ⟨H.1,fun _=>none,fun i=>w.heap[i]?,fun _=>.inl rfl,by funext i;rfl,rfl,H.2⟩
theorem zXp (H:Hd w0 R w):Calls Tryz.prog 33 #[] w fun e w'=>∃nv,e=.returned (qYL loT nv)∧Hd w0 (SlE 63 nv loT.needs::R) w':=by
  have H1:Hd w0 _ (w.alloc (.cells #[.string ⟨#[]⟩,.int .i64 0,.int .i64 0,.slice none 0 0,.string ⟨#[]⟩,.int .i64 0,.int .i64 0,.int .i64 0] 36)):=H.fol
  have H2:Hd w0 _ ((w.alloc (.cells #[.string ⟨#[]⟩,.int .i64 0,.int .i64 0,.slice none 0 0,.string ⟨#[]⟩,.int .i64 0,.int .i64 0,.int .i64 0] 36)).alloc (.cells #[.int .i64 0,.int .i64 1] 63)):=H1.fol
  have hf:=(H2.k w.heap.size).fact1
  simp only [Nat.reduceAdd] at hf
  go_split_ands
  go_enter Tryz.func33,Tryz.ntmps33
  go_wp2_with fail
  have H3:Hd w0 _ ((w.alloc (.cells #[.string loT.nm,.int .i64 loT.lv,.int .i64 loT.fr,.slice (some ⟨w.heap.size+1,0,none⟩) 1 1,.string loT.cd,.int .i64 loT.p,.int .i64 loT.f,.int .i64 loT.g] 36)).alloc (.cells #[.int .i64 0,.int .i64 1] 63)):=H.fol
  refine bodyPost_ret (qQC rfl _ _ w.heap.size 36 #[.string loT.nm,.int .i64 loT.lv,.int .i64 loT.fr,.slice (some ⟨w.heap.size+1,0,none⟩) 1 1,.string loT.cd,.int .i64 loT.p,.int .i64 loT.f,.int .i64 loT.g] (0,0) _ rfl (by exact (H3.k w.heap.size).heap) Tryz.underlying36 rfl (by kernel_rfl)) rfl ⟨_,rfl,?_⟩
  exact qWS H3.re
theorem zXe (H:Hd w0 R w):Calls Tryz.prog 34 #[] w fun e w'=>∃nv,e=.returned (qYL hiT nv)∧Hd w0 (SlE 63 nv hiT.needs::R) w':=by
  have H1:Hd w0 _ (w.alloc (.cells #[.string ⟨#[]⟩,.int .i64 0,.int .i64 0,.slice none 0 0,.string ⟨#[]⟩,.int .i64 0,.int .i64 0,.int .i64 0] 36)):=H.fol
  have H2:Hd w0 _ ((w.alloc (.cells #[.string ⟨#[]⟩,.int .i64 0,.int .i64 0,.slice none 0 0,.string ⟨#[]⟩,.int .i64 0,.int .i64 0,.int .i64 0] 36)).alloc (.cells #[.int .i64 0,.int .i64 1] 63)):=H1.fol
  have hf:=(H2.k w.heap.size).fact1
  simp only [Nat.reduceAdd] at hf
  go_split_ands
  go_enter Tryz.func34,Tryz.ntmps34
  go_wp2_with fail
  have H3:Hd w0 _ ((w.alloc (.cells #[.string hiT.nm,.int .i64 hiT.lv,.int .i64 hiT.fr,.slice (some ⟨w.heap.size+1,0,none⟩) 1 1,.string hiT.cd,.int .i64 hiT.p,.int .i64 hiT.f,.int .i64 hiT.g] 36)).alloc (.cells #[.int .i64 0,.int .i64 1] 63)):=H.fol
  refine bodyPost_ret (qQC rfl _ _ w.heap.size 36 #[.string hiT.nm,.int .i64 hiT.lv,.int .i64 hiT.fr,.slice (some ⟨w.heap.size+1,0,none⟩) 1 1,.string hiT.cd,.int .i64 hiT.p,.int .i64 hiT.f,.int .i64 hiT.g] (0,0) _ rfl (by exact (H3.k w.heap.size).heap) Tryz.underlying36 rfl (by kernel_rfl)) rfl ⟨_,rfl,?_⟩
  exact qWS H3.re
end
end
section
open Go.RowKit Spl
attribute [local go_sem] Oper.semAt_some
section
variable {w0 w:World} {R:List Pr}
theorem zZM {w0 w:World} {R:List Pr} {g:Nat} {a b c:Int} (H:Hd w0 (cel g 42 #[.int .i64 a,.int .i64 b,.int .i64 c]::R) w):Hd w0 (SlE 42 (.slice (some ⟨g,0,none⟩) 1 1) [(⟨a,b,c⟩:qQh)]::R) w :=
  ((show Hd w0 (cel g 42 (([.int .i64 a,.int .i64 b,.int .i64 c]:List Value)++[]).toArray::R) w from H).slcC_mk (n:=1) (cap:=1) (size:=3) rfl (Nat.le_refl _) (by unfold maxLen;omega) (Nat.le_refl _)).slc_mk
theorem zZX:∀k:Nat,k<7→∃κ:Int,([1,1,1,2,4,5,7]:List Int)[k]? = some κ∧(#[.int .i64 1,.int .i64 1,.int .i64 1,.int .i64 2,.int .i64 4,.int .i64 5,.int .i64 7]:Array Value)[k]? = some (.int .i64 κ):=by
  intro k hk
  rcases k with _ | _ | _ | _ | _ | _ | _ | k
  all_goals first | exact ⟨_,rfl,rfl⟩ | omega
theorem qWD {α:Type} [Enc α] {w0:World} {R:List Pr}:Srg w0 R (.slice none 0 0) ([]:List α):=.inl ⟨rfl,rfl⟩
theorem qJ0 [Lay w0 R] (H:Hd w0 R w):Calls Tryz.prog 10 #[] w fun e w'=>e=.returned (.bool true)∧Hd w0 R w':=by
  obtain ⟨p0,p1,p2,p3,p4,p5,p6,p7,p8,p9,hsc⟩:=sc13
  replace hsc:=Lib.hid hsc
  have h0:=zJw H (words:=-1) (units:=[]) qWD (E:=1) (by decide) (by decide)
  go_enter Tryz.func10,Tryz.ntmps10
  go_wp2_with fail
  refine h0.mono ?_
  rintro e w1 ⟨rfl,H1⟩
  clear h0 H
  have H2:Hd w0 _ (w1.alloc (.cells #[.int .i64 1] 3)):=H1.fol
  have H3:Hd w0 (SlE 3 (.slice (some ⟨w1.heap.size,0,none⟩) 1 1) [(1:Int)]::R) (w1.alloc (.cells #[.int .i64 1] 3)):=qq9 H2.re
  have h0:=zXI (S:=fun _=>none) (R:=SlE 3 (.slice (some ⟨w1.heap.size,0,none⟩) 1 1) [(1:Int)]::R) (Hd.ro_nil H3) (words:=10) (units:=[1]) ((Srg.slE H3).of fun h=>h.tail) (by decide)
  go_wp2_with fail
  refine h0.mono ?_
  rintro e w2 ⟨z,rfl,H4⟩
  clear h0 H3 H2 H1
  rw [hsc.out.e0] at H4
  obtain ⟨zk,zc,zr,⟨zd,zo,zq,⟨zl,zt,za,zu,ze⟩⟩⟩:=z
  have hl:=zXp H4
  go_wp2_with fail
  refine hl.mono ?_
  rintro e w3 ⟨nv,rfl,H5⟩
  clear hl H4
  have hr:=qZg (show Hd w0 (KeL ⟨zk,zc,zr,⟨zd,zo,zq,⟨zl,zt,za,zu,ze⟩⟩⟩ (fun _=>none) p0 (SlE 63 nv loT.needs::R)) w3 from H5.re) hsc.out.i0 (by decide) loT (Srg.slE (show Hd w0 (SlE 63 nv loT.needs::R) w3 from H5.re)) (by decide)
  rw [hsc.out.r0,hsc.out.r0l,hsc.out.e1,if_pos rfl] at hr
  go_wp2_with fail
  refine hr.mono ?_
  rintro e w4 ⟨rfl,S1,-,H6⟩
  clear hr H5
  have H7:Hd w0 (KeL ⟨zk,zc,zr,⟨zd,zo,zq,⟨zl,zt,za,zu,ze⟩⟩⟩ S1 p1 R) w4:=H6.re
  have hl:=zXe H7
  clear H6
  go_wp2_with fail
  refine hl.mono ?_
  rintro e w5 ⟨nv2,rfl,H8⟩
  clear hl H7
  have hr:=qZg (show Hd w0 (KeL ⟨zk,zc,zr,⟨zd,zo,zq,⟨zl,zt,za,zu,ze⟩⟩⟩ S1 p1 (SlE 63 nv2 hiT.needs::R)) w5 from H8.re) hsc.out.i1 (by decide) hiT (Srg.slE (show Hd w0 (SlE 63 nv2 hiT.needs::R) w5 from H8.re)) (by decide)
  rw [hsc.out.r1,hsc.out.r1l,hsc.out.e2,if_pos rfl] at hr
  go_wp2_with fail
  refine hr.mono ?_
  rintro e w6 ⟨rfl,S2,-,H9⟩
  clear hr H8
  have H10:Hd w0 (KeL ⟨zk,zc,zr,⟨zd,zo,zq,⟨zl,zt,za,zu,ze⟩⟩⟩ S2 p2 R) w6:=H9.re
  clear H9
  have hr:=qZg H10 hsc.out.i2 (by decide) x1T qWD (by decide)
  have hx:p2.register x1T=p2:=by unfold KeM.register;rw [if_neg (by rw [hsc.out.r2];decide)]
  rw [hsc.out.r2,hx,if_neg (by decide)] at hr
  clear hx
  go_wp2_with fail
  refine hr.mono ?_
  rintro e w7 ⟨rfl,S3,-,H11⟩
  clear hr H10
  have hr:=qZg H11 hsc.out.i2 (by decide) x2T qWD (by decide)
  rw [hsc.out.r2x,hsc.out.r2l,hsc.out.e3,if_pos rfl] at hr
  go_wp2_with fail
  refine hr.mono ?_
  rintro e w8 ⟨rfl,S4,-,H12⟩
  clear hr H11
  have hr:=qZ2 H12 hsc.out.i3 (by decide) 0
  rw [hsc.out.r3,hsc.out.r3c,hsc.out.e4,if_pos rfl] at hr
  go_wp2_with fail
  refine hr.mono ?_
  rintro e w9 ⟨rfl,H13⟩
  clear hr H12
  have hr:=zQl H13 hsc.out.i4 (by decide)
  obtain ⟨D,hD⟩:∃D,p4.step.1=D:=⟨_,rfl⟩
  have hd1:=hsc.out.r4
  have hd2:=hsc.out.r4k
  rw [hD] at hr hd1 hd2
  rw [hsc.out.e5] at hr
  obtain ⟨ds,⟨sj,st,sl⟩,di,⟨dj,dt,⟨ok,or,on,ov⟩,why,fin⟩⟩:=D
  dsimp only at hd1 hd2
  subst hd1
  subst hd2
  clear hD
  go_wp2_with fail
  refine hr.mono ?_
  rintro e w10 ⟨rfl,S5,-,H14⟩
  clear hr H13
  go_wp2_with fail
  have H15:Hd w0 _ (w10.alloc (.cells #[.bool true,.int .i64 sj,.int .i64 st,.int .i64 sl,.bool di,.int .i64 dj,.int .i64 dt,.int .i64 1,.int .i64 or,.int .i64 on,.int .i64 ov,.int .i64 why,.bool fin] 87)):=H14.fol
  have ht:=zQy (n:=2) (show Hd w0 (KeL ⟨zk,zc,zr,⟨zd,zo,zq,⟨zl,zt,za,zu,ze⟩⟩⟩ S5 p5 (cel w10.heap.size 87 #[.bool true,.int .i64 sj,.int .i64 st,.int .i64 sl,.bool di,.int .i64 dj,.int .i64 dt,.int .i64 1,.int .i64 or,.int .i64 on,.int .i64 ov,.int .i64 why,.bool fin]::R)) _ from H15.re) hsc.out.i5 (by decide) (by decide) (by rw [hsc.out.r5n];decide) (by decide)
  rw [hsc.out.r5,hsc.out.e6] at ht
  clear H14 H15
  refine ht.mono ?_
  rintro e w11 ⟨lv,rfl,H16⟩
  clear ht
  have d0:=(show _=some (Value.bool true) from (H16.k w10.heap.size).ce 0 rfl)
  have d7:=(show _=some (Value.int .i64 1) from (H16.k w10.heap.size).ce 7 rfl)
  have k0:=(show _=some (Value.pointer (some ⟨zl,0,none⟩)) from (H16.k zk).ce 0 rfl)
  have hce:p6.dp.co.ce.length≤100000:=by
    have h1:=hsc.out.i6.d.c.b.cl
    have h2:=hsc.out.i6.d.c.b.u.locksTop
    omega
  have hc:=qJD (x:=⟨zl,zt,za,zu,ze⟩) (S:=S5) (m:=p6.dp.co) (R:=SlE 42 lv [(⟨1,1,3⟩:qQh)]::R) (show Hd w0 (LkP ⟨zl,zt,za,zu,ze⟩ S5 p6.dp.co::SlE 42 lv [(⟨1,1,3⟩:qQh)]::R) w11 from H16.re) hce
  rw [hsc.out.r6] at hc
  clear hce
  go_wp2_with fail
  refine hc.mono ?_
  rintro e w12 ⟨rfl,rfl⟩
  clear hc
  have H17:Hd w0 _ (w11.alloc (.cells #[.int .i64 1,.int .i64 1,.int .i64 3] 42)):=H16.fol
  have hsm:=qKG (RdL.of_slE (show Hd w0 (SlE 42 lv [(⟨1,1,3⟩:qQh)]::R) _ from H17.re) (by simp)) (RdL.of_slE (zZM (show Hd w0 (cel w11.heap.size 42 #[.int .i64 1,.int .i64 1,.int .i64 3]::R) _ from H17.re)) (by simp))
  rw [decide_eq_true rfl] at hsm
  go_wp2_with fail
  refine hsm.mono ?_
  rintro e w12 ⟨rfl,n1,rfl⟩
  clear hsm d0 d7 k0
  have H18:Hd w0 (KeL ⟨zk,zc,zr,⟨zd,zo,zq,⟨zl,zt,za,zu,ze⟩⟩⟩ S5 p6 R) _:=(H17.drewN n1).re
  clear H17 H16
  generalize hwA:World.drewN _ n1=wA at H18 ⊢
  clear hwA
  have H19:Hd w0 _ (wA.alloc (.cells #[.int .i64 0,.int .i64 1] 63)):=H18.fol
  have H20:Hd w0 (SlE 63 (.slice (some ⟨wA.heap.size,0,none⟩) 1 1) [(⟨0,1⟩:qZy)]::KeL ⟨zk,zc,zr,⟨zd,zo,zq,⟨zl,zt,za,zu,ze⟩⟩⟩ S5 p6 R) _:=qWS (show Hd w0 (cel wA.heap.size 63 #[.int .i64 0,.int .i64 1]::KeL ⟨zk,zc,zr,⟨zd,zo,zq,⟨zl,zt,za,zu,ze⟩⟩⟩ S5 p6 R) _ from H19.re)
  have hr:=qZg (show Hd w0 (KeL ⟨zk,zc,zr,⟨zd,zo,zq,⟨zl,zt,za,zu,ze⟩⟩⟩ S5 p6 (SlE 63 (.slice (some ⟨wA.heap.size,0,none⟩) 1 1) [(⟨0,1⟩:qZy)]::R)) _ from H20.re) hsc.out.i6 (by decide) y1T (Srg.slE (show Hd w0 (SlE 63 (.slice (some ⟨wA.heap.size,0,none⟩) 1 1) [(⟨0,1⟩:qZy)]::R) _ from H20.re)) (by decide)
  have hx:p6.register y1T=p6:=by unfold KeM.register;rw [if_neg (by rw [hsc.out.r6y];decide)]
  rw [hsc.out.r6y,hx,if_neg (by decide)] at hr
  clear hx H18 H19 H20
  go_wp2_with fail
  refine hr.mono ?_
  rintro e w13 ⟨rfl,S6,-,H21⟩
  clear hr
  have H22:Hd w0 (KeL ⟨zk,zc,zr,⟨zd,zo,zq,⟨zl,zt,za,zu,ze⟩⟩⟩ S6 p6 R) w13:=H21.re
  clear H21
  have hr:=qZg H22 hsc.out.i6 (by decide) y2T qWD (by decide)
  rw [hsc.out.r6z,hsc.out.r6l,hsc.out.e7,if_pos rfl] at hr
  go_wp2_with fail
  refine hr.mono ?_
  rintro e w14 ⟨rfl,S7,-,H23⟩
  clear hr H22
  have hr:=zQx (n:=5) H23 hsc.out.i7 (by decide) (by decide)
  rw [hsc.out.r7,hsc.out.e8] at hr
  go_wp2_with fail
  refine hr.mono ?_
  rintro e w15 ⟨rfl,S8,-,H24⟩
  clear hr H23
  have k0:=(show _=some (Value.pointer (some ⟨zl,0,none⟩)) from (H24.k zk).ce 0 rfl)
  have hfew:p8.dp.co.jobs.length≤1000:=by have:=(hsc.out.i8.d.c.few hsc.out.i8.t.t).1;omega
  have hc:=zJX (x:=⟨zl,zt,za,zu,ze⟩) (S:=S8) (m:=p8.dp.co) (show Hd w0 (LkP ⟨zl,zt,za,zu,ze⟩ S8 p8.dp.co::cel zk 53 #[.pointer (some ⟨zl,0,none⟩),.pointer (some ⟨zt,0,none⟩),.pointer (some ⟨zd,0,none⟩),.pointer (some ⟨zc,0,none⟩),.pointer (some ⟨zr,0,none⟩)] ::
    qQE zc p8.ck::qQT zr p8.ev::cel zd 123 #[.pointer (some ⟨zl,0,none⟩),.pointer (some ⟨zt,0,none⟩),.pointer (some ⟨zo,0,none⟩),.pointer (some ⟨zq,0,none⟩),.int .i64 p8.dp.count]::cel zo 194 (qQj zo zl)::WqP zq p8.dp.wq::TkP zt p8.tk S8::ro S8::R) w15 from H24.re) hsc.out.i8.d.c.b.a hfew hsc.out.r8p hsc.out.r8f
  clear hfew
  go_wp2_with fail
  refine hc.mono ?_
  rintro e w16 ⟨fv,rfl,H25⟩
  clear hc k0 H24
  have H26:Hd w0 _ (w16.alloc (.cells #[.int .i64 5] 3)):=H25.fol
  have hsm:=zQ3 (xs:=[5]) (ys:=[5]) (Rds.of_slc (show Hd w0 (SlE 3 fv [(5:Int)]::R) _ from H26.re) (by decide)) (Rds.of_slc (qq9 (show Hd w0 (cel w16.heap.size 3 #[.int .i64 5]::R) _ from H26.re)) (by decide))
  rw [decide_eq_true rfl] at hsm
  go_wp2_with fail
  refine hsm.mono ?_
  rintro e w17 ⟨rfl,n2,rfl⟩
  clear hsm
  have H27:Hd w0 (KeL ⟨zk,zc,zr,⟨zd,zo,zq,⟨zl,zt,za,zu,ze⟩⟩⟩ S8 p8 R) _:=(H26.drewN n2).re
  clear H26 H25
  generalize hwB:World.drewN _ n2=wB at H27 ⊢
  clear hwB
  have hr:=zQx (n:=9) H27 hsc.out.i8 (by decide) (by decide)
  rw [hsc.out.r8,hsc.out.e9] at hr
  go_wp2_with fail
  refine hr.mono ?_
  rintro e w18 ⟨rfl,S9,-,H28⟩
  clear hr H27
  have hr:=zJV H28 hsc.out.i9
  rw [hsc.out.r9l] at hr
  go_wp2_with fail
  refine hr.mono ?_
  rintro e w19 ⟨rfl,H29⟩
  clear hr H28
  have hr:=qZ2 H29 hsc.out.i9 (by decide) 1
  have hx:p9.release 1=p9:=by unfold KeM.release;rw [if_neg (by rw [hsc.out.r9a];decide)]
  rw [hsc.out.r9a,hx,if_neg (by decide)] at hr
  clear hx
  go_wp2_with fail
  refine hr.mono ?_
  rintro e w20 ⟨rfl,H30⟩
  clear hr H29
  have hr:=qZ2 H30 hsc.out.i9 (by decide) 9
  have hx:p9.release 9=p9:=by unfold KeM.release;rw [if_neg (by rw [hsc.out.r9b];decide)]
  rw [hsc.out.r9b,hx,if_neg (by decide)] at hr
  clear hx
  go_wp2_with fail
  refine hr.mono ?_
  rintro e w21 ⟨rfl,H31⟩
  clear hr H30
  have hr:=qWP H31 (n:=0) (by rw [hsc.out.r9n];decide) (.inl (by decide))
  have hr2:=qWP H31 (n:=1001) (by rw [hsc.out.r9n];decide) (.inr (.inl (by decide)))
  go_wp2_with fail
  refine hr.mono ?_
  rintro e w22 ⟨rfl,rfl⟩
  clear hr
  go_wp2_with fail
  refine hr2.mono ?_
  rintro e w22 ⟨rfl,rfl⟩
  clear hr2
  have hr:=zQV (n:=-1) (by decide) w21 zk
  go_wp2_with fail
  refine hr.mono ?_
  rintro e w22 ⟨rfl,rfl⟩
  clear hr
  have hr:=zZR H31 hsc.out.i9.e
  go_wp2_with fail
  refine hr.mono ?_
  rintro e w22 ⟨ev,rfl,H32⟩
  clear hr H31
  have hlen:7≤p9.ev.l.length:=by
    have:=congrArg List.length hsc.out.r9v
    rw [List.length_take,List.length_map] at this
    simp at this
    omega
  have hmax:p9.ev.l.length≤4096:=Nat.le_trans hsc.out.i9.e.l hsc.out.i9.e.m1
  obtain ⟨ge,ce,rfl,H33⟩:=H32.slc_at (by omega)
  have H34:Hd w0 _ (w22.alloc (.cells #[.int .i64 1,.int .i64 1,.int .i64 1,.int .i64 2,.int .i64 4,.int .i64 5,.int .i64 7] 3)):=H33.fol
  clear H32
  obtain ⟨L,hL⟩:∃L,p9.ev.l.length=L:=⟨_,rfl⟩
  rw [hL] at hlen hmax
  rw [hL]
  have hcell:Hid (∀k:Nat,k<7→∃κ:Int,(w22.alloc (.cells #[.int .i64 1,.int .i64 1,.int .i64 1,.int .i64 2,.int .i64 4,.int .i64 5,.int .i64 7] 3)).cell? ⟨w22.heap.size,k,none⟩=some (.int .i64 κ) ∧
      (w22.alloc (.cells #[.int .i64 1,.int .i64 1,.int .i64 1,.int .i64 2,.int .i64 4,.int .i64 5,.int .i64 7] 3)).cell? ⟨ge,k*9,none⟩=some (.int .i64 κ)):=Lib.hid fun k hk=>by
    obtain ⟨κ,e1,e2⟩:=zZX k hk
    have e3:(p9.ev.l.map (·.kind))[k]? = some κ:=by
      have:((p9.ev.l.map (·.kind)).take 7)[k]? = _:=congrArg (fun l=>l[k]?) hsc.out.r9v
      rw [List.getElem?_take,if_pos hk,e1] at this
      exact this
    rw [List.getElem?_map] at e3
    cases hx:p9.ev.l[k]? with
    | none=>rw [hx] at e3;cases e3
    | some x =>
      rw [hx] at e3
      have e3:x.kind=κ:=by injection e3
      refine ⟨κ,(show Hd w0 (cel w22.heap.size 3 _::R) _ from H34.re).ce k e2,?_⟩
      have h:=(show Hd w0 (SlcC 96 (Enc.size EvM) ge p9.ev.l.length ce (flat p9.ev.l)::R) _ from H34.re).slcC_rd (qQi hx (j:=0) rfl)
      rw [← e3]
      simpa only [Enc.size,Nat.add_zero] using h
  have H35:Hd w0 (KeL ⟨zk,zc,zr,⟨zd,zo,zq,⟨zl,zt,za,zu,ze⟩⟩⟩ S9 p9 R) _:=H34.re
  clear H34 H33
  go_wp2_with fail
  generalize hwC:w22.alloc _=wC at hcell H35 ⊢
  obtain ⟨gk,hgk⟩:∃gk,w22.heap.size=gk:=⟨_,rfl⟩
  rw [hgk] at hcell ⊢
  replace hL:=Lib.hid hL
  clear hwC hgk
  go_loopw [21] (fun y wr=>∃k n:Nat,k≤7∧y=.int .i64 k∧wr=wC.drewN n) (fun y _=>7-(intOf y).toNat)
  case atStart=>exact ⟨0,0,Nat.zero_le _,rfl,rfl⟩
  case round =>
    obtain ⟨k,n,hk,rfl,rfl⟩:=hrel
    by_cases hlt:k<7
    · obtain ⟨κ,c1,c2⟩:=hcell.out k hlt
      have m1:(k:Int)<7:=by omega
      have m2:¬(k:Int)<0:=by omega
      have m3:¬7≤k:=by omega
      have m4:¬L≤k:=by omega
      have m5:(k:Int)<L:=by omega
      have m6:decide ((L:Int)≤k)=false:=by simp;omega
      have g6:IntKind.i64.wrap ((k:Int)+1)=(k:Int)+1:=IntWalk.i64_in _ (by omega)
      go_wp2_with (go_quiet (fail))
      go_roundw
      case rel=>exact ⟨k+1,_,by omega,by go_num,by first | rfl | (rw [World.drewN_drewN])⟩
      case measure=>simp [intOf];omega
    · obtain rfl:k=7:=by omega
      have hd:=zQ7 (H35.drewN n)
      rw [hsc.out.r9g] at hd
      go_wp2_with fail
      refine hd.mono ?_
      rintro e w23 ⟨rfl,rfl⟩
      clear hd
      go_wp2_with fail
      go_ret
      exact ⟨rfl,(H35.drewN n).re⟩
end
end
section
open Go.RowKit Spl
def insN (l:List RowN) (x:RowN):List RowN:=l.take (pos l x.k)++x::l.drop (pos l x.k)
def qQF (rs:List RowM):Nat→List RowN
  | 0=>[]
  | k+1=>match rs[k]? with
    | none=>qQF rs k
    | some r=>insN (qQF rs k) ⟨r.t.nm,k⟩
theorem qJ8 (rs:List RowM) (r:RowM):∀k,k≤rs.length→qQF (rs++[r]) k=qQF rs k
  | 0,_=>rfl
  | k+1,h=>by
    unfold qQF
    rw [List.getElem?_append_left (by omega),qJ8 rs r k (by omega)]
structure Ext (m:KeM):Prop where
  pd:∀(i:Nat) (r:RowM) (p:Pat),m.tk.rows[i]? = some r→m.ck.l[i]? = some p→p.period=r.t.p
  nm:m.tk.names=qQF m.tk.rows m.tk.rows.length
  nd:∀(i:Nat) (r:RowM),m.tk.rows[i]? = some r→qQs (qQF m.tk.rows i) r.t.nm=none
  hi:(m.dp.co.ar.high:Int)≤qQ1 m.tk.rows
theorem qUa (now:Int) (p:Pat):(p.tick now).period=p.period:=by unfold Pat.tick;split <;> rfl
namespace Ext
variable {m:KeM} {n:Nat}
theorem event (h:Ext m) (e:EvM):Ext (m.event e):=⟨h.pd,h.nm,h.nd,h.hi⟩
theorem tickE (h:Ext m):Ext m.tickE:=by
  refine ⟨fun i r p hr hp=>?_,h.nm,h.nd,h.hi⟩
  have hp2:m.ck.tick.l[i]? = some p:=hp
  unfold Clk.tick at hp2
  split at hp2
  · exact h.pd i r p hr hp2
  · rw [List.getElem?_map] at hp2
    cases hq:m.ck.l[i]? with
    | none=>rw [hq] at hp2;cases hp2
    | some q =>
      rw [hq] at hp2
      injection hp2 with hp2
      subst hp2
      rw [qUa]
      exact h.pd i r q hr hq
theorem qUi {c:Clk} {j:Int} {i:Nat} {p:Pat} (h:(c.note j).l[i]? = some p):∃q,c.l[i]? = some q∧p.period=q.period:=by
  unfold Clk.note at h
  cases hj:c.at? j with
  | none=>rw [hj] at h;exact ⟨p,h,rfl⟩
  | some q =>
    rw [hj] at h
    dsimp only at h
    by_cases hi:j.toNat=i
    · subst hi
      have hq:c.l[j.toNat]? = some q:=by
        unfold Clk.at? at hj
        split at hj
        · exact hj
        · cases hj
      rw [List.getElem?_set_self (qQa hq)] at h
      injection h with h
      subst h
      exact ⟨q,hq,rfl⟩
    · rw [List.getElem?_set_ne hi] at h
      exact ⟨p,h,rfl⟩
theorem qqV (tk:TkM) (m:DpM) (i:Nat):(m.release tk i).co=m.co:=by
  unfold DpM.release
  split
  · rfl
  · split <;> rfl
theorem took (h:Ext m) (i:Nat):Ext (m.took i):=by
  refine ⟨fun j r p hr hp=>?_,h.nm,h.nd,?_⟩
  · obtain ⟨q,hq,e⟩:=qUi (c:=m.ck) (j:=i) hp
    rw [e]
    exact h.pd j r q hr hq
  · show ((m.dp.release m.tk i).co.ar.high:Int)≤_
    rw [qqV]
    exact h.hi
theorem due (h:Ext m) (i:Nat):Ext (m.due i):=by
  unfold KeM.due
  split
  · exact h.took i
  · exact h.event _
theorem dues:∀ {l:List Int} {m:KeM} (_:Ext m),Ext (m.dues l).2
  | [],_,h=>h
  | i::l,_,h=>dues (l:=l) (h.due i.toNat)
theorem ticks:∀ {k:Nat} {m:KeM} (_:Ext m),Ext (m.ticks k).2
  | 0,_,h=>h
  | k+1,m,h=>ticks (k:=k) (dues (l:=m.ck.tickL) h.tickE)
theorem release (h:Ext m) (i:Int):Ext (m.release i):=by
  unfold KeM.release
  split
  · exact h.took _
  · exact h
theorem zQ8 {tk:TkM} {m:CoM} (j:StM) (o:OpM):(actM tk m j o).2.ar.high=m.ar.high:=by
  have hpush:∀(a:ArM) (v:Int),(a.push v).high=a.high:=by
    intro a v;unfold ArM.push;split
    · rfl
    · split <;> rfl
  have hpop:∀(a:ArM),a.pop.high=a.high:=by
    intro a;unfold ArM.pop;split
    · rfl
    · split <;> rfl
  unfold actM
  split
  · split <;> rfl
  · split
    · split <;> rfl
    · split
      · exact hpush _ _
      · split
        · exact hpop _
        · split
          · split
            · exact hpush _ _
            · rfl
          · split
            · split
              · split
                · exact hpop _
                · exact hpop _
              · rfl
            · split
              · split
                · rfl
                · dsimp only;rw [hpush,hpop,hpop]
              · rfl
theorem qUC {tk:TkM} {m m':CoM} {d:qYE} (hs:m.step tk=some (d,m')):m'.ar.high=m.ar.high:=by
  unfold CoM.step at hs
  split at hs
  · cases hs
  · split at hs
    · cases hs
    · split at hs
      · injection hs with hs;injection hs with h1 h2;subst h2;rfl
      · injection hs with hs;injection hs with h1 h2;subst h2
        exact zQ8 _ _
theorem qqs {tk:TkM} {m:DpM} (ht:TkI tk) (h:DpI tk m) (hh:(m.co.ar.high:Int)≤qQ1 tk.rows):((m.begin tk).2.co.ar.high:Int)≤qQ1 tk.rows:=by
  have hb:=(h.begin ht).1
  unfold DpM.begin at hb ⊢
  cases hm:m.may with
  | none=>exact hh
  | some v =>
    obtain ⟨hv,hp,r,hr,hlv,ho,hab⟩:=h.next ht hm
    rw [hm] at hb
    dsimp only at hb ⊢
    rw [hr] at hb ⊢
    dsimp only at hb ⊢
    have h3:=qXf ht.t.fr (f:=fun j=>(frOf tk j:Int)) (l:=(m.co.begun v.job v.task.toNat r).jobs) (a:=0) (k:=33) hb.c.rise (fun j hj=>by
      obtain ⟨r',hr',e,_⟩:=(hb.c.j j hj).r
      have h4:=hb.c.levels ht.t j hj
      have h5:=qJO (List.mem_of_getElem? hr')
      rw [e] at h5
      have h6:=qKI ht.t hr'
      exact ⟨by omega,by omega,by omega⟩) (by omega)
    rw [← qWw,← hb.c.fr] at h3
    have h8:qQP tk.rows 0=0:=by simp [qQP]
    rw [h8] at h3
    have e1:(m.co.begun v.job v.task.toNat r).ar=m.co.ar.openF r.t.fr:=rfl
    rw [e1] at h3 ⊢
    have e2:(((m.co.ar.openF r.t.fr).fr.map FrM.size).sum:Int)=(m.co.ar.openF r.t.fr).used:=rfl
    have e3:(m.co.ar.openF r.t.fr).high=max m.co.ar.high (m.co.ar.used+r.t.fr.toNat)∧(m.co.ar.openF r.t.fr).used=m.co.ar.used+r.t.fr.toNat:=by
      unfold ArM.openF
      rw [if_pos ho]
      refine ⟨rfl,?_⟩
      unfold ArM.used
      rw [qQ2,qZz]
    have e4:qQ1 tk.rows=qQP tk.rows 33:=rfl
    rw [e3.1]
    rw [e2,e3.2] at h3
    omega
theorem step (h:Ext m) (hi:KeI m n):Ext m.step.2:=by
  have h1:Ext ⟨m.tk,(m.dp.step m.tk).2,m.ck,m.ev⟩:=by
    refine ⟨h.pd,h.nm,h.nd,?_⟩
    have h2:=qqs hi.t hi.d h.hi
    show ((m.dp.step m.tk).2.co.ar.high:Int)≤qQ1 m.tk.rows
    unfold DpM.step
    cases hs:(m.dp.begin m.tk).2.co.step m.tk with
    | none=>exact h2
    | some y =>
      obtain ⟨d,co⟩:=y
      dsimp only
      rw [qUC hs]
      exact h2
  unfold KeM.step
  dsimp only
  have h2:Ext (if (m.dp.step m.tk).1.started=true then KeM.event ⟨m.tk,(m.dp.step m.tk).2,m.ck,m.ev⟩ (qZu (m.dp.step m.tk).1.start.task (m.dp.step m.tk).1.start.job) else ⟨m.tk,(m.dp.step m.tk).2,m.ck,m.ev⟩):=by
    split
    · exact h1.event _
    · exact h1
  split
  · exact h2.event _
  · split
    · exact (h2.event _).event _
    · exact h2.event _
theorem register (h:Ext m) (hi:KeI m n) (x:qQY):Ext (m.register x):=by
  unfold KeM.register
  split
  · rename_i hE
    have hc:=qZL hE
    obtain ⟨h1,h2,h3,h4,h5,h6,h7,h8⟩:=qJS hc
    have hl:=hi.kl
    have hck:(m.ck.add x.p x.f x.g).l=m.ck.l++[⟨x.p,x.g,m.ck.now+x.f,0,false⟩]:=by
      unfold Clk.add Clk.full
      rw [if_neg (by simp;omega),if_pos h5]
    refine event (m:=⟨m.tk.added x,m.dp,m.ck.add x.p x.f x.g,m.ev⟩) ⟨fun i r p hr hp=>?_,?_,fun i r hr=>?_,?_⟩ _
    · have hr2:(m.tk.rows++[⟨x,(qQB x.cd).1⟩])[i]? = some r:=hr
      have hp2:(m.ck.add x.p x.f x.g).l[i]? = some p:=hp
      rw [hck] at hp2
      by_cases hlt:i<m.tk.rows.length
      · rw [List.getElem?_append_left hlt] at hr2
        rw [List.getElem?_append_left (by omega)] at hp2
        exact h.pd i r p hr2 hp2
      · have h9:=qQa hr2
        rw [List.length_append,List.length_singleton] at h9
        have:i=m.tk.rows.length:=by omega
        subst this
        rw [List.getElem?_append_right (Nat.le_refl _),Nat.sub_self] at hr2
        rw [List.getElem?_append_right (by omega),hl,Nat.sub_self] at hp2
        simp at hr2 hp2
        subst hr2;subst hp2
        rfl
    · show m.tk.names.take (pos m.tk.names x.nm)++(⟨x.nm,m.tk.rows.length⟩:RowN)::m.tk.names.drop (pos m.tk.names x.nm)=qQF (m.tk.rows++[(⟨x,(qQB x.cd).1⟩:RowM)]) (m.tk.rows++[(⟨x,(qQB x.cd).1⟩:RowM)]).length
      rw [List.length_append,List.length_singleton]
      unfold qQF
      rw [List.getElem?_append_right (Nat.le_refl _),Nat.sub_self,qJ8 _ _ _ (Nat.le_refl _),← h.nm]
      rfl
    · have hr2:(m.tk.rows++[⟨x,(qQB x.cd).1⟩])[i]? = some r:=hr
      show qQs (qQF (m.tk.rows++[_]) i) r.t.nm=none
      have h9:=qQa hr2
      rw [List.length_append,List.length_singleton] at h9
      rw [qJ8 _ _ _ (by omega)]
      by_cases hlt:i<m.tk.rows.length
      · rw [List.getElem?_append_left hlt] at hr2
        exact h.nd i r hr2
      · have:i=m.tk.rows.length:=by omega
        subst this
        rw [List.getElem?_append_right (Nat.le_refl _),Nat.sub_self] at hr2
        simp at hr2
        subst hr2
        rw [← h.nm]
        exact h3
    · show (m.dp.co.ar.high:Int)≤qQ1 (m.tk.rows++[⟨x,(qQB x.cd).1⟩])
      have h9:=h.hi
      rw [qYU (r:=⟨x,(qQB x.cd).1⟩) h4]
      unfold qXg
      rw [if_pos h4]
      omega
  · exact h
theorem run:∀ {k:Nat} {m:KeM} {n:Nat} (_:Ext m) (_:KeI m n) (_:n+3*k≤4611686018427387904),Ext (m.run k).2
  | 0,m,n,h,_,_=>h
  | k+1,m,n,h,hi,hn=>by
    unfold KeM.run
    split
    · exact h.step hi
    · exact run (k:=k) (h.step hi) (hi.step (by omega)) (by omega)
theorem new (words:Int) (units:List Int):Ext (KeM.new words units):=by
  refine ⟨fun i r p hr=>?_,rfl,fun i r hr=>?_,?_⟩
  · have:([]:List RowM)[i]? = some r:=hr
    simp at this
  · have:([]:List RowM)[i]? = some r:=hr
    simp at this
  · show ((0:Nat):Int)≤qQ1 []
    have:qQ1 []=0:=by rfl
    rw [this]
    exact Int.le_refl _
end Ext
end
section
open Go.RowKit Spl
def qXC (qs:List (List qQh)) (n:Nat):List qQh:=(allL qs n).map Prod.fst
theorem qZM (qs:List (List qQh)) (n:Nat):qXC qs (n+1)=qs[n]?.getD []++qXC qs n:=by
  unfold qXC
  show ((qs[n]?.getD []).map (fun x=>(x,n+1))++allL qs n).map Prod.fst=_
  rw [List.map_append,List.map_map]
  congr 1
  exact List.map_id _
theorem qY9 {qs:List (List qQh)} {k:Nat} {L:List qQh}:∀ {n:Nat},n≤k→qXC (qs.set k L) n=qXC qs n
  | 0,_=>rfl
  | n+1,h=>by
    rw [qZM,qZM,qY9 (n:=n) (by omega),List.getElem?_set_ne (by omega)]
theorem qYP {qs:List (List qQh)} {n0:Nat} (h:∀(k:Nat) (l:List qQh) (x:qQh),qs[k]? = some l→x∈l→x.level=k+1):∀ {n:Nat} {x:qQh},x∈qXC qs n→x.level≤n
  | 0,x,hx=>by cases hx
  | n+1,x,hx=>by
    rw [qZM] at hx
    rcases List.mem_append.1 hx with hx | hx
    · cases hq:qs[n]? with
      | none=>rw [hq] at hx;cases hx
      | some l =>
        rw [hq] at hx
        have:=h n l x hq hx
        push_cast;omega
    · have:=qYP (n0:=n0) h (n:=n) hx
      push_cast;omega
theorem qWd {qs:List (List qQh)} {k:Nat} {L:List qQh} {x:qQh} (hL:qs[k]? = some L) (h:∀(k:Nat) (l:List qQh) (x:qQh),qs[k]? = some l→x∈l→x.level=k+1):∀ {n:Nat},k<n→∃A B,qXC qs n=A++B∧qXC (qs.set k (L++[x])) n=A++x::B∧(∀y∈A,(k:Int)+1≤y.level)∧(∀y∈B,y.level≤k)
  | 0,hn=>absurd hn (Nat.not_lt_zero _)
  | n+1,hn=>by
    rw [qZM,qZM]
    by_cases hk:n=k
    · subst hk
      refine ⟨L,qXC qs n,by rw [hL];rfl,?_,fun y hy=>?_,fun y hy=>qYP (n0:=0) h hy⟩
      · rw [List.getElem?_set_self (qQa hL),qY9 (Nat.le_refl _),Option.getD_some,List.append_assoc]
        rfl
      · have:=h n L y hL hy;omega
    · obtain ⟨A,B,e1,e2,e3,e4⟩:=qWd (n:=n) hL h (by omega)
      refine ⟨qs[n]?.getD []++A,B,by rw [e1,List.append_assoc],?_,fun y hy=>?_,e4⟩
      · rw [List.getElem?_set_ne (fun e=>hk e.symm),e2,List.append_assoc]
      · rcases List.mem_append.1 hy with hy | hy
        · cases hq:qs[n]? with
          | none=>rw [hq] at hy;cases hy
          | some l =>
            rw [hq] at hy
            have:=h n l y hq hy
            omega
        · exact e3 y hy
theorem qWb (qs:List (List qQh)) (t:Nat):∀n,n≤qs.length→(qXC qs n).countP (fun x=>x.task == (t:Int))=((qs.take n).map fun l=>cntL l t).sum
  | 0,_=>rfl
  | n+1,hn=>by
    have hq:qs[n]? = some (qs[n]'(by omega)):=List.getElem?_eq_getElem _
    rw [qZM,List.countP_append,qWb qs t n (by omega),List.take_add_one,hq,List.map_append,List.sum_append]
    simp only [Option.getD_some,Option.toList_some,List.map_cons,List.map_nil,List.sum_cons,List.sum_nil]
    unfold cntL
    omega
theorem zQt (qs:List (List qQh)) (t:Nat):(qZJ qs).countP (fun x=>x.task == (t:Int))=cntQ qs t:=by
  have:=qWb qs t qs.length (Nat.le_refl _)
  rw [List.take_length] at this
  exact this
end
section
open Go.RowKit Spl
def qJg (W:List qQh) (lv:Int):Nat→Int
  | 0=>-1
  | j+1=>match W[j]? with
    | none=>qJg W lv j
    | some x=>if lv≤x.level then (j:Int) else qJg W lv j
theorem zQT (W:List qQh) (lv:Int):∀j:Nat,-1≤qJg W lv j∧qJg W lv j<j
  | 0=>by unfold qJg;omega
  | j+1=>by
    have:=zQT W lv j
    unfold qJg
    split
    · omega
    · split <;> omega
theorem qKs {A B:List qQh} {lv:Int} (hA:∀y∈A,lv≤y.level) (hB:∀y∈B,y.level<lv):∀j:Nat,j≤(A++B).length→qJg (A++B) lv j=(if j≤A.length then (j:Int) else A.length)-1
  | 0,_=>by rw [if_pos (Nat.zero_le _)];rfl
  | j+1,h=>by
    have ih:=qKs hA hB j (by omega)
    unfold qJg
    by_cases hj:j<A.length
    · rw [List.getElem?_append_left hj,List.getElem?_eq_getElem hj]
      dsimp only
      rw [if_pos (hA _ (List.getElem_mem hj)),if_pos (by omega)]
      push_cast;omega
    · rw [List.length_append] at h
      have hb:(A++B)[j]? = some (B[j-A.length]'(by omega)):=by
        rw [List.getElem?_append_right (by omega),List.getElem?_eq_getElem]
      rw [hb]
      dsimp only
      have h2:=hB _ (List.getElem_mem (l:=B) (n:=j-A.length) (by omega))
      rw [if_neg (by omega),ih]
      split
      · rw [if_neg (by omega)];omega
      · rw [if_neg (by omega)]
def qKC (W:List qQh) (id:Nat) (j:Nat):Nat:=(W.take j).countP fun x=>x.task == (id:Int)
theorem qqM {W:List qQh} {id j:Nat} {x:qQh} (h:W[j]? = some x):qKC W id (j+1)=qKC W id j+if x.task=id then 1 else 0:=by
  unfold qKC
  rw [List.take_add_one,h,List.countP_append]
  simp only [Option.toList_some,List.countP_cons,List.countP_nil,Nat.zero_add,beq_iff_eq]
theorem zZS (W:List qQh) (id j:Nat):qKC W id j≤W.length:=Nat.le_trans List.countP_le_length (by rw [List.length_take];omega)
theorem qWR {m:KeM} {k:Nat} (h:KeI m k) (e:Ext m) {id:Nat} {r:RowM} (hr:m.tk.rows[id]? = some r) :
    qKC (qZJ m.dp.wq.qs) id (qZJ m.dp.wq.qs).length≤8 ∧
    (m.releaseE id=0→qKC (qZJ m.dp.wq.qs) id (qZJ m.dp.wq.qs).length<8∧∃A B,qZJ m.dp.wq.qs=A++B∧qZJ (m.release id).dp.wq.qs=A++⟨m.dp.count,id,r.t.lv⟩::B∧(∀y∈A,r.t.lv≤y.level)∧∀y∈B,y.level<r.t.lv) ∧
    (¬m.releaseE id=0→m.release id=m)∧(m.releaseE id=4→qKC (qZJ m.dp.wq.qs) id (qZJ m.dp.wq.qs).length=8)∧(m.releaseE id=40↔0<r.t.p):=by
  have hlt:=qQa hr
  have h64:id<64:=by have:=h.t.t.n;omega
  have hlv:=h.t.t.lv r (List.mem_of_getElem? hr)
  have hq:=h.d.q
  have hcnt:qKC (qZJ m.dp.wq.qs) id (qZJ m.dp.wq.qs).length=cntQ m.dp.wq.qs id:=by
    unfold qKC
    rw [List.take_length,zQt]
  have h8:=hq.c8 id h64
  have hc:=hq.c id h64
  have hput:m.dp.wq.putE id r.t.lv m.dp.count=if 8≤cntQ m.dp.wq.qs id then 4 else 0:=by
    unfold WqM.putE
    rw [if_neg (by omega),Int.toNat_natCast,hc,Option.getD_some]
    by_cases hh:8≤cntQ m.dp.wq.qs id
    · rw [if_pos hh,if_pos (by omega)]
    · rw [if_neg hh,if_neg (by omega)]
  have hdp:m.dp.releaseE m.tk id=if 8≤cntQ m.dp.wq.qs id then 4 else 0:=by
    unfold DpM.releaseE
    rw [hr]
    exact hput
  obtain ⟨p,hp⟩:∃p,m.ck.l[id]? = some p:=⟨m.ck.l[id]'(by rw [h.kl];exact hlt),List.getElem?_eq_getElem _⟩
  have hper:=e.pd id r p hr hp
  have hready:m.ck.ready id=Clk.readyP m.ck.now p:=by
    unfold Clk.ready Clk.at?
    rw [if_pos (by omega),Int.toNat_natCast,hp]
  have hE:m.releaseE id=if Clk.readyP m.ck.now p=0 then (if 8≤cntQ m.dp.wq.qs id then 4 else 0) else Clk.readyP m.ck.now p:=by
    unfold KeM.releaseE
    rw [hready,Int.toNat_natCast,hdp]
  rw [hcnt]
  have hrp:Clk.readyP m.ck.now p=40∧0<p.period∨(Clk.readyP m.ck.now p=41∨Clk.readyP m.ck.now p=0)∧¬0<p.period:=by
    unfold Clk.readyP
    by_cases h1:0<p.period
    · rw [if_pos h1];exact .inl ⟨rfl,h1⟩
    · rw [if_neg h1]
      refine .inr ⟨?_,h1⟩
      split
      · exact .inl rfl
      · exact .inr rfl
  refine ⟨h8,fun h0=>?_,fun h0=>?_,fun h4=>?_,?_⟩
  · rw [hE] at h0
    split at h0
    · rename_i hz
      split at h0
      · cases h0
      · rename_i hn8
        refine ⟨by omega,?_⟩
        have hrel:m.release id=m.took id:=by
          unfold KeM.release
          rw [if_pos (by rw [hE,if_pos hz,if_neg hn8]),Int.toNat_natCast]
        obtain ⟨j,hj⟩:∃j:Nat,r.t.lv=j+1:=⟨(r.t.lv-1).toNat,by omega⟩
        have hjl:j<m.dp.wq.qs.length:=by rw [hq.q];omega
        obtain ⟨L,hL⟩:∃L,m.dp.wq.qs[j]? = some L:=⟨_,List.getElem?_eq_getElem hjl⟩
        have hqs:(m.release id).dp.wq.qs=m.dp.wq.qs.set j (L++[⟨m.dp.count,id,r.t.lv⟩]):=by
          rw [hrel]
          show (m.dp.release m.tk id).wq.qs=_
          unfold DpM.release
          rw [hr]
          dsimp only
          rw [if_pos (by rw [hput,if_neg hn8])]
          dsimp only
          unfold WqM.put
          rw [if_pos (by rw [hput,if_neg hn8]),hj,show ((j:Int)+1-1).toNat=j by omega,hL]
          rfl
        obtain ⟨A,B,e1,e2,e3,e4⟩:=qWd (x:=⟨m.dp.count,id,r.t.lv⟩) hL (fun k l x hk hx=>(hq.e k l x hk hx).2.2.1) (n:=m.dp.wq.qs.length) hjl
        refine ⟨A,B,e1,?_,fun y hy=>by rw [hj];exact e3 y hy,fun y hy=>by have:=e4 y hy;omega⟩
        rw [hqs]
        unfold qZJ
        rw [List.length_set]
        exact e2
    · rename_i hz
      exact absurd h0 hz
  · unfold KeM.release
    rw [if_neg h0]
  · rw [hE] at h4
    split at h4
    · split at h4
      · omega
      · cases h4
    · omega
  · rw [hE,← hper]
    rcases hrp with ⟨a,b⟩ | ⟨a,b⟩
    · rw [if_neg (by omega),a]
      exact ⟨fun _=>b,fun _=>rfl⟩
    · refine ⟨fun hh=>?_,fun hh=>absurd hh b⟩
      split at hh
      · split at hh <;> cases hh
      · omega
end
section
open Go.RowKit Spl
theorem qY7 {rs:List RowM} (h:∀(i:Nat) (r:RowM),rs[i]? = some r→qQs (qQF rs i) r.t.nm=none):∀k,k≤rs.length→qQ9 (qQF rs k)∧(qQF rs k).length=k
  | 0,_=>⟨List.Pairwise.nil,rfl⟩
  | k+1,hk=>by
    obtain ⟨a,b⟩:=qY7 h k (by omega)
    obtain ⟨r,hr⟩:∃r,rs[k]? = some r:=⟨rs[k]'(by omega),List.getElem?_eq_getElem _⟩
    have e:qQF rs (k+1)=insN (qQF rs k) ⟨r.t.nm,k⟩:=by
      show (match rs[k]? with | none=>qQF rs k | some r=>insN (qQF rs k) ⟨r.t.nm,k⟩)=_
      rw [hr]
    rw [e]
    unfold insN
    refine ⟨qX9 a rfl (h k r hr),?_⟩
    rw [List.length_append,List.length_cons,List.length_take,List.length_drop]
    omega
theorem qVJ {rs:List RowM} {k:Nat} {r:RowM} (hr:rs[k]? = some r):qQF rs (k+1)=(qQF rs k).take (pos (qQF rs k) r.t.nm)++(⟨r.t.nm,k⟩:RowN)::(qQF rs k).drop (pos (qQF rs k) r.t.nm):=by
  show (match rs[k]? with | none=>qQF rs k | some r=>insN (qQF rs k) ⟨r.t.nm,k⟩)=_
  rw [hr]
  rfl
theorem zZG {m:TkM} (h:m.Ok):qJA m.words m.units=0:=by
  have h1:=h.w
  have h2:=h.u
  unfold qJA
  rw [if_neg (by omega),if_neg (by omega),if_pos]
  rw [List.all_eq_true]
  intro x hx
  have:=h.uv x hx
  simp [this]
end
section
open Go.RowKit Spl
theorem qV9 (m:KeM) (x:qQY):(m.register x).dp=m.dp:=by unfold KeM.register;split <;> rfl
theorem qYj (m:KeM) (x:qQY):(m.register x).tk=if m.checkE x=0 then m.tk.added x else m.tk:=by unfold KeM.register;split <;> rfl
theorem qUo {l:List qZy} {r:Int} (h:∀n∈l,¬n.res=r):qZi l r=0:=by
  induction l with
  | nil=>rfl
  | cons x l ih=>rw [qKU,if_neg (h x List.mem_cons_self)];exact ih fun n hn=>h n (List.mem_cons_of_mem _ hn)
theorem qWC {rs:List RowM} {x:qQY} {st:List OpM} {r:Int} (h:∀n∈x.needs,¬n.res=r) {f:Int} (hf:0≤f):qZa (rs++[⟨x,st⟩]) r f=qZa rs r f:=by
  unfold qZa
  rw [List.foldl_append]
  simp only [List.foldl_cons,List.foldl_nil]
  rw [qUo h,if_neg (by omega)]
def rowU (rs:List RowM) (r u:Nat):List Int:=(qJn rs r rs.length).take (u+1)
theorem qUI {rs:List RowM} {r u:Nat} (h:u≤255):(rowU rs r u).length=u+1:=by
  unfold rowU
  rw [List.length_take,qXM]
  omega
theorem qqC {rs:List RowM} {x:qQY} {st:List OpM} {r:Nat} (h:∀n∈x.needs,¬n.res=r) (u:Nat):rowU (rs++[⟨x,st⟩]) r u=rowU rs r u:=by
  unfold rowU qJn
  rw [List.take_length,List.take_length]
  congr 1
  exact List.map_congr_left fun f _=>qWC h (by omega)
theorem qUm {m:KeM} {x:qQY} (h:m.checkE x=0):m.busy x=false:=by
  have h0:=qZL h
  unfold KeM.checkE at h
  rw [if_pos (.inl h0)] at h
  cases hb:m.busy x with
  | false=>rfl
  | true=>rw [hb,if_pos rfl] at h;cases h
theorem qX4 {m:KeM} {k:Nat} (_hi:KeI m k) {x:qQY} (h:m.checkE x=0) {r:Nat} (hr:0<(qQS m.dp.co.un r).length):∀n∈x.needs,¬n.res=r:=by
  intro n hn e
  have hb:=qUm h
  unfold KeM.busy at hb
  rw [List.any_eq_false] at hb
  have:=hb n hn
  rw [e,Int.toNat_natCast] at this
  exact this (decide_eq_true hr)
theorem qVw {m:KeM} {k:Nat} (hi:KeI m k) {x:qQY} {r:Nat} (hr:0<(qQS m.dp.co.un r).length) (u:Nat):rowU (m.register x).tk.rows r u=rowU m.tk.rows r u:=by
  rw [qYj]
  by_cases h:m.checkE x=0
  · rw [if_pos h]
    exact qqC (qX4 hi h hr) u
  · rw [if_neg h]
end
end Go.Proofs.YtkchopnkdjnocaaGreatDoor
