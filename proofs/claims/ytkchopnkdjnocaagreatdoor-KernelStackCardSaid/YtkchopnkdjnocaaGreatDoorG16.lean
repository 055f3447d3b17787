/-
  Merged texts of one proof: Book1, Law.
-/
import Derived.BigQuiet
import Derived.Deep.QuietTactic
import Derived.Lib.Hide
import Derived.OpenShut
import Derived.ProofKit
import Derived.SizedLaws
import Derived.Test.YtkchopnkdjnocaaGreatDoorG01
import Derived.Test.YtkchopnkdjnocaaGreatDoorRows

set_option maxHeartbeats 16000000
set_option maxRecDepth 20000
namespace Go.Proofs.YtkchopnkdjnocaaGreatDoor
section
open Go.RowKit Spl
def Rds (w:World) (v:Value) (xs:List Value):Prop:=∃A cap,v=.slice A xs.length cap∧xs.length≤140737488351232∧(0<xs.length→∃b o,A=some ⟨b,o,none⟩∧∀j u,xs[j]? = some u→w.cell? ⟨b,o+j,none⟩=some u)
def ints (l:List Int):List Value:=l.map (Value.int .i64)
theorem zQp {l:List Int} {k:Nat} {x:Int} (h:l[k]? = some x):(ints l)[k]? = some (.int .i64 x):=by simp [ints,h]
theorem qJU (l:List Int):(ints l).length=l.length:=by simp [ints]
theorem Rds.drewN {w:World} {v:Value} {xs:List Value} (h:Rds w v xs) (n:Nat):Rds (w.drewN n) v xs:=h
theorem Rds.of_slc {w0 w:World} {R:List Pr} {e:TypeId} {v:Value} {n:Nat} {xs:List Value} (H:Hd w0 (Slc e 1 v n xs::R) w) (hn:n≤140737488351232):Rds w v xs:=by
  have hl:=H.slc_len
  rw [Nat.mul_one] at hl
  rcases H.slc with ⟨rfl,rfl,rfl,_⟩ | ⟨g,cap,rfl,H2⟩
  · exact ⟨none,0,rfl,by simp,fun h=>by simp at h⟩
  · exact ⟨_,cap,by rw [hl],by omega,fun _=>⟨g,0,rfl,fun j u hj=>by rw [Nat.zero_add];exact H2.slcC_rd hj⟩⟩
theorem zQ3 {w:World} {a b:Value} {xs ys:List Int} (ha:Rds w a (ints xs)) (hb:Rds w b (ints ys)) :
    Calls Tryz.prog 26 #[a,b] w fun e w'=>e=.returned (.bool (decide (xs=ys)))∧∃n,w'=w.drewN n:=by
  obtain ⟨A,ca,rfl,hA,hA2⟩:=ha
  obtain ⟨B,cb,rfl,hB,hB2⟩:=hb
  rw [qJU] at hA hA2 hB hB2
  rw [qJU,qJU]
  by_cases hl:xs.length=ys.length
  · have hne:((xs.length:Int) != ys.length)=false:=by simp [hl]
    have hl':=Lib.hid hl
    have hyl:ys.length≤xs.length:=by omega
    clear hl
    go_enter Tryz.func26,Tryz.ntmps26
    go_wp2
    go_loopw [5] (fun i wr=>∃k n:Nat,k≤xs.length∧i=.int .i64 k∧xs.take k=ys.take k∧wr=w.drewN n) (fun i _=>xs.length-(intOf i).toNat)
    case atStart=>exact ⟨0,0,Nat.zero_le _,rfl,by simp,rfl⟩
    case round =>
      obtain ⟨k,n,hk,rfl,ht,rfl⟩:=hrel
      have hT:=Lib.hid ht
      clear ht
      by_cases hlt:k<xs.length
      · have hky:k<ys.length:=by have:=hl'.out;omega
        obtain ⟨b1,o1,rfl,c1⟩:=hA2 (by omega)
        obtain ⟨b2,o2,rfl,c2⟩:=hB2 (by omega)
        have d1:=c1 k _ (zQp (List.getElem?_eq_getElem hlt))
        have d2:=c2 k _ (zQp (List.getElem?_eq_getElem hky))
        generalize hx:xs[k]=x at d1
        generalize hy:ys[k]=y at d2
        have hX:=Lib.hid hx
        have hY:=Lib.hid hy
        clear hx hy c1 c2 hA2 hB2
        by_cases he:x=y
        · subst he
          go_wp2_with (go_quiet (fail))
          go_roundw
          case rel =>
            refine ⟨k+1,_,by omega,by go_num,?_,by first | rfl | (rw [World.drewN_drewN])⟩
            rw [List.take_succ_eq_append_getElem hlt,List.take_succ_eq_append_getElem hky,hT.out,hX.out,hY.out]
          case measure=>simp [intOf];omega
        · have hne2:(x != y)=true:=by simpa using he
          have hfin:decide (xs=ys)=false:=by
            apply decide_eq_false
            intro e
            subst e
            exact he (hX.out.symm.trans hY.out)
          go_wp2_with (go_quiet (fail))
          go_ret
          exact ⟨by first | rfl | (rw [hfin];rfl),_,by first | rfl | (rw [World.drewN_drewN])⟩
      · obtain rfl:k=xs.length:=by omega
        have hfin:decide (xs=ys)=true:=by
          apply decide_eq_true
          have:=hT.out
          rw [List.take_of_length_le (Nat.le_refl _),hl'.out,List.take_of_length_le (Nat.le_refl _)] at this
          exact this
        go_wp2
        go_ret
        exact ⟨by first | rfl | (rw [hfin];rfl),_,rfl⟩
  · have hne:((xs.length:Int) != ys.length)=true:=by simpa using by omega
    have hfin:decide (xs=ys)=false:=decide_eq_false (fun e=>hl (by rw [e]))
    clear hl
    go_enter Tryz.func26,Tryz.ntmps26
    go_wp2
    go_ret
    exact ⟨by first | rfl | (rw [hfin];rfl),0,rfl⟩
theorem Rds.keep {W w:World} {v:Value} {xs:List Value} (h:Rds W v xs) (hb:Below W.heap.size W w):Rds w v xs:=by
  obtain ⟨A,cap,hv,hl,hc⟩:=h
  refine ⟨A,cap,hv,hl,fun hn=>?_⟩
  obtain ⟨b,o,hA,hcell⟩:=hc hn
  exact ⟨b,o,hA,fun j u hj=>(hb.cell (p:=⟨b,o+j,none⟩) (World.block_lt_of_cell? W _ (hcell j u hj))).trans (hcell j u hj)⟩
def qYn (n lo hi:Int):Int:=lo+n % (hi-lo+1)
theorem zZc {n lo hi:Int} (h:lo≤hi):lo≤qYn n lo hi∧qYn n lo hi≤hi:=by
  unfold qYn
  have h1:=Int.emod_nonneg n (b:=hi-lo+1) (by omega)
  have h2:=Int.emod_lt_of_pos n (b:=hi-lo+1) (by omega)
  omega
theorem qVt {n d:Int} (hd:0<d) (h:n.tmod d<0):n.tmod d+d=n % d:=by
  have h0:n<0:=by
    rcases (by omega:n<0∨0≤n) with h' | h'
    · exact h'
    · have:=Int.tmod_nonneg d h'
      omega
  have h1:=Int.tmod_add_mul_tdiv n d
  have h2:=Int.emod_add_mul_ediv n d
  have h3:=Int.emod_nonneg n (b:=d) (by omega)
  have h4:=Int.emod_lt_of_pos n hd
  have h5:-d<n.tmod d:=by
    have:n.tmod d = -((-n).tmod d):=by rw [Int.neg_tmod,Int.neg_neg]
    have h6:=Int.tmod_lt_of_pos (-n) hd
    omega
  have h7:d*(n.tdiv d-n / d-1)=n % d-n.tmod d-d:=by
    rw [Int.mul_sub,Int.mul_sub,Int.mul_one]
    omega
  have h8:n.tdiv d-n / d-1=0:=by
    rcases Int.lt_trichotomy (n.tdiv d-n / d-1) 0 with h | h | h
    · have:=Int.mul_le_mul_of_nonneg_left (show n.tdiv d-n / d-1 ≤ -1 by omega) (show 0≤d by omega)
      omega
    · exact h
    · have:=Int.mul_le_mul_of_nonneg_left (show 1≤n.tdiv d-n / d-1 by omega) (show 0≤d by omega)
      omega
  rw [h8] at h7
  omega
theorem qV1 {n d:Int} (hd:0<d) (h:0≤n.tmod d):n.tmod d=n % d:=by
  rcases (by omega:n<0∨0≤n) with h' | h'
  · have h1:=Int.tmod_add_mul_tdiv n d
    have h2:=Int.emod_add_mul_ediv n d
    have h3:=Int.emod_nonneg n (b:=d) (by omega)
    have h4:=Int.emod_lt_of_pos n hd
    have h6:=Int.tmod_lt_of_pos n hd
    have h7:d*(n.tdiv d-n / d)=n % d-n.tmod d:=by rw [Int.mul_sub];omega
    have h8:n.tdiv d-n / d=0:=by
      rcases Int.lt_trichotomy (n.tdiv d-n / d) 0 with h | h | h
      · have:=Int.mul_le_mul_of_nonneg_left (show n.tdiv d-n / d ≤ -1 by omega) (show 0≤d by omega)
        omega
      · exact h
      · have:=Int.mul_le_mul_of_nonneg_left (show 1≤n.tdiv d-n / d by omega) (show 0≤d by omega)
        omega
    rw [h8] at h7
    omega
  · exact Int.tmod_eq_emod_of_nonneg h'
theorem qV2 {w:World} (n lo hi:Int) (h0:0≤lo) (h1:lo≤hi) (h2:hi≤1000000) :
    Calls Tryz.prog 11 #[.int .i64 n,.int .i64 lo,.int .i64 hi] w fun e w'=>e=.returned (.int .i64 (qYn n lo hi))∧w=w':=by
  have hd:0<hi-lo+1:=by omega
  have hb1:=Int.tmod_lt_of_pos n hd
  have hb2:=Int.emod_nonneg n (b:=hi-lo+1) (by omega)
  have hb3:=Int.emod_lt_of_pos n hd
  have hs:IntKind.i64.wrap (hi-lo+1)=hi-lo+1:=IntWalk.i64_in _ (by omega)
  unfold qYn
  by_cases hneg:n.tmod (hi-lo+1)<0
  · have he:=qVt hd hneg
    have hlow:-1000002≤n.tmod (hi-lo+1):=by omega
    have HE:=Lib.hid he
    have hsum:0≤n.tmod (hi-lo+1)+hi-lo+1:=by omega
    have hsum2:n.tmod (hi-lo+1)+hi-lo+1≤1000001:=by omega
    clear he hb2 hb3
    go_enter Tryz.func11,Tryz.ntmps11
    go_wp2
    go_ret
    refine ⟨?_,rfl⟩
    have:=HE.out
    show Ending.returned (.int .i64 (lo+(n.tmod (hi-lo+1)+hi-lo+1)))=_
    rw [show lo+(n.tmod (hi-lo+1)+hi-lo+1)=lo+n % (hi-lo+1) from by omega]
  · have he:=qV1 (n:=n) hd (by omega)
    have HE:=Lib.hid he
    have hneg':0≤n.tmod (hi-lo+1):=by omega
    clear he hb2 hb3
    go_enter Tryz.func11,Tryz.ntmps11
    go_wp2
    go_ret
    refine ⟨?_,rfl⟩
    show Ending.returned (.int .i64 (lo+n.tmod (hi-lo+1)))=_
    rw [HE.out]
end
section
open Go.ChangeShapes Go.WideShapes Go.ChangeAt Go.RowKit Spl
theorem own:ownKnob Tryz.prog.godebug=none:=by kernel_rfl
theorem qUl:laidOutB Tryz.prog=true:=by kernel_rfl
theorem qXY:Tryz.prog.cellsOf 3=1:=by kernel_rfl
theorem zKe:Tryz.prog.bytesOf 3=8:=by kernel_rfl
section
variable {H:Type} {enc:TypeId × Value→H} {P:Program} {W W':World}
theorem qWO (hl:laidOutB P=true) (hb:Below W.heap.size W W'):∀ {ts:List TypeId} {vs:List Value} {ds:List (DataW H)} {ps:List MemPlace},(∀t∈ts,P.readableRec t=true∧t<P.types.size) →
    DataW.TrodAll enc P W 0 (fun _=>true) true ts vs ds ps→(∀x∈ps,x.block<W.heap.size)→DataW.TrodAll enc P W' 0 (fun b=>decide (b<W.heap.size)) true ts vs ds ps:=by
  intro ts
  induction ts with
  | nil =>
    intro vs ds ps _ h _
    obtain ⟨rfl,rfl,rfl⟩:=trodAll_nil h
    exact trodAll_mk0
  | cons t ts ih =>
    intro vs ds ps hr h hlt
    obtain ⟨v,vs',d,ds',p,q,rfl,rfl,rfl,hd,hrest⟩:=trodAll_cons h
    have h1:=hr t List.mem_cons_self
    exact trodAll_cons_mk (Below.trod hl h1.1 h1.2 hd hb (fun x hx=>hlt x (List.mem_append_left _ hx))) (ih (fun u hu=>hr u (List.mem_cons_of_mem _ hu)) hrest (fun x hx=>hlt x (List.mem_append_right _ hx)))
theorem qWl {f:Func} {s:ChangeSpec} {args:Array Value} {ds:List (DataW H)} {ps:List MemPlace} {tb:TypeId}
    (hl:laidOutB P=true) (hr:∀t∈f.params.toList,P.readableRec t=true∧t<P.types.size)
    (hW:DataW.Whole enc P f.params.toList s.vars false W args.toList ds [] ps) (hA:DataW.TrodAll enc P W 0 (fun _=>true) true f.params.toList args.toList ds ps)
    (hsr:(s.fn H (ds++[])).results = [.lit (.bool true)]) (hsa:(s.fn H (ds++[])).args=ds) (hsv:(s.fn H (ds++[])).vars = []) (hv:s.vars = [])
    (hrt:f.resultTypes=#[tb]) (hbool:P.underlying tb=some .bool) (hb:Below W.heap.size W W'):s.post enc P f false true false false W args (.bool true) W':=by
  refine ⟨ds,[],ps,[],ps,[],hW,?_,?_,?_,hb.frame _,fun h=>nomatch h⟩
  · rw [hsr,hrt];exact trodAll_mk1 (shut_bool hbool _)
  · rw [hsa];exact qWO hl hb hr hA (fun x hx=>hW.lt x hx)
  · rw [hv,hsv];rfl
end
section
variable {H:Type} {enc:TypeId × Value→H} {W:World}
theorem zJ6 {a0:Option Addr} {len cap:Nat} {d:DataW H} {p:List MemPlace} (h:DataW.Trod enc Tryz.prog W 0 (fun _=>true) true 22 (.slice a0 len cap) d p) (hsz:∀elems spare,d=.slice elems spare→(elems.length+spare.length)*8≤reachBytes) :
    ∃xs:List Int,Rds W (.slice a0 len cap) (ints xs):=by
  obtain ⟨fuel,hf⟩:=h
  rcases open_ints Tryz.underlying22 Tryz.underlying3 qXY hf with ⟨hcs,hx⟩ | ⟨a,len',cap',zs,hcs,_,hl,hm,hz,hx,hcell,hwz⟩
  · have:(a0=none∧len=0)∧cap=0:=by simpa [Value.cells,and_assoc] using hcs
    obtain ⟨⟨rfl,rfl⟩,rfl⟩:=this
    exact ⟨[],none,0,rfl,by simp [ints],fun h=>by simp [ints] at h⟩
  · have:a0=some a∧len=len'∧cap=cap':=by simpa [Value.cells] using hcs
    obtain ⟨rfl,rfl,rfl⟩:=this
    have hlz:(zs.take len).length=len:=by simp at hz ⊢;omega
    refine ⟨zs.take len,some a,cap,by rw [qJU,hlz],?_,fun hn=>?_⟩
    · rw [qJU,hlz]
      simp only [Prod.mk.injEq] at hx
      have:=hsz _ _ hx.1
      simp only [lits,List.length_map,List.length_take,List.length_drop,reachBytes] at this
      simp at hz
      omega
    · rw [qJU,hlz] at hn
      obtain ⟨b,off,spot⟩:=a
      have h0:=hcell 0 (by simp at hz;omega)
      have hspot:spot=none:=by simpa [Addr.add] using World.cell?_spot h0
      subst hspot
      refine ⟨b,off,rfl,fun j u hj=>?_⟩
      have hjl:j<(zs.take len).length:=by simpa [qJU] using qQa hj
      rw [hlz] at hjl
      have hc:=hcell j (by simp at hz;omega)
      have e:(⟨b,off,none⟩:Addr).add j=⟨b,off+j,none⟩:=Addr.add_lit _ _ _
      rw [e] at hc
      rw [hc]
      have hjz:j<zs.length:=by simp at hz;omega
      simp [ints,hjl,List.getD,hjz] at hj ⊢
      exact hj
end
end
end Go.Proofs.YtkchopnkdjnocaaGreatDoor
