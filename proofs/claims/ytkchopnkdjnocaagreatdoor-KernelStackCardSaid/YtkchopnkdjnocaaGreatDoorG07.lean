/-
  Merged texts of one proof: More, Range, Facts, Row, Code1, Code2, Code3, Code4, SlcIn, MixIn, Range2.
-/
import Derived.BigQuiet
import Derived.Deep.QuietTactic
import Derived.IntWalk
import Derived.Laws.Tables
import Derived.Lib.Hide
import Derived.LoopIn
import Derived.LoopNIn
import Derived.OrdersIn
import Derived.OwnWalkIn
import Derived.RangeFuncBound
import Derived.RangeFuncCalls
import Derived.RangeFuncLeaves
import Derived.RangeFuncRecord
import Derived.RangeFuncSeq
import Derived.Shelf.Abstract
import Derived.Shelf.RegionOpen
import Derived.StillTailTactics
import Derived.TacticsInMore
import Derived.Test.YtkchopnkdjnocaaGreatDoorG01
import Derived.Test.YtkchopnkdjnocaaGreatDoorG02
import Derived.Test.YtkchopnkdjnocaaGreatDoorRows
import Derived.WalkLawsBesides
import Derived.WalkSpells

set_option maxHeartbeats 16000000
set_option maxRecDepth 20000
namespace Go.Proofs.YtkchopnkdjnocaaGreatDoor
section
open Go.RowKit Spl
theorem Hd.ce {w0 w:World} {R:List Pr} {b T:Nat} {c:Array Value} (H:Hd w0 (cel b T c::R) w) (i:Nat) {u:Value} (h:c[i]? = some u):w.cell? ⟨b,i,none⟩=some u:=(H.rd i).trans h
end
section
open Go.RowKit Spl
section
variable {w0 w:World} {R L:List Pr} {P:Program} {n:Nat}
theorem Hd.putO {b:Nat} {o:Obj} (H:Hd w0 (pt b o::R) w) (o':Obj):Hd w0 (pt b o'::R) (w.putObj b o') :=
  H.upd (fun i=>by
    have h:=H.lt
    simp only [World.putObj]
    rw [Array.getElem?_setIfInBounds]
    by_cases hi:i=b
    · subst hi;simp [h]
    · simp [hi,Ne.symm hi]) ⟨rfl,rfl,rfl,by simp [World.putObj]⟩
theorem RoundIn.any {F:Fence} (hd:F.depth=none) {m m':Nat} {P:Program} {l:Nat} {f:FuncId} {tmps:Array Value} {assign body:Code} {w:World} {R:Ending→World→Prop}
    (h:RoundIn F m P l f tmps assign body w R):RoundIn F m' P l f tmps assign body w R:=⟨h.1,fun c cs _=>h.2 c cs (fun d hd2=>by rw [hd] at hd2;cases hd2)⟩
def Yld {α:Type} (P:Program) (l:Nat) (encs:α→Array Value) (w0:World) (xs:List α) (Y:Nat→Pr):Prop :=
  ∀(i:Nat) (x:α) (X:List Pr) (W:World) (m:Nat),xs[i]? = some x→Hd w0 (Y i::X) W→YieldAt Fence.wide m P l (encs x) W fun e W'=>e=.returned (.bool true)∧Hd w0 (Y (i+1)::X) W'
def zQG {α:Type} (P:Program) (gf:Nat) (lb:Array Value) (encs:α→Array Value) (w0:World) (It:List Pr) (xs:List α):Prop :=
  ∀(l:Nat) (Y:Nat→Pr) (W:World) (n:Nat),Hd w0 (Y 0::It) W→Yld P l encs w0 xs Y →
    CallsIn Fence.wide n P gf (#[.func (.yield l) #[] #[]]++lb) W fun e W'=>(∃v,e=.returned v)∧Hd w0 (Y xs.length::It) W'
theorem qKb {α:Type} {g:Operand} {ps:Array Tmp} {assign body:Code} {Q:Exit→Act→World→Prop} {a:Act}
    {gf:Nat} {lb:Array Value} (hg:a.eval g=.func (.func gf) #[] lb) (eg:∀args w,(callFunc gf args).run P w=.ok (.enter gf args) w)
    {encs:α→Array Value} (hps:∀x,(encs x).size=ps.size) {It:List Pr} {xs:List α} (J:Nat→List Pr) (H:Hd w0 (all (J 0)::It) w) (hseq:zQG P gf lb encs w0 It xs) (a₁:α→Act)
    (hassign:∀(l:Nat) (x:α) (W:World) (K:Act→World→Prop),K (a₁ x) W →
      assign.wpIn (Fence.wide.inRound l) n P (Exit.then K (fun _ _ _=>False)) { tmps:=(ps.zip (encs x)).foldl (fun t (p,v)=>t.setIfInBounds p v) a.tmps,defers:=[] } W)
    (hbody:∀(l i:Nat) (x:α) (X:List Pr) (W:World),xs[i]? = some x→Hd w0 (J i++X) W→body.wpIn (Fence.wide.inRound l) n P (Exit.then (fun _ W'=>Hd w0 (J (i+1)++X) W') (fun _ _ _=>False)) (a₁ x) W)
    (hdone:∀(D:Nat) (W:World),Hd w0 (J xs.length++pt D (.deferred (some []))::It) W→Q .normal { a with defers:={ target:=.collected D,args:=#[] }::a.defers } W) :
    (Code.rangeFunc g ps assign body).wpIn Fence.wide n P Q a w:=by
  refine wpIn_rangeFunc ?_
  intro fn hfn
  show ∃(l:Nat) (mark:List Deferred) (w₁:World) (d:Deferred) (w₁':World) (f:FuncId) (args:Array Value) (w₂:World),(Instr.enterLoop fn a.tmps ps assign body none).run P w=_∧_
  obtain ⟨rec,hrec⟩:∃rec:LoopState→Option Code→Loop,rec=fun st pe=>{ state:=st,pending:=pe,fn,tmps:=a.tmps,params:=ps,assign,body,defers:=w.heap.size }:=⟨_,rfl⟩
  obtain ⟨W1,hW1⟩:∃W1,(w.alloc (.deferred (some []))).alloc (.loop (rec .ready none))=W1:=⟨_,rfl⟩
  have H1:Hd w0 (pt (w.heap.size+1) (.loop (rec .ready none))::pt w.heap.size (.deferred (some []))::all (J 0)::It) W1:=by
    rw [← hW1];exact H.fol
  let Y:Nat→Pr:=fun i=>all (pt (w.heap.size+1) (.loop (rec .ready none))::pt w.heap.size (.deferred (some []))::J i)
  have HY:Hd w0 (Y 0::It) W1:=Hd.pack (L:=_::_::J 0) (by
    have h3:=H1.b3.flat
    have h4:Hd w0 (J 0++(pt (w.heap.size+1) (.loop (rec .ready none))::pt w.heap.size (.deferred (some []))::It)) W1:=h3
    exact h4.perm (by
      refine (List.perm_append_comm_assoc (J 0) [_,_] It)))
  refine ⟨w.heap.size+1,[{ target:=.collected w.heap.size,args:=#[] }],W1,{ target:=.fn (.func gf) lb,args:=#[.func (.yield (w.heap.size+1)) #[] #[]] },W1,gf,
    #[.func (.yield (w.heap.size+1)) #[] #[]]++lb,W1,?_,?_,?_,?_,(fun h=>by cases h),?_⟩
  · rw [← hW1,hrec];exact run_enterLoop_outer _ _ _ _ _
  · simp only [resolve,hg]
    simp [go_sem]
  · intro f' hf';trivial
  · simp [invoke,go_sem,eg]
  · refine (hseq (w.heap.size+1) Y W1 (n-1) HY ?_).mono ?_
    · intro i x X W m hx HW
      have HW2:Hd w0 (pt (w.heap.size+1) (.loop (rec .ready none))::pt w.heap.size (.deferred (some []))::(J i++X)) W:=HW.flat
      have hl:=HW2.heap
      have hy:=run_yield (P:=P) (args:=encs x) hl (by rw [hrec];exact hps x)
      rw [hrec] at hy
      refine ⟨fn,_,assign,body,hy,RoundIn.any rfl (roundIn_of_wpIn hfn (hassign _ x W _ ⟨_,run_beginRound hl (by rw [hrec]),?_⟩))⟩
      have HW3:=HW2.putO (.loop { rec .ready none with state:=.busy })
      refine wpIn_mono (hbody _ i x (pt (w.heap.size+1) (.loop { rec .ready none with state:=.busy })::pt w.heap.size (.deferred (some []))::X) _ hx (HW3.perm ?_)) ?_
      · exact (List.perm_append_comm_assoc (J i) [_,_] X).symm
      · rintro e a3 W3 hp
        cases e with
        | normal =>
          have HW4:Hd w0 (J (i+1)++(pt (w.heap.size+1) (.loop { rec .ready none with state:=.busy })::pt w.heap.size (.deferred (some []))::X)) W3:=hp
          have HW5:Hd w0 (pt (w.heap.size+1) (.loop { rec .ready none with state:=.busy })::pt w.heap.size (.deferred (some []))::(J (i+1)++X)) W3:=HW4.perm (List.perm_append_comm_assoc (J (i+1)) [_,_] X)
          have hr:=run_endRound (P:=P) none HW5.heap
          refine ⟨_,_,hr,rfl,?_⟩
          have HW6:=HW5.putO (.loop { rec .ready none with state:=.ready,pending:=none })
          refine Hd.pack (L:=_::_::J (i+1)) ?_
          rw [hrec] at HW6 ⊢
          exact HW6
        | _=>exact hp.elim
    · rintro e W2 ⟨⟨v,rfl⟩,HW⟩
      have HW2:Hd w0 (pt (w.heap.size+1) (.loop (rec .ready none))::pt w.heap.size (.deferred (some []))::(J xs.length++It)) W2:=HW.flat
      have hr:=run_endLoop (P:=P) HW2.heap (by rw [hrec];simp)
      have HW3:=HW2.putO (.loop { rec .ready none with state:=.exhausted })
      rw [hrec] at hr HW3
      refine ⟨none,_,hr,hdone _ _ ?_⟩
      refine HW3.tail.perm ?_
      exact (List.perm_append_comm_assoc (J xs.length) [_] It).symm
theorem qYf {fn:Func} {tmps:Array Value} {Q:Ending→World→Prop} {D:Nat} (H:Hd w0 (pt D (.deferred (some []))::L) w)
    (h:∀W,Hd w0 L W→∃v,(results fn tmps).run P W=.ok v W∧Q (.returned v) W):LeavesInM Fence.wide n P fn tmps Q [{ target:=.collected D,args:=#[] }] .returning w :=
  ⟨by simp,.inl ⟨_,_,rfl,run_takeDeferred H.heap,h _ (H.putO _).tail⟩⟩
end
end
section
open Go.RowKit Spl
class RowF (w:World) (b:Nat) (i:Nat) (l:List Value) (F:outParam Prop):Prop where
  imp:(∀j u,l[j]? = some u→w.cell? ⟨b,i+j,none⟩=some u)→(∀j,w.frozen? ⟨b,j,none⟩=false)→F
instance (priority:=low) RowF.any {w:World} {b i:Nat} {l:List Value}:RowF w b i l True:=⟨fun _ _=>trivial⟩
instance RowF.cons {w:World} {b i:Nat} {v:Value} {l:List Value} {F:Prop} [h:RowF w b (i+1) l F]:RowF w b i (v::l) ((w.cell? ⟨b,i,none⟩=some v∧w.frozen? ⟨b,i,none⟩=false)∧F) :=
  ⟨fun hc hf=>⟨⟨hc 0 v rfl,hf i⟩,h.imp (fun j u hj=>(by have:=hc (j+1) u (by simpa using hj);rwa [show i+(j+1)=i+1+j by omega] at this)) hf⟩⟩
class qXA (w:World) (L:List Pr) (F:outParam Prop):Prop where
  imp:∀ {w0:World},Hd w0 L w→F
instance (priority:=low) qXA.any {w:World} {L:List Pr}:qXA w L True:=⟨fun _=>trivial⟩
instance (priority:=mid) qXA.skip {w:World} {P:Pr} {L:List Pr} {F:Prop} [h:qXA w L F]:qXA w (P::L) F:=⟨fun H=>h.imp H.tail⟩
instance qXA.row {w:World} {b T:Nat} {l:List Value} {L:List Pr} {F G:Prop} [g:RowF w b 0 l G] [h:qXA w L F]:qXA w (pt b (.cells l.toArray T (0,0))::L) (G∧F) :=
  ⟨fun H=>⟨g.imp (fun j u hj=>by rw [Nat.zero_add];exact (H.rd j).trans (by simpa using hj)) H.fr,h.imp H.tail⟩⟩
theorem Hd.facts {w0 w:World} {L:List Pr} {F:Prop} [h:qXA w L F] (H:Hd w0 L w):F:=h.imp H
theorem Hd.fact1 {w0 w:World} {P:Pr} {L:List Pr} {F:Prop} [h:qXA w [P] F] (H:Hd w0 (P::L) w):F:=h.imp (⟨H.1,by
  obtain ⟨a,b,d,e,ha,_⟩:=H.2
  exact ⟨a,b,d,e,ha,trivial⟩⟩:Hd w0 [P] w)
theorem Hd.slE_at {w0 w:World} {R:List Pr} {α:Type} [Enc α] {e:TypeId} {v:Value} {l:List α} {k:Nat} {x:α} (H:Hd w0 (SlE e v l::R) w) (hk:l[k]? = some x) :
    ∃g cap,v=.slice (some ⟨g,0,none⟩) l.length cap∧k<l.length∧l.length≤cap∧Hd w0 (SlEC e g cap l::R) w∧∀j u,(Enc.cells x)[j]? = some u→w.cell? ⟨g,k*Enc.size α+j,none⟩=some u:=by
  have hlt:=qQa hk
  obtain ⟨g,cap,rfl,H2⟩:=H.slc_at (by omega)
  exact ⟨g,cap,rfl,hlt,H2.slcC.2.1,H2,fun j u hj=>H2.slcC_rd (qQi hk hj)⟩
theorem qQp {a b:Int} (h:b=a):Ending.returned (.int .i64 a)=Ending.returned (.int .i64 b):=by rw [h]
theorem qZC {a b:Bool} (h:b=a):Ending.returned (.bool a)=Ending.returned (.bool b):=by rw [h]
theorem zKv {a b:ByteArray} (h:b=a):Ending.returned (.string a)=Ending.returned (.string b):=by rw [h]
theorem zKK {a b:Int} {c d:Bool} (h:b=a) (h2:d=c):Ending.returned (.tuple #[.int .i64 a,.bool c])=Ending.returned (.tuple #[.int .i64 b,.bool d]):=by rw [h,h2]
theorem qZl {a b c d:Int} (h:b=a) (h2:d=c):Ending.returned (.tuple #[.int .i64 a,.int .i64 c])=Ending.returned (.tuple #[.int .i64 b,.int .i64 d]):=by rw [h,h2]
end
section
open Go.RowKit Spl
section
variable {P:Program} {w0 w:World} {R:List Pr} {ops:Array Oper} {rest:List Oper} {o:Oper} {a:Act} {Q:Exit→Act→World→Prop}
theorem qZV (hg:o.guard=none) (t:TypeId) (parts:Array (Nat × Operand)) (ho:o.op=.build t parts) (cells:Array Value)
    (hf:P.built t (parts.map fun (i,x)=>(i,a.eval x)).toList=some cells)
    (h:wpList P ops Q rest (a.put o.dst (.agg cells)) w):wpList P ops Q (o::rest) a w :=
  wpList_plain hg fun _ hK=>wp_build t parts ho (by rw [hf];rfl) (by rw [hf];exact hK _ _ h)
theorem qQk {t g:Nat} {old cells:Array Value} (H:Hd w0 (cel g t old::R) w) (hgd:o.guard=none) (ty:TypeId) (x y:Operand) (ho:o.op=.store ty x y)
    (hx:a.eval x=.pointer (some ⟨g,0,none⟩)) (hy:a.eval y=.agg cells)
    (hi:(P.info? ty).map (·.size)=some cells.size) (hold:old.size=cells.size) (h1:cells.all (·.oneCell')=true)
    (h:∀w',Hd w0 (cel g t cells::R) w'→wpList P ops Q rest (a.put o.dst undef) w'):wpList P ops Q (o::rest) a w:=by
  refine wpList_plain hgd fun _ hK=>wp_store_row ty x y ho g cells hx hy t old H.heap hi hold h1 (hK _ _ (h _ ?_))
  refine H.upd (fun i=>?_) ⟨rfl,rfl,rfl,by simp [World.setRow]⟩
  by_cases hi:i=g
  · subst hi
    rw [setRow_heap w i old cells t (0,0) H.heap];simp
  · rw [setRow_other w g i cells hi];simp [hi]
theorem qQz {n:Nat} [hs:qXy w n] (hgd:o.guard=none) (ty:TypeId) (ho:o.op=.alloc ty) (v:Value) (hz:(P.info? ty).bind (·.zero)=some v)
    (h:wpList P ops Q rest (a.put o.dst (.pointer (some ⟨n,0,none⟩))) (w.alloc (.cells v.cells ty))):wpList P ops Q (o::rest) a w:=by
  have hn:=hs.eq
  subst hn
  refine wpList_plain hgd fun K hK=>?_
  unfold Oper.wp execOp
  cases hq:P.info? ty with
  | none=>simp [hq] at hz
  | some i =>
    simp [hq] at hz
    simp only [ho]
    simp [Instr.alloc,zeroValue,typeInfo,hq,hz,go_sem]
    exact hK _ _ h
end
end
section
open Go.RowKit Spl
def qYu (c:Nat):Bool:=decide (97≤c) && decide (c≤122)
def qXd (i c:Nat):Bool:=qYu c || (i != 0 && (c == 45 || (decide (48≤c) && decide (c≤57))))
def qWA (s:ByteArray) (k:Nat):Prop:=∀i,i<k→qXd i (s.data.toList[i]?.getD 0).toNat=true
def qJf (s:ByteArray):Bool:=decide (1≤s.size) && decide (s.size≤32) && (List.range s.size).all fun i=>qXd i (s.data.toList[i]?.getD 0).toNat
theorem qqG {s:ByteArray} (h1:1≤s.size) (h2:s.size≤32) (h:qWA s s.size):qJf s=true:=by
  simp only [qJf,h1,h2,decide_true,Bool.true_and,List.all_eq_true,List.mem_range]
  exact h
theorem qqZ {s:ByteArray} {k:Nat} (hk:k<s.size) (h:qXd k (s.data.toList[k]?.getD 0).toNat=false):qJf s=false:=by
  simp only [qJf,Bool.and_eq_false_iff]
  refine .inr ?_
  rw [List.all_eq_false]
  exact ⟨k,List.mem_range.2 hk,by rw [h];decide⟩
theorem zJv {s:ByteArray} {k:Nat} (h:k<s.size):s[k]=s.data.toList[k]?.getD 0:=by
  have:k<s.data.size:=h
  show s.data[k]=_
  rw [Array.getElem?_toList,Array.getElem?_eq_getElem this];rfl
theorem qVR {s:ByteArray} {k:Nat} {c:UInt8} (h:qWA s k) (hc:s.data.toList[k]?.getD 0=c) (hk:qXd k c.toNat=true):qWA s (k+1):=by
  intro i hi
  by_cases e:i=k
  · subst e;rw [hc];exact hk
  · exact h i (by omega)
section
variable {w0 w:World}
def qYM (c:Int):Bool:=c == 9 || c == 10 || c == 13 || c == 32 || c == 59
theorem qKc (c:Int):Calls Tryz.prog 157 #[.int .u8 c] w fun e w'=>e=.returned (.bool (qYM c))∧w=w':=by
  go_enter Tryz.func157,Tryz.ntmps157
  go_wp2
  all_goals (go_ret;refine ⟨?_,rfl⟩;simp_all [qYM])
theorem zJR (s:ByteArray):Calls Tryz.prog 78 #[.string s] w fun e w'=>e=.returned (.bool (qJf s))∧w=w':=by
  by_cases h1:s.size<1
  · have e:qJf s=false:=by simp [qJf];omega
    rw [e]
    go_enter Tryz.func78,Tryz.ntmps78
    go_wp2
    go_ret
    exact ⟨rfl,rfl⟩
  by_cases h2:32<s.size
  · have e:qJf s=false:=by simp [qJf];omega
    rw [e]
    go_enter Tryz.func78,Tryz.ntmps78
    go_wp2
    go_ret
    exact ⟨rfl,rfl⟩
  go_enter Tryz.func78,Tryz.ntmps78
  go_wp2
  go_loop [15] (fun i=>∃k:Nat,k≤s.size∧i=.int .i64 k∧qWA s k) (fun i=>s.size-(intOf i).toNat)
  case atStart=>exact ⟨0,Nat.zero_le _,rfl,fun i h=>absurd h (Nat.not_lt_zero _)⟩
  case round =>
    obtain ⟨k,hk,rfl,hl⟩:=hrel
    by_cases hlt:k<s.size
    · obtain ⟨c,hc⟩:∃c,s[k]=c:=⟨_,rfl⟩
      have hc2:s.data[k]=c:=hc
      have hb:(s.data.toList[k]?.getD 0)=c:=by rw [← zJv hlt];exact hc
      have n0:(0:Int)≤k:=by omega
      have n1:(k:Int)<s.size:=by omega
      have g5:IntKind.i64.wrap ((k:Int)+1)=(k:Int)+1:=IntWalk.i64_in _ (by omega)
      have hyes:=Lib.hid (fun h=>qVR (c:=c) hl hb h)
      have hno:=Lib.hid (fun h=>qqZ hlt (by rw [hb];exact h))
      have split:(97≤(c.toNat:Int)∧(c.toNat:Int)≤122)∨(((97≤(c.toNat:Int)∧¬(c.toNat:Int)≤122)∨¬97≤(c.toNat:Int))∧(((k:Int)=0)∨(¬(k:Int)=0∧((c.toNat:Int)=45∨(¬(c.toNat:Int)=45∧((c.toNat:Int)<48∨(¬(c.toNat:Int)<48∧(57<(c.toNat:Int)∨¬57<(c.toNat:Int))))))))):=by omega
      clear hl hb
      rcases Nat.eq_zero_or_pos k with rfl | hk0
      · replace split:(97≤(c.toNat:Int)∧(c.toNat:Int)≤122)∨((97≤(c.toNat:Int)∧¬(c.toNat:Int)≤122)∨¬97≤(c.toNat:Int)):=by omega
        rcases split with ⟨a1,a2⟩ | ⟨a1,a2⟩ | a1
        all_goals
          go_wp2
          all_goals first
            | (go_round
               case rel=>exact ⟨1,by omega,by simp,hyes.out (by simp only [qXd,qYu,Bool.or_eq_true,Bool.and_eq_true,decide_eq_true_eq,beq_iff_eq,bne_iff_ne,ne_eq];omega)⟩
               case measure=>simp [intOf];omega)
            | (go_ret;exact ⟨congrArg (fun b=>Ending.returned (.bool b)) (hno.out (by rw [Bool.eq_false_iff];simp only [qXd,qYu,Bool.or_eq_true,Bool.and_eq_true,decide_eq_true_eq,beq_iff_eq,bne_iff_ne,ne_eq,not_true_eq_false,false_and,or_false];omega)).symm,rfl⟩)
      · have n2:¬(k:Int)=0:=by omega
        replace split:(97≤(c.toNat:Int)∧(c.toNat:Int)≤122)∨(((97≤(c.toNat:Int)∧¬(c.toNat:Int)≤122)∨¬97≤(c.toNat:Int))∧((c.toNat:Int)=45∨(¬(c.toNat:Int)=45∧((c.toNat:Int)<48∨(¬(c.toNat:Int)<48∧(57<(c.toNat:Int)∨¬57<(c.toNat:Int))))))):=by omega
        rcases split with ⟨a1,a2⟩ | ⟨⟨a1,a2⟩ | a1,a4 | ⟨a4,a5 | ⟨a5,a6 | a6⟩⟩⟩
        all_goals
          go_wp2
          all_goals first
            | (go_ret;exact ⟨congrArg (fun b=>Ending.returned (.bool b)) (hno.out (by rw [Bool.eq_false_iff];simp only [qXd,qYu,Bool.or_eq_true,Bool.and_eq_true,decide_eq_true_eq,beq_iff_eq,bne_iff_ne,ne_eq];omega)).symm,rfl⟩)
            | (go_round
               case rel=>exact ⟨k+1,by omega,by simp,hyes.out (by simp only [qXd,qYu,Bool.or_eq_true,Bool.and_eq_true,decide_eq_true_eq,beq_iff_eq,bne_iff_ne,ne_eq];omega)⟩
               case measure=>simp [intOf];omega)
            | (exfalso;simp_all;try omega)
    · obtain rfl:k=s.size:=by omega
      have e:=qqG (by omega) (by omega) hl
      go_wp2
      go_ret
      exact ⟨rfl,rfl⟩
end
end
section
open Go.RowKit Spl
def rowW (k:Int):ByteArray :=
  if k=1 then ⟨#[108,111,99,107]⟩ else if k=2 then ⟨#[117,110,108,111,99,107]⟩ else if k=3 then ⟨#[112,117,115,104]⟩ else if k=4 then ⟨#[112,111,112]⟩
  else if k=5 then ⟨#[119,111,114,107]⟩ else if k=6 then ⟨#[108,111,97,100]⟩ else if k=7 then ⟨#[115,116,111,114,101]⟩ else if k=8 then ⟨#[97,100,100]⟩
  else if k=9 then ⟨#[102,105,110,105,115,104]⟩ else if k=10 then ⟨#[114,101,112,101,97,116]⟩ else if k=11 then ⟨#[125]⟩ else ⟨#[]⟩
def qZx (k:Int):Int :=
  if k=1 then 1 else if k=2 then 2 else if k=3 then 3 else if k=4 then 0 else if k=5 then 4 else if k=6 then 2 else if k=7 then 2 else if k=8 then 0 else if k=9 then 0 else if k=10 then 4 else 0
def qUW:Array Value:=#[.string ⟨#[]⟩,.int .i64 0,.string ⟨#[108,111,99,107]⟩,.int .i64 1,.string ⟨#[117,110,108,111,99,107]⟩,.int .i64 2,.string ⟨#[112,117,115,104]⟩,.int .i64 3,.string ⟨#[112,111,112]⟩,.int .i64 0,.string ⟨#[119,111,114,107]⟩,.int .i64 4,.string ⟨#[108,111,97,100]⟩,.int .i64 2,.string ⟨#[115,116,111,114,101]⟩,.int .i64 2,.string ⟨#[97,100,100]⟩,.int .i64 0,.string ⟨#[102,105,110,105,115,104]⟩,.int .i64 0,.string ⟨#[114,101,112,101,97,116]⟩,.int .i64 4,.string ⟨#[125]⟩,.int .i64 0]
def zXh:Array Value:=#[.string ⟨#[]⟩,.int .i64 0,.string ⟨#[]⟩,.int .i64 0,.string ⟨#[]⟩,.int .i64 0,.string ⟨#[]⟩,.int .i64 0,.string ⟨#[]⟩,.int .i64 0,.string ⟨#[]⟩,.int .i64 0,.string ⟨#[]⟩,.int .i64 0,.string ⟨#[]⟩,.int .i64 0,.string ⟨#[]⟩,.int .i64 0,.string ⟨#[]⟩,.int .i64 0,.string ⟨#[]⟩,.int .i64 0,.string ⟨#[]⟩,.int .i64 0]
theorem zQ9 {n:Nat} (h1:1≤n) (h2:n≤11):qUW[n*2]? = some (.string (rowW n))∧qUW[n*2+1]? = some (.int .i64 (qZx n)):=by
  have hk2:n=1∨n=2∨n=3∨n=4∨n=5∨n=6∨n=7∨n=8∨n=9∨n=10∨n=11:=by omega
  rcases hk2 with rfl | rfl | rfl | rfl | rfl | rfl | rfl | rfl | rfl | rfl | rfl <;> exact ⟨rfl,rfl⟩
section
variable {w0 w:World} {R:List Pr}
theorem qUf (H:Hd w0 R w) (k:Int):Calls Tryz.prog 158 #[.int .i64 k] w fun e w'=>e=.returned (.tuple #[.agg #[.string (rowW k),.int .i64 (qZx k)],.bool (decide (1≤k∧k≤11))])∧Hd w0 R w':=by
  obtain ⟨C,hC⟩:∃C:Array Value,qUW=C:=⟨_,rfl⟩
  obtain ⟨Z,hZ⟩:∃Z:Array Value,zXh=Z:=⟨_,rfl⟩
  have hZc:(Value.agg Z).cells=Z:=rfl
  have hC1:=Lib.hid (show C.all (·.oneCell')=true by rw [← hC];simp [qUW,Value.oneCell'])
  have hC2:=Lib.hid (show C.size=24 by rw [← hC];rfl)
  have hC3:=Lib.hid (show Z.size=24 by rw [← hZ];rfl)
  have hC4:∀ {n:Nat},1≤n→n≤11→C[n*2]? = some (.string (rowW n))∧C[n*2+1]? = some (.int .i64 (qZx n)):=fun h1 h2=>by rw [← hC];exact zQ9 h1 h2
  replace hC4:Hid (∀n:Nat,1≤n→n≤11→C[n*2]? = some (.string (rowW n))∧C[n*2+1]? = some (.int .i64 (qZx n))):=Lib.hid (fun n=>hC4)
  have HA:Hd w0 _ ((w.alloc (.cells #[.string ⟨#[]⟩,.int .i64 0] 291)).alloc (.cells Z 305)):=H.fol
  replace hC:=Lib.hid hC
  replace hZ:=Lib.hid hZ
  by_cases hk:1≤k∧k≤11
  · obtain ⟨n,rfl⟩:∃n:Nat,k=n:=⟨k.toNat,by omega⟩
    have hn1:¬(n:Int)<1:=by omega
    have hn2:¬(11:Int)<n:=by omega
    have hn3:(n:Int)<12:=by omega
    have hn4:(0:Int)≤n:=by omega
    have e3:decide (1≤(n:Int)∧(n:Int)≤11)=true:=by simp;omega
    have hat:=Lib.hid (hC4.out n (by omega) (by omega))
    rw [e3]
    clear hk e3 hC4
    go_enter Tryz.func158,Tryz.ntmps158
    go_wp2_with (first
          | (refine qZV rfl 305 _ rfl C (by rw [← hC.out];kernel_rfl) ?_)
          | (refine qQz rfl 305 rfl (.agg Z) (by rw [← hZ.out];kernel_rfl) ?_;refine qQk (cells:=C) (HA.k (w.heap.size+1)) rfl 305 _ _ rfl rfl rfl (by rw [hC2.out];kernel_rfl) (hC3.out.trans hC2.out.symm) hC1.out ?_;intro w1 H1;have hf:=H1.facts;simp only [Nat.reduceAdd] at hf;go_split_ands;have u1:=(H1.k (w.heap.size+1)).ce (n*2) hat.out.1;have u2:=(H1.k (w.heap.size+1)).ce (n*2+1) hat.out.2))
    (try simp only [Exit.inBlock,Exit.then])
    refine bodyPost_ret (qQg rfl _ _ w.heap.size 291 #[.string (rowW n),.int .i64 (qZx n)] (0,0) _ rfl (by exact ((Hd.fol H1:Hd w0 _ _).k w.heap.size).heap) Tryz.underlying291 rfl (by kernel_rfl)) rfl ⟨rfl,Hd.fin H1⟩
  · have n:∀j:Int,1≤j→j≤11→¬k=j:=fun j h1 h2 h3=>hk ⟨by omega,by omega⟩
    have e1:rowW k=⟨#[]⟩:=by simp only [rowW,n 1 (by decide) (by decide),n 2 (by decide) (by decide),n 3 (by decide) (by decide),n 4 (by decide) (by decide),n 5 (by decide) (by decide),n 6 (by decide) (by decide),n 7 (by decide) (by decide),n 8 (by decide) (by decide),n 9 (by decide) (by decide),n 10 (by decide) (by decide),n 11 (by decide) (by decide),if_false]
    have e2:qZx k=0:=by simp only [qZx,n 1 (by decide) (by decide),n 2 (by decide) (by decide),n 3 (by decide) (by decide),n 4 (by decide) (by decide),n 5 (by decide) (by decide),n 6 (by decide) (by decide),n 7 (by decide) (by decide),n 8 (by decide) (by decide),n 9 (by decide) (by decide),n 10 (by decide) (by decide),if_false]
    clear n
    have e3:decide (1≤k∧k≤11)=false:=by simp;omega
    rw [e1,e2,e3]
    have hk2:k<1∨(¬k<1∧11<k):=by omega
    clear e1 e2 e3 hk hC4
    rcases hk2 with h | ⟨h,h2⟩
    all_goals
      go_enter Tryz.func158,Tryz.ntmps158
      go_wp2_with (first
            | (refine qZV rfl 305 _ rfl C (by rw [← hC.out];kernel_rfl) ?_)
            | (refine qQz rfl 305 rfl (.agg Z) (by rw [← hZ.out];kernel_rfl) ?_;refine qQk (cells:=C) (HA.k (w.heap.size+1)) rfl 305 _ _ rfl rfl rfl (by rw [hC2.out];kernel_rfl) (hC3.out.trans hC2.out.symm) hC1.out ?_;intro w1 H1;have hf:=H1.facts;simp only [Nat.reduceAdd] at hf;go_split_ands))
      (try simp only [Exit.inBlock,Exit.then])
      refine bodyPost_ret (qQg rfl _ _ w.heap.size 291 #[.string ⟨#[]⟩,.int .i64 0] (0,0) _ rfl (by exact ((Hd.fol H1:Hd w0 _ _).k w.heap.size).heap) Tryz.underlying291 rfl (by kernel_rfl)) rfl ⟨rfl,Hd.fin H1⟩
end
end
section
open Go.RowKit Spl
def qYm (s:ByteArray):Int:=match (List.range 11).find? fun i:Nat=>(rowW ((i:Int)+1)).toList == s.toList with
  | some i=>(i:Int)+1
  | none=>0
theorem qqY {p:Nat→Bool} {n k:Nat} (hk:k<n) (h:∀j,j<k→p j=false) (hp:p k=true):(List.range n).find? p=some k:=by
  rw [List.find?_eq_some_iff_append]
  refine ⟨hp,List.range k,(List.range n).drop (k+1),?_,fun a ha=>by simp [h a (List.mem_range.1 ha)]⟩
  have e:List.range n=(List.range n).take k++(List.range n).drop k:=(List.take_append_drop _ _).symm
  have e2:(List.range n).drop k=k::(List.range n).drop (k+1):=by
    rw [List.drop_eq_getElem_cons (by simpa using hk)];simp
  have e3:(List.range n).take k=List.range k:=by rw [List.take_range,Nat.min_eq_left (by omega)]
  rw [e3,e2] at e
  exact e
theorem zQi {s:ByteArray} {k:Nat} (hk:k<11) (h:∀j:Nat,j<k→((rowW ((j:Int)+1)).toList == s.toList)=false) (hp:((rowW ((k:Int)+1)).toList == s.toList)=true):qYm s=(k:Int)+1:=by
  unfold qYm;rw [qqY (p:=fun i:Nat=>(rowW ((i:Int)+1)).toList == s.toList) hk h hp]
theorem qqv {s:ByteArray} (h:∀j:Nat,j<11→((rowW ((j:Int)+1)).toList == s.toList)=false):qYm s=0:=by
  unfold qYm
  have:(List.range 11).find? (fun i:Nat=>(rowW ((i:Int)+1)).toList == s.toList)=none:=by
    rw [List.find?_eq_none]
    intro x hx
    rw [h x (List.mem_range.1 hx)];simp
  rw [this]
section
variable {w0 w:World} {R:List Pr}
theorem qWm (H:Hd w0 R w) (s:ByteArray):Calls Tryz.prog 143 #[.string s] w fun e w'=>e=.returned (.int .i64 (qYm s))∧Hd w0 R w':=by
  go_enter Tryz.func143,Tryz.ntmps143
  go_wp2_with fail
  go_loopw [3] (fun i wr=>∃k:Nat,k≤11∧i=.int .i64 ((k:Int)+1)∧(∀j:Nat,j<k→((rowW ((j:Int)+1)).toList == s.toList)=false)∧Hd w0 R wr) (fun i _=>12-(intOf i).toNat)
  case atStart=>exact ⟨0,by omega,rfl,fun j h=>absurd h (Nat.not_lt_zero _),H⟩
  case round =>
    obtain ⟨k,hk,rfl,hno,H1⟩:=hrel
    by_cases hlt:k<11
    · have hcall:=qUf H1 ((k:Int)+1)
      have e1:decide (1≤(k:Int)+1∧(k:Int)+1≤11)=true:=by simp;omega
      rw [e1] at hcall
      have n1:(k:Int)+1≤11:=by omega
      have g5:IntKind.i64.wrap ((k:Int)+1+1)=(k:Int)+1+1:=IntWalk.i64_in _ (by omega)
      obtain ⟨W,hW⟩:∃W,rowW ((k:Int)+1)=W:=⟨_,rfl⟩
      rw [hW] at hcall
      replace hno:=Lib.hid hno
      cases hb:(W.toList == s.toList) with
      | true =>
        have hK:=Lib.hid (zQi hlt hno.out (by rw [hW];exact hb))
        clear hno hlt hk e1 H1 H
        go_wp2_with fail
        refine hcall.mono ?_
        rintro e w1 ⟨rfl,H2⟩
        clear hcall
        have HA:Hd w0 _ (w1.alloc (.cells #[.string W,.int .i64 (qZx ((k:Int)+1))] 291)):=H2.fol
        have hf:=HA.facts
        simp only [Nat.reduceAdd] at hf
        go_split_ands
        go_wp2_with fail
        go_ret
        exact ⟨qQp hK.out,HA.re⟩
      | false =>
        have hno2:∀j:Nat,j<k+1→((rowW ((j:Int)+1)).toList == s.toList)=false:=fun j hj=>by
          by_cases e:j=k
          · subst e;rw [hW];exact hb
          · exact hno.out j (by omega)
        replace hno2:=Lib.hid hno2
        clear hno e1 H1 H
        go_wp2_with fail
        refine hcall.mono ?_
        rintro e w1 ⟨rfl,H2⟩
        clear hcall
        have HA:Hd w0 _ (w1.alloc (.cells #[.string W,.int .i64 (qZx ((k:Int)+1))] 291)):=H2.fol
        have hf:=HA.facts
        simp only [Nat.reduceAdd] at hf
        go_split_ands
        go_wp2_with fail
        go_roundw
        case rel=>exact ⟨k+1,by omega,by simp,hno2.out,HA.re⟩
        case measure=>simp [intOf];omega
    · obtain rfl:k=11:=by omega
      have hK:=qqv hno
      clear hno
      go_wp2_with fail
      go_ret
      exact ⟨qQp hK,H1⟩
end
end
section
open Go.RowKit Spl
def qQL (o:OpM):Bool :=
  if ¬(1≤o.kind∧o.kind≤11) then false
  else if qZx o.kind=1 then (decide (0≤o.res) && decide (o.res<16)) && decide (1≤o.n) && decide (o.n≤255) && decide (o.v=0)
  else if qZx o.kind=2 then (decide (0≤o.res) && decide (o.res<16)) && decide (o.n=0) && decide (o.v=0)
  else if qZx o.kind=3 then decide (o.res=0) && decide (o.n=0)
  else if qZx o.kind=4 then decide (o.res=0) && decide (1≤o.n) && decide (o.n≤4096) && decide (o.v=0)
  else decide (o.res=0) && decide (o.n=0) && decide (o.v=0)
section
variable {w0 w:World} {R:List Pr}
theorem qJQ (H:Hd w0 R w) (o:OpM):Calls Tryz.prog 177 #[.agg #[.int .i64 o.kind,.int .i64 o.res,.int .i64 o.n,.int .i64 o.v]] w fun e w'=>e=.returned (.bool (qQL o))∧Hd w0 R w':=by
  obtain ⟨k,r,n,v⟩:=o
  have HB:Hd w0 _ (w.alloc (.cells #[.int .i64 k,.int .i64 r,.int .i64 n,.int .i64 v] 83)):=H.fol
  have hcall:=qUf HB k
  obtain ⟨W,hW⟩:∃W,rowW k=W:=⟨_,rfl⟩
  obtain ⟨h,hh⟩:∃h,qZx k=h:=⟨_,rfl⟩
  have hF:qQL ⟨k,r,n,v⟩=(if ¬(1≤k∧k≤11) then false
    else if h=1 then (decide (0≤r) && decide (r<16)) && decide (1≤n) && decide (n≤255) && decide (v=0)
    else if h=2 then (decide (0≤r) && decide (r<16)) && decide (n=0) && decide (v=0)
    else if h=3 then decide (r=0) && decide (n=0)
    else if h=4 then decide (r=0) && decide (1≤n) && decide (n≤4096) && decide (v=0)
    else decide (r=0) && decide (n=0) && decide (v=0)):=by unfold qQL;rw [hh]
  rw [hF]
  rw [hW,hh] at hcall
  clear hF hW hh HB
  by_cases hk:1≤k∧k≤11
  · rw [if_neg (by simpa using hk)]
    rw [show decide (1≤k∧k≤11)=true by simpa using hk] at hcall
    clear hk
    have hs:h=1∨(¬h=1∧(h=2∨(¬h=2∧(h=3∨(¬h=3∧(h=4∨¬h=4)))))):=by omega
    go_enter Tryz.func177,Tryz.ntmps177
    go_wp2_with fail
    refine hcall.mono ?_
    rintro e w1 ⟨rfl,H2⟩
    clear hcall
    have HA:Hd w0 _ (w1.alloc (.cells #[.string W,.int .i64 h] 291)):=H2.fol
    have hf:=HA.facts
    simp only [Nat.reduceAdd] at hf
    go_split_ands
    rcases hs with h1 | ⟨h1,h2 | ⟨h2,h3 | ⟨h3,h4 | h4⟩⟩⟩
    · subst h1
      go_wp2_with fail
      all_goals (go_ret;exact ⟨qZC (by first | rfl | (simp;done) | (simp;omega)),HA.re⟩)
    · subst h2
      go_wp2_with fail
      all_goals (go_ret;exact ⟨qZC (by first | rfl | (simp;done) | (simp;omega)),HA.re⟩)
    · subst h3
      go_wp2_with fail
      all_goals (go_ret;exact ⟨qZC (by first | rfl | (simp;done) | (simp;omega)),HA.re⟩)
    · subst h4
      go_wp2_with fail
      all_goals (go_ret;exact ⟨qZC (by first | rfl | (simp;done) | (simp;omega)),HA.re⟩)
    · go_wp2_with fail
      all_goals (go_ret;exact ⟨qZC (by first | rfl | (simp;done) | (simp;omega)),HA.re⟩)
  · rw [if_pos hk]
    rw [show decide (1≤k∧k≤11)=false by simpa using hk] at hcall
    clear hk
    go_enter Tryz.func177,Tryz.ntmps177
    go_wp2_with fail
    refine hcall.mono ?_
    rintro e w1 ⟨rfl,H2⟩
    clear hcall
    have HA:Hd w0 _ (w1.alloc (.cells #[.string W,.int .i64 h] 291)):=H2.fol
    have hf:=HA.facts
    simp only [Nat.reduceAdd] at hf
    go_split_ands
    go_wp2_with fail
    all_goals (go_ret;exact ⟨qZC (by first | rfl | (simp;done) | (simp;omega)),HA.re⟩)
end
end
section
open Go.RowKit Spl
section
variable {w0 w:World} {R L:List Pr} {P:Program} {F:Fence} {n:Nat}
theorem qJi {ops:Array Oper} {rest:List Oper} {o:Oper} {a:Act} {Q:Exit→Act→World→Prop} (hgd:o.guard=none) (s x:Operand) (t:TypeId)
    (ho:o.op=.call { callee:=.builtin .append,args:=#[s,x],argTypes:=#[t,t] })
    (e:TypeId) (i:TypeInfo) (z:Value) (size bytes:Nat) (ht:P.underlying t=some (.slice e)) (hi:P.info? e=some i) (hz:i.zero=some z)
    (hsize:i.size=size) (hby:i.bytes=bytes) (hzs:z.cells.size=size)
    (v:Value) (k:Nat) (xs:List Value) (hs:a.eval s=v) (H:Hd w0 (Slc e size v k xs::R) w)
    (ad:Addr) (m c:Nat) (news:List Value) (hx:a.eval x=.slice (some ad) m c) (hl:news.length=m*size) (hnews:∀j u,news[j]? = some u→w.cell? (ad.add j)=some u) (h1:∀u∈news,u.oneCell'=true)
    (h63:k+m≤maxLen) (hbytes:(k+m)*bytes≤140737488355328)
    (h:∀v' w',Hd w0 (Slc e size v' (k+m) (xs++news)::R) w'→wpListIn F n P ops Q rest (a.put o.dst v') w'):wpListIn F n P ops Q (o::rest) a w:=by
  refine wpListIn_plain hgd fun K hK=>?_
  obtain ⟨v',w',hr,h2⟩:=qJz (P:=P) t o.type e i z size bytes ht hi hz hsize hby hzs v k xs H ad m c news hl hnews h1 h63 hbytes
  unfold Oper.wpIn
  refine ⟨?_,?_⟩
  · simp [Oper.about,ho,resolve,Target.leads,Sem.run_pure]
  · rw [Oper.semAt_plain F _ _ (by rw [ho];intro c hc';cases hc')]
    simp [execOp,ho,resolve,invoke,builtin,hs,hx,hr,Result.andThen]
    exact hK _ _ (h v' w' h2)
end
end
section
open Go
section
variable {P:Program} {ops:Array Oper} {Q:Exit→Act→World→Prop} {md:Region.Mode} {S:World→Prop} {m:Nat} {lp n:Nat}
def qX6 (o:Oper):Bool:=match o.op with
  | .defer _=>false
  | _=>true
theorem qqp {o:Oper} (hd:qX6 o=true) (_hL:∀a w,¬Q .outgrown a w) {a:Act} {w:World} {K:Act→World→Prop} (h:o.wp P a w K Q):o.wpIn (Fence.wide.inRound lp) n P a w K Q:=by
  refine ⟨fun _ _=>trivial,?_⟩
  rw [Oper.semAt_eq _ _ _ (fun c hc=>by unfold qX6 at hd;rw [hc] at hd;cases hd)]
  unfold Oper.wp at h
  generalize (execOp a.eval o).run P w=r at *
  cases r with
  | ok x w' =>
    cases x with
    | enter f args=>exact ⟨fun h=>(by cases h),((callsIn_wide.2 h).inRound lp)⟩
    | row r args =>
      refine ⟨fun h=>(by cases h),fun c cs _=>?_⟩
      obtain ⟨v,w2,hr,hs⟩:=h c cs
      exact ⟨v,w2,hr,(stepsIn_wide.2 hs:StepsIn (Machine.fenced P Fence.wide) P _ _)⟩
    | round l f t s b=>exact h.elim
    | value v=>exact h
    | skip=>exact h
    | defer d=>exact h
    | _=>exact h
  | halt x w'=>cases x <;> exact h
theorem qYC (hd:∀(i:Nat) (o:Oper),ops[i]? = some o→qX6 o=true) (hL:∀a w,¬Q .outgrown a w) {i:Nat} {a:Act} {w:World} {K:Act→World→Prop} (h:wpOp P ops Q i K a w):wpOpIn (Fence.wide.inRound lp) n P ops Q i K a w:=by
  unfold wpOp at h
  unfold wpOpIn
  split
  · rename_i ho
    simpa [ho] using h
  · rename_i o ho
    simp only [ho] at h
    split
    · rename_i hw
      rw [if_pos hw] at h
      rcases h with h | ⟨_,a2,w2,h2⟩
      · exact qqp (hd i o ho) hL h
      · exact absurd h2 (hL _ _)
    · rename_i hw
      rw [if_neg hw] at h
      exact ⟨fun _ _=>trivial,h⟩
theorem qZW (hd:∀(i:Nat) (o:Oper),ops[i]? = some o→qX6 o=true) (hL:∀a w,¬Q .outgrown a w):∀(f:Nat) (listed:Array Bool) (a:Act) (w:World),wpAny P md ops Q f listed a w→wpAnyIn (Fence.wide.inRound lp) n P md ops Q f listed a w
  | 0,_,_,_,h=>h
  | f+1,_,_,_,h=>⟨h.1,fun i hi=>qYC hd hL (wpOp_mono (fun a w h=>qZW hd hL f _ a w h) (h.2 i hi))⟩
theorem qKz {id:Nat} {l:List Oper} {a:Act} {w:World} (m:Nat) (ord:List (Nat × Bool)) (S:World→Prop) (hf:P.follows .mixedOrders=true) (hB:zQw .any l.toArray m ord=true) (hp:l.all qX6=true) (hS:S w.drew)
    (hQ:∀c (a:Act) d v w,Q (.panic c) (a.put d v) w→Q (.panic c) a w) (hL:∀a w,¬Q .outgrown a w)
    (h:qJm P l.toArray Q S (wpList P l.toArray Q (l.drop m)) ord a w.drew):(Code.region id l.toArray true).wpIn (Fence.wide.inRound lp) n P Q a w:=by
  simp only [zQw,Bool.and_eq_true,decide_eq_true_eq] at hB
  obtain ⟨⟨⟨⟨⟨hsel,hm⟩,hs⟩,hc⟩,hlen⟩,hord⟩:=hB
  refine wpIn_region_any hf (qZW (fun i o ho=>List.all_eq_true.1 hp o (List.mem_of_getElem? (by simpa using ho))) hL _ _ _ _ ?_)
  have inv0:HeadInv .any l.toArray m (Array.replicate l.toArray.size false) :=
    ⟨by simp,fun j oj _ hl=>(by rw [getD_replicate_false] at hl;cases hl),fun t _ ht=>getD_in (by simpa using ht) (getD_replicate_false _ _)⟩
  have H:=qZ5 (P:=P) (Q:=Q) (S:=S) hsel (fun _ inv i hi hun t ht=>tail_waits hs hc hm inv _ i rfl hi hun t ht) hQ ord _ a w.drew inv0 hord hS h
  have hdl:(l.drop m).length=l.toArray.size-m:=by simp
  have H2:=qJE (g:=(l.drop m).length) (fun listed a w hL=>wpAny_of_seq (l.drop m) m listed a w (fun j=>by simp) (by rw [hdl];exact hL.1) hL.2) ord.length _ _ _ H
  have e:ord.length+(l.drop m).length=l.toArray.size:=by rw [hlen,hdl];omega
  rw [e] at H2
  exact H2
theorem qqb {id:Nat} {l:List Oper} {a:Act} {w:World} (ord:List (Nat × Bool)) (S:World→Prop) (hf:P.follows .mixedOrders=true) (hB:qVq .any l.toArray ord=true) (hp:l.all qX6=true) (hS:S w.drew)
    (hQ:∀c (a:Act) d v w,Q (.panic c) (a.put d v) w→Q (.panic c) a w) (hL:∀a w,¬Q .outgrown a w)
    (h:qJm P l.toArray Q S (fun a w=>Q .normal a w) ord a w.drew):(Code.region id l.toArray true).wpIn (Fence.wide.inRound lp) n P Q a w:=by
  simp only [qVq,Bool.and_eq_true,decide_eq_true_eq] at hB
  obtain ⟨⟨hsel,hlen⟩,hord⟩:=hB
  refine wpIn_region_any hf (qZW (fun i o ho=>List.all_eq_true.1 hp o (List.mem_of_getElem? (by simpa using ho))) hL _ _ _ _ ?_)
  have inv0:HeadInv .any l.toArray l.toArray.size (Array.replicate l.toArray.size false) :=
    ⟨by simp,fun j oj _ hl=>(by rw [getD_replicate_false] at hl;cases hl),fun t h1 h2=>absurd h2 (Nat.not_lt.2 h1)⟩
  have hd:l.toArray.toList.drop l.toArray.size = []:=by simp
  have H:=qZ5 (P:=P) (Q:=Q) (S:=S) hsel (fun _ _ i hi hun t ht hr=>by
    obtain ⟨_,o,ho,_⟩:=mem_ready.1 hr
    have:=(Array.getElem?_eq_some_iff.1 ho).1
    omega) hQ ord _ a w.drew inv0 hord hS (by rw [hd];exact h)
  rw [hd] at H
  have H2:=qJE (g:=0) (fun listed a w hL=>by
    have h1:=hL.1
    rw [Nat.sub_self] at h1
    exact (⟨by simpa [Region.seqB] using h1,hL.2⟩:wpAny P .any l.toArray Q 0 listed a w)) ord.length _ _ _ H
  rw [Nat.add_zero,hlen] at H2
  exact H2
end
end
section
open Go.RowKit Spl
section
variable {w0 w:World} {R L:List Pr} {P:Program} {n:Nat}
theorem qJs {α:Type} {g:Operand} {ps:Array Tmp} {assign body:Code} {Q:Exit→Act→World→Prop} {a:Act}
    {gf:Nat} {lb:Array Value} (hg:a.eval g=.func (.func gf) #[] lb) (eg:∀args w,(callFunc gf args).run P w=.ok (.enter gf args) w)
    {encs:α→Array Value} (hps:∀x,(encs x).size=ps.size) {It:List Pr} {xs:List α} (J:Nat→List Pr) (H:Hd w0 (all (J 0)::It) w) (hseq:zQG P gf lb encs w0 It xs) (G:Nat→α→Act→List Pr→Prop)
    (hassign:∀(l i:Nat) (x:α) (X:List Pr) (W:World),xs[i]? = some x→Hd w0 (J i++X) W →
      assign.wpIn (Fence.wide.inRound l) n P (Exit.then (fun a' W'=>∃Z,G i x a' Z∧Hd w0 (Z++X) W') (fun _ _ _=>False)) { tmps:=(ps.zip (encs x)).foldl (fun t (p,v)=>t.setIfInBounds p v) a.tmps,defers:=[] } W)
    (hbody:∀(l i:Nat) (x:α) (X Z:List Pr) (a':Act) (W:World),xs[i]? = some x→G i x a' Z→Hd w0 (Z++X) W→body.wpIn (Fence.wide.inRound l) n P (Exit.then (fun _ W'=>Hd w0 (J (i+1)++X) W') (fun _ _ _=>False)) a' W)
    (hdone:∀(D:Nat) (W:World),Hd w0 (J xs.length++pt D (.deferred (some []))::It) W→Q .normal { a with defers:={ target:=.collected D,args:=#[] }::a.defers } W) :
    (Code.rangeFunc g ps assign body).wpIn Fence.wide n P Q a w:=by
  refine wpIn_rangeFunc ?_
  intro fn hfn
  show ∃(l:Nat) (mark:List Deferred) (w₁:World) (d:Deferred) (w₁':World) (f:FuncId) (args:Array Value) (w₂:World),(Instr.enterLoop fn a.tmps ps assign body none).run P w=_∧_
  obtain ⟨rec,hrec⟩:∃rec:LoopState→Option Code→Loop,rec=fun st pe=>{ state:=st,pending:=pe,fn,tmps:=a.tmps,params:=ps,assign,body,defers:=w.heap.size }:=⟨_,rfl⟩
  obtain ⟨W1,hW1⟩:∃W1,(w.alloc (.deferred (some []))).alloc (.loop (rec .ready none))=W1:=⟨_,rfl⟩
  have H1:Hd w0 (pt (w.heap.size+1) (.loop (rec .ready none))::pt w.heap.size (.deferred (some []))::all (J 0)::It) W1:=by
    rw [← hW1];exact H.fol
  let Y:Nat→Pr:=fun i=>all (pt (w.heap.size+1) (.loop (rec .ready none))::pt w.heap.size (.deferred (some []))::J i)
  have HY:Hd w0 (Y 0::It) W1:=Hd.pack (L:=_::_::J 0) (by
    have h3:=H1.b3.flat
    have h4:Hd w0 (J 0++(pt (w.heap.size+1) (.loop (rec .ready none))::pt w.heap.size (.deferred (some []))::It)) W1:=h3
    exact h4.perm (by
      refine (List.perm_append_comm_assoc (J 0) [_,_] It)))
  refine ⟨w.heap.size+1,[{ target:=.collected w.heap.size,args:=#[] }],W1,{ target:=.fn (.func gf) lb,args:=#[.func (.yield (w.heap.size+1)) #[] #[]] },W1,gf,
    #[.func (.yield (w.heap.size+1)) #[] #[]]++lb,W1,?_,?_,?_,?_,(fun h=>by cases h),?_⟩
  · rw [← hW1,hrec];exact run_enterLoop_outer _ _ _ _ _
  · simp only [resolve,hg]
    simp [go_sem]
  · intro f' hf';trivial
  · simp [invoke,go_sem,eg]
  · refine (hseq (w.heap.size+1) Y W1 (n-1) HY ?_).mono ?_
    · intro i x X W m hx HW
      have HW2:Hd w0 (pt (w.heap.size+1) (.loop (rec .ready none))::pt w.heap.size (.deferred (some []))::(J i++X)) W:=HW.flat
      have hl:=HW2.heap
      have hy:=run_yield (P:=P) (args:=encs x) hl (by rw [hrec];exact hps x)
      rw [hrec] at hy
      have HWa:Hd w0 (J i++(pt (w.heap.size+1) (.loop (rec .ready none))::pt w.heap.size (.deferred (some []))::X)) W:=HW2.perm (List.perm_append_comm_assoc (J i) [_,_] X).symm
      refine ⟨fn,_,assign,body,hy,RoundIn.any rfl (roundIn_of_wpIn hfn (wpIn_mono (hassign _ i x _ W hx HWa) ?_))⟩
      rintro e0 a' W' hp0
      cases e0 with
      | normal =>
        obtain ⟨Z,hG,HZ⟩:=hp0
        have HZ2:Hd w0 (pt (w.heap.size+1) (.loop (rec .ready none))::pt w.heap.size (.deferred (some []))::(Z++X)) W':=HZ.perm (List.perm_append_comm_assoc Z [_,_] X)
        refine ⟨_,run_beginRound HZ2.heap (by rw [hrec]),?_⟩
        have HW3:=HZ2.putO (.loop { rec .ready none with state:=.busy })
        refine wpIn_mono (hbody _ i x (pt (w.heap.size+1) (.loop { rec .ready none with state:=.busy })::pt w.heap.size (.deferred (some []))::X) Z a' _ hx hG (HW3.perm ?_)) ?_
        · exact (List.perm_append_comm_assoc Z [_,_] X).symm
        · rintro e a3 W3 hp
          cases e with
          | normal =>
            have HW4:Hd w0 (J (i+1)++(pt (w.heap.size+1) (.loop { rec .ready none with state:=.busy })::pt w.heap.size (.deferred (some []))::X)) W3:=hp
            have HW5:Hd w0 (pt (w.heap.size+1) (.loop { rec .ready none with state:=.busy })::pt w.heap.size (.deferred (some []))::(J (i+1)++X)) W3:=HW4.perm (List.perm_append_comm_assoc (J (i+1)) [_,_] X)
            have hr:=run_endRound (P:=P) none HW5.heap
            refine ⟨_,_,hr,rfl,?_⟩
            have HW6:=HW5.putO (.loop { rec .ready none with state:=.ready,pending:=none })
            refine Hd.pack (L:=_::_::J (i+1)) ?_
            rw [hrec] at HW6 ⊢
            exact HW6
          | _=>exact hp.elim
      | _=>exact hp0.elim
    · rintro e W2 ⟨⟨v,rfl⟩,HW⟩
      have HW2:Hd w0 (pt (w.heap.size+1) (.loop (rec .ready none))::pt w.heap.size (.deferred (some []))::(J xs.length++It)) W2:=HW.flat
      have hr:=run_endLoop (P:=P) HW2.heap (by rw [hrec];simp)
      have HW3:=HW2.putO (.loop { rec .ready none with state:=.exhausted })
      rw [hrec] at hr HW3
      refine ⟨none,_,hr,hdone _ _ ?_⟩
      refine HW3.tail.perm ?_
      exact (List.perm_append_comm_assoc (J xs.length) [_] It).symm
theorem qKr {fn:Func} {tmps:Array Value} {Q:Ending→World→Prop} (h:∀W,Hd w0 L W→∃v,(results fn tmps).run P W=.ok v W∧Q (.returned v) W):∀(ds:List Nat) {w:World},Hd w0 (all (ds.map fun D=>pt D (.deferred (some [])))::L) w →
    LeavesInM Fence.wide n P fn tmps Q (ds.map fun D=>{ target:=.collected D,args:=#[] }) .returning w
  | [],_,H=>h _ H.tail
  | D::ds,w,H=>by
    have H1:Hd w0 (pt D (.deferred (some []))::((ds.map fun D=>pt D (.deferred (some [])))++L)) w:=H.flat
    have H2:=(H1.putO (.deferred none)).tail
    exact ⟨by simp,.inl ⟨_,_,rfl,run_takeDeferred H1.heap,qKr h ds (Hd.pack H2)⟩⟩
end
end
end Go.Proofs.YtkchopnkdjnocaaGreatDoor
