/-
  Merged texts of one proof: Code9, Code10.
-/
import Derived.Test.YtkchopnkdjnocaaGreatDoorG23

set_option maxHeartbeats 16000000
set_option maxRecDepth 20000
namespace Go.Proofs.YtkchopnkdjnocaaGreatDoor
section
open Go.RowKit Spl
structure RdM where
  pos:Nat
  ops:List OpM
  opn:Int
def qZR (h:Int):List Nat:=if h=1 then [1,2] else if h=2 then [1] else if h=3 then [3] else if h=4 then [2] else []
def qZq (s:ByteArray):List Nat→Nat→OpM→(Int × Int) × Nat × OpM
  | [],i,o=>((0,0),i,o)
  | j::l,i,o=>if (qQJ s i o j).1.2=0 then qZq s l (wEnd s i) (qQJ s i o j).2 else ((qQJ s i o j).1,wEnd s i,(qQJ s i o j).2)
def oneM (s:ByteArray) (m:RdM) (kind:Int):(Int × Int) × RdM :=
  let r:=qZq s (qZR (qZx kind)) m.pos ⟨kind,0,0,0⟩
  if r.1.2=0 then
    if kind=10 then
      if (qZs s r.2.1).toList == [123] then ((0,0),⟨wEnd s r.2.1,m.ops++[r.2.2],m.opn+1⟩)
      else if (qZs s r.2.1).size=0 then (((s.size:Int),31),⟨wEnd s r.2.1,m.ops,m.opn⟩)
      else (((qZY s r.2.1:Int),30),⟨wEnd s r.2.1,m.ops,m.opn⟩)
    else if kind=11 then ((0,0),⟨r.2.1,m.ops++[r.2.2],m.opn-1⟩)
    else ((0,0),⟨r.2.1,m.ops++[r.2.2],m.opn⟩)
  else (r.1,⟨r.2.1,m.ops,m.opn⟩)
def RdP (b:Nat) (s:ByteArray) (m:RdM):Pr:=ex fun v:Value=>all [cel b 278 #[.string s,.int .i64 m.pos,v,.int .i64 m.opn],SlE 83 v m.ops]
instance (b:Nat) (s:ByteArray) (m:RdM):Key (RdP b s m) (.b b):=⟨trivial⟩
theorem qZS:(Tryz.prog.info? 83).map (fun i=>(i.zero,i.size,i.bytes))=some (some (.agg #[.int .i64 0,.int .i64 0,.int .i64 0,.int .i64 0]),4,32):=by kernel_rfl
def ptrJ (ob j:Nat):Value:=.pointer (some ⟨ob,j,none⟩)
theorem zKH {a b c d:Int} {x y:Int × Int} (h:y=x) (ha:x.1=a) (hb:x.2=b) (hc:y.1=c) (hd:y.2=d):Ending.returned (.tuple #[.int .i64 a,.int .i64 b])=Ending.returned (.tuple #[.int .i64 c,.int .i64 d]):=by subst h ha hb hc hd;rfl
theorem zZF {s:ByteArray}:∀(l:List Nat) (i:Nat) (o:OpM),i≤s.size→(qZq s l i o).2.1≤s.size:=by
  intro l
  induction l with
  | nil=>intro i o h;exact h
  | cons j l ih =>
    intro i o h
    have h2:=(qZU h).2.2
    rw [qZq]
    split
    · exact ih _ _ h2
    · exact h2
theorem qZ8 {s:ByteArray} {i j:Nat} {o:OpM}:(qQJ s i o j).2.kind=o.kind:=by
  have hp:∀n,(o.put j n).kind=o.kind:=fun n=>by unfold OpM.put;split <;> rfl
  unfold qQJ
  split
  · rfl
  · dsimp only
    split
    · exact hp _
    · split
      · split <;> exact hp _
      · split <;> exact hp _
section
variable {w0 w:World} {R:List Pr} {b:Nat} {s:ByteArray} {m:RdM}
theorem RdP.opened (H:Hd w0 (RdP b s m::R) w):∃v,Hd w0 (cel b 278 #[.string s,.int .i64 m.pos,v,.int .i64 m.opn]::SlE 83 v m.ops::R) w:=by
  obtain ⟨v,H⟩:=H.out
  exact ⟨v,H.flat⟩
theorem RdP.shut {v:Value} (H:Hd w0 (cel b 278 #[.string s,.int .i64 m.pos,v,.int .i64 m.opn]::SlE 83 v m.ops::R) w):Hd w0 (RdP b s m::R) w :=
  Hd.into v (Hd.pack (L:=[_,_]) H)
theorem zXM [Lay w0 R] (H:Hd w0 (RdP b s m::R) w) (ha:m.pos≤s.size) (hs:s.size≤100000) (hn:m.ops.length≤1000) (hq:-1000≤m.opn∧m.opn≤1000) (kind:Int) :
    Calls Tryz.prog 145 #[.pointer (some ⟨b,0,none⟩),.int .i64 kind] w fun e w'=>e=.returned (.tuple #[.int .i64 (oneM s m kind).1.1,.int .i64 (oneM s m kind).1.2])∧Hd w0 (RdP b s (oneM s m kind).2::R) w':=by
  obtain ⟨ov,H1⟩:=RdP.opened H
  obtain ⟨ps,ops,opn⟩:=m
  dsimp only at ha hn hq H1
  have H2:Hd w0 _ (w.alloc (.cells #[.int .i64 kind,.int .i64 0,.int .i64 0,.int .i64 0] 83)):=H1.fol
  have hrow:=qUf H2 kind
  obtain ⟨W,hW⟩:∃W,rowW kind=W:=⟨_,rfl⟩
  obtain ⟨h,hh⟩:∃h,qZx kind=h:=⟨_,rfl⟩
  obtain ⟨bb,hbb⟩:∃bb,decide (1≤kind∧kind≤11)=bb:=⟨_,rfl⟩
  rw [hW,hh,hbb] at hrow
  clear hW hbb H H1 H2
  obtain ⟨res,hres⟩:∃res,oneM s ⟨ps,ops,opn⟩ kind=res:=⟨_,rfl⟩
  rw [hres]
  unfold oneM at hres
  dsimp only at hres
  rw [hh] at hres
  have hk10:kind=10→h=4:=fun e=>by rw [← hh,e];rfl
  have hk11:kind=11→h=0:=fun e=>by rw [← hh,e];rfl
  clear hh
  have hsplit:h=1∨(¬h=1∧(h=2∨(¬h=2∧(h=3∨(¬h=3∧(h=4∨¬h=4)))))):=by omega
  go_enter Tryz.func145,Tryz.ntmps145
  go_wp2_with fail
  refine hrow.mono ?_
  rintro e w1 ⟨rfl,H3⟩
  clear hrow
  have HA:Hd w0 _ (w1.alloc (.cells #[.string W,.int .i64 h] 291)):=H3.fol
  have hf:=HA.facts
  simp only [Nat.reduceAdd] at hf
  go_split_ands
  rcases hsplit with h1 | ⟨h1,h2 | ⟨h2,h3 | ⟨h3,h4 | h4⟩⟩⟩
  · subst h1
    have hfo:qZR 1 = [1,2]:=by rfl
    rw [hfo] at hres
    clear hfo
    obtain ⟨T,hT⟩:∃T,qZq s [1,2] ps ⟨kind,0,0,0⟩=T:=⟨_,rfl⟩
    rw [hT] at hres
    go_wp2_with fail
    go_loopw [44] (fun i wr=>∃(k p:Nat) (o:OpM),k≤2∧i=.int .i64 k∧p≤s.size∧T=qZq s (List.drop k [1,2]) p o∧o.kind=kind∧Hd w0 (cel b 278 #[.string s,.int .i64 p,ov,.int .i64 opn]::SlE 83 ov ops::cel w.heap.size 83 #[.int .i64 o.kind,.int .i64 o.res,.int .i64 o.n,.int .i64 o.v]::cel (w1.heap.size+1) 295 #[.pointer (some ⟨w.heap.size,1,none⟩),.pointer (some ⟨w.heap.size,2,none⟩)]::R) wr) (fun i _=>2-(intOf i).toNat)
    case atStart=>exact ⟨0,ps,⟨kind,0,0,0⟩,by omega,rfl,ha,hT.symm,rfl,by exact Hd.fin HA⟩
    case round =>
      clear HA H3
      obtain ⟨k,p,o,hk,rfl,hp,ht,hok,H1⟩:=hrel
      have hkk:k=0∨k=1∨k=2:=by omega
      rcases hkk with rfl | rfl | rfl
      · clear hk
        have hf:=H1.facts
        simp only [Nat.reduceAdd] at hf
        go_split_ands
        have hcall:=qK5 (b:=b) (ob:=w.heap.size) (o:=o) (at0:=p) (j:=1) (ov:=ov) (op:=.int .i64 opn) (R:=SlE 83 ov ops::cel (w1.heap.size+1) 295 #[.pointer (some ⟨w.heap.size,1,none⟩),.pointer (some ⟨w.heap.size,2,none⟩)]::R) (H1.re) hp hs (by decide)
        obtain ⟨r,hr⟩:∃r,qQJ s p o 1=r:=⟨_,rfl⟩
        have hrk:r.2.kind=kind:=by rw [← hr,qZ8];exact hok
        rw [hr] at hcall
        have ht2:=ht
        rw [show List.drop 0 [1,2]=1::List.drop 1 [1,2] from rfl,qZq,hr] at ht2
        by_cases hz:r.1.2=0
        · rw [if_pos hz] at ht2
          rw [hz] at hcall
          replace ht2:=Lib.hid ht2
          replace hres:=Lib.hid hres
          have hwl:=Lib.hid (qZU hp).2.2
          clear ht hok hr H1
          go_wp2_with fail
          refine hcall.mono ?_
          rintro e w3 ⟨rfl,H4⟩
          clear hcall
          go_wp2_with fail
          go_roundw
          case rel=>exact ⟨1,wEnd s p,r.2,by omega,by simp,hwl.out,ht2.out,hrk,by exact H4.re⟩
          case measure=>simp [intOf]
        · rw [if_neg hz] at ht2
          rw [ht2] at hres
          dsimp only at hres
          rw [if_neg hz] at hres
          subst hres
          clear ht ht2 hok hr H1
          go_wp2_with fail
          refine hcall.mono ?_
          rintro e w3 ⟨rfl,H4⟩
          clear hcall
          go_wp2_with fail
          go_ret2
          exact ⟨rfl,RdP.shut (m:=⟨wEnd s p,ops,opn⟩) (v:=ov) H4.re⟩
      · clear hk
        have hf:=H1.facts
        simp only [Nat.reduceAdd] at hf
        go_split_ands
        have hcall:=qK5 (b:=b) (ob:=w.heap.size) (o:=o) (at0:=p) (j:=2) (ov:=ov) (op:=.int .i64 opn) (R:=SlE 83 ov ops::cel (w1.heap.size+1) 295 #[.pointer (some ⟨w.heap.size,1,none⟩),.pointer (some ⟨w.heap.size,2,none⟩)]::R) (H1.re) hp hs (by decide)
        obtain ⟨r,hr⟩:∃r,qQJ s p o 2=r:=⟨_,rfl⟩
        have hrk:r.2.kind=kind:=by rw [← hr,qZ8];exact hok
        rw [hr] at hcall
        have ht2:=ht
        rw [show List.drop 1 [1,2]=2::List.drop 2 [1,2] from rfl,qZq,hr] at ht2
        by_cases hz:r.1.2=0
        · rw [if_pos hz] at ht2
          rw [hz] at hcall
          replace ht2:=Lib.hid ht2
          replace hres:=Lib.hid hres
          have hwl:=Lib.hid (qZU hp).2.2
          clear ht hok hr H1
          go_wp2_with fail
          refine hcall.mono ?_
          rintro e w3 ⟨rfl,H4⟩
          clear hcall
          go_wp2_with fail
          go_roundw
          case rel=>exact ⟨2,wEnd s p,r.2,by omega,by simp,hwl.out,ht2.out,hrk,by exact H4.re⟩
          case measure=>simp [intOf]
        · rw [if_neg hz] at ht2
          rw [ht2] at hres
          dsimp only at hres
          rw [if_neg hz] at hres
          subst hres
          clear ht ht2 hok hr H1
          go_wp2_with fail
          refine hcall.mono ?_
          rintro e w3 ⟨rfl,H4⟩
          clear hcall
          go_wp2_with fail
          go_ret2
          exact ⟨rfl,RdP.shut (m:=⟨wEnd s p,ops,opn⟩) (v:=ov) H4.re⟩
      · rw [show List.drop 2 [1,2] = [] from rfl,qZq] at ht
        rw [ht] at hres
        dsimp only at hres
        rw [if_pos rfl] at hres
        rw [if_neg (show ¬kind=10 from fun e=>absurd (hk10 e) (by decide)),if_neg (show ¬kind=11 from fun e=>absurd (hk11 e) (by decide))] at hres
        have q10:¬kind=10:=fun e=>absurd (hk10 e) (by decide)
        have q11:¬kind=11:=fun e=>absurd (hk11 e) (by decide)
        have hrs:=hres
        clear hres ht hk hk10 hk11 hok hT
        have d2:=(H1.k b).ce 2 rfl
        have o0:=(H1.k w.heap.size).ce 0 rfl
        have o1:=(H1.k w.heap.size).ce 1 rfl
        have o2:=(H1.k w.heap.size).ce 2 rfl
        have o3:=(H1.k w.heap.size).ce 3 rfl
        have HP:Hd w0 _ ((wr.alloc (.cells #[.int .i64 o.kind,.int .i64 o.res,.int .i64 o.n,.int .i64 o.v] 83)).drew):=H1.fol
        obtain ⟨i0,hi,hz0,hz1,hz2⟩:=info_parts qZS
        have hS:∀ {v':Value} {L:List Pr} {w:World},Hd w0 (Slc 83 4 v' (ops.length+1) (flat ops++[.int .i64 o.kind,.int .i64 o.res,.int .i64 o.n,.int .i64 o.v])::L) w→Hd w0 (SlE 83 v' (ops++[o])::L) w:=by
          intro v' L w h
          have e1:(ops++[o]).length=ops.length+1:=by simp
          have e2:flat (ops++[o])=flat ops++[.int .i64 o.kind,.int .i64 o.res,.int .i64 o.n,.int .i64 o.v]:=by rw [qQc,qQK];rfl
          unfold SlE
          rw [e1,e2]
          exact h
        go_wp2_with fail
        refine wm 8 [(0,true),(1,true),(2,true),(3,true),(4,true),(5,true),(6,false),(7,false)] (fun w'=>w'.cell? ⟨b,2,none⟩=some ov∧w'.cell? ⟨w.heap.size,0,none⟩=some (.int .i64 o.kind)∧w'.cell? ⟨w.heap.size,1,none⟩=some (.int .i64 o.res)∧w'.cell? ⟨w.heap.size,2,none⟩=some (.int .i64 o.n)∧w'.cell? ⟨w.heap.size,3,none⟩=some (.int .i64 o.v)) (⟨d2,o0,o1,o2,o3⟩) ?_
        simp only [List.drop_succ_cons,List.drop_zero]
        iterate 6 (refine mh ?_;(try simp only [Act.put,List.setIfInBounds_toArray,List.set_cons_zero,List.set_cons_succ]))
        refine mm ?_
        go_wp2_with fail
        refine qQd (by exact ⟨((Hd.fol H1:Hd w0 _ _).k b).ce 2 rfl,((Hd.fol H1:Hd w0 _ _).k w.heap.size).ce 0 rfl,((Hd.fol H1:Hd w0 _ _).k w.heap.size).ce 1 rfl,((Hd.fol H1:Hd w0 _ _).k w.heap.size).ce 2 rfl,((Hd.fol H1:Hd w0 _ _).k w.heap.size).ce 3 rfl⟩) ?_
        refine mm ?_
        refine qQb rfl _ _ 78 rfl 83 i0 _ 4 32 Tryz.underlying78 hi hz0 hz1 hz2 rfl _ _ _ rfl (HP.v ov) ⟨wr.heap.size,0,none⟩ 1 1 [.int .i64 o.kind,.int .i64 o.res,.int .i64 o.n,.int .i64 o.v] rfl rfl (qQA (HP.k wr.heap.size)) (by simp [Value.oneCell']) (by unfold maxLen;omega) (by omega) ?_
        intro v' w2 H4
        have HF:=hS H4
        obtain ⟨l',hl'⟩:∃l',ops++[o]=l':=⟨_,rfl⟩
        rw [hl'] at HF hrs
        clear H4 HP hS
        obtain ⟨a',c',rfl,-,-,-,-⟩:=HF.slc_form
        replace hl':=Lib.hid hl'
        have d2:=(HF.k b).ce 2 rfl
        have f2:=(HF.k b).fr 2
        have o0:=(HF.k w.heap.size).ce 0 rfl
        have o1:=(HF.k w.heap.size).ce 1 rfl
        have o2:=(HF.k w.heap.size).ce 2 rfl
        have o3:=(HF.k w.heap.size).ce 3 rfl
        refine qQd ⟨d2,o0,o1,o2,o3⟩ ?_
        refine qQe ?_
        (try dsimp only)
        go_wp2_with fail
        go_ret2
        refine ⟨qZl (by rw [← hrs]) (by rw [← hrs]),?_⟩
        rw [← hrs]
        exact RdP.shut (m:=⟨p,l',opn⟩) (v:=.slice a' l'.length c') (by exact Hd.fin HF)
  · subst h2
    have hfo:qZR 2 = [1]:=by rfl
    rw [hfo] at hres
    clear hfo
    obtain ⟨T,hT⟩:∃T,qZq s [1] ps ⟨kind,0,0,0⟩=T:=⟨_,rfl⟩
    rw [hT] at hres
    go_wp2_with fail
    go_loopw [44] (fun i wr=>∃(k p:Nat) (o:OpM),k≤1∧i=.int .i64 k∧p≤s.size∧T=qZq s (List.drop k [1]) p o∧o.kind=kind∧Hd w0 (cel b 278 #[.string s,.int .i64 p,ov,.int .i64 opn]::SlE 83 ov ops::cel w.heap.size 83 #[.int .i64 o.kind,.int .i64 o.res,.int .i64 o.n,.int .i64 o.v]::cel (w1.heap.size+1) 295 #[.pointer (some ⟨w.heap.size,1,none⟩)]::R) wr) (fun i _=>1-(intOf i).toNat)
    case atStart=>exact ⟨0,ps,⟨kind,0,0,0⟩,by omega,rfl,ha,hT.symm,rfl,by exact Hd.fin HA⟩
    case round =>
      clear HA H3
      obtain ⟨k,p,o,hk,rfl,hp,ht,hok,H1⟩:=hrel
      have hkk:k=0∨k=1:=by omega
      rcases hkk with rfl | rfl
      · clear hk
        have hf:=H1.facts
        simp only [Nat.reduceAdd] at hf
        go_split_ands
        have hcall:=qK5 (b:=b) (ob:=w.heap.size) (o:=o) (at0:=p) (j:=1) (ov:=ov) (op:=.int .i64 opn) (R:=SlE 83 ov ops::cel (w1.heap.size+1) 295 #[.pointer (some ⟨w.heap.size,1,none⟩)]::R) (H1.re) hp hs (by decide)
        obtain ⟨r,hr⟩:∃r,qQJ s p o 1=r:=⟨_,rfl⟩
        have hrk:r.2.kind=kind:=by rw [← hr,qZ8];exact hok
        rw [hr] at hcall
        have ht2:=ht
        rw [show List.drop 0 [1]=1::List.drop 1 [1] from rfl,qZq,hr] at ht2
        by_cases hz:r.1.2=0
        · rw [if_pos hz] at ht2
          rw [hz] at hcall
          replace ht2:=Lib.hid ht2
          replace hres:=Lib.hid hres
          have hwl:=Lib.hid (qZU hp).2.2
          clear ht hok hr H1
          go_wp2_with fail
          refine hcall.mono ?_
          rintro e w3 ⟨rfl,H4⟩
          clear hcall
          go_wp2_with fail
          go_roundw
          case rel=>exact ⟨1,wEnd s p,r.2,by omega,by simp,hwl.out,ht2.out,hrk,by exact H4.re⟩
          case measure=>simp [intOf]
        · rw [if_neg hz] at ht2
          rw [ht2] at hres
          dsimp only at hres
          rw [if_neg hz] at hres
          subst hres
          clear ht ht2 hok hr H1
          go_wp2_with fail
          refine hcall.mono ?_
          rintro e w3 ⟨rfl,H4⟩
          clear hcall
          go_wp2_with fail
          go_ret2
          exact ⟨rfl,RdP.shut (m:=⟨wEnd s p,ops,opn⟩) (v:=ov) H4.re⟩
      · rw [show List.drop 1 [1] = [] from rfl,qZq] at ht
        rw [ht] at hres
        dsimp only at hres
        rw [if_pos rfl] at hres
        rw [if_neg (show ¬kind=10 from fun e=>absurd (hk10 e) (by decide)),if_neg (show ¬kind=11 from fun e=>absurd (hk11 e) (by decide))] at hres
        have q10:¬kind=10:=fun e=>absurd (hk10 e) (by decide)
        have q11:¬kind=11:=fun e=>absurd (hk11 e) (by decide)
        have hrs:=hres
        clear hres ht hk hk10 hk11 hok hT
        have d2:=(H1.k b).ce 2 rfl
        have o0:=(H1.k w.heap.size).ce 0 rfl
        have o1:=(H1.k w.heap.size).ce 1 rfl
        have o2:=(H1.k w.heap.size).ce 2 rfl
        have o3:=(H1.k w.heap.size).ce 3 rfl
        have HP:Hd w0 _ ((wr.alloc (.cells #[.int .i64 o.kind,.int .i64 o.res,.int .i64 o.n,.int .i64 o.v] 83)).drew):=H1.fol
        obtain ⟨i0,hi,hz0,hz1,hz2⟩:=info_parts qZS
        have hS:∀ {v':Value} {L:List Pr} {w:World},Hd w0 (Slc 83 4 v' (ops.length+1) (flat ops++[.int .i64 o.kind,.int .i64 o.res,.int .i64 o.n,.int .i64 o.v])::L) w→Hd w0 (SlE 83 v' (ops++[o])::L) w:=by
          intro v' L w h
          have e1:(ops++[o]).length=ops.length+1:=by simp
          have e2:flat (ops++[o])=flat ops++[.int .i64 o.kind,.int .i64 o.res,.int .i64 o.n,.int .i64 o.v]:=by rw [qQc,qQK];rfl
          unfold SlE
          rw [e1,e2]
          exact h
        go_wp2_with fail
        refine wm 8 [(0,true),(1,true),(2,true),(3,true),(4,true),(5,true),(6,false),(7,false)] (fun w'=>w'.cell? ⟨b,2,none⟩=some ov∧w'.cell? ⟨w.heap.size,0,none⟩=some (.int .i64 o.kind)∧w'.cell? ⟨w.heap.size,1,none⟩=some (.int .i64 o.res)∧w'.cell? ⟨w.heap.size,2,none⟩=some (.int .i64 o.n)∧w'.cell? ⟨w.heap.size,3,none⟩=some (.int .i64 o.v)) (⟨d2,o0,o1,o2,o3⟩) ?_
        simp only [List.drop_succ_cons,List.drop_zero]
        iterate 6 (refine mh ?_;(try simp only [Act.put,List.setIfInBounds_toArray,List.set_cons_zero,List.set_cons_succ]))
        refine mm ?_
        go_wp2_with fail
        refine qQd (by exact ⟨((Hd.fol H1:Hd w0 _ _).k b).ce 2 rfl,((Hd.fol H1:Hd w0 _ _).k w.heap.size).ce 0 rfl,((Hd.fol H1:Hd w0 _ _).k w.heap.size).ce 1 rfl,((Hd.fol H1:Hd w0 _ _).k w.heap.size).ce 2 rfl,((Hd.fol H1:Hd w0 _ _).k w.heap.size).ce 3 rfl⟩) ?_
        refine mm ?_
        refine qQb rfl _ _ 78 rfl 83 i0 _ 4 32 Tryz.underlying78 hi hz0 hz1 hz2 rfl _ _ _ rfl (HP.v ov) ⟨wr.heap.size,0,none⟩ 1 1 [.int .i64 o.kind,.int .i64 o.res,.int .i64 o.n,.int .i64 o.v] rfl rfl (qQA (HP.k wr.heap.size)) (by simp [Value.oneCell']) (by unfold maxLen;omega) (by omega) ?_
        intro v' w2 H4
        have HF:=hS H4
        obtain ⟨l',hl'⟩:∃l',ops++[o]=l':=⟨_,rfl⟩
        rw [hl'] at HF hrs
        clear H4 HP hS
        obtain ⟨a',c',rfl,-,-,-,-⟩:=HF.slc_form
        replace hl':=Lib.hid hl'
        have d2:=(HF.k b).ce 2 rfl
        have f2:=(HF.k b).fr 2
        have o0:=(HF.k w.heap.size).ce 0 rfl
        have o1:=(HF.k w.heap.size).ce 1 rfl
        have o2:=(HF.k w.heap.size).ce 2 rfl
        have o3:=(HF.k w.heap.size).ce 3 rfl
        refine qQd ⟨d2,o0,o1,o2,o3⟩ ?_
        refine qQe ?_
        (try dsimp only)
        go_wp2_with fail
        go_ret2
        refine ⟨qZl (by rw [← hrs]) (by rw [← hrs]),?_⟩
        rw [← hrs]
        exact RdP.shut (m:=⟨p,l',opn⟩) (v:=.slice a' l'.length c') (by exact Hd.fin HF)
  · subst h3
    have hfo:qZR 3 = [3]:=by rfl
    rw [hfo] at hres
    clear hfo
    obtain ⟨T,hT⟩:∃T,qZq s [3] ps ⟨kind,0,0,0⟩=T:=⟨_,rfl⟩
    rw [hT] at hres
    go_wp2_with fail
    go_loopw [44] (fun i wr=>∃(k p:Nat) (o:OpM),k≤1∧i=.int .i64 k∧p≤s.size∧T=qZq s (List.drop k [3]) p o∧o.kind=kind∧Hd w0 (cel b 278 #[.string s,.int .i64 p,ov,.int .i64 opn]::SlE 83 ov ops::cel w.heap.size 83 #[.int .i64 o.kind,.int .i64 o.res,.int .i64 o.n,.int .i64 o.v]::cel (w1.heap.size+1) 295 #[.pointer (some ⟨w.heap.size,3,none⟩)]::R) wr) (fun i _=>1-(intOf i).toNat)
    case atStart=>exact ⟨0,ps,⟨kind,0,0,0⟩,by omega,rfl,ha,hT.symm,rfl,by exact Hd.fin HA⟩
    case round =>
      clear HA H3
      obtain ⟨k,p,o,hk,rfl,hp,ht,hok,H1⟩:=hrel
      have hkk:k=0∨k=1:=by omega
      rcases hkk with rfl | rfl
      · clear hk
        have hf:=H1.facts
        simp only [Nat.reduceAdd] at hf
        go_split_ands
        have hcall:=qK5 (b:=b) (ob:=w.heap.size) (o:=o) (at0:=p) (j:=3) (ov:=ov) (op:=.int .i64 opn) (R:=SlE 83 ov ops::cel (w1.heap.size+1) 295 #[.pointer (some ⟨w.heap.size,3,none⟩)]::R) (H1.re) hp hs (by decide)
        obtain ⟨r,hr⟩:∃r,qQJ s p o 3=r:=⟨_,rfl⟩
        have hrk:r.2.kind=kind:=by rw [← hr,qZ8];exact hok
        rw [hr] at hcall
        have ht2:=ht
        rw [show List.drop 0 [3]=3::List.drop 1 [3] from rfl,qZq,hr] at ht2
        by_cases hz:r.1.2=0
        · rw [if_pos hz] at ht2
          rw [hz] at hcall
          replace ht2:=Lib.hid ht2
          replace hres:=Lib.hid hres
          have hwl:=Lib.hid (qZU hp).2.2
          clear ht hok hr H1
          go_wp2_with fail
          refine hcall.mono ?_
          rintro e w3 ⟨rfl,H4⟩
          clear hcall
          go_wp2_with fail
          go_roundw
          case rel=>exact ⟨1,wEnd s p,r.2,by omega,by simp,hwl.out,ht2.out,hrk,by exact H4.re⟩
          case measure=>simp [intOf]
        · rw [if_neg hz] at ht2
          rw [ht2] at hres
          dsimp only at hres
          rw [if_neg hz] at hres
          subst hres
          clear ht ht2 hok hr H1
          go_wp2_with fail
          refine hcall.mono ?_
          rintro e w3 ⟨rfl,H4⟩
          clear hcall
          go_wp2_with fail
          go_ret2
          exact ⟨rfl,RdP.shut (m:=⟨wEnd s p,ops,opn⟩) (v:=ov) H4.re⟩
      · rw [show List.drop 1 [3] = [] from rfl,qZq] at ht
        rw [ht] at hres
        dsimp only at hres
        rw [if_pos rfl] at hres
        rw [if_neg (show ¬kind=10 from fun e=>absurd (hk10 e) (by decide)),if_neg (show ¬kind=11 from fun e=>absurd (hk11 e) (by decide))] at hres
        have q10:¬kind=10:=fun e=>absurd (hk10 e) (by decide)
        have q11:¬kind=11:=fun e=>absurd (hk11 e) (by decide)
        have hrs:=hres
        clear hres ht hk hk10 hk11 hok hT
        have d2:=(H1.k b).ce 2 rfl
        have o0:=(H1.k w.heap.size).ce 0 rfl
        have o1:=(H1.k w.heap.size).ce 1 rfl
        have o2:=(H1.k w.heap.size).ce 2 rfl
        have o3:=(H1.k w.heap.size).ce 3 rfl
        have HP:Hd w0 _ ((wr.alloc (.cells #[.int .i64 o.kind,.int .i64 o.res,.int .i64 o.n,.int .i64 o.v] 83)).drew):=H1.fol
        obtain ⟨i0,hi,hz0,hz1,hz2⟩:=info_parts qZS
        have hS:∀ {v':Value} {L:List Pr} {w:World},Hd w0 (Slc 83 4 v' (ops.length+1) (flat ops++[.int .i64 o.kind,.int .i64 o.res,.int .i64 o.n,.int .i64 o.v])::L) w→Hd w0 (SlE 83 v' (ops++[o])::L) w:=by
          intro v' L w h
          have e1:(ops++[o]).length=ops.length+1:=by simp
          have e2:flat (ops++[o])=flat ops++[.int .i64 o.kind,.int .i64 o.res,.int .i64 o.n,.int .i64 o.v]:=by rw [qQc,qQK];rfl
          unfold SlE
          rw [e1,e2]
          exact h
        go_wp2_with fail
        refine wm 8 [(0,true),(1,true),(2,true),(3,true),(4,true),(5,true),(6,false),(7,false)] (fun w'=>w'.cell? ⟨b,2,none⟩=some ov∧w'.cell? ⟨w.heap.size,0,none⟩=some (.int .i64 o.kind)∧w'.cell? ⟨w.heap.size,1,none⟩=some (.int .i64 o.res)∧w'.cell? ⟨w.heap.size,2,none⟩=some (.int .i64 o.n)∧w'.cell? ⟨w.heap.size,3,none⟩=some (.int .i64 o.v)) (⟨d2,o0,o1,o2,o3⟩) ?_
        simp only [List.drop_succ_cons,List.drop_zero]
        iterate 6 (refine mh ?_;(try simp only [Act.put,List.setIfInBounds_toArray,List.set_cons_zero,List.set_cons_succ]))
        refine mm ?_
        go_wp2_with fail
        refine qQd (by exact ⟨((Hd.fol H1:Hd w0 _ _).k b).ce 2 rfl,((Hd.fol H1:Hd w0 _ _).k w.heap.size).ce 0 rfl,((Hd.fol H1:Hd w0 _ _).k w.heap.size).ce 1 rfl,((Hd.fol H1:Hd w0 _ _).k w.heap.size).ce 2 rfl,((Hd.fol H1:Hd w0 _ _).k w.heap.size).ce 3 rfl⟩) ?_
        refine mm ?_
        refine qQb rfl _ _ 78 rfl 83 i0 _ 4 32 Tryz.underlying78 hi hz0 hz1 hz2 rfl _ _ _ rfl (HP.v ov) ⟨wr.heap.size,0,none⟩ 1 1 [.int .i64 o.kind,.int .i64 o.res,.int .i64 o.n,.int .i64 o.v] rfl rfl (qQA (HP.k wr.heap.size)) (by simp [Value.oneCell']) (by unfold maxLen;omega) (by omega) ?_
        intro v' w2 H4
        have HF:=hS H4
        obtain ⟨l',hl'⟩:∃l',ops++[o]=l':=⟨_,rfl⟩
        rw [hl'] at HF hrs
        clear H4 HP hS
        obtain ⟨a',c',rfl,-,-,-,-⟩:=HF.slc_form
        replace hl':=Lib.hid hl'
        have d2:=(HF.k b).ce 2 rfl
        have f2:=(HF.k b).fr 2
        have o0:=(HF.k w.heap.size).ce 0 rfl
        have o1:=(HF.k w.heap.size).ce 1 rfl
        have o2:=(HF.k w.heap.size).ce 2 rfl
        have o3:=(HF.k w.heap.size).ce 3 rfl
        refine qQd ⟨d2,o0,o1,o2,o3⟩ ?_
        refine qQe ?_
        (try dsimp only)
        go_wp2_with fail
        go_ret2
        refine ⟨qZl (by rw [← hrs]) (by rw [← hrs]),?_⟩
        rw [← hrs]
        exact RdP.shut (m:=⟨p,l',opn⟩) (v:=.slice a' l'.length c') (by exact Hd.fin HF)
  · subst h4
    have hfo:qZR 4 = [2]:=by rfl
    rw [hfo] at hres
    clear hfo
    obtain ⟨T,hT⟩:∃T,qZq s [2] ps ⟨kind,0,0,0⟩=T:=⟨_,rfl⟩
    rw [hT] at hres
    go_wp2_with fail
    go_loopw [44] (fun i wr=>∃(k p:Nat) (o:OpM),k≤1∧i=.int .i64 k∧p≤s.size∧T=qZq s (List.drop k [2]) p o∧o.kind=kind∧Hd w0 (cel b 278 #[.string s,.int .i64 p,ov,.int .i64 opn]::SlE 83 ov ops::cel w.heap.size 83 #[.int .i64 o.kind,.int .i64 o.res,.int .i64 o.n,.int .i64 o.v]::cel (w1.heap.size+1) 295 #[.pointer (some ⟨w.heap.size,2,none⟩)]::R) wr) (fun i _=>1-(intOf i).toNat)
    case atStart=>exact ⟨0,ps,⟨kind,0,0,0⟩,by omega,rfl,ha,hT.symm,rfl,by exact Hd.fin HA⟩
    case round =>
      clear HA H3
      obtain ⟨k,p,o,hk,rfl,hp,ht,hok,H1⟩:=hrel
      have hkk:k=0∨k=1:=by omega
      rcases hkk with rfl | rfl
      · clear hk
        have hf:=H1.facts
        simp only [Nat.reduceAdd] at hf
        go_split_ands
        have hcall:=qK5 (b:=b) (ob:=w.heap.size) (o:=o) (at0:=p) (j:=2) (ov:=ov) (op:=.int .i64 opn) (R:=SlE 83 ov ops::cel (w1.heap.size+1) 295 #[.pointer (some ⟨w.heap.size,2,none⟩)]::R) (H1.re) hp hs (by decide)
        obtain ⟨r,hr⟩:∃r,qQJ s p o 2=r:=⟨_,rfl⟩
        have hrk:r.2.kind=kind:=by rw [← hr,qZ8];exact hok
        rw [hr] at hcall
        have ht2:=ht
        rw [show List.drop 0 [2]=2::List.drop 1 [2] from rfl,qZq,hr] at ht2
        by_cases hz:r.1.2=0
        · rw [if_pos hz] at ht2
          rw [hz] at hcall
          replace ht2:=Lib.hid ht2
          replace hres:=Lib.hid hres
          have hwl:=Lib.hid (qZU hp).2.2
          clear ht hok hr H1
          go_wp2_with fail
          refine hcall.mono ?_
          rintro e w3 ⟨rfl,H4⟩
          clear hcall
          go_wp2_with fail
          go_roundw
          case rel=>exact ⟨1,wEnd s p,r.2,by omega,by simp,hwl.out,ht2.out,hrk,by exact H4.re⟩
          case measure=>simp [intOf]
        · rw [if_neg hz] at ht2
          rw [ht2] at hres
          dsimp only at hres
          rw [if_neg hz] at hres
          subst hres
          clear ht ht2 hok hr H1
          go_wp2_with fail
          refine hcall.mono ?_
          rintro e w3 ⟨rfl,H4⟩
          clear hcall
          go_wp2_with fail
          go_ret2
          exact ⟨rfl,RdP.shut (m:=⟨wEnd s p,ops,opn⟩) (v:=ov) H4.re⟩
      · rw [show List.drop 1 [2] = [] from rfl,qZq] at ht
        rw [ht] at hres
        dsimp only at hres
        rw [if_pos rfl] at hres
        have q11:¬kind=11:=fun e=>absurd (hk11 e) (by decide)
        by_cases q10:kind=10
        · rw [if_pos q10] at hres
          have hword:=zZg (ov:=ov) (op:=.int .i64 opn) H1 hp hs
          obtain ⟨F,hF⟩:∃F,qZY s p=F:=⟨_,rfl⟩
          obtain ⟨E,hE⟩:∃E,wEnd s p=E:=⟨_,rfl⟩
          obtain ⟨V,hV⟩:∃V,qZs s p=V:=⟨_,rfl⟩
          rw [hF,hE,hV] at hword hres
          clear hF hE hV ht hk hk10 hk11 hok hT H1
          subst q10
          cases hb:(V.toList == [123]) with
          | true =>
            rw [hb,if_pos rfl] at hres
            have hrs:=hres
            have g5:IntKind.i64.wrap (opn+1)=opn+1:=IntWalk.i64_in _ (by omega)
            clear hres
            go_wp2_with fail
            refine hword.mono ?_
            rintro e w3 ⟨rfl,H5⟩
            clear hword
            have c0:=(H5.k b).ce 3 rfl
            have f0:=(H5.k b).fr 3
            have H1:Hd w0 _ (w3.setCell ⟨b,3,none⟩ (.int .i64 (opn+1))):=H5.fol
            have d2:=(H1.k b).ce 2 rfl
            have o0:=(H1.k w.heap.size).ce 0 rfl
            have o1:=(H1.k w.heap.size).ce 1 rfl
            have o2:=(H1.k w.heap.size).ce 2 rfl
            have o3:=(H1.k w.heap.size).ce 3 rfl
            have HP:Hd w0 _ (((w3.setCell ⟨b,3,none⟩ (.int .i64 (opn+1))).alloc (.cells #[.int .i64 o.kind,.int .i64 o.res,.int .i64 o.n,.int .i64 o.v] 83)).drew):=H1.fol
            obtain ⟨i0,hi,hz0,hz1,hz2⟩:=info_parts qZS
            have hS:∀ {v':Value} {L:List Pr} {w:World},Hd w0 (Slc 83 4 v' (ops.length+1) (flat ops++[.int .i64 o.kind,.int .i64 o.res,.int .i64 o.n,.int .i64 o.v])::L) w→Hd w0 (SlE 83 v' (ops++[o])::L) w:=by
              intro v' L w h
              have e1:(ops++[o]).length=ops.length+1:=by simp
              have e2:flat (ops++[o])=flat ops++[.int .i64 o.kind,.int .i64 o.res,.int .i64 o.n,.int .i64 o.v]:=by rw [qQc,qQK];rfl
              unfold SlE
              rw [e1,e2]
              exact h
            go_wp2_with fail
            refine wm 8 [(0,true),(1,true),(2,true),(3,true),(4,true),(5,true),(6,false),(7,false)] (fun w'=>w'.cell? ⟨b,2,none⟩=some ov∧w'.cell? ⟨w.heap.size,0,none⟩=some (.int .i64 o.kind)∧w'.cell? ⟨w.heap.size,1,none⟩=some (.int .i64 o.res)∧w'.cell? ⟨w.heap.size,2,none⟩=some (.int .i64 o.n)∧w'.cell? ⟨w.heap.size,3,none⟩=some (.int .i64 o.v)) (⟨d2,o0,o1,o2,o3⟩) ?_
            simp only [List.drop_succ_cons,List.drop_zero]
            iterate 6 (refine mh ?_;(try simp only [Act.put,List.setIfInBounds_toArray,List.set_cons_zero,List.set_cons_succ]))
            refine mm ?_
            go_wp2_with fail
            refine qQd (by exact ⟨((Hd.fol H1:Hd w0 _ _).k b).ce 2 rfl,((Hd.fol H1:Hd w0 _ _).k w.heap.size).ce 0 rfl,((Hd.fol H1:Hd w0 _ _).k w.heap.size).ce 1 rfl,((Hd.fol H1:Hd w0 _ _).k w.heap.size).ce 2 rfl,((Hd.fol H1:Hd w0 _ _).k w.heap.size).ce 3 rfl⟩) ?_
            refine mm ?_
            refine qQb rfl _ _ 78 rfl 83 i0 _ 4 32 Tryz.underlying78 hi hz0 hz1 hz2 rfl _ _ _ rfl (HP.v ov) ⟨w3.heap.size,0,none⟩ 1 1 [.int .i64 o.kind,.int .i64 o.res,.int .i64 o.n,.int .i64 o.v] rfl rfl (qQA (HP.k w3.heap.size)) (by simp [Value.oneCell']) (by unfold maxLen;omega) (by omega) ?_
            intro v' w2 H4
            have HF:=hS H4
            obtain ⟨l',hl'⟩:∃l',ops++[o]=l':=⟨_,rfl⟩
            rw [hl'] at HF hrs
            clear H4 HP hS
            obtain ⟨a',c',rfl,-,-,-,-⟩:=HF.slc_form
            replace hl':=Lib.hid hl'
            have d2:=(HF.k b).ce 2 rfl
            have f2:=(HF.k b).fr 2
            have o0:=(HF.k w.heap.size).ce 0 rfl
            have o1:=(HF.k w.heap.size).ce 1 rfl
            have o2:=(HF.k w.heap.size).ce 2 rfl
            have o3:=(HF.k w.heap.size).ce 3 rfl
            refine qQd ⟨d2,o0,o1,o2,o3⟩ ?_
            refine qQe ?_
            (try dsimp only)
            go_wp2_with fail
            go_ret2
            refine ⟨qZl (by rw [← hrs]) (by rw [← hrs]),?_⟩
            rw [← hrs]
            exact RdP.shut (m:=⟨E,l',opn+1⟩) (v:=.slice a' l'.length c') (by exact Hd.fin HF)
          | false =>
            rw [hb,if_neg (by decide)] at hres
            by_cases hz:V.size=0
            · rw [if_pos hz] at hres
              have hrs:=hres
              have hV:=qJR hz
              subst hV
              clear hres hz
              go_wp2_with fail
              refine hword.mono ?_
              rintro e w3 ⟨rfl,H5⟩
              clear hword
              have c0:=(H5.k b).ce 0 rfl
              go_wp2_with fail
              go_ret2
              refine ⟨qZl (by rw [← hrs]) (by rw [← hrs]),?_⟩
              rw [← hrs]
              exact RdP.shut (m:=⟨E,ops,opn⟩) (v:=ov) (by exact Hd.fin H5)
            · rw [if_neg hz] at hres
              have hrs:=hres
              have hV:=qZX hz
              clear hres hz
              go_wp2_with fail
              refine hword.mono ?_
              rintro e w3 ⟨rfl,H5⟩
              clear hword
              go_wp2_with fail
              go_ret2
              refine ⟨qZl (by rw [← hrs]) (by rw [← hrs]),?_⟩
              rw [← hrs]
              exact RdP.shut (m:=⟨E,ops,opn⟩) (v:=ov) (by exact Hd.fin H5)
        · rw [if_neg q10,if_neg q11] at hres
          have hrs:=hres
          clear hres ht hk hk10 hk11 hok hT
          have d2:=(H1.k b).ce 2 rfl
          have o0:=(H1.k w.heap.size).ce 0 rfl
          have o1:=(H1.k w.heap.size).ce 1 rfl
          have o2:=(H1.k w.heap.size).ce 2 rfl
          have o3:=(H1.k w.heap.size).ce 3 rfl
          have HP:Hd w0 _ ((wr.alloc (.cells #[.int .i64 o.kind,.int .i64 o.res,.int .i64 o.n,.int .i64 o.v] 83)).drew):=H1.fol
          obtain ⟨i0,hi,hz0,hz1,hz2⟩:=info_parts qZS
          have hS:∀ {v':Value} {L:List Pr} {w:World},Hd w0 (Slc 83 4 v' (ops.length+1) (flat ops++[.int .i64 o.kind,.int .i64 o.res,.int .i64 o.n,.int .i64 o.v])::L) w→Hd w0 (SlE 83 v' (ops++[o])::L) w:=by
            intro v' L w h
            have e1:(ops++[o]).length=ops.length+1:=by simp
            have e2:flat (ops++[o])=flat ops++[.int .i64 o.kind,.int .i64 o.res,.int .i64 o.n,.int .i64 o.v]:=by rw [qQc,qQK];rfl
            unfold SlE
            rw [e1,e2]
            exact h
          go_wp2_with fail
          refine wm 8 [(0,true),(1,true),(2,true),(3,true),(4,true),(5,true),(6,false),(7,false)] (fun w'=>w'.cell? ⟨b,2,none⟩=some ov∧w'.cell? ⟨w.heap.size,0,none⟩=some (.int .i64 o.kind)∧w'.cell? ⟨w.heap.size,1,none⟩=some (.int .i64 o.res)∧w'.cell? ⟨w.heap.size,2,none⟩=some (.int .i64 o.n)∧w'.cell? ⟨w.heap.size,3,none⟩=some (.int .i64 o.v)) (⟨d2,o0,o1,o2,o3⟩) ?_
          simp only [List.drop_succ_cons,List.drop_zero]
          iterate 6 (refine mh ?_;(try simp only [Act.put,List.setIfInBounds_toArray,List.set_cons_zero,List.set_cons_succ]))
          refine mm ?_
          go_wp2_with fail
          refine qQd (by exact ⟨((Hd.fol H1:Hd w0 _ _).k b).ce 2 rfl,((Hd.fol H1:Hd w0 _ _).k w.heap.size).ce 0 rfl,((Hd.fol H1:Hd w0 _ _).k w.heap.size).ce 1 rfl,((Hd.fol H1:Hd w0 _ _).k w.heap.size).ce 2 rfl,((Hd.fol H1:Hd w0 _ _).k w.heap.size).ce 3 rfl⟩) ?_
          refine mm ?_
          refine qQb rfl _ _ 78 rfl 83 i0 _ 4 32 Tryz.underlying78 hi hz0 hz1 hz2 rfl _ _ _ rfl (HP.v ov) ⟨wr.heap.size,0,none⟩ 1 1 [.int .i64 o.kind,.int .i64 o.res,.int .i64 o.n,.int .i64 o.v] rfl rfl (qQA (HP.k wr.heap.size)) (by simp [Value.oneCell']) (by unfold maxLen;omega) (by omega) ?_
          intro v' w2 H4
          have HF:=hS H4
          obtain ⟨l',hl'⟩:∃l',ops++[o]=l':=⟨_,rfl⟩
          rw [hl'] at HF hrs
          clear H4 HP hS
          obtain ⟨a',c',rfl,-,-,-,-⟩:=HF.slc_form
          replace hl':=Lib.hid hl'
          have d2:=(HF.k b).ce 2 rfl
          have f2:=(HF.k b).fr 2
          have o0:=(HF.k w.heap.size).ce 0 rfl
          have o1:=(HF.k w.heap.size).ce 1 rfl
          have o2:=(HF.k w.heap.size).ce 2 rfl
          have o3:=(HF.k w.heap.size).ce 3 rfl
          refine qQd ⟨d2,o0,o1,o2,o3⟩ ?_
          refine qQe ?_
          (try dsimp only)
          go_wp2_with fail
          go_ret2
          refine ⟨qZl (by rw [← hrs]) (by rw [← hrs]),?_⟩
          rw [← hrs]
          exact RdP.shut (m:=⟨p,l',opn⟩) (v:=.slice a' l'.length c') (by exact Hd.fin HF)
  · have hfo:qZR h = []:=by unfold qZR;rw [if_neg h1,if_neg h2,if_neg h3,if_neg h4]
    rw [hfo] at hres
    clear hfo
    obtain ⟨T,hT⟩:∃T,qZq s [] ps ⟨kind,0,0,0⟩=T:=⟨_,rfl⟩
    rw [hT] at hres
    go_wp2_with fail
    go_loopw [44] (fun i wr=>∃(k p:Nat) (o:OpM),k≤0∧i=.int .i64 k∧p≤s.size∧T=qZq s (List.drop k []) p o∧o.kind=kind∧Hd w0 (cel b 278 #[.string s,.int .i64 p,ov,.int .i64 opn]::SlE 83 ov ops::cel w.heap.size 83 #[.int .i64 o.kind,.int .i64 o.res,.int .i64 o.n,.int .i64 o.v]::R) wr) (fun i _=>0-(intOf i).toNat)
    case atStart=>exact ⟨0,ps,⟨kind,0,0,0⟩,by omega,rfl,ha,hT.symm,rfl,by exact Hd.fin HA⟩
    case round =>
      clear HA H3
      obtain ⟨k,p,o,hk,rfl,hp,ht,hok,H1⟩:=hrel
      obtain rfl:k=0:=by omega
      · rw [show List.drop 0 [] = [] from rfl,qZq] at ht
        rw [ht] at hres
        dsimp only at hres
        rw [if_pos rfl] at hres
        have q10:¬kind=10:=fun e=>absurd (hk10 e) h4
        by_cases q11:kind=11
        · rw [if_neg q10,if_pos q11] at hres
          have hrs:=hres
          have g5:IntKind.i64.wrap (opn-1)=opn-1:=IntWalk.i64_in _ (by omega)
          have H1':=H1
          clear H1
          have c0:=(H1'.k b).ce 3 rfl
          have f0:=(H1'.k b).fr 3
          have H1:Hd w0 _ (wr.setCell ⟨b,3,none⟩ (.int .i64 (opn-1))):=H1'.fol
          clear hres ht hk hk10 hk11 hok hT
          have d2:=(H1.k b).ce 2 rfl
          have o0:=(H1.k w.heap.size).ce 0 rfl
          have o1:=(H1.k w.heap.size).ce 1 rfl
          have o2:=(H1.k w.heap.size).ce 2 rfl
          have o3:=(H1.k w.heap.size).ce 3 rfl
          have HP:Hd w0 _ (((wr.setCell ⟨b,3,none⟩ (.int .i64 (opn-1))).alloc (.cells #[.int .i64 o.kind,.int .i64 o.res,.int .i64 o.n,.int .i64 o.v] 83)).drew):=H1.fol
          obtain ⟨i0,hi,hz0,hz1,hz2⟩:=info_parts qZS
          have hS:∀ {v':Value} {L:List Pr} {w:World},Hd w0 (Slc 83 4 v' (ops.length+1) (flat ops++[.int .i64 o.kind,.int .i64 o.res,.int .i64 o.n,.int .i64 o.v])::L) w→Hd w0 (SlE 83 v' (ops++[o])::L) w:=by
            intro v' L w h
            have e1:(ops++[o]).length=ops.length+1:=by simp
            have e2:flat (ops++[o])=flat ops++[.int .i64 o.kind,.int .i64 o.res,.int .i64 o.n,.int .i64 o.v]:=by rw [qQc,qQK];rfl
            unfold SlE
            rw [e1,e2]
            exact h
          go_wp2_with fail
          refine wm 8 [(0,true),(1,true),(2,true),(3,true),(4,true),(5,true),(6,false),(7,false)] (fun w'=>w'.cell? ⟨b,2,none⟩=some ov∧w'.cell? ⟨w.heap.size,0,none⟩=some (.int .i64 o.kind)∧w'.cell? ⟨w.heap.size,1,none⟩=some (.int .i64 o.res)∧w'.cell? ⟨w.heap.size,2,none⟩=some (.int .i64 o.n)∧w'.cell? ⟨w.heap.size,3,none⟩=some (.int .i64 o.v)) (⟨d2,o0,o1,o2,o3⟩) ?_
          simp only [List.drop_succ_cons,List.drop_zero]
          iterate 6 (refine mh ?_;(try simp only [Act.put,List.setIfInBounds_toArray,List.set_cons_zero,List.set_cons_succ]))
          refine mm ?_
          go_wp2_with fail
          refine qQd (by exact ⟨((Hd.fol H1:Hd w0 _ _).k b).ce 2 rfl,((Hd.fol H1:Hd w0 _ _).k w.heap.size).ce 0 rfl,((Hd.fol H1:Hd w0 _ _).k w.heap.size).ce 1 rfl,((Hd.fol H1:Hd w0 _ _).k w.heap.size).ce 2 rfl,((Hd.fol H1:Hd w0 _ _).k w.heap.size).ce 3 rfl⟩) ?_
          refine mm ?_
          refine qQb rfl _ _ 78 rfl 83 i0 _ 4 32 Tryz.underlying78 hi hz0 hz1 hz2 rfl _ _ _ rfl (HP.v ov) ⟨wr.heap.size,0,none⟩ 1 1 [.int .i64 o.kind,.int .i64 o.res,.int .i64 o.n,.int .i64 o.v] rfl rfl (qQA (HP.k wr.heap.size)) (by simp [Value.oneCell']) (by unfold maxLen;omega) (by omega) ?_
          intro v' w2 H4
          have HF:=hS H4
          obtain ⟨l',hl'⟩:∃l',ops++[o]=l':=⟨_,rfl⟩
          rw [hl'] at HF hrs
          clear H4 HP hS
          obtain ⟨a',c',rfl,-,-,-,-⟩:=HF.slc_form
          replace hl':=Lib.hid hl'
          have d2:=(HF.k b).ce 2 rfl
          have f2:=(HF.k b).fr 2
          have o0:=(HF.k w.heap.size).ce 0 rfl
          have o1:=(HF.k w.heap.size).ce 1 rfl
          have o2:=(HF.k w.heap.size).ce 2 rfl
          have o3:=(HF.k w.heap.size).ce 3 rfl
          refine qQd ⟨d2,o0,o1,o2,o3⟩ ?_
          refine qQe ?_
          (try dsimp only)
          go_wp2_with fail
          go_ret2
          refine ⟨qZl (by rw [← hrs]) (by rw [← hrs]),?_⟩
          rw [← hrs]
          exact RdP.shut (m:=⟨p,l',opn-1⟩) (v:=.slice a' l'.length c') (by exact Hd.fin HF)
        · rw [if_neg q10,if_neg q11] at hres
          have hrs:=hres
          clear hres ht hk hk10 hk11 hok hT
          have d2:=(H1.k b).ce 2 rfl
          have o0:=(H1.k w.heap.size).ce 0 rfl
          have o1:=(H1.k w.heap.size).ce 1 rfl
          have o2:=(H1.k w.heap.size).ce 2 rfl
          have o3:=(H1.k w.heap.size).ce 3 rfl
          have HP:Hd w0 _ ((wr.alloc (.cells #[.int .i64 o.kind,.int .i64 o.res,.int .i64 o.n,.int .i64 o.v] 83)).drew):=H1.fol
          obtain ⟨i0,hi,hz0,hz1,hz2⟩:=info_parts qZS
          have hS:∀ {v':Value} {L:List Pr} {w:World},Hd w0 (Slc 83 4 v' (ops.length+1) (flat ops++[.int .i64 o.kind,.int .i64 o.res,.int .i64 o.n,.int .i64 o.v])::L) w→Hd w0 (SlE 83 v' (ops++[o])::L) w:=by
            intro v' L w h
            have e1:(ops++[o]).length=ops.length+1:=by simp
            have e2:flat (ops++[o])=flat ops++[.int .i64 o.kind,.int .i64 o.res,.int .i64 o.n,.int .i64 o.v]:=by rw [qQc,qQK];rfl
            unfold SlE
            rw [e1,e2]
            exact h
          go_wp2_with fail
          refine wm 8 [(0,true),(1,true),(2,true),(3,true),(4,true),(5,true),(6,false),(7,false)] (fun w'=>w'.cell? ⟨b,2,none⟩=some ov∧w'.cell? ⟨w.heap.size,0,none⟩=some (.int .i64 o.kind)∧w'.cell? ⟨w.heap.size,1,none⟩=some (.int .i64 o.res)∧w'.cell? ⟨w.heap.size,2,none⟩=some (.int .i64 o.n)∧w'.cell? ⟨w.heap.size,3,none⟩=some (.int .i64 o.v)) (⟨d2,o0,o1,o2,o3⟩) ?_
          simp only [List.drop_succ_cons,List.drop_zero]
          iterate 6 (refine mh ?_;(try simp only [Act.put,List.setIfInBounds_toArray,List.set_cons_zero,List.set_cons_succ]))
          refine mm ?_
          go_wp2_with fail
          refine qQd (by exact ⟨((Hd.fol H1:Hd w0 _ _).k b).ce 2 rfl,((Hd.fol H1:Hd w0 _ _).k w.heap.size).ce 0 rfl,((Hd.fol H1:Hd w0 _ _).k w.heap.size).ce 1 rfl,((Hd.fol H1:Hd w0 _ _).k w.heap.size).ce 2 rfl,((Hd.fol H1:Hd w0 _ _).k w.heap.size).ce 3 rfl⟩) ?_
          refine mm ?_
          refine qQb rfl _ _ 78 rfl 83 i0 _ 4 32 Tryz.underlying78 hi hz0 hz1 hz2 rfl _ _ _ rfl (HP.v ov) ⟨wr.heap.size,0,none⟩ 1 1 [.int .i64 o.kind,.int .i64 o.res,.int .i64 o.n,.int .i64 o.v] rfl rfl (qQA (HP.k wr.heap.size)) (by simp [Value.oneCell']) (by unfold maxLen;omega) (by omega) ?_
          intro v' w2 H4
          have HF:=hS H4
          obtain ⟨l',hl'⟩:∃l',ops++[o]=l':=⟨_,rfl⟩
          rw [hl'] at HF hrs
          clear H4 HP hS
          obtain ⟨a',c',rfl,-,-,-,-⟩:=HF.slc_form
          replace hl':=Lib.hid hl'
          have d2:=(HF.k b).ce 2 rfl
          have f2:=(HF.k b).fr 2
          have o0:=(HF.k w.heap.size).ce 0 rfl
          have o1:=(HF.k w.heap.size).ce 1 rfl
          have o2:=(HF.k w.heap.size).ce 2 rfl
          have o3:=(HF.k w.heap.size).ce 3 rfl
          refine qQd ⟨d2,o0,o1,o2,o3⟩ ?_
          refine qQe ?_
          (try dsimp only)
          go_wp2_with fail
          go_ret2
          refine ⟨qZl (by rw [← hrs]) (by rw [← hrs]),?_⟩
          rw [← hrs]
          exact RdP.shut (m:=⟨p,l',opn⟩) (v:=.slice a' l'.length c') (by exact Hd.fin HF)
end
end
section
open Go.RowKit Spl
def qJh (s:ByteArray):Nat→RdM→(Int × Int) × RdM
  | 0,m=>((0,0),m)
  | n+1,m =>
    if (qZs s m.pos).size=0 then ((0,0),⟨wEnd s m.pos,m.ops,m.opn⟩)
    else if qQV m.ops.length m.opn (qYm (qZs s m.pos))=0 then
      if (oneM s ⟨wEnd s m.pos,m.ops,m.opn⟩ (qYm (qZs s m.pos))).1.2=0 then qJh s n (oneM s ⟨wEnd s m.pos,m.ops,m.opn⟩ (qYm (qZs s m.pos))).2
      else oneM s ⟨wEnd s m.pos,m.ops,m.opn⟩ (qYm (qZs s m.pos))
    else (((qZY s m.pos:Int),qQV m.ops.length m.opn (qYm (qZs s m.pos))),m)
def qZD (s:ByteArray):List OpM × Int × Int :=
  if 4096<s.size then ([],0,5)
  else let r:=qJh s (s.size+1) ⟨0,[],0⟩
    if r.1.2=0 then (if 0<r.2.opn then ([],s.size,31) else (r.2.ops,0,0)) else ([],r.1.1,r.1.2)
structure RdM.Ok (s:ByteArray) (m:RdM):Prop where
  p:m.pos≤s.size
  n:m.ops.length≤256
  q:0≤m.opn∧m.opn≤4
theorem zZH {s:ByteArray}:∀(l:List Nat) (i:Nat) (o:OpM),i≤s.size→i≤(qZq s l i o).2.1:=by
  intro l
  induction l with
  | nil=>intro i o h;exact Nat.le_refl _
  | cons j l ih =>
    intro i o h
    have h2:=qZU h
    rw [qZq]
    split
    · exact Nat.le_trans (by omega) (ih _ _ h2.2.2)
    · show i≤wEnd s i;omega
theorem zJo {s:ByteArray} {m:RdM} {k:Int} (h:m.Ok s) (hb:qQV m.ops.length m.opn k=0):(oneM s m k).2.Ok s∧m.pos≤(oneM s m k).2.pos:=by
  have hq:=h.q
  have hn:=h.n
  have h1:=zZF (qZR (qZx k)) m.pos ⟨k,0,0,0⟩ h.p
  have h2:=zZH (qZR (qZx k)) m.pos ⟨k,0,0,0⟩ h.p
  have h3:=qZU h1
  unfold qQV at hb
  split at hb
  · cases hb
  rename_i hn2
  split at hb
  · cases hb
  rename_i hk
  split at hb
  · cases hb
  rename_i hk2
  unfold oneM
  dsimp only
  split
  · split
    · split
      · exact ⟨⟨h3.2.2,by simp;omega,by show 0≤m.opn+1;omega,by show m.opn+1≤4;omega⟩,by show _≤wEnd s _;omega⟩
      · split
        · exact ⟨⟨h3.2.2,hn,hq⟩,by show _≤wEnd s _;omega⟩
        · exact ⟨⟨h3.2.2,hn,hq⟩,by show _≤wEnd s _;omega⟩
    · split
      · rename_i h11
        exact ⟨⟨h1,by simp;omega,by show 0≤m.opn-1;have:¬m.opn=0:=fun e=>hk (.inr ⟨h11,e⟩);omega,by show m.opn-1≤4;omega⟩,h2⟩
      · exact ⟨⟨h1,by simp;omega,hq⟩,h2⟩
  · exact ⟨⟨h1,hn,hq⟩,h2⟩
section
variable {w0 w:World} {R:List Pr}
theorem zJG [Lay w0 R] (H:Hd w0 R w) (s:ByteArray):Calls Tryz.prog 114 #[.string s] w fun e w'=>∃v,e=.returned (.tuple #[v,.int .i64 (qZD s).2.1,.int .i64 (qZD s).2.2])∧Hd w0 (SlE 83 v (qZD s).1::R) w':=by
  by_cases hl:4096<s.size
  · have e1:qZD s=([],0,5):=by unfold qZD;rw [if_pos hl]
    rw [e1]
    have n1:(4096:Int)<s.size:=by omega
    go_enter Tryz.func114,Tryz.ntmps114
    go_wp2_with fail
    (try simp only [Exit.inBlock,Exit.then])
    refine bodyPost_ret (results_tmp3 rfl _ _ _) rfl ⟨_,rfl,?_⟩
    exact H.slc_nil _ _
  have n1:¬(4096:Int)<s.size:=by omega
  obtain ⟨res,hres⟩:∃res,qZD s=res:=⟨_,rfl⟩
  rw [hres]
  unfold qZD at hres
  rw [if_neg hl] at hres
  dsimp only at hres
  obtain ⟨T,hT⟩:∃T,qJh s (s.size+1) ⟨0,[],0⟩=T:=⟨_,rfl⟩
  rw [hT] at hres
  have HS:Hd w0 _ (w.alloc (.cells #[.string s,.int .i64 0,.slice none 0 0,.int .i64 0] 278)):=(H.slc_nil 83 4).fol
  go_enter Tryz.func114,Tryz.ntmps114
  go_wp2_with fail
  go_loopw [6] (fun _ wr=>∃(n:Nat) (m:RdM),m.Ok s∧s.size-m.pos<n∧T=qJh s n m∧Hd w0 (RdP w.heap.size s m::R) wr) (fun _ wr=>s.size-qKj wr ⟨w.heap.size,1,none⟩)
  case atStart=>exact ⟨s.size+1,⟨0,[],0⟩,⟨Nat.zero_le _,by simp,by decide⟩,by simp,hT.symm,RdP.shut (m:=⟨0,[],0⟩) (v:=.slice none 0 0) (by exact HS)⟩
  case round =>
    clear HS hT
    obtain ⟨n,m,hm,hfu,ht,H1⟩:=hrel
    obtain ⟨ps,ops,opn⟩:=m
    obtain ⟨n,rfl⟩:∃k,n=k+1:=⟨n-1,by omega⟩
    obtain ⟨ov,H2⟩:=RdP.opened H1
    dsimp only at H2
    have hp:ps≤s.size:=hm.p
    have hword:=zZg H2 hp (by omega)
    have hwl:=qZU hp
    have hwz:=qYs hp
    have hms:=Lib.hid (qZw ((H2.k w.heap.size).ce 1 rfl))
    obtain ⟨a',c',hov,-,-,-,-⟩:=H2.tail.slc_form
    subst hov
    rw [qJh] at ht
    dsimp only at ht
    obtain ⟨F,hF⟩:∃F,qZY s ps=F:=⟨_,rfl⟩
    obtain ⟨E,hE⟩:∃E,wEnd s ps=E:=⟨_,rfl⟩
    obtain ⟨V,hV⟩:∃V,qZs s ps=V:=⟨_,rfl⟩
    rw [hF,hE,hV] at hword ht
    rw [hV,hE,hF] at hwz
    rw [hF,hE] at hwl
    clear hF hE hV H1 H2
    by_cases hz:V.size=0
    · rw [if_pos hz] at ht
      rw [ht] at hres
      dsimp only at hres
      rw [if_pos rfl] at hres
      have hV:=qJR hz
      subst hV
      by_cases hq:0<opn
      · rw [if_pos hq] at hres
        have hrs:=hres
        clear hres ht hwz hz hms hm
        go_wp2_with fail
        refine hword.mono ?_
        rintro e w3 ⟨rfl,H5⟩
        clear hword
        have c0:=(H5.k w.heap.size).ce 3 rfl
        go_wp2_with fail
        (try simp only [Exit.inBlock,Exit.then])
        refine bodyPost_ret (results_tmp3 rfl _ _ _) rfl ⟨.slice none 0 0,by rw [← hrs];rfl,?_⟩
        rw [← hrs]
        exact H5.tail.tail.slc_nil _ _
      · rw [if_neg hq] at hres
        have hrs:=hres
        clear hres ht hwz hz hms hm
        go_wp2_with fail
        refine hword.mono ?_
        rintro e w3 ⟨rfl,H5⟩
        clear hword
        have c0:=(H5.k w.heap.size).ce 3 rfl
        have c2:=(H5.k w.heap.size).ce 2 rfl
        go_wp2_with fail
        (try simp only [Exit.inBlock,Exit.then])
        refine bodyPost_ret (results_tmp3 rfl _ _ _) rfl ⟨_,by rw [← hrs];rfl,?_⟩
        rw [← hrs]
        exact H5.tail
    · rw [if_neg hz] at ht
      have hV:=qZX hz
      obtain ⟨K,hK⟩:∃K,qYm V=K:=⟨_,rfl⟩
      rw [hK] at ht
      by_cases hb:qQV ops.length opn K=0
      · rw [if_pos hb] at ht
        have hE:E≤s.size:=hwl.2.2
        have hok:=zJo (s:=s) (m:=⟨E,ops,opn⟩) (k:=K) ⟨hE,hm.n,hm.q⟩ hb
        obtain ⟨r,hr⟩:∃r,oneM s ⟨E,ops,opn⟩ K=r:=⟨_,rfl⟩
        rw [hr] at ht hok
        have hE2:E≤s.size:=hE
        have hnn:=Lib.hid (show ops.length≤1000 from Nat.le_trans hm.n (by decide))
        have hqq:=Lib.hid (show -1000≤opn∧opn≤1000 from ⟨by have:=hm.q.1;dsimp only at this;omega,by have:=hm.q.2;dsimp only at this;omega⟩)
        have hgt:ps<E:=by omega
        by_cases he:r.1.2=0
        · rw [if_pos he] at ht
          replace ht:=Lib.hid ht
          replace hres:=Lib.hid hres
          replace hok:=Lib.hid hok
          have hfu2:=Lib.hid (show s.size-r.2.pos<n by have h1:=hok.out.2;dsimp only at h1 hfu;omega)
          have hlt:=Lib.hid (show s.size-r.2.pos<s.size-ps by have h1:=hok.out.2;have h2:=hok.out.1.p;dsimp only at h1;omega)
          clear hm hwz hz hwl hfu
          go_wp2_with fail
          refine hword.mono ?_
          rintro e w3 ⟨rfl,H5⟩
          clear hword
          have hkc:=qWm H5 V
          rw [hK] at hkc
          go_wp2_with fail
          refine hkc.mono ?_
          rintro e w4 ⟨rfl,H6⟩
          clear hkc
          have hbc:=qWr (kind:=K) H6
          rw [hb] at hbc
          have hoc:=zXM (RdP.shut (m:=⟨E,ops,opn⟩) H6) hE2 (by omega) hnn.out hqq.out K
          rw [hr] at hoc
          go_wp2_with fail
          refine hbc.mono ?_
          rintro e w5 ⟨rfl,rfl⟩
          clear hbc
          go_wp2_with fail
          refine hoc.mono ?_
          rintro e w6 ⟨rfl,H7⟩
          clear hoc H6 H5
          rw [he]
          obtain ⟨v7,H8⟩:=RdP.opened H7
          have hm2:=Lib.hid (qZw ((H8.k w.heap.size).ce 1 rfl))
          clear H8
          go_wp2_with fail
          go_roundw
          case rel=>exact ⟨n,r.2,hok.out.1,hfu2.out,ht.out,by exact H7⟩
          case measure =>
            have e1:=hm2.out
            have e2:=hms.out
            have e3:=hlt.out
            simp only [Int.toNat_natCast] at e1 e2
            rw [e1,e2];exact e3
        · rw [if_neg he] at ht
          rw [ht] at hres
          rw [if_neg he] at hres
          have hrs:=hres
          clear hm hwz hz hwl hfu hres ht hms hok
          go_wp2_with fail
          refine hword.mono ?_
          rintro e w3 ⟨rfl,H5⟩
          clear hword
          have hkc:=qWm H5 V
          rw [hK] at hkc
          go_wp2_with fail
          refine hkc.mono ?_
          rintro e w4 ⟨rfl,H6⟩
          clear hkc
          have hbc:=qWr (kind:=K) H6
          rw [hb] at hbc
          have hoc:=zXM (RdP.shut (m:=⟨E,ops,opn⟩) H6) hE2 (by omega) hnn.out hqq.out K
          rw [hr] at hoc
          go_wp2_with fail
          refine hbc.mono ?_
          rintro e w5 ⟨rfl,rfl⟩
          clear hbc
          go_wp2_with fail
          refine hoc.mono ?_
          rintro e w6 ⟨rfl,H7⟩
          clear hoc H6 H5
          go_wp2_with fail
          (try simp only [Exit.inBlock,Exit.then])
          refine bodyPost_ret (results_tmp3 rfl _ _ _) rfl ⟨.slice none 0 0,by rw [← hrs];rfl,?_⟩
          rw [← hrs]
          exact H7.tail.slc_nil _ _
      · rw [if_neg hb] at ht
        rw [ht] at hres
        dsimp only at hres
        rw [if_neg hb] at hres
        have hrs:=hres
        obtain ⟨B,hB⟩:∃B,qQV ops.length opn K=B:=⟨_,rfl⟩
        rw [hB] at hrs hb
        clear hres ht hwz hz hms hm
        go_wp2_with fail
        refine hword.mono ?_
        rintro e w3 ⟨rfl,H5⟩
        clear hword
        have hkc:=qWm H5 V
        rw [hK] at hkc
        go_wp2_with fail
        refine hkc.mono ?_
        rintro e w4 ⟨rfl,H6⟩
        clear hkc
        have hbc:=qWr (kind:=K) H6
        rw [hB] at hbc
        go_wp2_with fail
        refine hbc.mono ?_
        rintro e w5 ⟨rfl,rfl⟩
        clear hbc
        go_wp2_with fail
        (try simp only [Exit.inBlock,Exit.then])
        refine bodyPost_ret (results_tmp3 rfl _ _ _) rfl ⟨.slice none 0 0,by rw [← hrs];rfl,?_⟩
        rw [← hrs]
        exact H6.tail.tail.slc_nil _ _
end
end
end Go.Proofs.YtkchopnkdjnocaaGreatDoor
