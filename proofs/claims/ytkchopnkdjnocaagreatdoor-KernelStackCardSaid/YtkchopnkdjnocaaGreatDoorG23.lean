/-
  Merged texts of one proof: Code8.
-/
import Derived.LaidEqlPtr
import Derived.Test.YtkchopnkdjnocaaGreatDoorG18

set_option maxHeartbeats 16000000
set_option maxRecDepth 20000
namespace Go.Proofs.YtkchopnkdjnocaaGreatDoor
section
open Go.RowKit Spl
def qQV (nops:Nat) (opn kind:Int):Int:=if nops=256 then 4 else if kind=0∨(kind=11∧opn=0) then 30 else if kind=10∧opn=4 then 32 else 0
def OpM.put (o:OpM) (j:Nat) (n:Int):OpM:=match j with
  | 1=>{ o with res:=n }
  | 2=>{ o with n:=n }
  | _=>{ o with v:=n }
def qQJ (s:ByteArray) (at0:Nat) (o:OpM) (j:Nat):(Int × Int) × OpM :=
  if (qZs s at0).size=0 then ((s.size,31),o)
  else let r:=qZB (qZs s at0)
    let o':=o.put j r.1
    if r.2=false then (((qZY s at0:Int),30),o')
    else if qQL (if o'.kind=1∧j=1 then { o' with n:=1 } else o')=false then (((qZY s at0:Int),30),o')
    else ((0,0),o')
theorem qJ9:(Tryz.prog.info? 3).map (fun i=>(i.zero,i.size,i.bytes))=some (some (.int .i64 0),1,8):=by kernel_rfl
theorem qJR {s:ByteArray} (h:s.size=0):s=⟨#[]⟩:=by
  cases s with | mk d=>cases d with | mk l=>cases l with
    | nil=>rfl
    | cons x l=>simp [ByteArray.size] at h
theorem qZX {s:ByteArray} (h:¬s.size=0):s.toList.isEmpty=false:=by
  cases hl:s.toList with
  | nil=>exact absurd (by rw [Lib.size_eq,← Lib.toList_data,hl];rfl) h
  | cons x l=>rfl
theorem qYs {s:ByteArray} {i:Nat} (h:i≤s.size):(qZs s i).size=wEnd s i-qZY s i:=by
  have:=qZU h
  unfold qZs
  rw [ByteArray.size_extract]
  omega
section
variable {w0 w:World} {R:List Pr} {b:Nat}
theorem qWr {s:ByteArray} {at0 opn kind:Int} {a:Option Addr} {n c:Nat} (H:Hd w0 (cel b 278 #[.string s,.int .i64 at0,.slice a n c,.int .i64 opn]::R) w) :
    Calls Tryz.prog 144 #[.pointer (some ⟨b,0,none⟩),.int .i64 kind] w fun e w'=>e=.returned (.int .i64 (qQV n opn kind))∧w=w':=by
  have c2:=(H.k b).ce 2 rfl
  have c3:=(H.k b).ce 3 rfl
  clear H
  by_cases h1:n=256
  · have e1:qQV n opn kind=4:=by unfold qQV;rw [if_pos h1]
    subst h1
    go_enter Tryz.func144,Tryz.ntmps144
    go_wp2_with fail
    go_ret
    exact ⟨qQp e1,rfl⟩
  have n1:¬(n:Int)=256:=by omega
  by_cases h2:kind=0
  · have e1:qQV n opn kind=30:=by unfold qQV;rw [if_neg h1,if_pos (.inl h2)]
    subst h2
    go_enter Tryz.func144,Tryz.ntmps144
    go_wp2_with fail
    go_ret
    exact ⟨qQp e1,rfl⟩
  by_cases h3:kind=11
  · subst h3
    by_cases h4:opn=0
    · have e1:qQV n opn 11=30:=by unfold qQV;rw [if_neg h1,if_pos (.inr ⟨rfl,h4⟩)]
      subst h4
      go_enter Tryz.func144,Tryz.ntmps144
      go_wp2_with fail
      go_ret
      exact ⟨qQp e1,rfl⟩
    · have e1:qQV n opn 11=0:=by unfold qQV;rw [if_neg h1,if_neg (by omega),if_neg (by omega)]
      go_enter Tryz.func144,Tryz.ntmps144
      go_wp2_with fail
      go_ret
      exact ⟨qQp e1,rfl⟩
  by_cases h5:kind=10
  · subst h5
    by_cases h4:opn=4
    · have e1:qQV n opn 10=32:=by unfold qQV;rw [if_neg h1,if_neg (by omega),if_pos ⟨rfl,h4⟩]
      subst h4
      go_enter Tryz.func144,Tryz.ntmps144
      go_wp2_with fail
      go_ret
      exact ⟨qQp e1,rfl⟩
    · have e1:qQV n opn 10=0:=by unfold qQV;rw [if_neg h1,if_neg (by omega),if_neg (by omega)]
      go_enter Tryz.func144,Tryz.ntmps144
      go_wp2_with fail
      go_ret
      exact ⟨qQp e1,rfl⟩
  · have e1:qQV n opn kind=0:=by unfold qQV;rw [if_neg h1,if_neg (by omega),if_neg (by omega)]
    go_enter Tryz.func144,Tryz.ntmps144
    go_wp2_with fail
    go_ret
    exact ⟨qQp e1,rfl⟩
theorem qK5 [Lay w0 R] {s:ByteArray} {at0:Nat} {ov op:Value} {ob:Nat} {o:OpM} {j:Nat} (H:Hd w0 (cel b 278 #[.string s,.int .i64 at0,ov,op]::cel ob 83 #[.int .i64 o.kind,.int .i64 o.res,.int .i64 o.n,.int .i64 o.v]::R) w)
    (ha:at0≤s.size) (hs:s.size≤100000) (hj:j=1∨j=2∨j=3) :
    Calls Tryz.prog 159 #[.pointer (some ⟨b,0,none⟩),.pointer (some ⟨ob,0,none⟩),.pointer (some ⟨ob,j,none⟩)] w fun e w'=>e=.returned (.tuple #[.int .i64 (qQJ s at0 o j).1.1,.int .i64 (qQJ s at0 o j).1.2]) ∧
      Hd w0 (cel b 278 #[.string s,.int .i64 (wEnd s at0),ov,op]::cel ob 83 #[.int .i64 (qQJ s at0 o j).2.kind,.int .i64 (qQJ s at0 o j).2.res,.int .i64 (qQJ s at0 o j).2.n,.int .i64 (qQJ s at0 o j).2.v]::R) w':=by
  have hw:=zZg H ha hs
  have hsz:=qYs ha
  have hle:=qZU ha
  obtain ⟨W,hW⟩:∃W,qZs s at0=W:=⟨_,rfl⟩
  rw [hW] at hw hsz
  by_cases h1:W.size=0
  · have e1:qQJ s at0 o j=(((s.size:Int),31),o):=by unfold qQJ;rw [hW,if_pos h1]
    rw [e1]
    have h2:=qJR h1
    subst h2
    clear hle hsz hW h1 e1 H
    go_enter Tryz.func159,Tryz.ntmps159
    go_wp2_with fail
    refine hw.mono ?_
    rintro e w1 ⟨rfl,H2⟩
    clear hw
    have hf:=H2.facts
    simp only [Nat.reduceAdd] at hf
    go_split_ands
    go_wp2_with fail
    go_ret2
    exact ⟨rfl,H2⟩
  · have hW2:W.size≤100000:=by omega
    obtain ⟨i0,hinfo,-,hsize,-⟩:=info_parts qJ9
    have qP:∀w,(binOp .eql 295 (.pointer (some ⟨ob,1,none⟩)) (.pointer (some ⟨ob,1,none⟩))).run Tryz.prog w=.ok (.bool true) w:=fun w=>run_eql_ptr_same _ _ Tryz.underlying295 hinfo
    have q1:=qZX h1
    obtain ⟨N,hN⟩:∃N,(qZB W).1=N:=⟨_,rfl⟩
    obtain ⟨k,r,n,v⟩:=o
    rcases hj with rfl | rfl | rfl
    · cases hB:(qZB W).2 with
      | false =>
        have e1:qQJ s at0 ⟨k,r,n,v⟩ 1=(((qZY s at0:Int),30),OpM.put ⟨k,r,n,v⟩ 1 N):=by unfold qQJ;rw [hW,if_neg h1];dsimp only;rw [hB,if_pos rfl,hN]
        rw [e1]
        clear e1 hle hsz hW H
        go_enter Tryz.func159,Tryz.ntmps159
        go_wp2_with fail
        refine hw.mono ?_
        rintro e w1 ⟨rfl,H2⟩
        clear hw
        have hn:=qZ1 H2 W hW2
        rw [hN,hB] at hn
        go_wp2_with fail
        refine hn.mono ?_
        rintro e w2 ⟨rfl,H3⟩
        clear hn H2
        have hf:=H3.facts
        simp only [Nat.reduceAdd] at hf
        go_split_ands
        have H4:Hd w0 _ (w2.setCell ⟨ob,1,none⟩ (.int .i64 N)):=H3.fol
        have hg:=H4.facts
        simp only [Nat.reduceAdd] at hg
        go_split_ands
        go_wp2_with fail
        go_ret2
        refine ⟨rfl,?_⟩
        simp only [OpM.put]
        exact H4.re
      | true =>
        by_cases hk:k=1
        · subst hk
          go_enter Tryz.func159,Tryz.ntmps159
          go_wp2_with fail
          refine hw.mono ?_
          rintro e w1 ⟨rfl,H2⟩
          clear hw
          have hn:=qZ1 H2 W hW2
          rw [hN,hB] at hn
          go_wp2_with fail
          refine hn.mono ?_
          rintro e w2 ⟨rfl,H3⟩
          clear hn H2
          have hf:=H3.facts
          simp only [Nat.reduceAdd] at hf
          go_split_ands
          have H4:Hd w0 _ (w2.setCell ⟨ob,1,none⟩ (.int .i64 N)):=H3.fol
          have hg:=H4.facts
          simp only [Nat.reduceAdd] at hg
          go_split_ands
          go_wp2_with fail
          have H5:Hd w0 _ ((w2.setCell ⟨ob,1,none⟩ (.int .i64 N)).alloc (.cells #[.int .i64 1,.int .i64 N,.int .i64 1,.int .i64 v] 83)):=H4.fol
          have hc:=qJQ H5 ⟨1,N,1,v⟩
          have e0:(qQJ s at0 ⟨1,r,n,v⟩ 1)=(if qQL ⟨1,N,1,v⟩=false then (((qZY s at0:Int),(30:Int)),OpM.put ⟨1,r,n,v⟩ 1 N) else ((0,0),OpM.put ⟨1,r,n,v⟩ 1 N)):=by
            unfold qQJ;rw [hW,if_neg h1];dsimp only;rw [hB,if_neg (by decide),hN];rfl
          cases hF:qQL ⟨1,N,1,v⟩ with
          | false =>
            rw [hF] at hc e0
            rw [if_pos rfl] at e0
            replace hc:=Lib.hid hc
            go_wp2_with fail
            refine hc.out.mono ?_
            rintro e w3 ⟨rfl,H6⟩
            go_wp2_with fail
            go_ret2
            rw [e0]
            refine ⟨rfl,?_⟩
            simp only [OpM.put]
            exact H6.re
          | true =>
            rw [hF] at hc e0
            rw [if_neg (by decide)] at e0
            replace hc:=Lib.hid hc
            go_wp2_with fail
            refine hc.out.mono ?_
            rintro e w3 ⟨rfl,H6⟩
            go_wp2_with fail
            go_ret2
            rw [e0]
            refine ⟨rfl,?_⟩
            simp only [OpM.put]
            exact H6.re
        · have hk2:¬k=1:=hk
          go_enter Tryz.func159,Tryz.ntmps159
          go_wp2_with fail
          refine hw.mono ?_
          rintro e w1 ⟨rfl,H2⟩
          clear hw
          have hn:=qZ1 H2 W hW2
          rw [hN,hB] at hn
          go_wp2_with fail
          refine hn.mono ?_
          rintro e w2 ⟨rfl,H3⟩
          clear hn H2
          have hf:=H3.facts
          simp only [Nat.reduceAdd] at hf
          go_split_ands
          have H4:Hd w0 _ (w2.setCell ⟨ob,1,none⟩ (.int .i64 N)):=H3.fol
          have hg:=H4.facts
          simp only [Nat.reduceAdd] at hg
          go_split_ands
          go_wp2_with fail
          have H5:Hd w0 _ ((w2.setCell ⟨ob,1,none⟩ (.int .i64 N)).alloc (.cells #[.int .i64 k,.int .i64 N,.int .i64 n,.int .i64 v] 83)):=H4.fol
          have hc:=qJQ H5 ⟨k,N,n,v⟩
          have e0:(qQJ s at0 ⟨k,r,n,v⟩ 1)=(if qQL ⟨k,N,n,v⟩=false then (((qZY s at0:Int),(30:Int)),OpM.put ⟨k,r,n,v⟩ 1 N) else ((0,0),OpM.put ⟨k,r,n,v⟩ 1 N)):=by
            unfold qQJ;rw [hW,if_neg h1];dsimp only;rw [hB,if_neg (by decide),hN];rw [if_neg (show ¬((OpM.put ⟨k,r,n,v⟩ 1 N).kind=1∧1=1) from fun h=>hk h.1)];rfl
          cases hF:qQL ⟨k,N,n,v⟩ with
          | false =>
            rw [hF] at hc e0
            rw [if_pos rfl] at e0
            replace hc:=Lib.hid hc
            go_wp2_with fail
            refine hc.out.mono ?_
            rintro e w3 ⟨rfl,H6⟩
            go_wp2_with fail
            go_ret2
            rw [e0]
            refine ⟨rfl,?_⟩
            simp only [OpM.put]
            exact H6.re
          | true =>
            rw [hF] at hc e0
            rw [if_neg (by decide)] at e0
            replace hc:=Lib.hid hc
            go_wp2_with fail
            refine hc.out.mono ?_
            rintro e w3 ⟨rfl,H6⟩
            go_wp2_with fail
            go_ret2
            rw [e0]
            refine ⟨rfl,?_⟩
            simp only [OpM.put]
            exact H6.re
    · cases hB:(qZB W).2 with
      | false =>
        have e1:qQJ s at0 ⟨k,r,n,v⟩ 2=(((qZY s at0:Int),30),OpM.put ⟨k,r,n,v⟩ 2 N):=by unfold qQJ;rw [hW,if_neg h1];dsimp only;rw [hB,if_pos rfl,hN]
        rw [e1]
        clear e1 hle hsz hW H
        go_enter Tryz.func159,Tryz.ntmps159
        go_wp2_with fail
        refine hw.mono ?_
        rintro e w1 ⟨rfl,H2⟩
        clear hw
        have hn:=qZ1 H2 W hW2
        rw [hN,hB] at hn
        go_wp2_with fail
        refine hn.mono ?_
        rintro e w2 ⟨rfl,H3⟩
        clear hn H2
        have hf:=H3.facts
        simp only [Nat.reduceAdd] at hf
        go_split_ands
        have H4:Hd w0 _ (w2.setCell ⟨ob,2,none⟩ (.int .i64 N)):=H3.fol
        have hg:=H4.facts
        simp only [Nat.reduceAdd] at hg
        go_split_ands
        go_wp2_with fail
        go_ret2
        refine ⟨rfl,?_⟩
        simp only [OpM.put]
        exact H4.re
      | true =>
        by_cases hk:k=1
        · subst hk
          go_enter Tryz.func159,Tryz.ntmps159
          go_wp2_with fail
          refine hw.mono ?_
          rintro e w1 ⟨rfl,H2⟩
          clear hw
          have hn:=qZ1 H2 W hW2
          rw [hN,hB] at hn
          go_wp2_with fail
          refine hn.mono ?_
          rintro e w2 ⟨rfl,H3⟩
          clear hn H2
          have hf:=H3.facts
          simp only [Nat.reduceAdd] at hf
          go_split_ands
          have H4:Hd w0 _ (w2.setCell ⟨ob,2,none⟩ (.int .i64 N)):=H3.fol
          have hg:=H4.facts
          simp only [Nat.reduceAdd] at hg
          go_split_ands
          go_wp2_with fail
          have H5:Hd w0 _ ((w2.setCell ⟨ob,2,none⟩ (.int .i64 N)).alloc (.cells #[.int .i64 1,.int .i64 r,.int .i64 N,.int .i64 v] 83)):=H4.fol
          have qO:(binOp .eql 295 (.pointer (some ⟨ob,2,none⟩)) (.pointer (some ⟨ob,1,none⟩))).run Tryz.prog ((w2.setCell ⟨ob,2,none⟩ (.int .i64 N)).alloc (.cells #[.int .i64 1,.int .i64 r,.int .i64 N,.int .i64 v] 83))=.ok (.bool false) ((w2.setCell ⟨ob,2,none⟩ (.int .i64 N)).alloc (.cells #[.int .i64 1,.int .i64 r,.int .i64 N,.int .i64 v] 83)):=run_eql_ptr_other _ Tryz.underlying295 hinfo (by rw [hsize];decide) (by intro h;cases h) (H5.k ob).heap (H5.k ob).heap
          have hc:=qJQ H5 ⟨1,r,N,v⟩
          have e0:(qQJ s at0 ⟨1,r,n,v⟩ 2)=(if qQL ⟨1,r,N,v⟩=false then (((qZY s at0:Int),(30:Int)),OpM.put ⟨1,r,n,v⟩ 2 N) else ((0,0),OpM.put ⟨1,r,n,v⟩ 2 N)):=by
            unfold qQJ;rw [hW,if_neg h1];dsimp only;rw [hB,if_neg (by decide),hN];rw [if_neg (show ¬((OpM.put ⟨1,r,n,v⟩ 2 N).kind=1∧2=1) from fun h=>absurd h.2 (by decide))];rfl
          cases hF:qQL ⟨1,r,N,v⟩ with
          | false =>
            rw [hF] at hc e0
            rw [if_pos rfl] at e0
            replace hc:=Lib.hid hc
            go_wp2_with fail
            refine hc.out.mono ?_
            rintro e w3 ⟨rfl,H6⟩
            go_wp2_with fail
            go_ret2
            rw [e0]
            refine ⟨rfl,?_⟩
            simp only [OpM.put]
            exact H6.re
          | true =>
            rw [hF] at hc e0
            rw [if_neg (by decide)] at e0
            replace hc:=Lib.hid hc
            go_wp2_with fail
            refine hc.out.mono ?_
            rintro e w3 ⟨rfl,H6⟩
            go_wp2_with fail
            go_ret2
            rw [e0]
            refine ⟨rfl,?_⟩
            simp only [OpM.put]
            exact H6.re
        · have hk2:¬k=1:=hk
          go_enter Tryz.func159,Tryz.ntmps159
          go_wp2_with fail
          refine hw.mono ?_
          rintro e w1 ⟨rfl,H2⟩
          clear hw
          have hn:=qZ1 H2 W hW2
          rw [hN,hB] at hn
          go_wp2_with fail
          refine hn.mono ?_
          rintro e w2 ⟨rfl,H3⟩
          clear hn H2
          have hf:=H3.facts
          simp only [Nat.reduceAdd] at hf
          go_split_ands
          have H4:Hd w0 _ (w2.setCell ⟨ob,2,none⟩ (.int .i64 N)):=H3.fol
          have hg:=H4.facts
          simp only [Nat.reduceAdd] at hg
          go_split_ands
          go_wp2_with fail
          have H5:Hd w0 _ ((w2.setCell ⟨ob,2,none⟩ (.int .i64 N)).alloc (.cells #[.int .i64 k,.int .i64 r,.int .i64 N,.int .i64 v] 83)):=H4.fol
          have qO:(binOp .eql 295 (.pointer (some ⟨ob,2,none⟩)) (.pointer (some ⟨ob,1,none⟩))).run Tryz.prog ((w2.setCell ⟨ob,2,none⟩ (.int .i64 N)).alloc (.cells #[.int .i64 k,.int .i64 r,.int .i64 N,.int .i64 v] 83))=.ok (.bool false) ((w2.setCell ⟨ob,2,none⟩ (.int .i64 N)).alloc (.cells #[.int .i64 k,.int .i64 r,.int .i64 N,.int .i64 v] 83)):=run_eql_ptr_other _ Tryz.underlying295 hinfo (by rw [hsize];decide) (by intro h;cases h) (H5.k ob).heap (H5.k ob).heap
          have hc:=qJQ H5 ⟨k,r,N,v⟩
          have e0:(qQJ s at0 ⟨k,r,n,v⟩ 2)=(if qQL ⟨k,r,N,v⟩=false then (((qZY s at0:Int),(30:Int)),OpM.put ⟨k,r,n,v⟩ 2 N) else ((0,0),OpM.put ⟨k,r,n,v⟩ 2 N)):=by
            unfold qQJ;rw [hW,if_neg h1];dsimp only;rw [hB,if_neg (by decide),hN];rw [if_neg (show ¬((OpM.put ⟨k,r,n,v⟩ 2 N).kind=1∧2=1) from fun h=>absurd h.2 (by decide))];rfl
          cases hF:qQL ⟨k,r,N,v⟩ with
          | false =>
            rw [hF] at hc e0
            rw [if_pos rfl] at e0
            replace hc:=Lib.hid hc
            go_wp2_with fail
            refine hc.out.mono ?_
            rintro e w3 ⟨rfl,H6⟩
            go_wp2_with fail
            go_ret2
            rw [e0]
            refine ⟨rfl,?_⟩
            simp only [OpM.put]
            exact H6.re
          | true =>
            rw [hF] at hc e0
            rw [if_neg (by decide)] at e0
            replace hc:=Lib.hid hc
            go_wp2_with fail
            refine hc.out.mono ?_
            rintro e w3 ⟨rfl,H6⟩
            go_wp2_with fail
            go_ret2
            rw [e0]
            refine ⟨rfl,?_⟩
            simp only [OpM.put]
            exact H6.re
    · cases hB:(qZB W).2 with
      | false =>
        have e1:qQJ s at0 ⟨k,r,n,v⟩ 3=(((qZY s at0:Int),30),OpM.put ⟨k,r,n,v⟩ 3 N):=by unfold qQJ;rw [hW,if_neg h1];dsimp only;rw [hB,if_pos rfl,hN]
        rw [e1]
        clear e1 hle hsz hW H
        go_enter Tryz.func159,Tryz.ntmps159
        go_wp2_with fail
        refine hw.mono ?_
        rintro e w1 ⟨rfl,H2⟩
        clear hw
        have hn:=qZ1 H2 W hW2
        rw [hN,hB] at hn
        go_wp2_with fail
        refine hn.mono ?_
        rintro e w2 ⟨rfl,H3⟩
        clear hn H2
        have hf:=H3.facts
        simp only [Nat.reduceAdd] at hf
        go_split_ands
        have H4:Hd w0 _ (w2.setCell ⟨ob,3,none⟩ (.int .i64 N)):=H3.fol
        have hg:=H4.facts
        simp only [Nat.reduceAdd] at hg
        go_split_ands
        go_wp2_with fail
        go_ret2
        refine ⟨rfl,?_⟩
        simp only [OpM.put]
        exact H4.re
      | true =>
        by_cases hk:k=1
        · subst hk
          go_enter Tryz.func159,Tryz.ntmps159
          go_wp2_with fail
          refine hw.mono ?_
          rintro e w1 ⟨rfl,H2⟩
          clear hw
          have hn:=qZ1 H2 W hW2
          rw [hN,hB] at hn
          go_wp2_with fail
          refine hn.mono ?_
          rintro e w2 ⟨rfl,H3⟩
          clear hn H2
          have hf:=H3.facts
          simp only [Nat.reduceAdd] at hf
          go_split_ands
          have H4:Hd w0 _ (w2.setCell ⟨ob,3,none⟩ (.int .i64 N)):=H3.fol
          have hg:=H4.facts
          simp only [Nat.reduceAdd] at hg
          go_split_ands
          go_wp2_with fail
          have H5:Hd w0 _ ((w2.setCell ⟨ob,3,none⟩ (.int .i64 N)).alloc (.cells #[.int .i64 1,.int .i64 r,.int .i64 n,.int .i64 N] 83)):=H4.fol
          have qO:(binOp .eql 295 (.pointer (some ⟨ob,3,none⟩)) (.pointer (some ⟨ob,1,none⟩))).run Tryz.prog ((w2.setCell ⟨ob,3,none⟩ (.int .i64 N)).alloc (.cells #[.int .i64 1,.int .i64 r,.int .i64 n,.int .i64 N] 83))=.ok (.bool false) ((w2.setCell ⟨ob,3,none⟩ (.int .i64 N)).alloc (.cells #[.int .i64 1,.int .i64 r,.int .i64 n,.int .i64 N] 83)):=run_eql_ptr_other _ Tryz.underlying295 hinfo (by rw [hsize];decide) (by intro h;cases h) (H5.k ob).heap (H5.k ob).heap
          have hc:=qJQ H5 ⟨1,r,n,N⟩
          have e0:(qQJ s at0 ⟨1,r,n,v⟩ 3)=(if qQL ⟨1,r,n,N⟩=false then (((qZY s at0:Int),(30:Int)),OpM.put ⟨1,r,n,v⟩ 3 N) else ((0,0),OpM.put ⟨1,r,n,v⟩ 3 N)):=by
            unfold qQJ;rw [hW,if_neg h1];dsimp only;rw [hB,if_neg (by decide),hN];rw [if_neg (show ¬((OpM.put ⟨1,r,n,v⟩ 3 N).kind=1∧3=1) from fun h=>absurd h.2 (by decide))];rfl
          cases hF:qQL ⟨1,r,n,N⟩ with
          | false =>
            rw [hF] at hc e0
            rw [if_pos rfl] at e0
            replace hc:=Lib.hid hc
            go_wp2_with fail
            refine hc.out.mono ?_
            rintro e w3 ⟨rfl,H6⟩
            go_wp2_with fail
            go_ret2
            rw [e0]
            refine ⟨rfl,?_⟩
            simp only [OpM.put]
            exact H6.re
          | true =>
            rw [hF] at hc e0
            rw [if_neg (by decide)] at e0
            replace hc:=Lib.hid hc
            go_wp2_with fail
            refine hc.out.mono ?_
            rintro e w3 ⟨rfl,H6⟩
            go_wp2_with fail
            go_ret2
            rw [e0]
            refine ⟨rfl,?_⟩
            simp only [OpM.put]
            exact H6.re
        · have hk2:¬k=1:=hk
          go_enter Tryz.func159,Tryz.ntmps159
          go_wp2_with fail
          refine hw.mono ?_
          rintro e w1 ⟨rfl,H2⟩
          clear hw
          have hn:=qZ1 H2 W hW2
          rw [hN,hB] at hn
          go_wp2_with fail
          refine hn.mono ?_
          rintro e w2 ⟨rfl,H3⟩
          clear hn H2
          have hf:=H3.facts
          simp only [Nat.reduceAdd] at hf
          go_split_ands
          have H4:Hd w0 _ (w2.setCell ⟨ob,3,none⟩ (.int .i64 N)):=H3.fol
          have hg:=H4.facts
          simp only [Nat.reduceAdd] at hg
          go_split_ands
          go_wp2_with fail
          have H5:Hd w0 _ ((w2.setCell ⟨ob,3,none⟩ (.int .i64 N)).alloc (.cells #[.int .i64 k,.int .i64 r,.int .i64 n,.int .i64 N] 83)):=H4.fol
          have qO:(binOp .eql 295 (.pointer (some ⟨ob,3,none⟩)) (.pointer (some ⟨ob,1,none⟩))).run Tryz.prog ((w2.setCell ⟨ob,3,none⟩ (.int .i64 N)).alloc (.cells #[.int .i64 k,.int .i64 r,.int .i64 n,.int .i64 N] 83))=.ok (.bool false) ((w2.setCell ⟨ob,3,none⟩ (.int .i64 N)).alloc (.cells #[.int .i64 k,.int .i64 r,.int .i64 n,.int .i64 N] 83)):=run_eql_ptr_other _ Tryz.underlying295 hinfo (by rw [hsize];decide) (by intro h;cases h) (H5.k ob).heap (H5.k ob).heap
          have hc:=qJQ H5 ⟨k,r,n,N⟩
          have e0:(qQJ s at0 ⟨k,r,n,v⟩ 3)=(if qQL ⟨k,r,n,N⟩=false then (((qZY s at0:Int),(30:Int)),OpM.put ⟨k,r,n,v⟩ 3 N) else ((0,0),OpM.put ⟨k,r,n,v⟩ 3 N)):=by
            unfold qQJ;rw [hW,if_neg h1];dsimp only;rw [hB,if_neg (by decide),hN];rw [if_neg (show ¬((OpM.put ⟨k,r,n,v⟩ 3 N).kind=1∧3=1) from fun h=>absurd h.2 (by decide))];rfl
          cases hF:qQL ⟨k,r,n,N⟩ with
          | false =>
            rw [hF] at hc e0
            rw [if_pos rfl] at e0
            replace hc:=Lib.hid hc
            go_wp2_with fail
            refine hc.out.mono ?_
            rintro e w3 ⟨rfl,H6⟩
            go_wp2_with fail
            go_ret2
            rw [e0]
            refine ⟨rfl,?_⟩
            simp only [OpM.put]
            exact H6.re
          | true =>
            rw [hF] at hc e0
            rw [if_neg (by decide)] at e0
            replace hc:=Lib.hid hc
            go_wp2_with fail
            refine hc.out.mono ?_
            rintro e w3 ⟨rfl,H6⟩
            go_wp2_with fail
            go_ret2
            rw [e0]
            refine ⟨rfl,?_⟩
            simp only [OpM.put]
            exact H6.re
end
end
end Go.Proofs.YtkchopnkdjnocaaGreatDoor
