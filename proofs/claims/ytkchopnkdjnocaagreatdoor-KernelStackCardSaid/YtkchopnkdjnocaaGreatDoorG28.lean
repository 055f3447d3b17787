/-
  Merged texts of one proof: Code11, Code12, Code13.
-/
import Derived.Test.YtkchopnkdjnocaaGreatDoorG26

set_option maxHeartbeats 16000000
set_option maxRecDepth 20000
namespace Go.Proofs.YtkchopnkdjnocaaGreatDoor
section
open Go.RowKit Spl
structure WkM where
  out:List OpM
  over:Bool
def qZH (m:WkM) (o:OpM):Bool × WkM:=if m.out.length=4096 then (false,⟨m.out,true⟩) else (true,⟨m.out++[o],m.over⟩)
inductive qKD where
  | nobody
  | box (b:Nat)
def qKD.v:qKD→Value
  | .nobody=>.nilFunc
  | .box b=>.func (.func 148) #[] #[.pointer (some ⟨b,0,none⟩)]
def qZG:qKD→List OpM→Pr
  | .nobody,_=>fact True
  | .box b,l=>ex fun v:Value=>all [cel b 78 #[v],SlE 83 v l]
def WkP (b:Nat) (pv ev:Value) (t:qKD) (m:WkM):Pr:=all [cel b 300 #[pv,.int .i64 m.out.length,.bool m.over,ev,t.v],qZG t m.out]
instance (b:Nat) (pv ev:Value) (t:qKD) (m:WkM):Key (WkP b pv ev t m) (.b b):=⟨trivial⟩
section
variable {w0 w:World} {R:List Pr} {b:Nat} {pv ev:Value} {t:qKD} {m:WkM}
theorem WkP.opened (H:Hd w0 (WkP b pv ev t m::R) w):Hd w0 (cel b 300 #[pv,.int .i64 m.out.length,.bool m.over,ev,t.v]::qZG t m.out::R) w:=H.flat
theorem WkP.shut (H:Hd w0 (cel b 300 #[pv,.int .i64 m.out.length,.bool m.over,ev,t.v]::qZG t m.out::R) w):Hd w0 (WkP b pv ev t m::R) w:=Hd.pack (L:=[_,_]) H
theorem qZG.opened {tb:Nat} {l:List OpM} (H:Hd w0 (qZG (.box tb) l::R) w):∃v,Hd w0 (cel tb 78 #[v]::SlE 83 v l::R) w:=by
  obtain ⟨v,H⟩:=H.out
  exact ⟨v,H.flat⟩
theorem qZG.shut {tb:Nat} {l:List OpM} {v:Value} (H:Hd w0 (cel tb 78 #[v]::SlE 83 v l::R) w):Hd w0 (qZG (.box tb) l::R) w:=Hd.into v (Hd.pack (L:=[_,_]) H)
theorem zXv {tb:Nat} {l:List OpM} (H:Hd w0 (qZG (.box tb) l::R) w) (hn:l.length≤10000) (o:OpM) :
    Calls Tryz.prog 148 #[.agg #[.int .i64 o.kind,.int .i64 o.res,.int .i64 o.n,.int .i64 o.v],.pointer (some ⟨tb,0,none⟩)] w fun e w'=>e=.returned (.tuple #[])∧Hd w0 (qZG (.box tb) (l++[o])::R) w':=by
  obtain ⟨v,H1⟩:=H.out
  replace H1:Hd w0 (cel tb 78 #[v]::SlE 83 v l::R) w:=H1.flat
  have H2:Hd w0 _ (w.alloc (.cells #[.int .i64 o.kind,.int .i64 o.res,.int .i64 o.n,.int .i64 o.v] 83)):=H1.fol
  have hf:=H2.facts
  simp only [Nat.reduceAdd] at hf
  go_split_ands
  have HP:Hd w0 _ ((w.alloc (.cells #[.int .i64 o.kind,.int .i64 o.res,.int .i64 o.n,.int .i64 o.v] 83)).alloc (.cells #[.int .i64 o.kind,.int .i64 o.res,.int .i64 o.n,.int .i64 o.v] 83)):=H2.fol
  obtain ⟨i0,hi,hz0,hz1,hz2⟩:=info_parts qZS
  have hS:∀ {v':Value} {L:List Pr} {w:World},Hd w0 (Slc 83 4 v' (l.length+1) (flat l++[.int .i64 o.kind,.int .i64 o.res,.int .i64 o.n,.int .i64 o.v])::L) w→Hd w0 (SlE 83 v' (l++[o])::L) w:=by
    intro v' L w h
    have e1:(l++[o]).length=l.length+1:=by simp
    have e2:flat (l++[o])=flat l++[.int .i64 o.kind,.int .i64 o.res,.int .i64 o.n,.int .i64 o.v]:=by rw [qQc,qQK];rfl
    unfold SlE
    rw [e1,e2]
    exact h
  clear H H1
  go_enter Tryz.func148,Tryz.ntmps148
  go_wp2_with (at_builtin;refine qQb rfl _ _ 78 rfl 83 i0 _ 4 32 Tryz.underlying78 hi hz0 hz1 hz2 rfl _ _ _ rfl (HP.v v) ⟨w.heap.size+1,0,none⟩ 1 1 [.int .i64 o.kind,.int .i64 o.res,.int .i64 o.n,.int .i64 o.v] rfl rfl (qQA (HP.k (w.heap.size+1))) (by simp [Value.oneCell']) (by unfold maxLen;omega) (by omega) ?_;intro v' w2 H4;have HF:=hS H4;obtain ⟨l',hl'⟩:∃l',l++[o]=l':=⟨_,rfl⟩;rw [hl'] at HF;obtain ⟨a',c',rfl,-,-,-,-⟩:=HF.slc_form;replace hl':=Lib.hid hl';have d0:=(HF.k tb).ce 0 rfl;have f0:=(HF.k tb).fr 0)
  go_end0
  rw [hl'.out]
  exact ⟨rfl,qZG.shut (v:=.slice a' l'.length c') (by exact Hd.fin HF)⟩
theorem qU5 (H:Hd w0 (WkP b pv ev t m::R) w) (hn:m.out.length≤4096) (o:OpM) :
    Calls Tryz.prog 162 #[.pointer (some ⟨b,0,none⟩),.agg #[.int .i64 o.kind,.int .i64 o.res,.int .i64 o.n,.int .i64 o.v]] w fun e w'=>e=.returned (.bool (qZH m o).1)∧Hd w0 (WkP b pv ev t (qZH m o).2::R) w':=by
  have H1:=WkP.opened H
  obtain ⟨out,over⟩:=m
  dsimp only at H1 hn
  have H2:Hd w0 _ (w.alloc (.cells #[.int .i64 o.kind,.int .i64 o.res,.int .i64 o.n,.int .i64 o.v] 83)):=H1.fol
  have hf:=H2.facts
  simp only [Nat.reduceAdd] at hf
  go_split_ands
  clear H
  by_cases h4:out.length=4096
  · have e1:qZH ⟨out,over⟩ o=(false,⟨out,true⟩):=by unfold qZH;rw [if_pos h4]
    rw [e1]
    have n1:(out.length:Int)=4096:=by omega
    clear e1
    go_enter Tryz.func162,Tryz.ntmps162
    go_wp2_with fail
    go_ret
    exact ⟨rfl,WkP.shut (m:=⟨out,true⟩) (by exact Hd.fin H1)⟩
  · have e1:qZH ⟨out,over⟩ o=(true,⟨out++[o],over⟩):=by unfold qZH;rw [if_neg h4]
    rw [e1]
    have n1:¬(out.length:Int)=4096:=by omega
    have g5:IntKind.i64.wrap ((out.length:Int)+1)=(out.length:Int)+1:=IntWalk.i64_in _ (by omega)
    have H3:Hd w0 _ ((w.alloc (.cells #[.int .i64 o.kind,.int .i64 o.res,.int .i64 o.n,.int .i64 o.v] 83)).setCell ⟨b,1,none⟩ (.int .i64 ((out.length:Int)+1))):=H2.fol
    have hg:=H3.facts
    simp only [Nat.reduceAdd] at hg
    go_split_ands
    have elen:=Lib.hid (show ((out++[o]).length:Int)=(out.length:Int)+1 by simp)
    have qN:∀w,(binOp .neq 284 .nilFunc .nilFunc).run Tryz.prog w=.ok (.bool false) w:=fun w=>by kernel_rfl
    have qF:∀tb w,(binOp .neq 284 (.func (.func 148) #[] #[.pointer (some ⟨tb,0,none⟩)]) .nilFunc).run Tryz.prog w=.ok (.bool true) w:=fun tb w=>by kernel_rfl
    cases t with
    | nobody =>
      simp only [qKD.v] at *
      go_enter Tryz.func162,Tryz.ntmps162
      go_wp2_with fail
      go_ret
      refine ⟨rfl,WkP.shut (m:=⟨out++[o],over⟩) (t:=.nobody) ?_⟩
      dsimp only
      rw [elen.out]
      exact (Hd.put trivial (by exact Hd.fin H3:Hd w0 (cel b 300 #[pv,.int .i64 ((out.length:Int)+1),.bool over,ev,.nilFunc]::R) _)).b2
    | box tb =>
      simp only [qKD.v] at *
      have c4:=(H3.k b).ce 4 rfl
      have o0:=(H3.k w.heap.size).ce 0 rfl
      have o1:=(H3.k w.heap.size).ce 1 rfl
      have o2:=(H3.k w.heap.size).ce 2 rfl
      have o3:=(H3.k w.heap.size).ce 3 rfl
      have hcall:=zXv (tb:=tb) (l:=out) (R:=cel b 300 #[pv,.int .i64 ((out.length:Int)+1),.bool over,ev,.func (.func 148) #[] #[.pointer (some ⟨tb,0,none⟩)]]::cel w.heap.size 83 #[.int .i64 o.kind,.int .i64 o.res,.int .i64 o.n,.int .i64 o.v]::R) ((H3.re:Hd w0 (qZG (.box tb) out::cel b 300 #[pv,.int .i64 ((out.length:Int)+1),.bool over,ev,.func (.func 148) #[] #[.pointer (some ⟨tb,0,none⟩)]]::cel w.heap.size 83 #[.int .i64 o.kind,.int .i64 o.res,.int .i64 o.n,.int .i64 o.v]::R) _).drew) (by omega) o
      go_enter Tryz.func162,Tryz.ntmps162
      go_wp2_with fail
      refine wm0 [(0,true),(1,true),(2,true),(3,true),(4,true),(5,false)] (fun w'=>w'.cell? ⟨b,4,none⟩=some (.func (.func 148) #[] #[.pointer (some ⟨tb,0,none⟩)])∧w'.cell? ⟨w.heap.size,0,none⟩=some (.int .i64 o.kind)∧w'.cell? ⟨w.heap.size,1,none⟩=some (.int .i64 o.res)∧w'.cell? ⟨w.heap.size,2,none⟩=some (.int .i64 o.n)∧w'.cell? ⟨w.heap.size,3,none⟩=some (.int .i64 o.v)) (⟨c4,o0,o1,o2,o3⟩) ?_
      iterate 5 (refine mh ?_;(try simp only [Act.put,List.setIfInBounds_toArray,List.set_cons_zero,List.set_cons_succ]))
      refine mm ?_
      go_wp2_with fail
      refine hcall.mono ?_
      rintro e w2 ⟨rfl,H4⟩
      clear hcall H3 H1 H2
      have e4:=(H4.k b).ce 4 rfl
      have p0:=(H4.k w.heap.size).ce 0 rfl
      have p1:=(H4.k w.heap.size).ce 1 rfl
      have p2:=(H4.k w.heap.size).ce 2 rfl
      have p3:=(H4.k w.heap.size).ce 3 rfl
      go_wp2_with fail
      refine qQd ⟨e4,p0,p1,p2,p3⟩ ?_
      refine qQe ?_
      (try dsimp only)
      go_wp2_with fail
      go_ret
      refine ⟨rfl,WkP.shut (m:=⟨out++[o],over⟩) (t:=.box tb) ?_⟩
      dsimp only
      rw [elen.out]
      exact (H4.re:Hd w0 (cel b 300 #[pv,.int .i64 ((out.length:Int)+1),.bool over,ev,.func (.func 148) #[] #[.pointer (some ⟨tb,0,none⟩)]]::qZG (.box tb) (out++[o])::R) _)
end
end
section
open Go.RowKit Spl
def repW (g:WkM→Bool × WkM) (begin:Option Nat):Nat→WkM→Bool × WkM
  | 0,m=>(true,m)
  | n+1,m=>if (g m).1=false then g m else if begin=some (g m).2.out.length then (true,(g m).2) else repW g begin n (g m).2
def qZI (p:List OpM) (ends:List Int):Nat→Nat→Nat→WkM→Bool × WkM
  | 0,_,_,m=>(true,m)
  | f+1,i,to,m =>
    if i<to then
      match p[i]? with
      | none=>(true,m)
      | some o =>
        if o.kind=10 then
          let r:=repW (qZI p ends f (i+1) (ends.getD i 0).toNat) (some m.out.length) o.n.toNat m
          if r.1=false then r else qZI p ends f ((ends.getD i 0).toNat+1) to r.2
        else if o.kind=5 then
          let r:=repW (fun m=>qZH m ⟨5,0,1,0⟩) none o.n.toNat m
          if r.1=false then r else qZI p ends f (i+1) to r.2
        else if o.kind=9 then (false,(qZH m o).2)
        else if (qZH m o).1=false then qZH m o else qZI p ends f (i+1) to (qZH m o).2
    else (true,m)
structure WOk (p:List OpM) (ends:List Int):Prop where
  len:ends.length=p.length
  few:p.length≤256
  n:∀o∈p,o.kind=10∨o.kind=5→0≤o.n∧o.n≤4096
  e:∀(i:Nat) (o:OpM),p[i]? = some o→o.kind=10→∃e:Nat,ends[i]? = some (e:Int)∧i<e∧e<p.length
theorem qJv {m:WkM} {o:OpM} (h:m.out.length≤4096):(qZH m o).2.out.length≤4096:=by
  unfold qZH
  split
  · exact h
  · simp;omega
theorem zQc {g:WkM→Bool × WkM} {b:Option Nat} (hg:∀m:WkM,m.out.length≤4096→(g m).2.out.length≤4096):∀(n:Nat) (m:WkM),m.out.length≤4096→(repW g b n m).2.out.length≤4096:=by
  intro n
  induction n with
  | zero=>intro m h;exact h
  | succ n ih =>
    intro m h
    rw [repW]
    split
    · exact hg m h
    · split
      · exact hg m h
      · exact ih _ (hg m h)
theorem qXP {p:List OpM} {ends:List Int}:∀(f i to:Nat) (m:WkM),m.out.length≤4096→(qZI p ends f i to m).2.out.length≤4096:=by
  intro f
  induction f with
  | zero=>intro i to m h;exact h
  | succ f ih =>
    intro i to m h
    rw [qZI]
    split
    · split
      · exact h
      · rename_i o _
        have h1:=zQc (b:=some m.out.length) (ih (i+1) (ends.getD i 0).toNat) o.n.toNat m h
        have h2:=zQc (g:=fun m=>qZH m ⟨5,0,1,0⟩) (b:=none) (fun m h=>qJv h) o.n.toNat m h
        split
        · dsimp only
          split
          · exact h1
          · exact ih _ _ _ h1
        · split
          · dsimp only
            split
            · exact h2
            · exact ih _ _ _ h2
          · split
            · exact qJv h
            · split
              · exact qJv h
              · exact ih _ _ _ (qJv h)
    · exact h
section
variable {w0 w:World} {R:List Pr} {b:Nat} {pv ev:Value} {t:qKD}
theorem zJf {p:List OpM} {ends:List Int} (hk:WOk p ends) (hp:Srd w0 R pv p) (he:Srd w0 R ev ends):∀(F:Nat) {w:World} {m:WkM} (i to:Nat),p.length-i<F→i≤p.length→to≤p.length→m.out.length≤4096→Hd w0 (WkP b pv ev t m::R) w →
    Calls Tryz.prog 161 #[.pointer (some ⟨b,0,none⟩),.int .i64 i,.int .i64 to] w fun e w'=>e=.returned (.bool (qZI p ends F i to m).1)∧Hd w0 (WkP b pv ev t (qZI p ends F i to m).2::R) w':=by
  intro F
  induction F using Nat.strongRecOn with
  | ind F IH =>
  intro w m i0 to hF hi0 hto hm H
  obtain ⟨res,hres⟩:∃res,qZI p ends F i0 to m=res:=⟨_,rfl⟩
  rw [hres]
  replace IH:=Lib.hid IH
  go_enter Tryz.func161,Tryz.ntmps161
  go_wp2_with fail
  go_loopw [7] (fun x wr=>∃(f i:Nat) (m:WkM),f≤F∧p.length-i<f∧i≤p.length∧m.out.length≤4096∧x=.int .i64 i∧qZI p ends f i to m=res∧Hd w0 (WkP b pv ev t m::R) wr) (fun x _=>p.length+1-(intOf x).toNat)
  case atStart=>exact ⟨F,i0,m,Nat.le_refl _,hF,hi0,hm,rfl,hres,H⟩
  case round =>
    clear hres hF hi0 hm H
    obtain ⟨f,i,m,hfF,hfi,hi,hm,rfl,hres,H⟩:=hrel
    obtain ⟨f,rfl⟩:∃k,f=k+1:=⟨f-1,by omega⟩
    rw [qZI] at hres
    by_cases hlt:i<to
    · rw [if_pos hlt] at hres
      have hil:i<p.length:=by omega
      obtain ⟨o,ho⟩:∃o,p[i]? = some o:=⟨p[i],List.getElem?_eq_getElem hil⟩
      rw [ho] at hres
      dsimp only at hres
      obtain ⟨g,c2,hpv,-,hcell⟩:=hp.at ho
      have f0:=hcell H.tail 0 _ rfl
      have f1:=hcell H.tail 1 _ rfl
      have f2:=hcell H.tail 2 _ rfl
      have f3:=hcell H.tail 3 _ rfl
      simp only [Enc.size,Nat.add_zero] at f0 f1 f2 f3
      have H1:=WkP.opened H
      have c0:wr.cell? ⟨b,0,none⟩=some pv:=(H1.k b).ce 0 rfl
      have c1:wr.cell? ⟨b,1,none⟩=some (.int .i64 m.out.length):=(H1.k b).ce 1 rfl
      rw [hpv] at c0
      have n1:¬(i:Int)<0:=by omega
      have n2:(i:Int)<p.length:=by omega
      have n3:¬p.length≤i:=by omega
      have n4:(i:Int)<to:=by omega
      have g5:IntKind.i64.wrap ((i:Int)+1)=(i:Int)+1:=IntWalk.i64_in _ (by have:=hk.few;omega)
      by_cases h10:o.kind=10
      · rw [if_pos h10] at hres
        have hnn:=hk.n o (List.mem_of_getElem? ho) (.inl h10)
        obtain ⟨e,hek,hie,hel⟩:=hk.e i o ho h10
        obtain ⟨ok,ores,on,ov⟩:=o
        dsimp only at h10 hres f0 f1 f2 f3 hnn
        subst h10
        obtain ⟨N,rfl⟩:∃N:Nat,on=N:=⟨on.toNat,by omega⟩
        rw [Int.toNat_natCast] at hres
        have hed:(ends.getD i 0).toNat=e:=by simp [List.getD_eq_getElem?_getD,hek]
        rw [hed] at hres
        obtain ⟨T,hT⟩:∃T,repW (qZI p ends f (i+1) e) (some m.out.length) N m=T:=⟨_,rfl⟩
        rw [hT] at hres
        have H2:Hd w0 _ (wr.alloc (.cells #[.int .i64 10,.int .i64 ores,.int .i64 N,.int .i64 ov] 83)):=H.fol
        have y1:(wr.alloc (.cells #[.int .i64 10,.int .i64 ores,.int .i64 N,.int .i64 ov] 83)).cell? ⟨b,1,none⟩=some (.int .i64 m.out.length):=((WkP.opened (H2.k b)).k b).ce 1 rfl
        obtain ⟨g2,c3,hev,-,hcell2⟩:=he.at hek
        have hlen2:=hk.len
        obtain ⟨B,hB⟩:∃B:Nat,m.out.length=B:=⟨_,rfl⟩
        rw [hB] at c1 y1 hT
        have g7:IntKind.i64.wrap ((e:Int)+1)=(e:Int)+1:=IntWalk.i64_in _ (by have:=hk.few;omega)
        have q5:(i:Int)<ends.length:=by omega
        have q6:¬ends.length≤i:=by omega
        clear hcell H1 ho hed hek
        replace IH:=Lib.hid IH.out
        replace hp:=Lib.hid hp
        replace he:=Lib.hid he
        replace hk:=Lib.hid hk
        replace hcell2:=Lib.hid (fun w1 (h:Hd w0 R w1)=>hcell2 h 0 _ rfl)
        go_wp2_with fail
        go_loopw [37] (fun x wv=>∃(j:Nat) (m':WkM),j≤N∧x=.int .i64 j∧m'.out.length≤4096∧T=repW (qZI p ends f (i+1) e) (some B) (N-j) m'∧Hd w0 (WkP b pv ev t m'::R) wv) (fun x _=>N-(intOf x).toNat)
        case atStart=>exact ⟨0,m,Nat.zero_le _,rfl,hm,hT.symm,by exact H2.re⟩
        case round =>
          clear H2 hT c0 c1 y1
          obtain ⟨j,m',hj,rfl,hm',ht,H3⟩:=hrel
          have g6:IntKind.i64.wrap ((j:Int)+1)=(j:Int)+1:=IntWalk.i64_in _ (by omega)
          have H4:=WkP.opened H3
          have d3:=(show _=some ev from (H4.k b).ce 3 rfl)
          have d4:=hcell2.out _ H3.tail
          simp only [Enc.size,Nat.add_zero,Nat.mul_one] at d4
          rw [hev] at d3
          clear H4
          by_cases hjN:j<N
          · have hcall:=IH.out f (by omega) (i+1) e (by omega) (by omega) (by omega) hm' H3
            rw [show ((i+1:Nat):Int)=(i:Int)+1 from rfl] at hcall
            have q1:(j:Int)<N:=by omega
            rw [show N-j=(N-(j+1))+1 by omega,repW] at ht
            have hle:=Lib.hid (qXP (p:=p) (ends:=ends) f (i+1) e m' hm')
            obtain ⟨r,hr⟩:∃r,qZI p ends f (i+1) e m'=r:=⟨_,rfl⟩
            rw [hr] at hcall ht hle
            cases hb:r.1 with
            | false =>
              rw [hb,if_pos rfl] at ht
              rw [ht,hb,if_pos rfl] at hres
              rw [hb] at hcall
              clear hr ht H3 IH
              go_wp2_with fail
              refine hcall.mono ?_
              rintro e w1 ⟨rfl,H4⟩
              go_wp2_with fail
              go_ret
              exact ⟨qZC (by rw [← hres];exact hb),by rw [← hres];exact H4⟩
            | true =>
              rw [hb,if_neg (by decide)] at ht
              rw [hb] at hcall
              clear hr H3
              by_cases hB2:B=r.2.out.length
              · rw [if_pos (by rw [hB2])] at ht
                rw [ht,if_neg (by simp)] at hres
                replace hres:=Lib.hid hres
                clear ht
                go_wp2_with fail
                refine hcall.mono ?_
                rintro e1 w1 ⟨rfl,H4⟩
                clear hcall
                have H5:=WkP.opened H4
                have x1:w1.cell? ⟨b,1,none⟩=some (.int .i64 r.2.out.length):=(H5.k b).ce 1 rfl
                have x3:w1.cell? ⟨b,3,none⟩=some ev:=(H5.k b).ce 3 rfl
                have x4:=hcell2.out _ H4.tail
                simp only [Enc.size,Nat.add_zero,Nat.mul_one] at x4
                rw [hev] at x3
                have q9:(r.2.out.length:Int)=B:=by omega
                clear H5
                go_wp2_with fail
                go_roundw
                case rel=>exact ⟨f,e+1,r.2,by omega,by omega,by omega,hle.out,by simp,hres.out,H4⟩
                case measure=>simp [intOf];omega
              · rw [if_neg (by intro h;injection h with h;exact hB2 h)] at ht
                replace ht:=Lib.hid ht
                replace hres:=Lib.hid hres
                go_wp2_with fail
                refine hcall.mono ?_
                rintro e1 w1 ⟨rfl,H4⟩
                clear hcall
                have H5:=WkP.opened H4
                have x1:w1.cell? ⟨b,1,none⟩=some (.int .i64 r.2.out.length):=(H5.k b).ce 1 rfl
                have q9:¬(r.2.out.length:Int)=B:=by omega
                clear H5
                go_wp2_with fail
                go_roundw
                case rel=>exact ⟨j+1,r.2,by omega,by simp,hle.out,ht.out,H4⟩
                case measure=>simp [intOf];omega
          · obtain rfl:j=N:=by omega
            rw [Nat.sub_self,repW] at ht
            rw [ht,if_neg (by simp)] at hres
            replace hres:=Lib.hid hres
            clear ht IH
            go_wp2_with fail
            go_roundw
            case rel=>exact ⟨f,e+1,m',by omega,by omega,by omega,hm',by simp,hres.out,H3⟩
            case measure=>simp [intOf];omega
      · rw [if_neg h10] at hres
        by_cases h5:o.kind=5
        · rw [if_pos h5] at hres
          have hnn:=hk.n o (List.mem_of_getElem? ho) (.inr h5)
          obtain ⟨ok,ores,on,ov⟩:=o
          dsimp only at h10 h5 hres f0 f1 f2 f3 hnn
          subst h5
          obtain ⟨N,rfl⟩:∃N:Nat,on=N:=⟨on.toNat,by omega⟩
          rw [Int.toNat_natCast] at hres
          obtain ⟨T,hT⟩:∃T,repW (fun m=>qZH m ⟨5,0,1,0⟩) none N m=T:=⟨_,rfl⟩
          rw [hT] at hres
          have H2:Hd w0 _ (wr.alloc (.cells #[.int .i64 5,.int .i64 ores,.int .i64 N,.int .i64 ov] 83)):=H.fol
          clear hcell H1 ho
          replace IH:=Lib.hid IH
          replace hp:=Lib.hid hp
          replace he:=Lib.hid he
          replace hk:=Lib.hid hk
          go_wp2_with fail
          go_loopw [69] (fun x wv=>∃(j:Nat) (m':WkM),j≤N∧x=.int .i64 j∧m'.out.length≤4096∧T=repW (fun m=>qZH m ⟨5,0,1,0⟩) none (N-j) m'∧Hd w0 (WkP b pv ev t m'::R) wv) (fun x _=>N-(intOf x).toNat)
          case atStart=>exact ⟨0,m,Nat.zero_le _,rfl,hm,hT.symm,by exact H2.re⟩
          case round =>
            clear H2 hT c0 c1
            obtain ⟨j,m',hj,rfl,hm',ht,H3⟩:=hrel
            have g6:IntKind.i64.wrap ((j:Int)+1)=(j:Int)+1:=IntWalk.i64_in _ (by omega)
            by_cases hjN:j<N
            · have hcall:=qU5 H3 hm' ⟨5,0,1,0⟩
              have q1:(j:Int)<N:=by omega
              rw [show N-j=(N-(j+1))+1 by omega,repW] at ht
              have hle:=Lib.hid (qJv (o:=⟨5,0,1,0⟩) hm')
              obtain ⟨r,hr⟩:∃r,qZH m' ⟨5,0,1,0⟩=r:=⟨_,rfl⟩
              (try dsimp only at ht)
              rw [hr] at hcall ht hle
              cases hb:r.1 with
              | false =>
                rw [hb,if_pos rfl] at ht
                rw [ht,hb,if_pos rfl] at hres
                rw [hb] at hcall
                clear hr ht H3
                go_wp2_with fail
                refine hcall.mono ?_
                rintro e w1 ⟨rfl,H4⟩
                go_wp2_with fail
                go_ret
                exact ⟨qZC (by rw [← hres];exact hb),by rw [← hres];exact H4⟩
              | true =>
                rw [hb,if_neg (by decide),if_neg (by simp)] at ht
                rw [hb] at hcall
                replace ht:=Lib.hid ht
                replace hres:=Lib.hid hres
                clear hr H3
                go_wp2_with fail
                refine hcall.mono ?_
                rintro e w1 ⟨rfl,H4⟩
                go_wp2_with fail
                go_roundw
                case rel=>exact ⟨j+1,r.2,by omega,by simp,hle.out,ht.out,H4⟩
                case measure=>simp [intOf];omega
            · obtain rfl:j=N:=by omega
              rw [Nat.sub_self,repW] at ht
              rw [ht,if_neg (by simp)] at hres
              replace hres:=Lib.hid hres
              clear ht
              go_wp2_with fail
              go_roundw
              case rel=>exact ⟨f,i+1,m',by omega,by omega,by omega,hm',by simp,hres.out,H3⟩
              case measure=>simp [intOf];omega
        · rw [if_neg h5] at hres
          obtain ⟨ok,ores,on,ov⟩:=o
          dsimp only at h10 h5 hres f0 f1 f2 f3
          have H2:Hd w0 _ (wr.alloc (.cells #[.int .i64 ok,.int .i64 ores,.int .i64 on,.int .i64 ov] 83)):=H.fol
          have hcall:=qU5 (H2.re:Hd w0 (WkP b pv ev t m::R) _) hm ⟨ok,ores,on,ov⟩
          clear hcell H1 H2 ho
          by_cases h9:ok=9
          · subst h9
            rw [if_pos rfl] at hres
            clear hp he hk IH
            go_wp2_with fail
            refine hcall.mono ?_
            rintro e w1 ⟨rfl,H3⟩
            go_wp2_with fail
            go_ret
            exact ⟨qZC (by rw [← hres]),by rw [← hres];exact H3⟩
          · rw [if_neg h9] at hres
            have hle:=Lib.hid (qJv (o:=⟨ok,ores,on,ov⟩) hm)
            obtain ⟨r,hr⟩:∃r,qZH m ⟨ok,ores,on,ov⟩=r:=⟨_,rfl⟩
            rw [hr] at hcall hres hle
            cases hb:r.1 with
            | false =>
              rw [hb,if_pos rfl] at hres
              rw [hb] at hcall
              clear hp he hk IH hr
              go_wp2_with fail
              refine hcall.mono ?_
              rintro e w1 ⟨rfl,H3⟩
              go_wp2_with fail
              go_ret
              exact ⟨qZC (by rw [← hres];exact hb),by rw [← hres];exact H3⟩
            | true =>
              rw [hb,if_neg (by decide)] at hres
              rw [hb] at hcall
              replace hres:=Lib.hid hres
              clear hr
              replace hp:=Lib.hid hp
              replace he:=Lib.hid he
              replace hk:=Lib.hid hk
              go_wp2_with fail
              refine hcall.mono ?_
              rintro e w1 ⟨rfl,H3⟩
              go_wp2_with fail
              go_roundw
              case rel=>exact ⟨f,i+1,r.2,by omega,by omega,by omega,hle.out,by simp,hres.out,H3⟩
              case measure=>simp [intOf];omega
    · rw [if_neg hlt] at hres
      have n1:¬(i:Int)<to:=by omega
      clear hp he hk IH
      go_wp2_with fail
      go_ret
      exact ⟨qZC (by rw [← hres]),by rw [← hres];exact H⟩
end
end
section
open Go.RowKit Spl
def qJw:List OpM→Nat→List Int→List Int→List Int × List Int
  | [],_,e,o=>(e,o)
  | x::l,i,e,o=>if x.kind=10 then qJw l (i+1) e (o++[(i:Int)])
    else if x.kind=11 then qJw l (i+1) (e.set (o.getLast?.getD 0).toNat i) o.dropLast
    else qJw l (i+1) e o
def qZF (n:Nat):List Int:=List.replicate n 0
def qQ6 (p:List OpM):List Int:=(qJw p 0 (qZF p.length) []).1
structure EInv (p:List OpM) (k:Nat) (e o:List Int):Prop where
  len:e.length=p.length
  op:∀x∈o,∃j:Nat,x=j∧j<k
  c:∀(i:Nat) (y:OpM),i<k→p[i]? = some y→y.kind=10→(i:Int)∈o∨∃x:Nat,e[i]? = some (x:Int)∧i<x∧x<k
theorem EInv.open_ {p:List OpM} {k:Nat} {e o:List Int} {y:OpM} (h:EInv p k e o) (hy:p[k]? = some y):EInv p (k+1) e (o++[(k:Int)]):=by
  refine ⟨h.len,fun x hx=>?_,fun i z hi hz h10=>?_⟩
  · rcases List.mem_append.1 hx with hx | hx
    · obtain ⟨j,e1,e2⟩:=h.op x hx;exact ⟨j,e1,by omega⟩
    · rw [List.mem_singleton] at hx;exact ⟨k,hx,by omega⟩
  · by_cases e1:i=k
    · subst e1;exact .inl (by simp)
    · rcases h.c i z (by omega) hz h10 with h1 | ⟨x,h1,h2,h3⟩
      · exact .inl (List.mem_append_left _ h1)
      · exact .inr ⟨x,h1,h2,by omega⟩
theorem EInv.skip {p:List OpM} {k:Nat} {e o:List Int} {y:OpM} (h:EInv p k e o) (hy:p[k]? = some y) (hn:¬y.kind=10):EInv p (k+1) e o:=by
  refine ⟨h.len,fun x hx=>?_,fun i z hi hz h10=>?_⟩
  · obtain ⟨j,e1,e2⟩:=h.op x hx;exact ⟨j,e1,by omega⟩
  · by_cases e1:i=k
    · subst e1;rw [hy] at hz;injection hz with hz;subst hz;exact absurd h10 hn
    · rcases h.c i z (by omega) hz h10 with h1 | ⟨x,h1,h2,h3⟩
      · exact .inl h1
      · exact .inr ⟨x,h1,h2,by omega⟩
theorem EInv.close {p:List OpM} {k j:Nat} {e o:List Int} {y:OpM} (h:EInv p k e (o++[(j:Int)])) (hy:p[k]? = some y) (hn:¬y.kind=10):EInv p (k+1) (e.set j k) o:=by
  have hj:j<k:=by
    obtain ⟨j',e1,e2⟩:=h.op (j:Int) (by simp)
    omega
  have hk:k<p.length:=qQa hy
  refine ⟨by rw [List.length_set];exact h.len,fun x hx=>?_,fun i z hi hz h10=>?_⟩
  · obtain ⟨j',e1,e2⟩:=h.op x (List.mem_append_left _ hx);exact ⟨j',e1,by omega⟩
  · by_cases e1:i=k
    · subst e1;rw [hy] at hz;injection hz with hz;subst hz;exact absurd h10 hn
    · by_cases e2:i=j
      · subst e2
        refine .inr ⟨k,?_,hj,by omega⟩
        rw [List.getElem?_set_self (by rw [h.len];omega)]
      · rcases h.c i z (by omega) hz h10 with h1 | ⟨x,h1,h2,h3⟩
        · rcases List.mem_append.1 h1 with h1 | h1
          · exact .inl h1
          · rw [List.mem_singleton] at h1;exact absurd (by omega) e2
        · exact .inr ⟨x,by rw [List.getElem?_set_ne (Ne.symm e2)];exact h1,h2,by omega⟩
theorem EInv.start (p:List OpM):EInv p 0 (qZF p.length) []:=⟨by simp [qZF],fun x hx=>by simp at hx,fun i y hi=>absurd hi (Nat.not_lt_zero _)⟩
theorem qWe {l:List OpM}:∀ {i n:Nat},(qQM l i n).2=0→∀o∈l,qQL o=true:=by
  induction l with
  | nil=>intro i n h o ho;simp at ho
  | cons x l ih =>
    intro i n h o ho
    rw [qQM] at h
    cases hf:qQL x with
    | false=>rw [if_pos hf] at h;simp at h
    | true =>
      rw [if_neg (by rw [hf];decide)] at h
      rcases List.mem_cons.1 ho with rfl | ho
      · exact hf
      · split at h
        · split at h
          · simp at h
          · exact ih h o ho
        · split at h
          · split at h
            · simp at h
            · exact ih h o ho
          · exact ih h o ho
theorem zZr {o:OpM} (h:qQL o=true) (hk:o.kind=10∨o.kind=5):0≤o.n∧o.n≤4096:=by
  have h4:qZx o.kind=4:=by rcases hk with e | e <;> rw [e] <;> rfl
  unfold qQL at h
  rw [if_neg (by omega),if_neg (by rw [h4];decide),if_neg (by rw [h4];decide),if_neg (by rw [h4];decide),if_pos h4] at h
  simp at h
  omega
theorem qY4 {p:List OpM} (h:(qQW p).2=0):p.length≤256:=by
  unfold qQW at h
  split at h
  · simp at h
  · omega
theorem qK1 {p:List OpM} (h:(qQW p).2=0):(qQM p 0 0).2=0:=by
  unfold qQW at h
  split at h
  · simp at h
  · exact h
theorem EInv.ok {p:List OpM} {e:List Int} (h:EInv p p.length e []) (hc:(qQW p).2=0):WOk p e :=
  ⟨h.len,qY4 hc,fun o ho hk=>zZr (qWe (qK1 hc) o ho) hk,fun i o hi h10=>by
    rcases h.c i o (qQa hi) hi h10 with h1 | ⟨x,h1,h2,h3⟩
    · simp at h1
    · exact ⟨x,h1,h2,h3⟩⟩
def qZ0 (p:List OpM):WkM :=
  if (qZI p (qQ6 p) (p.length+1) 0 p.length ⟨[],false⟩).1 then (qZH (qZI p (qQ6 p) (p.length+1) 0 p.length ⟨[],false⟩).2 ⟨9,0,0,0⟩).2
  else (qZI p (qQ6 p) (p.length+1) 0 p.length ⟨[],false⟩).2
def qZj (p:List OpM):List OpM × Int:=if (qQW p).2=0 then (if (qZ0 p).over then ([],5) else ((qZ0 p).out,0)) else ([],(qQW p).2)
end
end Go.Proofs.YtkchopnkdjnocaaGreatDoor
