/-
  Merged texts of one proof: Rel1, Rel2, Rel3, Rel4, Rel5.
-/
import Derived.BigQuiet
import Derived.Deep.QuietTactic
import Derived.Deep.RegionHeld3
import Derived.RegionTactic
import Derived.StillTailTactics
import Derived.Test.YtkchopnkdjnocaaGreatDoorG01
import Derived.Test.YtkchopnkdjnocaaGreatDoorG03
import Derived.Test.YtkchopnkdjnocaaGreatDoorRows

set_option maxHeartbeats 16000000
set_option maxRecDepth 20000
namespace Go.Proofs.YtkchopnkdjnocaaGreatDoor
section
open Go.RowKit Spl
theorem zQd:(Tryz.prog.info? 137).map (fun i=>(i.zero,i.size,i.bytes))=some (some (.pointer none),1,8):=by kernel_rfl
theorem zJr:(Tryz.prog.info? 3).map (fun i=>(i.zero,i.size,i.bytes))=some (some (.int .i64 0),1,8):=by kernel_rfl
def pp (b:Nat):Value:=.pointer (some ⟨b,0,none⟩)
section
variable {w0 w:World} {R:List Pr} {s o T:Nat} {C:Array Value} {v:Value} {n:Nat} {xs:List Value}
theorem zZ8 (H:Hd w0 (cel s T C::Slc 137 1 v n xs::R) w) (hC:C[o]? = some v) :
    Calls Tryz.prog 84 #[.pointer (some ⟨s,o,none⟩)] w fun e w'=>e=.returned (.int .i64 n)∧w=w':=by
  have c0:w.cell? ⟨s,o,none⟩=some v:=(H.rd o).trans hC
  obtain ⟨a,cap,rfl,_,_,_,_⟩:=H.b2.slc_form
  go_enter Tryz.func84,Tryz.ntmps84
  go_wp2
  go_ret
  exact ⟨rfl,rfl⟩
theorem zJB (H:Hd w0 (cel s T C::Slc 137 1 v n xs::R) w) (hC:C[o]? = some v) (hn:n≤1000000) (b:Nat) :
    Calls Tryz.prog 86 #[.pointer (some ⟨s,o,none⟩),pp b] w fun e w' =>
      e=.returned (.tuple #[])∧∃v',Hd w0 (cel s T (C.setIfInBounds o v')::Slc 137 1 v' (n+1) (xs++[pp b])::R) w':=by
  have c0:w.cell? ⟨s,o,none⟩=some v:=(H.rd o).trans hC
  obtain ⟨i0,hi,hz0,hz1,hz2⟩:=info_parts zQd
  have H2:=(H.alloc (.cells #[pp b] 137)).b3
  unfold pp at H2 ⊢
  go_enter Tryz.func86,Tryz.ntmps86
  go_wp2_with (at_builtin;refine qQb rfl _ _ 141 rfl 137 i0 _ 1 8 Tryz.underlying141 hi hz0 hz1 hz2 rfl v n xs rfl H2 ⟨w.heap.size,0,none⟩ 1 1 [pp b] rfl rfl (cell_one_new _ _ _) (by simp [pp,Value.oneCell']) (by unfold maxLen;omega) (by omega) ?_;intro v' w1 H3;obtain ⟨a',cap',rfl,_,_,_,_⟩:=H3.slc_form;have c1:=H3.b3.rd;have f1:=H3.b3.fr)
  go_end0
  exact ⟨rfl,_,(H3.b3.set o _).b3.tail⟩
theorem zZv (H:Hd w0 (cel s T C::Slc 137 1 v n xs::R) w) (hC:C[o]? = some v) (hn:n≤1000000) (i:Nat) (b:Nat) (hx:xs[i]? = some (pp b)) :
    Calls Tryz.prog 109 #[.pointer (some ⟨s,o,none⟩),.int .i64 i] w fun e w'=>e=.returned (.tuple #[pp b,.bool true])∧w=w':=by
  have c0:w.cell? ⟨s,o,none⟩=some v:=(H.rd o).trans hC
  have hl:=H.b2.slc_len
  have hi:i<n:=by have:=qQa hx;omega
  obtain ⟨g,cap,rfl,H2⟩:=H.b2.slc_at (by omega)
  have c1:=H2.slcC_rd hx
  unfold pp at c1 ⊢
  clear H H2 hx hl hC
  go_enter Tryz.func109,Tryz.ntmps109
  go_wp2
  go_ret2
  exact ⟨rfl,rfl⟩
theorem zQR (H:Hd w0 (cel s T C::Slc 137 1 v n xs::R) w) (hC:C[o]? = some v) (i:Int) (h:i<0∨n≤i) :
    Calls Tryz.prog 109 #[.pointer (some ⟨s,o,none⟩),.int .i64 i] w fun e w'=>e=.returned (.tuple #[.pointer none,.bool false])∧w=w':=by
  have c0:w.cell? ⟨s,o,none⟩=some v:=(H.rd o).trans hC
  obtain ⟨a,cap,rfl,_,_,_,_⟩:=H.b2.slc_form
  clear H hC
  rcases h with h | h
  · go_enter Tryz.func109,Tryz.ntmps109
    go_wp2
    go_ret2
    exact ⟨rfl,rfl⟩
  · have h0:¬i<0:=by omega
    go_enter Tryz.func109,Tryz.ntmps109
    go_wp2
    go_ret2
    exact ⟨rfl,rfl⟩
end
section
variable {w0 w:World} {R:List Pr} {s o T:Nat} {C:Array Value} {v:Value} {n:Nat} {xs:List Value}
theorem zQf (H:Hd w0 (Slc 137 1 v n xs::R) w) (hn:n≤1000000) (h1:∀u∈xs,u.oneCell'=true) :
    Calls Tryz.prog 133 #[v] w fun e w'=>∃g,e=.returned (.slice (some ⟨g,0,none⟩) n n) ∧
      Hd w0 (SlcC 137 1 g n n xs::Slc 137 1 v n xs::R) w':=by
  obtain ⟨i0,hi,hz0,hz1,hz2⟩:=info_parts zQd
  obtain ⟨a,cap,rfl,hcap,hcm,hl,hc⟩:=H.slc_form
  go_enter Tryz.func133,Tryz.ntmps133
  go_wp2_with (first | (at_make;refine qQn rfl _ _ 141 rfl 137 i0 _ 1 Tryz.underlying141 hi hz0 hz1 rfl _ _ _ _ 0 n rfl rfl rfl rfl (by omega) (by rw [hz2];omega) (by unfold maxLen;omega) H ?_;intro w1 H1;rw [qQw] at H1;obtain ⟨hs1,hs2⟩:=H1.b2.slc_news) | (at_builtin;refine qQl rfl _ _ 141 rfl 137 i0 1 Tryz.underlying141 hi hz1 _ 0 n [] rfl H1 _ n _ xs rfl hl hs1 hs2 h1 (by omega) ?_;intro w2 H2;rw [Nat.zero_add]))
  go_ret
  exact ⟨_,rfl,by simpa using H2⟩
end
end
section
open Go.RowKit Spl
def Pat.cells (p:Pat):Array Value:=#[.int .i64 p.period,.int .i64 p.gap,.int .i64 p.due,.int .i64 p.last,.bool p.has]
def patB (b:Nat) (p:Pat):Pr:=cel b 140 p.cells
def qQE (c:Nat) (m:Clk):Pr:=ex fun va:Value × List Nat=>all [fact (va.2.length=m.l.length),cel c 145 #[.int .i64 m.now,va.1],Slc 137 1 va.1 m.l.length (va.2.map pp),all (List.zipWith patB va.2 m.l)]
section
variable {w0 w:World} {R:List Pr} {c:Nat} {m:Clk}
theorem qQE.opened (H:Hd w0 (qQE c m::R) w):∃v bs,bs.length=m.l.length ∧
    Hd w0 (cel c 145 #[.int .i64 m.now,v]::Slc 137 1 v m.l.length (bs.map pp)::all (List.zipWith patB bs m.l)::R) w:=by
  obtain ⟨⟨v,bs⟩,H⟩:=H.out
  have H2:=H.flat
  exact ⟨v,bs,Hd.get H2,H2.tail⟩
theorem qQE.shut {v:Value} {bs:List Nat} (H:Hd w0 (cel c 145 #[.int .i64 m.now,v]::Slc 137 1 v m.l.length (bs.map pp)::all (List.zipWith patB bs m.l)::R) w) (h:bs.length=m.l.length) :
    Hd w0 (qQE c m::R) w:=Hd.into (v,bs) (Hd.pack (L:=[_,_,_,_]) (H.put h))
theorem zXa (H:Hd w0 R w):Calls Tryz.prog 60 #[] w fun e w'=>∃c,e=.returned (pp c)∧Hd w0 (qQE c ⟨0,[]⟩::R) w':=by
  go_enter Tryz.func60,Tryz.ntmps60
  go_wp2
  go_ret
  refine ⟨_,rfl,qQE.shut (v:=.slice none 0 0) (bs:=[]) ?_ rfl⟩
  exact (((H.alloc (.cells #[.int .i64 0,.slice none 0 0] 145)).all_nil).slc_nil _ 1).b3
theorem zQe (H:Hd w0 (qQE c m::R) w):Calls Tryz.prog 65 #[pp c] w fun e w'=>e=.returned (.int .i64 m.now)∧w=w':=by
  obtain ⟨v,bs,hl,H1⟩:=qQE.opened H
  have c0:=H1.rd 0
  unfold pp
  clear H H1
  go_enter Tryz.func65,Tryz.ntmps65
  go_wp2
  go_ret
  exact ⟨rfl,rfl⟩
theorem qU7 {v:Value} {bs:List Nat} {n:Int} {k:Nat} (H:Hd w0 (cel c 145 #[.int .i64 n,v]::Slc 137 1 v k (bs.map pp)::R) w) (hk:k≤1000) (i b:Nat) (hb:bs[i]? = some b) :
    Calls Tryz.prog 74 #[pp c,.int .i64 i] w fun e w'=>e=.returned (pp b)∧w=w':=by
  have hcall:=zZv (o:=1) H rfl (by omega) i b (by simp [hb])
  unfold pp at hcall ⊢
  go_enter Tryz.func74,Tryz.ntmps74
  go_wp2_with (go_at_call 109;refine hcall.mono ?_;rintro e w' ⟨rfl,rfl⟩)
  go_ret
  exact ⟨rfl,rfl⟩
theorem qW4 {v:Value} {bs:List Nat} {n:Int} {k:Nat} (H:Hd w0 (cel c 145 #[.int .i64 n,v]::Slc 137 1 v k (bs.map pp)::R) w) (i:Int) (hb:i<0∨k≤i) :
    Calls Tryz.prog 74 #[pp c,.int .i64 i] w fun e w'=>e=.returned (.pointer none)∧w=w':=by
  have hcall:=zQR (o:=1) H rfl i hb
  unfold pp
  go_enter Tryz.func74,Tryz.ntmps74
  go_wp2_with (go_at_call 109;refine hcall.mono ?_;rintro e w' ⟨rfl,rfl⟩)
  go_ret
  exact ⟨rfl,rfl⟩
end
end
section
open Go.RowKit Spl
theorem Clk.at?_cases (m:Clk) (id:Int):(m.at? id=none∧(id<0∨m.l.length≤id))∨∃(i:Nat) (p:Pat),id=i∧m.at? id=some p∧m.l[i]? = some p:=by
  unfold Clk.at?
  by_cases h:0≤id
  · rw [if_pos h]
    cases e:m.l[id.toNat]? with
    | none=>exact .inl ⟨rfl,.inr (by have:=List.getElem?_eq_none_iff.1 e;omega)⟩
    | some p=>exact .inr ⟨id.toNat,p,by omega,rfl,e⟩
  · rw [if_neg h]
    exact .inl ⟨rfl,.inl (by omega)⟩
section
variable {w0 w:World} {R:List Pr} {c:Nat} {m:Clk}
theorem qWT (H:Hd w0 (qQE c m::R) w) (hm:m.Ok) (id:Int) :
    Calls Tryz.prog 44 #[pp c,.int .i64 id] w fun e w'=>e=.returned (.int .i64 (m.ready id))∧Hd w0 (qQE c m::R) w':=by
  obtain ⟨v,bs,hl,H1⟩:=qQE.opened H
  have hlen:=hm.len
  rcases m.at?_cases id with ⟨hn,ho⟩ | ⟨i,p,rfl,hp,hi⟩
  · have hcall:=qW4 H1 id ho
    have hr:m.ready id=1:=by simp [Clk.ready,hn]
    unfold pp at hcall ⊢
    rw [hr]
    clear hr hn ho hl hm hlen
    go_enter Tryz.func44,Tryz.ntmps44
    go_wp2_with (go_at_call 74;refine hcall.mono ?_;rintro e w' ⟨rfl,rfl⟩)
    go_ret
    exact ⟨rfl,H⟩
  · obtain ⟨b,hb⟩:∃b,bs[i]? = some b:=⟨bs[i]'(by have:=qQa hi;omega),List.getElem?_eq_getElem _⟩
    have hcall:=qU7 H1 (by omega) i b hb
    have hr:m.ready i=Clk.readyP m.now p:=by simp [Clk.ready,hp]
    have hok:=hm.pat p (Clk.at?_mem hp)
    have H2:=(H1.b3.row_nth hb hi)
    have c0:=H1.rd 0
    have cp:∀k,w.cell? ⟨b,k,none⟩=p.cells[k]?:=H2.rd
    simp only [Pat.cells] at cp
    have n0:=hm.n0;have n1:=hm.n1;have l0:=hok.l0;have l1:=hok.l1;have p0:=hok.p0
    rw [hr]
    unfold pp at hcall ⊢
    clear hr hp hi hl hm hlen hb H2 H1 hok
    by_cases h1:0<p.period
    · have e:Clk.readyP m.now p=40:=by simp [Clk.readyP,h1]
      rw [e];clear e
      go_enter Tryz.func44,Tryz.ntmps44
      go_wp2_with (go_at_call 74;refine hcall.mono ?_;rintro e w' ⟨rfl,rfl⟩)
      go_ret
      exact ⟨rfl,H⟩
    · cases hh:p.has with
      | false =>
        have e:Clk.readyP m.now p=0:=by simp [Clk.readyP,h1,hh]
        rw [e];clear e
        rw [hh] at cp
        go_enter Tryz.func44,Tryz.ntmps44
        go_wp2_with (first | (go_at_call 74;refine hcall.mono ?_;rintro e w' ⟨rfl,rfl⟩) | go_quiet (fail))
        go_ret
        exact ⟨rfl,H.drewN _⟩
      | true =>
        rw [hh] at cp
        by_cases h2:m.now-p.last<p.gap
        · have e:Clk.readyP m.now p=41:=by simp [Clk.readyP,h1,hh,h2]
          rw [e];clear e
          have hd:decide (m.now-p.last<p.gap)=true:=by simpa using h2
          go_enter Tryz.func44,Tryz.ntmps44
          go_wp2_with (first | (go_at_call 74;refine hcall.mono ?_;rintro e w' ⟨rfl,rfl⟩) | go_quiet (fail))
          go_ret
          exact ⟨rfl,H.drewN _⟩
        · have e:Clk.readyP m.now p=0:=by simp [Clk.readyP,h1,hh,h2]
          rw [e];clear e
          have hd:decide (m.now-p.last<p.gap)=false:=by simpa using h2
          go_enter Tryz.func44,Tryz.ntmps44
          go_wp2_with (first | (go_at_call 74;refine hcall.mono ?_;rintro e w' ⟨rfl,rfl⟩) | go_quiet (fail))
          go_ret
          exact ⟨rfl,H.drewN _⟩
theorem zZf (H:Hd w0 (qQE c m::R) w) (hm:m.Ok) (id:Int) :
    Calls Tryz.prog 46 #[pp c,.int .i64 id] w fun e w'=>e=.returned (.int .i64 (m.noteE id))∧Hd w0 (qQE c (m.note id)::R) w':=by
  obtain ⟨v,bs,hl,H1⟩:=qQE.opened H
  have hlen:=hm.len
  rcases m.at?_cases id with ⟨hn,ho⟩ | ⟨i,p,rfl,hp,hi⟩
  · have hcall:=qW4 H1 id ho
    have hr:m.noteE id=1:=by simp [Clk.noteE,hn]
    have hr2:m.note id=m:=by simp [Clk.note,hn]
    unfold pp at hcall ⊢
    rw [hr,hr2]
    clear hr hr2 hn ho hl hm hlen
    go_enter Tryz.func46,Tryz.ntmps46
    go_wp2_with (go_at_call 74;refine hcall.mono ?_;rintro e w' ⟨rfl,rfl⟩)
    go_ret
    exact ⟨rfl,H⟩
  · obtain ⟨b,hb⟩:∃b,bs[i]? = some b:=⟨bs[i]'(by have:=qQa hi;omega),List.getElem?_eq_getElem _⟩
    have hcall:=qU7 H1 (by omega) i b hb
    have hr:m.noteE i=0:=by simp [Clk.noteE,hp]
    have hr2:m.note i=⟨m.now,m.l.set i { p with last:=m.now,has:=true }⟩:=by simp [Clk.note,hp]
    have H2:=(H1.b3.row_nth hb hi)
    have c0:=H1.rd 0
    have cp:∀k,w.cell? ⟨b,k,none⟩=p.cells[k]?:=H2.rd
    simp only [Pat.cells] at cp
    have fp:∀k,w.frozen? ⟨b,k,none⟩=false:=H2.fr
    have hset:Hd w0 (qQE c (m.note i)::R) ((w.setCell ⟨b,3,none⟩ (.int .i64 m.now)).setCell ⟨b,4,none⟩ (.bool true)):=by
      rw [hr2]
      have H3:=((Hd.set (c:=p.cells) H2 3 (.int .i64 m.now)).set 4 (.bool true))
      have H4:Hd w0 (all (List.zipWith patB bs (m.l.set i { p with last:=m.now,has:=true }))::_) _:=Hd.row_back (b':={ p with last:=m.now,has:=true }) H3 hb hi
      have H5:=H4.b3.b3
      have e:(m.l.set i { p with last:=m.now,has:=true }).length=m.l.length:=by simp
      rw [← e] at H5
      exact qQE.shut (m:=⟨m.now,m.l.set i { p with last:=m.now,has:=true }⟩) H5 (by simpa using hl)
    rw [hr]
    unfold pp at hcall ⊢
    clear hr hr2 hp hi hl hm hlen hb H2 H1
    go_enter Tryz.func46,Tryz.ntmps46
    go_wp2_with (go_at_call 74;refine hcall.mono ?_;rintro e w' ⟨rfl,rfl⟩)
    go_ret
    exact ⟨rfl,hset⟩
end
end
section
open Go.RowKit Spl
def qWk (nm lv fr nd cd:Value) (p f g:Int):Value:=.agg #[nm,lv,fr,nd,cd,.int .i64 p,.int .i64 f,.int .i64 g]
def zQD (p f g:Int) (k:Nat):Prop:=k=0∨(k=1∧0≤p∧p≤1048576)∨(k=2∧0≤p∧p≤1048576∧0≤f∧f≤1048576)∨(k=3∧0≤p∧p≤1048576∧0≤f∧f≤1048576∧0≤g∧g≤1048576)
theorem qXw {p f g:Int} (h:¬((0≤p∧p≤1048576)∧(0≤f∧f≤1048576)∧(0≤g∧g≤1048576))):qQG p f g=false:=by
  cases e:qQG p f g with
  | false=>rfl
  | true=>have:=qXI.1 e;exact absurd ⟨this.1,this.2.1,this.2.2.1⟩ h
theorem qY8 {p f g:Int} (h1:0≤p) (h2:p≤1048576) (h3:0≤f) (h4:f≤1048576) (h5:0≤g) (h6:g≤1048576) :
    qQG p f g=((decide (p=0) || decide (g=0)) && (decide (0<p) == decide (0<f))):=by
  simp [qQG,tOk,h1,h2,h3,h4,h5,h6]
section
variable {w0 w:World} {R:List Pr} {c:Nat} {m:Clk}
theorem zZu (H:Hd w0 R w) (nm lv fr nd cd:Value) (p f g:Int) :
    Calls Tryz.prog 85 #[qWk nm lv fr nd cd p f g] w fun e w'=>e=.returned (.bool (qQG p f g))∧Hd w0 R w':=by
  have i0:∀w,(Instr.index 238 (.agg #[.int .i64 p,.int .i64 f,.int .i64 g]) (.int .i64 0)).run Tryz.prog w=.ok (.int .i64 p) w:=fun _=>by kernel_rfl
  have i1:∀w,(Instr.index 238 (.agg #[.int .i64 p,.int .i64 f,.int .i64 g]) (.int .i64 1)).run Tryz.prog w=.ok (.int .i64 f) w:=fun _=>by kernel_rfl
  have i2:∀w,(Instr.index 238 (.agg #[.int .i64 p,.int .i64 f,.int .i64 g]) (.int .i64 2)).run Tryz.prog w=.ok (.int .i64 g) w:=fun _=>by kernel_rfl
  unfold qWk
  go_enter Tryz.func85,Tryz.ntmps85
  go_wp2
  have HA:=H.alloc (.cells #[nm,lv,fr,nd,cd,.int .i64 p,.int .i64 f,.int .i64 g] 36)
  go_loop [12] (fun i=>∃k:Nat,i=.int .i64 k∧zQD p f g k) (fun i=>3-(intOf i).toNat)
  case atStart=>exact ⟨0,rfl,.inl rfl⟩
  case round =>
    obtain ⟨k,rfl,hk⟩:=hrel
    rcases hk with rfl | ⟨rfl,h1,h2⟩ | ⟨rfl,h1,h2,h3,h4⟩ | ⟨rfl,h1,h2,h3,h4,h5,h6⟩
    · go_wp2
      all_goals first
        | (go_round
           case rel=>exact ⟨1,rfl,.inr (.inl ⟨rfl,by omega,by omega⟩)⟩
           case measure=>simp [intOf])
        | (go_ret;exact ⟨by rw [qXw (by omega)];rfl,HA.tail⟩)
    · go_wp2
      all_goals first
        | (go_round
           case rel=>exact ⟨2,rfl,.inr (.inr (.inl ⟨rfl,h1,h2,by omega,by omega⟩))⟩
           case measure=>simp [intOf])
        | (go_ret;exact ⟨by rw [qXw (by omega)];rfl,HA.tail⟩)
    · go_wp2
      all_goals first
        | (go_round
           case rel=>exact ⟨3,rfl,.inr (.inr (.inr ⟨rfl,h1,h2,h3,h4,by omega,by omega⟩))⟩
           case measure=>simp [intOf])
        | (go_ret;exact ⟨by rw [qXw (by omega)];rfl,HA.tail⟩)
    · have hV:=qY8 h1 h2 h3 h4 h5 h6
      by_cases e1:p=0
      · subst e1
        by_cases e3:0<f
        · have hv:qQG 0 f g=false:=by rw [hV];simp [e3]
          clear hV
          go_wp2
          go_ret
          exact ⟨by first | rfl | (rw [hv];rfl),HA.tail⟩
        · have hv:qQG 0 f g=true:=by rw [hV];simp [e3]
          clear hV
          go_wp2
          go_ret
          exact ⟨by first | rfl | (rw [hv];rfl),HA.tail⟩
      · have e1':(p == 0)=false:=by simpa using e1
        have e2':0<p:=by omega
        by_cases e3:g=0
        · subst e3
          by_cases e4:0<f
          · have hv:qQG p f 0=true:=by rw [hV];simp [e4,e2']
            clear hV
            go_wp2
            go_ret
            exact ⟨by first | rfl | (rw [hv];rfl),HA.tail⟩
          · have hv:qQG p f 0=false:=by rw [hV];simp [e4,e2']
            clear hV
            go_wp2
            go_ret
            exact ⟨by first | rfl | (rw [hv];rfl),HA.tail⟩
        · have e3':(g == 0)=false:=by simpa using e3
          have hv:qQG p f g=false:=by rw [hV];simp [e1,e3]
          clear hV
          go_wp2
          go_ret
          exact ⟨by first | rfl | (rw [hv];rfl),HA.tail⟩
theorem zXl (H:Hd w0 (qQE c m::R) w) (hm:m.Ok) (nm:ByteArray) (lv fr:Int) (na:Option Addr) (nl nc:Nat) (cd:ByteArray) (p f g:Int) :
    Calls Tryz.prog 53 #[pp c,qWk (.string nm) (.int .i64 lv) (.int .i64 fr) (.slice na nl nc) (.string cd) p f g] w fun e w' =>
      e=.returned (.tuple #[.int .i64 (m.addN p f g),.int .i64 (m.addE p f g)])∧Hd w0 (qQE c (m.add p f g)::R) w':=by
  obtain ⟨v,bs,hl,H1⟩:=qQE.opened H
  have hlen:=hm.len
  have HB:=(H1.alloc (.cells #[.string nm,.int .i64 lv,.int .i64 fr,.slice na nl nc,.string cd,.int .i64 p,.int .i64 f,.int .i64 g] 36)).b2
  have hcall:=zZ8 (o:=1) (HB.d2.d2.b3.b2) rfl
  unfold pp
  by_cases hf:m.full=true
  · have h1:m.addN p f g = -1:=by simp [Clk.addN,hf]
    have h2:m.addE p f g=4:=by simp [Clk.addE,hf]
    have h3:m.add p f g=m:=by simp [Clk.add,hf]
    have h64:64≤m.l.length:=by simpa [Clk.full] using hf
    rw [h1,h2,h3]
    clear h1 h2 h3 hf
    unfold qWk
    go_enter Tryz.func53,Tryz.ntmps53
    go_wp2_with (go_at_call 84;refine hcall.mono ?_;rintro e w' ⟨rfl,rfl⟩)
    go_ret2
    exact ⟨rfl,qQE.shut HB.b2.tail hl⟩
  · have HC:Hd w0 (cel c 145 #[.int .i64 m.now,v]::Slc 137 1 v m.l.length (bs.map pp)::pt w.heap.size _::_) _:=HB.b3.b2
    have htimes:=zZu HC (.string nm) (.int .i64 lv) (.int .i64 fr) (.slice na nl nc) (.string cd) p f g
    have h64:m.l.length<64:=by simpa [Clk.full] using hf
    cases ht:qQG p f g with
    | false =>
      have h1:m.addN p f g = -1:=by simp [Clk.addN,hf,ht]
      have h2:m.addE p f g=1:=by simp [Clk.addE,hf,ht]
      have h3:m.add p f g=m:=by simp [Clk.add,hf,ht]
      rw [h1,h2,h3]
      rw [ht] at htimes
      clear h1 h2 h3 hf ht
      unfold qWk at htimes ⊢
      go_enter Tryz.func53,Tryz.ntmps53
      go_wp2_with (first | (go_at_call 84;refine hcall.mono ?_;rintro e w' ⟨rfl,rfl⟩) | (go_at_call 85;refine htimes.mono ?_;rintro e w1 ⟨rfl,H3⟩))
      go_ret2
      exact ⟨rfl,qQE.shut H3.b3.tail hl⟩
    | true =>
      have h1:m.addN p f g=m.l.length:=by simp [Clk.addN,hf,ht]
      have h2:m.addE p f g=0:=by simp [Clk.addE,hf,ht]
      have h3:m.add p f g=⟨m.now,m.l++[⟨p,g,m.now+f,0,false⟩]⟩:=by simp [Clk.add,hf,ht]
      obtain ⟨t1,t2,t3,t4,t5⟩:=qXI.1 ht
      have n0:=hm.n0;have n1:=hm.n1
      rw [h1,h2,h3]
      rw [ht] at htimes
      clear h1 h2 h3 hf ht
      unfold qWk at htimes ⊢
      go_enter Tryz.func53,Tryz.ntmps53
      go_wp2_with (first | (go_at_call 84;refine hcall.mono ?_;rintro e w' ⟨rfl,rfl⟩;clear hcall) | (go_at_call 85;refine htimes.mono ?_;rintro e w1 ⟨rfl,H3⟩;clear htimes;have c1:=H3.rd 0;have c2:=H3.b3.rd))
      have HP:=((H3.alloc (.cells #[.int .i64 p,.int .i64 g,.int .i64 (m.now+f),.int .i64 0,.bool false] 140)).drew).d3
      have hs:IntKind.i64.wrap (m.now+f)=m.now+f:=IntWalk.i64_in _ (by omega)
      go_region_held3 (fun w'=>w'.cell? ⟨c,0,none⟩=some (.int .i64 m.now)∧w'.cell? ⟨w.heap.size,5,none⟩=some (.int .i64 p)∧w'.cell? ⟨w.heap.size,6,none⟩=some (.int .i64 f)∧w'.cell? ⟨w.heap.size,7,none⟩=some (.int .i64 g)) (go_keep)
        (first | (go_at_call 86;refine (zJB (o:=1) HP rfl (by omega) _).mono ?_;rintro e w2 ⟨rfl,v',H4⟩;have c3:=H4.rd 0;have c4:=H4.b4.rd))
      clear hs HP
      have hcall2:=zZ8 (o:=1) H4 rfl
      go_wp2_with (go_at_call 84;refine hcall2.mono ?_;rintro e w' ⟨rfl,rfl⟩)
      go_ret2
      refine ⟨by simp,?_⟩
      have H5:Hd w0 (patB w1.heap.size ⟨p,g,m.now+f,0,false⟩::all (List.zipWith patB bs m.l)::_) _:=H4.b4.tail.b4.b4
      have H6:=(H5.row_snoc hl).d3
      have e1:(m.l++[(⟨p,g,m.now+f,0,false⟩:Pat)]).length=m.l.length+1:=by simp
      have e2:bs.map pp++[pp w1.heap.size]=(bs++[w1.heap.size]).map pp:=by simp
      rw [e2,← e1] at H6
      exact qQE.shut (m:=⟨m.now,m.l++[⟨p,g,m.now+f,0,false⟩]⟩) H6 (by simp [hl])
end
end
section
open Go.RowKit Spl
section
variable {w0 w:World} {R:List Pr} {c:Nat} {m:Clk}
theorem zJU {s o T:Nat} {C:Array Value} {v:Value} {n:Nat} {xs:List Value} (H:Hd w0 (cel s T C::Slc 137 1 v n xs::R) w) (hC:C[o]? = some v) (hn:n≤1000000) (h1:∀u∈xs,u.oneCell'=true) :
    Calls Tryz.prog 101 #[.pointer (some ⟨s,o,none⟩)] w fun e w'=>∃g,e=.returned (.slice (some ⟨g,0,none⟩) n n) ∧
      Hd w0 (SlcC 137 1 g n n xs::cel s T C::Slc 137 1 v n xs::R) w':=by
  have c0:w.cell? ⟨s,o,none⟩=some v:=(H.rd o).trans hC
  have hcall:=zQf H.b2 hn h1
  obtain ⟨a,cap,rfl,_,_,_,_⟩:=H.b2.slc_form
  go_enter Tryz.func101,Tryz.ntmps101
  go_wp2_with (go_at_call 133;refine hcall.mono ?_;rintro e w' ⟨g,rfl,H2⟩)
  go_ret
  exact ⟨g,rfl,H2.b3.b2⟩
theorem zXq (bs:List Nat):∀u∈bs.map pp,u.oneCell'=true:=by
  intro u hu
  obtain ⟨b,_,rfl⟩:=List.mem_map.1 hu
  rfl
def qUg (w0:World) (R:List Pr) (c g:Nat) (v:Value) (m:Clk) (bs:List Nat) (k:Nat) (x:Value) (wr:World):Prop :=
  Hd w0 (SlcC 137 1 g m.l.length m.l.length (bs.map pp)::cel c 145 #[.int .i64 (m.now+1),v]::Slc 137 1 v m.l.length (bs.map pp) ::
    Slc 3 1 x (qXF (m.now+1) m.l k).length ((qXF (m.now+1) m.l k).map (Value.int .i64))::all (List.zipWith patB bs (qJu (m.now+1) m.l k))::R) wr
theorem zJu (H:Hd w0 (qQE c m::R) w) (hm:m.Ok) :
    Calls Tryz.prog 66 #[pp c] w fun e w'=>∃a,e=.returned (.tuple #[.slice a m.tickL.length m.tickL.length,.int .i64 m.tickE]) ∧
      Hd w0 (Slc 3 1 (.slice a m.tickL.length m.tickL.length) m.tickL.length (m.tickL.map (Value.int .i64))::qQE c m.tick::R) w':=by
  obtain ⟨v,bs,hl,H1⟩:=qQE.opened H
  have hlen:=hm.len
  have n0:=hm.n0
  have c0:=H1.rd 0
  have f0:=H1.fr 0
  unfold pp
  by_cases he:1099511627776≤m.now
  · have h1:m.tickL = []:=by simp [Clk.tickL,Clk.atEnd,he]
    have h2:m.tickE=1:=by simp [Clk.tickE,Clk.atEnd,he]
    have h3:m.tick=m:=by simp [Clk.tick,Clk.atEnd,he]
    rw [h1,h2,h3]
    clear h1 h2 h3 H1
    go_enter Tryz.func66,Tryz.ntmps66
    go_wp2
    go_ret2
    exact ⟨none,rfl,H.slc_nil _ _⟩
  · have h1:m.tickL=qZc (m.now+1) 0 m.l:=by simp [Clk.tickL,Clk.atEnd,he]
    have h2:m.tickE=0:=by simp [Clk.tickE,Clk.atEnd,he]
    have h3:m.tick=⟨m.now+1,m.l.map (Pat.tick (m.now+1))⟩:=by simp [Clk.tick,Clk.atEnd,he]
    rw [h1,h2,h3]
    clear h1 h2 h3
    have HS:Hd w0 (cel c 145 #[.int .i64 (m.now+1),v]::Slc 137 1 v m.l.length (bs.map pp)::_) _:=H1.set 0 (.int .i64 (m.now+1))
    have hcall:=zJU (o:=1) HS rfl (by omega) (zXq bs)
    clear H H1
    go_enter Tryz.func66,Tryz.ntmps66
    go_wp2_with (go_at_call 101;refine hcall.mono ?_;rintro e w1 ⟨g,rfl,H2⟩;clear hcall HS)
    go_loopw [4,24] (fun x i wr=>∃k:Nat,k≤m.l.length∧i=.int .i64 k∧qUg w0 R c g v m bs k x wr) (fun _ i _=>m.l.length-(intOf i).toNat)
    case atStart =>
      refine ⟨0,Nat.zero_le _,rfl,?_⟩
      unfold qUg
      rw [qqn,qV7]
      exact (H2.slc_nil 3 1).d4
    case round =>
      obtain ⟨k,hk,rfl,HI⟩:=hrel
      by_cases hlt:k<m.l.length
      · obtain ⟨p,hp⟩:∃p,m.l[k]? = some p:=⟨m.l[k],List.getElem?_eq_getElem hlt⟩
        obtain ⟨b,hb⟩:∃b,bs[k]? = some b:=⟨bs[k]'(by omega),List.getElem?_eq_getElem _⟩
        have hp2:=qVN (now:=m.now+1) hp
        have hok:=hm.pat p (List.mem_of_getElem? hp)
        have q0:=hok.p0;have q1:=hok.p1;have q2:=hok.d0;have q3:=hok.d1
        have HI':=HI
        unfold qUg at HI
        have cg:=HI.slcC_rd (j:=k) (u:=pp b) (by simp [hb])
        have cc:=HI.b2.rd 0
        have HP:=HI.b5.row_nth hb hp2
        have cp:∀j,wr.cell? ⟨b,j,none⟩=p.cells[j]?:=HP.rd
        have fp:∀j,wr.frozen? ⟨b,j,none⟩=false:=HP.fr
        simp only [Pat.cells] at cp
        unfold pp at cg
        clear hok
        by_cases h1:0<p.period
        · by_cases h2:p.due=m.now+1
          · have hd:(p.due == m.now+1)=true:=by simpa using h2
            have hdue:p.isDue (m.now+1)=true:=by simp [Pat.isDue,h1,h2]
            have hs:IntKind.i64.wrap (p.due+p.period)=p.due+p.period:=IntWalk.i64_in _ (by omega)
            have hidl:=qVS (m.now+1) m.l k
            have HQ:Hd w0 (patB b { p with due:=p.due+p.period }::_) _:=HP.set 2 (.int .i64 (p.due+p.period))
            have HQ2:=(HQ.row_back (b':={ p with due:=p.due+p.period }) hb hp2).b5
            have et:p.tick (m.now+1) = { p with due:=p.due+p.period }:=by simp [Pat.tick,hdue]
            rw [← et,← qK4 hp] at HQ2
            obtain ⟨i0,hi,hz0,hz1,hz2⟩:=info_parts zJr
            clear HI HQ HP et h2 HI'
            go_wp2_with (first | go_quiet (fail) | (refine wp_region_still_tail 11 (by kernel_rfl) (by kernel_rfl) ?_;simp only [List.take_succ_cons,List.take_zero,List.drop_succ_cons,List.drop_zero,World.drew_eq];(repeat still_step);refine wpStill_nil ?_) | (at_builtin;(refine qQb rfl _ _ 22 rfl 3 i0 _ 1 8 Tryz.underlying22 hi hz0 hz1 hz2 rfl _ _ _ rfl (((HQ2.alloc _).drewN _).b2) ⟨_,0,none⟩ 1 1 [.int .i64 k] rfl rfl (qWH (by simp)) (by simp [Value.oneCell']) (by unfold maxLen;omega) (by omega) ?_);intro v' w2 H3))
            go_roundw
            case rel =>
              refine ⟨k+1,by omega,by go_num,?_⟩
              unfold qUg
              rw [zQW hp hdue,List.map_append,List.length_append]
              exact H3.b2.tail.d5.d5
            case measure=>simp [intOf];omega
          · have hd:(p.due == m.now+1)=false:=by simpa using h2
            have hnd:p.isDue (m.now+1)=false:=by simp [Pat.isDue,h2]
            go_wp2_with (go_quiet (fail))
            go_roundw
            case rel =>
              refine ⟨k+1,by omega,by go_num,?_⟩
              unfold qUg at HI' ⊢
              rw [qVF hp hnd,qKS hp hnd]
              exact HI'.drewN _
            case measure=>simp [intOf];omega
        · have hnd:p.isDue (m.now+1)=false:=by simp [Pat.isDue,h1]
          go_wp2_with (go_quiet (fail))
          go_roundw
          case rel =>
            refine ⟨k+1,by omega,by go_num,?_⟩
            unfold qUg at HI' ⊢
            rw [qVF hp hnd,qKS hp hnd]
            exact HI'.drewN _
          case measure=>simp [intOf];omega
      · obtain rfl:k=m.l.length:=by omega
        unfold qUg at HI
        rw [zQZ,qqf] at HI
        have fin:∀ {a:Option Addr} {wf:World},Hd w0 (Slc 3 1 (.slice a (qZc (m.now+1) 0 m.l).length (qZc (m.now+1) 0 m.l).length) (qZc (m.now+1) 0 m.l).length ((qZc (m.now+1) 0 m.l).map (Value.int .i64)) ::
            SlcC 137 1 g m.l.length m.l.length (bs.map pp)::cel c 145 #[.int .i64 (m.now+1),v]::Slc 137 1 v m.l.length (bs.map pp)::all (List.zipWith patB bs (m.l.map (Pat.tick (m.now+1))))::R) wf →
            Hd w0 (Slc 3 1 (.slice a (qZc (m.now+1) 0 m.l).length (qZc (m.now+1) 0 m.l).length) (qZc (m.now+1) 0 m.l).length ((qZc (m.now+1) 0 m.l).map (Value.int .i64))::qQE c ⟨m.now+1,m.l.map (Pat.tick (m.now+1))⟩::R) wf:=by
          intro a wf h
          have h2:=h.b2.tail.b4.b4.b4
          have e1:m.l.length=(m.l.map (Pat.tick (m.now+1))).length:=by simp
          rw [e1] at h2
          exact (qQE.shut (m:=⟨m.now+1,m.l.map (Pat.tick (m.now+1))⟩) h2 (by simpa using hl)).b2
        rcases HI.b4.slc with ⟨rfl,hz,hx,_⟩ | ⟨gx,cx,rfl,HX⟩
        · have hz':qZc (m.now+1) 0 m.l = []:=List.eq_nil_of_length_eq_zero hz
          rw [hz'] at fin HI
          have F:=fin (a:=none) HI.b4
          clear fin HI
          go_wp2
          go_ret2
          rw [hz']
          exact ⟨none,rfl,F⟩
        · have hcx:=HX.slcC.2.1
          have HY:=(HX.slcC_cut (Nat.le_refl _) (Nat.le_refl _) hcx)
          rw [Nat.mul_one,List.take_of_length_le (by simp)] at HY
          have HZ:=fin HY.slc_mk
          clear fin HY HX HI
          go_wp2
          go_ret2
          exact ⟨_,rfl,HZ⟩
end
end
end Go.Proofs.YtkchopnkdjnocaaGreatDoor
