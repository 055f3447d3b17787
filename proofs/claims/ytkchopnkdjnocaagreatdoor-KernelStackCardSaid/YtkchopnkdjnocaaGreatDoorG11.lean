/-
  Merged texts of one proof: StkLock.
-/
import Derived.BigQuiet
import Derived.Deep.QuietTactic
import Derived.Deep.RegionLaw
import Derived.IntWalk
import Derived.StillTailTactics
import Derived.Test.YtkchopnkdjnocaaGreatDoorG01
import Derived.Test.YtkchopnkdjnocaaGreatDoorRows

set_option maxHeartbeats 16000000
set_option maxRecDepth 20000
namespace Go.Proofs.YtkchopnkdjnocaaGreatDoor
section
open Go.RowKit Spl
theorem qW0:(Tryz.prog.info? 320).map (fun i=>(i.zero,i.size,i.bytes))=some (some (.agg #[.int .i64 0,.int .i64 0]),2,16):=by kernel_rfl
section
variable {w0 w:World} {R:List Pr} {s o T:Nat} {C:Array Value} {v:Value} {l:List qZQ}
theorem qXG (H:Hd w0 (cel s T C::SlE 320 v l::R) w) (hC:C[o]? = some v) :
    Calls Tryz.prog 204 #[.pointer (some ⟨s,o,none⟩)] w fun e w'=>e=.returned (.int .i64 l.length)∧w=w':=by
  have c0:w.cell? ⟨s,o,none⟩=some v:=(H.rd o).trans hC
  obtain ⟨a,cap,rfl,_,_,_,_⟩:=H.b2.slc_form
  clear H hC
  go_enter Tryz.func204,Tryz.ntmps204
  go_wp2
  go_ret
  exact ⟨rfl,rfl⟩
theorem qKq (H:Hd w0 (cel s T C::SlE 320 v l::R) w) (hC:C[o]? = some v) (hn:l.length≤100000) (x:qZQ) :
    Calls Tryz.prog 197 #[.pointer (some ⟨s,o,none⟩),.agg #[.int .i64 x.res,.int .i64 x.units]] w fun e w' =>
      e=.returned (.tuple #[])∧∃v',Hd w0 (cel s T (C.setIfInBounds o v')::SlE 320 v' (l++[x])::R) w':=by
  obtain ⟨i0,hi,hz0,hz1,hz2⟩:=info_parts qW0
  obtain ⟨a,cap,rfl,_,_,_,_⟩:=H.b2.slc_form
  have HB:=H.alloc (.cells #[.int .i64 x.res,.int .i64 x.units] 320)
  have c0:=HB.b2.rd o
  rw [hC] at c0
  have HP0:Hd w0 _ (((w.alloc (.cells #[.int .i64 x.res,.int .i64 x.units] 320)).alloc (.cells #[.int .i64 x.res,.int .i64 x.units] 320)).drew):=H.fol
  have HP:=HP0.b4
  have g0:=HP.b4.rd o
  have k0:=HP.b4.fr o
  rw [hC] at g0
  have hnews:=qQA HP.b2
  have hS:∀ {v':Value} {L:List Pr} {w:World},Hd w0 (Slc 320 2 v' (l.length+1) (flat l++[.int .i64 x.res,.int .i64 x.units])::L) w→Hd w0 (SlE 320 v' (l++[x])::L) w:=by
    intro v' L w h
    have e1:(l++[x]).length=l.length+1:=by simp
    have e2:flat (l++[x])=flat l++[.int .i64 x.res,.int .i64 x.units]:=by rw [qQc,qQK];rfl
    unfold SlE
    rw [e1,e2]
    exact h
  clear H
  go_enter Tryz.func197,Tryz.ntmps197
  go_wp2_with fail
  go_region_law (first | ((refine qZA rfl _ _ 176 rfl 320 i0 _ 2 16 Tryz.underlying176 hi hz0 hz1 hz2 rfl _ _ _ rfl HP ⟨_,0,none⟩ 1 1 _ rfl rfl hnews (Enc.one x) (by unfold maxLen;omega) (by omega) ?_);intro v' w2 H4;obtain ⟨a',cap',rfl,_,_,_,_⟩:=H4.slc_form;have d1:=H4.b4.rd o;have f6:=H4.b4.fr o;rw [hC] at d1))
  all_goals
    have HF:=hS ((H4.b4.set o (.slice a' (l.length+1) cap')).b2)
    go_wp2_with fail
    go_end0
    exact ⟨rfl,.slice a' (l.length+1) cap',HF.re⟩
theorem qqX (H:Hd w0 (cel s T C::SlE 320 v l::R) w) (hC:C[o]? = some v) (hn:l.length≤100000) (i:Nat) (x:qZQ) (hx:l[i]? = some x) :
    Calls Tryz.prog 210 #[.pointer (some ⟨s,o,none⟩),.int .i64 i] w fun e w'=>e=.returned (.tuple #[.agg #[.int .i64 x.res,.int .i64 x.units],.bool true])∧Hd w0 (cel s T C::SlE 320 v l::R) w':=by
  have HA:Hd w0 _ (w.alloc (.cells #[.int .i64 0,.int .i64 0] 320)):=H.fol
  have hi:=qQa hx
  obtain ⟨g,cap,rfl,H2⟩:=HA.b3.slc_at (by omega)
  have c0:=HA.b2.rd o
  rw [hC] at c0
  have c1:(w.alloc (.cells #[.int .i64 0,.int .i64 0] 320)).cell? ⟨g,i*2,none⟩=some (.int .i64 x.res):=H2.slcC_rd (qQi hx (j:=0) (u:=.int .i64 x.res) rfl)
  have c2:(w.alloc (.cells #[.int .i64 0,.int .i64 0] 320)).cell? ⟨g,i*2+1,none⟩=some (.int .i64 x.units):=H2.slcC_rd (qQi hx (j:=1) (u:=.int .i64 x.units) rfl)
  have HB:=(H.alloc (.cells #[.int .i64 x.res,.int .i64 x.units] 320)).tail
  clear H2 hx hC H HA
  go_enter Tryz.func210,Tryz.ntmps210
  go_wp2
  (try simp only [Exit.inBlock,Exit.then])
  refine bodyPost_ret (v:=.tuple #[.agg #[.int .i64 x.res,.int .i64 x.units],.bool true]) (by simp [results,Tryz.results210,go_sem]) rfl ⟨rfl,HB⟩
theorem zJd (H:Hd w0 (cel s T C::SlE 320 v l::R) w) (hC:C[o]? = some v) (i:Int) (h:i<0∨l.length≤i) :
    Calls Tryz.prog 210 #[.pointer (some ⟨s,o,none⟩),.int .i64 i] w fun e w'=>e=.returned (.tuple #[.agg #[.int .i64 0,.int .i64 0],.bool false])∧Hd w0 (cel s T C::SlE 320 v l::R) w':=by
  have HA:=((H.alloc (.cells #[.int .i64 0,.int .i64 0] 320)).alloc (.cells #[.int .i64 0,.int .i64 0] 320)).tail.tail
  have c0:=(H.alloc (.cells #[.int .i64 0,.int .i64 0] 320)).b2.rd o
  rw [hC] at c0
  obtain ⟨a,cap,rfl,_,_,_,_⟩:=H.b2.slc_form
  clear H hC
  rcases h with h | h
  · go_enter Tryz.func210,Tryz.ntmps210
    go_wp2
    (try simp only [Exit.inBlock,Exit.then])
    refine bodyPost_ret (v:=.tuple #[.agg #[.int .i64 0,.int .i64 0],.bool false]) (by simp [results,Tryz.results210,go_sem]) rfl ⟨rfl,HA⟩
  · have h0:¬i<0:=by omega
    go_enter Tryz.func210,Tryz.ntmps210
    go_wp2
    (try simp only [Exit.inBlock,Exit.then])
    refine bodyPost_ret (v:=.tuple #[.agg #[.int .i64 0,.int .i64 0],.bool false]) (by simp [results,Tryz.results210,go_sem]) rfl ⟨rfl,HA⟩
end
end
end Go.Proofs.YtkchopnkdjnocaaGreatDoor
