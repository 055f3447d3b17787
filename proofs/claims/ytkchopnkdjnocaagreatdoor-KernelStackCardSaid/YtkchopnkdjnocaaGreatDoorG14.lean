/-
  Merged texts of one proof: StkRow.
-/
import Derived.BigQuiet
import Derived.Deep.QuietTactic
import Derived.Deep.RegionLaw
import Derived.IntWalk
import Derived.StillTailTactics
import Derived.Test.YtkchopnkdjnocaaGreatDoorG01
import Derived.Test.YtkchopnkdjnocaaGreatDoorRows

set_option maxHeartbeats 16000000
set_option maxRecDepth 20000
namespace Go.Proofs.YtkchopnkdjnocaaGreatDoor
section
open Go.RowKit Spl
theorem qV6:(Tryz.prog.info? 80).map (fun i=>(i.zero,i.size,i.bytes))=some (some (.agg #[.string ⟨#[]⟩,.int .i64 0,.int .i64 0,.slice none 0 0,.string ⟨#[]⟩,.int .i64 0,.int .i64 0,.int .i64 0,.slice none 0 0]),9,120):=by kernel_rfl
section
variable {w0 w:World} {R:List Pr} {s o T:Nat} {C:Array Value} {v:Value} {l:List RowV}
theorem qXq (H:Hd w0 (cel s T C::SlE 80 v l::R) w) (hC:C[o]? = some v) :
    Calls Tryz.prog 32 #[.pointer (some ⟨s,o,none⟩)] w fun e w'=>e=.returned (.int .i64 l.length)∧w=w':=by
  have c0:w.cell? ⟨s,o,none⟩=some v:=(H.rd o).trans hC
  obtain ⟨a,cap,rfl,_,_,_,_⟩:=H.b2.slc_form
  clear H hC
  go_enter Tryz.func32,Tryz.ntmps32
  go_wp2
  go_ret
  exact ⟨rfl,rfl⟩
theorem qYt (H:Hd w0 (cel s T C::SlE 80 v l::R) w) (hC:C[o]? = some v) (hn:l.length≤100000) (x:RowV) :
    Calls Tryz.prog 62 #[.pointer (some ⟨s,o,none⟩),.agg #[.string x.nm,.int .i64 x.lv,.int .i64 x.fr,.slice x.na x.nl x.nc,.string x.cd,.int .i64 x.p,.int .i64 x.f,.int .i64 x.g,.slice x.sa x.sl x.sc]] w fun e w' =>
      e=.returned (.tuple #[])∧∃v',Hd w0 (cel s T (C.setIfInBounds o v')::SlE 80 v' (l++[x])::R) w':=by
  obtain ⟨i0,hi,hz0,hz1,hz2⟩:=info_parts qV6
  obtain ⟨a,cap,rfl,_,_,_,_⟩:=H.b2.slc_form
  have HB:=H.alloc (.cells #[.string x.nm,.int .i64 x.lv,.int .i64 x.fr,.slice x.na x.nl x.nc,.string x.cd,.int .i64 x.p,.int .i64 x.f,.int .i64 x.g,.slice x.sa x.sl x.sc] 80)
  have c0:=HB.b2.rd o
  rw [hC] at c0
  have HP0:Hd w0 _ (((w.alloc (.cells #[.string x.nm,.int .i64 x.lv,.int .i64 x.fr,.slice x.na x.nl x.nc,.string x.cd,.int .i64 x.p,.int .i64 x.f,.int .i64 x.g,.slice x.sa x.sl x.sc] 80)).alloc (.cells #[.string x.nm,.int .i64 x.lv,.int .i64 x.fr,.slice x.na x.nl x.nc,.string x.cd,.int .i64 x.p,.int .i64 x.f,.int .i64 x.g,.slice x.sa x.sl x.sc] 80)).drew):=H.fol
  have HP:=HP0.b4
  have g0:=HP.b4.rd o
  have k0:=HP.b4.fr o
  rw [hC] at g0
  have hnews:=qQA HP.b2
  have hS:∀ {v':Value} {L:List Pr} {w:World},Hd w0 (Slc 80 9 v' (l.length+1) (flat l++[.string x.nm,.int .i64 x.lv,.int .i64 x.fr,.slice x.na x.nl x.nc,.string x.cd,.int .i64 x.p,.int .i64 x.f,.int .i64 x.g,.slice x.sa x.sl x.sc])::L) w→Hd w0 (SlE 80 v' (l++[x])::L) w:=by
    intro v' L w h
    have e1:(l++[x]).length=l.length+1:=by simp
    have e2:flat (l++[x])=flat l++[.string x.nm,.int .i64 x.lv,.int .i64 x.fr,.slice x.na x.nl x.nc,.string x.cd,.int .i64 x.p,.int .i64 x.f,.int .i64 x.g,.slice x.sa x.sl x.sc]:=by rw [qQc,qQK];rfl
    unfold SlE
    rw [e1,e2]
    exact h
  clear H
  go_enter Tryz.func62,Tryz.ntmps62
  go_wp2_with fail
  go_region_law (first | ((refine qZA rfl _ _ 70 rfl 80 i0 _ 9 120 Tryz.underlying70 hi hz0 hz1 hz2 rfl _ _ _ rfl HP ⟨_,0,none⟩ 1 1 _ rfl rfl hnews (Enc.one x) (by unfold maxLen;omega) (by omega) ?_);intro v' w2 H4;obtain ⟨a',cap',rfl,_,_,_,_⟩:=H4.slc_form;have d1:=H4.b4.rd o;have f6:=H4.b4.fr o;rw [hC] at d1))
  all_goals
    have HF:=hS ((H4.b4.set o (.slice a' (l.length+1) cap')).b2)
    go_wp2_with fail
    go_end0
    exact ⟨rfl,.slice a' (l.length+1) cap',HF.re⟩
theorem qJ4 (H:Hd w0 (cel s T C::SlE 80 v l::R) w) (hC:C[o]? = some v) (hn:l.length≤100000) (i:Nat) (x:RowV) (hx:l[i]? = some x) :
    Calls Tryz.prog 42 #[.pointer (some ⟨s,o,none⟩),.int .i64 i] w fun e w'=>e=.returned (.tuple #[.agg #[.string x.nm,.int .i64 x.lv,.int .i64 x.fr,.slice x.na x.nl x.nc,.string x.cd,.int .i64 x.p,.int .i64 x.f,.int .i64 x.g,.slice x.sa x.sl x.sc],.bool true])∧Hd w0 (cel s T C::SlE 80 v l::R) w':=by
  have HA:Hd w0 _ (w.alloc (.cells #[.string ⟨#[]⟩,.int .i64 0,.int .i64 0,.slice none 0 0,.string ⟨#[]⟩,.int .i64 0,.int .i64 0,.int .i64 0,.slice none 0 0] 80)):=H.fol
  have hi:=qQa hx
  obtain ⟨g,cap,rfl,H2⟩:=HA.b3.slc_at (by omega)
  have c0:=HA.b2.rd o
  rw [hC] at c0
  have c1:(w.alloc (.cells #[.string ⟨#[]⟩,.int .i64 0,.int .i64 0,.slice none 0 0,.string ⟨#[]⟩,.int .i64 0,.int .i64 0,.int .i64 0,.slice none 0 0] 80)).cell? ⟨g,i*9,none⟩=some (.string x.nm):=H2.slcC_rd (qQi hx (j:=0) (u:=.string x.nm) rfl)
  have c2:(w.alloc (.cells #[.string ⟨#[]⟩,.int .i64 0,.int .i64 0,.slice none 0 0,.string ⟨#[]⟩,.int .i64 0,.int .i64 0,.int .i64 0,.slice none 0 0] 80)).cell? ⟨g,i*9+1,none⟩=some (.int .i64 x.lv):=H2.slcC_rd (qQi hx (j:=1) (u:=.int .i64 x.lv) rfl)
  have c3:(w.alloc (.cells #[.string ⟨#[]⟩,.int .i64 0,.int .i64 0,.slice none 0 0,.string ⟨#[]⟩,.int .i64 0,.int .i64 0,.int .i64 0,.slice none 0 0] 80)).cell? ⟨g,i*9+2,none⟩=some (.int .i64 x.fr):=H2.slcC_rd (qQi hx (j:=2) (u:=.int .i64 x.fr) rfl)
  have c4:(w.alloc (.cells #[.string ⟨#[]⟩,.int .i64 0,.int .i64 0,.slice none 0 0,.string ⟨#[]⟩,.int .i64 0,.int .i64 0,.int .i64 0,.slice none 0 0] 80)).cell? ⟨g,i*9+3,none⟩=some (.slice x.na x.nl x.nc):=H2.slcC_rd (qQi hx (j:=3) (u:=.slice x.na x.nl x.nc) rfl)
  have c5:(w.alloc (.cells #[.string ⟨#[]⟩,.int .i64 0,.int .i64 0,.slice none 0 0,.string ⟨#[]⟩,.int .i64 0,.int .i64 0,.int .i64 0,.slice none 0 0] 80)).cell? ⟨g,i*9+4,none⟩=some (.string x.cd):=H2.slcC_rd (qQi hx (j:=4) (u:=.string x.cd) rfl)
  have c6:(w.alloc (.cells #[.string ⟨#[]⟩,.int .i64 0,.int .i64 0,.slice none 0 0,.string ⟨#[]⟩,.int .i64 0,.int .i64 0,.int .i64 0,.slice none 0 0] 80)).cell? ⟨g,i*9+5,none⟩=some (.int .i64 x.p):=H2.slcC_rd (qQi hx (j:=5) (u:=.int .i64 x.p) rfl)
  have c7:(w.alloc (.cells #[.string ⟨#[]⟩,.int .i64 0,.int .i64 0,.slice none 0 0,.string ⟨#[]⟩,.int .i64 0,.int .i64 0,.int .i64 0,.slice none 0 0] 80)).cell? ⟨g,i*9+6,none⟩=some (.int .i64 x.f):=H2.slcC_rd (qQi hx (j:=6) (u:=.int .i64 x.f) rfl)
  have c8:(w.alloc (.cells #[.string ⟨#[]⟩,.int .i64 0,.int .i64 0,.slice none 0 0,.string ⟨#[]⟩,.int .i64 0,.int .i64 0,.int .i64 0,.slice none 0 0] 80)).cell? ⟨g,i*9+7,none⟩=some (.int .i64 x.g):=H2.slcC_rd (qQi hx (j:=7) (u:=.int .i64 x.g) rfl)
  have c9:(w.alloc (.cells #[.string ⟨#[]⟩,.int .i64 0,.int .i64 0,.slice none 0 0,.string ⟨#[]⟩,.int .i64 0,.int .i64 0,.int .i64 0,.slice none 0 0] 80)).cell? ⟨g,i*9+8,none⟩=some (.slice x.sa x.sl x.sc):=H2.slcC_rd (qQi hx (j:=8) (u:=.slice x.sa x.sl x.sc) rfl)
  have HB:=(H.alloc (.cells #[.string x.nm,.int .i64 x.lv,.int .i64 x.fr,.slice x.na x.nl x.nc,.string x.cd,.int .i64 x.p,.int .i64 x.f,.int .i64 x.g,.slice x.sa x.sl x.sc] 80)).tail
  clear H2 hx hC H HA
  go_enter Tryz.func42,Tryz.ntmps42
  go_wp2
  (try simp only [Exit.inBlock,Exit.then])
  refine bodyPost_ret (v:=.tuple #[.agg #[.string x.nm,.int .i64 x.lv,.int .i64 x.fr,.slice x.na x.nl x.nc,.string x.cd,.int .i64 x.p,.int .i64 x.f,.int .i64 x.g,.slice x.sa x.sl x.sc],.bool true]) (by simp [results,Tryz.results42,go_sem]) rfl ⟨rfl,HB⟩
theorem qUz (H:Hd w0 (cel s T C::SlE 80 v l::R) w) (hC:C[o]? = some v) (i:Int) (h:i<0∨l.length≤i) :
    Calls Tryz.prog 42 #[.pointer (some ⟨s,o,none⟩),.int .i64 i] w fun e w'=>e=.returned (.tuple #[.agg #[.string ⟨#[]⟩,.int .i64 0,.int .i64 0,.slice none 0 0,.string ⟨#[]⟩,.int .i64 0,.int .i64 0,.int .i64 0,.slice none 0 0],.bool false])∧Hd w0 (cel s T C::SlE 80 v l::R) w':=by
  have HA:=((H.alloc (.cells #[.string ⟨#[]⟩,.int .i64 0,.int .i64 0,.slice none 0 0,.string ⟨#[]⟩,.int .i64 0,.int .i64 0,.int .i64 0,.slice none 0 0] 80)).alloc (.cells #[.string ⟨#[]⟩,.int .i64 0,.int .i64 0,.slice none 0 0,.string ⟨#[]⟩,.int .i64 0,.int .i64 0,.int .i64 0,.slice none 0 0] 80)).tail.tail
  have c0:=(H.alloc (.cells #[.string ⟨#[]⟩,.int .i64 0,.int .i64 0,.slice none 0 0,.string ⟨#[]⟩,.int .i64 0,.int .i64 0,.int .i64 0,.slice none 0 0] 80)).b2.rd o
  rw [hC] at c0
  obtain ⟨a,cap,rfl,_,_,_,_⟩:=H.b2.slc_form
  clear H hC
  rcases h with h | h
  · go_enter Tryz.func42,Tryz.ntmps42
    go_wp2
    (try simp only [Exit.inBlock,Exit.then])
    refine bodyPost_ret (v:=.tuple #[.agg #[.string ⟨#[]⟩,.int .i64 0,.int .i64 0,.slice none 0 0,.string ⟨#[]⟩,.int .i64 0,.int .i64 0,.int .i64 0,.slice none 0 0],.bool false]) (by simp [results,Tryz.results42,go_sem]) rfl ⟨rfl,HA⟩
  · have h0:¬i<0:=by omega
    go_enter Tryz.func42,Tryz.ntmps42
    go_wp2
    (try simp only [Exit.inBlock,Exit.then])
    refine bodyPost_ret (v:=.tuple #[.agg #[.string ⟨#[]⟩,.int .i64 0,.int .i64 0,.slice none 0 0,.string ⟨#[]⟩,.int .i64 0,.int .i64 0,.int .i64 0,.slice none 0 0],.bool false]) (by simp [results,Tryz.results42,go_sem]) rfl ⟨rfl,HA⟩
end
end
end Go.Proofs.YtkchopnkdjnocaaGreatDoor
