/-
  Merged texts of one proof: StkInt.
-/
import Derived.BigQuiet
import Derived.Deep.QuietTactic
import Derived.Deep.RegionLaw
import Derived.IntWalk
import Derived.StillTailTactics
import Derived.Test.YtkchopnkdjnocaaGreatDoorG01
import Derived.Test.YtkchopnkdjnocaaGreatDoorRows

set_option maxHeartbeats 16000000
set_option maxRecDepth 20000
namespace Go.Proofs.YtkchopnkdjnocaaGreatDoor
section
open Go.RowKit Spl
theorem qKX:(Tryz.prog.info? 3).map (fun i=>(i.zero,i.size,i.bytes))=some (some (.int .i64 0),1,8):=by kernel_rfl
section
variable {w0 w:World} {R:List Pr} {s o T:Nat} {C:Array Value} {v:Value} {l:List Int}
theorem qKV (H:Hd w0 (cel s T C::SlE 3 v l::R) w) (hC:C[o]? = some v) (hn:l.length≤100000) (x:Int) :
    Calls Tryz.prog 198 #[.pointer (some ⟨s,o,none⟩),.int .i64 x] w fun e w' =>
      e=.returned (.tuple #[])∧∃v',Hd w0 (cel s T (C.setIfInBounds o v')::SlE 3 v' (l++[x])::R) w':=by
  have c0:w.cell? ⟨s,o,none⟩=some v:=(H.rd o).trans hC
  obtain ⟨i0,hi,hz0,hz1,hz2⟩:=info_parts qKX
  have H2:=(H.alloc (.cells #[.int .i64 x] 3)).b3
  have hS:∀ {v':Value} {L:List Pr} {w:World},Hd w0 (Slc 3 1 v' (l.length+1) (flat l++[.int .i64 x])::L) w→Hd w0 (SlE 3 v' (l++[x])::L) w:=by
    intro v' L w h
    have e1:(l++[x]).length=l.length+1:=by simp
    have e2:flat (l++[x])=flat l++[.int .i64 x]:=by rw [qQc,qQK];rfl
    unfold SlE
    rw [e1,e2]
    exact h
  go_enter Tryz.func198,Tryz.ntmps198
  go_wp2_with (at_builtin;refine qQb rfl _ _ 22 rfl 3 i0 _ 1 8 Tryz.underlying22 hi hz0 hz1 hz2 rfl v _ _ rfl H2 ⟨w.heap.size,0,none⟩ 1 1 [.int .i64 x] rfl rfl (cell_one_new _ _ _) (by simp [Value.oneCell']) (by unfold maxLen;omega) (by omega) ?_;intro v' w1 H3;obtain ⟨a',cap',rfl,_,_,_,_⟩:=H3.slc_form;have c1:=H3.b3.rd;have f1:=H3.b3.fr)
  go_end0
  exact ⟨rfl,_,(hS ((H3.b3.set o _).b3.tail.b2)).b2⟩
theorem zQv (H:Hd w0 (cel s T C::SlE 3 v l::R) w) (hC:C[o]? = some v) (hn:l.length≤100000) (i:Nat) (x:Int) (hx:l[i]? = some x) :
    Calls Tryz.prog 116 #[.pointer (some ⟨s,o,none⟩),.int .i64 i] w fun e w'=>e=.returned (.tuple #[.int .i64 x,.bool true])∧w=w':=by
  have c0:w.cell? ⟨s,o,none⟩=some v:=(H.rd o).trans hC
  have hi:=qQa hx
  obtain ⟨g,cap,rfl,H2⟩:=H.b2.slc_at (by omega)
  have c1:w.cell? ⟨g,i,none⟩=some (.int .i64 x):=by
    have:=H2.slcC_rd (qQi hx (j:=0) (u:=.int .i64 x) rfl)
    simpa [Enc.size] using this
  clear H H2 hx hC
  go_enter Tryz.func116,Tryz.ntmps116
  go_wp2
  go_ret2
  exact ⟨rfl,rfl⟩
theorem qUr (H:Hd w0 (cel s T C::SlE 3 v l::R) w) (hC:C[o]? = some v) (i:Int) (h:i<0∨l.length≤i) :
    Calls Tryz.prog 116 #[.pointer (some ⟨s,o,none⟩),.int .i64 i] w fun e w'=>e=.returned (.tuple #[.int .i64 0,.bool false])∧w=w':=by
  have c0:w.cell? ⟨s,o,none⟩=some v:=(H.rd o).trans hC
  obtain ⟨a,cap,rfl,_,_,_,_⟩:=H.b2.slc_form
  clear H hC
  rcases h with h | h
  · go_enter Tryz.func116,Tryz.ntmps116
    go_wp2
    go_ret2
    exact ⟨rfl,rfl⟩
  · have h0:¬i<0:=by omega
    go_enter Tryz.func116,Tryz.ntmps116
    go_wp2
    go_ret2
    exact ⟨rfl,rfl⟩
theorem qYV {x:Int} (H:Hd w0 (cel s T C::SlE 3 v (l++[x])::R) w) (hC:C[o]? = some v) (hn:l.length<100000) :
    Calls Tryz.prog 87 #[.pointer (some ⟨s,o,none⟩)] w fun e w'=>e=.returned (.tuple #[.int .i64 x,.bool true])∧w=w':=by
  have hlen:(l++[x]).length=l.length+1:=by simp
  have hat:=zQv H hC (by omega) l.length x (by simp)
  have c0:=(H.rd o).trans hC
  obtain ⟨g,cap,rfl,H2⟩:=H.b2.slc_at (by omega)
  rw [hlen] at c0
  clear H H2 hC hlen
  go_enter Tryz.func87,Tryz.ntmps87
  go_wp2_with fail
  refine hat.mono ?_
  rintro e w' ⟨rfl,rfl⟩
  go_wp2_with fail
  go_ret2
  exact ⟨rfl,rfl⟩
theorem qVz (H:Hd w0 (cel s T C::SlE 3 v ([]:List Int)::R) w) (hC:C[o]? = some v) :
    Calls Tryz.prog 87 #[.pointer (some ⟨s,o,none⟩)] w fun e w'=>e=.returned (.tuple #[.int .i64 0,.bool false])∧w=w':=by
  have hat:=qUr H hC (-1) (.inl (by decide))
  have c0:=(H.rd o).trans hC
  obtain ⟨a,cap,rfl,_,_,_,_⟩:=H.b2.slc_form
  clear H hC
  go_enter Tryz.func87,Tryz.ntmps87
  go_wp2_with fail
  refine hat.mono ?_
  rintro e w' ⟨rfl,rfl⟩
  go_wp2_with fail
  go_ret2
  exact ⟨rfl,rfl⟩
theorem qqz {x:Int} (H:Hd w0 (cel s T C::SlE 3 v (l++[x])::R) w) (hC:C[o]? = some v) (hn:l.length<100000) :
    Calls Tryz.prog 201 #[.pointer (some ⟨s,o,none⟩)] w fun e w'=>e=.returned (.tuple #[.int .i64 x,.bool true])∧∃v',Hd w0 (cel s T (C.setIfInBounds o v')::SlE 3 v' l::R) w':=by
  have hlen:(l++[x]).length=l.length+1:=by simp
  have htop:=qYV H hC hn
  have c0:=(H.rd o).trans hC
  have f0:=H.fr o
  obtain ⟨g,cap,rfl,H2⟩:=H.b2.slc_at (by omega)
  have hcap:=H2.slcC.2.1
  have hcm:=H2.slcC.2.2.1
  rw [hlen] at c0 hcap
  have cg:w.cell? ⟨g,l.length,none⟩=some (.int .i64 x):=by
    have:=H2.slcC_rd (qQi (l:=l++[x]) (k:=l.length) (x:=x) (by simp) (j:=0) (u:=.int .i64 x) rfl)
    simpa [Enc.size] using this
  have fg:=H2.slcC_fr l.length
  have HS:=H2.slcC_set (j:=l.length) (by rw [qQf,hlen];simp [Enc.size]) (.int .i64 0)
  have HS2:=HS.slcC_cut (k:=l.length) (c:=cap) (by omega) (by omega) (Nat.le_refl _)
  have e1:((flat (l++[x])).set l.length (.int .i64 0)).take (l.length*Enc.size Int)=flat l:=by
    rw [List.take_set_of_le (by simp [Enc.size]),qXT,List.take_left' rfl]
  rw [e1] at HS2
  have d0:=(HS2.b2.rd o).trans hC
  have k0:=HS2.b2.fr o
  rw [hlen] at d0
  have HF:=(HS2.b2.set o (.slice (some ⟨g,0,none⟩) l.length cap)).b2.slc_mk.b2
  clear hcm
  have hw:IntKind.i64.wrap (l.length:Int)=l.length:=IntWalk.i64_in _ (by omega)
  have hlt:(l.length:Int)<(l.length:Int)+1:=by omega
  have hlc:l.length≤cap:=by omega
  clear H H2 HS HS2 hC hlen e1
  go_enter Tryz.func201,Tryz.ntmps201
  go_wp2_with fail
  refine htop.mono ?_
  rintro e w' ⟨rfl,rfl⟩
  go_wp2_with fail
  refine wp_region_still_tail 12 (by kernel_rfl) (by kernel_rfl) ?_
  simp only [List.take_succ_cons,List.take_zero,List.drop_succ_cons,List.drop_zero,World.drew_eq]
  (repeat still_step)
  refine wpStill_nil ?_
  go_wp2_with fail
  refine wp_region_still_tail 14 (by kernel_rfl) (by kernel_rfl) ?_
  simp only [List.take_succ_cons,List.take_zero,List.drop_succ_cons,List.drop_zero,World.drew_eq]
  (repeat still_step)
  refine wpStill_nil ?_
  go_wp2_with fail
  go_ret2
  exact ⟨rfl,_,HF.drew.drew⟩
end
end
end Go.Proofs.YtkchopnkdjnocaaGreatDoor
