/-
  Merged texts of one proof: Ceil.
-/
import Derived.Lib.Hide
import Derived.Test.YtkchopnkdjnocaaGreatDoorG05
import Derived.Test.YtkchopnkdjnocaaGreatDoorG06
import Derived.Test.YtkchopnkdjnocaaGreatDoorG07

set_option maxHeartbeats 16000000
set_option maxRecDepth 20000
namespace Go.Proofs.YtkchopnkdjnocaaGreatDoor
section
open Go.RowKit Spl
def CeP (b:Nat) (l:List Int):Pr:=ex fun v:Value=>all [cel b 164 #[v],SlE 3 v l]
instance (b:Nat) (l:List Int):Key (CeP b l) (.b b):=⟨trivial⟩
def topI (l:List Int):Int:=l.getLast?.getD 0
section
variable {w0 w:World} {R:List Pr} {b:Nat} {l:List Int}
theorem CeP.opened (H:Hd w0 (CeP b l::R) w):∃v,Hd w0 (cel b 164 #[v]::SlE 3 v l::R) w:=by
  obtain ⟨v,H⟩:=H.out
  exact ⟨v,H.flat⟩
theorem CeP.shut {v:Value} (H:Hd w0 (cel b 164 #[v]::SlE 3 v l::R) w):Hd w0 (CeP b l::R) w :=
  Hd.into v (Hd.pack (L:=[_,_]) H)
theorem zXE (H:Hd w0 (CeP b l::R) w) (hn:l.length≤100000):Calls Tryz.prog 54 #[.pointer (some ⟨b,0,none⟩)] w fun e w'=>e=.returned (.int .i64 (topI l))∧w=w':=by
  obtain ⟨v,H1⟩:=CeP.opened H
  rcases qQr l with rfl | ⟨a,x,rfl⟩
  · have hc:=qVz (o:=0) H1 rfl
    clear H H1
    go_enter Tryz.func54,Tryz.ntmps54
    go_wp2_with fail
    refine hc.mono ?_
    rintro e w' ⟨rfl,rfl⟩
    go_wp2_with fail
    go_ret
    exact ⟨rfl,rfl⟩
  · have hc:=qYV (o:=0) H1 rfl (by simp at hn;omega)
    have e1:topI (a++[x])=x:=by simp [topI]
    rw [e1]
    clear H H1 e1
    go_enter Tryz.func54,Tryz.ntmps54
    go_wp2_with fail
    refine hc.mono ?_
    rintro e w' ⟨rfl,rfl⟩
    go_wp2_with fail
    go_ret
    exact ⟨rfl,rfl⟩
theorem zJy (H:Hd w0 (CeP b l::R) w) (hn:l.length≤10000) (x:Int):Calls Tryz.prog 179 #[.pointer (some ⟨b,0,none⟩),.int .i64 x] w fun e w'=>e=.returned (.int .i64 (max x (topI l)))∧Hd w0 (CeP b (l++[max x (topI l)])::R) w':=by
  obtain ⟨v,H1⟩:=CeP.opened H
  have hc:=zXE H (by omega)
  clear H
  by_cases hx:x<topI l
  · have e:max x (topI l)=topI l:=by omega
    rw [e]
    have hp:=qKV (o:=0) H1 rfl (by omega) (topI l)
    clear H1 hn e
    go_enter Tryz.func179,Tryz.ntmps179
    go_wp2_with fail
    refine hc.mono ?_
    rintro e w' ⟨rfl,rfl⟩
    clear hc
    go_wp2_with fail
    refine hp.mono ?_
    rintro e w' ⟨rfl,v',H2⟩
    go_wp2_with fail
    go_ret
    exact ⟨rfl,CeP.shut (v:=v') H2⟩
  · have e:max x (topI l)=x:=by omega
    rw [e]
    have hp:=qKV (o:=0) H1 rfl (by omega) x
    clear H1 hn e
    go_enter Tryz.func179,Tryz.ntmps179
    go_wp2_with fail
    refine hc.mono ?_
    rintro e w' ⟨rfl,rfl⟩
    clear hc
    go_wp2_with fail
    refine hp.mono ?_
    rintro e w' ⟨rfl,v',H2⟩
    go_wp2_with fail
    go_ret
    exact ⟨rfl,CeP.shut (v:=v') H2⟩
theorem zQF (H:Hd w0 (CeP b l::R) w) (hn:l.length≤10000) (hl:l ≠ []):Calls Tryz.prog 183 #[.pointer (some ⟨b,0,none⟩)] w fun e w'=>e=.returned (.bool true)∧Hd w0 (CeP b l.dropLast::R) w':=by
  obtain ⟨v,H1⟩:=CeP.opened H
  rcases qQr l with rfl | ⟨a,x,rfl⟩
  · exact absurd rfl hl
  · have hc:=qqz (o:=0) H1 rfl (by simp at hn;omega)
    rw [List.dropLast_concat]
    clear H H1 hl
    go_enter Tryz.func183,Tryz.ntmps183
    go_wp2_with fail
    refine hc.mono ?_
    rintro e w' ⟨rfl,v',H2⟩
    go_wp2_with fail
    go_ret
    exact ⟨rfl,CeP.shut (v:=v') H2⟩
end
end
end Go.Proofs.YtkchopnkdjnocaaGreatDoor
