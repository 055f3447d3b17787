/-
  Merged texts of one proof: SameW.
-/
import Derived.BigQuiet
import Derived.Deep.QuietTactic
import Derived.Lib.Hide
import Derived.Test.YtkchopnkdjnocaaGreatDoorG01
import Derived.Test.YtkchopnkdjnocaaGreatDoorRows

set_option maxHeartbeats 16000000
set_option maxRecDepth 20000
namespace Go.Proofs.YtkchopnkdjnocaaGreatDoor
section
open Go.RowKit Spl
def RdL {α:Type} [Enc α] (w:World) (v:Value) (l:List α):Prop:=∃A cap,v=.slice A l.length cap∧l.length≤1000000∧(∀k x,l[k]? = some x→∃b o,A=some ⟨b,o,none⟩∧∀j u,(Enc.cells x)[j]? = some u→w.cell? ⟨b,o+k*Enc.size α+j,none⟩=some u)
theorem RdL.of_slE {α:Type} [Enc α] {w0 w:World} {R:List Pr} {e:TypeId} {v:Value} {l:List α} (H:Hd w0 (SlE e v l::R) w) (hn:l.length≤1000000):RdL w v l:=by
  obtain ⟨A,cap,rfl,-,-,-,-⟩:=H.slc_form
  refine ⟨A,cap,rfl,hn,fun k x hx=>?_⟩
  have hk:=qQa hx
  obtain ⟨g,c,he,H2⟩:=H.slc_at (by omega)
  injection he with e1 e2 e3
  refine ⟨g,0,e1,fun j u hj=>?_⟩
  have h:=H2.slcC_rd (qQi hx hj)
  rw [Nat.zero_add]
  exact h
theorem qKG {w:World} {a b:Value} {xs ys:List qQh} (ha:RdL w a xs) (hb:RdL w b ys) :
    Calls Tryz.prog 15 #[a,b] w fun e w'=>e=.returned (.bool (decide (xs=ys)))∧∃n,w'=w.drewN n:=by
  obtain ⟨A,ca,rfl,hA,hA2⟩:=ha
  obtain ⟨B,cb,rfl,hB,hB2⟩:=hb
  by_cases hl:xs.length=ys.length
  · have hne:((xs.length:Int) != ys.length)=false:=by simp [hl]
    have hl':=Lib.hid hl
    have hyl:ys.length≤xs.length:=by omega
    clear hl
    go_enter Tryz.func15,Tryz.ntmps15
    go_wp2
    go_loopw [5] (fun i wr=>∃k n:Nat,k≤xs.length∧i=.int .i64 k∧xs.take k=ys.take k∧wr=w.drewN n) (fun i _=>xs.length-(intOf i).toNat)
    case atStart=>exact ⟨0,0,Nat.zero_le _,rfl,by simp,rfl⟩
    case round =>
      obtain ⟨k,n,hk,rfl,ht,rfl⟩:=hrel
      have hT:=Lib.hid ht
      clear ht
      by_cases hlt:k<xs.length
      · have hky:k<ys.length:=by have:=hl'.out;omega
        obtain ⟨⟨xj,xt,xl⟩,hx⟩:∃x,xs[k]? = some x:=⟨xs[k],List.getElem?_eq_getElem hlt⟩
        obtain ⟨⟨yj,yt,yl⟩,hy⟩:∃y,ys[k]? = some y:=⟨ys[k],List.getElem?_eq_getElem hky⟩
        obtain ⟨b1,o1,rfl,c1⟩:=hA2 _ _ hx
        obtain ⟨b2,o2,rfl,c2⟩:=hB2 _ _ hy
        have d0:=c1 0 _ rfl
        have d1:=c1 1 _ rfl
        have d2:=c1 2 _ rfl
        have g0:=c2 0 _ rfl
        have g1:=c2 1 _ rfl
        have g2:=c2 2 _ rfl
        simp only [Enc.size,Nat.add_zero] at d0 d1 d2 g0 g1 g2
        have hX:=Lib.hid hx
        have hY:=Lib.hid hy
        clear hx hy c1 c2 hA2 hB2
        by_cases he:(⟨xj,xt,xl⟩:qQh)=⟨yj,yt,yl⟩
        · injection he with e1 e2 e3
          subst e1 e2 e3
          go_wp2_with (go_quiet (fail))
          go_roundw
          case rel =>
            refine ⟨k+1,_,by omega,by go_num,?_,by first | rfl | (rw [World.drewN_drewN])⟩
            rw [List.take_add_one,List.take_add_one,hT.out,hX.out,hY.out]
          case measure=>simp [intOf];omega
        · have hfin:decide (xs=ys)=false:=by
            apply decide_eq_false
            intro e
            have h1:=hX.out
            rw [e,hY.out] at h1
            injection h1 with h1
            exact he h1.symm
          by_cases h1:xj=yj
          · subst h1
            by_cases h2:xt=yt
            · subst h2
              have h3:¬xl=yl:=fun h=>he (by rw [h])
              have hb3:(xl == yl)=false:=by simpa using h3
              go_wp2_with (go_quiet (fail))
              go_ret
              exact ⟨by first | rfl | (rw [hfin];rfl),_,by first | rfl | (rw [World.drewN_drewN])⟩
            · have hb3:(xt == yt)=false:=by simpa using h2
              go_wp2_with (go_quiet (fail))
              go_ret
              exact ⟨by first | rfl | (rw [hfin];rfl),_,by first | rfl | (rw [World.drewN_drewN])⟩
          · have hb3:(xj == yj)=false:=by simpa using h1
            go_wp2_with (go_quiet (fail))
            go_ret
            exact ⟨by first | rfl | (rw [hfin];rfl),_,by first | rfl | (rw [World.drewN_drewN])⟩
      · obtain rfl:k=xs.length:=by omega
        have hfin:decide (xs=ys)=true:=by
          apply decide_eq_true
          have:=hT.out
          rw [List.take_of_length_le (Nat.le_refl _),hl'.out,List.take_of_length_le (Nat.le_refl _)] at this
          exact this
        go_wp2
        go_ret
        exact ⟨by first | rfl | (rw [hfin];rfl),_,rfl⟩
  · have hne:((xs.length:Int) != ys.length)=true:=by simpa using by omega
    have hfin:decide (xs=ys)=false:=decide_eq_false (fun e=>hl (by rw [e]))
    clear hl
    go_enter Tryz.func15,Tryz.ntmps15
    go_wp2
    go_ret
    exact ⟨by first | rfl | (rw [hfin];rfl),0,rfl⟩
end
end Go.Proofs.YtkchopnkdjnocaaGreatDoor
