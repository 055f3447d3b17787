/-
  Merged texts of one proof: Code14, Code15, TkM, Tk2, Tk3.
-/
import Derived.Test.YtkchopnkdjnocaaGreatDoorG05
import Derived.Test.YtkchopnkdjnocaaGreatDoorG07
import Derived.Test.YtkchopnkdjnocaaGreatDoorG14
import Derived.Test.YtkchopnkdjnocaaGreatDoorG22
import Derived.Test.YtkchopnkdjnocaaGreatDoorG28

set_option maxHeartbeats 16000000
set_option maxRecDepth 20000
namespace Go.Proofs.YtkchopnkdjnocaaGreatDoor
section
open Go.RowKit Spl
theorem qqd (n:Nat):flat (qZF n)=List.replicate n (.int .i64 0):=by
  induction n with
  | zero=>rfl
  | succ n ih=>unfold qZF at *;rw [List.replicate_succ,qQI,ih];rfl
theorem qVc (n:Nat):(madeCells #[.int .i64 0] (n*1)).toList=flat (qZF n):=by
  rw [qqd,Nat.mul_one]
  apply List.ext_getElem?
  intro i
  by_cases h:i<n <;> simp [madeCells,h,Nat.mod_one]
section
variable {w0 w:World} {R:List Pr} {t:qKD} {pv:Value}
theorem zJe {p:List OpM} (H:Hd w0 (qZG t []::R) w) (hp:Srd w0 R pv p) :
    Calls Tryz.prog 147 #[pv,t.v] w fun e w'=>e=.returned (.tuple #[.int .i64 (if (qQW p).2=0 then (if (qZ0 p).over then 0 else (qZ0 p).out.length) else 0),.int .i64 (if (qQW p).2=0 then (if (qZ0 p).over then 5 else 0) else (qQW p).2)]) ∧
      Hd w0 (qZG t (if (qQW p).2=0 then (qZ0 p).out else [])::R) w':=by
  obtain ⟨a,c,hv⟩:=hp.form
  have hp2:Srd w0 (qZG t []::R) pv p:=hp.of fun h=>h.tail
  have hcheck:=zJq H hp2
  by_cases hc:(qQW p).2=0
  · rw [if_pos hc,if_pos hc,if_pos hc]
    rw [hc] at hcheck
    have hlen:=qY4 hc
    obtain ⟨i0,hi,hz0,hz1,hz2⟩:=info_parts qJ9
    replace hp:=Lib.hid hp
    subst hv
    clear hp2
    have hcm:=Lib.hid (show qQM (p.drop 0) 0 0=qQW p by unfold qQW;rw [if_neg (by omega)];rfl)
    obtain ⟨tv,htv⟩:∃tv,t.v=tv:=⟨_,rfl⟩
    have hT:tv=.nilFunc∨∃tb,tv=.func (.func 148) #[] #[.pointer (some ⟨tb,0,none⟩)]:=by
      rw [← htv]
      cases t with
      | nobody=>exact .inl rfl
      | box tb=>exact .inr ⟨tb,rfl⟩
    rw [htv]
    obtain ⟨WM,hWM⟩:∃WM,qZ0 p=WM:=⟨_,rfl⟩
    rw [hWM]
    replace hWM:=Lib.hid hWM
    rcases hT with rfl | ⟨tb,rfl⟩
    · go_enter Tryz.func147,Tryz.ntmps147
      go_wp2_with fail
      refine hcheck.mono ?_
      rintro e w1 ⟨rfl,H1⟩
      clear hcheck H
      go_wp2_with (at_make;(refine qQn rfl _ _ 22 rfl 3 i0 _ 1 Tryz.underlying22 hi hz0 hz1 rfl _ _ _ _ p.length p.length rfl rfl rfl rfl (by omega) (by rw [hz2];omega) (by unfold maxLen;omega) H1 ?_);intro w2 H2;replace H2:=(show Hd w0 (SlcC 3 (Enc.size Int) w1.heap.size p.length p.length (flat (qZF p.length))::qZG t []::R) w2 by rw [← qVc];exact H2))
      have HS:Hd w0 _ (w2.alloc (.cells #[.slice a p.length c,.int .i64 0,.bool false,.slice (some ⟨w1.heap.size,0,none⟩) p.length p.length,.nilFunc] 300)):=(show Hd w0 (SlE 3 (.slice none 0 0) ([]:List Int)::SlcC 3 (Enc.size Int) w1.heap.size p.length p.length (flat (qZF p.length))::qZG t []::R) w2 from H2.slc_nil _ _).fol
      go_loopw [29,9] (fun x ov wr=>∃(k n:Nat) (e o:List Int) (vv:Value),k≤p.length∧x=.int .i64 k∧vv=ov∧EInv p k e o∧o.length=n∧n≤4∧qQM (p.drop k) k n=qQW p∧qJw (p.drop k) k e o=qJw p 0 (qZF p.length) [] ∧
        Hd w0 (SlE 3 vv o::cel w2.heap.size 300 #[.slice a p.length c,.int .i64 0,.bool false,.slice (some ⟨w1.heap.size,0,none⟩) p.length p.length,.nilFunc]::SlEC 3 w1.heap.size p.length e::qZG t []::R) wr) (fun x _ _=>p.length-(intOf x).toNat)
      case atStart=>exact ⟨0,0,qZF p.length,[],_,Nat.zero_le _,rfl,rfl,EInv.start p,rfl,by omega,hcm.out,rfl,by
        have e1:(qZF p.length).length=p.length:=by simp [qZF]
        unfold SlE SlEC
        rw [e1]
        exact HS.re⟩
      case round =>
        clear HS H1 H2
        obtain ⟨k,n,e,o,vv,hk,rfl,rfl,hI,hon,hn4b,hC,hE,H3⟩:=hrel
        by_cases hlt:k<p.length
        · obtain ⟨x,hx⟩:∃x,p[k]? = some x:=⟨p[k],List.getElem?_eq_getElem hlt⟩
          obtain ⟨g,c2,hv2,-,hcell⟩:=hp.out.at hx
          injection hv2 with hv3 hv4 hv5
          subst hv3;subst hv5
          have HR:Hd w0 R wr:=H3.re
          have f0:=hcell HR 0 _ rfl
          have f1:=hcell HR 1 _ rfl
          have f2:=hcell HR 2 _ rfl
          have f3:=hcell HR 3 _ rfl
          simp only [Enc.size,Nat.add_zero] at f0 f1 f2 f3
          rw [qKe hx] at hC hE
          have n1:¬(k:Int)<0:=by omega
          have n2:(k:Int)<p.length:=by omega
          have n3:¬p.length≤k:=by omega
          have g5:IntKind.i64.wrap ((k:Int)+1)=(k:Int)+1:=IntWalk.i64_in _ (by omega)
          obtain ⟨xk,xr,xn,xv⟩:=x
          have HA:Hd w0 _ (wr.alloc (.cells #[.int .i64 xk,.int .i64 xr,.int .i64 xn,.int .i64 xv] 83)):=H3.fol
          rw [qQM] at hC
          rw [qJw] at hE
          dsimp only at f0 f1 f2 f3 hC hE
          have hfo:qQL ⟨xk,xr,xn,xv⟩=true:=by
            cases hf:qQL ⟨xk,xr,xn,xv⟩ with
            | true=>rfl
            | false=>rw [if_pos hf] at hC;rw [← hC] at hc;simp at hc
          rw [if_neg (by rw [hfo];decide)] at hC
          clear hcell HR hv4
          by_cases h10:xk=10
          · subst h10
            rw [if_pos rfl] at hC hE
            have hn4:¬n=4:=fun e=>by rw [if_pos e] at hC;rw [← hC] at hc;simp at hc
            rw [if_neg hn4] at hC
            have hI2:=Lib.hid (hI.open_ hx)
            have hS:∀ {v':Value} {L:List Pr} {w:World},Hd w0 (Slc 3 1 v' (o.length+1) (flat o++[.int .i64 k])::L) w→Hd w0 (SlE 3 v' (o++[(k:Int)])::L) w:=by
              intro v' L w h
              have e1:(o++[(k:Int)]).length=o.length+1:=by simp
              have e2:flat (o++[(k:Int)])=flat o++[.int .i64 k]:=by rw [qQc,qQK];rfl
              unfold SlE
              rw [e1,e2]
              exact h
            replace hC:=Lib.hid hC
            replace hE:=Lib.hid hE
            have HP:Hd w0 _ ((wr.alloc (.cells #[.int .i64 10,.int .i64 xr,.int .i64 xn,.int .i64 xv] 83)).alloc (.cells #[.int .i64 k] 3)):=HA.fol
            clear hI hx H3
            go_wp2_with (at_builtin;(refine qQb rfl _ _ 22 rfl 3 i0 _ 1 8 Tryz.underlying22 hi hz0 hz1 hz2 rfl _ _ _ rfl (HP.v vv) ⟨wr.heap.size+1,0,none⟩ 1 1 [.int .i64 k] rfl rfl (qQA (HP.k (wr.heap.size+1))) (by simp [Value.oneCell']) (by unfold maxLen;omega) (by omega) ?_);intro v' w4 H4;have HF:=hS H4)
            go_roundw
            case rel=>exact ⟨k+1,n+1,e,o++[(k:Int)],_,by omega,by simp,rfl,hI2.out,by rw [List.length_append,hon];rfl,by omega,hC.out,hE.out,by exact HF.re⟩
            case measure=>simp [intOf];omega
          · rw [if_neg h10] at hC hE
            by_cases h11:xk=11
            · subst h11
              rw [if_pos rfl] at hC hE
              have hn0:¬n=0:=fun e=>by rw [if_pos e] at hC;rw [← hC] at hc;simp at hc
              rw [if_neg hn0] at hC
              rcases qQr o with rfl | ⟨l,y,rfl⟩
              · exact absurd hon.symm hn0
              obtain ⟨j,rfl,hjk⟩:=hI.op y (by simp)
              have hI2:=Lib.hid (hI.close hx h10)
              rw [List.getLast?_concat,List.dropLast_concat,Option.getD_some,Int.toNat_natCast] at hE
              have hl1:(l++[(j:Int)]).length=l.length+1:=by simp
              obtain ⟨g2,cap2,hov,HB⟩:=(HA.v vv).slc_at (by omega)
              rw [hl1] at hov HB
              subst hov
              have hcap:=HB.slcC.2.1
              have hcm2:=HB.slcC.2.2.1
              have cg:(wr.alloc (.cells #[.int .i64 11,.int .i64 xr,.int .i64 xn,.int .i64 xv] 83)).cell? ⟨g2,l.length,none⟩=some (.int .i64 j):=by
                have:=HB.slcC_rd (qQi (l:=l++[(j:Int)]) (k:=l.length) (x:=(j:Int)) (by simp) (j:=0) (u:=.int .i64 j) rfl)
                simpa [Enc.size] using this
              have hel:=hI.len
              have c3:(wr.alloc (.cells #[.int .i64 11,.int .i64 xr,.int .i64 xn,.int .i64 xv] 83)).cell? ⟨w2.heap.size,3,none⟩=some (.slice (some ⟨w1.heap.size,0,none⟩) p.length p.length):=(HB.k w2.heap.size).ce 3 rfl
              have HE:=HB.k w1.heap.size
              obtain ⟨ej,hej⟩:∃y,e[j]? = some y:=⟨e[j]'(by omega),List.getElem?_eq_getElem _⟩
              have ce:(wr.alloc (.cells #[.int .i64 11,.int .i64 xr,.int .i64 xn,.int .i64 xv] 83)).cell? ⟨w1.heap.size,j,none⟩=some (.int .i64 ej):=by
                have:=HE.slcC_rd (qQi hej (j:=0) rfl)
                simpa [Enc.size] using this
              have fe:=HE.slcC_fr j
              have HS:=HE.slcC_set (j:=j) (by rw [qQf];simp [Enc.size];omega) (.int .i64 k)
              have e3:(flat e).set j (.int .i64 k)=flat (e.set j (k:Int)):=by
                have:=qJT (l:=e) (k:=j) (x:=ej) (y:=(k:Int)) hej (j:=0) (v:=.int .i64 k) (by decide) rfl
                simpa [Enc.size] using this
              rw [e3] at HS
              have HC:=HS.b2.slcC_cut (k:=l.length) (c:=cap2) (by omega) (by omega) (Nat.le_refl _)
              have e5:(flat (l++[(j:Int)])).take (l.length*Enc.size Int)=flat l:=by rw [qXT,List.take_left' rfl]
              rw [e5] at HC
              have HD:=HC.slc_mk.b2
              have e6:e.length=(e.set j (k:Int)).length:=by rw [List.length_set]
              rw [e6] at HD
              clear HC HS e5 e6
              have g6:IntKind.i64.wrap (((l.length:Int)+1)-1)=(l.length:Int):=by rw [IntWalk.i64_in _ (by omega)];omega
              have g7:IntKind.i64.wrap (l.length:Int)=(l.length:Int):=IntWalk.i64_in _ (by omega)
              have m4:(l.length:Int)<(l.length:Int)+1:=by omega
              have m0:¬(j:Int)<0:=by omega
              have m1:(j:Int)<p.length:=by omega
              have m2:¬p.length≤j:=by omega
              have m3:l.length≤cap2:=by omega
              have hll:=Lib.hid (show l.length=n-1 by rw [← hon];simp)
              replace hC:=Lib.hid hC
              replace hE:=Lib.hid hE
              replace hon:=Lib.hid hon
              clear hI hx H3 HB HE hcm2 e3 hl1 hej hel HA
              go_wp2_with fail
              refine wp_region_still_tail 12 (by kernel_rfl) (by kernel_rfl) ?_
              simp only [List.take_succ_cons,List.take_zero,List.drop_succ_cons,List.drop_zero,World.drew_eq]
              (repeat still_step)
              refine wpStill_nil ?_
              go_wp2_with fail
              go_roundw
              case rel=>exact ⟨k+1,n-1,e.set j (k:Int),l,_,by omega,by simp,rfl,hI2.out,hll.out,by omega,hC.out,hE.out,by exact (Hd.re HD).drew⟩
              case measure=>simp [intOf];omega
            · rw [if_neg h11] at hC hE
              have hI2:=Lib.hid (hI.skip hx h10)
              replace hC:=Lib.hid hC
              replace hE:=Lib.hid hE
              clear hI hx H3
              go_wp2_with fail
              go_roundw
              case rel=>exact ⟨k+1,n,e,o,_,by omega,by simp,rfl,hI2.out,hon,hn4b,hC.out,hE.out,by exact HA.re⟩
              case measure=>simp [intOf];omega
        · obtain rfl:k=p.length:=by omega
          rw [List.drop_length] at hC hE
          rw [qQM] at hC
          rw [qJw] at hE
          have hn0:n=0:=by
            rcases Nat.eq_zero_or_pos n with h | h
            · exact h
            · rw [if_pos h] at hC;rw [← hC] at hc;simp at hc
          subst hn0
          have ho:=List.eq_nil_of_length_eq_zero hon
          subst ho
          have hEe:e=qQ6 p:=by unfold qQ6;rw [← hE]
          have hW:WOk p e:=hI.ok hc
          subst hEe
          have HK:Hd w0 (WkP w2.heap.size (.slice a p.length c) (.slice (some ⟨w1.heap.size,0,none⟩) p.length p.length) t ⟨[],false⟩::SlE 3 (.slice (some ⟨w1.heap.size,0,none⟩) p.length p.length) (qQ6 p)::R) wr:=by
            refine WkP.shut ?_
            dsimp only
            rw [htv]
            have H4:Hd w0 (SlEC 3 w1.heap.size p.length (qQ6 p)::cel w2.heap.size 300 #[.slice a p.length c,.int .i64 0,.bool false,.slice (some ⟨w1.heap.size,0,none⟩) p.length p.length,.nilFunc]::qZG t []::R) wr:=H3.re
            have H5:=H4.slc_mk
            rw [hW.len] at H5
            have H6:Hd w0 (cel w2.heap.size 300 #[.slice a p.length c,.int .i64 0,.bool false,.slice (some ⟨w1.heap.size,0,none⟩) p.length p.length,.nilFunc]::qZG t []::Slc 3 (Enc.size Int) (.slice (some ⟨w1.heap.size,0,none⟩) p.length p.length) p.length (flat (qQ6 p))::R) wr:=H5.re
            unfold SlE
            rw [hW.len]
            exact H6
          have hp3:Srd w0 (SlE 3 (.slice (some ⟨w1.heap.size,0,none⟩) p.length p.length) (qQ6 p)::R) (.slice a p.length c) p:=hp.out.of fun h=>h.tail
          have hpart:=zJf hW hp3 (Srd.slE HK.tail) (p.length+1) 0 p.length (by omega) (Nat.zero_le _) (Nat.le_refl _) (by simp) HK
          have hle:=qXP (p:=p) (ends:=qQ6 p) (p.length+1) 0 p.length ⟨[],false⟩ (by simp)
          clear hC hE hI hW hp3 HK H3
          have hwm:WM=if (qZI p (qQ6 p) (p.length+1) 0 p.length ⟨[],false⟩).1 then (qZH (qZI p (qQ6 p) (p.length+1) 0 p.length ⟨[],false⟩).2 ⟨9,0,0,0⟩).2 else (qZI p (qQ6 p) (p.length+1) 0 p.length ⟨[],false⟩).2:=by rw [← hWM.out];rfl
          obtain ⟨r,hr⟩:∃r,qZI p (qQ6 p) (p.length+1) 0 p.length ⟨[],false⟩=r:=⟨_,rfl⟩
          rw [hr] at hpart hle hwm
          clear hr
          have n9:¬(p.length:Int)<p.length:=by omega
          rw [show ((0:Nat):Int)=0 from rfl] at hpart
          cases hb:r.1 with
          | false =>
            rw [hb] at hpart hwm
            rw [if_neg (by decide)] at hwm
            subst hwm
            go_wp2_with fail
            refine hpart.mono ?_
            rintro e w5 ⟨rfl,H6⟩
            clear hpart
            have d1:=(show _=some (.int .i64 r.2.out.length) from ((WkP.opened H6).k w2.heap.size).ce 1 rfl)
            have d2:=(show _=some (.bool r.2.over) from ((WkP.opened H6).k w2.heap.size).ce 2 rfl)
            cases ho:r.2.over with
            | true =>
              rw [ho] at d2
              go_wp2_with fail
              all_goals (go_ret2;exact ⟨qZl (by first | rfl | (rw [ho];rfl) | (simp_all;done)) (by first | rfl | (rw [ho];rfl) | (simp_all;done)),(WkP.opened H6).tail.re⟩)
            | false =>
              rw [ho] at d2
              go_wp2_with fail
              all_goals (go_ret2;exact ⟨qZl (by first | rfl | (rw [ho];rfl) | (simp_all;done)) (by first | rfl | (rw [ho];rfl) | (simp_all;done)),(WkP.opened H6).tail.re⟩)
          | true =>
            rw [hb] at hpart hwm
            rw [if_pos rfl] at hwm
            obtain ⟨q,hq⟩:∃q,qZH r.2 ⟨9,0,0,0⟩=q:=⟨_,rfl⟩
            rw [hq] at hwm
            subst hwm
            go_wp2_with fail
            refine hpart.mono ?_
            rintro e w5 ⟨rfl,H5⟩
            clear hpart
            have hstep:=qU5 H5 hle ⟨9,0,0,0⟩
            rw [hq] at hstep
            clear H5
            go_wp2_with fail
            refine hstep.mono ?_
            rintro e w6 ⟨rfl,H6⟩
            clear hstep
            have d1:=(show _=some (.int .i64 q.2.out.length) from ((WkP.opened H6).k w2.heap.size).ce 1 rfl)
            have d2:=(show _=some (.bool q.2.over) from ((WkP.opened H6).k w2.heap.size).ce 2 rfl)
            cases ho:q.2.over with
            | true =>
              rw [ho] at d2
              go_wp2_with fail
              all_goals (go_ret2;exact ⟨qZl (by first | rfl | (rw [ho];rfl) | (simp_all;done)) (by first | rfl | (rw [ho];rfl) | (simp_all;done)),(WkP.opened H6).tail.re⟩)
            | false =>
              rw [ho] at d2
              go_wp2_with fail
              all_goals (go_ret2;exact ⟨qZl (by first | rfl | (rw [ho];rfl) | (simp_all;done)) (by first | rfl | (rw [ho];rfl) | (simp_all;done)),(WkP.opened H6).tail.re⟩)
    · go_enter Tryz.func147,Tryz.ntmps147
      go_wp2_with fail
      refine hcheck.mono ?_
      rintro e w1 ⟨rfl,H1⟩
      clear hcheck H
      go_wp2_with (at_make;(refine qQn rfl _ _ 22 rfl 3 i0 _ 1 Tryz.underlying22 hi hz0 hz1 rfl _ _ _ _ p.length p.length rfl rfl rfl rfl (by omega) (by rw [hz2];omega) (by unfold maxLen;omega) H1 ?_);intro w2 H2;replace H2:=(show Hd w0 (SlcC 3 (Enc.size Int) w1.heap.size p.length p.length (flat (qZF p.length))::qZG t []::R) w2 by rw [← qVc];exact H2))
      have HS:Hd w0 _ (w2.alloc (.cells #[.slice a p.length c,.int .i64 0,.bool false,.slice (some ⟨w1.heap.size,0,none⟩) p.length p.length,.func (.func 148) #[] #[.pointer (some ⟨tb,0,none⟩)]] 300)):=(show Hd w0 (SlE 3 (.slice none 0 0) ([]:List Int)::SlcC 3 (Enc.size Int) w1.heap.size p.length p.length (flat (qZF p.length))::qZG t []::R) w2 from H2.slc_nil _ _).fol
      go_loopw [29,9] (fun x ov wr=>∃(k n:Nat) (e o:List Int) (vv:Value),k≤p.length∧x=.int .i64 k∧vv=ov∧EInv p k e o∧o.length=n∧n≤4∧qQM (p.drop k) k n=qQW p∧qJw (p.drop k) k e o=qJw p 0 (qZF p.length) [] ∧
        Hd w0 (SlE 3 vv o::cel w2.heap.size 300 #[.slice a p.length c,.int .i64 0,.bool false,.slice (some ⟨w1.heap.size,0,none⟩) p.length p.length,.func (.func 148) #[] #[.pointer (some ⟨tb,0,none⟩)]]::SlEC 3 w1.heap.size p.length e::qZG t []::R) wr) (fun x _ _=>p.length-(intOf x).toNat)
      case atStart=>exact ⟨0,0,qZF p.length,[],_,Nat.zero_le _,rfl,rfl,EInv.start p,rfl,by omega,hcm.out,rfl,by
        have e1:(qZF p.length).length=p.length:=by simp [qZF]
        unfold SlE SlEC
        rw [e1]
        exact HS.re⟩
      case round =>
        clear HS H1 H2
        obtain ⟨k,n,e,o,vv,hk,rfl,rfl,hI,hon,hn4b,hC,hE,H3⟩:=hrel
        by_cases hlt:k<p.length
        · obtain ⟨x,hx⟩:∃x,p[k]? = some x:=⟨p[k],List.getElem?_eq_getElem hlt⟩
          obtain ⟨g,c2,hv2,-,hcell⟩:=hp.out.at hx
          injection hv2 with hv3 hv4 hv5
          subst hv3;subst hv5
          have HR:Hd w0 R wr:=H3.re
          have f0:=hcell HR 0 _ rfl
          have f1:=hcell HR 1 _ rfl
          have f2:=hcell HR 2 _ rfl
          have f3:=hcell HR 3 _ rfl
          simp only [Enc.size,Nat.add_zero] at f0 f1 f2 f3
          rw [qKe hx] at hC hE
          have n1:¬(k:Int)<0:=by omega
          have n2:(k:Int)<p.length:=by omega
          have n3:¬p.length≤k:=by omega
          have g5:IntKind.i64.wrap ((k:Int)+1)=(k:Int)+1:=IntWalk.i64_in _ (by omega)
          obtain ⟨xk,xr,xn,xv⟩:=x
          have HA:Hd w0 _ (wr.alloc (.cells #[.int .i64 xk,.int .i64 xr,.int .i64 xn,.int .i64 xv] 83)):=H3.fol
          rw [qQM] at hC
          rw [qJw] at hE
          dsimp only at f0 f1 f2 f3 hC hE
          have hfo:qQL ⟨xk,xr,xn,xv⟩=true:=by
            cases hf:qQL ⟨xk,xr,xn,xv⟩ with
            | true=>rfl
            | false=>rw [if_pos hf] at hC;rw [← hC] at hc;simp at hc
          rw [if_neg (by rw [hfo];decide)] at hC
          clear hcell HR hv4
          by_cases h10:xk=10
          · subst h10
            rw [if_pos rfl] at hC hE
            have hn4:¬n=4:=fun e=>by rw [if_pos e] at hC;rw [← hC] at hc;simp at hc
            rw [if_neg hn4] at hC
            have hI2:=Lib.hid (hI.open_ hx)
            have hS:∀ {v':Value} {L:List Pr} {w:World},Hd w0 (Slc 3 1 v' (o.length+1) (flat o++[.int .i64 k])::L) w→Hd w0 (SlE 3 v' (o++[(k:Int)])::L) w:=by
              intro v' L w h
              have e1:(o++[(k:Int)]).length=o.length+1:=by simp
              have e2:flat (o++[(k:Int)])=flat o++[.int .i64 k]:=by rw [qQc,qQK];rfl
              unfold SlE
              rw [e1,e2]
              exact h
            replace hC:=Lib.hid hC
            replace hE:=Lib.hid hE
            have HP:Hd w0 _ ((wr.alloc (.cells #[.int .i64 10,.int .i64 xr,.int .i64 xn,.int .i64 xv] 83)).alloc (.cells #[.int .i64 k] 3)):=HA.fol
            clear hI hx H3
            go_wp2_with (at_builtin;(refine qQb rfl _ _ 22 rfl 3 i0 _ 1 8 Tryz.underlying22 hi hz0 hz1 hz2 rfl _ _ _ rfl (HP.v vv) ⟨wr.heap.size+1,0,none⟩ 1 1 [.int .i64 k] rfl rfl (qQA (HP.k (wr.heap.size+1))) (by simp [Value.oneCell']) (by unfold maxLen;omega) (by omega) ?_);intro v' w4 H4;have HF:=hS H4)
            go_roundw
            case rel=>exact ⟨k+1,n+1,e,o++[(k:Int)],_,by omega,by simp,rfl,hI2.out,by rw [List.length_append,hon];rfl,by omega,hC.out,hE.out,by exact HF.re⟩
            case measure=>simp [intOf];omega
          · rw [if_neg h10] at hC hE
            by_cases h11:xk=11
            · subst h11
              rw [if_pos rfl] at hC hE
              have hn0:¬n=0:=fun e=>by rw [if_pos e] at hC;rw [← hC] at hc;simp at hc
              rw [if_neg hn0] at hC
              rcases qQr o with rfl | ⟨l,y,rfl⟩
              · exact absurd hon.symm hn0
              obtain ⟨j,rfl,hjk⟩:=hI.op y (by simp)
              have hI2:=Lib.hid (hI.close hx h10)
              rw [List.getLast?_concat,List.dropLast_concat,Option.getD_some,Int.toNat_natCast] at hE
              have hl1:(l++[(j:Int)]).length=l.length+1:=by simp
              obtain ⟨g2,cap2,hov,HB⟩:=(HA.v vv).slc_at (by omega)
              rw [hl1] at hov HB
              subst hov
              have hcap:=HB.slcC.2.1
              have hcm2:=HB.slcC.2.2.1
              have cg:(wr.alloc (.cells #[.int .i64 11,.int .i64 xr,.int .i64 xn,.int .i64 xv] 83)).cell? ⟨g2,l.length,none⟩=some (.int .i64 j):=by
                have:=HB.slcC_rd (qQi (l:=l++[(j:Int)]) (k:=l.length) (x:=(j:Int)) (by simp) (j:=0) (u:=.int .i64 j) rfl)
                simpa [Enc.size] using this
              have hel:=hI.len
              have c3:(wr.alloc (.cells #[.int .i64 11,.int .i64 xr,.int .i64 xn,.int .i64 xv] 83)).cell? ⟨w2.heap.size,3,none⟩=some (.slice (some ⟨w1.heap.size,0,none⟩) p.length p.length):=(HB.k w2.heap.size).ce 3 rfl
              have HE:=HB.k w1.heap.size
              obtain ⟨ej,hej⟩:∃y,e[j]? = some y:=⟨e[j]'(by omega),List.getElem?_eq_getElem _⟩
              have ce:(wr.alloc (.cells #[.int .i64 11,.int .i64 xr,.int .i64 xn,.int .i64 xv] 83)).cell? ⟨w1.heap.size,j,none⟩=some (.int .i64 ej):=by
                have:=HE.slcC_rd (qQi hej (j:=0) rfl)
                simpa [Enc.size] using this
              have fe:=HE.slcC_fr j
              have HS:=HE.slcC_set (j:=j) (by rw [qQf];simp [Enc.size];omega) (.int .i64 k)
              have e3:(flat e).set j (.int .i64 k)=flat (e.set j (k:Int)):=by
                have:=qJT (l:=e) (k:=j) (x:=ej) (y:=(k:Int)) hej (j:=0) (v:=.int .i64 k) (by decide) rfl
                simpa [Enc.size] using this
              rw [e3] at HS
              have HC:=HS.b2.slcC_cut (k:=l.length) (c:=cap2) (by omega) (by omega) (Nat.le_refl _)
              have e5:(flat (l++[(j:Int)])).take (l.length*Enc.size Int)=flat l:=by rw [qXT,List.take_left' rfl]
              rw [e5] at HC
              have HD:=HC.slc_mk.b2
              have e6:e.length=(e.set j (k:Int)).length:=by rw [List.length_set]
              rw [e6] at HD
              clear HC HS e5 e6
              have g6:IntKind.i64.wrap (((l.length:Int)+1)-1)=(l.length:Int):=by rw [IntWalk.i64_in _ (by omega)];omega
              have g7:IntKind.i64.wrap (l.length:Int)=(l.length:Int):=IntWalk.i64_in _ (by omega)
              have m4:(l.length:Int)<(l.length:Int)+1:=by omega
              have m0:¬(j:Int)<0:=by omega
              have m1:(j:Int)<p.length:=by omega
              have m2:¬p.length≤j:=by omega
              have m3:l.length≤cap2:=by omega
              have hll:=Lib.hid (show l.length=n-1 by rw [← hon];simp)
              replace hC:=Lib.hid hC
              replace hE:=Lib.hid hE
              replace hon:=Lib.hid hon
              clear hI hx H3 HB HE hcm2 e3 hl1 hej hel HA
              go_wp2_with fail
              refine wp_region_still_tail 12 (by kernel_rfl) (by kernel_rfl) ?_
              simp only [List.take_succ_cons,List.take_zero,List.drop_succ_cons,List.drop_zero,World.drew_eq]
              (repeat still_step)
              refine wpStill_nil ?_
              go_wp2_with fail
              go_roundw
              case rel=>exact ⟨k+1,n-1,e.set j (k:Int),l,_,by omega,by simp,rfl,hI2.out,hll.out,by omega,hC.out,hE.out,by exact (Hd.re HD).drew⟩
              case measure=>simp [intOf];omega
            · rw [if_neg h11] at hC hE
              have hI2:=Lib.hid (hI.skip hx h10)
              replace hC:=Lib.hid hC
              replace hE:=Lib.hid hE
              clear hI hx H3
              go_wp2_with fail
              go_roundw
              case rel=>exact ⟨k+1,n,e,o,_,by omega,by simp,rfl,hI2.out,hon,hn4b,hC.out,hE.out,by exact HA.re⟩
              case measure=>simp [intOf];omega
        · obtain rfl:k=p.length:=by omega
          rw [List.drop_length] at hC hE
          rw [qQM] at hC
          rw [qJw] at hE
          have hn0:n=0:=by
            rcases Nat.eq_zero_or_pos n with h | h
            · exact h
            · rw [if_pos h] at hC;rw [← hC] at hc;simp at hc
          subst hn0
          have ho:=List.eq_nil_of_length_eq_zero hon
          subst ho
          have hEe:e=qQ6 p:=by unfold qQ6;rw [← hE]
          have hW:WOk p e:=hI.ok hc
          subst hEe
          have HK:Hd w0 (WkP w2.heap.size (.slice a p.length c) (.slice (some ⟨w1.heap.size,0,none⟩) p.length p.length) t ⟨[],false⟩::SlE 3 (.slice (some ⟨w1.heap.size,0,none⟩) p.length p.length) (qQ6 p)::R) wr:=by
            refine WkP.shut ?_
            dsimp only
            rw [htv]
            have H4:Hd w0 (SlEC 3 w1.heap.size p.length (qQ6 p)::cel w2.heap.size 300 #[.slice a p.length c,.int .i64 0,.bool false,.slice (some ⟨w1.heap.size,0,none⟩) p.length p.length,.func (.func 148) #[] #[.pointer (some ⟨tb,0,none⟩)]]::qZG t []::R) wr:=H3.re
            have H5:=H4.slc_mk
            rw [hW.len] at H5
            have H6:Hd w0 (cel w2.heap.size 300 #[.slice a p.length c,.int .i64 0,.bool false,.slice (some ⟨w1.heap.size,0,none⟩) p.length p.length,.func (.func 148) #[] #[.pointer (some ⟨tb,0,none⟩)]]::qZG t []::Slc 3 (Enc.size Int) (.slice (some ⟨w1.heap.size,0,none⟩) p.length p.length) p.length (flat (qQ6 p))::R) wr:=H5.re
            unfold SlE
            rw [hW.len]
            exact H6
          have hp3:Srd w0 (SlE 3 (.slice (some ⟨w1.heap.size,0,none⟩) p.length p.length) (qQ6 p)::R) (.slice a p.length c) p:=hp.out.of fun h=>h.tail
          have hpart:=zJf hW hp3 (Srd.slE HK.tail) (p.length+1) 0 p.length (by omega) (Nat.zero_le _) (Nat.le_refl _) (by simp) HK
          have hle:=qXP (p:=p) (ends:=qQ6 p) (p.length+1) 0 p.length ⟨[],false⟩ (by simp)
          clear hC hE hI hW hp3 HK H3
          have hwm:WM=if (qZI p (qQ6 p) (p.length+1) 0 p.length ⟨[],false⟩).1 then (qZH (qZI p (qQ6 p) (p.length+1) 0 p.length ⟨[],false⟩).2 ⟨9,0,0,0⟩).2 else (qZI p (qQ6 p) (p.length+1) 0 p.length ⟨[],false⟩).2:=by rw [← hWM.out];rfl
          obtain ⟨r,hr⟩:∃r,qZI p (qQ6 p) (p.length+1) 0 p.length ⟨[],false⟩=r:=⟨_,rfl⟩
          rw [hr] at hpart hle hwm
          clear hr
          have n9:¬(p.length:Int)<p.length:=by omega
          rw [show ((0:Nat):Int)=0 from rfl] at hpart
          cases hb:r.1 with
          | false =>
            rw [hb] at hpart hwm
            rw [if_neg (by decide)] at hwm
            subst hwm
            go_wp2_with fail
            refine hpart.mono ?_
            rintro e w5 ⟨rfl,H6⟩
            clear hpart
            have d1:=(show _=some (.int .i64 r.2.out.length) from ((WkP.opened H6).k w2.heap.size).ce 1 rfl)
            have d2:=(show _=some (.bool r.2.over) from ((WkP.opened H6).k w2.heap.size).ce 2 rfl)
            cases ho:r.2.over with
            | true =>
              rw [ho] at d2
              go_wp2_with fail
              all_goals (go_ret2;exact ⟨qZl (by first | rfl | (rw [ho];rfl) | (simp_all;done)) (by first | rfl | (rw [ho];rfl) | (simp_all;done)),(WkP.opened H6).tail.re⟩)
            | false =>
              rw [ho] at d2
              go_wp2_with fail
              all_goals (go_ret2;exact ⟨qZl (by first | rfl | (rw [ho];rfl) | (simp_all;done)) (by first | rfl | (rw [ho];rfl) | (simp_all;done)),(WkP.opened H6).tail.re⟩)
          | true =>
            rw [hb] at hpart hwm
            rw [if_pos rfl] at hwm
            obtain ⟨q,hq⟩:∃q,qZH r.2 ⟨9,0,0,0⟩=q:=⟨_,rfl⟩
            rw [hq] at hwm
            subst hwm
            go_wp2_with fail
            refine hpart.mono ?_
            rintro e w5 ⟨rfl,H5⟩
            clear hpart
            have hstep:=qU5 H5 hle ⟨9,0,0,0⟩
            rw [hq] at hstep
            clear H5
            go_wp2_with fail
            refine hstep.mono ?_
            rintro e w6 ⟨rfl,H6⟩
            clear hstep
            have d1:=(show _=some (.int .i64 q.2.out.length) from ((WkP.opened H6).k w2.heap.size).ce 1 rfl)
            have d2:=(show _=some (.bool q.2.over) from ((WkP.opened H6).k w2.heap.size).ce 2 rfl)
            cases ho:q.2.over with
            | true =>
              rw [ho] at d2
              go_wp2_with fail
              all_goals (go_ret2;exact ⟨qZl (by first | rfl | (rw [ho];rfl) | (simp_all;done)) (by first | rfl | (rw [ho];rfl) | (simp_all;done)),(WkP.opened H6).tail.re⟩)
            | false =>
              rw [ho] at d2
              go_wp2_with fail
              all_goals (go_ret2;exact ⟨qZl (by first | rfl | (rw [ho];rfl) | (simp_all;done)) (by first | rfl | (rw [ho];rfl) | (simp_all;done)),(WkP.opened H6).tail.re⟩)
  · rw [if_neg hc,if_neg hc,if_neg hc]
    obtain ⟨E,hE⟩:∃E,(qQW p).2=E:=⟨_,rfl⟩
    rw [hE] at hcheck hc ⊢
    subst hv
    clear hp hp2
    go_enter Tryz.func147,Tryz.ntmps147
    go_wp2_with fail
    refine hcheck.mono ?_
    rintro e w1 ⟨rfl,H1⟩
    go_wp2_with fail
    go_ret2
    exact ⟨rfl,H1⟩
end
end
section
open Go.RowKit Spl
section
variable {w0 w:World} {R:List Pr} {pv:Value}
theorem zJj {p:List OpM} (H:Hd w0 R w) (hp:Srd w0 R pv p) :
    Calls Tryz.prog 146 #[pv] w fun e w'=>e=.returned (.tuple #[.int .i64 (if (qQW p).2=0 then (if (qZ0 p).over then 0 else (qZ0 p).out.length) else 0),.int .i64 (qZj p).2])∧Hd w0 R w':=by
  have h1:=zJe (t:=.nobody) (Hd.put trivial H) hp
  have e2:(if (qQW p).2=0 then (if (qZ0 p).over then 5 else 0) else (qQW p).2)=(qZj p).2:=by
    unfold qZj
    split
    · split <;> rfl
    · rfl
  rw [e2] at h1
  obtain ⟨n,hn⟩:∃n:Int,(if (qQW p).2=0 then (if (qZ0 p).over then 0 else ((qZ0 p).out.length:Int)) else 0)=n:=⟨_,rfl⟩
  obtain ⟨E,hE⟩:∃E,(qZj p).2=E:=⟨_,rfl⟩
  rw [hn,hE] at h1
  rw [hn,hE]
  simp only [qKD.v] at h1
  clear hp H e2 hn hE
  go_enter Tryz.func146,Tryz.ntmps146
  go_wp2_with fail
  refine h1.mono ?_
  rintro e w1 ⟨rfl,H1⟩
  go_wp2_with fail
  go_ret2
  exact ⟨rfl,H1.tail⟩
theorem zJJ {p:List OpM} (H:Hd w0 R w) (hp:Srd w0 R pv p) :
    Calls Tryz.prog 115 #[pv] w fun e w'=>∃v,e=.returned (.tuple #[v,.int .i64 (qZj p).2])∧Hd w0 (SlE 83 v (qZj p).1::R) w':=by
  have hcount:=zJj H hp
  by_cases hz:(qZj p).2=0
  · have hc:(qQW p).2=0:=by
      unfold qZj at hz
      split at hz
      · assumption
      · exact hz
    have ho:(qZ0 p).over=false:=by
      unfold qZj at hz
      rw [if_pos hc] at hz
      cases ho:(qZ0 p).over with
      | false=>rfl
      | true=>rw [ho] at hz;simp at hz
    have hs:qZj p=((qZ0 p).out,0):=by unfold qZj;rw [if_pos hc,ho];rfl
    have hl:(qZ0 p).out.length≤4096:=by
      have:=qXP (p:=p) (ends:=qQ6 p) (p.length+1) 0 p.length ⟨[],false⟩ (by simp)
      unfold qZ0
      split
      · exact qJv this
      · exact this
    rw [hz,if_pos hc,ho] at hcount
    simp only [Bool.false_eq_true,if_false] at hcount
    rw [hs]
    obtain ⟨i0,hi,hz0,hz1,hz2⟩:=info_parts qZS
    have hwalk:∀(lb:Nat) (w3:World),Hd w0 (qZG (.box lb) []::R) w3→Calls Tryz.prog 147 #[pv,.func (.func 148) #[] #[.pointer (some ⟨lb,0,none⟩)]] w3 fun e w'=>e=.returned (.tuple #[.int .i64 (qZ0 p).out.length,.int .i64 0])∧Hd w0 (qZG (.box lb) (qZ0 p).out::R) w':=by
      intro lb w3 h3
      have:=zJe (t:=.box lb) h3 hp
      rw [if_pos hc,if_pos hc,if_pos hc,ho] at this
      simpa [qKD.v] using this
    obtain ⟨L,hL⟩:∃L,(qZ0 p).out=L:=⟨_,rfl⟩
    rw [hL] at hcount hwalk hl ⊢
    replace hwalk:=Lib.hid hwalk
    clear hp hL hs ho hc hz
    go_enter Tryz.func115,Tryz.ntmps115
    go_wp2_with fail
    refine hcount.mono ?_
    rintro e w1 ⟨rfl,H1⟩
    clear hcount H
    go_wp2_with (at_make;(refine qQn rfl _ _ 78 rfl 83 i0 _ 4 Tryz.underlying78 hi hz0 hz1 rfl _ _ _ _ 0 L.length rfl rfl rfl rfl (by omega) (by rw [hz2];omega) (by unfold maxLen;omega) H1 ?_);intro w2 H2;rw [qQw] at H2;have HS:Hd w0 _ (w2.alloc (.cells #[.slice (some ⟨w1.heap.size,0,none⟩) 0 L.length] 78)):=(show Hd w0 (SlE 83 (.slice (some ⟨w1.heap.size,0,none⟩) 0 L.length) ([]:List OpM)::R) w2 from H2.slc_mk).fol;have hw:=hwalk.out w2.heap.size _ (qZG.shut (tb:=w2.heap.size) (l:=[]) (v:=.slice (some ⟨w1.heap.size,0,none⟩) 0 L.length) HS))
    refine hw.mono ?_
    rintro e w3 ⟨rfl,H4⟩
    clear hw HS H2 H1
    obtain ⟨v,H5⟩:=qZG.opened H4
    have c0:=(show _=some v from (H5.k w2.heap.size).ce 0 rfl)
    obtain ⟨a',c',hv,-,-,-,-⟩:=H5.tail.slc_form
    subst hv
    go_wp2_with fail
    go_ret2
    exact ⟨_,rfl,H5.tail⟩
  · have hs:(qZj p).1 = []:=by
      unfold qZj at hz ⊢
      split
      · rename_i hc
        rw [if_pos hc] at hz
        split
        · rfl
        · rename_i h2
          rw [if_neg h2] at hz
          exact absurd rfl hz
      · rfl
    rw [hs]
    obtain ⟨E,hE⟩:∃E,(qZj p).2=E:=⟨_,rfl⟩
    rw [hE] at hcount hz ⊢
    obtain ⟨n,hn⟩:∃n:Int,(if (qQW p).2=0 then (if (qZ0 p).over then 0 else ((qZ0 p).out.length:Int)) else 0)=n:=⟨_,rfl⟩
    rw [hn] at hcount
    clear hp hs hE H hn
    go_enter Tryz.func115,Tryz.ntmps115
    go_wp2_with fail
    refine hcount.mono ?_
    rintro e w1 ⟨rfl,H1⟩
    go_wp2_with fail
    go_ret2
    exact ⟨_,rfl,H1.slc_nil _ _⟩
end
end
section
open Go.RowKit Spl
structure qQY where
  nm:ByteArray
  lv:Int
  fr:Int
  needs:List qZy
  cd:ByteArray
  p:Int
  f:Int
  g:Int
structure RowM where
  t:qQY
  steps:List OpM
structure TkM where
  words:Int
  units:List Int
  rows:List RowM
  names:List RowN
structure qUt (S:Hp) (r:RowM) (v:RowV):Prop where
  nm:v.nm=r.t.nm
  lv:v.lv=r.t.lv
  fr:v.fr=r.t.fr
  cd:v.cd=r.t.cd
  p:v.p=r.t.p
  f:v.f=r.t.f
  g:v.g=r.t.g
  needs:RoE S 63 (.slice v.na v.nl v.nc) r.t.needs
  steps:RoE S 83 (.slice v.sa v.sl v.sc) r.steps
theorem qUt.mono {S S':Hp} {r:RowM} {v:RowV} (h:qUt S r v) (k:Le S S'):qUt S' r v:=⟨h.nm,h.lv,h.fr,h.cd,h.p,h.f,h.g,h.needs.mono k,h.steps.mono k⟩
structure qJa (S:Hp) (rs:List RowM) (vs:List RowV):Prop where
  len:vs.length=rs.length
  at_:∀(i:Nat) (r:RowM) (v:RowV),rs[i]? = some r→vs[i]? = some v→qUt S r v
theorem qJa.mono {S S':Hp} {rs:List RowM} {vs:List RowV} (h:qJa S rs vs) (k:Le S S'):qJa S' rs vs:=⟨h.len,fun i r v a b=>(h.at_ i r v a b).mono k⟩
theorem qJa.get {S:Hp} {rs:List RowM} {vs:List RowV} (h:qJa S rs vs) {i:Nat} {r:RowM} (hr:rs[i]? = some r):∃v,vs[i]? = some v∧qUt S r v:=by
  have hi:i<vs.length:=by rw [h.len];exact qQa hr
  exact ⟨vs[i],List.getElem?_eq_getElem hi,h.at_ i r _ hr (List.getElem?_eq_getElem hi)⟩
theorem qJa.snoc {S:Hp} {rs:List RowM} {vs:List RowV} {r:RowM} {v:RowV} (h:qJa S rs vs) (hv:qUt S r v):qJa S (rs++[r]) (vs++[v]):=by
  refine ⟨by simp [h.len],fun i a b ha hb=>?_⟩
  by_cases hi:i<rs.length
  · rw [List.getElem?_append_left hi] at ha
    rw [List.getElem?_append_left (by rw [h.len];exact hi)] at hb
    exact h.at_ i a b ha hb
  · rw [List.getElem?_append_right (by omega)] at ha
    rw [List.getElem?_append_right (by rw [h.len];omega),h.len] at hb
    obtain h0:i-rs.length=0:=by have:=qQa ha;simp at this;omega
    rw [h0] at ha hb
    simp at ha hb
    subst ha;subst hb
    exact hv
structure TkV where
  vu:Value
  vr:Value
  vn:Value
  rows:List RowV
def TkP (t:Nat) (m:TkM) (S:Hp):Pr:=ex fun x:TkV=>all [fact (qJa S m.rows x.rows),cel t 77 #[.int .i64 m.words,x.vu,x.vr,x.vn],SlE 3 x.vu m.units,SlE 80 x.vr x.rows,SlE 203 x.vn m.names]
instance (t:Nat) (m:TkM) (S:Hp):Key (TkP t m S) (.b t):=⟨trivial⟩
structure TkM.Ok (m:TkM):Prop where
  w:0≤m.words∧m.words≤65536
  u:m.units.length≤16
  uv:∀x∈m.units,1≤x∧x≤255
  n:m.rows.length≤64
  lv:∀r∈m.rows,1≤r.t.lv∧r.t.lv≤32
  fr:∀r∈m.rows,0≤r.t.fr∧r.t.fr≤4096
  nd:∀r∈m.rows,r.t.needs.length≤16∧∀x∈r.t.needs,0≤x.res∧x.res<m.units.length∧1≤x.units∧x.units≤255
  st:∀r∈m.rows,r.steps.length≤4096
  nm:qQ9 m.names
  nn:m.names.length=m.rows.length
section
variable {w0 w:World} {R:List Pr} {t:Nat} {m:TkM} {S:Hp}
theorem TkP.opened (H:Hd w0 (TkP t m S::R) w):∃x:TkV,qJa S m.rows x.rows∧Hd w0 (cel t 77 #[.int .i64 m.words,x.vu,x.vr,x.vn]::SlE 3 x.vu m.units::SlE 80 x.vr x.rows::SlE 203 x.vn m.names::R) w:=by
  obtain ⟨x,H⟩:=H.out
  have H2:=H.flat
  exact ⟨x,Hd.get H2,H2.tail⟩
theorem TkP.shut {x:TkV} (H:Hd w0 (cel t 77 #[.int .i64 m.words,x.vu,x.vr,x.vn]::SlE 3 x.vu m.units::SlE 80 x.vr x.rows::SlE 203 x.vn m.names::R) w) (h:qJa S m.rows x.rows):Hd w0 (TkP t m S::R) w :=
  Hd.into x (Hd.pack (L:=[_,_,_,_,_]) (Hd.put h H))
theorem TkP.mono {S':Hp} (H:Hd w0 (TkP t m S::R) w) (k:Le S S'):Hd w0 (TkP t m S'::R) w:=by
  obtain ⟨x,hx,H1⟩:=TkP.opened H
  exact TkP.shut H1 (hx.mono k)
theorem qqu (H:Hd w0 (TkP t m S::R) w):Calls Tryz.prog 9 #[.pointer (some ⟨t,0,none⟩)] w fun e w'=>e=.returned (.int .i64 m.rows.length)∧w=w':=by
  obtain ⟨⟨vu,vr,vn,rows⟩,hx,H1⟩:=TkP.opened H
  have hc:=qXq (o:=2) ((H1.v vr).k t) rfl
  rw [hx.len] at hc
  clear H H1 hx
  go_enter Tryz.func9,Tryz.ntmps9
  go_wp2_with fail
  refine hc.mono ?_
  rintro e w' ⟨rfl,rfl⟩
  go_wp2_with fail
  go_ret
  exact ⟨rfl,rfl⟩
theorem qUy (H:Hd w0 (TkP t m S::R) w):Calls Tryz.prog 19 #[.pointer (some ⟨t,0,none⟩)] w fun e w'=>e=.returned (.int .i64 m.words)∧w=w':=by
  obtain ⟨⟨vu,vr,vn,rows⟩,hx,H1⟩:=TkP.opened H
  have c0:=(show _=some (.int .i64 m.words) from (H1.k t).ce 0 rfl)
  clear H H1 hx
  go_enter Tryz.func19,Tryz.ntmps19
  go_wp2_with fail
  go_ret
  exact ⟨rfl,rfl⟩
theorem qYe (H:Hd w0 (TkP t m S::R) w) (hm:m.Ok):Calls Tryz.prog 24 #[.pointer (some ⟨t,0,none⟩)] w fun e w'=>∃g,e=.returned (.slice (some ⟨g,0,none⟩) m.units.length m.units.length)∧Hd w0 (SlEC 3 g m.units.length m.units::TkP t m S::R) w':=by
  obtain ⟨⟨vu,vr,vn,rows⟩,hx,H1⟩:=TkP.opened H
  obtain ⟨a,cap,rfl,-,-,-,-⟩:=(H1.v vu).slc_form
  have c1:=(show _=some (.slice a m.units.length cap) from (H1.k t).ce 1 rfl)
  have hu:=hm.u
  obtain ⟨i0,hi,hz0,hz1,hz2⟩:=info_parts qJ9
  have hfl:=Lib.hid (qQf m.units)
  have hsh:=Lib.hid (fun (w':World) (L:List Pr) (h:Hd w0 (cel t 77 #[.int .i64 m.words,.slice a m.units.length cap,vr,vn]::SlE 3 (.slice a m.units.length cap) m.units::SlE 80 vr rows::SlE 203 vn m.names::L) w')=>TkP.shut (S:=S) (m:=m) (x:=⟨_,vr,vn,rows⟩) h hx)
  clear H hx hm
  go_enter Tryz.func24,Tryz.ntmps24
  go_wp2_with fail
  refine wm 10 [(0,true),(1,true),(2,true),(3,true),(4,true),(6,true),(7,true),(8,true),(9,true),(5,false)] (fun w'=>w'.cell? ⟨t,1,none⟩=some (.slice a m.units.length cap)) (c1) ?_
  simp only [List.drop_succ_cons,List.drop_zero]
  iterate 9 (refine mh ?_;(try simp only [Act.put,List.setIfInBounds_toArray,List.set_cons_zero,List.set_cons_succ]))
  refine mm ?_
  go_wp2_with (at_make;(refine qQn rfl _ _ 22 rfl 3 i0 _ 1 Tryz.underlying22 hi hz0 hz1 rfl _ _ _ _ 0 m.units.length rfl rfl rfl rfl (by omega) (by rw [hz2];omega) (by unfold maxLen;omega) (Hd.drew H1) ?_);intro w1 H3;rw [qQw] at H3)
  refine qQd ((show _=some (.slice a m.units.length cap) from (H3.k t).ce 1 rfl)) ?_
  refine qQe ?_
  have hn1:=Lib.hid ((H3.v (.slice a m.units.length cap)).slc_news)
  go_wp2_with (at_builtin;(refine qQl rfl _ _ 22 rfl 3 i0 1 Tryz.underlying22 hi hz1 _ 0 m.units.length [] rfl H3 a m.units.length _ (flat m.units) rfl hfl.out hn1.out.1 hn1.out.2 (qQx m.units) (by omega) ?_);intro w2 H4;rw [Nat.zero_add,List.nil_append] at H4)
  go_ret
  exact ⟨_,rfl,(hsh.out _ _ H4.d5).b2⟩
end
end
section
open Go.RowKit Spl
def qQo (rs:List RowM) (lv:Int):Int:=rs.foldl (fun n r=>if r.t.lv=lv then max n r.t.fr else n) 0
theorem qXa {rs:List RowM} {k:Nat} {r:RowM} {lv:Int} (h:rs[k]? = some r):qQo (rs.take (k+1)) lv=if r.t.lv=lv then max (qQo (rs.take k) lv) r.t.fr else qQo (rs.take k) lv:=by
  have e:rs.take (k+1)=rs.take k++[r]:=by rw [List.take_add_one,h];rfl
  rw [e]
  simp [qQo,List.foldl_append]
theorem qZ4 {rs:List RowM} {lv:Int} (hf:∀r∈rs,0≤r.t.fr∧r.t.fr≤4096):∀k,k≤rs.length→0≤qQo (rs.take k) lv∧qQo (rs.take k) lv≤4096:=by
  intro k
  induction k with
  | zero=>intro _;simp [qQo]
  | succ k ih =>
    intro hk
    have h1:=ih (by omega)
    have hr:rs[k]? = some (rs[k]'(by omega)):=List.getElem?_eq_getElem _
    have h2:=hf _ (List.mem_of_getElem? hr)
    rw [qXa hr]
    split <;> omega
def qQP (rs:List RowM) (k:Nat):Int:=((List.range k).map fun i:Nat=>qQo rs i).sum
theorem qZd {rs:List RowM} {k:Nat}:qQP rs (k+1)=qQP rs k+qQo rs k:=by simp [qQP,List.range_succ]
theorem qY5 {rs:List RowM} (hf:∀r∈rs,0≤r.t.fr∧r.t.fr≤4096):∀k:Nat,0≤qQP rs k∧qQP rs k≤k*4096:=by
  intro k
  induction k with
  | zero=>simp [qQP]
  | succ k ih =>
    have:=qZ4 hf (lv:=(k:Int)) rs.length (Nat.le_refl _)
    rw [List.take_length] at this
    rw [qZd]
    push_cast
    omega
def qQ1 (rs:List RowM):Int:=qQP rs 33
def qXg (rs:List RowM) (lv fr:Int):Int:=if (1≤lv∧lv≤32)∧0≤fr∧fr≤4096 then qQ1 rs+max 0 (fr-qQo rs lv) else qQ1 rs
section
variable {w0 w:World} {R:List Pr} {t:Nat} {m:TkM} {S:Hp}
theorem qVB (H:Hd w0 (TkP t m S::R) w) (hm:m.Ok) (lv:Int):Calls Tryz.prog 49 #[.pointer (some ⟨t,0,none⟩),.int .i64 lv] w fun e w'=>e=.returned (.int .i64 (qQo m.rows lv))∧Hd w0 (TkP t m S::R) w':=by
  obtain ⟨⟨vu,vr,vn,rows⟩,hx,H1⟩:=TkP.opened H
  dsimp only at hx H1
  have hlen:=qXq (o:=2) ((H1.v vr).k t) rfl
  have hrl:=hx.len
  rw [hrl] at hlen
  have hn:=hm.n
  have hfr:=Lib.hid hm.fr
  clear H hm
  replace hx:=Lib.hid hx
  go_enter Tryz.func49,Tryz.ntmps49
  go_wp2_with fail
  refine hlen.mono ?_
  rintro e w' ⟨rfl,rfl⟩
  clear hlen
  go_wp2_with fail
  go_loopw [5,13] (fun n i wr=>∃k:Nat,k≤m.rows.length∧i=.int .i64 k∧n=.int .i64 (qQo (m.rows.take k) lv)∧Hd w0 (cel t 77 #[.int .i64 m.words,vu,vr,vn]::SlE 3 vu m.units::SlE 80 vr rows::SlE 203 vn m.names::R) wr) (fun _ i _=>m.rows.length-(intOf i).toNat)
  case atStart=>exact ⟨0,Nat.zero_le _,rfl,rfl,H1⟩
  case round =>
    clear H1
    obtain ⟨k,hk,rfl,rfl,H1⟩:=hrel
    have hle:=qZ4 hfr.out (lv:=lv) k hk
    by_cases hlt:k<m.rows.length
    · obtain ⟨r,hr⟩:∃r,m.rows[k]? = some r:=⟨m.rows[k],List.getElem?_eq_getElem hlt⟩
      obtain ⟨v,hv,hrv⟩:=hx.out.get hr
      have hat:=qJ4 (o:=2) ((H1.v vr).k t) rfl (by omega) k v hv
      have hs:=qXa (lv:=lv) hr
      have hvl:=hrv.lv
      have hvf:=hrv.fr
      obtain ⟨nm,vlv,vfr,na,nl,nc,cd,p,f,g,sa,sl,sc⟩:=v
      dsimp only at hvl hvf hat
      subst hvl;subst hvf
      have n1:(k:Int)<m.rows.length:=by omega
      have g5:IntKind.i64.wrap ((k:Int)+1)=(k:Int)+1:=IntWalk.i64_in _ (by omega)
      obtain ⟨L,hL⟩:∃L,qQo (m.rows.take k) lv=L:=⟨_,rfl⟩
      rw [hL] at hle hs ⊢
      clear H1 hL hr hv hrv
      obtain ⟨rlv,hrlv⟩:∃x,r.t.lv=x:=⟨_,rfl⟩
      obtain ⟨rfr,hrfr⟩:∃x,r.t.fr=x:=⟨_,rfl⟩
      rw [hrlv,hrfr] at hs hat
      clear hrlv hrfr
      by_cases hlv:rlv=lv
      · rw [if_pos hlv] at hs
        subst hlv
        by_cases hmx:L<rfr
        · replace hs:=Lib.hid hs
          go_wp2_with fail
          refine hat.mono ?_
          rintro e w1 ⟨rfl,H2⟩
          clear hat
          have HA:Hd w0 _ (w1.alloc (.cells #[.string nm,.int .i64 rlv,.int .i64 rfr,.slice na nl nc,.string cd,.int .i64 p,.int .i64 f,.int .i64 g,.slice sa sl sc] 80)):=H2.fol
          go_wp2_with fail
          go_roundw
          case rel=>exact ⟨k+1,by omega,by simp,by rw [hs.out],by exact HA.re⟩
          case measure=>simp [intOf];omega
        · replace hs:=Lib.hid hs
          go_wp2_with fail
          refine hat.mono ?_
          rintro e w1 ⟨rfl,H2⟩
          clear hat
          have HA:Hd w0 _ (w1.alloc (.cells #[.string nm,.int .i64 rlv,.int .i64 rfr,.slice na nl nc,.string cd,.int .i64 p,.int .i64 f,.int .i64 g,.slice sa sl sc] 80)):=H2.fol
          go_wp2_with fail
          go_roundw
          case rel=>exact ⟨k+1,by omega,by simp,by rw [hs.out],by exact HA.re⟩
          case measure=>simp [intOf];omega
      · rw [if_neg hlv] at hs
        replace hs:=Lib.hid hs
        go_wp2_with fail
        refine hat.mono ?_
        rintro e w1 ⟨rfl,H2⟩
        clear hat
        have HA:Hd w0 _ (w1.alloc (.cells #[.string nm,.int .i64 rlv,.int .i64 rfr,.slice na nl nc,.string cd,.int .i64 p,.int .i64 f,.int .i64 g,.slice sa sl sc] 80)):=H2.fol
        go_wp2_with fail
        go_roundw
        case rel=>exact ⟨k+1,by omega,by simp,by rw [hs.out],by exact HA.re⟩
        case measure=>simp [intOf];omega
    · obtain rfl:k=m.rows.length:=by omega
      have n1:¬(m.rows.length:Int)<m.rows.length:=by omega
      rw [List.take_length]
      go_wp2_with fail
      go_ret
      exact ⟨rfl,TkP.shut (x:=⟨vu,vr,vn,rows⟩) H1 hx.out⟩
theorem qV0 (H:Hd w0 (TkP t m S::R) w) (hm:m.Ok):Calls Tryz.prog 17 #[.pointer (some ⟨t,0,none⟩)] w fun e w'=>e=.returned (.int .i64 (qQ1 m.rows))∧Hd w0 (TkP t m S::R) w':=by
  go_enter Tryz.func17,Tryz.ntmps17
  go_wp2_with fail
  go_loopw [3,5] (fun n i wr=>∃k:Nat,k≤33∧i=.int .i64 k∧n=.int .i64 (qQP m.rows k)∧Hd w0 (TkP t m S::R) wr) (fun _ i _=>33-(intOf i).toNat)
  case atStart=>exact ⟨0,Nat.zero_le _,rfl,rfl,H⟩
  case round =>
    clear H
    obtain ⟨k,hk,rfl,rfl,H1⟩:=hrel
    have hle:=qY5 hm.fr k
    have hl2:=qZ4 hm.fr (lv:=(k:Int)) m.rows.length (Nat.le_refl _)
    rw [List.take_length] at hl2
    by_cases hlt:k<33
    · have hc:=qVB H1 hm k
      have hs:=qZd (rs:=m.rows) (k:=k)
      have n1:(k:Int)<33:=by omega
      have g5:IntKind.i64.wrap ((k:Int)+1)=(k:Int)+1:=IntWalk.i64_in _ (by omega)
      have g6:IntKind.i64.wrap (qQP m.rows k+qQo m.rows k)=qQP m.rows k+qQo m.rows k:=IntWalk.i64_in _ (by omega)
      replace hs:=Lib.hid hs
      clear H1
      go_wp2_with fail
      refine hc.mono ?_
      rintro e w1 ⟨rfl,H2⟩
      clear hc
      go_wp2_with fail
      go_roundw
      case rel=>exact ⟨k+1,by omega,by simp,by rw [hs.out],H2⟩
      case measure=>simp [intOf];omega
    · obtain rfl:k=33:=by omega
      go_wp2_with fail
      go_ret
      exact ⟨rfl,H1⟩
theorem zXz (H:Hd w0 (TkP t m S::R) w) (hm:m.Ok) (lv fr:Int):Calls Tryz.prog 82 #[.pointer (some ⟨t,0,none⟩),.int .i64 lv,.int .i64 fr] w fun e w'=>e=.returned (.int .i64 (qXg m.rows lv fr))∧Hd w0 (TkP t m S::R) w':=by
  have hb:=qV0 H hm
  have hle:0≤qQ1 m.rows∧qQ1 m.rows≤33*4096:=qY5 hm.fr 33
  have hl2:=qZ4 hm.fr (lv:=lv) m.rows.length (Nat.le_refl _)
  rw [List.take_length] at hl2
  obtain ⟨B,hB⟩:∃B,qQ1 m.rows=B:=⟨_,rfl⟩
  obtain ⟨L,hL⟩:∃L,qQo m.rows lv=L:=⟨_,rfl⟩
  by_cases h:(1≤lv∧lv≤32)∧0≤fr∧fr≤4096
  · have e1:qXg m.rows lv fr=B+max 0 (fr-L):=by unfold qXg;rw [if_pos h,hB,hL]
    rw [e1]
    rw [hB] at hb hle
    have hLc:∀w1,Hd w0 (TkP t m S::R) w1→Calls Tryz.prog 49 #[.pointer (some ⟨t,0,none⟩),.int .i64 lv] w1 fun e w'=>e=.returned (.int .i64 L)∧Hd w0 (TkP t m S::R) w':=fun w1 h1=>by
      have:=qVB h1 hm lv
      rwa [hL] at this
    rw [hL] at hl2
    replace hLc:=Lib.hid hLc
    obtain ⟨⟨h1,h2⟩,h3,h4⟩:=h
    have n1:¬lv<1:=by omega
    have n2:¬32<lv:=by omega
    have n3:¬fr<0:=by omega
    have n4:¬4096<fr:=by omega
    have g5:IntKind.i64.wrap (fr-L)=fr-L:=IntWalk.i64_in _ (by omega)
    clear e1 hB hL hm H
    by_cases hmx:0<fr-L
    · rw [show max 0 (fr-L)=fr-L by omega]
      have g6:IntKind.i64.wrap (B+(fr-L))=B+(fr-L):=IntWalk.i64_in _ (by omega)
      go_enter Tryz.func82,Tryz.ntmps82
      go_wp2_with fail
      refine hb.mono ?_
      rintro e w1 ⟨rfl,H2⟩
      have hc:=hLc.out _ H2
      go_wp2_with fail
      refine hc.mono ?_
      rintro e w2 ⟨rfl,H3⟩
      go_wp2_with fail
      go_ret
      exact ⟨qQp (by omega),H3⟩
    · rw [show max 0 (fr-L)=0 by omega]
      have g6:IntKind.i64.wrap (B+0)=B+0:=IntWalk.i64_in _ (by omega)
      have g7:IntKind.i64.wrap B=B:=IntWalk.i64_in _ (by omega)
      go_enter Tryz.func82,Tryz.ntmps82
      go_wp2_with fail
      refine hb.mono ?_
      rintro e w1 ⟨rfl,H2⟩
      have hc:=hLc.out _ H2
      go_wp2_with fail
      refine hc.mono ?_
      rintro e w2 ⟨rfl,H3⟩
      go_wp2_with fail
      go_ret
      exact ⟨qQp (by omega),H3⟩
  · have e1:qXg m.rows lv fr=B:=by unfold qXg;rw [if_neg h,hB]
    rw [e1]
    rw [hB] at hb
    have hk:lv<1∨(¬lv<1∧(32<lv∨(¬32<lv∧(fr<0∨(¬fr<0∧4096<fr))))):=by omega
    clear e1 hB hL hm H h hle hl2
    rcases hk with h | ⟨h,h2 | ⟨h2,h3 | ⟨h3,h4⟩⟩⟩
    all_goals
      go_enter Tryz.func82,Tryz.ntmps82
      go_wp2_with fail
      refine hb.mono ?_
      rintro e w1 ⟨rfl,H2⟩
      go_wp2_with fail
      go_ret
      exact ⟨rfl,H2⟩
end
end
section
open Go.RowKit Spl
theorem zQB (w:World):w.drew.heap.size=w.heap.size:=rfl
section
variable {w0 w:World} {R:List Pr} {t:Nat} {m:TkM} {S:Hp}
theorem qqI (H:Hd w0 (TkP t m S::ro S::R) w) (hm:m.Ok) {i:Nat} {r:RowM} (hr:m.rows[i]? = some r) :
    Calls Tryz.prog 12 #[.pointer (some ⟨t,0,none⟩),.int .i64 i] w fun e w'=>∃v,e=.returned (.tuple #[.agg #[.string r.t.nm,.int .i64 r.t.lv,.int .i64 r.t.fr,v,.string r.t.cd,.int .i64 r.t.p,.int .i64 r.t.f,.int .i64 r.t.g],.bool true]) ∧
      Hd w0 (SlE 63 v r.t.needs::TkP t m S::ro S::R) w':=by
  obtain ⟨⟨vu,vr,vn,rows⟩,hx,H1⟩:=TkP.opened H
  dsimp only at hx H1
  obtain ⟨v,hv,hrv⟩:=hx.get hr
  have hnd:=(hm.nd r (List.mem_of_getElem? hr)).1
  have H2:Hd w0 _ (w.alloc (.cells #[.string ⟨#[]⟩,.int .i64 0,.int .i64 0,.slice none 0 0,.string ⟨#[]⟩,.int .i64 0,.int .i64 0,.int .i64 0] 36)):=H1.fol
  have hat:=qJ4 (o:=2) ((H2.v vr).k t) rfl (by rw [hx.len];have:=hm.n;omega) i v hv
  have hrn:=hrv.needs
  obtain ⟨e1,e2,e3,e4,e5,e6,e7,-,-⟩:=hrv
  obtain ⟨nm,lv,fr,na,nl,nc,cd,p,f,g,sa,sl,sc⟩:=v
  dsimp only at e1 e2 e3 e4 e5 e6 e7 hat hrn
  rw [← e1,← e2,← e3,← e4,← e5,← e6,← e7]
  have hnn:=Lib.hid (fun (w1:World) (h:Hd w0 (ro S::R) w1)=>h.ro_news hrn)
  have hnl:nl=r.t.needs.length:=Ros.form hrn
  obtain ⟨i0,hi,hz0,hz1,hz2⟩:=info_parts qUE
  obtain ⟨L,hL⟩:∃L,r.t.needs=L:=⟨_,rfl⟩
  rw [hL] at hnn hnl hnd ⊢
  subst hnl
  have hfl:=Lib.hid (qQf L)
  replace hx:=Lib.hid hx
  clear H H1 H2 hm hr hv hrn e1 e2 e3 e4 e5 e6 e7 hL
  go_enter Tryz.func12,Tryz.ntmps12
  go_wp2_with fail
  refine hat.mono ?_
  rintro e w1 ⟨rfl,H3⟩
  clear hat
  have H4:Hd w0 _ ((w1.alloc (.cells #[.string nm,.int .i64 lv,.int .i64 fr,.slice na L.length nc,.string cd,.int .i64 p,.int .i64 f,.int .i64 g,.slice sa sl sc] 80)).alloc (.cells #[.string nm,.int .i64 lv,.int .i64 fr,.slice na L.length nc,.string cd,.int .i64 p,.int .i64 f,.int .i64 g] 36)):=H3.fol
  have c3:=(show _=some (.slice na L.length nc) from (H4.k (w1.heap.size+1)).ce 3 rfl)
  go_wp2_with fail
  refine wm 7 [(0,true),(1,true),(2,true),(4,true),(5,true),(3,false),(6,false)] (fun w'=>w'.cell? ⟨w1.heap.size+1,3,none⟩=some (.slice na L.length nc)) (c3) ?_
  simp only [List.drop_succ_cons,List.drop_zero]
  iterate 5 (refine mh ?_;(try simp only [Act.put,List.setIfInBounds_toArray,List.set_cons_zero,List.set_cons_succ]))
  refine mm ?_
  go_wp2_with (at_make;(refine qQn rfl _ _ 34 rfl 63 i0 _ 2 Tryz.underlying34 hi hz0 hz1 rfl _ _ _ _ 0 L.length rfl rfl rfl rfl (by omega) (by rw [hz2];omega) (by unfold maxLen;omega) (Hd.drew H4) ?_);intro w2 H5;simp only [qQw,zQB,World.size_alloc,Nat.add_assoc,Nat.reduceAdd] at H5)
  refine qQd ((show _=some (.slice na L.length nc) from (H5.k (w1.heap.size+1)).ce 3 rfl)) ?_
  refine mm ?_
  have hn1:=Lib.hid (hnn.out _ H5.re)
  go_wp2_with (at_builtin;(refine qQl rfl _ _ 34 rfl 63 i0 2 Tryz.underlying34 hi hz1 _ 0 L.length [] rfl H5 na L.length _ (flat L) rfl hfl.out hn1.out.2.1 hn1.out.2.2 (qQx L) (by omega) ?_);intro w3 H6;rw [Nat.zero_add,List.nil_append] at H6)
  have H7:=H6
  have d3:=(show _=some (.slice na L.length nc) from (H6.k (w1.heap.size+1)).ce 3 rfl)
  have f3:=(H6.k (w1.heap.size+1)).fr 3
  refine qQd d3 ?_
  refine qQe ?_
  (try dsimp only)
  have H8:Hd w0 _ (w3.setCell ⟨w1.heap.size+1,3,none⟩ (.slice (some ⟨w1.heap.size+2,0,none⟩) L.length L.length)):=H6.fol
  have hf:=H8.facts
  simp only [Nat.reduceAdd] at hf
  go_split_ands
  clear H3 H4 H5 H6 H7 hn1 hnn
  go_wp2_with (first | (refine qQk (cells:=#[.string nm,.int .i64 lv,.int .i64 fr,.slice (some ⟨w1.heap.size+2,0,none⟩) L.length L.length,.string cd,.int .i64 p,.int .i64 f,.int .i64 g]) (H8.k w.heap.size) rfl 36 _ _ rfl rfl rfl (by kernel_rfl) rfl (by simp [Value.oneCell']) ?_;intro w4 H9))
  (try simp only [Exit.inBlock,Exit.then])
  refine bodyPost_ret (qQg rfl _ _ w.heap.size 36 #[.string nm,.int .i64 lv,.int .i64 fr,.slice (some ⟨w1.heap.size+2,0,none⟩) L.length L.length,.string cd,.int .i64 p,.int .i64 f,.int .i64 g] (0,0) _ rfl (by exact ((Hd.fol H9:Hd w0 _ _).k w.heap.size).heap) Tryz.underlying36 rfl (by kernel_rfl)) rfl ⟨_,rfl,?_⟩
  have HA:Hd w0 (SlcC 63 2 (w1.heap.size+2) L.length L.length (flat L)::cel t 77 #[.int .i64 m.words,vu,vr,vn]::SlE 3 vu m.units::SlE 80 vr rows::SlE 203 vn m.names::ro S::R) w4:=H9.re
  exact (TkP.shut (x:=⟨vu,vr,vn,rows⟩) (HA.slc_mk).d5 hx.out).b2
end
end
end Go.Proofs.YtkchopnkdjnocaaGreatDoor
