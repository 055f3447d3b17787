/-
  Merged texts of one proof: Clone, Tab_hold, Tab_name, Ro, Srg, Code5, Code6, Code7, LayW.
-/
import Derived.LaidMore
import Derived.Lib.AtoiErrMem
import Derived.Lib.AtoiOr
import Derived.Lib.Hide
import Derived.Lib.LaidTab
import Derived.Lib.SliceRun
import Derived.OpenShut
import Derived.ProofKit
import Derived.Stop.Joined
import Derived.Stop.LaidErr
import Derived.Test.YtkchopnkdjnocaaGreatDoorG04
import Derived.Test.YtkchopnkdjnocaaGreatDoorG06
import Derived.Test.YtkchopnkdjnocaaGreatDoorG07
import Derived.Test.YtkchopnkdjnocaaGreatDoorG08
import Derived.Test.YtkchopnkdjnocaaGreatDoorRows

set_option maxHeartbeats 16000000
set_option maxRecDepth 20000
namespace Go.Proofs.YtkchopnkdjnocaaGreatDoor
section
open Go.RowKit Spl
def Src {α:Type} [Enc α] (w0:World) (R:List Pr) (v:Value) (l:List α):Prop :=
  (v=.slice none 0 0∧l = [])∨∃ad c,v=.slice (some ad) l.length c∧∀ {w1:World},Hd w0 R w1→∀(j:Nat) (u:Value),(flat l)[j]? = some u→w1.cell? (ad.add j)=some u
theorem qUE:(Tryz.prog.info? 63).map (fun i=>(i.zero,i.size,i.bytes))=some (some (.agg #[.int .i64 0,.int .i64 0]),2,16):=by kernel_rfl
theorem Src.slc {α:Type} [Enc α] {w0:World} {R:List Pr} {e:TypeId} {v:Value} {l:List α} {w:World} (H:Hd w0 (SlE e v l::R) w):Src w0 (SlE e v l::R) v l:=by
  rcases H.slc with ⟨h,h2,h3,_⟩ | ⟨g,c,h,_⟩
  · refine .inl ⟨h,?_⟩
    exact List.eq_nil_of_length_eq_zero h2
  · subst h
    exact .inr ⟨_,c,rfl,fun H1=>H1.slc_news.2 _ rfl⟩
theorem Src.of {α:Type} [Enc α] {w0:World} {R S:List Pr} {v:Value} {l:List α} (h:Src w0 R v l) (hs:∀ {w1:World},Hd w0 S w1→Hd w0 R w1):Src w0 S v l:=by
  rcases h with h | ⟨ad,c,h,h2⟩
  · exact .inl h
  · exact .inr ⟨ad,c,h,fun H=>h2 (hs H)⟩
section
variable {w0 w:World} {R:List Pr} {v:Value}
theorem qJ5 {l:List Int} (H:Hd w0 R w) (hs:Src w0 R v l) (hn:l.length≤100000) :
    Calls Tryz.prog 92 #[v] w fun e w'=>∃v',e=.returned v'∧Hd w0 (SlE 3 v' l::R) w':=by
  have qT:∀(w:World) (a:Option Addr) (n c:Nat),(binOp .eql 22 (.slice a n c) (.slice none 0 0)).run Tryz.prog w=.ok (.bool a.isNone) w:=fun w a n c=>Lib.run_eql_slice_nil w _ _ a n c 0 0 Tryz.underlying22
  rcases hs with ⟨rfl,rfl⟩ | ⟨ad,c,rfl,hs⟩
  · clear hn
    go_enter Tryz.func92,Tryz.ntmps92
    go_wp2
    go_ret
    exact ⟨_,rfl,H.slc_nil _ _⟩
  · obtain ⟨i0,hi,hz0,hz1,hz2⟩:=info_parts qKX
    have hA:=H.alloc (.cells #[] 3)
    have H2:Hd w0 (Slc 3 1 (.slice (some ⟨w.heap.size,0,none⟩) 0 0) 0 []::R) (w.alloc (.cells #[] 3)):=(Hd.slcC_mk (sp:=[]) (xs:=[]) (size:=1) (n:=0) (cap:=0) hA rfl (Nat.le_refl _) (Nat.zero_le _) (by simp)).slc_mk
    have hnews:=Lib.hid (hs hA.tail)
    have hfl:=qQf l
    replace hn:=Lib.hid hn
    clear hs hA H
    have hlen:=Lib.hid (Nat.zero_add l.length)
    go_enter Tryz.func92,Tryz.ntmps92
    go_wp2_with (at_builtin;refine qQb rfl _ _ 22 rfl 3 i0 _ 1 8 Tryz.underlying22 hi hz0 hz1 hz2 rfl _ _ _ rfl H2 ad l.length c (flat l) rfl hfl hnews.out (qQx l) (by have:=hn.out;unfold maxLen;omega) (by have:=hn.out;omega) ?_;intro v' w2 H3;rw [hlen.out,List.nil_append] at H3)
    go_ret
    exact ⟨_,rfl,H3⟩
theorem qq2 {l:List qZy} (H:Hd w0 R w) (hs:Src w0 R v l) (hn:l.length≤100000) :
    Calls Tryz.prog 83 #[v] w fun e w'=>∃v',e=.returned v'∧Hd w0 (SlE 63 v' l::R) w':=by
  have qT:∀(w:World) (a:Option Addr) (n c:Nat),(binOp .eql 34 (.slice a n c) (.slice none 0 0)).run Tryz.prog w=.ok (.bool a.isNone) w:=fun w a n c=>Lib.run_eql_slice_nil w _ _ a n c 0 0 Tryz.underlying34
  rcases hs with ⟨rfl,rfl⟩ | ⟨ad,c,rfl,hs⟩
  · clear hn
    go_enter Tryz.func83,Tryz.ntmps83
    go_wp2
    go_ret
    exact ⟨_,rfl,H.slc_nil _ _⟩
  · obtain ⟨i0,hi,hz0,hz1,hz2⟩:=info_parts qUE
    have hA:=H.alloc (.cells #[] 63)
    have H2:Hd w0 (Slc 63 2 (.slice (some ⟨w.heap.size,0,none⟩) 0 0) 0 []::R) (w.alloc (.cells #[] 63)):=(Hd.slcC_mk (sp:=[]) (xs:=[]) (size:=2) (n:=0) (cap:=0) hA rfl (Nat.le_refl _) (Nat.zero_le _) (by simp)).slc_mk
    have hnews:=Lib.hid (hs hA.tail)
    have hfl:=qQf l
    replace hn:=Lib.hid hn
    clear hs hA H
    have hlen:=Lib.hid (Nat.zero_add l.length)
    go_enter Tryz.func83,Tryz.ntmps83
    go_wp2_with (at_builtin;refine qQb rfl _ _ 34 rfl 63 i0 _ 2 16 Tryz.underlying34 hi hz0 hz1 hz2 rfl _ _ _ rfl H2 ad l.length c (flat l) rfl hfl hnews.out (qQx l) (by have:=hn.out;unfold maxLen;omega) (by have:=hn.out;omega) ?_;intro v' w2 H3;rw [hlen.out,List.nil_append] at H3)
    go_ret
    exact ⟨_,rfl,H3⟩
end
end
section
open Go.RowKit Spl
section
variable {w0 w:World} {R:List Pr} {v:Value} {l:List RowH}
def qJo (x:RowH) (k:Int):Int:=if KLt.lt x.k k then -1 else if KLt.lt k x.k then 1 else 0
theorem qVP (H:Hd w0 R w) (x:RowH) (k:Int):Calls Tryz.prog 220 #[.agg #[.int .i64 x.k,.pointer (some ⟨x.b,0,none⟩)],.int .i64 k] w fun e w'=>e=.returned (.int .i64 (qJo x k))∧Hd w0 R w':=by
  have HA:Hd w0 _ (w.alloc (.cells #[.int .i64 x.k,.pointer (some ⟨x.b,0,none⟩)] 246)):=H.fol
  unfold qJo
  cases h1:KLt.lt x.k k with
  | true =>
    have g1:x.k<k:=by simpa [KLt.lt] using h1
    rw [if_pos rfl]
    clear h1
    go_enter Tryz.func220,Tryz.ntmps220
    go_wp2
    go_ret
    exact ⟨rfl,HA.re⟩
  | false =>
    have g1:¬(x.k<k):=by simpa [KLt.lt] using h1
    rw [if_neg (by simp)]
    cases h2:KLt.lt k x.k with
    | true =>
      have g2:x.k > k:=by simpa [KLt.lt] using h2
      rw [if_pos rfl]
      clear h1 h2
      go_enter Tryz.func220,Tryz.ntmps220
      go_wp2
      go_ret
      exact ⟨rfl,HA.re⟩
    | false =>
      have g2:¬(x.k > k):=by simpa [KLt.lt] using h2
      rw [if_neg (by simp)]
      clear h1 h2
      go_enter Tryz.func220,Tryz.ntmps220
      go_wp2
      go_ret
      exact ⟨rfl,HA.re⟩
theorem zJP (H:Hd w0 (SlE 246 v l::R) w) (hs:qQ9 l) (hn:l.length≤100000) (k:Int):Calls Tryz.prog 219 #[v,.int .i64 k,.func (.func 220) #[] #[]] w fun e w' =>
    e=.returned (.tuple #[.int .i64 (pos l k),.bool (qQs l k).isSome])∧Hd w0 (SlE 246 v l::R) w':=by
  obtain ⟨a,cap,rfl,-,-,-,-⟩:=H.slc_form
  have hO:=Lib.hid (And.intro H (And.intro hs hn))
  clear H hs hn
  go_enter Tryz.func219,Tryz.ntmps219
  go_wp2
  go_loopw [9,10] (fun vi vj wr=>∃i j:Nat,vi=.int .i64 i∧vj=.int .i64 j∧i≤pos l k∧pos l k≤j∧j≤l.length∧Hd w0 (SlE 246 (.slice a l.length cap) l::R) wr) (fun vi vj _=>(intOf vj).toNat-(intOf vi).toNat)
  case atStart=>exact ⟨0,l.length,rfl,rfl,Nat.zero_le _,qYQ l k,Nat.le_refl _,hO.out.1⟩
  case round =>
    obtain ⟨i,j,rfl,rfl,hi,hj,hjn,H⟩:=hrel
    by_cases hij:i<j
    · obtain ⟨h,hh⟩:∃h:Nat,h=(i+j) / 2:=⟨_,rfl⟩
      have hlo:i≤h:=by omega
      have hhi:h<j:=by omega
      have n1:(i:Int)<j:=by omega
      have f1:wrap64 ((i:Int)+j)=(i:Int)+j:=IntWalk.wrap64_in _ (by have:=hO.out.2.2;omega)
      have f1':IntKind.i64.wrap ((i:Int)+j)=(i:Int)+j:=IntWalk.i64_in _ (by have:=hO.out.2.2;omega)
      have f2:IntKind.u64.wrap ((i:Int)+j)=(i:Int)+j:=IntWalk.u64_in _ (by have:=hO.out.2.2;omega)
      have f3:wrap64 (((i:Int)+j) / 2)=h:=by rw [IntWalk.wrap64_in _ (by have:=hO.out.2.2;omega)];omega
      have f3':IntKind.i64.wrap (((i:Int)+j) / 2)=h:=by rw [IntWalk.i64_in _ (by have:=hO.out.2.2;omega)];omega
      have f4:IntKind.i64.wrap ((h:Int)+1)=(h:Int)+1:=IntWalk.i64_in _ (by have:=hO.out.2.2;omega)
      have n2:¬((h:Int)<0):=by omega
      have n3:(h:Int)<l.length:=by omega
      have n4:¬l.length≤h:=by omega
      obtain ⟨x,hx⟩:∃x,l[h]? = some x:=⟨l[h]'(by omega),List.getElem?_eq_getElem _⟩
      obtain ⟨g,cap2,hv,H2⟩:=H.slc_at (by omega)
      injection hv with hv _ hv2
      subst hv hv2
      have c0:=H2.slcC_rd (qQi hx (j:=0) rfl)
      have c1:=H2.slcC_rd (qQi hx (j:=1) rfl)
      simp only [Enc.size,Nat.add_zero] at c0 c1
      have hcmp:=qVP H x k
      have hX:=Lib.hid (And.intro hx (And.intro hh (And.intro hi (And.intro hj (And.intro hjn (And.intro hlo hhi))))))
      clear H2 H hx hh hi hj hjn hlo hhi
      cases hlt:KLt.lt x.k k with
      | true =>
        have hn:qJo x k<0:=by simp [qJo,hlt]
        have hp:h+1≤pos l k:=by
          rcases Nat.lt_or_ge h (pos l k) with h1 | h1
          · omega
          · have:=qVC hO.out.2.1 hX.out.1 h1
            exact absurd hlt (by rw [show KLt.lt x.k k=false from this];simp)
        clear hlt
        go_wp2_with fail
        refine hcmp.mono ?_
        rintro e w2 ⟨rfl,H3⟩
        clear hcmp
        go_wp2_with fail
        go_roundw
        case rel=>exact ⟨h+1,j,rfl,rfl,hp,hX.out.2.2.2.1,hX.out.2.2.2.2.1,H3⟩
        case measure=>have:=hX.out;simp [intOf];omega
      | false =>
        have hn:¬(qJo x k<0):=by
          unfold qJo
          rw [hlt,if_neg (by simp)]
          split <;> omega
        have hp:pos l k≤h:=by
          rcases Nat.lt_or_ge h (pos l k) with h1 | h1
          · have:=zZ5 hX.out.1 h1
            exact absurd hlt (by rw [show KLt.lt x.k k=true from this];simp)
          · exact h1
        clear hlt
        go_wp2_with fail
        refine hcmp.mono ?_
        rintro e w2 ⟨rfl,H3⟩
        clear hcmp
        go_wp2_with fail
        go_roundw
        case rel=>exact ⟨i,h,rfl,rfl,hX.out.2.2.1,hp,by have:=hX.out;omega,H3⟩
        case measure=>have:=hX.out;simp [intOf];omega
    · have n1:¬((i:Int)<j):=by omega
      obtain rfl:i=pos l k:=by omega
      by_cases hin:pos l k<l.length
      · have n2:¬(((pos l k:Nat):Int)<0):=by omega
        have n3:((pos l k:Nat):Int)<l.length:=by omega
        have n4:¬l.length≤pos l k:=by omega
        obtain ⟨x,hx⟩:∃x,l[pos l k]? = some x:=⟨l[pos l k]'(by omega),List.getElem?_eq_getElem _⟩
        obtain ⟨g,cap2,hv,H2⟩:=H.slc_at (by omega)
        injection hv with hv _ hv2
        subst hv hv2
        have c0:=H2.slcC_rd (qQi hx (j:=0) rfl)
        have c1:=H2.slcC_rd (qQi hx (j:=1) rfl)
        simp only [Enc.size,Nat.add_zero] at c0 c1
        have hcmp:=qVP H x k
        have hf:KLt.lt x.k k=false:=qVC hO.out.2.1 hx (Nat.le_refl _)
        have he:(qQs l k).isSome=(qJo x k == 0):=by
          unfold qQs qJo
          rw [hx,hf,if_neg (by simp)]
          show (if KLt.lt k x.k=true then none else some x).isSome=_
          cases KLt.lt k x.k <;> rfl
        replace he:=Lib.hid he
        clear H2 H hx hf hi hj hjn hij hin
        go_wp2_with fail
        refine hcmp.mono ?_
        rintro e w2 ⟨rfl,H3⟩
        clear hcmp
        go_wp2_with fail
        go_ret2
        exact ⟨by rw [he.out];rfl,H3⟩
      · have n3:¬(((pos l k:Nat):Int)<l.length):=by omega
        have he:(qQs l k).isSome=false:=by
          unfold qQs
          rw [List.getElem?_eq_none (by omega)]
          rfl
        replace he:=Lib.hid he
        clear hi hj hjn hij hin
        go_wp2_with fail
        go_ret2
        exact ⟨by rw [he.out];rfl,H⟩
end
end
section
open Go.RowKit Spl
section
variable {w0 w:World} {R:List Pr} {v:Value} {l:List RowN}
def qJx (x:RowN) (k:ByteArray):Int:=if KLt.lt x.k k then -1 else if KLt.lt k x.k then 1 else 0
theorem qVD (H:Hd w0 R w) (x:RowN) (k:ByteArray):Calls Tryz.prog 124 #[.agg #[.string x.k,.int .i64 x.i],.string k] w fun e w'=>e=.returned (.int .i64 (qJx x k))∧Hd w0 R w':=by
  have HA:Hd w0 _ (w.alloc (.cells #[.string x.k,.int .i64 x.i] 203)):=H.fol
  unfold qJx
  cases h1:KLt.lt x.k k with
  | true =>
    have g1:Op.bytesLess x.k.toList k.toList=true:=by simpa [KLt.lt] using h1
    rw [if_pos rfl]
    clear h1
    go_enter Tryz.func124,Tryz.ntmps124
    go_wp2
    go_ret
    exact ⟨rfl,HA.re⟩
  | false =>
    have g1:Op.bytesLess x.k.toList k.toList=false:=by simpa [KLt.lt] using h1
    rw [if_neg (by simp)]
    cases h2:KLt.lt k x.k with
    | true =>
      have g2:(!x.k.toList == k.toList)=true:=by simp only [Bool.not_eq_true',beq_eq_false_iff_ne];intro hc;rw [qVh hc,KLt.irr] at h2;exact absurd h2 (by simp)
      rw [if_pos rfl]
      clear h1 h2
      go_enter Tryz.func124,Tryz.ntmps124
      go_wp2
      go_ret
      exact ⟨rfl,HA.re⟩
    | false =>
      have g2:(!x.k.toList == k.toList)=false:=by have:=KLt.tot h1 h2;subst this;simp
      rw [if_neg (by simp)]
      clear h1 h2
      go_enter Tryz.func124,Tryz.ntmps124
      go_wp2
      go_ret
      exact ⟨rfl,HA.re⟩
theorem zJT (H:Hd w0 (SlE 203 v l::R) w) (hs:qQ9 l) (hn:l.length≤100000) (k:ByteArray):Calls Tryz.prog 123 #[v,.string k,.func (.func 124) #[] #[]] w fun e w' =>
    e=.returned (.tuple #[.int .i64 (pos l k),.bool (qQs l k).isSome])∧Hd w0 (SlE 203 v l::R) w':=by
  obtain ⟨a,cap,rfl,-,-,-,-⟩:=H.slc_form
  have hO:=Lib.hid (And.intro H (And.intro hs hn))
  clear H hs hn
  go_enter Tryz.func123,Tryz.ntmps123
  go_wp2
  go_loopw [9,10] (fun vi vj wr=>∃i j:Nat,vi=.int .i64 i∧vj=.int .i64 j∧i≤pos l k∧pos l k≤j∧j≤l.length∧Hd w0 (SlE 203 (.slice a l.length cap) l::R) wr) (fun vi vj _=>(intOf vj).toNat-(intOf vi).toNat)
  case atStart=>exact ⟨0,l.length,rfl,rfl,Nat.zero_le _,qYQ l k,Nat.le_refl _,hO.out.1⟩
  case round =>
    obtain ⟨i,j,rfl,rfl,hi,hj,hjn,H⟩:=hrel
    by_cases hij:i<j
    · obtain ⟨h,hh⟩:∃h:Nat,h=(i+j) / 2:=⟨_,rfl⟩
      have hlo:i≤h:=by omega
      have hhi:h<j:=by omega
      have n1:(i:Int)<j:=by omega
      have f1:wrap64 ((i:Int)+j)=(i:Int)+j:=IntWalk.wrap64_in _ (by have:=hO.out.2.2;omega)
      have f1':IntKind.i64.wrap ((i:Int)+j)=(i:Int)+j:=IntWalk.i64_in _ (by have:=hO.out.2.2;omega)
      have f2:IntKind.u64.wrap ((i:Int)+j)=(i:Int)+j:=IntWalk.u64_in _ (by have:=hO.out.2.2;omega)
      have f3:wrap64 (((i:Int)+j) / 2)=h:=by rw [IntWalk.wrap64_in _ (by have:=hO.out.2.2;omega)];omega
      have f3':IntKind.i64.wrap (((i:Int)+j) / 2)=h:=by rw [IntWalk.i64_in _ (by have:=hO.out.2.2;omega)];omega
      have f4:IntKind.i64.wrap ((h:Int)+1)=(h:Int)+1:=IntWalk.i64_in _ (by have:=hO.out.2.2;omega)
      have n2:¬((h:Int)<0):=by omega
      have n3:(h:Int)<l.length:=by omega
      have n4:¬l.length≤h:=by omega
      obtain ⟨x,hx⟩:∃x,l[h]? = some x:=⟨l[h]'(by omega),List.getElem?_eq_getElem _⟩
      obtain ⟨g,cap2,hv,H2⟩:=H.slc_at (by omega)
      injection hv with hv _ hv2
      subst hv hv2
      have c0:=H2.slcC_rd (qQi hx (j:=0) rfl)
      have c1:=H2.slcC_rd (qQi hx (j:=1) rfl)
      simp only [Enc.size,Nat.add_zero] at c0 c1
      have hcmp:=qVD H x k
      have hX:=Lib.hid (And.intro hx (And.intro hh (And.intro hi (And.intro hj (And.intro hjn (And.intro hlo hhi))))))
      clear H2 H hx hh hi hj hjn hlo hhi
      cases hlt:KLt.lt x.k k with
      | true =>
        have hn:qJx x k<0:=by simp [qJx,hlt]
        have hp:h+1≤pos l k:=by
          rcases Nat.lt_or_ge h (pos l k) with h1 | h1
          · omega
          · have:=qVC hO.out.2.1 hX.out.1 h1
            exact absurd hlt (by rw [show KLt.lt x.k k=false from this];simp)
        clear hlt
        go_wp2_with fail
        refine hcmp.mono ?_
        rintro e w2 ⟨rfl,H3⟩
        clear hcmp
        go_wp2_with fail
        go_roundw
        case rel=>exact ⟨h+1,j,rfl,rfl,hp,hX.out.2.2.2.1,hX.out.2.2.2.2.1,H3⟩
        case measure=>have:=hX.out;simp [intOf];omega
      | false =>
        have hn:¬(qJx x k<0):=by
          unfold qJx
          rw [hlt,if_neg (by simp)]
          split <;> omega
        have hp:pos l k≤h:=by
          rcases Nat.lt_or_ge h (pos l k) with h1 | h1
          · have:=zZ5 hX.out.1 h1
            exact absurd hlt (by rw [show KLt.lt x.k k=true from this];simp)
          · exact h1
        clear hlt
        go_wp2_with fail
        refine hcmp.mono ?_
        rintro e w2 ⟨rfl,H3⟩
        clear hcmp
        go_wp2_with fail
        go_roundw
        case rel=>exact ⟨i,h,rfl,rfl,hX.out.2.2.1,hp,by have:=hX.out;omega,H3⟩
        case measure=>have:=hX.out;simp [intOf];omega
    · have n1:¬((i:Int)<j):=by omega
      obtain rfl:i=pos l k:=by omega
      by_cases hin:pos l k<l.length
      · have n2:¬(((pos l k:Nat):Int)<0):=by omega
        have n3:((pos l k:Nat):Int)<l.length:=by omega
        have n4:¬l.length≤pos l k:=by omega
        obtain ⟨x,hx⟩:∃x,l[pos l k]? = some x:=⟨l[pos l k]'(by omega),List.getElem?_eq_getElem _⟩
        obtain ⟨g,cap2,hv,H2⟩:=H.slc_at (by omega)
        injection hv with hv _ hv2
        subst hv hv2
        have c0:=H2.slcC_rd (qQi hx (j:=0) rfl)
        have c1:=H2.slcC_rd (qQi hx (j:=1) rfl)
        simp only [Enc.size,Nat.add_zero] at c0 c1
        have hcmp:=qVD H x k
        have hf:KLt.lt x.k k=false:=qVC hO.out.2.1 hx (Nat.le_refl _)
        have he:(qQs l k).isSome=(qJx x k == 0):=by
          unfold qQs qJx
          rw [hx,hf,if_neg (by simp)]
          show (if KLt.lt k x.k=true then none else some x).isSome=_
          cases KLt.lt k x.k <;> rfl
        replace he:=Lib.hid he
        clear H2 H hx hf hi hj hjn hij hin
        go_wp2_with fail
        refine hcmp.mono ?_
        rintro e w2 ⟨rfl,H3⟩
        clear hcmp
        go_wp2_with fail
        go_ret2
        exact ⟨by rw [he.out];rfl,H3⟩
      · have n3:¬(((pos l k:Nat):Int)<l.length):=by omega
        have he:(qQs l k).isSome=false:=by
          unfold qQs
          rw [List.getElem?_eq_none (by omega)]
          rfl
        replace he:=Lib.hid he
        clear hi hj hjn hij hin
        go_wp2_with fail
        go_ret2
        exact ⟨by rw [he.out];rfl,H⟩
end
end
section
open Go.RowKit Spl
namespace Spl
def ro (S:Hp):Pr:=fun h=>h=S
def Le (S S':Hp):Prop:=∀i o,S i=some o→S' i=some o
theorem Le.refl (S:Hp):Le S S:=fun _ _ h=>h
theorem Le.trans {A B C:Hp} (h:Le A B) (k:Le B C):Le A C:=fun i o x=>k i o (h i o x)
def Ros (S:Hp) (e:TypeId) (size:Nat) (v:Value) (n:Nat) (xs:List Value):Prop :=
  (v=.slice none 0 0∧n=0∧xs = [])∨∃g cap sp,v=.slice (some ⟨g,0,none⟩) n cap∧n≤cap∧cap≤maxLen∧xs.length=n*size∧S g=some (.cells (xs++sp).toArray e (0,0))
theorem Ros.mono {S S':Hp} {e:TypeId} {size:Nat} {v:Value} {n:Nat} {xs:List Value} (h:Ros S e size v n xs) (k:Le S S'):Ros S' e size v n xs:=by
  rcases h with h | ⟨g,cap,sp,h1,h2,h3,h4,h5⟩
  · exact .inl h
  · exact .inr ⟨g,cap,sp,h1,h2,h3,h4,k _ _ h5⟩
theorem Ros.len {S:Hp} {e:TypeId} {size:Nat} {v:Value} {n:Nat} {xs:List Value} (h:Ros S e size v n xs):xs.length=n*size:=by
  rcases h with ⟨_,rfl,rfl⟩ | ⟨g,cap,sp,h1,h2,h3,h4,h5⟩
  · simp
  · exact h4
abbrev RoE {α:Type} [Enc α] (S:Hp) (e:TypeId) (v:Value) (l:List α):Prop:=Ros S e (Enc.size α) v l.length (flat l)
end Spl
section
variable {w0 w:World} {R:List Pr} {S:Hp}
instance (S:Hp):Key (ro S) (.b 0):=⟨trivial⟩
theorem Hd.ro_heap (H:Hd w0 (ro S::R) w) {i:Nat} {o:Obj} (h:S i=some o):w.heap[i]? = some o:=by
  obtain ⟨_,a,c,d,e,ha,_⟩:=H
  have hb:a i=some o:=by rw [ha];exact h
  have:=congrFun e i
  rw [qXe hb] at this
  exact this
theorem Hd.ro_cell (H:Hd w0 (ro S::R) w) {i:Nat} {c:Array Value} {T:TypeId} {f:Nat × Nat} (h:S i=some (.cells c T f)) (j:Nat):w.cell? ⟨i,j,none⟩=c[j]? :=
  cell_of_row w i j c T f (H.ro_heap h)
theorem Hd.ro_news (H:Hd w0 (ro S::R) w) {e:TypeId} {size:Nat} {a:Option Addr} {n m cap:Nat} {xs:List Value} (h:Ros S e size (.slice a n cap) m xs) :
    n=m∧(a=none→m=0)∧∀ad,a=some ad→∀j u,xs[j]? = some u→w.cell? (ad.add j)=some u:=by
  rcases h with ⟨hv,hm,hx⟩ | ⟨g,cap',sp,hv,_,_,_,hS⟩
  · injection hv with h1 h2 h3
    subst h1;subst h2;subst hm;subst hx
    exact ⟨rfl,fun _=>rfl,fun ad h=>by cases h⟩
  · injection hv with h1 h2 h3
    subst h1;subst h2
    refine ⟨rfl,(fun h=>by cases h),fun ad had j u hj=>?_⟩
    injection had with had
    subst had
    rw [add0,H.ro_cell hS j]
    simp only [List.getElem?_toArray]
    rw [List.getElem?_append_left (qQa hj)]
    exact hj
theorem Hd.ro_rd (H:Hd w0 (ro S::R) w) {e:TypeId} {size g:Nat} {n m cap:Nat} {xs:List Value} (h:Ros S e size (.slice (some ⟨g,0,none⟩) n cap) m xs) {j:Nat} {u:Value} (hj:xs[j]? = some u):w.cell? ⟨g,j,none⟩=some u:=by
  have:=(H.ro_news h).2.2 _ rfl j u hj
  rwa [add0] at this
theorem Ros.form {e:TypeId} {size:Nat} {a:Option Addr} {n m cap:Nat} {xs:List Value} (h:Ros S e size (.slice a n cap) m xs):n=m:=by
  rcases h with ⟨hv,hm,hx⟩ | ⟨g,cap',sp,hv,_,_,_,hS⟩
  · injection hv with h1 h2 h3;omega
  · injection hv with h1 h2 h3
theorem Hd.ro_in {e:TypeId} {size:Nat} {v:Value} {n:Nat} {xs:List Value} (H:Hd w0 (Slc e size v n xs::ro S::R) w):∃S',Le S S'∧Ros S' e size v n xs∧Hd w0 (ro S'::R) w:=by
  obtain ⟨hc,p,q,d,e1,hp,a',b',d',e2,ha',hb'⟩:=H
  rcases hp with ⟨rfl,rfl,rfl⟩ | ⟨g,cap,rfl,h1,h2,h3,sp,hs,hp4⟩
  · refine ⟨S,Le.refl S,.inl ⟨rfl,rfl,rfl⟩,hc,a',join b' p,?_,?_,ha',?_⟩
    · exact qZk.2 ⟨d',qZb (qZk.1 (e2 ▸ d)).1⟩
    · rw [e1,e2,qJH (e2 ▸ d),qZP]
    · exact qX3 ⟨p,qZb (qZk.1 (e2 ▸ d)).2,rfl⟩ hb'
  · obtain ⟨dpa,dpb⟩:=qZk.1 (e2 ▸ d)
    refine ⟨join a' p,?_,?_,hc,join a' p,b',?_,?_,rfl,hb'⟩
    · intro i o h
      have h':a' i=some o:=by rw [ha'];exact h
      exact qXe h'
    · refine .inr ⟨g,cap,sp,rfl,h2,h3,h1,?_⟩
      refine qq0 (qZb dpa) ?_
      rw [hp4];simp
    · exact qXN.2 ⟨d',dpb⟩
    · rw [e1,e2,← qZP,qJH dpa]
theorem Src.ro {α:Type} [Enc α] {e:TypeId} {v:Value} {l:List α} (h:RoE S e v l):Src w0 (Spl.ro S::R) v l:=by
  rcases id h with ⟨hv,hn,hx⟩ | ⟨g,cap,sp,hv,_,_,hl,hS⟩
  · exact .inl ⟨hv,List.eq_nil_of_length_eq_zero hn⟩
  · exact .inr ⟨_,cap,hv,fun H=>by subst hv;exact (H.ro_news h).2.2 _ rfl⟩
def Srd {α:Type} [Enc α] (w0:World) (R:List Pr) (v:Value) (l:List α):Prop :=
  (v=.slice none 0 0∧l = [])∨∃g c,v=.slice (some ⟨g,0,none⟩) l.length c∧∀ {w1:World},Hd w0 R w1→∀(j:Nat) (u:Value),(flat l)[j]? = some u→w1.cell? ⟨g,j,none⟩=some u
theorem Srd.src {α:Type} [Enc α] {v:Value} {l:List α} (h:Srd w0 R v l):Src w0 R v l:=by
  rcases h with h | ⟨g,c,hv,hs⟩
  · exact .inl h
  · exact .inr ⟨_,c,hv,fun H j u hj=>by rw [add0];exact hs H j u hj⟩
theorem Srd.slE {α:Type} [Enc α] {e:TypeId} {v:Value} {l:List α} (H:Hd w0 (SlE e v l::R) w):Srd w0 (SlE e v l::R) v l:=by
  rcases H.slc with ⟨h,h2,h3,_⟩ | ⟨g,c,h,_⟩
  · exact .inl ⟨h,List.eq_nil_of_length_eq_zero h2⟩
  · subst h
    refine .inr ⟨g,c,rfl,fun H1 j u hj=>?_⟩
    have:=H1.slc_news.2 _ rfl j u hj
    rwa [add0] at this
theorem Srd.ro {α:Type} [Enc α] {e:TypeId} {v:Value} {l:List α} (h:RoE S e v l):Srd w0 (Spl.ro S::R) v l:=by
  rcases id h with ⟨hv,hn,hx⟩ | ⟨g,cap,sp,hv,_,_,hl,hS⟩
  · exact .inl ⟨hv,List.eq_nil_of_length_eq_zero hn⟩
  · exact .inr ⟨g,cap,hv,fun H j u hj=>by subst hv;exact H.ro_rd h hj⟩
theorem Srd.of {α:Type} [Enc α] {M:List Pr} {v:Value} {l:List α} (h:Srd w0 R v l) (hs:∀ {w1:World},Hd w0 M w1→Hd w0 R w1):Srd w0 M v l:=by
  rcases h with h | ⟨g,c,h,h2⟩
  · exact .inl h
  · exact .inr ⟨g,c,h,fun H=>h2 (hs H)⟩
theorem Srd.form {α:Type} [Enc α] {v:Value} {l:List α} (h:Srd w0 R v l):∃a c,v=.slice a l.length c:=by
  rcases h with ⟨h,rfl⟩ | ⟨g,c,h,_⟩
  · exact ⟨none,0,h⟩
  · exact ⟨_,c,h⟩
theorem Srd.at {α:Type} [Enc α] {v:Value} {l:List α} (h:Srd w0 R v l) {k:Nat} {x:α} (hk:l[k]? = some x) :
    ∃g c,v=.slice (some ⟨g,0,none⟩) l.length c∧k<l.length∧∀ {w1:World},Hd w0 R w1→∀(j:Nat) (u:Value),(Enc.cells x)[j]? = some u→w1.cell? ⟨g,k*Enc.size α+j,none⟩=some u:=by
  rcases h with ⟨h,rfl⟩ | ⟨g,c,h,hs⟩
  · simp at hk
  · exact ⟨g,c,h,qQa hk,fun H j u hj=>hs H _ _ (qQi hk hj)⟩
end
end
section
open Go.RowKit Spl
def Srg {α:Type} [Enc α] (w0:World) (R:List Pr) (v:Value) (l:List α):Prop :=
  (v=.slice none 0 0∧l = [])∨(∃ad c,v=.slice (some ad) 0 c∧l = []) ∨
    ∃g o c,v=.slice (some ⟨g,o,none⟩) l.length c∧∀ {w1:World},Hd w0 R w1→∀(j:Nat) (u:Value),(flat l)[j]? = some u→w1.cell? ⟨g,o+j,none⟩=some u
section
variable {w0 w:World} {R:List Pr} {S:Hp} {α:Type} [Enc α] {v:Value} {l:List α}
theorem Srd.srg (h:Srd w0 R v l):Srg w0 R v l:=by
  rcases h with h | ⟨g,c,hv,hs⟩
  · exact .inl h
  · exact .inr (.inr ⟨g,0,c,hv,fun H j u hj=>by rw [Nat.zero_add];exact hs H j u hj⟩)
theorem Srg.nil:Srg w0 R (.slice none 0 0) ([]:List α):=.inl ⟨rfl,rfl⟩
theorem Srg.slE {e:TypeId} (H:Hd w0 (SlE e v l::R) w):Srg w0 (SlE e v l::R) v l:=(Srd.slE H).srg
theorem Srg.src (h:Srg w0 R v l):Src w0 R v l:=by
  rcases h with h | ⟨ad,c,hv,hl⟩ | ⟨g,o,c,hv,hs⟩
  · exact .inl h
  · subst hl
    exact .inr ⟨ad,c,hv,fun H j u hj=>by simp [flat] at hj⟩
  · exact .inr ⟨_,c,hv,fun H j u hj=>by rw [Addr.add_lit];exact hs H j u hj⟩
theorem Srg.of {M:List Pr} (h:Srg w0 R v l) (hs:∀ {w1:World},Hd w0 M w1→Hd w0 R w1):Srg w0 M v l:=by
  rcases h with h | h | ⟨g,o,c,h,h2⟩
  · exact .inl h
  · exact .inr (.inl h)
  · exact .inr (.inr ⟨g,o,c,h,fun H=>h2 (hs H)⟩)
theorem Srg.form (h:Srg w0 R v l):∃a c,v=.slice a l.length c:=by
  rcases h with ⟨h,rfl⟩ | ⟨ad,c,h,rfl⟩ | ⟨g,o,c,h,_⟩
  · exact ⟨none,0,h⟩
  · exact ⟨_,c,h⟩
  · exact ⟨_,c,h⟩
theorem Srg.at (h:Srg w0 R v l) {k:Nat} {x:α} (hk:l[k]? = some x) :
    ∃g o c,v=.slice (some ⟨g,o,none⟩) l.length c∧k<l.length∧∀ {w1:World},Hd w0 R w1→∀(j:Nat) (u:Value),(Enc.cells x)[j]? = some u→w1.cell? ⟨g,o+k*Enc.size α+j,none⟩=some u:=by
  rcases h with ⟨h,rfl⟩ | ⟨ad,c,h,rfl⟩ | ⟨g,o,c,h,hs⟩
  · simp at hk
  · simp at hk
  · exact ⟨g,o,c,h,qQa hk,fun H j u hj=>by rw [Nat.add_assoc];exact hs H _ _ (qQi hk hj)⟩
end
end
section
open Go.RowKit Spl
def qQM:List OpM→Nat→Nat→Int × Int
  | [],i,n=>if 0<n then (i,31) else (0,0)
  | o::l,i,n=>if qQL o=false then (i,30) else if o.kind=10 then (if n=4 then (i,32) else qQM l (i+1) (n+1))
    else if o.kind=11 then (if n=0 then (i,31) else qQM l (i+1) (n-1)) else qQM l (i+1) n
def qQW (p:List OpM):Int × Int:=if 256<p.length then (256,4) else qQM p 0 0
theorem qKe {α:Type} {l:List α} {k:Nat} {x:α} (h:l[k]? = some x):l.drop k=x::l.drop (k+1):=by
  obtain ⟨h1,rfl⟩:=List.getElem?_eq_some_iff.1 h
  exact List.drop_eq_getElem_cons h1
section
variable {w0 w:World} {R:List Pr}
theorem zJq {v:Value} {p:List OpM} (H:Hd w0 R w) (hs:Srd w0 R v p):Calls Tryz.prog 160 #[v] w fun e w'=>e=.returned (.tuple #[.int .i64 (qQW p).1,.int .i64 (qQW p).2])∧Hd w0 R w':=by
  obtain ⟨a,c,hv⟩:=hs.form
  subst hv
  by_cases hl:256<p.length
  · have e1:qQW p=(256,4):=by unfold qQW;rw [if_pos hl]
    rw [e1]
    clear hs
    have n1:(256:Int)<p.length:=by omega
    go_enter Tryz.func160,Tryz.ntmps160
    go_wp2_with fail
    go_ret2
    exact ⟨rfl,H⟩
  have e1:qQW p=qQM p 0 0:=by unfold qQW;rw [if_neg hl]
  rw [e1]
  clear e1
  have n0:¬(256:Int)<p.length:=by omega
  go_enter Tryz.func160,Tryz.ntmps160
  go_wp2_with fail
  go_loopw [4,12] (fun o i wr=>∃k n:Nat,k≤p.length∧n≤4∧o=.int .i64 n∧i=.int .i64 k∧qQM p 0 0=qQM (p.drop k) k n∧Hd w0 R wr) (fun _ i _=>p.length-(intOf i).toNat)
  case atStart=>exact ⟨0,0,by omega,by omega,rfl,rfl,by simp,H⟩
  case round =>
    obtain ⟨k,n,hk,hn,rfl,rfl,hC,H1⟩:=hrel
    by_cases hlt:k<p.length
    · obtain ⟨o,ho⟩:∃o,p[k]? = some o:=⟨p[k],List.getElem?_eq_getElem hlt⟩
      rw [qKe ho] at hC
      obtain ⟨g,c2,hv,-,hcell⟩:=hs.at ho
      injection hv with hv1 hv2 hv3
      subst hv1;subst hv3
      have f0:=hcell H1 0 _ rfl
      have f1:=hcell H1 1 _ rfl
      have f2:=hcell H1 2 _ rfl
      have f3:=hcell H1 3 _ rfl
      simp only [Enc.size,Nat.add_zero] at f0 f1 f2 f3
      obtain ⟨ok,ores,on,ov⟩:=o
      have HA:Hd w0 _ (wr.alloc (.cells #[.int .i64 ok,.int .i64 ores,.int .i64 on,.int .i64 ov] 83)):=H1.fol
      have hcall:=qJQ HA ⟨ok,ores,on,ov⟩
      replace hC:=Lib.hid hC
      have g5:IntKind.i64.wrap ((k:Int)+1)=(k:Int)+1:=IntWalk.i64_in _ (by omega)
      have g6:IntKind.i64.wrap ((n:Int)+1)=(n:Int)+1:=IntWalk.i64_in _ (by omega)
      have n1:¬(k:Int)<0:=by omega
      have n2:(k:Int)<p.length:=by omega
      have n3:¬p.length≤k:=by omega
      clear hcell hs H H1 HA ho
      cases hF:qQL ⟨ok,ores,on,ov⟩ with
      | false =>
        have hK:=Lib.hid (hC.out.trans (show _=((k:Int),(30:Int)) by rw [qQM,if_pos hF]))
        rw [hF] at hcall
        clear hC hF
        go_wp2_with fail
        refine hcall.mono ?_
        rintro e w1 ⟨rfl,H2⟩
        clear hcall
        have hf:=H2.facts
        simp only [Nat.reduceAdd] at hf
        go_split_ands
        go_wp2_with fail
        go_ret2
        exact ⟨qZl (congrArg Prod.fst hK.out) (congrArg Prod.snd hK.out),H2.re⟩
      | true =>
        rw [hF] at hcall
        have hC2:=hC.out
        rw [qQM,if_neg (by rw [hF];simp)] at hC2
        simp only [] at hC2
        clear hC hF
        by_cases h10:ok=10
        · subst h10
          rw [if_pos rfl] at hC2
          by_cases hn4:n=4
          · subst hn4
            rw [if_pos rfl] at hC2
            have hK:=Lib.hid hC2
            clear hC2
            go_wp2_with fail
            refine hcall.mono ?_
            rintro e w1 ⟨rfl,H2⟩
            clear hcall
            have hf:=H2.facts
            simp only [Nat.reduceAdd] at hf
            go_split_ands
            go_wp2_with fail
            go_ret2
            exact ⟨qZl (congrArg Prod.fst hK.out) (congrArg Prod.snd hK.out),H2.re⟩
          · have m4:¬(n:Int)=4:=by omega
            rw [if_neg hn4] at hC2
            have hK:=Lib.hid hC2
            clear hC2
            go_wp2_with fail
            refine hcall.mono ?_
            rintro e w1 ⟨rfl,H2⟩
            clear hcall
            have hf:=H2.facts
            simp only [Nat.reduceAdd] at hf
            go_split_ands
            go_wp2_with fail
            go_roundw
            case rel=>exact ⟨k+1,n+1,by omega,by omega,by simp,by simp,hK.out,H2.re⟩
            case measure=>simp [intOf];omega
        · rw [if_neg h10] at hC2
          by_cases h11:ok=11
          · subst h11
            rw [if_pos rfl] at hC2
            rcases Nat.eq_zero_or_pos n with rfl | hpos
            · rw [if_pos rfl] at hC2
              have hK:=Lib.hid hC2
              clear hC2
              go_wp2_with fail
              refine hcall.mono ?_
              rintro e w1 ⟨rfl,H2⟩
              clear hcall
              have hf:=H2.facts
              simp only [Nat.reduceAdd] at hf
              go_split_ands
              go_wp2_with fail
              go_ret2
              exact ⟨qZl (congrArg Prod.fst hK.out) (congrArg Prod.snd hK.out),H2.re⟩
            · obtain ⟨m,rfl⟩:∃m,n=m+1:=⟨n-1,by omega⟩
              have m4:¬((m+1:Nat):Int)=0:=by omega
              have g7:IntKind.i64.wrap (((m+1:Nat):Int)-1)=(m:Int):=by rw [IntWalk.i64_in _ (by omega)];omega
              have g8:IntKind.i64.wrap ((m:Int)+1-1)=(m:Int):=by rw [IntWalk.i64_in _ (by omega)];omega
              rw [if_neg (by omega),Nat.add_sub_cancel] at hC2
              have hK:=Lib.hid hC2
              clear hC2
              go_wp2_with fail
              refine hcall.mono ?_
              rintro e w1 ⟨rfl,H2⟩
              clear hcall
              have hf:=H2.facts
              simp only [Nat.reduceAdd] at hf
              go_split_ands
              go_wp2_with fail
              go_roundw
              case rel=>exact ⟨k+1,m,by omega,by omega,by simp,by simp,hK.out,H2.re⟩
              case measure=>simp [intOf];omega
          · rw [if_neg h11] at hC2
            have hK:=Lib.hid hC2
            clear hC2
            go_wp2_with fail
            refine hcall.mono ?_
            rintro e w1 ⟨rfl,H2⟩
            clear hcall
            have hf:=H2.facts
            simp only [Nat.reduceAdd] at hf
            go_split_ands
            go_wp2_with fail
            go_roundw
            case rel=>exact ⟨k+1,n,by omega,by omega,by simp,by simp,hK.out,H2.re⟩
            case measure=>simp [intOf];omega
    · obtain rfl:k=p.length:=by omega
      rw [List.drop_length,qQM] at hC
      clear hs H
      rcases Nat.eq_zero_or_pos n with rfl | hpos
      · rw [if_neg (by omega)] at hC
        have hK:=Lib.hid hC
        clear hC
        go_wp2_with fail
        go_ret2
        exact ⟨qZl (congrArg Prod.fst hK.out) (congrArg Prod.snd hK.out),H1⟩
      · rw [if_pos hpos] at hC
        have m4:0<(n:Int):=by omega
        have hK:=Lib.hid hC
        clear hC
        go_wp2_with fail
        go_ret2
        exact ⟨qZl (congrArg Prod.fst hK.out) (congrArg Prod.snd hK.out),H1⟩
end
end
section
open Go.RowKit Spl Go.Sort
structure zJ3 (w:World):Prop where
  syn:∃tp p,w.var? Tryz.prog "strconv.ErrSyntax" = some #[.iface tp p]
  rng:∃tp p,w.var? Tryz.prog "strconv.ErrRange" = some #[.iface tp p]
  tab:Lib.TabIs Tryz.prog w "internal/strconv.uint64pow10" .u64 Lib.pow10Tab
class Lay (w0:World) (R:List Pr):Prop where
  var:∀ {w:World},Hd w0 R w→zJ3 w
instance {w0:World} {P:Pr} {R:List Pr} [h:Lay w0 R]:Lay w0 (P::R):=⟨fun H=>h.var H.tail⟩
theorem Hd.grow {w0 w w':World} {L:List Pr} (H:Hd w0 L w) (hb:Below w.heap.size w w'):Hd w0 L w':=by
  refine ⟨H.1.trans ⟨hb.os,hb.tape,hb.output,hb.size⟩,qX3 ⟨fun i=>if i<w.heap.size then none else w'.heap[i]?,fun i=>?_,?_⟩ H.2⟩
  · by_cases hi:i<w.heap.size
    · exact .inr (by simp [hi])
    · exact .inl (Array.getElem?_eq_none (by omega))
  · funext i
    unfold join
    dsimp only
    by_cases hi:i<w.heap.size
    · rw [hb.block i hi,Array.getElem?_eq_getElem hi]
    · rw [Array.getElem?_eq_none (by omega:w.heap.size≤i),if_neg hi]
theorem qUk (w:World) (q:Nat) (os:Array Obj):Below w.heap.size w (Go.Sort.grow (w.drewN q) os):=by
  refine ⟨rfl,rfl,rfl,?_,fun k hk=>?_⟩
  · show w.heap.size≤(w.heap++os).size
    simp
  · show (w.heap++os)[k]? = _
    rw [Array.getElem?_append_left hk]
def qZB (s:ByteArray):Int × Bool:=match Lib.atoiAll s.data.toList with
  | .ok v=>(v,(⟨(Lib.itoa v).toArray⟩:ByteArray).toList == s.toList)
  | .range=>(Lib.atoiSat s.data.toList,false)
  | _=>(0,false)
section
variable {w0 w:World} {R:List Pr}
theorem qZ1 [Lay w0 R] (H:Hd w0 R w) (s:ByteArray) (hs:s.size≤100000):Calls Tryz.prog 176 #[.string s] w fun e w'=>e=.returned (.tuple #[.int .i64 (qZB s).1,.bool (qZB s).2])∧Hd w0 R w':=by
  have hL:=Lay.var H
  cases hr:Lib.atoiAll s.data.toList with
  | ok v =>
    have hb:=Lib.atoiAll_bounds hr
    have e1:qZB s=(v,(⟨(Lib.itoa v).toArray⟩:ByteArray).toList == s.toList):=by unfold qZB;rw [hr]
    have hcall:=Any.strconv_Atoi_ok Tryz.laysC172 s (by omega) v hr w
    rw [e1]
    obtain ⟨V,hV⟩:∃V,(⟨(Lib.itoa v).toArray⟩:ByteArray)=V:=⟨_,rfl⟩
    have hc2:∀w1,Hd w0 R w1→Calls Tryz.prog 193 #[.int .i64 v] w1 fun e w'=>e=.returned (.string V)∧Hd w0 R w':=fun w1 h1=>by
      refine (Any.strconv_Itoa Tryz.laysM171 v hb.1 hb.2 w1 (Lay.var h1).tab).mono ?_
      rintro e w' ⟨rfl,q,os,rfl⟩
      exact ⟨by rw [hV],h1.grow (qUk w1 q os)⟩
    rw [hV]
    replace hc2:=Lib.hid hc2
    clear e1 hr hb hL hV hs
    go_enter Tryz.func176,Tryz.ntmps176
    go_wp2_with fail
    refine hcall.mono ?_
    rintro e w1 ⟨rfl,hw⟩
    have H1:Hd w0 R w1:=by
      rcases hw with rfl | ⟨t,rfl⟩
      · exact H
      · exact H.grow (Lib.bytesWorld_below _ _ _)
    clear hcall hw
    have hc3:=hc2.out w1 H1
    go_wp2_with fail
    refine hc3.mono ?_
    rintro e w2 ⟨rfl,H2⟩
    go_wp2_with fail
    go_ret2
    exact ⟨rfl,H2⟩
  | range =>
    have e1:qZB s=(Lib.atoiSat s.data.toList,false):=by unfold qZB;rw [hr]
    obtain ⟨tp,p,hp⟩:=hL.rng
    have hcall:=Any.strconv_Atoi_range_var Tryz.laysC172 s (by omega) hr tp p w hp
    rw [e1]
    clear e1 hr hL hs
    go_enter Tryz.func176,Tryz.ntmps176
    go_wp2_with fail
    refine hcall.mono ?_
    rintro e w1 ⟨N,rfl,-,-,hb⟩
    have H1:=H.grow hb
    clear hcall hb
    go_wp2_with fail
    go_ret2
    exact ⟨rfl,H1⟩
  | _ =>
    have e1:qZB s=(0,false):=by unfold qZB;rw [hr]
    obtain ⟨tp,p,hp⟩:=hL.syn
    have hcall:=Any.strconv_Atoi_syntax_var Tryz.laysC172 s (by omega) hr tp p w hp
    rw [e1]
    clear e1 hr hL hs
    go_enter Tryz.func176,Tryz.ntmps176
    go_wp2_with fail
    refine hcall.mono ?_
    rintro e w1 ⟨N,rfl,-,-,hb⟩
    have H1:=H.grow hb
    clear hcall hb
    go_wp2_with fail
    go_ret2
    exact ⟨rfl,H1⟩
end
end
section
open Go.RowKit Spl
def bl (c:UInt8):Bool:=qYM (c.toNat:Int)
def qJd (p:UInt8→Bool) (s:ByteArray) (i:Nat):Nat:=if h:i<s.size then (if p s[i] then qJd p s (i+1) else i) else i
  termination_by s.size-i
theorem qXl {p:UInt8→Bool} {s:ByteArray} {i:Nat} (h:i<s.size) (hp:p s[i]=true):qJd p s i=qJd p s (i+1):=by
  rw [qJd,dif_pos h,if_pos hp]
theorem qXQ {p:UInt8→Bool} {s:ByteArray} {i:Nat} (h:i<s.size) (hp:p s[i]=false):qJd p s i=i:=by
  rw [qJd,dif_pos h,hp];rfl
theorem qXn {p:UInt8→Bool} {s:ByteArray} {i:Nat} (h:¬i<s.size):qJd p s i=i:=by
  rw [qJd,dif_neg h]
theorem qVK {p:UInt8→Bool} {s:ByteArray}:∀(n i:Nat),s.size-i=n→i≤s.size→i≤qJd p s i∧qJd p s i≤s.size:=by
  intro n
  induction n with
  | zero=>intro i hn hi;rw [qXn (by omega)];omega
  | succ n ih =>
    intro i hn hi
    have h:i<s.size:=by omega
    cases hp:p s[i] with
    | true =>
      rw [qXl h hp]
      have:=ih (i+1) (by omega) (by omega)
      omega
    | false=>rw [qXQ h hp];omega
def qZY (s:ByteArray) (i:Nat):Nat:=qJd bl s i
def wEnd (s:ByteArray) (i:Nat):Nat:=qJd (fun c=>!bl c) s (qZY s i)
def qZs (s:ByteArray) (i:Nat):ByteArray:=s.extract (qZY s i) (wEnd s i)
theorem qZU {s:ByteArray} {i:Nat} (h:i≤s.size):i≤qZY s i∧qZY s i≤wEnd s i∧wEnd s i≤s.size:=by
  have h1:=qVK (p:=bl) (s:=s) _ i rfl h
  have h2:=qVK (p:=fun c=>!bl c) (s:=s) _ _ rfl h1.2
  exact ⟨h1.1,h2.1,h2.2⟩
def qKj (w:World) (a:Addr):Nat:=match w.cell? a with
  | some (.int _ n)=>n.toNat
  | _=>0
theorem qUX {a b:ByteArray} {c d:Int} (h:b=a) (h2:d=c):Ending.returned (.tuple #[.string a,.int .i64 c])=Ending.returned (.tuple #[.string b,.int .i64 d]):=by rw [h,h2]
theorem qZw {w:World} {a:Addr} {n:Int} (h:w.cell? a=some (.int .i64 n)):qKj w a=n.toNat:=by unfold qKj;rw [h]
section
variable {w0 w:World} {R:List Pr} {b:Nat}
theorem zZg {s:ByteArray} {at0:Nat} {ov op:Value} (H:Hd w0 (cel b 278 #[.string s,.int .i64 at0,ov,op]::R) w) (ha:at0≤s.size) (hs:s.size≤100000) :
    Calls Tryz.prog 142 #[.pointer (some ⟨b,0,none⟩)] w fun e w'=>e=.returned (.tuple #[.string (qZs s at0),.int .i64 (qZY s at0)])∧Hd w0 (cel b 278 #[.string s,.int .i64 (wEnd s at0),ov,op]::R) w':=by
  obtain ⟨h1,h2,h3⟩:=qZU ha
  go_enter Tryz.func142,Tryz.ntmps142
  go_wp2_with fail
  go_step3
  go_wp2_with fail
  go_step3
  go_wp2_with fail
  go_loopw [8] (fun _ wr=>∃i:Nat,i≤s.size∧qZY s at0=qJd bl s i∧Hd w0 (cel b 278 #[.string s,.int .i64 i,ov,op]::R) wr) (fun _ wr=>s.size-qKj wr ⟨b,1,none⟩)
  case atStart=>exact ⟨at0,ha,rfl,H⟩
  case round =>
    obtain ⟨i,hi,hw,H1⟩:=hrel
    have hf:=H1.facts
    simp only [Nat.reduceAdd] at hf
    go_split_ands
    have g5:IntKind.i64.wrap ((i:Int)+1)=(i:Int)+1:=IntWalk.i64_in _ (by omega)
    by_cases hlt:i<s.size
    · have n1:(i:Int)<s.size:=by omega
      have n0:(0:Int)≤i:=by omega
      obtain ⟨c,hc⟩:∃c,s[i]=c:=⟨_,rfl⟩
      have hc2:s.data[i]=c:=hc
      have c0:=(H1.k b).ce 0 rfl
      have c1:=(H1.k b).ce 1 rfl
      have hm:=Lib.hid (qZw c1)
      cases hb:qYM (c.toNat:Int) with
      | true =>
        have hw2:=Lib.hid (hw.trans (qXl hlt (by rw [hc];exact hb)))
        clear hw H
        go_wp2_with fail
        go_quiet (fail)
        go_wp2_with fail
        refine wm0 [(0,true),(1,true),(2,true),(3,true),(4,true),(5,true),(6,true),(7,true),(8,true),(9,false),(10,true)] (fun w'=>w'.cell? ⟨b,1,none⟩=some (.int .i64 i)∧w'.cell? ⟨b,0,none⟩=some (.string s)) (⟨c1,c0⟩) ?_
        iterate 9 (refine mh ?_;(try simp only [Act.put,List.setIfInBounds_toArray,List.set_cons_zero,List.set_cons_succ]))
        refine mm ?_
        go_wp2_with fail
        refine (qKc (c.toNat:Int)).mono ?_
        rintro e w' ⟨rfl,rfl⟩
        go_wp2_with fail
        refine qQd ⟨c1,c0⟩ ?_
        iterate 1 (refine mh ?_;(try simp only [Act.put,List.setIfInBounds_toArray,List.set_cons_zero,List.set_cons_succ]))
        refine qQe ?_
        (try dsimp only)
        go_wp2_with fail
        go_roundw
        case rel=>exact ⟨i+1,by omega,hw2.out,by show Hd w0 (cel b 278 #[.string s,.int .i64 ((i:Int)+1),ov,op]::R) _;exact Hd.fin H1⟩
        case measure=>rw [qZw (by exact ((Hd.fol H1:Hd w0 _ _).k b).ce 1 rfl),hm.out];omega
      | false =>
        have hw2:qZY s at0=i:=hw.trans (qXQ hlt (by rw [hc];exact hb))
        clear hw H
        go_wp2_with fail
        go_quiet (fail)
        go_wp2_with fail
        refine wm0 [(0,true),(1,true),(2,true),(3,true),(4,true),(5,true),(6,true),(7,true),(8,true),(9,false),(10,true)] (fun w'=>w'.cell? ⟨b,1,none⟩=some (.int .i64 i)∧w'.cell? ⟨b,0,none⟩=some (.string s)) (⟨c1,c0⟩) ?_
        iterate 9 (refine mh ?_;(try simp only [Act.put,List.setIfInBounds_toArray,List.set_cons_zero,List.set_cons_succ]))
        refine mm ?_
        go_wp2_with fail
        refine (qKc (c.toNat:Int)).mono ?_
        rintro e w' ⟨rfl,rfl⟩
        go_wp2_with fail
        refine qQd ⟨c1,c0⟩ ?_
        iterate 1 (refine mh ?_;(try simp only [Act.put,List.setIfInBounds_toArray,List.set_cons_zero,List.set_cons_succ]))
        refine qQe ?_
        (try dsimp only)
        go_wp2_with fail
        clear c0 c1 hm hb hc2 hc n0 n1 hlt g5
        go_loopw [40] (fun _ wv=>∃j:Nat,i≤j∧j≤s.size∧wEnd s at0=qJd (fun c=>!bl c) s j∧Hd w0 (cel b 278 #[.string s,.int .i64 j,ov,op]::R) wv) (fun _ wv=>s.size-qKj wv ⟨b,1,none⟩)
        case atStart=>exact ⟨i,Nat.le_refl _,hi,by unfold wEnd;rw [hw2],by exact Hd.fin H1⟩
        case round =>
          clear H1
          obtain ⟨j,hij,hj,hv,H1⟩:=hrel
          have hf:=H1.facts
          simp only [Nat.reduceAdd] at hf
          go_split_ands
          have c0:=(H1.k b).ce 0 rfl
          have c1:=(H1.k b).ce 1 rfl
          have g5:IntKind.i64.wrap ((j:Int)+1)=(j:Int)+1:=IntWalk.i64_in _ (by omega)
          have hm:=Lib.hid (qZw c1)
          have m2:(i:Int)≤j:=by omega
          have m3:(j:Int)≤s.size:=by omega
          have m4:(0:Int)≤i:=by omega
          by_cases hlt:j<s.size
          · have n1:(j:Int)<s.size:=by omega
            have n0:(0:Int)≤j:=by omega
            obtain ⟨c,hc⟩:∃c,s[j]=c:=⟨_,rfl⟩
            have hc2:s.data[j]=c:=hc
            cases hb:qYM (c.toNat:Int) with
            | false =>
              have hv2:=Lib.hid (hv.trans (qXl hlt (by rw [hc];unfold bl;rw [hb];rfl)))
              clear hv
              go_wp2_with fail
              refine wm0 [(0,true),(1,true),(2,true),(3,true),(4,true),(5,true),(6,true),(7,true),(8,true),(9,true),(10,true),(11,true),(12,true),(13,true),(14,true),(15,true),(16,true),(17,true),(18,true),(19,true),(20,false),(21,true),(22,true)] (fun w'=>w'.cell? ⟨b,1,none⟩=some (.int .i64 j)∧w'.cell? ⟨b,0,none⟩=some (.string s)) (⟨c1,c0⟩) ?_
              iterate 20 (refine mh ?_;(try simp only [Act.put,List.setIfInBounds_toArray,List.set_cons_zero,List.set_cons_succ]))
              refine mm ?_
              go_wp2_with fail
              refine (qKc (c.toNat:Int)).mono ?_
              rintro e w' ⟨rfl,rfl⟩
              go_wp2_with fail
              refine qQd ⟨c1,c0⟩ ?_
              iterate 2 (refine mh ?_;(try simp only [Act.put,List.setIfInBounds_toArray,List.set_cons_zero,List.set_cons_succ]))
              refine qQe ?_
              (try dsimp only)
              go_wp2_with fail
              go_roundw
              case rel=>exact ⟨j+1,by omega,by omega,hv2.out,by show Hd w0 (cel b 278 #[.string s,.int .i64 ((j:Int)+1),ov,op]::R) _;exact Hd.fin H1⟩
              case measure=>rw [qZw (by exact ((Hd.fol H1:Hd w0 _ _).k b).ce 1 rfl),hm.out];omega
            | true =>
              have hv2:=Lib.hid (hv.trans (qXQ hlt (by rw [hc];unfold bl;rw [hb];rfl)))
              clear hv
              go_wp2_with fail
              refine wm0 [(0,true),(1,true),(2,true),(3,true),(4,true),(5,true),(6,true),(7,true),(8,true),(9,true),(10,true),(11,true),(12,true),(13,true),(14,true),(15,true),(16,true),(17,true),(18,true),(19,true),(20,false),(21,true),(22,true)] (fun w'=>w'.cell? ⟨b,1,none⟩=some (.int .i64 j)∧w'.cell? ⟨b,0,none⟩=some (.string s)) (⟨c1,c0⟩) ?_
              iterate 20 (refine mh ?_;(try simp only [Act.put,List.setIfInBounds_toArray,List.set_cons_zero,List.set_cons_succ]))
              refine mm ?_
              go_wp2_with fail
              refine (qKc (c.toNat:Int)).mono ?_
              rintro e w' ⟨rfl,rfl⟩
              go_wp2_with fail
              refine qQd ⟨c1,c0⟩ ?_
              iterate 2 (refine mh ?_;(try simp only [Act.put,List.setIfInBounds_toArray,List.set_cons_zero,List.set_cons_succ]))
              refine qQe ?_
              (try dsimp only)
              go_wp2_with fail
              go_quiet (fail)
              go_wp2_with fail
              (try rw [Exit.noGoto_ret])
              go_ret2
              exact ⟨qUX (by unfold qZs;rw [hv2.out,hw2]) (by rw [hw2]),by rw [hv2.out];exact Hd.fin H1⟩
          · have n1:¬(j:Int)<s.size:=by omega
            have hv2:=Lib.hid (hv.trans (qXn hlt))
            clear hv
            go_wp2_with fail
            go_quiet (fail)
            go_wp2_with fail
            go_quiet (fail)
            go_wp2_with fail
            (try rw [Exit.noGoto_ret])
            go_ret2
            exact ⟨qUX (by unfold qZs;rw [hv2.out,hw2]) (by rw [hw2]),by rw [hv2.out];exact Hd.fin H1⟩
    · have n1:¬(i:Int)<s.size:=by omega
      have hw2:qZY s at0=i:=hw.trans (qXn hlt)
      clear hw H
      go_wp2_with fail
      go_quiet (fail)
      go_wp2_with fail
      clear n1 hlt g5
      go_loopw [40] (fun _ wv=>∃j:Nat,i≤j∧j≤s.size∧wEnd s at0=qJd (fun c=>!bl c) s j∧Hd w0 (cel b 278 #[.string s,.int .i64 j,ov,op]::R) wv) (fun _ wv=>s.size-qKj wv ⟨b,1,none⟩)
      case atStart=>exact ⟨i,Nat.le_refl _,hi,by unfold wEnd;rw [hw2],by exact Hd.fin H1⟩
      case round =>
        clear H1
        obtain ⟨j,hij,hj,hv,H1⟩:=hrel
        have hf:=H1.facts
        simp only [Nat.reduceAdd] at hf
        go_split_ands
        have c0:=(H1.k b).ce 0 rfl
        have c1:=(H1.k b).ce 1 rfl
        have g5:IntKind.i64.wrap ((j:Int)+1)=(j:Int)+1:=IntWalk.i64_in _ (by omega)
        have hm:=Lib.hid (qZw c1)
        have m2:(i:Int)≤j:=by omega
        have m3:(j:Int)≤s.size:=by omega
        have m4:(0:Int)≤i:=by omega
        by_cases hlt:j<s.size
        · have n1:(j:Int)<s.size:=by omega
          have n0:(0:Int)≤j:=by omega
          obtain ⟨c,hc⟩:∃c,s[j]=c:=⟨_,rfl⟩
          have hc2:s.data[j]=c:=hc
          cases hb:qYM (c.toNat:Int) with
          | false =>
            have hv2:=Lib.hid (hv.trans (qXl hlt (by rw [hc];unfold bl;rw [hb];rfl)))
            clear hv
            go_wp2_with fail
            refine wm0 [(0,true),(1,true),(2,true),(3,true),(4,true),(5,true),(6,true),(7,true),(8,true),(9,true),(10,true),(11,true),(12,true),(13,true),(14,true),(15,true),(16,true),(17,true),(18,true),(19,true),(20,false),(21,true),(22,true)] (fun w'=>w'.cell? ⟨b,1,none⟩=some (.int .i64 j)∧w'.cell? ⟨b,0,none⟩=some (.string s)) (⟨c1,c0⟩) ?_
            iterate 20 (refine mh ?_;(try simp only [Act.put,List.setIfInBounds_toArray,List.set_cons_zero,List.set_cons_succ]))
            refine mm ?_
            go_wp2_with fail
            refine (qKc (c.toNat:Int)).mono ?_
            rintro e w' ⟨rfl,rfl⟩
            go_wp2_with fail
            refine qQd ⟨c1,c0⟩ ?_
            iterate 2 (refine mh ?_;(try simp only [Act.put,List.setIfInBounds_toArray,List.set_cons_zero,List.set_cons_succ]))
            refine qQe ?_
            (try dsimp only)
            go_wp2_with fail
            go_roundw
            case rel=>exact ⟨j+1,by omega,by omega,hv2.out,by show Hd w0 (cel b 278 #[.string s,.int .i64 ((j:Int)+1),ov,op]::R) _;exact Hd.fin H1⟩
            case measure=>rw [qZw (by exact ((Hd.fol H1:Hd w0 _ _).k b).ce 1 rfl),hm.out];omega
          | true =>
            have hv2:=Lib.hid (hv.trans (qXQ hlt (by rw [hc];unfold bl;rw [hb];rfl)))
            clear hv
            go_wp2_with fail
            refine wm0 [(0,true),(1,true),(2,true),(3,true),(4,true),(5,true),(6,true),(7,true),(8,true),(9,true),(10,true),(11,true),(12,true),(13,true),(14,true),(15,true),(16,true),(17,true),(18,true),(19,true),(20,false),(21,true),(22,true)] (fun w'=>w'.cell? ⟨b,1,none⟩=some (.int .i64 j)∧w'.cell? ⟨b,0,none⟩=some (.string s)) (⟨c1,c0⟩) ?_
            iterate 20 (refine mh ?_;(try simp only [Act.put,List.setIfInBounds_toArray,List.set_cons_zero,List.set_cons_succ]))
            refine mm ?_
            go_wp2_with fail
            refine (qKc (c.toNat:Int)).mono ?_
            rintro e w' ⟨rfl,rfl⟩
            go_wp2_with fail
            refine qQd ⟨c1,c0⟩ ?_
            iterate 2 (refine mh ?_;(try simp only [Act.put,List.setIfInBounds_toArray,List.set_cons_zero,List.set_cons_succ]))
            refine qQe ?_
            (try dsimp only)
            go_wp2_with fail
            go_quiet (fail)
            go_wp2_with fail
            (try rw [Exit.noGoto_ret])
            go_ret2
            exact ⟨qUX (by unfold qZs;rw [hv2.out,hw2]) (by rw [hw2]),by rw [hv2.out];exact Hd.fin H1⟩
        · have n1:¬(j:Int)<s.size:=by omega
          have hv2:=Lib.hid (hv.trans (qXn hlt))
          clear hv
          go_wp2_with fail
          go_quiet (fail)
          go_wp2_with fail
          go_quiet (fail)
          go_wp2_with fail
          (try rw [Exit.noGoto_ret])
          go_ret2
          exact ⟨qUX (by unfold qZs;rw [hv2.out,hw2]) (by rw [hw2]),by rw [hv2.out];exact Hd.fin H1⟩
end
end
section
open Go.ChangeShapes Go.WideShapes Go.ChangeAt Go.RowKit Spl
abbrev qK6:List (String × DataW Unit):=[("math/bits.deBruijn32tab",Rows.laid_math_bits_deBruijn32tab),("math/bits.deBruijn64tab",Rows.laid_math_bits_deBruijn64tab),("internal/strconv.uint64pow10",Rows.laid_internal_strconv_uint64pow10),("strconv.ErrRange",Rows.laid_strconv_ErrRange),("strconv.ErrSyntax",Rows.laid_strconv_ErrSyntax)]
theorem zJb (u:TypeId) (h:Tryz.prog.typeName? 3 u=some "*errors.errorString"):u=358 :=
  typeName_ptr_named (nm := "errors.errorString") (by kernel_rfl) (by kernel_rfl) (by decide) u h
theorem qWM {W:World} (h:laidMetH Tryz.prog qK6 W):zJ3 W:=by
  rw [MakeChecks.laidMetH_plain _ _ _ (by kernel_rfl)] at h
  have h3:=laidMet.tail (laidMet.tail h)
  have h4:=laidMet.tail h3
  have h5:=laidMet.tail h4
  have htab:Lib.TabIs Tryz.prog W "internal/strconv.uint64pow10" .u64 Lib.pow10Tab :=
    Lib.tabIs_of_head (g:=2) (t:=362) (e:=344) (n:=20) (by kernel_rfl) (by kernel_rfl) Tryz.underlying362 Tryz.underlying344 (by kernel_rfl) (by kernel_rfl) h3
  obtain ⟨a1,s1,v1,-⟩:=laid_sentinel (g:=1) (ti:=312) (tp:=358) (te:=360) (ts:=9) h4 (by kernel_rfl) (by kernel_rfl) Tryz.underlying312 zJb Tryz.underlying358 Tryz.underlying360 rfl rfl Tryz.underlying9 (by kernel_rfl) (by kernel_rfl)
  obtain ⟨a2,s2,v2,-⟩:=laid_sentinel (g:=0) (ti:=312) (tp:=358) (te:=360) (ts:=9) h5 (by kernel_rfl) (by kernel_rfl) Tryz.underlying312 zJb Tryz.underlying358 Tryz.underlying360 rfl rfl Tryz.underlying9 (by kernel_rfl) (by kernel_rfl)
  exact ⟨⟨_,_,v2⟩,⟨_,_,v1⟩,htab⟩
theorem qYd {W:World} (h:zJ3 W):Lay W [qQm W]:=⟨fun {w} H=>by
  have hk:∀(n:String) (cs:Array Value),W.var? Tryz.prog n=some cs→w.var? Tryz.prog n=some cs:=by
    intro n cs hv
    unfold World.var? at hv ⊢
    cases hg:Tryz.prog.globalNamed n with
    | none=>simp [hg] at hv
    | some g =>
      simp only [hg,Option.bind_some] at hv ⊢
      cases ho:W.heap[g]? with
      | none=>simp [ho] at hv
      | some o=>rw [ho] at hv;rw [H.old g o ho];exact hv
  obtain ⟨⟨a,b,c⟩,⟨d,e,f⟩,g⟩:=h
  exact ⟨⟨a,b,hk _ _ c⟩,⟨d,e,hk _ _ f⟩,hk _ _ g⟩⟩
theorem qWn (os:Os) (args:Array Value):laidMetH Tryz.prog qK6 ((World.doorLaid Tryz.prog 400 os).forCall (fun _ _=>0) ⟨#[],args,[]⟩).memory :=
  laidMetH_of_parts3 (fuel:=8) (laidMet_of_run' 8 (by kernel_rfl) (by kernel_rfl)) (by kernel_rfl) (by kernel_rfl)
end
end Go.Proofs.YtkchopnkdjnocaaGreatDoor
