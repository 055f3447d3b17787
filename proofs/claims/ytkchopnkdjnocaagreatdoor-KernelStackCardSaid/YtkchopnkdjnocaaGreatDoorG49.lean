/-
  Merged texts of one proof: By1, Kl1.
-/
import Derived.Test.YtkchopnkdjnocaaGreatDoorG02
import Derived.Test.YtkchopnkdjnocaaGreatDoorG36
import Derived.Test.YtkchopnkdjnocaaGreatDoorG38
import Derived.Test.YtkchopnkdjnocaaGreatDoorG47

set_option maxHeartbeats 16000000
set_option maxRecDepth 20000
namespace Go.Proofs.YtkchopnkdjnocaaGreatDoor
section
open Go.RowKit Spl
section
variable {w0 w:World} {R:List Pr} {t:Nat} {m:TkM} {S:Hp}
theorem zKk (H:Hd w0 (TkP t m S::ro S::R) w) (hm:m.Ok) {r U:Nat} (hr:m.units[r]? = some (U:Int)) :
    Calls Tryz.prog 27 #[.pointer (some ⟨t,0,none⟩),.int .i64 r] w fun e w'=>∃v,e=.returned v∧Hd w0 (SlE 3 v (rowU m.rows r U)::TkP t m S::ro S::R) w':=by
  obtain ⟨Z,hZ⟩:∃Z:Array Value,qQ0 (List.replicate 256 0)=Z:=⟨_,rfl⟩
  have hZc:(Value.agg Z).cells=Z:=rfl
  have hZs:=Lib.hid (show Z.size=256 by rw [← hZ];simp [qQ0])
  have hc:=zQQ H hm hr
  have hu:=hm.uv U (List.mem_of_getElem? hr)
  obtain ⟨A,hA⟩:∃A:Array Value,qQ0 (qJn m.rows r m.rows.length)=A:=⟨_,rfl⟩
  have hone:=Lib.hid (hA ▸ qJe (qJn m.rows r m.rows.length))
  have hAz:=Lib.hid (show A.size=256 by rw [← hA,qY1,qXM])
  obtain ⟨L,hL⟩:∃L,rowU m.rows r U=L:=⟨_,rfl⟩
  have hLl:L.length=U+1:=by rw [← hL];exact qUI (by omega)
  have hat:∀(j:Nat) (u:Value),(flat L)[j]? = some u→A[j]? = some u:=by
    intro j u hj
    rw [← hA]
    rw [qXW,← hL] at hj
    unfold rowU at hj
    rw [List.map_take] at hj
    unfold qQ0
    rw [List.getElem?_toArray]
    rw [List.getElem?_take] at hj
    split at hj
    · exact hj
    · cases hj
  rw [hA] at hc
  rw [hL]
  obtain ⟨i0,hi,hz0,hz1,hz2⟩:=info_parts qJ9
  have hfl:(flat L).length=(U+1)*1:=by rw [qQf,hLl];rfl
  replace hZ:=Lib.hid hZ
  replace hA:=Lib.hid hA
  replace hL:=Lib.hid hL
  replace hLl:=Lib.hid hLl
  replace hfl:=Lib.hid hfl
  replace hat:=Lib.hid hat
  have n1:¬(U:Int)<0:=by omega
  have n2:IntKind.i64.wrap ((U:Int)+1)=(U:Int)+1:=IntWalk.i64_in _ (by omega)
  have n3:(0:Int)≤(U:Int)+1:=by omega
  have n4:(U:Int)+1≤256:=by omega
  have n5:((U:Int)+1).toNat=U+1:=by omega
  clear H hr
  go_enter Tryz.func27,Tryz.ntmps27
  go_wp2_with fail
  refine hc.mono ?_
  rintro e w1 ⟨rfl,H1⟩
  clear hc
  have H2:Hd w0 _ (w1.alloc (.cells Z 111)):=H1.fol
  go_wp2_with (first | (refine qQz rfl 111 rfl (.agg Z) (by rw [← hZ.out];kernel_rfl) ?_) | (refine qQk (cells:=A) (H2.k w1.heap.size) rfl 111 _ _ rfl rfl rfl (by rw [hAz.out];kernel_rfl) (hZs.out.trans hAz.out.symm) hone.out ?_;intro w4 H9))
  obtain ⟨B,hB⟩:∃B,w1.heap.size=B:=⟨_,rfl⟩
  rw [hB] at H9 ⊢
  clear hB
  refine wm 6 [(0,true),(1,true),(3,true),(4,true),(5,true),(2,false)] (fun w'=>True) (trivial) ?_
  simp only [List.drop_succ_cons,List.drop_zero]
  iterate 5 (refine mh ?_;(try simp only [Act.put,List.setIfInBounds_toArray,List.set_cons_zero,List.set_cons_succ]))
  refine mm ?_
  go_wp2_with (at_make;(refine qQn rfl _ _ 22 rfl 3 i0 _ 1 Tryz.underlying22 hi hz0 hz1 rfl _ _ _ _ 0 (U+1) rfl rfl rfl (by push_cast;rfl) (by omega) (by rw [hz2];omega) (by unfold maxLen;omega) (Hd.drew H9) ?_);intro w5 H10;rw [qQw] at H10)
  dsimp only [mixQ]
  refine qQe ?_
  have HB:Hd w0 (cel B 111 A::_) w5:=H10.b2
  have hn1:∀ad,some (⟨B,0,none⟩:Addr)=some ad→∀(j:Nat) (u:Value),(flat L)[j]? = some u→w5.cell? (ad.add j)=some u:=by
    intro ad he j u hj
    injection he with he
    subst he
    rw [Addr.add_lit,Nat.zero_add]
    have h2:=hat.out j u hj
    have h3:=HB.rd j
    rw [h2] at h3
    exact h3
  replace hn1:=Lib.hid hn1
  go_wp2_with (at_builtin;(refine qQl rfl _ _ 22 rfl 3 i0 1 Tryz.underlying22 hi hz1 _ 0 (U+1) [] rfl H10 (some ⟨B,0,none⟩) (U+1) _ (flat L) rfl hfl.out (fun h=>by cases h) hn1.out (qQx L) (by omega) ?_);intro w6 H11;rw [Nat.zero_add,List.nil_append] at H11)
  go_ret
  refine ⟨_,rfl,?_⟩
  have H12:=H11.slc_mk
  show Hd w0 (Slc 3 1 _ L.length (flat L)::_) _
  rw [hLl.out]
  exact H12.d2.tail
end
end
section
open Go.RowKit Spl
section
variable {w0 w:World} {R:List Pr} {S:Hp} {m:KeM} {z:KeV} {k:Nat}
theorem KeL.look (H:Hd w0 (KeL z S m R) w):Hd w0 (LkP z.y.x S m.dp.co::cel z.k 53 #[.pointer (some ⟨z.y.x.l,0,none⟩),.pointer (some ⟨z.y.x.t,0,none⟩),.pointer (some ⟨z.y.d,0,none⟩),.pointer (some ⟨z.cl,0,none⟩),.pointer (some ⟨z.rg,0,none⟩)] ::
    qQE z.cl m.ck::qQT z.rg m.ev::cel z.y.d 123 #[.pointer (some ⟨z.y.x.l,0,none⟩),.pointer (some ⟨z.y.x.t,0,none⟩),.pointer (some ⟨z.y.c,0,none⟩),.pointer (some ⟨z.y.q,0,none⟩),.int .i64 m.dp.count] ::
    cel z.y.c 194 (qQj z.y.c z.y.x.l)::WqP z.y.q m.dp.wq::TkP z.y.x.t m.tk S::ro S::R) w:=H.re
theorem zJc (H:Hd w0 (KeL z S m R) w) (h:KeI m k) :
    Calls Tryz.prog 23 #[.pointer (some ⟨z.y.x.l,0,none⟩)] w fun e w'=>e=.returned (.int .i64 (topI m.dp.co.ce))∧w=w' :=
  qJD (KeL.look H) (by have:=h.d.c.b.cl;have:=h.d.c.b.u.locksTop;omega)
theorem zXX (H:Hd w0 (KeL z S m R) w) :
    Calls Tryz.prog 16 #[.pointer (some ⟨z.y.x.l,0,none⟩)] w fun e w'=>e=.returned (.int .i64 m.dp.co.ar.used)∧w=w':=zJ7 (KeL.look H)
theorem zXJ (H:Hd w0 (KeL z S m R) w) :
    Calls Tryz.prog 18 #[.pointer (some ⟨z.y.x.l,0,none⟩)] w fun e w'=>e=.returned (.int .i64 m.dp.co.ar.high)∧w=w':=zXH (KeL.look H)
theorem zQh (H:Hd w0 (KeL z S m R) w) (h:KeI m k) {r:Nat} (hr:r<m.tk.units.length) :
    Calls Tryz.prog 25 #[.pointer (some ⟨z.y.x.l,0,none⟩),.int .i64 r] w fun e w'=>∃v,e=.returned v∧Hd w0 (SlE 184 v (qQS m.dp.co.un r)::KeL z S m R) w':=by
  refine (qYp (KeL.look H) h.d.c.b.u (r:=r) (by rw [h.d.c.b.uu];exact hr)).mono ?_
  rintro e w1 ⟨v,rfl,H1⟩
  exact ⟨v,rfl,H1.re⟩
theorem zXQ {t:Nat} {tk:TkM} (H:Hd w0 (KeL z S m (TkP t tk S::R)) w) (hm:tk.Ok) {r U:Nat} (hr:tk.units[r]? = some (U:Int)) :
    Calls Tryz.prog 27 #[.pointer (some ⟨t,0,none⟩),.int .i64 r] w fun e w'=>∃v,e=.returned v∧Hd w0 (SlE 3 v (rowU tk.rows r U)::KeL z S m (TkP t tk S::R)) w':=by
  refine (zKk (S:=S) (R:=cel z.k 53 #[.pointer (some ⟨z.y.x.l,0,none⟩),.pointer (some ⟨z.y.x.t,0,none⟩),.pointer (some ⟨z.y.d,0,none⟩),.pointer (some ⟨z.cl,0,none⟩),.pointer (some ⟨z.rg,0,none⟩)]::qQE z.cl m.ck::qQT z.rg m.ev::cel z.y.d 123 #[.pointer (some ⟨z.y.x.l,0,none⟩),.pointer (some ⟨z.y.x.t,0,none⟩),.pointer (some ⟨z.y.c,0,none⟩),.pointer (some ⟨z.y.q,0,none⟩),.int .i64 m.dp.count] ::
    cel z.y.c 194 (qQj z.y.c z.y.x.l)::LkP z.y.x S m.dp.co::WqP z.y.q m.dp.wq::TkP z.y.x.t m.tk S::R) H.re hm hr).mono ?_
  rintro e w1 ⟨v,rfl,H1⟩
  exact ⟨v,rfl,H1.re⟩
theorem zXu {t:Nat} {tk:TkM} {S':Hp} (H:Hd w0 (KeL z S m (TkP t tk S'::R)) w):Calls Tryz.prog 9 #[.pointer (some ⟨t,0,none⟩)] w fun e w'=>e=.returned (.int .i64 tk.rows.length)∧w=w' :=
  qqu (show Hd w0 (TkP t tk S'::KeL z S m R) w from H.re)
theorem qU9 {t:Nat} {tk:TkM} {S':Hp} (H:Hd w0 (KeL z S m (TkP t tk S'::R)) w):Calls Tryz.prog 19 #[.pointer (some ⟨t,0,none⟩)] w fun e w'=>e=.returned (.int .i64 tk.words)∧w=w' :=
  qUy (show Hd w0 (TkP t tk S'::KeL z S m R) w from H.re)
theorem zKg {t:Nat} {tk:TkM} {S':Hp} (H:Hd w0 (KeL z S m (TkP t tk S'::R)) w) (hm:tk.Ok):Calls Tryz.prog 24 #[.pointer (some ⟨t,0,none⟩)] w fun e w'=>∃g,e=.returned (.slice (some ⟨g,0,none⟩) tk.units.length tk.units.length)∧Hd w0 (KeL z S m (TkP t tk S'::R)) w':=by
  refine (qYe (show Hd w0 (TkP t tk S'::KeL z S m R) w from H.re) hm).mono ?_
  rintro e w1 ⟨g,rfl,H1⟩
  exact ⟨g,rfl,H1.re⟩
theorem zKi {t:Nat} {tk:TkM} {S':Hp} (H:Hd w0 (KeL z S m (TkP t tk S'::R)) w) (hm:tk.Ok):Calls Tryz.prog 17 #[.pointer (some ⟨t,0,none⟩)] w fun e w'=>e=.returned (.int .i64 (qQ1 tk.rows))∧Hd w0 (KeL z S m (TkP t tk S'::R)) w':=by
  refine (qV0 (show Hd w0 (TkP t tk S'::KeL z S m R) w from H.re) hm).mono ?_
  rintro e w1 ⟨rfl,H1⟩
  exact ⟨rfl,H1.re⟩
theorem zJ9 {t:Nat} {tk:TkM} (H:Hd w0 (KeL z S m (TkP t tk S::R)) w) (hm:tk.Ok) {i:Nat} {r:RowM} (hr:tk.rows[i]? = some r) :
    Calls Tryz.prog 12 #[.pointer (some ⟨t,0,none⟩),.int .i64 i] w fun e w'=>∃v,e=.returned (.tuple #[.agg #[.string r.t.nm,.int .i64 r.t.lv,.int .i64 r.t.fr,v,.string r.t.cd,.int .i64 r.t.p,.int .i64 r.t.f,.int .i64 r.t.g],.bool true]) ∧
      Hd w0 (SlE 63 v r.t.needs::KeL z S m (TkP t tk S::R)) w':=by
  refine (qqI (S:=S) (R:=cel z.k 53 #[.pointer (some ⟨z.y.x.l,0,none⟩),.pointer (some ⟨z.y.x.t,0,none⟩),.pointer (some ⟨z.y.d,0,none⟩),.pointer (some ⟨z.cl,0,none⟩),.pointer (some ⟨z.rg,0,none⟩)]::qQE z.cl m.ck::qQT z.rg m.ev::cel z.y.d 123 #[.pointer (some ⟨z.y.x.l,0,none⟩),.pointer (some ⟨z.y.x.t,0,none⟩),.pointer (some ⟨z.y.c,0,none⟩),.pointer (some ⟨z.y.q,0,none⟩),.int .i64 m.dp.count] ::
    cel z.y.c 194 (qQj z.y.c z.y.x.l)::LkP z.y.x S m.dp.co::WqP z.y.q m.dp.wq::TkP z.y.x.t m.tk S::R) H.re hm hr).mono ?_
  rintro e w1 ⟨v,rfl,H1⟩
  exact ⟨v,rfl,H1.re⟩
end
end
end Go.Proofs.YtkchopnkdjnocaaGreatDoor
