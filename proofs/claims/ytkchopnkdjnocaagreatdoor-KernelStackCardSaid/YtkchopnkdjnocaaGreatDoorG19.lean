/-
  Merged texts of one proof: Cpy.
-/
import Derived.Laws.CopyRow
import Derived.Laws.Tables
import Derived.Test.YtkchopnkdjnocaaGreatDoorG05
import Derived.Test.YtkchopnkdjnocaaGreatDoorG07

set_option maxHeartbeats 16000000
set_option maxRecDepth 20000
namespace Go.Proofs.YtkchopnkdjnocaaGreatDoor
section
open Go.RowKit Spl
section
variable {P:Program} {w0 w:World} {R:List Pr}
theorem Hd.setRow {b:Nat} {T:TypeId} {C:Array Value} (H:Hd w0 (cel b T C::R) w) (C':Array Value):Hd w0 (cel b T C'::R) (w.setRow b C') :=
  H.upd (fun i=>by
    by_cases hi:i=b
    · subst hi
      rw [if_pos rfl]
      exact setRow_heap w i C C' T (0,0) H.heap
    · rw [if_neg hi]
      exact setRow_other w b i C' hi) ⟨setRow_os w b C',setRow_tape w b C',setRow_output w b C',by rw [setRow_size];exact Nat.le_refl _⟩
theorem qJM {g off:Nat} {T:TypeId} {pre old post news:List Value} (H:Hd w0 (cel g T (pre++(old++post)).toArray::R) w) (hpre:pre.length=off) (hold:old.length=news.length) (h1:∀u∈news,u.oneCell'=true) :
    (storeCells ⟨g,off,none⟩ news 0).run P w=.ok () (w.setRow g (pre++(news++post)).toArray):=by
  have hst:=run_storeCells_at P g off T news 0 (pre++(old++post)).toArray w H.heap (by simp;omega) h1
  rw [hst]
  congr 2
  subst hpre
  rw [← hold]
  simp
theorem qQR {ops:Array Oper} {rest:List Oper} {o:Oper} {a:Act} {Q:Exit→Act→World→Prop} (hgd:o.guard=none) (d s:Operand) (dT sT:TypeId)
    (ho:o.op=.call { callee:=.builtin .copy,args:=#[d,s],argTypes:=#[dT,sT] })
    (e:TypeId) (i:TypeInfo) (size:Nat) (ht:P.underlying dT=some (.slice e)) (hi:P.info? e=some i) (hsz:i.size=size)
    (g off dn dc:Nat) (hd:a.eval d=.slice (some ⟨g,off,none⟩) dn dc) (ad:Addr) (sn sc:Nat) (hs:a.eval s=.slice (some ad) sn sc) (k:Nat) (hk:Nat.min sn dn=k)
    {T:TypeId} {pre old post:List Value} (news:List Value) (H:Hd w0 (cel g T (pre++(old++post)).toArray::R) w) (hpre:pre.length=off) (hold:old.length=news.length) (hl:news.length=k*size)
    (hnews:∀(j:Nat) (u:Value),news[j]? = some u→w.cell? (ad.add j)=some u) (h1:∀u∈news,u.oneCell'=true)
    (h:∀w',Hd w0 (cel g T (pre++(news++post)).toArray::R) w'→wpList P ops Q rest (a.put o.dst (.int .i64 k)) w'):wpList P ops Q (o::rest) a w :=
  wpList_plain hgd fun K hK=>by
    have hld:=run_loadCells_list (P:=P) w ad news hnews
    rw [hl] at hld
    have hst:=qJM (P:=P) H hpre hold h1
    have hr:(Builtin.copy_ #[dT,sT] o.type #[.slice (some ⟨g,off,none⟩) dn dc,.slice (some ad) sn sc]).run P w=.ok (.int .i64 k) (w.setRow g (pre++(news++post)).toArray):=by
      subst hsz
      simp [Builtin.copy_,run_underlying ht,Builtin.lenOf,Builtin.firstCells,sizeOf,typeInfo,hi,hk,hld,hst,goInt]
    unfold Oper.wp execOp
    simp only [ho,resolve,invoke,builtin,Sem.run_bind,Sem.run_pure,Result.andThen_ok,List.map_toArray,List.map_cons,List.map_nil,hd,hs,hr]
    exact hK _ _ (h _ (H.setRow _))
theorem qJI {ops:Array Oper} {rest:List Oper} {o:Oper} {a:Act} {Q:Exit→Act→World→Prop} (hgd:o.guard=none) (s x:Operand) (t:TypeId)
    (ho:o.op=.call { callee:=.builtin .append,args:=#[s,x],argTypes:=#[t,t] })
    (e:TypeId) (i:TypeInfo) (size:Nat) (ht:P.underlying t=some (.slice e)) (hi:P.info? e=some i) (hsz:i.size=size)
    (g n cap:Nat) (hs:a.eval s=.slice (some ⟨g,0,none⟩) n cap) (ad:Addr) (m c:Nat) (hx:a.eval x=.slice (some ad) m c) (hroom:n+m≤cap)
    {T:TypeId} {pre old post:List Value} (news:List Value) (H:Hd w0 (cel g T (pre++(old++post)).toArray::R) w) (hpre:pre.length=n*size) (hold:old.length=news.length) (hl:news.length=m*size)
    (hnews:∀(j:Nat) (u:Value),news[j]? = some u→w.cell? (ad.add j)=some u) (h1:∀u∈news,u.oneCell'=true)
    (h:∀w',Hd w0 (cel g T (pre++(news++post)).toArray::R) w'→wpList P ops Q rest (a.put o.dst (.slice (some ⟨g,0,none⟩) (n+m) cap)) w'):wpList P ops Q (o::rest) a w :=
  wpList_plain hgd fun K hK=>by
    have hld:=run_loadCells_list (P:=P) w ad news hnews
    rw [hl] at hld
    have hst:=qJM (P:=P) H hpre hold h1
    have hadd:(⟨g,0,none⟩:Addr).add (n*size)=⟨g,n*size,none⟩:=add0 _ _
    have hr:(Builtin.append_ #[t,t] o.type #[.slice (some ⟨g,0,none⟩) n cap,.slice (some ad) m c]).run P w=.ok (.slice (some ⟨g,0,none⟩) (n+m) cap) (w.setRow g (pre++(news++post)).toArray):=by
      subst hsz
      simp [Builtin.append_,run_underlying ht,Builtin.lenOf,Builtin.firstCells,sizeOf,typeInfo,hi,hld,hroom,hadd,hst]
    unfold Oper.wp execOp
    simp only [ho,resolve,invoke,builtin,Sem.run_bind,Sem.run_pure,Result.andThen_ok,List.map_toArray,List.map_cons,List.map_nil,hs,hx,hr]
    exact hK _ _ (h _ (H.setRow _))
theorem qZv {ops:Array Oper} {rest:List Oper} {o:Oper} {a:Act} {Q:Exit→Act→World→Prop} (hgd:o.guard=none) (s x:Operand) (t ti:TypeId)
    (ho:o.op=.call { callee:=.builtin .append,args:=#[s,x],argTypes:=#[t,ti] })
    (e:TypeId) (i:TypeInfo) (z:Value) (size bytes:Nat) (ht:P.underlying t=some (.slice e)) {kk:IntKind} (hti:P.underlying ti=some (.int kk)) (hi:P.info? e=some i) (hz:i.zero=some z)
    (hsize:i.size=size) (hby:i.bytes=bytes) (hzs:z.cells.size=size) (hsz:0<size) (hb0:0<bytes)
    (a0:Addr) (n cap:Nat) (hs:a.eval s=.slice (some a0) n cap) (xs:List Value) (hxl:xs.length=n*size) (hxs:∀(j:Nat) (u:Value),xs[j]? = some u→w.cell? (a0.add j)=some u)
    (m:Nat) (kx:IntKind) (hx:a.eval x=.int kx m) (hm:0<m) (hgrow:cap<n+m) (hbytes:(n+m)*bytes≤140737488355328) (H:Hd w0 R w)
    (h:∀cap' w',n+m≤cap'→Hd w0 (SlcC e size w.heap.size (n+m) cap' (xs++(Builtin.zeroCells z.cells m).toList)::R) w'→wpList P ops Q rest (a.put o.dst (.slice (some ⟨w.heap.size,0,none⟩) (n+m) cap')) w'):wpList P ops Q (o::rest) a w :=
  wpList_plain hgd fun K hK=>by
    subst hsize
    subst hby
    have hle:n+m≤140737488355328:=Nat.le_trans (Nat.le_mul_of_pos_right _ hb0) hbytes
    have h63:n+m≤maxLen:=by simp only [maxLen];omega
    have hw:IntKind.i64.wrap (m:Int)=m:=by rw [IntKind.wrap_i64];omega
    have hneg:¬((m:Int)<0):=by omega
    have hmb:m*i.bytes≤140737488355328:=Nat.le_trans (Nat.mul_le_mul_right _ (Nat.le_add_left m n)) hbytes
    have hbig:¬(281474976710656<(m:Int)*(i.bytes:Int)):=by
      rw [← Int.natCast_mul]
      omega
    have hsn:i.size≠0:=by omega
    obtain ⟨news,hnews⟩:∃news,news=(Builtin.zeroCells z.cells m).toList:=⟨_,rfl⟩
    have hl:news.length=m*i.size:=by rw [hnews,Array.length_toList,size_zeroCells,hzs]
    have hna:Builtin.zeroCells z.cells m=news.toArray:=by rw [hnews]
    have hlen:(xs++news).length=(n+m)*i.size:=by rw [List.length_append,hxl,hl,Nat.add_mul]
    have hge:=grownCap_ge w (n+m) cap e
    have hcm:grownCap w (n+m) cap e≤maxLen:=grownCap_le_maxLen w (n+m) cap e h63
    have hA:=H.drew.alloc (.cells (xs.toArray++news.toArray++Builtin.zeroCells z.cells (grownCap w (n+m) cap e-(n+m))) e)
    have harr:xs.toArray++news.toArray++Builtin.zeroCells z.cells (grownCap w (n+m) cap e-(n+m))=((xs++news)++(Builtin.zeroCells z.cells (grownCap w (n+m) cap e-(n+m))).toList).toArray:=by
      apply Array.ext'
      simp
    have hr:(Builtin.append_ #[t,ti] o.type #[.slice (some a0) n cap,.int kx m]).run P w =
        .ok (.slice (some ⟨w.heap.size,0,none⟩) (n+m) (grownCap w (n+m) cap e)) (w.drew.alloc (.cells (xs.toArray++news.toArray++Builtin.zeroCells z.cells (grownCap w (n+m) cap e-(n+m))) e)):=by
      have hfo:(Builtin.firstCells i.size n (.slice (some a0) n cap)).run P w.drew=.ok xs.toArray w.drew:=run_firstCells_some (P:=P) w.drew i.size n a0 n cap xs hxl (by simpa using hxs)
      have hn:¬(n+m≤cap):=by omega
      have h63':¬(9223372036854775807<((n:Int)+(m:Int))):=by omega
      have hfit:=growslice_fits hgrow hbytes
      have h48':¬(281474976710656<Builtin.nextslicecap (n+m) cap*i.bytes):=by omega
      have hmz:¬(m*i.size=0):=Nat.mul_ne_zero (by omega) hsn
      simp [Builtin.append_,run_underlying ht,run_underlying hti,sizeOf,typeInfo,zeroValue,hi,hz,asInt,asIntOf,hw,hneg,hbig,hn,h63',h48',Question.forced,hfo,newRow,grownCap,hmz,hna]
      congr 2
      apply Array.ext'
      simp [List.append_assoc]
    rw [harr] at hA hr
    have hB:=hA.slcC_mk hlen hge hcm (Nat.le_of_eq (Eq.symm (by
      rw [List.length_append,hlen,Array.length_toList,size_zeroCells,hzs,← Nat.add_mul]
      congr 1
      omega)))
    rw [hnews] at hB
    unfold Oper.wp execOp
    simp only [ho,resolve,invoke,builtin,Sem.run_bind,Sem.run_pure,Result.andThen_ok,List.map_toArray,List.map_cons,List.map_nil,hs,hx,hr]
    rw [hnews]
    exact hK _ _ (h _ _ hge hB)
theorem qJY {ops:Array Oper} {rest:List Oper} {o:Oper} {a:Act} {Q:Exit→Act→World→Prop} (hgd:o.guard=none) (s:Operand) (t:TypeId)
    (ho:o.op=.call { callee:=.builtin .clear,args:=#[s],argTypes:=#[t] })
    (e:TypeId) (i:TypeInfo) (z:Value) (size:Nat) (ht:P.underlying t=some (.slice e)) (hi:P.info? e=some i) (hz:i.zero=some z) (hzs:z.cells.size=size) (h1:∀u∈z.cells,u.oneCell'=true)
    (g off n cap:Nat) (hs:a.eval s=.slice (some ⟨g,off,none⟩) n cap) (hn:0<n) {T:TypeId} {pre old post:List Value} (H:Hd w0 (cel g T (pre++(old++post)).toArray::R) w) (hpre:pre.length=off) (hold:old.length=n*size)
    (h:∀w',Hd w0 (cel g T (pre++((Builtin.zeroCells z.cells n).toList++post)).toArray::R) w'→wpList P ops Q rest (a.put o.dst (.tuple #[])) w'):wpList P ops Q (o::rest) a w :=
  wpList_plain hgd fun K hK=>by
    have hone:∀u∈(Builtin.zeroCells z.cells n).toList,u.oneCell'=true:=by
      intro u hu
      simp only [Builtin.zeroCells,Array.toList_map,List.mem_map] at hu
      obtain ⟨k,hk,rfl⟩:=hu
      have hpos:0<z.cells.size:=by
        rcases Nat.eq_zero_or_pos z.cells.size with h0 | h0
        · simp [h0] at hk
        · exact h0
      have hlt:=Nat.mod_lt k hpos
      rw [getElem!_pos z.cells _ hlt]
      exact h1 _ (Array.getElem_mem hlt)
    have hst:=qJM (P:=P) (news:=(Builtin.zeroCells z.cells n).toList) H hpre (by rw [hold,Array.length_toList,size_zeroCells,hzs]) hone
    have hn0:n≠0:=by omega
    have hr:(Builtin.clear_ #[t] o.type #[.slice (some ⟨g,off,none⟩) n cap]).run P w=.ok (.tuple #[]) (w.setRow g (pre++((Builtin.zeroCells z.cells n).toList++post)).toArray):=by
      obtain ⟨n,rfl⟩:∃k,n=k+1:=⟨n-1,by omega⟩
      simp [Builtin.clear_,run_underlying ht,zeroValue,typeInfo,hi,hz,hst]
    unfold Oper.wp execOp
    simp only [ho,resolve,invoke,builtin,Sem.run_bind,Sem.run_pure,Result.andThen_ok,List.map_toArray,List.map_cons,List.map_nil,hs,hr]
    exact hK _ _ (h _ (H.setRow _))
end
end
end Go.Proofs.YtkchopnkdjnocaaGreatDoor
