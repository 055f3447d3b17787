/-
  Merged texts of one proof: InvK.
-/
import Derived.Test.YtkchopnkdjnocaaGreatDoorG33
import Derived.Test.YtkchopnkdjnocaaGreatDoorG35
import Derived.Test.YtkchopnkdjnocaaGreatDoorG39
import Derived.Test.YtkchopnkdjnocaaGreatDoorG40

set_option maxHeartbeats 16000000
set_option maxRecDepth 20000
namespace Go.Proofs.YtkchopnkdjnocaaGreatDoor
section
open Go.RowKit Spl
def frOf (tk:TkM) (j:StM):Nat:=(tk.rows[j.task]?.map (·.t.fr.toNat)).getD 0
structure CoB (tk:TkM) (ar:ArM) (un:UnM) (ce:List Int):Prop where
  a:ar.Ok
  an:(ar.n:Int)=tk.words
  u:un.Inv
  uu:un.units=tk.units
  cl:ce.length=qQy un.jobs
structure JobI (tk:TkM) (n:Nat) (j:StM):Prop where
  j0:0≤j.job
  j1:j.job<n
  r:∃r,tk.rows[j.task]? = some r∧r.t.lv=j.level∧r.steps=j.steps
  p:j.pos<j.steps.length
structure CoI (tk:TkM) (m:CoM) (n:Nat):Prop where
  b:CoB tk m.ar m.un m.ce
  j:∀j∈m.jobs,JobI tk n j
  rise:m.jobs.Pairwise fun x y=>x.level<y.level
  fr:m.ar.fr.map FrM.size=m.jobs.map (frOf tk)
theorem qXR (m:ArM) (v:Int):(m.push v).fr.map FrM.size=m.fr.map FrM.size∧(m.push v).n=m.n:=by
  unfold ArM.push
  rcases qQr m.fr with h | ⟨a,f,h⟩
  · rw [h];exact ⟨by simp [h],rfl⟩
  · rw [h]
    simp only [List.getLast?_append,List.getLast?_singleton,Option.some_or,List.dropLast_concat]
    split
    · exact ⟨by rw [h],rfl⟩
    · exact ⟨by simp,rfl⟩
theorem qXp (m:ArM):m.pop.fr.map FrM.size=m.fr.map FrM.size∧m.pop.n=m.n:=by
  unfold ArM.pop
  rcases qQr m.fr with h | ⟨a,f,h⟩
  · rw [h];exact ⟨by simp [h],rfl⟩
  · rw [h]
    simp only [List.getLast?_append,List.getLast?_singleton,Option.some_or,List.dropLast_concat]
    split
    · exact ⟨by rw [h],rfl⟩
    · exact ⟨by simp,rfl⟩
theorem CoB.push {tk:TkM} {ar:ArM} {un:UnM} {ce:List Int} (h:CoB tk ar un ce) (v:Int):CoB tk (ar.push v) un ce:=⟨h.a.push v,by rw [(qXR ar v).2];exact h.an,h.u,h.uu,h.cl⟩
theorem CoB.pop {tk:TkM} {ar:ArM} {un:UnM} {ce:List Int} (h:CoB tk ar un ce):CoB tk ar.pop un ce:=⟨h.a.pop,by rw [(qXp ar).2];exact h.an,h.u,h.uu,h.cl⟩
theorem CoB.stored {tk:TkM} {ar:ArM} {un:UnM} {ce:List Int} (h:CoB tk ar un ce) (r:Nat) (v:Int):CoB tk ar (un.stored r v) ce:=⟨h.a,h.an,h.u.stored r v,h.uu,h.cl⟩
theorem qqe {tk:TkM} {m:CoM} (h:CoB tk m.ar m.un m.ce) (j:StM) (o:OpM) :
    CoB tk (actM tk m j o).2.ar (actM tk m j o).2.un (actM tk m j o).2.ce∧(actM tk m j o).2.jobs=m.jobs∧(actM tk m j o).2.ar.fr.map FrM.size=m.ar.fr.map FrM.size:=by
  unfold actM
  by_cases h1:o.kind=1
  · rw [if_pos h1]
    split
    · rename_i hE
      obtain ⟨r,hr⟩:∃r:Nat,o.res=r:=⟨o.res.toNat,by have:=qXU hE;omega⟩
      rw [hr] at hE ⊢
      rw [Int.toNat_natCast]
      have h2:=UnM.locked_all h.u j.job r o.n
      exact ⟨⟨h.a,h.an,h.u.locked hE,h2.2.trans h.uu,by dsimp only;rw [List.length_append,List.length_singleton,h2.1,h.cl]⟩,rfl,rfl⟩
    · exact ⟨h,rfl,rfl⟩
  · rw [if_neg h1]
    by_cases h2:o.kind=2
    · rw [if_pos h2]
      split
      · rename_i hE
        have h3:=UnM.popped_all h.u j.job
        have h4:=UnM.unlockE_lock hE
        rw [if_neg (by omega)] at h3
        exact ⟨⟨h.a,h.an,h.u.popped j.job,h3.2.2.trans h.uu,by dsimp only;rw [List.length_dropLast,h3.1,h.cl]⟩,rfl,rfl⟩
      · exact ⟨h,rfl,rfl⟩
    · rw [if_neg h2]
      by_cases h3:o.kind=3
      · rw [if_pos h3]
        exact ⟨h.push _,rfl,(qXR _ _).1⟩
      · rw [if_neg h3]
        by_cases h4:o.kind=4
        · rw [if_pos h4]
          exact ⟨h.pop,rfl,(qXp _).1⟩
        · rw [if_neg h4]
          by_cases h6:o.kind=6
          · rw [if_pos h6]
            split
            · exact ⟨h.push _,rfl,(qXR _ _).1⟩
            · exact ⟨h,rfl,rfl⟩
          · rw [if_neg h6]
            by_cases h7:o.kind=7
            · rw [if_pos h7]
              split
              · split
                · exact ⟨h.pop.stored _ _,rfl,(qXp _).1⟩
                · exact ⟨h.pop,rfl,(qXp _).1⟩
              · exact ⟨h,rfl,rfl⟩
            · rw [if_neg h7]
              by_cases h8:o.kind=8
              · rw [if_pos h8]
                split
                · exact ⟨h,rfl,rfl⟩
                · exact ⟨(h.pop.pop).push _,rfl,((qXR _ _).1.trans (qXp _).1).trans (qXp _).1⟩
              · rw [if_neg h8]
                exact ⟨h,rfl,rfl⟩
theorem qJc {l:List StM} {j:StM}:(l++[j]).Pairwise (fun x y=>x.level<y.level)↔l.Pairwise (fun x y=>x.level<y.level)∧∀x∈l,x.level<j.level:=by
  rw [List.pairwise_append]
  simp
theorem CoI.levels {tk:TkM} {m:CoM} {n:Nat} (ht:tk.Ok) (h:CoI tk m n):∀j∈m.jobs,((1:Nat):Int)≤j.level∧j.level<((33:Nat):Int):=by
  intro j hj
  obtain ⟨r,hr,e,_⟩:=(h.j j hj).r
  have:=ht.lv r (List.mem_of_getElem? hr)
  omega
theorem CoI.few {tk:TkM} {m:CoM} {n:Nat} (ht:tk.Ok) (h:CoI tk m n):m.jobs.length≤32∧m.ar.fr.length=m.jobs.length:=by
  have h1:=qY2 h.rise (h.levels ht) (by omega)
  have h2:=congrArg List.length h.fr
  rw [List.length_map,List.length_map] at h2
  exact ⟨by omega,h2⟩
theorem qWw {α:Type} (f:α→Nat):∀l:List α,(((l.map f).sum:Nat):Int)=(l.map fun x=>(f x:Int)).sum
  | []=>rfl
  | x::l=>by
    have:=qWw f l
    simp only [List.map_cons,List.sum_cons]
    push_cast
    omega
theorem qKI {tk:TkM} (ht:tk.Ok) {j:StM} {r:RowM} (hr:tk.rows[j.task]? = some r):(frOf tk j:Int)=r.t.fr:=by
  unfold frOf
  rw [hr]
  have:=ht.fr r (List.mem_of_getElem? hr)
  simp only [Option.map_some,Option.getD_some]
  omega
theorem CoI.room {tk:TkM} {m:CoM} {n:Nat} (ht:tk.Ok) (hb:qQ1 tk.rows≤tk.words) (h:CoI tk m n) {i:Nat} {r:RowM} (hr:tk.rows[i]? = some r) (hl:∀x∈m.jobs,x.level<r.t.lv):m.ar.openE r.t.fr=0:=by
  have hrow:=List.mem_of_getElem? hr
  have h1:=ht.lv r hrow
  have h2:=ht.fr r hrow
  have h3:=qXf ht.fr (f:=fun j=>(frOf tk j:Int)) (l:=m.jobs++[⟨0,i,r.t.lv,0,r.steps⟩]) (a:=0) (k:=33) (qJc.2 ⟨h.rise,hl⟩) (fun j hj=>by
    rcases List.mem_append.1 hj with hj | hj
    · obtain ⟨r',hr',e,_⟩:=(h.j j hj).r
      have h4:=h.levels ht j hj
      have h5:=qJO (List.mem_of_getElem? hr')
      rw [e] at h5
      have h6:=qKI ht hr'
      exact ⟨by omega,by omega,by omega⟩
    · rw [List.mem_singleton] at hj
      subst hj
      have h5:=qJO hrow
      have h6:=qKI ht (j:=⟨0,i,r.t.lv,0,r.steps⟩) hr
      exact ⟨by dsimp only;omega,by dsimp only;omega,by dsimp only;omega⟩) (by omega)
  rw [List.map_append,List.sum_append] at h3
  have h6:=qKI ht (j:=⟨0,i,r.t.lv,0,r.steps⟩) hr
  simp only [List.map_cons,List.map_nil,List.sum_cons,List.sum_nil] at h3
  have h7:(m.ar.used:Int)=(m.jobs.map fun j=>(frOf tk j:Int)).sum:=by
    rw [← qWw,← h.fr];rfl
  have h8:qQP tk.rows 0=0:=by simp [qQP]
  have h9:=h.b.an
  unfold qQ1 at hb
  unfold ArM.openE
  rw [if_neg (by omega),if_neg (by omega)]
theorem CoI.begun {tk:TkM} {m:CoM} {n:Nat} (ht:tk.Ok) (hst:∀r∈tk.rows,qJq r.steps) (hb:qQ1 tk.rows≤tk.words) (h:CoI tk m n) {i:Nat} {r:RowM} (hr:tk.rows[i]? = some r) (hl:∀x∈m.jobs,x.level<r.t.lv) {job:Int} (j0:0≤job) (j1:job<n) :
    CoI tk (m.begun job i r) n:=by
  have h0:=h.room ht hb hr hl
  have h1:=h.few ht
  have h2:(m.ar.openF r.t.fr).fr=m.ar.fr++[⟨r.t.fr.toNat,[]⟩]∧(m.ar.openF r.t.fr).n=m.ar.n:=by unfold ArM.openF;rw [if_pos h0];exact ⟨rfl,rfl⟩
  refine ⟨⟨h.b.a.openF _ (by omega),by show ((m.ar.openF r.t.fr).n:Int)=_;rw [h2.2];exact h.b.an,h.b.u,h.b.uu,h.b.cl⟩,fun j hj=>?_,qJc.2 ⟨h.rise,hl⟩,?_⟩
  · rcases List.mem_append.1 hj with hj | hj
    · exact h.j j hj
    · rw [List.mem_singleton] at hj
      subst hj
      exact ⟨j0,j1,⟨r,hr,rfl,rfl⟩,(hst r (List.mem_of_getElem? hr)).ne⟩
  · show (m.ar.openF r.t.fr).fr.map FrM.size=(m.jobs++[_]).map (frOf tk)
    rw [h2.1,List.map_append,List.map_append,h.fr]
    congr 1
    simp only [List.map_cons,List.map_nil]
    unfold frOf
    rw [hr]
    rfl
theorem CoI.stepOk {tk:TkM} {m:CoM} {n:Nat} (ht:tk.Ok) (hst:∀r∈tk.rows,qJq r.steps) (h:CoI tk m n):zQb tk m:=by
  intro j hj
  have hmem:=List.mem_of_getLast? hj
  have hJ:=h.j j hmem
  obtain ⟨r,hr,e1,e2⟩:=hJ.r
  have hs:=hst r (List.mem_of_getElem? hr)
  have hlen:=ht.st r (List.mem_of_getElem? hr)
  rw [e2] at hs hlen
  have hp:=hJ.p
  obtain ⟨o,ho⟩:∃o,j.steps[j.pos]? = some o:=⟨j.steps[j.pos],List.getElem?_eq_getElem hp⟩
  obtain ⟨k1,k2,k3⟩:=hs.k o (List.mem_of_getElem? ho)
  have hf:=h.few ht
  have htop:=h.b.u.locksTop
  have hcl:=h.b.cl
  refine ⟨o,ho,k1,by omega,⟨ht,h.b.a,h.b.u,by omega,fun h0=>?_,⟨r,hr⟩,⟨k2,k3⟩,fun hE h0=>?_,?_⟩⟩
  · have h3:=hf.2
    rw [h0] at h3
    have:m.jobs = []:=List.eq_nil_of_length_eq_zero h3.symm
    rw [this] at hmem
    cases hmem
  · have h4:=UnM.unlockE_lock hE
    have h5:=UnM.locksN_le h.b.u j.job
    rw [h0] at hcl
    simp at hcl
    omega
  · have h5:=UnM.locksN_le h.b.u j.job
    omega
theorem CoI.step {tk:TkM} {m m':CoM} {n:Nat} {d:qYE} (_ht:tk.Ok) (hst:∀r∈tk.rows,qJq r.steps) (h:CoI tk m n) (hs:m.step tk=some (d,m')):CoI tk m' n∧(∀k,m'.jobs.countP (fun x=>x.job == k)≤m.jobs.countP (fun x=>x.job == k)):=by
  unfold CoM.step at hs
  rcases qQr m.jobs with h0 | ⟨a,j,h0⟩
  · rw [h0] at hs;simp at hs
  · have hlast:m.jobs.getLast? = some j:=by rw [h0];simp
    have hdrop:m.jobs.dropLast=a:=by rw [h0];simp
    have hJ:=h.j j (by rw [h0];simp)
    have hJa:∀x∈a,JobI tk n x:=fun x hx=>h.j x (by rw [h0];exact List.mem_append_left _ hx)
    have hrise:=h.rise
    rw [h0] at hrise
    have hrise2:=qJc.1 hrise
    have hfr:=h.fr
    rw [h0,List.map_append] at hfr
    rw [hlast] at hs
    dsimp only at hs
    obtain ⟨r,hr,e1,e2⟩:=hJ.r
    have hsl:=hst r (List.mem_of_getElem? hr)
    rw [e2] at hsl
    split at hs
    · cases hs
    · rename_i o ho
      split at hs
      · injection hs with hs
        injection hs with hs1 hs2
        subst hs2
        unfold qJX
        rw [hdrop]
        refine ⟨⟨⟨h.b.a.close,h.b.an,h.b.u.popN _ _,?_,?_⟩,hJa,hrise2.1,?_⟩,fun k=>?_⟩
        · exact ((UnM.popN_all h.b.u j.job _ (Nat.le_refl _)).2.2).trans h.b.uu
        · have h5:=UnM.popN_all h.b.u j.job _ (Nat.le_refl _)
          have h6:=h.b.cl
          dsimp only
          rw [List.length_take]
          omega
        · show m.ar.fr.dropLast.map FrM.size=_
          rw [List.map_dropLast,hfr]
          simp
        · dsimp only;rw [h0,List.countP_append];omega
      · rename_i h9
        injection hs with hs
        injection hs with hs1 hs2
        subst hs2
        obtain ⟨k1,k2,k3⟩:=qqe (j:=j) (o:=o) h.b
        have hp1:=hsl.e j.pos o ho h9
        rw [hdrop]
        refine ⟨⟨k1,fun x hx=>?_,qJc.2 ⟨hrise2.1,hrise2.2⟩,?_⟩,fun k=>?_⟩
        · rcases List.mem_append.1 hx with hx | hx
          · exact hJa x hx
          · rw [List.mem_singleton] at hx
            subst hx
            exact ⟨hJ.j0,hJ.j1,⟨r,hr,e1,e2⟩,hp1⟩
        · dsimp only
          rw [k3,hfr,List.map_append]
          rfl
        · dsimp only
          rw [h0,List.countP_append,List.countP_append]
          exact Nat.le_refl _
theorem CoI.more {tk:TkM} {m:CoM} {n n':Nat} (h:CoI tk m n) (hn:n≤n'):CoI tk m n':=⟨h.b,fun j hj=>⟨(h.j j hj).j0,by have:=(h.j j hj).j1;omega,(h.j j hj).r,(h.j j hj).p⟩,h.rise,h.fr⟩
theorem CoI.new {words:Int} {units:List Int} (hc:qJA words units=0) (hu:qYF units=0):CoI ⟨words,units,[],[]⟩ (CoM.new ⟨words,units,[],[]⟩) 0:=by
  have hw:0≤words∧words≤65536:=by
    unfold qJA at hc
    split at hc
    · cases hc
    · omega
  refine ⟨⟨ArM.Ok.new (by dsimp only;omega),?_,UnM.Inv.new hu,rfl,rfl⟩,fun j hj=>(by cases hj),List.Pairwise.nil,rfl⟩
  show ((ArM.new words.toNat).n:Int)=words
  unfold ArM.new
  dsimp only
  omega
theorem CoI.added {tk:TkM} {m:CoM} {n:Nat} (h:CoI tk m n) (x:qQY):CoI (tk.added x) m n:=by
  have hk:∀ {i:Nat} {r:RowM},tk.rows[i]? = some r→(tk.added x).rows[i]? = some r:=by
    intro i r hr
    show (tk.rows++[_])[i]? = _
    rw [List.getElem?_append_left (qQa hr)]
    exact hr
  refine ⟨⟨h.b.a,h.b.an,h.b.u,h.b.uu,h.b.cl⟩,fun j hj=>?_,h.rise,?_⟩
  · obtain ⟨r,hr,e⟩:=(h.j j hj).r
    exact ⟨(h.j j hj).j0,(h.j j hj).j1,⟨r,hk hr,e⟩,(h.j j hj).p⟩
  · rw [h.fr]
    refine List.map_congr_left fun j hj=>?_
    obtain ⟨r,hr,e⟩:=(h.j j hj).r
    unfold frOf
    rw [hr,hk hr]
end
end Go.Proofs.YtkchopnkdjnocaaGreatDoor
