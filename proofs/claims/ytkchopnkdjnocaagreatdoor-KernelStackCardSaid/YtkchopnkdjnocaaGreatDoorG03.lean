/-
  Merged texts of one proof: RelM.
-/

set_option maxHeartbeats 16000000
set_option maxRecDepth 20000
namespace Go.Proofs.YtkchopnkdjnocaaGreatDoor
section
structure Pat where
  period:Int
  gap:Int
  due:Int
  last:Int
  has:Bool
structure Clk where
  now:Int
  l:List Pat
def tOk (n:Int):Bool:=decide (0≤n) && decide (n≤1048576)
def qQG (p f g:Int):Bool:=tOk p && tOk f && tOk g && (decide (p=0) || decide (g=0)) && (decide (0<p) == decide (0<f))
namespace Clk
def full (m:Clk):Bool:=decide (64≤m.l.length)
def add (m:Clk) (p f g:Int):Clk:=if m.full then m else if qQG p f g then ⟨m.now,m.l++[⟨p,g,m.now+f,0,false⟩]⟩ else m
def addN (m:Clk) (p f g:Int):Int:=if m.full then -1 else if qQG p f g then m.l.length else -1
def addE (m:Clk) (p f g:Int):Int:=if m.full then 4 else if qQG p f g then 0 else 1
end Clk
def Pat.isDue (now:Int) (p:Pat):Bool:=decide (0<p.period) && decide (p.due=now)
def Pat.tick (now:Int) (p:Pat):Pat:=if p.isDue now then { p with due:=p.due+p.period } else p
def qZc (now:Int):Nat→List Pat→List Int
  | _,[]=>[]
  | k,p::ps=>if p.isDue now then (k:Int)::qZc now (k+1) ps else qZc now (k+1) ps
namespace Clk
def atEnd (m:Clk):Bool:=decide (1099511627776≤m.now)
def tick (m:Clk):Clk:=if m.atEnd then m else ⟨m.now+1,m.l.map (Pat.tick (m.now+1))⟩
def tickL (m:Clk):List Int:=if m.atEnd then [] else qZc (m.now+1) 0 m.l
def tickE (m:Clk):Int:=if m.atEnd then 1 else 0
def at? (m:Clk) (id:Int):Option Pat:=if 0≤id then m.l[id.toNat]? else none
def readyP (now:Int) (p:Pat):Int:=if 0<p.period then 40 else if p.has && decide (now-p.last<p.gap) then 41 else 0
def ready (m:Clk) (id:Int):Int:=match m.at? id with | none=>1 | some p=>readyP m.now p
def note (m:Clk) (id:Int):Clk:=match m.at? id with | none=>m | some p=>⟨m.now,m.l.set id.toNat { p with last:=m.now,has:=true }⟩
def noteE (m:Clk) (id:Int):Int:=match m.at? id with | none=>1 | some _=>0
def zKp (p:Pat):Int × Bool:=if p.has then (p.last,true) else (0,false)
def last (m:Clk) (id:Int):Int × Bool:=match m.at? id with | none=>(0,false) | some p=>zKp p
def zKB (p:Pat):Int × Bool:=if p.period=0 then (0,false) else (p.due,true)
def next (m:Clk) (id:Int):Int × Bool:=match m.at? id with | none=>(0,false) | some p=>zKB p
end Clk
structure Pat.Ok (now:Int) (p:Pat):Prop where
  p0:0≤p.period
  p1:p.period≤1048576
  g0:0≤p.gap
  g1:p.gap≤1048576
  d0:0≤p.due
  d1:p.due≤now+1048576
  d2:0<p.period→now<p.due
  l0:0≤p.last
  l1:p.last≤now
structure Clk.Ok (m:Clk):Prop where
  n0:0≤m.now
  n1:m.now≤1099511627776
  len:m.l.length≤64
  pat:∀p∈m.l,p.Ok m.now
theorem Clk.Ok.new:Clk.Ok ⟨0,[]⟩:=⟨by decide,by decide,by decide,by simp⟩
theorem zKx {n:Int}:tOk n=true↔0≤n∧n≤1048576:=by simp [tOk]
theorem qXI {p f g:Int}:qQG p f g=true↔(0≤p∧p≤1048576)∧(0≤f∧f≤1048576)∧(0≤g∧g≤1048576)∧(p=0∨g=0)∧(0<p↔0<f):=by
  simp [qQG,tOk,and_assoc]
theorem Clk.Ok.add {m:Clk} (h:m.Ok) (p f g:Int):(m.add p f g).Ok:=by
  unfold Clk.add
  by_cases hf:m.full=true
  · rw [if_pos hf];exact h
  · rw [if_neg hf]
    by_cases ht:qQG p f g=true
    · rw [if_pos ht]
      obtain ⟨h1,h2,h3,h4,h5⟩:=qXI.1 ht
      have hl:m.l.length<64:=by simpa [Clk.full] using hf
      refine ⟨h.n0,h.n1,by simp;omega,fun q hq=>?_⟩
      rcases List.mem_append.1 hq with hq | hq
      · exact h.pat q hq
      · obtain rfl:=List.mem_singleton.1 hq
        have:=h.n0
        exact ⟨h1.1,h1.2,h3.1,h3.2,by show 0≤m.now+f;omega,by show m.now+f≤m.now+1048576;omega,fun hp=>by show m.now<m.now+f;have:=h5.1 hp;omega,Int.le_refl 0,h.n0⟩
    · rw [if_neg ht];exact h
theorem Pat.Ok.tick {p:Pat} {now:Int} (h:p.Ok now) (hn:0≤now):(p.tick (now+1)).Ok (now+1):=by
  unfold Pat.tick
  by_cases hd:p.isDue (now+1)=true
  · rw [if_pos hd]
    obtain ⟨e1,e2⟩:0<p.period∧p.due=now+1:=by simpa [Pat.isDue] using hd
    have:=h.p1;have:=h.l1
    exact ⟨h.p0,h.p1,h.g0,h.g1,by show 0≤p.due+p.period;omega,by show p.due+p.period≤_;omega,fun _=>by show _<p.due+p.period;omega,h.l0,by show p.last≤_;omega⟩
  · rw [if_neg hd]
    have hd':¬(0<p.period∧p.due=now+1):=by simpa [Pat.isDue] using hd
    have:=h.d1;have:=h.l1
    refine ⟨h.p0,h.p1,h.g0,h.g1,h.d0,by omega,fun hp=>?_,h.l0,by omega⟩
    have:=h.d2 hp
    have:p.due≠now+1:=fun e=>hd' ⟨hp,e⟩
    omega
theorem Clk.Ok.tick {m:Clk} (h:m.Ok):m.tick.Ok:=by
  unfold Clk.tick
  by_cases he:m.atEnd=true
  · rw [if_pos he];exact h
  · rw [if_neg he]
    have he':m.now<1099511627776:=by simpa [Clk.atEnd] using he
    have:=h.n0
    refine ⟨by show 0≤m.now+1;omega,by show m.now+1≤_;omega,by simpa using h.len,fun q hq=>?_⟩
    obtain ⟨p,hp,rfl⟩:=List.mem_map.1 hq
    exact (h.pat p hp).tick h.n0
theorem Clk.at?_mem {m:Clk} {id:Int} {p:Pat} (h:m.at? id=some p):p∈m.l:=by
  unfold Clk.at? at h
  by_cases h0:0≤id
  · rw [if_pos h0] at h;exact List.mem_of_getElem? h
  · rw [if_neg h0] at h;cases h
theorem Clk.Ok.note {m:Clk} (h:m.Ok) (id:Int):(m.note id).Ok:=by
  unfold Clk.note
  cases e:m.at? id with
  | none=>exact h
  | some p =>
    have hp:=h.pat p (Clk.at?_mem e)
    refine ⟨h.n0,h.n1,by simpa using h.len,fun q hq=>?_⟩
    rcases List.mem_or_eq_of_mem_set hq with hq | rfl
    · exact h.pat q hq
    · exact ⟨hp.p0,hp.p1,hp.g0,hp.g1,hp.d0,hp.d1,hp.d2,h.n0,Int.le_refl _⟩
def qJu (now:Int) (l:List Pat) (k:Nat):List Pat:=(l.take k).map (Pat.tick now)++l.drop k
def qXF (now:Int) (l:List Pat) (k:Nat):List Int:=qZc now 0 (l.take k)
theorem qV7 (now:Int) (l:List Pat):qJu now l 0=l:=by simp [qJu]
theorem qqf (now:Int) (l:List Pat):qJu now l l.length=l.map (Pat.tick now):=by simp [qJu]
theorem qqn (now:Int) (l:List Pat):qXF now l 0 = []:=by simp [qXF,qZc]
theorem zQZ (now:Int) (l:List Pat):qXF now l l.length=qZc now 0 l:=by simp [qXF]
theorem zZ3 (now:Int) (l:List Pat) (k:Nat):(qJu now l k).length=l.length:=by simp [qJu];omega
theorem qVN {now:Int} {l:List Pat} {k:Nat} {p:Pat} (h:l[k]? = some p):(qJu now l k)[k]? = some p:=by
  have hk:=(List.getElem?_eq_some_iff.1 h).1
  unfold qJu
  rw [List.getElem?_append_right (by simp;omega)]
  have e:k-((l.take k).map (Pat.tick now)).length=0:=by simp;omega
  rw [e,List.getElem?_drop]
  exact h
theorem qK4 {now:Int} {l:List Pat} {k:Nat} {p:Pat} (h:l[k]? = some p):qJu now l (k+1)=(qJu now l k).set k (p.tick now):=by
  have hk:=(List.getElem?_eq_some_iff.1 h).1
  have e1:l.take (k+1)=l.take k++[p]:=by rw [List.take_add_one,h];rfl
  have e2:l.drop k=p::l.drop (k+1):=by
    rw [List.drop_eq_getElem_cons hk]
    have:=List.getElem?_eq_getElem hk
    rw [h] at this
    rw [Option.some.inj this]
  unfold qJu
  rw [e1,e2,List.set_append_right _ _ (by simp;omega)]
  have e:k-((l.take k).map (Pat.tick now)).length=0:=by simp;omega
  rw [e]
  simp
theorem zZl {now:Int} {p:Pat} (h:p.isDue now=false):p.tick now=p:=by simp [Pat.tick,h]
theorem qKS {now:Int} {l:List Pat} {k:Nat} {p:Pat} (h:l[k]? = some p) (hd:p.isDue now=false):qJu now l (k+1)=qJu now l k:=by
  rw [qK4 h,zZl hd]
  have h2:=qVN (now:=now) h
  obtain ⟨hk,rfl⟩:=List.getElem?_eq_some_iff.1 h2
  exact List.set_getElem_self hk
theorem qWV (now:Int) (a b:List Pat):∀k,qZc now k (a++b)=qZc now k a++qZc now (k+a.length) b:=by
  induction a with
  | nil=>intro k;rfl
  | cons p a ih =>
    intro k
    simp only [List.cons_append,qZc,List.length_cons]
    have e:k+(a.length+1)=k+1+a.length:=by omega
    split <;> simp [ih,e]
theorem qY6 {now:Int} {l:List Pat} {k:Nat} {p:Pat} (h:l[k]? = some p):qXF now l (k+1)=qXF now l k++(if p.isDue now then [(k:Int)] else []):=by
  have hk:=(List.getElem?_eq_some_iff.1 h).1
  have e1:l.take (k+1)=l.take k++[p]:=by rw [List.take_add_one,h];rfl
  unfold qXF
  rw [e1,qWV]
  have e:0+(l.take k).length=k:=by simp;omega
  rw [e]
  rfl
theorem zQW {now:Int} {l:List Pat} {k:Nat} {p:Pat} (h:l[k]? = some p) (hd:p.isDue now=true):qXF now l (k+1)=qXF now l k++[(k:Int)]:=by
  rw [qY6 h,if_pos hd]
theorem qVF {now:Int} {l:List Pat} {k:Nat} {p:Pat} (h:l[k]? = some p) (hd:p.isDue now=false):qXF now l (k+1)=qXF now l k:=by
  rw [qY6 h,if_neg (by simp [hd])];simp
theorem qX1 (now:Int) (l:List Pat):∀k,(qZc now k l).length≤l.length:=by
  induction l with
  | nil=>intro k;simp [qZc]
  | cons p l ih =>
    intro k
    have:=ih (k+1)
    simp only [qZc,List.length_cons]
    split <;> simp <;> omega
theorem qVS (now:Int) (l:List Pat) (k:Nat):(qXF now l k).length≤l.length:=by
  have:=qX1 now (l.take k) 0
  simp only [List.length_take] at this
  unfold qXF
  omega
end
end Go.Proofs.YtkchopnkdjnocaaGreatDoor
