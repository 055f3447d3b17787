/-
  Merged texts of one proof: StM.
-/
import Derived.Test.YtkchopnkdjnocaaGreatDoorG47
import Derived.Test.YtkchopnkdjnocaaGreatDoorG48

set_option maxHeartbeats 16000000
set_option maxRecDepth 20000
namespace Go.Proofs.YtkchopnkdjnocaaGreatDoor
section
open Go.RowKit Spl
def qKt (rs:List RowM) (lv fr:Int) (l:Nat):Int:=if (l:Int)=lv∧qQo rs l<fr then qZE fr 0 5000 else qQo rs l
def qZn (rs:List RowM) (lv fr:Int):Nat→Int
  | 0=>0
  | k+1=>qZn rs lv fr k+qKt rs lv fr (k+1)
theorem qXH {rs:List RowM} {lv:Int} (hf:∀r∈rs,0≤r.t.fr∧r.t.fr≤4096):0≤qQo rs lv∧qQo rs lv≤4096:=by
  have:=qZ4 (lv:=lv) hf rs.length (Nat.le_refl _)
  rwa [List.take_length] at this
theorem zZn (n:Int) {lo hi:Int} (h:lo≤hi):lo≤qZE n lo hi∧qZE n lo hi≤hi:=by
  unfold qZE
  split
  · omega
  · split <;> omega
theorem qWY {rs:List RowM} (hf:∀r∈rs,0≤r.t.fr∧r.t.fr≤4096) (lv fr:Int) (l:Nat):0≤qKt rs lv fr l∧qKt rs lv fr l≤5000:=by
  have h1:=qXH (lv:=(l:Int)) hf
  have h2:=zZn fr (lo:=0) (hi:=5000) (by omega)
  unfold qKt
  split <;> omega
theorem qKW {rs:List RowM} (hf:∀r∈rs,0≤r.t.fr∧r.t.fr≤4096) (lv fr:Int):∀k:Nat,0≤qZn rs lv fr k∧qZn rs lv fr k≤5000*k
  | 0=>by unfold qZn;omega
  | k+1=>by
    have h1:=qKW hf lv fr k
    have h2:=qWY hf lv fr (k+1)
    unfold qZn
    omega
theorem qKZ {rs:List RowM} {lv fr:Int} (h1:1≤lv) (hf:0≤fr∧fr≤4096):∀k:Nat,qZn rs lv fr k=qQP rs (k+1)-qQo rs 0+(if lv≤k then max 0 (fr-qQo rs lv) else 0)
  | 0=>by
    have e:qQP rs (0+1)=qQo rs 0:=by
      rw [qZd]
      have:qQP rs 0=0:=by simp [qQP]
      rw [this]
      show 0+qQo rs ((0:Nat):Int)=_
      rw [Int.zero_add]
      rfl
    unfold qZn
    rw [e,if_neg (by omega)]
    omega
  | k+1=>by
    have ih:=qKZ (rs:=rs) h1 hf k
    have e:=qZd (rs:=rs) (k:=k+1)
    unfold qZn
    rw [ih,e]
    have hc:qZE fr 0 5000=fr:=by
      unfold qZE
      rw [if_neg (by omega),if_neg (by omega)]
    unfold qKt
    rw [hc]
    generalize hK:((k+1:Nat):Int)=K
    have hK2:K=k+1:=by omega
    by_cases hk:K=lv
    · rw [hk]
      rw [if_neg (show ¬lv≤(k:Int) by omega),if_pos (Int.le_refl lv)]
      by_cases hl:qQo rs lv<fr
      · rw [if_pos ⟨rfl,hl⟩];omega
      · rw [if_neg (fun h:lv=lv∧qQo rs lv<fr=>hl h.2)];omega
    · rw [if_neg (fun h:K=lv∧qQo rs K<fr=>hk h.1)]
      by_cases hl:lv≤(k:Int)
      · rw [if_pos hl,if_pos (show lv≤K by omega)];omega
      · rw [if_neg hl,if_neg (show ¬lv≤K by omega)];omega
theorem qVX {rs:List RowM} (h:∀r∈rs,1≤r.t.lv∧r.t.lv≤32):qQo rs 0=0:=by
  unfold qQo
  induction rs with
  | nil=>rfl
  | cons r rs ih =>
    rw [List.foldl_cons,if_neg (by have:=h r List.mem_cons_self;omega)]
    exact ih fun r hr=>h r (List.mem_cons_of_mem _ hr)
theorem qWI {m:TkM} (hm:m.Ok) {lv fr:Int} (h1:1≤lv∧lv≤32) (hf:0≤fr∧fr≤4096):qZn m.rows lv fr 32=qXg m.rows lv fr:=by
  rw [qKZ h1.1 hf,qVX hm.lv,if_pos (by omega)]
  unfold qXg
  rw [if_pos ⟨h1,hf⟩]
  have:qQ1 m.rows=qQP m.rows (32+1):=rfl
  rw [this]
  omega
theorem zQU (s:ByteArray) (i:Nat) (o:OpM) (j:Nat):¬(qQJ s i o j).1.2=25:=by
  unfold qQJ
  dsimp only
  split
  · show ¬(31:Int)=25;decide
  · split
    · show ¬(30:Int)=25;decide
    · rename_i h1 h2
      generalize (if (o.put j (qZB (qZs s i)).1).kind=1∧j=1 then _ else _:OpM)=z
      split
      · show ¬(30:Int)=25;decide
      · show ¬(0:Int)=25;decide
theorem qUU (s:ByteArray):∀(l:List Nat) (i:Nat) (o:OpM),¬(qZq s l i o).1.2=25
  | [],_,_=>by unfold qZq;show ¬(0:Int)=25;decide
  | j::l,i,o=>by
    unfold qZq
    split
    · exact qUU s l _ _
    · exact zQU s i o j
theorem zJM (s:ByteArray) (m:RdM) (k:Int):¬(oneM s m k).1.2=25:=by
  unfold oneM
  dsimp only
  split
  · split
    · split
      · show ¬(0:Int)=25;decide
      · split
        · show ¬(31:Int)=25;decide
        · show ¬(30:Int)=25;decide
    · split
      · show ¬(0:Int)=25;decide
      · show ¬(0:Int)=25;decide
  · exact qUU s _ _ _
theorem qqh (a:Nat) (b c:Int):¬qQV a b c=25:=by
  unfold qQV
  repeat' split
  all_goals decide
theorem qY0 (s:ByteArray):∀(n:Nat) (m:RdM),¬(qJh s n m).1.2=25
  | 0,_=>by unfold qJh;show ¬(0:Int)=25;decide
  | n+1,m=>by
    unfold qJh
    split
    · show ¬(0:Int)=25;decide
    · split
      · split
        · exact qY0 s n _
        · exact zJM s _ _
      · exact qqh _ _ _
theorem zQO (s:ByteArray):¬(qZD s).2.2=25:=by
  unfold qZD
  split
  · show ¬(5:Int)=25;decide
  · dsimp only
    split
    · split
      · show ¬(31:Int)=25;decide
      · show ¬(0:Int)=25;decide
    · exact qY0 s _ _
theorem qXv:∀(l:List OpM) (i n:Nat),¬(qQM l i n).2=25
  | [],i,n=>by
    unfold qQM
    split
    · show ¬(31:Int)=25;decide
    · show ¬(0:Int)=25;decide
  | o::l,i,n=>by
    unfold qQM
    split
    · show ¬(30:Int)=25;decide
    · split
      · split
        · show ¬(32:Int)=25;decide
        · exact qXv l _ _
      · split
        · split
          · show ¬(31:Int)=25;decide
          · exact qXv l _ _
        · exact qXv l _ _
theorem qqE (s:ByteArray):¬(qQB s).2=25:=by
  unfold qQB
  split
  · unfold qZj
    split
    · split
      · show ¬(5:Int)=25;decide
      · show ¬(0:Int)=25;decide
    · unfold qQW
      split
      · show ¬(4:Int)=25;decide
      · exact qXv _ _ _
  · exact zQO s
theorem qVL {u:List Int}:∀(l:List qZy) (pr:Option Int),¬qZp u l pr=25
  | [],pr=>by rw [qWg];decide
  | x::l,pr=>by
    rw [qZ9]
    have ih:=qVL (u:=u) l (some x.res)
    repeat' split
    all_goals first | exact ih | decide
theorem qqL {m:TkM} {x:qQY} (h:qQO m x=25):(qQB x.cd).2=0∧qJf x.nm=true∧qQs m.names x.nm=none∧((1≤x.lv∧x.lv≤32)∧0≤x.fr∧x.fr≤4096)∧qQG x.p x.f x.g=true∧qZp m.units x.needs none=0∧m.rows.length<64∧m.words<qXg m.rows x.lv x.fr:=by
  unfold qQO at h
  split at h
  · rename_i h1
    split at h
    · rename_i h2
      split at h
      · cases h
      · rename_i h3
        split at h
        · cases h
        · rename_i h4
          split at h
          · rename_i h5
            split at h
            · cases h
            · rename_i h6
              split at h
              · rename_i h7
                refine ⟨h1,h2,?_,⟨⟨by omega,by omega⟩,by omega,by omega⟩,?_,h5,by omega,h7⟩
                · cases hr:qQs m.names x.nm with
                  | none=>rfl
                  | some v=>rw [hr] at h3;exact absurd rfl h3
                · cases ht:qQG x.p x.f x.g with
                  | true=>rfl
                  | false=>exact absurd (Or.inr (Or.inr (Or.inr (Or.inr ht)))) h4
              · cases h
          · exact absurd h (qVL _ _)
    · cases h
  · exact absurd h (qqE _)
theorem qKo {m:TkM} {x:qQY} (h1:(qQB x.cd).2=0) (h2:qJf x.nm=true) (h3:qQs m.names x.nm=none) (h4:(1≤x.lv∧x.lv≤32)∧0≤x.fr∧x.fr≤4096) (h5:qQG x.p x.f x.g=true) (h6:qZp m.units x.needs none=0) (h7:m.rows.length<64) :
    qQO m x=if m.words<qXg m.rows x.lv x.fr then 25 else 0:=by
  unfold qQO
  rw [if_pos h1,if_pos h2,h3,if_neg (by simp),if_neg (by rw [h5];simp;omega),if_pos h6,if_neg (by omega)]
def qKk (x:qQY):qQY:=⟨x.nm,x.lv,0,x.needs,x.cd,x.p,x.f,x.g⟩
theorem zZt {m:KeM} {k:Nat} (hi:KeI m k) {x:qQY} (hf:0≤x.fr∧x.fr≤4096) (hs:m.checkE (qKk x)=0) :
    m.checkE x=if m.tk.words<qZn m.tk.rows x.lv x.fr 32 then 25 else 0:=by
  obtain ⟨h1,h2,h3,h4,h5,h6,h7,h8⟩:=qJS (qZL hs)
  dsimp only [qKk] at h1 h2 h3 h4 h5 h6
  have hc:=qKo h1 h2 h3 ⟨h4.1,hf⟩ h5 h6 h7
  rw [qWI hi.t.t h4.1 hf]
  have hb:m.busy x=false:=by
    cases hb:m.busy x with
    | false=>rfl
    | true =>
      have h9:m.busy (qKk x)=true:=hb
      unfold KeM.checkE at hs
      rw [if_pos (.inl (qZL hs)),if_pos h9] at hs
      cases hs
  unfold KeM.checkE
  rw [hc,hb]
  split
  · rfl
  · rfl
theorem zZQ {m:KeM} {k:Nat} (hi:KeI m k) {x:qQY} (h:m.checkE x=25):(0≤x.fr∧x.fr≤4096)∧m.checkE (qKk x)=0:=by
  have hc:qQO m.tk x=25∧m.busy x=false:=by
    unfold KeM.checkE at h
    split at h
    · split at h
      · cases h
      · rename_i hb
        exact ⟨h,by simpa using hb⟩
    · rename_i h0
      exact absurd (.inr h) h0
  obtain ⟨h1,h2,h3,h4,h5,h6,h7,h8⟩:=qqL hc.1
  refine ⟨h4.2,?_⟩
  have hg:qQO m.tk (qKk x)=0:=by
    rw [qKo (x:=qKk x) h1 h2 h3 ⟨h4.1,Int.le_refl 0,(show (0:Int)≤4096 by decide)⟩ h5 h6 h7,if_neg]
    have hb:=hi.t.b
    have hl:=qXH (lv:=x.lv) hi.t.t.fr
    show ¬m.tk.words<qXg m.tk.rows x.lv 0
    unfold qXg
    rw [if_pos ⟨h4.1,by decide,by decide⟩]
    omega
  unfold KeM.checkE
  rw [if_pos (.inl hg),hg]
  have:m.busy (qKk x)=false:=hc.2
  rw [this]
  rfl
theorem qq7 {m:KeM} {k:Nat} (hi:KeI m k) (he:Ext m):(m.dp.co.ar.used:Int)≤qQ1 m.tk.rows∧(m.dp.co.ar.high:Int)≤qQ1 m.tk.rows∧qQ1 m.tk.rows≤m.tk.words:=by
  have h1:=hi.d.c.b.a.high
  have h2:=he.hi
  exact ⟨by omega,h2,hi.t.b⟩
end
end Go.Proofs.YtkchopnkdjnocaaGreatDoor
