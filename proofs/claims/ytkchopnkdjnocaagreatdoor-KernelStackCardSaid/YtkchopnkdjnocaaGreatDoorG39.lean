/-
  Merged texts of one proof: InvB.
-/
import Derived.Test.YtkchopnkdjnocaaGreatDoorG37

set_option maxHeartbeats 16000000
set_option maxRecDepth 20000
namespace Go.Proofs.YtkchopnkdjnocaaGreatDoor
section
open Go.RowKit Spl
theorem qVW (rs:List RowM) (r:RowM) (lv:Int):qQo (rs++[r]) lv=if r.t.lv=lv then max (qQo rs lv) r.t.fr else qQo rs lv:=by simp [qQo,List.foldl_append]
theorem qYO (rs:List RowM) (r:RowM) (h:0≤r.t.lv):∀k:Nat,qQP (rs++[r]) k=qQP rs k+if r.t.lv<k then max 0 (r.t.fr-qQo rs r.t.lv) else 0
  | 0=>by
    rw [if_neg (by omega)]
    simp [qQP]
  | k+1=>by
    rw [qZd,qZd,qYO rs r h k,qVW]
    by_cases h1:r.t.lv<k
    · rw [if_pos h1,if_neg (show ¬r.t.lv=k by omega),if_pos (show r.t.lv<((k+1:Nat):Int) by omega)];omega
    · rw [if_neg h1]
      by_cases h2:r.t.lv=k
      · rw [if_pos h2,if_pos (show r.t.lv<((k+1:Nat):Int) by omega),h2];omega
      · rw [if_neg h2,if_neg (show ¬r.t.lv<((k+1:Nat):Int) by omega)];omega
theorem qYU {rs:List RowM} {r:RowM} (h:(1≤r.t.lv∧r.t.lv≤32)∧0≤r.t.fr∧r.t.fr≤4096):qQ1 (rs++[r])=qXg rs r.t.lv r.t.fr:=by
  unfold qQ1 qXg
  rw [if_pos h,qYO rs r (by omega),if_pos (by omega)]
  rfl
theorem qYK {rs:List RowM} (hf:∀r∈rs,0≤r.t.fr∧r.t.fr≤4096) (lv:Int):0≤qQo rs lv:=by
  have:=qZ4 hf (lv:=lv) rs.length (Nat.le_refl _)
  rw [List.take_length] at this
  exact this.1
theorem qVO (rs:List RowM) (lv:Int):∀n:Int,n≤rs.foldl (fun n r=>if r.t.lv=lv then max n r.t.fr else n) n:=by
  induction rs with
  | nil=>intro n;exact Int.le_refl _
  | cons r rs ih =>
    intro n
    rw [List.foldl_cons]
    have:=ih (if r.t.lv=lv then max n r.t.fr else n)
    split at this <;> split <;> first | omega | contradiction
theorem qJO {rs:List RowM} {r:RowM} (h:r∈rs):r.t.fr≤qQo rs r.t.lv:=by
  unfold qQo
  generalize (0:Int)=n
  induction rs generalizing n with
  | nil=>cases h
  | cons x rs ih =>
    rw [List.foldl_cons]
    rcases List.mem_cons.1 h with rfl | h
    · rw [if_pos rfl]
      have:=qVO rs r.t.lv (max n r.t.fr)
      omega
    · exact ih h _
theorem qJ6 {rs:List RowM} (hf:∀r∈rs,0≤r.t.fr∧r.t.fr≤4096) {a:Nat}:∀ {b:Nat},a≤b→qQP rs a≤qQP rs b
  | 0,h=>by
    have:a=0:=by omega
    subst this;exact Int.le_refl _
  | b+1,h=>by
    by_cases h1:a=b+1
    · subst h1;exact Int.le_refl _
    · have:=qJ6 hf (a:=a) (b:=b) (by omega)
      have:=qYK hf (b:Int)
      rw [qZd]
      omega
theorem qXf {rs:List RowM} (hf:∀r∈rs,0≤r.t.fr∧r.t.fr≤4096) {f:StM→Int}:∀ {l:List StM} {a k:Nat} (_:l.Pairwise fun x y=>x.level<y.level) (_:∀j∈l,(a:Int)≤j.level∧j.level<k∧f j≤qQo rs j.level) (_:a≤k),(l.map f).sum+qQP rs a≤qQP rs k
  | [],a,k,_,_,hk=>by simpa using qJ6 hf hk
  | j::l,a,k,hp,h,hk=>by
    have h2:=List.pairwise_cons.1 hp
    obtain ⟨h3,h4,h5⟩:=h j (by simp)
    obtain ⟨n,hn⟩:∃n:Nat,j.level=n:=⟨j.level.toNat,by omega⟩
    have h6:=qXf hf (f:=f) (l:=l) (a:=n+1) (k:=k) h2.2 (fun x hx=>by
      have:=h2.1 x hx
      have:=h x (by simp [hx])
      exact ⟨by push_cast;omega,this.2⟩) (by omega)
    have h7:=qJ6 hf (a:=a) (b:=n) (by omega)
    rw [qZd,← hn] at h6
    rw [List.map_cons,List.sum_cons]
    omega
theorem qY2:∀ {l:List StM} {a k:Nat} (_:l.Pairwise fun x y=>x.level<y.level) (_:∀j∈l,(a:Int)≤j.level∧j.level<k) (_:a≤k),l.length+a≤k
  | [],a,k,_,_,hk=>by simpa using hk
  | j::l,a,k,hp,h,hk=>by
    have h2:=List.pairwise_cons.1 hp
    obtain ⟨h3,h4⟩:=h j (by simp)
    obtain ⟨n,hn⟩:∃n:Nat,j.level=n:=⟨j.level.toNat,by omega⟩
    have h6:=qY2 (l:=l) (a:=n+1) (k:=k) h2.2 (fun x hx=>by
      have:=h2.1 x hx
      have:=h x (by simp [hx])
      exact ⟨by push_cast;omega,this.2⟩) (by omega)
    rw [List.length_cons]
    omega
end
end Go.Proofs.YtkchopnkdjnocaaGreatDoor
