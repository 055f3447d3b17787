/-
  KernelStack: at every config, every list of calls and every task the call returns true, and what came in reads behind the call as before. Condition: the listed variables of the library read as their initialisers lay them, which the card ties to the program's text.
-/
import Derived.SevenTiedAt
import Derived.Test.YtkchopnkdjnocaaGreatDoorCards
import Derived.Test.YtkchopnkdjnocaaGreatDoorG18
import Derived.Test.YtkchopnkdjnocaaGreatDoorG34
import Derived.Test.YtkchopnkdjnocaaGreatDoorG52
import Derived.Test.YtkchopnkdjnocaaGreatDoorTie
namespace Go.Proofs.YtkchopnkdjnocaaGreatDoor.kernelStack
open Go.ChangeShapes Go.WideShapes Go.ChangeAt Go.RowKit Spl

set_option maxRecDepth 100000 in
theorem lifted (os:Os) (started:os.Started) (H:Type) (enc:TypeId × Value→H) :
    ReturnsInHanded {} Tryz.checked os 4 .any (fun w args=>(Rows.kernelStackSpec.pre enc Tryz.prog Tryz.f4 [] false w args∧laidMetH Tryz.prog qK6 w)∧sizedMet enc Tryz.prog Tryz.f4 (OpenSpec.ofChange Rows.kernelStackSpec) false w args)
      (Rows.kernelStackSpec.post enc Tryz.prog Tryz.f4 false true false false):=by
  refine returnsInHanded_of_change_and (C:=Tryz.checked) (X:=fun w _=>laidMetH Tryz.prog qK6 w) (fun _ _ _ hh h=>h.of_heap hh) own started (by kernel_rfl) Tryz.func4
    (ChangeSpec.witness_shaped (enc:=enc) (C:=Tryz.checked) (os:=os) (X:=fun w _=>laidMetH Tryz.prog qK6 w) false (World.doorLaid Tryz.prog 400 os) #[.agg #[.int .i64 0,.slice none 0 0],.slice none 0 0,.agg #[.string ⟨#[]⟩,.int .i64 0,.int .i64 0,.slice none 0 0,.string ⟨#[]⟩,.int .i64 0,.int .i64 0,.int .i64 0]] 8 rfl (World.shaped_of_RefB (by kernel_rfl) (by kernel_rfl)) (by kernel_rfl) (by kernel_rfl) (by kernel_rfl) (qWn os _)) ?_
  intro W base args ds gs before hval0 hW _ hsz0 hL _
  have hsz:(DataW.weightsEach Tryz.prog (Tryz.f4.params.toList++Rows.kernelStackSpec.plain.varTypes Tryz.prog) (ds++gs)).all (· ≤ reachBytes)=true:=hsz0
  have hval:∀(j:Nat) t v,Tryz.f4.params[j]? = some t→args[j]? = some v→Value.okWide Tryz.prog W .any base t v:=hval0
  have hW':=hW
  obtain ⟨p,q,hA0,hV,rfl,hfz,hnd⟩:=hW
  have hA:DataW.TrodAll enc Tryz.prog W 0 (fun _=>true) true Tryz.f4.params.toList args.toList ds p:=hA0
  have hA1:=hA
  rw [Tryz.params4] at hA hval hsz
  obtain ⟨v0,v1,v2,d0,d1,d2,p0,p1,p2,rfl,rfl,rfl,h0,h1,h2⟩:=trodAll_three hA
  obtain ⟨rfl,rfl⟩:=trodVars_none hV
  obtain ⟨words,u,a,c,rfl,hu⟩:=qXE (hval 0 24 v0 rfl rfl) h0
  obtain ⟨a0,len,cap,rfl⟩:=okWide_slice Tryz.underlying25 (hval 1 25 v1 rfl rfl)
  obtain ⟨ops,hR⟩:=qKT h1 (fun elems spare hd=>by
    have:=sized_slice hsz (j:=1) (t:=25) (e:=69) rfl (by rw [hd];rfl) Tryz.underlying25
    rwa [qWx] at this)
  obtain ⟨⟨⟨nm,lv,fr,nds,cd,p',f',g'⟩,na,nc⟩,rfl,hx⟩:=qVv (hval 2 36 v2 rfl rfl) h2
  unfold qXh.nv at hx ⊢
  dsimp only at hx ⊢
  clear hA0 hval0 hsz0
  simp only [List.append_nil] at hW'
  have:=qYd (qWM hL)
  refine (zJ1 (Hd.start W) words hu hR hx).mono fun e W' ⟨he,hg⟩=>?_
  subst he
  exact ⟨_,rfl,qWl qUl (by rw [Tryz.params4];intro t ht;simp only [List.mem_cons,List.not_mem_nil,or_false] at ht;rcases ht with rfl | rfl | rfl <;> exact ⟨by kernel_rfl,of_decide_eq_true (by kernel_rfl)⟩) hW' hA1 rfl rfl rfl rfl rfl Tryz.underlying4 hg.below⟩
theorem holds:Rows.KernelStackSaid :=
  OpenClaim.holds_of_wide 4 Tryz.f4 rfl rfl rfl rfl rfl rfl rfl ⟨rfl,rfl,rfl,rfl,rfl⟩ rfl rfl rfl rfl rfl (by kernel_rfl) Tryz.func4 (by kernel_rfl)
    (of_decide_eq_true (by kernel_rfl)) (by unfold Func.isWrapper;first | (rw [if_pos (by decide +kernel)];kernel_rfl) | (rw [if_neg (by decide +kernel)];exact ⟨rfl,rfl⟩))
    (fun os started H enc _=>lifted os started H enc)
theorem proved:Rows.KernelStackCardSaid :=
  Claim7.holds_tied_plain_at .later [] [.data,.data,.data,.sentinel,.sentinel] true Rows.kernelStackCard.stood.harness true
    holds (fun _ h=>by cases h) (by kernel_rfl) (fun _ h=>by cases h) kernelStack_row_tie rfl ⟨rfl,rfl⟩ (by kernel_rfl) rfl
    (fun f fn hf hfn=>by
      obtain rfl:f=4:=Option.some.inj ((show Tryz.prog.funcNamed "keel/keellaw13.KernelStack" = some 4 by kernel_rfl).symm.trans hf) |>.symm
      obtain rfl:fn=Tryz.f4:=(Option.some.inj (Tryz.func4.symm.trans hfn)).symm
      exact ⟨by kernel_rfl,fun j t ht=>by
        rw [Tryz.params4] at ht
        have hm:t ∈ [24,25,36]:=by simpa using Array.mem_of_getElem? ht
        have hall:([24,25,36].all fun u=>!Tryz.prog.wantsStandIn u)=true:=by kernel_rfl
        exact (show Tryz.prog.wantsStandIn t=false by simpa using List.all_eq_true.1 hall t hm)⟩)
    (by kernel_rfl)
end Go.Proofs.YtkchopnkdjnocaaGreatDoor.kernelStack
