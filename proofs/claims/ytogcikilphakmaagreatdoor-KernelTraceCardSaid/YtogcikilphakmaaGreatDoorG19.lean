/-
  Merged texts of one proof: Code5, Shelf, Code6.
-/
import Derived.Ground.Names2Prog
import Derived.Lib.AtoiErrMem
import Derived.Lib.AtoiOr
import Derived.Shelf.LaysC
import Derived.Shelf.LaysM
import Derived.Shelf.Strconv.ErrVarAll
import Derived.Shelf.Strconv.Itoa3
import Derived.Test.YtogcikilphakmaaGreatDoorG17
import Derived.Test.YtogcikilphakmaaGreatDoorG18
import Derived.Test.YtogcikilphakmaaGreatDoorProg

/-
  Package code: Check. Every program that lies in a slice.
-/
namespace Go.Proofs.YtogcikilphakmaaGreatDoor
open Go.RowKit Spl

/-- What is wrong first of the operations from the i-th on, so many repeats being open. -/
def checkGo : List OpM → Nat → Nat → Int × Int
  | [], i, n => if 0 < n then (i, 31) else (0, 0)
  | o :: l, i, n => if fieldsM o = false then (i, 30) else if o.kind = 10 then (if n = 4 then (i, 32) else checkGo l (i + 1) (n + 1))
    else if o.kind = 11 then (if n = 0 then (i, 31) else checkGo l (i + 1) (n - 1)) else checkGo l (i + 1) n
def checkM (p : List OpM) : Int × Int := if 256 < p.length then (256, 4) else checkGo p 0 0
theorem drop_at {α : Type} {l : List α} {k : Nat} {x : α} (h : l[k]? = some x) : l.drop k = x :: l.drop (k + 1) := by
  obtain ⟨h1, rfl⟩ := List.getElem?_eq_some_iff.1 h
  exact List.drop_eq_getElem_cons h1
section
variable {w0 w : World} {R : List Pr}

set_option maxRecDepth 20000 in
set_option maxHeartbeats 1600000 in
theorem cdCheck {v : Value} {p : List OpM} (H : Hd w0 R w) (hs : Srd w0 R v p) : Calls Tryz.prog 147 #[v] w fun e w' => e = .returned (.tuple #[.int .i64 (checkM p).1, .int .i64 (checkM p).2]) ∧ Hd w0 R w' := by
  obtain ⟨a, c, hv⟩ := hs.form
  subst hv
  by_cases hl : 256 < p.length
  · have e1 : checkM p = (256, 4) := by unfold checkM; rw [if_pos hl]
    rw [e1]
    clear hs
    have n1 : (256 : Int) < p.length := by omega
    go_enter Tryz.func147, Tryz.ntmps147
    go_wp2_with fail
    go_ret2
    exact ⟨rfl, H⟩
  have e1 : checkM p = checkGo p 0 0 := by unfold checkM; rw [if_neg hl]
  rw [e1]
  clear e1
  have n0 : ¬ (256 : Int) < p.length := by omega
  go_enter Tryz.func147, Tryz.ntmps147
  go_wp2_with fail
  go_loopw [4, 12] (fun o i wr => ∃ k n : Nat, k ≤ p.length ∧ n ≤ 4 ∧ o = .int .i64 n ∧ i = .int .i64 k ∧ checkGo p 0 0 = checkGo (p.drop k) k n ∧ Hd w0 R wr) (fun _ i _ => p.length - (intOf i).toNat)
  case atStart => exact ⟨0, 0, by omega, by omega, rfl, rfl, by simp, H⟩
  case round =>
    obtain ⟨k, n, hk, hn, rfl, rfl, hC, H1⟩ := hrel
    by_cases hlt : k < p.length
    · obtain ⟨o, ho⟩ : ∃ o, p[k]? = some o := ⟨p[k], List.getElem?_eq_getElem hlt⟩
      rw [drop_at ho] at hC
      obtain ⟨g, c2, hv, -, hcell⟩ := hs.at ho
      injection hv with hv1 hv2 hv3
      subst hv1; subst hv3
      have f0 := hcell H1 0 _ rfl
      have f1 := hcell H1 1 _ rfl
      have f2 := hcell H1 2 _ rfl
      have f3 := hcell H1 3 _ rfl
      simp only [Enc.size, Nat.add_zero] at f0 f1 f2 f3
      obtain ⟨ok, ores, on, ov⟩ := o
      have HA : Hd w0 _ (wr.alloc (.cells #[.int .i64 ok, .int .i64 ores, .int .i64 on, .int .i64 ov] 39)) := H1.fol
      have hcall := cdFields HA ⟨ok, ores, on, ov⟩
      replace hC := Lib.hid hC
      have g5 : IntKind.i64.wrap ((k : Int) + 1) = (k : Int) + 1 := IntWalk.i64_in _ (by omega)
      have g6 : IntKind.i64.wrap ((n : Int) + 1) = (n : Int) + 1 := IntWalk.i64_in _ (by omega)
      have n1 : ¬ (k : Int) < 0 := by omega
      have n2 : (k : Int) < p.length := by omega
      have n3 : ¬ p.length ≤ k := by omega
      clear hcell hs H H1 HA ho
      cases hF : fieldsM ⟨ok, ores, on, ov⟩ with
      | false =>
        have hK := Lib.hid (hC.out.trans (show _ = ((k : Int), (30 : Int)) by rw [checkGo, if_pos hF]))
        rw [hF] at hcall
        clear hC hF
        go_wp2_with fail
        refine hcall.mono ?_
        rintro e w1 ⟨rfl, H2⟩
        clear hcall
        have hf := H2.facts
        simp only [Nat.reduceAdd] at hf
        go_split_ands
        go_wp2_with fail
        go_ret2
        exact ⟨ret_ii (congrArg Prod.fst hK.out) (congrArg Prod.snd hK.out), H2.re⟩
      | true =>
        rw [hF] at hcall
        have hC2 := hC.out
        rw [checkGo, if_neg (by rw [hF]; simp)] at hC2
        simp only [] at hC2
        clear hC hF
        by_cases h10 : ok = 10
        · subst h10
          rw [if_pos rfl] at hC2
          by_cases hn4 : n = 4
          · subst hn4
            rw [if_pos rfl] at hC2
            have hK := Lib.hid hC2
            clear hC2
            go_wp2_with fail
            refine hcall.mono ?_
            rintro e w1 ⟨rfl, H2⟩
            clear hcall
            have hf := H2.facts
            simp only [Nat.reduceAdd] at hf
            go_split_ands
            go_wp2_with fail
            go_ret2
            exact ⟨ret_ii (congrArg Prod.fst hK.out) (congrArg Prod.snd hK.out), H2.re⟩
          · have m4 : ¬ (n : Int) = 4 := by omega
            rw [if_neg hn4] at hC2
            have hK := Lib.hid hC2
            clear hC2
            go_wp2_with fail
            refine hcall.mono ?_
            rintro e w1 ⟨rfl, H2⟩
            clear hcall
            have hf := H2.facts
            simp only [Nat.reduceAdd] at hf
            go_split_ands
            go_wp2_with fail
            go_roundw
            case rel => exact ⟨k + 1, n + 1, by omega, by omega, by simp, by simp, hK.out, H2.re⟩
            case measure => simp [intOf]; omega
        · rw [if_neg h10] at hC2
          by_cases h11 : ok = 11
          · subst h11
            rw [if_pos rfl] at hC2
            rcases Nat.eq_zero_or_pos n with rfl | hpos
            · rw [if_pos rfl] at hC2
              have hK := Lib.hid hC2
              clear hC2
              go_wp2_with fail
              refine hcall.mono ?_
              rintro e w1 ⟨rfl, H2⟩
              clear hcall
              have hf := H2.facts
              simp only [Nat.reduceAdd] at hf
              go_split_ands
              go_wp2_with fail
              go_ret2
              exact ⟨ret_ii (congrArg Prod.fst hK.out) (congrArg Prod.snd hK.out), H2.re⟩
            · obtain ⟨m, rfl⟩ : ∃ m, n = m + 1 := ⟨n - 1, by omega⟩
              have m4 : ¬ ((m + 1 : Nat) : Int) = 0 := by omega
              have g7 : IntKind.i64.wrap (((m + 1 : Nat) : Int) - 1) = (m : Int) := by rw [IntWalk.i64_in _ (by omega)]; omega
              have g8 : IntKind.i64.wrap ((m : Int) + 1 - 1) = (m : Int) := by rw [IntWalk.i64_in _ (by omega)]; omega
              rw [if_neg (by omega), Nat.add_sub_cancel] at hC2
              have hK := Lib.hid hC2
              clear hC2
              go_wp2_with fail
              refine hcall.mono ?_
              rintro e w1 ⟨rfl, H2⟩
              clear hcall
              have hf := H2.facts
              simp only [Nat.reduceAdd] at hf
              go_split_ands
              go_wp2_with fail
              go_roundw
              case rel => exact ⟨k + 1, m, by omega, by omega, by simp, by simp, hK.out, H2.re⟩
              case measure => simp [intOf]; omega
          · rw [if_neg h11] at hC2
            have hK := Lib.hid hC2
            clear hC2
            go_wp2_with fail
            refine hcall.mono ?_
            rintro e w1 ⟨rfl, H2⟩
            clear hcall
            have hf := H2.facts
            simp only [Nat.reduceAdd] at hf
            go_split_ands
            go_wp2_with fail
            go_roundw
            case rel => exact ⟨k + 1, n, by omega, by omega, by simp, by simp, hK.out, H2.re⟩
            case measure => simp [intOf]; omega
    · obtain rfl : k = p.length := by omega
      rw [List.drop_length, checkGo] at hC
      clear hs H
      rcases Nat.eq_zero_or_pos n with rfl | hpos
      · rw [if_neg (by omega)] at hC
        have hK := Lib.hid hC
        clear hC
        go_wp2_with fail
        go_ret2
        exact ⟨ret_ii (congrArg Prod.fst hK.out) (congrArg Prod.snd hK.out), H1⟩
      · rw [if_pos hpos] at hC
        have m4 : 0 < (n : Int) := by omega
        have hK := Lib.hid hC
        clear hC
        go_wp2_with fail
        go_ret2
        exact ⟨ret_ii (congrArg Prod.fst hK.out) (congrArg Prod.snd hK.out), H1⟩
end
end Go.Proofs.YtogcikilphakmaaGreatDoor

/-
  The library's contracts on strconv.Atoi and strconv.Itoa, laid at this program's dump (lay-plain.mjs). No condition.
-/
namespace Go.Proofs
open Go.Shelf
def Tryz.laysM171_ren : Go.Shelf.Ren := ⟨fun | 171 => 187 | 243 => 196 | 246 => 207 | 283 => 212 | 284 => 213 | 285 => 214 | 286 => 215 | 129 => 220 | 317 => 219 | 318 => 221 | 319 => 222 | 320 => 223 | 337 => 224 | 338 => 225 | n => n, fun | 3 => 3 | 9 => 9 | 2 => 2 | 4 => 4 | 171 => 336 | 0 => 0 | 53 => 329 | 37 => 322 | 5 => 5 | 173 => 339 | 212 => 348 | 51 => 349 | 20 => 20 | 213 => 350 | 46 => 282 | 232 => 353 | 233 => 354 | n => n, fun | 17 => 2 | 18 => 3 | 19 => 4 | n => n⟩
theorem Tryz.laysM171 : Go.Proofs.LaysM.n171 Tryz.prog Tryz.laysM171_ren := {
  mixed := by kernel_rfl
  f129 := Tryz.func220.trans (congrArg some (by kernel_rfl))
  f171 := Tryz.func187.trans (congrArg some (by kernel_rfl))
  f243 := Tryz.func196.trans (congrArg some (by kernel_rfl))
  f246 := Tryz.func207.trans (congrArg some (by kernel_rfl))
  f283 := Tryz.func212.trans (congrArg some (by kernel_rfl))
  f284 := Tryz.func213.trans (congrArg some (by kernel_rfl))
  f285 := Tryz.func214.trans (congrArg some (by kernel_rfl))
  f286 := Tryz.func215.trans (congrArg some (by kernel_rfl))
  f317 := Tryz.func219.trans (congrArg some (by kernel_rfl))
  f318 := Tryz.func221.trans (congrArg some (by kernel_rfl))
  f319 := Tryz.func222.trans (congrArg some (by kernel_rfl))
  f320 := Tryz.func223.trans (congrArg some (by kernel_rfl))
  f337 := Tryz.func224.trans (congrArg some (by kernel_rfl))
  f338 := Tryz.func225.trans (congrArg some (by kernel_rfl))
  t0 := Tryz.underlying0
  a0 := Tryz.isAgg0
  z0 := Tryz.sizeOf0
  v0 := Tryz.zeroValue0
  t2 := Tryz.underlying2
  a2 := Tryz.isAgg2
  z2 := Tryz.sizeOf2
  v2 := Tryz.zeroValue2
  t3 := Tryz.underlying3
  a3 := Tryz.isAgg3
  z3 := Tryz.sizeOf3
  v3 := Tryz.zeroValue3
  t4 := Tryz.underlying4
  a4 := Tryz.isAgg4
  z4 := Tryz.sizeOf4
  v4 := Tryz.zeroValue4
  t5 := Tryz.underlying5
  a5 := Tryz.isAgg5
  z5 := Tryz.sizeOf5
  v5 := Tryz.zeroValue5
  t9 := Tryz.underlying9
  a9 := Tryz.isAgg9
  z9 := Tryz.sizeOf9
  v9 := Tryz.zeroValue9
  t20 := Tryz.underlying20
  a20 := Tryz.isAgg20
  z20 := Tryz.sizeOf20
  v20 := Tryz.zeroValue20
  t37 := Tryz.underlying322
  a37 := Tryz.isAgg322
  z37 := Tryz.sizeOf322
  v37 := Tryz.zeroValue322
  t46 := Tryz.underlying282
  a46 := Tryz.isAgg282
  z46 := Tryz.sizeOf282
  v46 := Tryz.zeroValue282
  t51 := Tryz.underlying349
  a51 := Tryz.isAgg349
  z51 := Tryz.sizeOf349
  v51 := Tryz.zeroValue349
  t53 := Tryz.underlying329
  a53 := Tryz.isAgg329
  z53 := Tryz.sizeOf329
  v53 := Tryz.zeroValue329
  t171 := Tryz.underlying336
  a171 := Tryz.isAgg336
  z171 := Tryz.sizeOf336
  v171 := Tryz.zeroValue336
  t173 := Tryz.underlying339
  a173 := Tryz.isAgg339
  z173 := Tryz.sizeOf339
  v173 := Tryz.zeroValue339
  t212 := Tryz.underlying348
  a212 := Tryz.isAgg348
  z212 := Tryz.sizeOf348
  v212 := Tryz.zeroValue348
  t213 := Tryz.underlying350
  a213 := Tryz.isAgg350
  z213 := Tryz.sizeOf350
  t232 := Tryz.underlying353
  a232 := Tryz.isAgg353
  z232 := Tryz.sizeOf353
  v232 := Tryz.zeroValue353
  t233 := Tryz.underlying354
  a233 := Tryz.isAgg354
  z233 := Tryz.sizeOf354
  v233 := Tryz.zeroValue354
  g17 := by kernel_rfl
  g18 := by kernel_rfl
  g19 := by kernel_rfl
  i0 := by kernel_rfl
  i2 := by kernel_rfl
  i3 := by kernel_rfl
  i4 := by kernel_rfl
  i5 := by kernel_rfl
  i9 := by kernel_rfl
  i20 := by kernel_rfl
  i37 := by kernel_rfl
  i46 := by kernel_rfl
  i51 := by kernel_rfl
  i53 := by kernel_rfl
  i171 := by kernel_rfl
  i173 := by kernel_rfl
  i212 := by kernel_rfl
  i232 := by kernel_rfl
  i233 := by kernel_rfl
  m17 := by kernel_rfl
  m18 := by kernel_rfl
  m19 := by kernel_rfl }
def Tryz.laysC172_ren : Go.Shelf.Ren := ⟨fun | 172 => 186 | 244 => 194 | 245 => 195 | 247 => 202 | 279 => 203 | 280 => 204 | 281 => 205 | 282 => 206 | 287 => 209 | 316 => 210 | 171 => 187 | 205 => 211 | 321 => 217 | 322 => 218 | 243 => 196 | 246 => 207 | 283 => 212 | 284 => 213 | 285 => 214 | 286 => 215 | 129 => 220 | 317 => 219 | 318 => 221 | 319 => 222 | 320 => 223 | 337 => 224 | 338 => 225 | n => n, fun | 9 => 9 | 3 => 3 | 75 => 308 | 76 => 309 | 4 => 4 | 5 => 5 | 167 => 321 | 37 => 322 | 0 => 0 | 85 => 323 | 2 => 2 | 168 => 325 | 53 => 329 | 175 => 330 | 46 => 282 | 210 => 334 | 127 => 343 | 145 => 346 | 143 => 344 | 21 => 21 | 171 => 336 | 173 => 339 | 212 => 348 | 51 => 349 | 20 => 20 | 213 => 350 | 232 => 353 | 233 => 354 | 80 => 355 | n => n, fun | 15 => 0 | 16 => 1 | 17 => 2 | 18 => 3 | 19 => 4 | n => n⟩
theorem Tryz.laysC172 : Go.Proofs.LaysC.n172 Tryz.prog Tryz.laysC172_ren := {
  mixed := by kernel_rfl
  f129 := Tryz.func220.trans (congrArg some (by kernel_rfl))
  f171 := Tryz.func187.trans (congrArg some (by kernel_rfl))
  f172 := Tryz.func186.trans (congrArg some (by kernel_rfl))
  f205 := Tryz.func211.trans (congrArg some (by kernel_rfl))
  f243 := Tryz.func196.trans (congrArg some (by kernel_rfl))
  f244 := Tryz.func194.trans (congrArg some (by kernel_rfl))
  f245 := Tryz.func195.trans (congrArg some (by kernel_rfl))
  f246 := Tryz.func207.trans (congrArg some (by kernel_rfl))
  f247 := Tryz.func202.trans (congrArg some (by kernel_rfl))
  f279 := Tryz.func203.trans (congrArg some (by kernel_rfl))
  f280 := Tryz.func204.trans (congrArg some (by kernel_rfl))
  f281 := Tryz.func205.trans (congrArg some (by kernel_rfl))
  f282 := Tryz.func206.trans (congrArg some (by kernel_rfl))
  f283 := Tryz.func212.trans (congrArg some (by kernel_rfl))
  f284 := Tryz.func213.trans (congrArg some (by kernel_rfl))
  f285 := Tryz.func214.trans (congrArg some (by kernel_rfl))
  f286 := Tryz.func215.trans (congrArg some (by kernel_rfl))
  f287 := Tryz.func209.trans (congrArg some (by kernel_rfl))
  f316 := Tryz.func210.trans (congrArg some (by kernel_rfl))
  f317 := Tryz.func219.trans (congrArg some (by kernel_rfl))
  f318 := Tryz.func221.trans (congrArg some (by kernel_rfl))
  f319 := Tryz.func222.trans (congrArg some (by kernel_rfl))
  f320 := Tryz.func223.trans (congrArg some (by kernel_rfl))
  f321 := Tryz.func217.trans (congrArg some (by kernel_rfl))
  f322 := Tryz.func218.trans (congrArg some (by kernel_rfl))
  f337 := Tryz.func224.trans (congrArg some (by kernel_rfl))
  f338 := Tryz.func225.trans (congrArg some (by kernel_rfl))
  t0 := Tryz.underlying0
  a0 := Tryz.isAgg0
  z0 := Tryz.sizeOf0
  v0 := Tryz.zeroValue0
  t2 := Tryz.underlying2
  a2 := Tryz.isAgg2
  z2 := Tryz.sizeOf2
  v2 := Tryz.zeroValue2
  t3 := Tryz.underlying3
  a3 := Tryz.isAgg3
  z3 := Tryz.sizeOf3
  v3 := Tryz.zeroValue3
  t4 := Tryz.underlying4
  a4 := Tryz.isAgg4
  z4 := Tryz.sizeOf4
  v4 := Tryz.zeroValue4
  t5 := Tryz.underlying5
  a5 := Tryz.isAgg5
  z5 := Tryz.sizeOf5
  v5 := Tryz.zeroValue5
  t9 := Tryz.underlying9
  a9 := Tryz.isAgg9
  z9 := Tryz.sizeOf9
  v9 := Tryz.zeroValue9
  t20 := Tryz.underlying20
  a20 := Tryz.isAgg20
  z20 := Tryz.sizeOf20
  v20 := Tryz.zeroValue20
  t21 := Tryz.underlying21
  a21 := Tryz.isAgg21
  z21 := Tryz.sizeOf21
  v21 := Tryz.zeroValue21
  t37 := Tryz.underlying322
  a37 := Tryz.isAgg322
  z37 := Tryz.sizeOf322
  v37 := Tryz.zeroValue322
  t46 := Tryz.underlying282
  a46 := Tryz.isAgg282
  z46 := Tryz.sizeOf282
  v46 := Tryz.zeroValue282
  t51 := Tryz.underlying349
  a51 := Tryz.isAgg349
  z51 := Tryz.sizeOf349
  v51 := Tryz.zeroValue349
  t53 := Tryz.underlying329
  a53 := Tryz.isAgg329
  z53 := Tryz.sizeOf329
  v53 := Tryz.zeroValue329
  t75 := Tryz.underlying308
  a75 := Tryz.isAgg308
  z75 := Tryz.sizeOf308
  v75 := Tryz.zeroValue308
  t76 := Tryz.underlying309
  a76 := Tryz.isAgg309
  z76 := Tryz.sizeOf309
  v76 := Tryz.zeroValue309
  t85 := Tryz.underlying323
  a85 := Tryz.isAgg323
  z85 := Tryz.sizeOf323
  v85 := Tryz.zeroValue323
  t127 := Tryz.underlying343
  a127 := Tryz.isAgg343
  z127 := Tryz.sizeOf343
  v127 := Tryz.zeroValue343
  t143 := Tryz.underlying344
  a143 := Tryz.isAgg344
  z143 := Tryz.sizeOf344
  v143 := Tryz.zeroValue344
  t145 := Tryz.underlying346
  a145 := Tryz.isAgg346
  z145 := Tryz.sizeOf346
  v145 := Tryz.zeroValue346
  t167 := Tryz.underlying321
  a167 := Tryz.isAgg321
  z167 := Tryz.sizeOf321
  v167 := Tryz.zeroValue321
  t168 := Tryz.underlying325
  a168 := Tryz.isAgg325
  z168 := Tryz.sizeOf325
  v168 := Tryz.zeroValue325
  t171 := Tryz.underlying336
  a171 := Tryz.isAgg336
  z171 := Tryz.sizeOf336
  v171 := Tryz.zeroValue336
  t173 := Tryz.underlying339
  a173 := Tryz.isAgg339
  z173 := Tryz.sizeOf339
  v173 := Tryz.zeroValue339
  t175 := Tryz.underlying330
  a175 := Tryz.isAgg330
  z175 := Tryz.sizeOf330
  v175 := Tryz.zeroValue330
  t210 := Tryz.underlying334
  a210 := Tryz.isAgg334
  z210 := Tryz.sizeOf334
  v210 := Tryz.zeroValue334
  t212 := Tryz.underlying348
  a212 := Tryz.isAgg348
  z212 := Tryz.sizeOf348
  v212 := Tryz.zeroValue348
  t213 := Tryz.underlying350
  a213 := Tryz.isAgg350
  z213 := Tryz.sizeOf350
  t232 := Tryz.underlying353
  a232 := Tryz.isAgg353
  z232 := Tryz.sizeOf353
  v232 := Tryz.zeroValue353
  t233 := Tryz.underlying354
  a233 := Tryz.isAgg354
  z233 := Tryz.sizeOf354
  v233 := Tryz.zeroValue354
  g15 := by kernel_rfl
  g16 := by kernel_rfl
  g17 := by kernel_rfl
  g18 := by kernel_rfl
  g19 := by kernel_rfl
  t80 := Tryz.underlying355
  a80 := Tryz.isAgg355
  z80 := Tryz.sizeOf355
  v80 := Tryz.zeroValue355
  i0 := by kernel_rfl
  i2 := by kernel_rfl
  i3 := by kernel_rfl
  i4 := by kernel_rfl
  i5 := by kernel_rfl
  i9 := by kernel_rfl
  i20 := by kernel_rfl
  i21 := by kernel_rfl
  i37 := by kernel_rfl
  i46 := by kernel_rfl
  i51 := by kernel_rfl
  i53 := by kernel_rfl
  i75 := by kernel_rfl
  i76 := by kernel_rfl
  i80 := by kernel_rfl
  i85 := by kernel_rfl
  i127 := by kernel_rfl
  i143 := by kernel_rfl
  i145 := by kernel_rfl
  i167 := by kernel_rfl
  i168 := by kernel_rfl
  i171 := by kernel_rfl
  i173 := by kernel_rfl
  i175 := by kernel_rfl
  i210 := by kernel_rfl
  i212 := by kernel_rfl
  i232 := by kernel_rfl
  i233 := by kernel_rfl
  m15 := by kernel_rfl
  m16 := by kernel_rfl
  m17 := by kernel_rfl
  m18 := by kernel_rfl
  m19 := by kernel_rfl
  c0 := by kernel_rfl
  c2 := by kernel_rfl
  c3 := by kernel_rfl
  c4 := by kernel_rfl
  c5 := by kernel_rfl
  c9 := by kernel_rfl
  c20 := by kernel_rfl
  c21 := by kernel_rfl
  c37 := by kernel_rfl
  c46 := by kernel_rfl
  c51 := by kernel_rfl
  c53 := by kernel_rfl
  c75 := by kernel_rfl
  c76 := by kernel_rfl
  c80 := by kernel_rfl
  c85 := by kernel_rfl
  c127 := by kernel_rfl
  c143 := by kernel_rfl
  c145 := by kernel_rfl
  c167 := by kernel_rfl
  c168 := by kernel_rfl
  c171 := by kernel_rfl
  c173 := by kernel_rfl
  c175 := by kernel_rfl
  c210 := by kernel_rfl
  c212 := by kernel_rfl
  c213 := by kernel_rfl
  c232 := by kernel_rfl
  c233 := by kernel_rfl }
end Go.Proofs

/-
  Package code: number. Every string of at most 2^48 bytes, over the library's contracts.
-/
namespace Go.Proofs.YtogcikilphakmaaGreatDoor
open Go.RowKit Spl Go.Sort

/-- What the library's variables read as. -/
structure LaidW (w : World) : Prop where
  syn : ∃ tp p, w.var? Tryz.prog "strconv.ErrSyntax" = some #[.iface tp p]
  rng : ∃ tp p, w.var? Tryz.prog "strconv.ErrRange" = some #[.iface tp p]
  tab : Lib.TabIs Tryz.prog w "internal/strconv.uint64pow10" .u64 Lib.pow10Tab
class Lay (w0 : World) (R : List Pr) : Prop where
  var : ∀ {w : World}, Hd w0 R w → LaidW w
instance {w0 : World} {P : Pr} {R : List Pr} [h : Lay w0 R] : Lay w0 (P :: R) := ⟨fun H => h.var H.tail⟩

theorem Hd.grow {w0 w w' : World} {L : List Pr} (H : Hd w0 L w) (hb : Below w.heap.size w w') : Hd w0 L w' := by
  refine ⟨H.1.trans ⟨hb.os, hb.tape, hb.output, hb.size⟩, sat_mono ⟨fun i => if i < w.heap.size then none else w'.heap[i]?, fun i => ?_, ?_⟩ H.2⟩
  · by_cases hi : i < w.heap.size
    · exact .inr (by simp [hi])
    · exact .inl (Array.getElem?_eq_none (by omega))
  · funext i
    unfold join
    dsimp only
    by_cases hi : i < w.heap.size
    · rw [hb.block i hi, Array.getElem?_eq_getElem hi]
    · rw [Array.getElem?_eq_none (by omega : w.heap.size ≤ i), if_neg hi]
theorem below_draws (w : World) (q : Nat) (os : Array Obj) : Below w.heap.size w (Go.Sort.grow (w.drewN q) os) := by
  refine ⟨rfl, rfl, rfl, ?_, fun k hk => ?_⟩
  · show w.heap.size ≤ (w.heap ++ os).size
    simp
  · show (w.heap ++ os)[k]? = _
    rw [Array.getElem?_append_left hk]

def numberM (s : ByteArray) : Int × Bool := match Lib.atoiAll s.data.toList with
  | .ok v => (v, (⟨(Lib.itoa v).toArray⟩ : ByteArray).toList == s.toList)
  | .syntax => (0, false)
  | .range => (Lib.atoiSat s.data.toList, false)
section
variable {w0 w : World} {R : List Pr}

set_option maxRecDepth 20000 in
set_option maxHeartbeats 1600000 in
theorem cdNumber [Lay w0 R] (H : Hd w0 R w) (s : ByteArray) (hs : s.size ≤ 100000) : Calls Tryz.prog 171 #[.string s] w fun e w' => e = .returned (.tuple #[.int .i64 (numberM s).1, .bool (numberM s).2]) ∧ Hd w0 R w' := by
  have hL := Lay.var H
  cases hr : Lib.atoiAll s.data.toList with
  | ok v =>
    have hb := Lib.atoiAll_bounds hr
    have e1 : numberM s = (v, (⟨(Lib.itoa v).toArray⟩ : ByteArray).toList == s.toList) := by unfold numberM; rw [hr]
    have hcall := Any.strconv_Atoi_ok Tryz.laysC172 s (by omega) v hr w
    rw [e1]
    obtain ⟨V, hV⟩ : ∃ V, (⟨(Lib.itoa v).toArray⟩ : ByteArray) = V := ⟨_, rfl⟩
    have hc2 : ∀ w1, Hd w0 R w1 → Calls Tryz.prog 187 #[.int .i64 v] w1 fun e w' => e = .returned (.string V) ∧ Hd w0 R w' := fun w1 h1 => by
      refine (Any.strconv_Itoa Tryz.laysM171 v hb.1 hb.2 w1 (Lay.var h1).tab).mono ?_
      rintro e w' ⟨rfl, q, os, rfl⟩
      exact ⟨by rw [hV], h1.grow (below_draws w1 q os)⟩
    rw [hV]
    replace hc2 := Lib.hid hc2
    clear e1 hr hb hL hV hs
    go_enter Tryz.func171, Tryz.ntmps171
    go_wp2_with fail
    refine hcall.mono ?_
    rintro e w1 ⟨rfl, hw⟩
    have H1 : Hd w0 R w1 := by
      rcases hw with rfl | ⟨t, rfl⟩
      · exact H
      · exact H.grow (Lib.bytesWorld_below _ _ _)
    clear hcall hw
    have hc3 := hc2.out w1 H1
    go_wp2_with fail
    refine hc3.mono ?_
    rintro e w2 ⟨rfl, H2⟩
    go_wp2_with fail
    go_ret2
    exact ⟨rfl, H2⟩
  | «syntax» =>
    have e1 : numberM s = (0, false) := by unfold numberM; rw [hr]
    obtain ⟨tp, p, hp⟩ := hL.syn
    have hcall := Any.strconv_Atoi_syntax_var Tryz.laysC172 s (by omega) hr tp p w hp
    rw [e1]
    clear e1 hr hL hs
    go_enter Tryz.func171, Tryz.ntmps171
    go_wp2_with fail
    refine hcall.mono ?_
    rintro e w1 ⟨N, rfl, -, -, hb⟩
    have H1 := H.grow hb
    clear hcall hb
    go_wp2_with fail
    go_ret2
    exact ⟨rfl, H1⟩
  | range =>
    have e1 : numberM s = (Lib.atoiSat s.data.toList, false) := by unfold numberM; rw [hr]
    obtain ⟨tp, p, hp⟩ := hL.rng
    have hcall := Any.strconv_Atoi_range_var Tryz.laysC172 s (by omega) hr tp p w hp
    rw [e1]
    clear e1 hr hL hs
    go_enter Tryz.func171, Tryz.ntmps171
    go_wp2_with fail
    refine hcall.mono ?_
    rintro e w1 ⟨N, rfl, -, -, hb⟩
    have H1 := H.grow hb
    clear hcall hb
    go_wp2_with fail
    go_ret2
    exact ⟨rfl, H1⟩
end
end Go.Proofs.YtogcikilphakmaaGreatDoor
