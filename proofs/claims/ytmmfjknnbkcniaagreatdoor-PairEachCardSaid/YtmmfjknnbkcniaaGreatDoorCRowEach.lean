/- PairEach: the statement, by its walk; what is listed is tied to the text. -/
import Derived.Test.YtmmfjknnbkcniaaGreatDoorCLawEach
import Derived.Test.YtmmfjknnbkcniaaGreatDoorQ19
import Derived.Test.YtmmfjknnbkcniaaGreatDoorRows
import Derived.Test.YtmmfjknnbkcniaaGreatDoorCards
import Derived.Test.YtmmfjknnbkcniaaGreatDoorTie
import Derived.WalkKit
import Derived.ProofKit
import Derived.LaidMore
import Derived.OpenShut
import Derived.ShutString
import Derived.ChangeOld
import Derived.Below
import Derived.Stop.Joined
import Derived.Stop.LaidErr
import Derived.SevenTiedAt
import Derived.Lib.LaidTab
import Derived.Lib.AppendIntMem
import Derived.Deep.DeepWitnessRowRef
namespace Go.Proofs.YtmmfjknnbkcniaaGreatDoor.pairEachDone
open Go Go.ChangeShapes Go.WideShapes Go.ChangeAt Go.WideMaps Go.WideElems Go.RowKit Go.Fl
open Go.ChangeMaps (open_string shut_string)
set_option linter.unusedVariables false

theorem own : ownKnob Tryz.prog.godebug = none := by kernel_rfl
theorem laidOut : laidOutB Tryz.prog = true := by kernel_rfl

def wit : Array Value := #[.agg #[.string ByteArray.empty, .slice none 0 0, .float .f64 0, .bool false, .bool false]]
theorem door_met (os : Os) (args : Array Value) : laidMetH Tryz.prog Rows.pairEachRow.laid ((World.doorLaid Tryz.prog 24 os).forCall (fun _ _ => 0) ⟨#[], args, []⟩).memory :=
  laidMetH_of_parts3 (fuel := 8) (laidMet_of_run' 8 (by kernel_rfl) (by kernel_rfl)) (by kernel_rfl) (by kernel_rfl)

theorem tab_of_laid {W : World} (h : laidMetH Tryz.prog Rows.pairEachRow.laid W) : Tab W.heap.size W := by
  rw [MakeChecks.laidMetH_plain _ _ _ (by kernel_rfl)] at h
  have h2 : laidMet Tryz.prog ((Rows.pairEachRow.laid.drop 2)) W := Go.laidMet.tail (Go.laidMet.tail h)
  have h3 : laidMet Tryz.prog (("internal/strconv.uint64pow10", Lib.tabData .u64 Lib.pow10Tab) :: []) W := h2
  exact Lib.tabBelow_of_tabIs (Lib.tabIs_of_head (g := 1) (t := 141) (e := 82) (n := 20) (by kernel_rfl) (by kernel_rfl) Tryz.underlying141 Tryz.underlying82 (by kernel_rfl) (by kernel_rfl) h3)

theorem reads (os : Os) {H : Type} (enc : TypeId × Value → H) : ∃ x, DataW.whole enc Tryz.prog ((World.doorLaid Tryz.prog 24 os).forCall (fun _ _ => 0) ⟨#[], wit, []⟩).memory Tryz.f4.params.toList (OpenSpec.ofChange Rows.pairEachSpec).vars false wit.toList 8 = some x ∧ (True) := by
  have h : (DataW.whole enc Tryz.prog ((World.doorLaid Tryz.prog 24 os).forCall (fun _ _ => 0) ⟨#[], wit, []⟩).memory Tryz.f4.params.toList (OpenSpec.ofChange Rows.pairEachSpec).vars false wit.toList 8).map (fun x => true) = some true := by kernel_rfl
  cases hw : DataW.whole enc Tryz.prog ((World.doorLaid Tryz.prog 24 os).forCall (fun _ _ => 0) ⟨#[], wit, []⟩).memory Tryz.f4.params.toList (OpenSpec.ofChange Rows.pairEachSpec).vars false wit.toList 8 with
  | none => rw [hw] at h; cases h
  | some x => rw [hw] at h; exact ⟨x, rfl, trivial⟩

set_option maxRecDepth 100000 in
theorem lifted (os : Os) (started : os.Started) (H : Type) (enc : TypeId × Value → H) (F : Stop.Interp) :
    ReturnsInHanded {} Tryz.checked os 4 .any ((OpenSpec.ofChange Rows.pairEachSpec).preRow enc Tryz.prog Tryz.f4 Rows.pairEachRow.domain false Rows.pairEachRow.laid) (((OpenSpec.ofChange Rows.pairEachSpec).at F).post enc Tryz.prog Tryz.f4 false true false false) := by
  obtain ⟨x, hx, hsm⟩ := reads os enc
  refine returnsInHanded_of_row (C := Tryz.checked) (s := OpenSpec.ofChange Rows.pairEachSpec) own started (by kernel_rfl) Tryz.func4
    (witness_row_atRef (enc := enc) (C := Tryz.checked) false (World.doorLaid Tryz.prog 24 os) wit rfl (by kernel_rfl) (by kernel_rfl) (by kernel_rfl)
      (OpenSpec.preRow_of_cond 8 hx (by kernel_rfl) (fun k hk => by cases hk) (by kernel_rfl) (door_met os _))) ?_
  intro W base args ds gs before hval0 hW _ hcond hsz0 hL _ _
  have hval : ∀ (j : Nat) t v, Tryz.f4.params[j]? = some t → args[j]? = some v → Value.okWide Tryz.prog W .any base t v := hval0
  have hW' := hW
  obtain ⟨p, q, hA0, hV, rfl, hfz, hnd⟩ := hW
  have hA : DataW.TrodAll enc Tryz.prog W 0 (fun _ => true) true Tryz.f4.params.toList args.toList ds p := hA0
  rw [Tryz.params4] at hA hval
  obtain ⟨v0, vs0, d0, ds0, p0, q0, hargs0, rfl, rfl, h0, r0⟩ := trodAll_cons hA
  obtain ⟨rfl, rfl, rfl⟩ := trodAll_nil r0
  obtain rfl : args = #[v0] := by cases args; simp_all
  obtain ⟨rfl, rfl⟩ := trodVars_none hV
  have k0 := h0
  have lt0 : ∀ x ∈ p0, x.block < W.heap.size := by obtain ⟨m, hm⟩ := k0; exact DataW.trod_lt m _ _ _ hm
  have hsz1 : (DataW.weightsEach Tryz.prog (Tryz.f4.params.toList ++ Rows.pairEachSpec.plain.varTypes Tryz.prog) ([d0] ++ [])).all (· ≤ reachBytes) = true := hsz0
  rw [Tryz.params4] at hsz1
  obtain ⟨s0, a0, n0, cap0, es0, x0, left0, yes0, rfl, hr0, hk0, hx0, hf0⟩ := open_mix (hval 0 45 v0 rfl rfl) h0 (mix_weights hsz1 (j := 0) (t := 45) rfl rfl)
  have hT := tab_of_laid hL
  clear hA0 hval0
  refine (law_each s0 a0 n0 cap0 x0 es0 left0 yes0 W hr0 hx0 hf0 hT).mono fun e W' ⟨he, bel⟩ => ?_
  subst he
  exact ⟨_, rfl, _, _, _, [], _, [], hW', trodAll_mk1 (shut_bool Tryz.underlying4 _), (trodAll_cons_mk (Below.trod laidOut (by kernel_rfl) (of_decide_eq_true (by kernel_rfl)) k0 bel lt0) trodAll_mk0), rfl, bel.frame _, fun h => by cases h⟩

theorem over : Rows.PairEachSaid :=
  OpenClaim.holds_of_cond 4 Tryz.f4 rfl rfl rfl rfl rfl rfl rfl ⟨rfl, rfl, rfl, rfl, rfl⟩ rfl rfl rfl rfl rfl (by kernel_rfl) Tryz.func4 (by kernel_rfl)
    (of_decide_eq_true (by kernel_rfl)) (by unfold Func.isWrapper; first | (rw [if_pos (by decide +kernel)]; kernel_rfl) | (rw [if_neg (by decide +kernel)]; exact ⟨rfl, rfl⟩))
    (fun os started H enc _ F => by rw [OpenClaim.pre_eq_preRow]; exact lifted os started H enc F)

theorem named : Tryz.prog.funcNamed Rows.pairEachRow.func = some 4 := by kernel_rfl
theorem card : Rows.PairEachCardSaid :=
  Claim7.holds_tied_plain_at .later [] _ _ _ _
    over (fun _ h => by cases h) (by kernel_rfl) (fun _ h => by cases h) pairEach_row_tie rfl ⟨rfl, rfl⟩ (by kernel_rfl) rfl
    (fun f fn hf hfn => by
      obtain rfl : f = 4 := Option.some.inj (named.symm.trans hf) |>.symm
      obtain rfl : fn = Tryz.f4 := (Option.some.inj (Tryz.func4.symm.trans hfn)).symm
      exact ⟨by kernel_rfl, fun j t ht => by
        rw [Tryz.params4] at ht
        have hm : t ∈ [45] := by simpa using Array.mem_of_getElem? ht
        have hall : ([45].all fun u => !Tryz.prog.wantsStandIn u) = true := by kernel_rfl
        exact (show Tryz.prog.wantsStandIn t = false by simpa using List.all_eq_true.1 hall t hm)⟩)
    (by kernel_rfl)

end Go.Proofs.YtmmfjknnbkcniaaGreatDoor.pairEachDone
namespace Go.Proofs.YtmmfjknnbkcniaaGreatDoor
theorem pairEach_holds : Rows.PairEachCardSaid := pairEachDone.card
#print axioms pairEach_holds
end Go.Proofs.YtmmfjknnbkcniaaGreatDoor
