/- PairVectors: the statement, by its walk; what is listed is tied to the text. -/
import Derived.Test.YtmmfjknnbkcniaaGreatDoorV47
import Derived.Test.YtmmfjknnbkcniaaGreatDoorRows
import Derived.Test.YtmmfjknnbkcniaaGreatDoorCards
import Derived.Test.YtmmfjknnbkcniaaGreatDoorTie
import Derived.WalkKit
import Derived.ProofKit
import Derived.LaidMore
import Derived.OpenShut
import Derived.ShutString
import Derived.ChangeOld
import Derived.Below
import Derived.Stop.Joined
import Derived.Stop.LaidErr
import Derived.SevenTiedAt
import Derived.Lib.LaidTab
import Derived.Lib.AppendIntMem
import Derived.Deep.DeepWitnessRowRef
set_option maxHeartbeats 64000000
set_option maxRecDepth 100000
namespace Go.Proofs.YtmmfjknnbkcniaaGreatDoor.pairVectorsDone
open Go Go.ChangeShapes Go.WideShapes Go.ChangeAt Go.WideMaps Go.WideElems Go.RowKit Go.Fl
open Go.ChangeMaps (open_string shut_string)
set_option linter.unusedVariables false
theorem own : ownKnob Tryz.prog.godebug = none := by kernel_rfl
theorem laidOut : laidOutB Tryz.prog = true := by kernel_rfl
def wit : Array Value := #[.agg #[.string ByteArray.empty, .slice none 0 0, .slice none 0 0, .bool false, .bool false, .slice none 0 0, .int .i64 0, .slice none 0 0, .bool false]]
theorem door_met (os : Os) (args : Array Value) : laidMetH Tryz.prog Rows.pairVectorsUptoRow.laid ((World.doorLaid Tryz.prog 24 os).forCall (fun _ _ => 0) ⟨#[], args, []⟩).memory :=
 laidMetH_of_parts3 (fuel := 8) (laidMet_of_run' 8 (by kernel_rfl) (by kernel_rfl)) (by kernel_rfl) (by kernel_rfl)
theorem tab_of_laid {W : World} (h : laidMetH Tryz.prog Rows.pairVectorsUptoRow.laid W) : Tab W.heap.size W := by
 rw [MakeChecks.laidMetH_plain _ _ _ (by kernel_rfl)] at h
 have h2 : laidMet Tryz.prog ((Rows.pairVectorsUptoRow.laid.drop 2)) W := Go.laidMet.tail (Go.laidMet.tail h)
 have h3 : laidMet Tryz.prog (("internal/strconv.uint64pow10", Lib.tabData .u64 Lib.pow10Tab) :: []) W := h2
 exact Lib.tabBelow_of_tabIs (Lib.tabIs_of_head (g := 1) (t := 141) (e := 82) (n := 20) (by kernel_rfl) (by kernel_rfl) Tryz.underlying141 Tryz.underlying82 (by kernel_rfl) (by kernel_rfl) h3)
theorem reads (os : Os) {H : Type} (enc : TypeId × Value → H) : ∃ x, DataW.whole enc Tryz.prog ((World.doorLaid Tryz.prog 24 os).forCall (fun _ _ => 0) ⟨#[], wit, []⟩).memory Tryz.f5.params.toList (Rows.OpenSpec.upto Rows.pairVectorsSpec).vars false wit.toList 8 = some x ∧ (Rows.uptoSmall H (x.1 ++ x.2.1) = true) := by
 have h : (DataW.whole enc Tryz.prog ((World.doorLaid Tryz.prog 24 os).forCall (fun _ _ => 0) ⟨#[], wit, []⟩).memory Tryz.f5.params.toList (Rows.OpenSpec.upto Rows.pairVectorsSpec).vars false wit.toList 8).map (fun x => Rows.uptoSmall H (x.1 ++ x.2.1)) = some true := by kernel_rfl
 cases hw : DataW.whole enc Tryz.prog ((World.doorLaid Tryz.prog 24 os).forCall (fun _ _ => 0) ⟨#[], wit, []⟩).memory Tryz.f5.params.toList (Rows.OpenSpec.upto Rows.pairVectorsSpec).vars false wit.toList 8 with
 | none => rw [hw] at h; cases h
 | some x => rw [hw] at h; exact ⟨x, rfl, Option.some.inj h⟩
theorem lifted (os : Os) (started : os.Started) (H : Type) (enc : TypeId × Value → H) (F : Stop.Interp) :
  ReturnsInHanded {} Tryz.checked os 5 .any ((Rows.OpenSpec.upto Rows.pairVectorsSpec).preRow enc Tryz.prog Tryz.f5 Rows.pairVectorsUptoRow.domain false Rows.pairVectorsUptoRow.laid) (((Rows.OpenSpec.upto Rows.pairVectorsSpec).at F).post enc Tryz.prog Tryz.f5 false true false false) := by
 obtain ⟨x, hx, hsm⟩ := reads os enc
 refine returnsInHanded_of_row (C := Tryz.checked) (s := Rows.OpenSpec.upto Rows.pairVectorsSpec) own started (by kernel_rfl) Tryz.func5
  (witness_row_atRef (enc := enc) (C := Tryz.checked) false (World.doorLaid Tryz.prog 24 os) wit rfl (by kernel_rfl) (by kernel_rfl) (by kernel_rfl)
   (OpenSpec.preRow_of_cond 8 hx (by kernel_rfl) (fun k hk => by cases hk; exact hsm) (by kernel_rfl) (door_met os _))) ?_
 intro W base args ds gs before hval0 hW _ hcond _ hL _ _
 have hval : ∀ (j : Nat) t v, Tryz.f5.params[j]? = some t → args[j]? = some v → Value.okWide Tryz.prog W .any base t v := hval0
 have hW' := hW
 obtain ⟨p, q, hA0, hV, rfl, hfz, hnd⟩ := hW
 have hA : DataW.TrodAll enc Tryz.prog W 0 (fun _ => true) true Tryz.f5.params.toList args.toList ds p := hA0
 rw [Tryz.params5] at hA hval
 obtain ⟨v0, vs0, d0, ds0, p0, q0, hargs0, rfl, rfl, h0, r0⟩ := trodAll_cons hA
 obtain ⟨rfl, rfl, rfl⟩ := trodAll_nil r0
 obtain rfl : args = #[v0] := by cases args; simp_all
 obtain ⟨rfl, rfl⟩ := trodVars_none hV
 have k0 := h0
 have lt0 : ∀ x ∈ p0, x.block < W.heap.size := by obtain ⟨m, hm⟩ := k0; exact DataW.trod_lt m _ _ _ hm
 have hbk : Rows.uptoBulkAll [d0] ≤ 1048576 := by have h := hcond _ rfl; unfold Rows.uptoSmall at h; have h := of_decide_eq_true h; simpa using h
 simp only [Rows.uptoBulkAll] at hbk
 obtain ⟨s0, a0, na0, ca0, la0, b0, nb0, cb0, lb0, m0, yes0, rfl, hr1, hk1, hr2, hk2, hm0, hf1, hf2, hn0, hi0⟩ := open_both (hval 0 27 v0 rfl rfl) h0 (by omega)
 have hT := tab_of_laid hL
 clear hA0 hval0
 refine (law_vecs s0 a0 b0 na0 ca0 nb0 cb0 la0 lb0 m0 yes0 W hr1 hk1 hr2 hk2 hm0 hf1 hf2 hn0 hi0 hT).mono fun e W' ⟨he, bel⟩ => ?_
 subst he
 exact ⟨_, rfl, _, _, _, [], _, [], hW', trodAll_mk1 (shut_bool Tryz.underlying4 _), (trodAll_cons_mk (Below.trod laidOut (by kernel_rfl) (of_decide_eq_true (by kernel_rfl)) k0 bel lt0) trodAll_mk0), rfl, bel.frame _, fun h => by cases h⟩
theorem over : Rows.PairVectorsUptoSaid :=
 OpenClaim.holds_of_cond 5 Tryz.f5 rfl rfl rfl rfl rfl rfl rfl ⟨rfl, rfl, rfl, rfl, rfl⟩ rfl rfl rfl rfl rfl (by kernel_rfl) Tryz.func5 (by kernel_rfl)
  (of_decide_eq_true (by kernel_rfl)) (by unfold Func.isWrapper; first | (rw [if_pos (by decide +kernel)]; kernel_rfl) | (rw [if_neg (by decide +kernel)]; exact ⟨rfl, rfl⟩))
  (fun os started H enc _ F => by rw [OpenClaim.pre_eq_preRow]; exact lifted os started H enc F)
theorem named : Tryz.prog.funcNamed Rows.pairVectorsUptoRow.func = some 5 := by kernel_rfl
theorem card : Rows.PairVectorsUptoCardSaid :=
 Claim7.holds_tied_plain_at .later [] _ _ _ _
  over (fun _ h => by cases h) (by kernel_rfl) (fun _ h => by cases h) pairVectorsUpto_row_tie rfl ⟨rfl, rfl⟩ (by kernel_rfl) rfl
  (fun f fn hf hfn => by
   obtain rfl : f = 5 := Option.some.inj (named.symm.trans hf) |>.symm
   obtain rfl : fn = Tryz.f5 := (Option.some.inj (Tryz.func5.symm.trans hfn)).symm
   exact ⟨by kernel_rfl, fun j t ht => by
    rw [Tryz.params5] at ht
    have hm : t ∈ [27] := by simpa using Array.mem_of_getElem? ht
    have hall : ([27].all fun u => !Tryz.prog.wantsStandIn u) = true := by kernel_rfl
    exact (show Tryz.prog.wantsStandIn t = false by simpa using List.all_eq_true.1 hall t hm)⟩)
  (by kernel_rfl)
end Go.Proofs.YtmmfjknnbkcniaaGreatDoor.pairVectorsDone
namespace Go.Proofs.YtmmfjknnbkcniaaGreatDoor
theorem pairVectors_holds : Rows.PairVectorsUptoCardSaid := pairVectorsDone.card
#print axioms pairVectors_holds
end Go.Proofs.YtmmfjknnbkcniaaGreatDoor
