/- OverKeeps: the statement, by its walk. -/
import Derived.Test.YtoeldcgclaiokaaKeepW
import Derived.Test.YtoeldcgclaiokaaOpenWin
import Derived.Test.YtoeldcgclaiokaaRows
import Derived.SizedLaws
import Derived.WalkKit
import Derived.ProofKit
import Derived.OpenShut
import Derived.ShutString
import Derived.ChangeOld
import Derived.Below
namespace Go.Proofs.Ytoeldcgclaiokaa.overKeepsDone
open Go.ChangeShapes Go.WideShapes Go.ChangeAt Go.RowKit Go.Fl
open Go.ChangeMaps (open_string shut_string)
set_option linter.unusedVariables false

theorem win_le3 {H : Type} {ts : List TypeId} {ds : List (DataW H)} {d : DataW H} {n j : Nat} {t : TypeId} (h : n = 0 ∨ ∃ m ∈ d.weights Try.prog t, n * Try.prog.bytesOf 45 ≤ m) (hs : (DataW.weightsEach Try.prog ts ds).all (· ≤ reachBytes) = true) (ht : ts[j]? = some t) (hd : ds[j]? = some d) : n < 5864062014790 := by
  rcases h with rfl | ⟨m, hm, hle⟩
  · omega
  · have := List.all_eq_true.1 hs _ (DataW.weights_mem_each ht hd m hm)
    rw [decide_eq_true_eq] at this
    have h24 : Try.prog.bytesOf 45 = 24 := by kernel_rfl
    rw [h24] at hle
    unfold reachBytes at this
    omega

theorem own : ownKnob Try.prog.godebug = none := by kernel_rfl
theorem laidOut : laidOutB Try.prog = true := by kernel_rfl

set_option maxRecDepth 100000 in
theorem lifted (os : Os) (started : os.Started) (H : Type) (enc : TypeId × Value → H) :
    ReturnsInHanded {} Try.checked os 9 .any (Rows.overKeepsSpec.pre6 enc Try.prog Try.f9 Rows.overKeepsRow.domain false) (Rows.overKeepsSpec.post enc Try.prog Try.f9 false true false false) := by
  refine returnsInHanded_of_change_sized (C := Try.checked) own started (by kernel_rfl) Try.func9
    (ChangeSpec.witness6 (enc := enc) (C := Try.checked) false ⟨#[], #[.agg #[.slice none 0 0, .int .i64 0, .int .i64 0, .int .i64 0], .float .f64 0, .float .f64 0], []⟩ 8 (by kernel_rfl) (by kernel_rfl) (by kernel_rfl) (by kernel_rfl)) ?_
  intro W base args ds gs before hval0 hW hcnd hsz0 _
  have hsz : (DataW.weightsEach Try.prog (Try.f9.params.toList ++ Rows.overKeepsSpec.plain.varTypes Try.prog) (ds ++ gs)).all (· ≤ reachBytes) = true := hsz0
  clear hsz0
  have hval : ∀ (j : Nat) t v, Try.f9.params[j]? = some t → args[j]? = some v → Value.okWide Try.prog W .any base t v := hval0
  have hW' := hW
  obtain ⟨p, q, hA0, hV, rfl, hfz, hnd⟩ := hW
  have hA : DataW.TrodAll enc Try.prog W 0 (fun _ => true) true Try.f9.params.toList args.toList ds p := hA0
  rw [Try.params9] at hA hval hsz
  obtain ⟨v0, vs0, d0, ds0, p0, q0, hargs, rfl, rfl, h0, r0⟩ := trodAll_cons hA
  obtain ⟨v1, vs1, d1, ds1, p1, q1, rfl, rfl, rfl, h1, r1⟩ := trodAll_cons r0
  obtain ⟨v2, vs2, d2, ds2, p2, q2, rfl, rfl, rfl, h2, r2⟩ := trodAll_cons r1
  obtain ⟨rfl, rfl, rfl⟩ := trodAll_nil r2
  obtain rfl : args = #[v0, v1, v2] := by cases args; simp_all
  obtain ⟨rfl, rfl⟩ := trodVars_none hV
  have k0 := h0
  have lt0 : ∀ x ∈ p0, x.block < W.heap.size := by obtain ⟨m, hm⟩ := k0; exact DataW.trod_lt m _ _ _ hm
  obtain ⟨a0, n0, cap0, ss0, F0, T0, N0, rfl, hr0, hF0, hT0, hN0, hs0⟩ := open_win (hval 0 30 v0 rfl rfl) h0
  have k1 := h1
  have lt1 : ∀ x ∈ p1, x.block < W.heap.size := by obtain ⟨m, hm⟩ := k1; exact DataW.trod_lt m _ _ _ hm
  obtain ⟨x1, rfl, _, _, wx1⟩ := open_float Try.underlying25 (hval 1 25 v1 rfl rfl) h1
  have k2 := h2
  have lt2 : ∀ x ∈ p2, x.block < W.heap.size := by obtain ⟨m, hm⟩ := k2; exact DataW.trod_lt m _ _ _ hm
  obtain ⟨x2, rfl, _, _, wx2⟩ := open_float Try.underlying25 (hval 2 25 v2 rfl rfl) h2
  have hn0 : n0 < 5864062014790 := win_le3 hs0 hsz (j := 0) (t := 30) rfl rfl
  clear hA0 hval0
  refine ((law_keeps a0 n0 cap0 ss0 F0 T0 N0 x1 x2 W hr0 hn0 hF0 hT0 hN0)).mono fun e W' ⟨he, bel⟩ => ?_
  subst he
  exact ⟨_, rfl, _, _, _, [], _, [], hW', trodAll_mk1 (shut_bool Try.underlying4 _), (trodAll_cons_mk (Below.trod laidOut (by kernel_rfl) (of_decide_eq_true (by kernel_rfl)) k0 bel lt0) (trodAll_cons_mk (Below.trod laidOut (by kernel_rfl) (of_decide_eq_true (by kernel_rfl)) k1 bel lt1) (trodAll_cons_mk (Below.trod laidOut (by kernel_rfl) (of_decide_eq_true (by kernel_rfl)) k2 bel lt2) trodAll_mk0))), rfl, bel.frame _, fun h => by cases h⟩

theorem over : Rows.overKeepsRow.holds Try.pinned (OpenSpec.ofChange Rows.overKeepsSpec) :=
  OpenClaim.holds_of_wide 9 Try.f9 rfl rfl rfl rfl rfl rfl rfl ⟨rfl, rfl, rfl, rfl, rfl⟩ rfl rfl rfl rfl rfl (by kernel_rfl) Try.func9 (by kernel_rfl)
    (of_decide_eq_true (by kernel_rfl)) (by unfold Func.isWrapper; first | (rw [if_pos (by decide +kernel)]; kernel_rfl) | (rw [if_neg (by decide +kernel)]; exact ⟨rfl, rfl⟩))
    (fun os started H enc _ => lifted os started H enc)

end Go.Proofs.Ytoeldcgclaiokaa.overKeepsDone
namespace Go.Proofs.Ytoeldcgclaiokaa
theorem overKeeps_holds : Rows.OverKeepsSaid := overKeepsDone.over
#print axioms overKeeps_holds
end Go.Proofs.Ytoeldcgclaiokaa
