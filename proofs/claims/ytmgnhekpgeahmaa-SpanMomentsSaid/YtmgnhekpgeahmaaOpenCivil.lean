/- How an argument of type api.Civil is opened. -/
import Derived.Test.YtmgnhekpgeahmaaProg
import Derived.WalkKit
import Derived.ProofKit
import Derived.OpenShut
import Derived.Lib.SmallJoins
import Derived.KernelRfl
namespace Go.Proofs.Ytmgnhekpgeahmaa
open Go.RowKit Go.ChangeShapes Go.WideShapes Go.Joins

section
variable {H : Type} {enc : TypeId × Value → H} {w : World} {spare : Nat → Bool} {held : Bool}

theorem cell_int {P : Program} {t : TypeId} {k : IntKind} {fuel : Nat} {v : Value} {x : DataW H × List MemPlace} {base : Nat} (ht : P.underlying t = some (.int k)) (h : DataW.trod enc P w base spare held fuel t [v] = some x) :
    ∃ n, v = .int k n ∧ (Lit.int k n).wf = true := by
  cases fuel with
  | zero => simp [DataW.trod] at h
  | succ m =>
    simp only [DataW.trod, ht] at h
    cases v with
    | int k' n =>
      by_cases hk : k' = k
      · subst hk
        refine ⟨n, rfl, ?_⟩
        by_cases hw : (Lit.int k' n).wf = true
        · exact hw
        · simp [hw] at h
      · simp [hk] at h
    | _ => simp at h

theorem open_civil {v : Value} {r : Reach} {b0 : Nat} {d : DataW H} {ps : List MemPlace} (hval : Value.okWide Try.prog w r b0 23 v)
    (hd : DataW.Trod enc Try.prog w 0 spare held 23 v d ps) :
    ∃ y mo d h mi s ms wd yd md : Int, v = .agg #[.int .i64 y, .int .i64 mo, .int .i64 d, .int .i64 h, .int .i64 mi, .int .i64 s, .int .i64 ms, .int .i64 wd, .int .i64 yd, .int .i64 md] := by
  obtain ⟨cs, rfl, hsz⟩ := okWide_struct Try.underlying23 hval
  obtain ⟨fuel, hf⟩ := hd
  obtain ⟨xs, n, _, _, hl, hlen, hx⟩ := DataW.trod_struct Try.underlying23 hf
  have hc : Try.prog.cellsOf 23 = 10 := by kernel_rfl
  have hci : Try.prog.cellsOf 3 = 1 := by kernel_rfl
  rw [hc] at hsz
  obtain ⟨l⟩ := cs
  match l, hsz, xs, hlen with
  | [c0, c1, c2, c3, c4, c5, c6, c7, c8, c9], _, [x0, x1, x2, x3, x4, x5, x6, x7, x8, x9], _ =>
    have h0 := hx 0 _ rfl
    have h1 := hx 1 _ rfl
    have h2 := hx 2 _ rfl
    have h3 := hx 3 _ rfl
    have h4 := hx 4 _ rfl
    have h5 := hx 5 _ rfl
    have h6 := hx 6 _ rfl
    have h7 := hx 7 _ rfl
    have h8 := hx 8 _ rfl
    have h9 := hx 9 _ rfl
    simp [Value.cells, hci] at h0 h1 h2 h3 h4 h5 h6 h7 h8 h9
    have it := Try.underlying3
    obtain ⟨n0, rfl, _⟩ := cell_int it h0
    obtain ⟨n1, rfl, _⟩ := cell_int it h1
    obtain ⟨n2, rfl, _⟩ := cell_int it h2
    obtain ⟨n3, rfl, _⟩ := cell_int it h3
    obtain ⟨n4, rfl, _⟩ := cell_int it h4
    obtain ⟨n5, rfl, _⟩ := cell_int it h5
    obtain ⟨n6, rfl, _⟩ := cell_int it h6
    obtain ⟨n7, rfl, _⟩ := cell_int it h7
    obtain ⟨n8, rfl, _⟩ := cell_int it h8
    obtain ⟨n9, rfl, _⟩ := cell_int it h9
    exact ⟨n0, n1, n2, n3, n4, n5, n6, n7, n8, n9, rfl⟩

end
end Go.Proofs.Ytmgnhekpgeahmaa
