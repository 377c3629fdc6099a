/- How an argument that holds a window and other edges is opened. -/
import Derived.Test.YtoeldcgclaiokaaOpenWin
namespace Go.Proofs.Ytoeldcgclaiokaa
open Go.Fl Go.Rel Go.RowKit Go.ChangeShapes Go.WideShapes Go.Deep
set_option linter.unusedVariables false
set_option linter.unusedSimpArgs false

theorem open_other {H : Type} {enc : TypeId × Value → H} {w : World} {spare : Nat → Bool} {held : Bool} {v : Value} {r : Reach} {b0 : Nat} {d : DataW H} {ps : List MemPlace} (hval : Value.okWide Try.prog w r b0 42 v) (hd : DataW.Trod enc Try.prog w 0 spare held 42 v d ps) :
    ∃ a n cap ss F T N F2 T2 N2, v = .agg #[.slice a n cap, .int .i64 F, .int .i64 T, .int .i64 N, .int .i64 F2, .int .i64 T2, .int .i64 N2] ∧ SRow w a n ss ∧ (n = 0 ∨ ∃ m ∈ d.weights Try.prog 42, n * Try.prog.bytesOf 45 ≤ m) := by
  obtain ⟨cs, rfl, hsz⟩ := okWide_struct Try.underlying42 hval
  obtain ⟨fuel, hf⟩ := hd
  have hci : Try.prog.cellsOf 2 = 1 := by kernel_rfl
  have hcw : Try.prog.cellsOf 30 = 4 := by kernel_rfl
  have hco : Try.prog.cellsOf 42 = 7 := by kernel_rfl
  obtain ⟨xs, n', _, hxx, hlen, hlen2, hfs⟩ := DataW.trod_struct Try.underlying42 hf
  rw [hco] at hsz
  obtain ⟨l⟩ := cs
  match l, hsz, xs, hlen2 with
  | [c0, c1, c2, c3, c4, c5, c6], _, [x0, x1, x2, x3], _ =>
    have g0 := hfs 0 _ rfl
    have g1 := hfs 1 _ rfl
    have g2 := hfs 2 _ rfl
    have g3 := hfs 3 _ rfl
    simp [Value.cells, hci, hcw] at g0 g1 g2 g3
    obtain ⟨a, n, cap, ss, F, T, N, he, hr, _, _, _, hs⟩ := win_trod g0
    obtain ⟨F2, rfl, _⟩ := cell_int' Try.underlying2 g1
    obtain ⟨T2, rfl, _⟩ := cell_int' Try.underlying2 g2
    obtain ⟨N2, rfl, _⟩ := cell_int' Try.underlying2 g3
    simp at he
    obtain ⟨rfl, rfl, rfl, rfl⟩ := he
    refine ⟨a, n, cap, ss, F, T, N, F2, T2, N2, rfl, hr, ?_⟩
    rcases hs with h | ⟨m, h1, h2⟩
    · exact .inl h
    · right
      refine ⟨m, ?_, h2⟩
      have e1 : d = _ := congrArg Prod.fst hxx
      rw [e1]
      simp [DataW.weights, Try.underlying42, DataW.weightsEach, h1]
end Go.Proofs.Ytoeldcgclaiokaa
