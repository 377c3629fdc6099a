/- What PairKeeps is handed: as for the laws of two vectors, and the names' slice. -/
import Derived.Test.YtmmfjknnbkcniaaGreatDoorQ31
namespace Go.Proofs.YtmmfjknnbkcniaaGreatDoor
open Go.Fl Go.Rel Go.RowKit Go.ChangeShapes Go.WideShapes Go.Deep
set_option linter.unusedVariables false
set_option linter.unusedSimpArgs false

section
variable {H : Type}
variable {H : Type} {enc : TypeId × Value → H} {w : World} {spare : Nat → Bool} {held : Bool}
theorem texts_bulk2 {fuel : Nat} {cs : List Value} {x : DataW H × List MemPlace} (hf : DataW.trod enc Tryz.prog w 0 spare held fuel 23 cs = some x) (hw : Rows.uptoBulk x.1 ≤ 1048576) :
    ∃ a n cap ns, cs = [.slice a n cap] ∧ NRow w a n ns ∧ n ≤ 1048576 ∧ (a = none → cap = 0) := by
  obtain ⟨a, n, cap, ns, h1, h2, h3⟩ := texts_bulk hf hw
  refine ⟨a, n, cap, ns, h1, h2, h3, fun ha => ?_⟩
  rcases open_slice Tryz.underlying23 hf with ⟨hcs, _⟩ | ⟨a', len, cap', m, n', D, Pl, hcl, _⟩
  · rw [h1] at hcs
    injection hcs with e _
    injection e
  · rw [h1, ha] at hcl
    injection hcl with e _
    injection e with e
    cases e

set_option maxRecDepth 100000 in
theorem match_bulk2 {fuel : Nat} {cs : List Value} {x : DataW H × List MemPlace} (hf : DataW.trod enc Tryz.prog w 0 spare held fuel 25 cs = some x) (hl : cs.length = 5) (hw : Rows.uptoBulk x.1 ≤ 1048576) :
    ∃ m : Mt, cs = [.bool m.given, .bool m.on, .slice m.la m.ln m.lc, .int .i64 m.card, .slice m.ia m.im m.ic] ∧ MtOk w m ∧ m.im ≤ 1048576 ∧ (m.la = none → m.lc = 0) ∧ m.ln ≤ 1048576 := by
  have hc1 : Tryz.prog.cellsOf 23 = 1 := by kernel_rfl
  have hc2 : Tryz.prog.cellsOf 4 = 1 := by kernel_rfl
  have hc3 : Tryz.prog.cellsOf 3 = 1 := by kernel_rfl
  obtain ⟨xs, n', _, hxx, hlen, hlen2, hfs⟩ := DataW.trod_struct Tryz.underlying25 hf
  match cs, hl, xs, hlen2 with
  | [c0, c1, c2, c3, c4], _, [x0, x1, x2, x3, x4], _ =>
    have g0 := hfs 0 _ rfl
    have g1 := hfs 1 _ rfl
    have g2 := hfs 2 _ rfl
    have g3 := hfs 3 _ rfl
    have g4 := hfs 4 _ rfl
    simp [hc1, hc2, hc3] at g0 g1 g2 g3 g4
    have hd : x.1 = .agg [x0.1, x1.1, x2.1, x3.1, x4.1] := congrArg Prod.fst hxx
    rw [hd] at hw
    simp only [Rows.uptoBulk, Rows.uptoBulkAll] at hw
    obtain ⟨given, rfl⟩ := cellm_bool Tryz.underlying4 g0
    obtain ⟨on, rfl⟩ := cellm_bool Tryz.underlying4 g1
    obtain ⟨la, ln, lc, ns, he, hr, hln, hlc⟩ := texts_bulk2 g2 (by omega)
    simp at he
    subst he
    obtain ⟨card, rfl⟩ := cellm_int (k := .i64) Tryz.underlying3 g3
    obtain ⟨ia, im, ic, inc, he, hr2, hi⟩ := texts_bulk g4 (by omega)
    simp at he
    subst he
    exact ⟨⟨given, on, la, ln, lc, card, ia, im, ic, ns, inc⟩, rfl, ⟨hr, hr2⟩, hi, hlc, hln⟩

set_option maxRecDepth 100000 in
theorem open_keep {v : Value} {r : Reach} {b0 : Nat} {d : DataW H} {ps : List MemPlace} (hval : Value.okWide Tryz.prog w r b0 27 v) (hd : DataW.Trod enc Tryz.prog w 0 spare held 27 v d ps) (hw : Rows.uptoBulk d ≤ 1048576) :
    ∃ s a na ca la b nb cb lb m yes, v = bothV s (.slice a na ca) (.slice b nb cb) m yes ∧ ERow w a na la ∧ SlK a na ca ∧ ERow w b nb lb ∧ SlK b nb cb ∧ MtOk w m ∧ FitK m.on m.ns m.im (la.map Er.key) ∧ FitK m.on m.ns m.im (lb.map Er.key) ∧ na + nb ≤ 4398046511000 ∧ (m.im : Int) ≤ 9223372036854775807 ∧ (m.la = none → m.lc = 0) ∧ m.ln ≤ 4398046511104 := by
  obtain ⟨cs, rfl, hsz⟩ := okWide_struct Tryz.underlying27 hval
  obtain ⟨fuel, hf⟩ := hd
  have hc1 : Tryz.prog.cellsOf 22 = 1 := by kernel_rfl
  have hc2 : Tryz.prog.cellsOf 25 = 5 := by kernel_rfl
  have hc3 : Tryz.prog.cellsOf 4 = 1 := by kernel_rfl
  have hc4 : Tryz.prog.cellsOf 9 = 1 := by kernel_rfl
  have hcw : Tryz.prog.cellsOf 27 = 9 := by kernel_rfl
  obtain ⟨xs, n', _, hxx, hlen, hlen2, hfs⟩ := DataW.trod_struct Tryz.underlying27 hf
  rw [hcw] at hlen
  obtain ⟨l⟩ := cs
  simp [Value.cells] at hlen hfs
  match l, hlen, xs, hlen2 with
  | [c0, c1, c2, c3, c4, c5, c6, c7, c8], _, [x0, x1, x2, x3, x4], _ =>
    have g0 := hfs 0 _ rfl
    have g1 := hfs 1 _ rfl
    have g2 := hfs 2 _ rfl
    have g3 := hfs 3 _ rfl
    have g4 := hfs 4 _ rfl
    simp [hc1, hc2, hc3, hc4] at g0 g1 g2 g3 g4
    have hdx : d = .agg [x0.1, x1.1, x2.1, x3.1, x4.1] := congrArg Prod.fst hxx
    rw [hdx] at hw
    simp only [Rows.uptoBulk, Rows.uptoBulkAll] at hw
    obtain ⟨s, rfl, _⟩ := cellm_string Tryz.underlying9 g0
    obtain ⟨a, na, ca, la, he, hr, hk, hna, h64⟩ := elems_bulk g1 (by omega)
    simp at he
    subst he
    obtain ⟨b, nb, cb, lb, he, hr2, hk2, hnb, h642⟩ := elems_bulk g2 (by omega)
    simp at he
    subst he
    obtain ⟨m, he, hm, hi, hlc, hln⟩ := match_bulk2 g3 rfl (by omega)
    simp at he
    obtain ⟨rfl, rfl, rfl, rfl, rfl⟩ := he
    obtain ⟨yes, rfl⟩ := cellm_bool Tryz.underlying4 g4
    exact ⟨s, a, na, ca, la, b, nb, cb, lb, m, yes, rfl, hr, hk, hr2, hk2, hm, fit_bulk h64 hi, fit_bulk h642 hi, by omega, by omega, hlc, by omega⟩
end
end Go.Proofs.YtmmfjknnbkcniaaGreatDoor
