/- How vectors and a matching are opened that come as arguments of their own. -/
import Derived.Test.YtmmfjknnbkcniaaGreatDoorQ31
namespace Go.Proofs.YtmmfjknnbkcniaaGreatDoor
open Go.Fl Go.Rel Go.RowKit Go.ChangeShapes Go.WideShapes Go.Deep
set_option linter.unusedVariables false
set_option linter.unusedSimpArgs false
section
variable {H : Type} {enc : TypeId × Value → H} {w : World} {spare : Nat → Bool} {held : Bool}
set_option maxRecDepth 100000 in
theorem open_elems {v : Value} {r : Reach} {b0 : Nat} {d : DataW H} {ps : List MemPlace} (hval : Value.okWide Tryz.prog w r b0 22 v) (hd : DataW.Trod enc Tryz.prog w 0 spare held 22 v d ps) (hw : Rows.uptoBulk d ≤ 1048576) :
    ∃ a n cap es, v = .slice a n cap ∧ ERow w a n es ∧ SlK a n cap ∧ n ≤ 1048576 ∧ ∀ e ∈ es, W64 e.f ∧ BulkL e.ls := by
  obtain ⟨a, n, cap, rfl⟩ := okWide_slice Tryz.underlying22 hval
  obtain ⟨fuel, hf⟩ := hd
  obtain ⟨a', n', cap', es, he, h1, h2, h3, h4⟩ := elems_bulk hf hw
  simp [Value.cells] at he
  obtain ⟨rfl, rfl, rfl⟩ := he
  exact ⟨_, _, _, es, rfl, h1, h2, h3, h4⟩
set_option maxRecDepth 100000 in
theorem open_match {v : Value} {r : Reach} {b0 : Nat} {d : DataW H} {ps : List MemPlace} (hval : Value.okWide Tryz.prog w r b0 25 v) (hd : DataW.Trod enc Tryz.prog w 0 spare held 25 v d ps) (hw : Rows.uptoBulk d ≤ 1048576) :
    ∃ m : Mt, v = m.v ∧ MtOk w m ∧ m.im ≤ 1048576 := by
  obtain ⟨cs, rfl, hsz⟩ := okWide_struct Tryz.underlying25 hval
  have hc : Tryz.prog.cellsOf 25 = 5 := by kernel_rfl
  obtain ⟨fuel, hf⟩ := hd
  obtain ⟨m, he, h1, h2⟩ := match_bulk hf (by rw [hc] at hsz; simpa [Value.cells] using hsz) hw
  obtain ⟨l⟩ := cs
  simp [Value.cells] at he
  subst he
  exact ⟨m, rfl, h1, h2⟩
theorem open_both2 {l1 l2 : List Er} {m : Mt} (h1 : ∀ e ∈ l1, W64 e.f ∧ BulkL e.ls) (h2 : ∀ e ∈ l2, W64 e.f ∧ BulkL e.ls) (hi : m.im ≤ 1048576) : FitK m.on m.ns m.im (l1.map Er.key) ∧ FitK m.on m.ns m.im (l2.map Er.key) := ⟨fit_bulk h1 hi, fit_bulk h2 hi⟩
end
end Go.Proofs.YtmmfjknnbkcniaaGreatDoor
