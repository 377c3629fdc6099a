/- date: dates as the reference reads them. -/
import Derived.Test.YtmgnhekpgeahmaaDoorDateForm
import Derived.Test.YtmgnhekpgeahmaaDoorBox
namespace Go.Proofs.YtmgnhekpgeahmaaDoor
open Go.Dur Go.Fl Go.RowKit

theorem form_bytes : ∀ k : Fin 19, ((ByteArray.mk #[100, 100, 100, 100, 45, 100, 100, 45, 100, 100, 84, 100, 100, 58, 100, 100, 58, 100, 100])[k.1]'k.2).toNat = fC k.1 := by decide +kernel
theorem form_byte (k : Nat) (h : k < 19) : ((ByteArray.mk #[100, 100, 100, 100, 45, 100, 100, 45, 100, 100, 84, 100, 100, 58, 100, 100, 58, 100, 100])[k]'h).toNat = fC k := form_bytes ⟨k, h⟩

def FormRel (s : ByteArray) (w : World) (i : Value) (wr : World) : Prop := ∃ k n : Nat, k ≤ 19 ∧ i = .int .i64 (k : Int) ∧ wr = w.drewN n ∧ formN s k = true

theorem mil_empty : milN ⟨#[]⟩ 3 = 0 := by decide +kernel
theorem half_empty : halfN ⟨#[]⟩ = -1 := by decide +kernel

end Go.Proofs.YtmgnhekpgeahmaaDoor
