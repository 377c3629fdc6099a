/- weirlaw21.own: a text of its own for each number. -/
import Derived.Test.YtmmfjknnbkcniaaGreatDoorQ14
import Derived.Deep.MidRow
namespace Go.Fl
def ownC (k : Nat) : UInt8 := UInt8.ofNat (97 + k % 2)
/-- The text that own reaches from t with k left. -/
def ownG : Nat → ByteArray → Nat → ByteArray
  | 0, t, _ => t
  | f + 1, t, k => if k = 0 then t else ownG f (t ++ ⟨#[ownC k]⟩) (k / 2)
def ownS (n : Nat) : ByteArray := ownG n ⟨#[109]⟩ n
theorem ownG_zero (f : Nat) (t : ByteArray) : ownG f t 0 = t := by cases f <;> rfl
theorem ownG_more (f : Nat) (t : ByteArray) {k : Nat} (h : 0 < k) : ownG (f + 1) t k = ownG f (t ++ ⟨#[ownC k]⟩) (k / 2) := by
  show (if k = 0 then t else _) = _
  rw [if_neg (by omega)]
end Go.Fl
namespace Go.Proofs.YtmmfjknnbkcniaaGreatDoor
open Go.Fl Go.Rel Go.RowKit Go.Sort
set_option linter.unusedSimpArgs false
set_option linter.unusedVariables false

def OwnTR (n : Nat) (w : World) (v0 v3 : Value) (wr : World) : Prop :=
  ∃ (k f : Nat) (t : ByteArray), v0 = .int .i64 (k : Int) ∧ v3 = .string t ∧ k ≤ f ∧ ownG f t k = ownS n ∧ t.size + k ≤ n + 1 ∧ Below w.heap.size w wr
set_option maxHeartbeats 4000000 in
set_option maxRecDepth 100000 in
theorem own_any (n : Nat) (w : World) (hn : n ≤ 4398046511104) :
    Calls Tryz.prog 32 #[.int .i64 (n : Int)] w fun e w' => e = .returned (.string (ownS n)) ∧ Below w.heap.size w w' := by
  go_enter Tryz.func32, Tryz.ntmps32
  go_wp2_with fail
  go_loopw [0, 3] (OwnTR n w) (fun v _ _ => (intOf v).toNat)
  case atStart => exact ⟨n, n, ⟨#[109]⟩, rfl, rfl, Nat.le_refl _, rfl, by show 1 + n ≤ n + 1; omega, Below.refl _ _⟩
  case round =>
    obtain ⟨k, f, t, rfl, rfl, hkf, hg, hs, bel⟩ := hrel
    have HB := Lib.hid bel
    have HG := Lib.hid hg
    have HS := Lib.hid hs
    clear hg hs bel
    by_cases hk : 0 < k
    · have k1 : (0 : Int) < (k : Int) := by omega
      have k2 : (k : Int) ≤ 4398046511105 := by have := HS.out; omega
      have hts : t.size ≤ 4398046511105 := by have := HS.out; omega
      obtain ⟨f', rfl⟩ : ∃ f', f = f' + 1 := ⟨f - 1, by omega⟩
      have hcv : ∀ W : World, (W.cell? ⟨wr.heap.size, 0, none⟩ = some (.int .u8 (97 + (k : Int) % 2))) → (convert 84 9 (.slice (some ⟨wr.heap.size, 0, none⟩) 1 1)).run Tryz.prog W = .ok (.string ⟨#[ownC k]⟩) W := fun W hW => by
        refine run_convert_bytes_back (P := Tryz.prog) W 84 9 5 ⟨wr.heap.size, 0, none⟩ 1 [ownC k] Tryz.underlying84 Tryz.underlying5 Tryz.underlying9 ?_
        intro j hj
        obtain rfl : j = 0 := by simpa using hj
        show W.cell? ⟨wr.heap.size, 0, none⟩ = _
        rw [hW]
        have : k % 2 < 2 := Nat.mod_lt _ (by omega)
        show some (Value.int .u8 (97 + (k : Int) % 2)) = some (.int .u8 ((ownC k).toNat : Int))
        unfold ownC
        rw [UInt8.toNat_ofNat']
        congr 2
        omega
      have hcw : (convert 84 9 (.slice (some ⟨wr.heap.size, 0, none⟩) 1 1)).run Tryz.prog (wr.alloc (.cells #[.int .u8 (97 + (k : Int) % 2)] 5)) = .ok (.string ⟨#[ownC k]⟩) (wr.alloc (.cells #[.int .u8 (97 + (k : Int) % 2)] 5)) := hcv _ (by rw [World.cell?_alloc_at _ _ _ _ (by rfl)]; rfl)
      clear hcv
      go_wp2_with (simp only [hcw])
      go_roundw
      case rel =>
        refine ⟨k / 2, f', t ++ ⟨#[ownC k]⟩, ?_, rfl, by omega, ?_, ?_, ?_⟩
        · first | rfl | (congr 1)
        · rw [← HG.out, ownG_more f' t hk]
        · have := HS.out; rw [ByteArray.size_append]; show t.size + 1 + k / 2 ≤ n + 1; omega
        · exact HB.out.trans (((Below.refl _ _).alloc (Nat.le_refl _) _).mono HB.out.size)
      case measure => simp [intOf]; omega
    · obtain rfl : k = 0 := by omega
      go_wp2_with fail
      go_ret
      exact ⟨by rw [← HG.out, ownG_zero]; rfl, HB.out⟩
end Go.Proofs.YtmmfjknnbkcniaaGreatDoor
