/- The reference's thousandths. -/
import Derived.Test.YtmgnhekpgeahmaaDoorRefFrac
namespace Go.Proofs.YtmgnhekpgeahmaaDoor
open Go.Dur Go.Fl Go.RowKit

/-- x is t with noughts behind it, up to three bytes. -/
def Pad (t x : ByteArray) : Prop := AllD x ∧ t.size ≤ x.size ∧ (x.size ≤ 3 ∨ x = t) ∧ ∀ i, i < 3 → dv x i = dv t i

theorem bt_append (a b : ByteArray) (i : Nat) : bt (a ++ b) i = if i < a.size then bt a i else bt b (i - a.size) := by
  obtain ⟨⟨l⟩⟩ := a
  obtain ⟨⟨m⟩⟩ := b
  have e : (ByteArray.mk ⟨l⟩ ++ ByteArray.mk ⟨m⟩ : ByteArray) = ⟨(l ++ m).toArray⟩ := ByteArray.mk_append_mk l m
  rw [e]
  have hs : (ByteArray.mk ⟨l⟩).size = l.length := rfl
  rw [hs]
  unfold bt
  simp only [List.getD]
  by_cases h : i < l.length
  · rw [if_pos h, List.getElem?_append_left h]
  · rw [if_neg h, List.getElem?_append_right (by omega)]

theorem bt_zero (i : Nat) : bt ⟨#[48]⟩ i = if i = 0 then 48 else 0 := by
  match i with
  | 0 => rfl
  | i + 1 => rfl

theorem pad_more {t x : ByteArray} (hp : Pad t x) (h : x.size < 3) : Pad t (x ++ ⟨#[48]⟩) := by
  obtain ⟨h1, h2, h3, h4⟩ := hp
  have hs : (x ++ (⟨#[48]⟩ : ByteArray)).size = x.size + 1 := by rw [ByteArray.size_append]; rfl
  refine ⟨fun i hi => ?_, by omega, .inl (by omega), fun i hi => ?_⟩
  · rw [bt_append]
    by_cases hix : i < x.size
    · rw [if_pos hix]; exact h1 i hix
    · rw [if_neg hix, bt_zero, if_pos (by omega)]; rfl
  · rw [← h4 i hi]
    unfold dv
    rw [bt_append]
    by_cases hix : i < x.size
    · rw [if_pos hix]
    · rw [if_neg hix, bt_zero, bt_out (t := x) (i := i) (by omega)]
      split <;> rfl

theorem pad_mil {t x : ByteArray} (hp : Pad t x) : milN x 3 = milN t 3 := by
  obtain ⟨_, _, _, h⟩ := hp
  simp only [milN, h 0 (by omega), h 1 (by omega), h 2 (by omega)]

theorem nz_shift (t : ByteArray) : ∀ k, k ≤ t.size - 3 → nz1 (t.extract 3 t.size) k = nzN t (3 + k) := by
  intro k
  induction k with
  | zero => intro _; rw [nz_low t (by omega)]; rfl
  | succ k ih =>
    intro hk
    rw [nz1, ih (by omega), show 3 + (k + 1) = (3 + k) + 1 by omega, nzN, bt_extract t (Nat.le_refl _) (by omega)]
    congr 2
    exact decide_eq_decide.2 (by omega)

theorem half_ext (t : ByteArray) (h : 3 ≤ t.size) : hfN (t.extract 3 t.size) = halfN t := by
  have hs : (t.extract 3 t.size).size = t.size - 3 := by rw [ByteArray.size_extract]; omega
  unfold hfN halfN
  rw [hs]
  by_cases h4 : t.size < 4
  · rw [if_pos (.inl (by omega)), if_pos (.inl h4)]
  · rw [nz_shift t _ (Nat.le_refl _), bt_extract t (Nat.le_refl _) (by omega), show 3 + 0 = 3 from rfl, show 3 + (t.size - 3) = t.size by omega]
    by_cases h5 : bt t 3 < 53
    · rw [if_pos (.inr h5), if_pos (.inr h5)]
    · rw [if_neg (show ¬ (t.size - 3 = 0 ∨ bt t 3 < 53) by omega), if_neg (show ¬ (t.size < 4 ∨ bt t 3 < 53) by omega)]

theorem pad_half {t x : ByteArray} (hp : Pad t x) (h : 3 ≤ x.size) : hfN (x.extract 3 x.size) = halfN t := by
  obtain ⟨_, h2, h3, _⟩ := hp
  rcases h3 with h3 | rfl
  · have hs : (x.extract 3 x.size).size = 0 := by rw [ByteArray.size_extract]; omega
    unfold hfN halfN
    rw [if_pos (.inl hs), if_pos (.inl (by omega))]
  · exact half_ext x h

theorem pad_size {t x : ByteArray} (hp : Pad t x) (hs : t.size ≤ 9223372036854775806) : x.size ≤ 9223372036854775806 := by
  obtain ⟨_, _, h3, _⟩ := hp
  rcases h3 with h3 | rfl
  · omega
  · exact hs

def PadRel (t : ByteArray) (w : World) (v : Value) (wr : World) : Prop := ∃ x n, v = .string x ∧ Pad t x ∧ wr = w.drewN n

end Go.Proofs.YtmgnhekpgeahmaaDoor
