/- The reference's thousandths. -/
import Derived.Test.YtmgnhekpgeahmaaRefFrac
namespace Go.Proofs.Ytmgnhekpgeahmaa
open Go.Dur Go.Fl Go.RowKit

/-- x is t with noughts behind it, up to three bytes. -/
def Pad (t x : ByteArray) : Prop := AllD x ∧ t.size ≤ x.size ∧ (x.size ≤ 3 ∨ x = t) ∧ ∀ i, i < 3 → dv x i = dv t i

theorem bt_append (a b : ByteArray) (i : Nat) : bt (a ++ b) i = if i < a.size then bt a i else bt b (i - a.size) := by
  obtain ⟨⟨l⟩⟩ := a
  obtain ⟨⟨m⟩⟩ := b
  have e : (ByteArray.mk ⟨l⟩ ++ ByteArray.mk ⟨m⟩ : ByteArray) = ⟨(l ++ m).toArray⟩ := ByteArray.mk_append_mk l m
  rw [e]
  have hs : (ByteArray.mk ⟨l⟩).size = l.length := rfl
  rw [hs]
  unfold bt
  simp only [List.getD]
  by_cases h : i < l.length
  · rw [if_pos h, List.getElem?_append_left h]
  · rw [if_neg h, List.getElem?_append_right (by omega)]

theorem bt_zero (i : Nat) : bt ⟨#[48]⟩ i = if i = 0 then 48 else 0 := by
  match i with
  | 0 => rfl
  | i + 1 => rfl

theorem pad_more {t x : ByteArray} (hp : Pad t x) (h : x.size < 3) : Pad t (x ++ ⟨#[48]⟩) := by
  obtain ⟨h1, h2, h3, h4⟩ := hp
  have hs : (x ++ (⟨#[48]⟩ : ByteArray)).size = x.size + 1 := by rw [ByteArray.size_append]; rfl
  refine ⟨fun i hi => ?_, by omega, .inl (by omega), fun i hi => ?_⟩
  · rw [bt_append]
    by_cases hix : i < x.size
    · rw [if_pos hix]; exact h1 i hix
    · rw [if_neg hix, bt_zero, if_pos (by omega)]; rfl
  · rw [← h4 i hi]
    unfold dv
    rw [bt_append]
    by_cases hix : i < x.size
    · rw [if_pos hix]
    · rw [if_neg hix, bt_zero, bt_out (t := x) (i := i) (by omega)]
      split <;> rfl

theorem pad_mil {t x : ByteArray} (hp : Pad t x) : milN x 3 = milN t 3 := by
  obtain ⟨_, _, _, h⟩ := hp
  simp only [milN, h 0 (by omega), h 1 (by omega), h 2 (by omega)]

theorem nz_shift (t : ByteArray) : ∀ k, k ≤ t.size - 3 → nz1 (t.extract 3 t.size) k = nzN t (3 + k) := by
  intro k
  induction k with
  | zero => intro _; rw [nz_low t (by omega)]; rfl
  | succ k ih =>
    intro hk
    rw [nz1, ih (by omega), show 3 + (k + 1) = (3 + k) + 1 by omega, nzN, bt_extract t (Nat.le_refl _) (by omega)]
    congr 2
    exact decide_eq_decide.2 (by omega)

theorem half_ext (t : ByteArray) (h : 3 ≤ t.size) : hfN (t.extract 3 t.size) = halfN t := by
  have hs : (t.extract 3 t.size).size = t.size - 3 := by rw [ByteArray.size_extract]; omega
  unfold hfN halfN
  rw [hs]
  by_cases h4 : t.size < 4
  · rw [if_pos (.inl (by omega)), if_pos (.inl h4)]
  · rw [nz_shift t _ (Nat.le_refl _), bt_extract t (Nat.le_refl _) (by omega), show 3 + 0 = 3 from rfl, show 3 + (t.size - 3) = t.size by omega]
    by_cases h5 : bt t 3 < 53
    · rw [if_pos (.inr h5), if_pos (.inr h5)]
    · rw [if_neg (show ¬ (t.size - 3 = 0 ∨ bt t 3 < 53) by omega), if_neg (show ¬ (t.size < 4 ∨ bt t 3 < 53) by omega)]

theorem pad_half {t x : ByteArray} (hp : Pad t x) (h : 3 ≤ x.size) : hfN (x.extract 3 x.size) = halfN t := by
  obtain ⟨_, h2, h3, _⟩ := hp
  rcases h3 with h3 | rfl
  · have hs : (x.extract 3 x.size).size = 0 := by rw [ByteArray.size_extract]; omega
    unfold hfN halfN
    rw [if_pos (.inl hs), if_pos (.inl (by omega))]
  · exact half_ext x h

theorem pad_size {t x : ByteArray} (hp : Pad t x) (hs : t.size ≤ 9223372036854775806) : x.size ≤ 9223372036854775806 := by
  obtain ⟨_, _, h3, _⟩ := hp
  rcases h3 with h3 | rfl
  · omega
  · exact hs

def PadRel (t : ByteArray) (w : World) (v : Value) (wr : World) : Prop := ∃ x n, v = .string x ∧ Pad t x ∧ wr = w.drewN n

set_option maxHeartbeats 1000000 in
theorem thou_any (t : ByteArray) (w : World) (hs : t.size ≤ 9223372036854775806) (hd : AllD t) : Calls Try.prog 57 #[.string t] w (SameD (.tuple #[.int .i64 ((milN t 3 : Nat) : Int), .int .i64 (halfN t)]) w) := by
  go_enter Try.func57, Try.ntmps57
  go_wp2_with fail
  go_loopw [0] (PadRel t w) (fun v _ => match v with | .string x => 3 - x.size | _ => 0)
  case atStart => exact ⟨t, 0, rfl, ⟨hd, Nat.le_refl _, .inr rfl, fun _ _ => rfl⟩, rfl⟩
  case round =>
    obtain ⟨x, n, rfl, hp, rfl⟩ := hrel
    by_cases h3 : x.size < 3
    · go_wp2_with fail
      refine ⟨⟨_, n, rfl, pad_more hp h3, rfl⟩, ?_⟩
      have hs : (x ++ (⟨#[48]⟩ : ByteArray)).size = x.size + 1 := by rw [ByteArray.size_append]; rfl
      dsimp only
      omega
    · have hx := pad_size hp hs
      have hb0 := bt_get x (show 0 < x.size by omega)
      have hb1 := bt_get x (show 1 < x.size by omega)
      have hb2 := bt_get x (show 2 < x.size by omega)
      have d0 := dig_bounds (hp.1 0 (by omega))
      have d1 := dig_bounds (hp.1 1 (by omega))
      have d2 := dig_bounds (hp.1 2 (by omega))
      have e0 : IntKind.u8.wrap ((bt x 0 : Int) - 48) = (bt x 0 : Int) - 48 := IntWalk.u8_in _ (by omega)
      have e1 : IntKind.u8.wrap ((bt x 1 : Int) - 48) = (bt x 1 : Int) - 48 := IntWalk.u8_in _ (by omega)
      have e2 : IntKind.u8.wrap ((bt x 2 : Int) - 48) = (bt x 2 : Int) - 48 := IntWalk.u8_in _ (by omega)
      have HMil : Hid (milN t 3 = (bt x 0 - 48) * 100 + (bt x 1 - 48) * 10 + (bt x 2 - 48)) := by
        show _ = _
        rw [← pad_mil hp]
        simp only [milN, dv]
        omega
      have hs3 : (x.extract 3 x.size).size ≤ 9223372036854775806 := by rw [ByteArray.size_extract]; omega
      have had : AllD (x.extract 3 x.size) := fun i hi => by
        rw [ByteArray.size_extract] at hi
        rw [bt_extract x (Nat.le_refl _) (by omega)]
        exact hp.1 _ (by omega)
      have HHalf : Hid (∀ w, Calls Try.prog 66 #[.string (x.extract 3 x.size)] w (Same (.int .i64 (halfN t)) w)) := fun w => by
        rw [← pad_half hp (by omega)]
        exact half_any _ w hs3 had
      clear hd hp hs3 had
      generalize bt x 0 = c0 at *
      generalize bt x 1 = c1 at *
      generalize bt x 2 = c2 at *
      go_wp2_with fail
      go_quiet (first | (go_at_call 66; exact quiet_of_eq2 (HHalf.out _)))
      go_wp2_with fail
      go_ret2
      refine ⟨?_, _, World.drewN_drewN ..⟩
      have e9 : (((c0 - 48) * 100 + (c1 - 48) * 10 + (c2 - 48) : Nat) : Int) = ((c0 : Int) - 48) * 100 + ((c1 : Int) - 48) * 10 + ((c2 : Int) - 48) := by omega
      rw [HMil.out, e9]; rfl

end Go.Proofs.Ytmgnhekpgeahmaa
