/- near: the reference's ms of a number of seconds. -/
import Derived.Test.YtmgnhekpgeahmaaSecRef
namespace Go.Proofs.Ytmgnhekpgeahmaa
open Go.Dur Go.Fl Go.RowKit

def capN (t : ByteArray) : Nat → Nat
  | 0 => 0
  | k + 1 => if capN t k < 100000000000000 then capN t k * 10 + dv t k else capN t k

theorem cap_stay (t : ByteArray) {k m : Nat} (h : 100000000000000 ≤ capN t k) (hm : k ≤ m) : capN t m = capN t k := by
  induction m with
  | zero => obtain rfl : k = 0 := by omega
            rfl
  | succ m ih =>
    by_cases e : k = m + 1
    · subst e; rfl
    · have := ih (by omega)
      rw [capN, this, if_neg (by omega)]

theorem cap_le (t : ByteArray) (hd : AllD t) : ∀ k, k ≤ t.size → capN t k ≤ 1000000000000000 := by
  intro k
  induction k with
  | zero => intro _; simp [capN]
  | succ k ih =>
    intro hk
    have h1 := ih (by omega)
    have h2 := dig_bounds (hd k (by omega))
    rw [capN]
    unfold dv
    split <;> omega

/-- Below 10 to the power 14 the number itself. -/
theorem cap_dec (t : ByteArray) : ∀ k, (capN t k < 100000000000000 → capN t k = decN t k) ∧ (100000000000000 ≤ capN t k → 100000000000000 ≤ decN t k) := by
  intro k
  induction k with
  | zero => exact ⟨fun _ => rfl, fun h => h⟩
  | succ k ih =>
    have e : decN t (k + 1) = decN t k * 10 + dv t k := rfl
    rw [e, capN]
    by_cases h : capN t k < 100000000000000
    · rw [if_pos h, ih.1 h]
      exact ⟨fun _ => rfl, fun h => h⟩
    · rw [if_neg h]
      have := ih.2 (by omega)
      exact ⟨fun h2 => absurd h2 h, fun _ => by omega⟩

def nearN (b : Bool) (wh fr : ByteArray) : Int :=
  if b = true then -((capN wh wh.size * 1000 + milN fr 3 + (if 0 < halfN fr then 1 else 0) : Nat) : Int) else ((capN wh wh.size * 1000 + milN fr 3 + (if 0 ≤ halfN fr then 1 else 0) : Nat) : Int)

def NearRel (wh : ByteArray) (w : World) (vw vi : Value) (wr : World) : Prop := ∃ k n : Nat, k ≤ wh.size ∧ vi = .int .i64 (k : Int) ∧ vw = .int .i64 ((capN wh k : Nat) : Int) ∧ wr = w.drewN n

set_option maxHeartbeats 2000000 in
set_option maxRecDepth 100000 in
theorem near_any (b : Bool) (wh fr : ByteArray) (w : World) (hs : wh.size ≤ 9223372036854775806) (hs2 : fr.size ≤ 9223372036854775806) (hd : AllD wh) (hd2 : AllD fr) : Calls Try.prog 40 #[.bool b, .string wh, .string fr] w (SameD (.int .i64 (nearN b wh fr)) w) := by
  have hml := mil_le fr hd2 3 (by omega)
  have HT : Hid (∀ w, Calls Try.prog 57 #[.string fr] w (SameD (.tuple #[.int .i64 ((milN fr 3 : Nat) : Int), .int .i64 (halfN fr)]) w)) := fun w => thou_any fr w hs2 hd2
  have HN : Hid (nearN b wh fr = if b = true then -((capN wh wh.size * 1000 + milN fr 3 + (if 0 < halfN fr then 1 else 0) : Nat) : Int) else ((capN wh wh.size * 1000 + milN fr 3 + (if 0 ≤ halfN fr then 1 else 0) : Nat) : Int)) := rfl
  clear hd2
  generalize milN fr 3 = m at *
  generalize halfN fr = h at *
  go_enter Try.func40, Try.ntmps40
  go_wp2_with (first | (go_at_call 57; refine (HT.out _).mono ?_; rintro x w' ⟨rfl, n0, rfl⟩))
  go_loopw [9, 10] (NearRel wh w) (fun _ i _ => wh.size - (intOf i).toNat)
  case atStart => exact ⟨0, n0, by omega, rfl, rfl, rfl⟩
  case round =>
    obtain ⟨k, n, hk, rfl, rfl, rfl⟩ := hrel
    have hcl := cap_le wh hd k hk
    by_cases hgo : k < wh.size ∧ capN wh k < 100000000000000
    · obtain ⟨hlt, hcap⟩ := hgo
      have hb := bt_get wh hlt
      have hc := dig_bounds (hd k hlt)
      have HC : Hid (capN wh (k + 1) = capN wh k * 10 + (bt wh k - 48)) := by show _ = _; rw [capN, if_pos hcap]; rfl
      have hcv : IntKind.u8.wrap ((bt wh k : Int) - 48) = (bt wh k : Int) - 48 := IntWalk.u8_in _ (by omega)
      clear hd
      generalize capN wh k = c at *
      generalize bt wh k = d at *
      have hcap2 : (c : Int) < 100000000000000 := by omega
      have hcl2 : (c : Int) ≤ 1000000000000000 := by omega
      clear hcap hcl
      go_wp2_with fail
      refine ⟨⟨k + 1, n, by omega, by simp, ?_, rfl⟩, by simp [intOf]; omega⟩
      rw [HC.out]; congr 1; omega
    · have HE : Hid (capN wh wh.size = capN wh k) := by
        show _ = _
        by_cases hlt : k < wh.size
        · exact cap_stay wh (by omega) hk
        · rw [show k = wh.size by omega]
      have hor : (¬ k < wh.size) ∨ (k < wh.size ∧ decide ((capN wh k : Int) < 100000000000000) = false) := by
        by_cases q : k < wh.size
        · refine .inr ⟨q, ?_⟩
          have : ¬ capN wh k < 100000000000000 := fun h => hgo ⟨q, h⟩
          exact decide_eq_false (by omega)
        · exact .inl q
      clear hgo hd
      rw [HE.out] at HN
      clear HE
      generalize capN wh k = c at *
      have hcl2 : (c : Int) ≤ 1000000000000000 := by omega
      clear hcl
      rcases hor with hor | ⟨ho1, hor⟩
      all_goals
        cases b
        · by_cases hh : 0 ≤ h
          · have HN2 : Hid (nearN false wh fr = (m : Int) + (c : Int) * 1000 + 1) := by show _ = _; rw [HN.out, if_neg (by simp), if_pos hh]; omega
            go_wp2_with fail
            go_ret
            exact ⟨by rw [HN2.out]; rfl, _, rfl⟩
          · have HN2 : Hid (nearN false wh fr = (m : Int) + (c : Int) * 1000) := by show _ = _; rw [HN.out, if_neg (by simp), if_neg hh]; omega
            go_wp2_with fail
            go_ret
            exact ⟨by rw [HN2.out]; rfl, _, rfl⟩
        · by_cases hh : 0 < h
          · have HN2 : Hid (nearN true wh fr = -((m : Int) + (c : Int) * 1000 + 1)) := by show _ = _; rw [HN.out, if_pos rfl, if_pos hh]; omega
            go_wp2_with fail
            go_ret
            exact ⟨by rw [HN2.out]; rfl, _, rfl⟩
          · have HN2 : Hid (nearN true wh fr = -((m : Int) + (c : Int) * 1000)) := by show _ = _; rw [HN.out, if_pos rfl, if_neg hh]; omega
            go_wp2_with fail
            go_ret
            exact ⟨by rw [HN2.out]; rfl, _, rfl⟩

end Go.Proofs.Ytmgnhekpgeahmaa
