/- The marks of a date; offsets, on both sides. -/
import Derived.Test.YtmgnhekpgeahmaaDoorDatePair
import Derived.Test.YtmgnhekpgeahmaaDoorDateMom
namespace Go.Proofs.YtmgnhekpgeahmaaDoor
open Go.Dur Go.Fl Go.RowKit

def markP : Nat → Nat
  | 0 => 4
  | 1 => 7
  | 2 => 10
  | 3 => 13
  | _ => 16
def markC : Nat → Nat
  | 0 => 45
  | 1 => 45
  | 2 => 84
  | 3 => 58
  | _ => 58
/-- Do the first k marks stand at their places? -/
def marksN (s : ByteArray) : Nat → Bool
  | 0 => true
  | k + 1 => marksN s k && decide (bt s (markP k) = markC k)
theorem marks_mono (s : ByteArray) {j k : Nat} (h : j ≤ k) (hj : marksN s j = false) : marksN s k = false := by
  induction k with
  | zero => obtain rfl : j = 0 := by omega
            exact hj
  | succ k ih =>
    by_cases e : j = k + 1
    · subst e; exact hj
    · rw [marksN, ih (by omega)]; rfl

def MarkRel (s : ByteArray) (w : World) (i : Value) (wr : World) : Prop := ∃ k n : Nat, k ≤ 5 ∧ i = .int .i64 (k : Int) ∧ wr = w.drewN n ∧ marksN s k = true

theorem place_byte (k : Nat) (h : k < 5) : ((ByteArray.mk #[69, 72, 75, 78, 81])[k]'h).toNat = markP k + 65 := by
  match k, h with
  | 0, _ | 1, _ | 2, _ | 3, _ | 4, _ => rfl
theorem mark_byte (k : Nat) (h : k < 5) : ((ByteArray.mk #[45, 45, 84, 58, 58])[k]'h).toNat = markC k := by
  match k, h with
  | 0, _ | 1, _ | 2, _ | 3, _ | 4, _ => rfl
theorem markP_le (k : Nat) : markP k ≤ 16 := by unfold markP; split <;> omega

set_option maxHeartbeats 1000000 in
theorem marked_any (s : ByteArray) (w : World) (hs : s.size ≤ 9223372036854775806) (h20 : 20 ≤ s.size) : Calls Tryd.prog 47 #[.string s, .string ⟨#[69, 72, 75, 78, 81]⟩, .string ⟨#[45, 45, 84, 58, 58]⟩] w (SameD (.bool (marksN s 5)) w) := by
  go_enter Tryd.func47, Tryd.ntmps47
  go_wp2_with fail
  go_loopw [10] (MarkRel s w) (fun i _ => 5 - (intOf i).toNat)
  case atStart => exact ⟨0, 0, by omega, rfl, rfl, rfl⟩
  case round =>
    obtain ⟨k, n, hk, rfl, rfl, hm⟩ := hrel
    have Hm := Lib.hid hm
    clear hm
    by_cases hlt : k < 5
    · have hp0 := place_byte k hlt
      have hc0 := mark_byte k hlt
      have hpl := markP_le k
      have hb := bt_get s (show markP k < s.size by omega)
      have HN : Hid (marksN s (k + 1) = (marksN s k && decide (bt s (markP k) = markC k))) := rfl
      have hcv : IntKind.u8.wrap (((markP k + 65 : Nat) : Int) - 65) = (markP k : Int) := by rw [IntWalk.u8_in _ (by omega)]; omega
      have hcv2 : IntKind.u8.wrap ((markP k : Int) + 65 - 65) = (markP k : Int) := by rw [IntWalk.u8_in _ (by omega)]; omega
      by_cases he : bt s (markP k) = markC k
      · have HT : Hid (marksN s (k + 1) = true) := by show _ = _; rw [HN.out, Hm.out, decide_eq_true he]; rfl
        have hq : ((bt s (markP k) : Int) != (markC k : Int)) = false := bneq he
        clear he
        go_wp2_with fail
        go_quiet (fail)
        go_wp2_with fail
        exact ⟨⟨k + 1, _, by omega, by simp, rfl, HT.out⟩, by simp [intOf]; omega⟩
      · have HT : Hid (marksN s 5 = false) := marks_mono s (show k + 1 ≤ 5 by omega) (by rw [HN.out, decide_eq_false he]; simp)
        have hq : ((bt s (markP k) : Int) != (markC k : Int)) = true := bnne he
        clear he
        go_wp2_with fail
        go_quiet (fail)
        go_wp2_with fail
        go_ret
        exact ⟨by rw [HT.out]; rfl, _, World.drewN_drewN ..⟩
    · have hk5 : k = 5 := by omega
      subst hk5
      go_wp2_with fail
      go_ret
      exact ⟨by rw [Hm.out]; rfl, _, rfl⟩

/-- What an offset is read as: its ms, and whether it is one. -/
def zoneR (t : ByteArray) : Int × Bool :=
  if t = ⟨#[90]⟩ then (0, true) else if t.size ≠ 6 ∨ (bt t 0 ≠ 43 ∧ bt t 0 ≠ 45) ∨ bt t 3 ≠ 58 then (0, false)
  else if pairN t 1 < 0 ∨ 23 < pairN t 1 ∨ pairN t 4 < 0 ∨ 59 < pairN t 4 then (0, false)
  else (if bt t 0 = 45 then -((pairN t 1 * 60 + pairN t 4) * 60000) else (pairN t 1 * 60 + pairN t 4) * 60000, true)
def zoneV (t : ByteArray) : Value := .tuple #[.int .i64 (zoneR t).1, .bool (zoneR t).2]

theorem ne_list {t : ByteArray} {l : List UInt8} (h : t ≠ ⟨l.toArray⟩) : (t.toList == l) = false := by
  rw [Bool.eq_false_iff, ne_eq, beq_iff_eq, ByteArray.toList_eq]
  intro e
  apply h
  obtain ⟨⟨m⟩⟩ := t
  simp at e
  subst e
  rfl

set_option maxHeartbeats 2000000 in
theorem zone_any (t : ByteArray) (w : World) (hs : t.size ≤ 9223372036854775806) : Calls Tryd.prog 49 #[.string t] w (SameD (zoneV t) w) := by
  by_cases hz : t = ⟨#[90]⟩
  · have HV : Hid (zoneV t = .tuple #[.int .i64 0, .bool true]) := by show _ = _; unfold zoneV zoneR; rw [if_pos hz]
    rw [HV.out]
    clear HV
    subst hz
    go_enter Tryd.func49, Tryd.ntmps49
    go_wp2_with fail
    go_ret2
    exact ⟨rfl, 0, rfl⟩
  · have hnz := ne_list (l := [90]) hz
    have HV : Hid (zoneR t = if t.size ≠ 6 ∨ (bt t 0 ≠ 43 ∧ bt t 0 ≠ 45) ∨ bt t 3 ≠ 58 then (0, false)
  else if pairN t 1 < 0 ∨ 23 < pairN t 1 ∨ pairN t 4 < 0 ∨ 59 < pairN t 4 then (0, false)
  else (if bt t 0 = 45 then -((pairN t 1 * 60 + pairN t 4) * 60000) else (pairN t 1 * 60 + pairN t 4) * 60000, true)) := by show _ = _; unfold zoneR; rw [if_neg hz]
    clear hz
    by_cases h6 : t.size = 6
    · have q6 : ((t.size : Int) != 6) = false := bneq h6
      have hlt : 0 < t.size := by omega
      have hlt3 : 3 < t.size := by omega
      have hb0 := bt_get t hlt
      have hb3 := bt_get t hlt3
      have HP1 : Hid (∀ w, Calls Tryd.prog 48 #[.string t, .int .i64 1] w (SameD (.int .i64 (pairN t 1)) w)) := fun w => pair_any t 1 w (by omega)
      have HP4 : Hid (∀ w, Calls Tryd.prog 48 #[.string t, .int .i64 4] w (SameD (.int .i64 (pairN t 4)) w)) := fun w => pair_any t 4 w (by omega)
      have r1 := pair_ge t 1
      have r4 := pair_ge t 4
      have key : (bt t 0 ≠ 43 ∧ bt t 0 ≠ 45) ∨ (bt t 0 = 43) ∨ (bt t 0 = 45) := by omega
      rcases key with ⟨k1, k2⟩ | k1 | k1
      · have HZ : Hid (zoneV t = .tuple #[.int .i64 0, .bool false]) := by show _ = _; unfold zoneV; rw [HV.out, if_pos (.inr (.inl ⟨k1, k2⟩))]
        have q1 : ((bt t 0 : Int) != 43) = true := bnne k1
        have q2 : ((bt t 0 : Int) != 45) = true := bnne k2
        clear HV k1 k2 h6
        go_enter Tryd.func49, Tryd.ntmps49
        go_wp2_with fail
        go_ret2
        exact ⟨by rw [HZ.out]; rfl, 0, rfl⟩
      · have q1 : ((bt t 0 : Int) != 43) = false := bneq k1
        have q5 : ((bt t 0 : Int) == 45) = false := neb (c := bt t 0) (k := 45) (by omega)
        by_cases h58 : bt t 3 = 58
        · have q3 : ((bt t 3 : Int) != 58) = false := bneq h58
          have HV2 : Hid (zoneR t = if pairN t 1 < 0 ∨ 23 < pairN t 1 ∨ pairN t 4 < 0 ∨ 59 < pairN t 4 then (0, false) else ((pairN t 1 * 60 + pairN t 4) * 60000, true)) := by
            show _ = _
            rw [HV.out, if_neg (show ¬ (t.size ≠ 6 ∨ (bt t 0 ≠ 43 ∧ bt t 0 ≠ 45) ∨ bt t 3 ≠ 58) by omega), if_neg (show ¬ bt t 0 = 45 by omega)]
          clear HV h58 k1 h6
          generalize pairN t 1 = H at *
          generalize pairN t 4 = M at *
          by_cases hH : 0 ≤ H ∧ H ≤ 23
          · by_cases hM : 0 ≤ M ∧ M ≤ 59
            · have HZ : Hid (zoneV t = .tuple #[.int .i64 ((H * 60 + M) * 60000), .bool true]) := by show _ = _; unfold zoneV; rw [HV2.out, if_neg (by omega)]
              clear HV2
              have HW1 : Hid (∀ w, Calls Tryd.prog 36 #[.int .i64 H, .int .i64 0, .int .i64 23] w fun e w2 => e = .returned (.bool true) ∧ w = w2) := fun w => within_yes H 0 23 w hH
              have HW4 : Hid (∀ w, Calls Tryd.prog 36 #[.int .i64 M, .int .i64 0, .int .i64 59] w fun e w2 => e = .returned (.bool true) ∧ w = w2) := fun w => within_yes M 0 59 w hM
              go_enter Tryd.func49, Tryd.ntmps49
              go_wp2_with (first | (go_at_call 48; (with_reducible refine (HP1.out _).mono ?_); rintro e w' ⟨rfl, n1, rfl⟩) | (go_at_call 48; (with_reducible refine (HP4.out _).mono ?_); rintro e w' ⟨rfl, n2, rfl⟩) | (go_at_call 36; (with_reducible refine (HW1.out _).mono ?_); rintro e w' ⟨rfl, rfl⟩) | (go_at_call 36; (with_reducible refine (HW4.out _).mono ?_); rintro e w' ⟨rfl, rfl⟩))
              go_ret2
              exact ⟨by rw [HZ.out]; rfl, _, rfl⟩
            · have HZ : Hid (zoneV t = .tuple #[.int .i64 0, .bool false]) := by show _ = _; unfold zoneV; rw [HV2.out, if_pos (by omega)]
              clear HV2
              have HW1 : Hid (∀ w, Calls Tryd.prog 36 #[.int .i64 H, .int .i64 0, .int .i64 23] w fun e w2 => e = .returned (.bool true) ∧ w = w2) := fun w => within_yes H 0 23 w hH
              have HW4 : Hid (∀ w, Calls Tryd.prog 36 #[.int .i64 M, .int .i64 0, .int .i64 59] w fun e w2 => e = .returned (.bool false) ∧ w = w2) := fun w => within_no M 0 59 w (by omega)
              skip
              go_enter Tryd.func49, Tryd.ntmps49
              go_wp2_with (first | (go_at_call 48; (with_reducible refine (HP1.out _).mono ?_); rintro e w' ⟨rfl, n1, rfl⟩) | (go_at_call 48; (with_reducible refine (HP4.out _).mono ?_); rintro e w' ⟨rfl, n2, rfl⟩) | (go_at_call 36; (with_reducible refine (HW1.out _).mono ?_); rintro e w' ⟨rfl, rfl⟩) | (go_at_call 36; (with_reducible refine (HW4.out _).mono ?_); rintro e w' ⟨rfl, rfl⟩))
              go_ret2
              exact ⟨by rw [HZ.out]; rfl, _, rfl⟩
          · have HZ : Hid (zoneV t = .tuple #[.int .i64 0, .bool false]) := by show _ = _; unfold zoneV; rw [HV2.out, if_pos (by omega)]
            clear HV2
            have HW1 : Hid (∀ w, Calls Tryd.prog 36 #[.int .i64 H, .int .i64 0, .int .i64 23] w fun e w2 => e = .returned (.bool false) ∧ w = w2) := fun w => within_no H 0 23 w (by omega)
            have HW4 := HW1
            go_enter Tryd.func49, Tryd.ntmps49
            go_wp2_with (first | (go_at_call 48; (with_reducible refine (HP1.out _).mono ?_); rintro e w' ⟨rfl, n1, rfl⟩) | (go_at_call 48; (with_reducible refine (HP4.out _).mono ?_); rintro e w' ⟨rfl, n2, rfl⟩) | (go_at_call 36; (with_reducible refine (HW1.out _).mono ?_); rintro e w' ⟨rfl, rfl⟩) | (go_at_call 36; (with_reducible refine (HW4.out _).mono ?_); rintro e w' ⟨rfl, rfl⟩))
            go_ret2
            exact ⟨by rw [HZ.out]; rfl, _, rfl⟩
        · have HZ : Hid (zoneV t = .tuple #[.int .i64 0, .bool false]) := by show _ = _; unfold zoneV; rw [HV.out, if_pos (.inr (.inr h58))]
          have q3 : ((bt t 3 : Int) != 58) = true := bnne h58
          clear HV h58 k1 h6
          go_enter Tryd.func49, Tryd.ntmps49
          go_wp2_with fail
          go_ret2
          exact ⟨by rw [HZ.out]; rfl, 0, rfl⟩
      · have q1 : ((bt t 0 : Int) != 43) = true := bnne (c := bt t 0) (k := 43) (by omega)
        have q2 : ((bt t 0 : Int) != 45) = false := bneq k1
        have q5 : ((bt t 0 : Int) == 45) = true := eqb k1
        by_cases h58 : bt t 3 = 58
        · have q3 : ((bt t 3 : Int) != 58) = false := bneq h58
          have HV2 : Hid (zoneR t = if pairN t 1 < 0 ∨ 23 < pairN t 1 ∨ pairN t 4 < 0 ∨ 59 < pairN t 4 then (0, false) else (-((pairN t 1 * 60 + pairN t 4) * 60000), true)) := by
            show _ = _
            rw [HV.out, if_neg (show ¬ (t.size ≠ 6 ∨ (bt t 0 ≠ 43 ∧ bt t 0 ≠ 45) ∨ bt t 3 ≠ 58) by omega), if_pos k1]
          clear HV h58 k1 h6
          generalize pairN t 1 = H at *
          generalize pairN t 4 = M at *
          by_cases hH : 0 ≤ H ∧ H ≤ 23
          · by_cases hM : 0 ≤ M ∧ M ≤ 59
            · have HZ : Hid (zoneV t = .tuple #[.int .i64 (-((H * 60 + M) * 60000)), .bool true]) := by show _ = _; unfold zoneV; rw [HV2.out, if_neg (by omega)]
              clear HV2
              have HW1 : Hid (∀ w, Calls Tryd.prog 36 #[.int .i64 H, .int .i64 0, .int .i64 23] w fun e w2 => e = .returned (.bool true) ∧ w = w2) := fun w => within_yes H 0 23 w hH
              have HW4 : Hid (∀ w, Calls Tryd.prog 36 #[.int .i64 M, .int .i64 0, .int .i64 59] w fun e w2 => e = .returned (.bool true) ∧ w = w2) := fun w => within_yes M 0 59 w hM
              go_enter Tryd.func49, Tryd.ntmps49
              go_wp2_with (first | (go_at_call 48; (with_reducible refine (HP1.out _).mono ?_); rintro e w' ⟨rfl, n1, rfl⟩) | (go_at_call 48; (with_reducible refine (HP4.out _).mono ?_); rintro e w' ⟨rfl, n2, rfl⟩) | (go_at_call 36; (with_reducible refine (HW1.out _).mono ?_); rintro e w' ⟨rfl, rfl⟩) | (go_at_call 36; (with_reducible refine (HW4.out _).mono ?_); rintro e w' ⟨rfl, rfl⟩))
              go_ret2
              exact ⟨by rw [HZ.out]; rfl, _, rfl⟩
            · have HZ : Hid (zoneV t = .tuple #[.int .i64 0, .bool false]) := by show _ = _; unfold zoneV; rw [HV2.out, if_pos (by omega)]
              clear HV2
              have HW1 : Hid (∀ w, Calls Tryd.prog 36 #[.int .i64 H, .int .i64 0, .int .i64 23] w fun e w2 => e = .returned (.bool true) ∧ w = w2) := fun w => within_yes H 0 23 w hH
              have HW4 : Hid (∀ w, Calls Tryd.prog 36 #[.int .i64 M, .int .i64 0, .int .i64 59] w fun e w2 => e = .returned (.bool false) ∧ w = w2) := fun w => within_no M 0 59 w (by omega)
              skip
              go_enter Tryd.func49, Tryd.ntmps49
              go_wp2_with (first | (go_at_call 48; (with_reducible refine (HP1.out _).mono ?_); rintro e w' ⟨rfl, n1, rfl⟩) | (go_at_call 48; (with_reducible refine (HP4.out _).mono ?_); rintro e w' ⟨rfl, n2, rfl⟩) | (go_at_call 36; (with_reducible refine (HW1.out _).mono ?_); rintro e w' ⟨rfl, rfl⟩) | (go_at_call 36; (with_reducible refine (HW4.out _).mono ?_); rintro e w' ⟨rfl, rfl⟩))
              go_ret2
              exact ⟨by rw [HZ.out]; rfl, _, rfl⟩
          · have HZ : Hid (zoneV t = .tuple #[.int .i64 0, .bool false]) := by show _ = _; unfold zoneV; rw [HV2.out, if_pos (by omega)]
            clear HV2
            have HW1 : Hid (∀ w, Calls Tryd.prog 36 #[.int .i64 H, .int .i64 0, .int .i64 23] w fun e w2 => e = .returned (.bool false) ∧ w = w2) := fun w => within_no H 0 23 w (by omega)
            have HW4 := HW1
            go_enter Tryd.func49, Tryd.ntmps49
            go_wp2_with (first | (go_at_call 48; (with_reducible refine (HP1.out _).mono ?_); rintro e w' ⟨rfl, n1, rfl⟩) | (go_at_call 48; (with_reducible refine (HP4.out _).mono ?_); rintro e w' ⟨rfl, n2, rfl⟩) | (go_at_call 36; (with_reducible refine (HW1.out _).mono ?_); rintro e w' ⟨rfl, rfl⟩) | (go_at_call 36; (with_reducible refine (HW4.out _).mono ?_); rintro e w' ⟨rfl, rfl⟩))
            go_ret2
            exact ⟨by rw [HZ.out]; rfl, _, rfl⟩
        · have HZ : Hid (zoneV t = .tuple #[.int .i64 0, .bool false]) := by show _ = _; unfold zoneV; rw [HV.out, if_pos (.inr (.inr h58))]
          have q3 : ((bt t 3 : Int) != 58) = true := bnne h58
          clear HV h58 k1 h6
          go_enter Tryd.func49, Tryd.ntmps49
          go_wp2_with fail
          go_ret2
          exact ⟨by rw [HZ.out]; rfl, 0, rfl⟩
    · have HZ : Hid (zoneV t = .tuple #[.int .i64 0, .bool false]) := by show _ = _; unfold zoneV; rw [HV.out, if_pos (.inl h6)]
      have q6 : ((t.size : Int) != 6) = true := bnne h6
      clear HV h6
      go_enter Tryd.func49, Tryd.ntmps49
      go_wp2_with fail
      go_ret2
      exact ⟨by rw [HZ.out]; rfl, 0, rfl⟩

end Go.Proofs.YtmgnhekpgeahmaaDoor
