/- lex.IsLabel, weirref11.IsLabel: may a text be a label's name? lex.IsLabel, weirref11.IsLabel: may a text be a label's name? -/
import Derived.Test.YtmmfjknnbkcniaaGreatUtfAll
namespace Go.Utf
def isLt (c : Nat) : Bool := (decide (97 ≤ c) && decide (c ≤ 122)) || ((decide (65 ≤ c) && decide (c ≤ 90)) || c == 95)
def isDg (c : Nat) : Bool := decide (48 ≤ c) && decide (c ≤ 57)
/-- Behind the letters and digits from i on. -/
def nmF (s : ByteArray) : Nat → Nat → Nat
  | 0, i => i
  | f + 1, i => if i < s.size ∧ (isLt (bt s i) || isDg (bt s i)) = true then nmF s f (i + 1) else i
def labB (s : ByteArray) : Bool := decide (0 < s.size) && (isLt (bt s 0) && decide (nmF s s.size 0 = s.size))
theorem nmF_stop (s : ByteArray) (f i : Nat) (h : ¬ (i < s.size ∧ (isLt (bt s i) || isDg (bt s i)) = true)) : nmF s f i = i := by
  cases f with
  | zero => rfl
  | succ f => unfold nmF; rw [if_neg h]
theorem nmF_step (s : ByteArray) (f i : Nat) (h : i < s.size ∧ (isLt (bt s i) || isDg (bt s i)) = true) : nmF s (f + 1) i = nmF s f (i + 1) := by
  rw [nmF, if_pos h]
end Go.Utf
namespace Go.Proofs.YtmmfjknnbkcniaaGreat
open Go.Fl Go.Rel Go.RowKit Go.Utf
set_option linter.unusedSimpArgs false
set_option linter.unusedVariables false

theorem letter_any (c : Nat) (w : World) : Calls Tryz.prog 57 #[.int .u8 (c : Int)] w fun e w' => e = .returned (.bool (isLt c)) ∧ w = w' := by
  have H : isLt c = ((decide ((97 : Int) ≤ (c : Int)) && decide ((c : Int) ≤ 122)) || ((decide ((65 : Int) ≤ (c : Int)) && decide ((c : Int) ≤ 90)) || ((c : Int) == 95))) := by
    unfold isLt; rw [Bool.eq_iff_iff]; simp only [Bool.or_eq_true, Bool.and_eq_true, decide_eq_true_eq, beq_iff_eq]; omega
  rw [H]
  clear H
  by_cases h1 : (97 : Int) ≤ c <;> by_cases h2 : (c : Int) ≤ 122 <;> by_cases h3 : (65 : Int) ≤ c <;> by_cases h4 : (c : Int) ≤ 90
  all_goals
    cases h5 : ((c : Int) == 95)
    all_goals
      go_enter Tryz.func57, Tryz.ntmps57
      go_wp2_with fail
      go_ret
      exact ⟨by simp [h1, h2, h3, h4], rfl⟩
theorem ldigit_any (c : Nat) (w : World) : Calls Tryz.prog 90 #[.int .u8 (c : Int)] w fun e w' => e = .returned (.bool (isDg c)) ∧ w = w' := by
  have H : isDg c = (decide ((48 : Int) ≤ (c : Int)) && decide ((c : Int) ≤ 57)) := by
    unfold isDg; rw [Bool.eq_iff_iff]; simp only [Bool.and_eq_true, decide_eq_true_eq]; omega
  rw [H]
  clear H
  by_cases h1 : (48 : Int) ≤ c <;> by_cases h2 : (c : Int) ≤ 57
  all_goals
    go_enter Tryz.func90, Tryz.ntmps90
    go_wp2_with fail
    go_ret
    exact ⟨by simp [h1, h2], rfl⟩
theorem rletter_any (c : Nat) (w : World) : Calls Tryz.prog 76 #[.int .u8 (c : Int)] w fun e w' => e = .returned (.bool (isLt c)) ∧ w = w' := by
  have H : isLt c = (((c : Int) == 95) || ((decide ((97 : Int) ≤ (c : Int)) && decide ((c : Int) ≤ 122)) || (decide ((65 : Int) ≤ (c : Int)) && decide ((c : Int) ≤ 90)))) := by
    unfold isLt; rw [Bool.eq_iff_iff]; simp only [Bool.or_eq_true, Bool.and_eq_true, decide_eq_true_eq, beq_iff_eq]; omega
  rw [H]
  clear H
  by_cases h1 : (97 : Int) ≤ c <;> by_cases h2 : (c : Int) ≤ 122 <;> by_cases h3 : (65 : Int) ≤ c <;> by_cases h4 : (c : Int) ≤ 90
  all_goals
    cases h5 : ((c : Int) == 95)
    all_goals
      go_enter Tryz.func76, Tryz.ntmps76
      go_wp2_with fail
      go_ret
      exact ⟨by simp [h1, h2, h3, h4], rfl⟩
theorem rdigit_any (c : Nat) (w : World) : Calls Tryz.prog 77 #[.int .u8 (c : Int)] w fun e w' => e = .returned (.bool (isDg c)) ∧ w = w' := by
  have H : isDg c = (decide ((48 : Int) ≤ (c : Int)) && decide ((c : Int) ≤ 57)) := by
    unfold isDg; rw [Bool.eq_iff_iff]; simp only [Bool.and_eq_true, decide_eq_true_eq]; omega
  rw [H]
  clear H
  by_cases h1 : (48 : Int) ≤ c <;> by_cases h2 : (c : Int) ≤ 57
  all_goals
    go_enter Tryz.func77, Tryz.ntmps77
    go_wp2_with fail
    go_ret
    exact ⟨by simp [h1, h2], rfl⟩

def NameRel (s : ByteArray) (w : World) (v : Value) (wr : World) : Prop := ∃ k f : Nat, v = .int .i64 (k : Int) ∧ k ≤ s.size ∧ nmF s f k = nmF s s.size 0 ∧ s.size ≤ k + f ∧ w = wr

set_option maxRecDepth 100000 in
theorem nameend_any (s : ByteArray) (w : World) (hs : s.size ≤ 140737488355328) : Calls Tryz.prog 58 #[.string s, .int .i64 0, .bool false] w fun e w' => e = .returned (.int .i64 (nmF s s.size 0 : Nat)) ∧ w = w' := by
  have p3 : (s.size : Int) ≤ 140737488355328 := by omega
  clear hs
  go_enter Tryz.func58, Tryz.ntmps58
  go_wp2_with fail
  go_loopw [1] (NameRel s w) (fun v _ => s.size - (intOf v).toNat)
  case atStart => exact ⟨0, s.size, rfl, by omega, rfl, by omega, rfl⟩
  case round =>
    obtain ⟨k, f, rfl, hle, hk, hf, rfl⟩ := hrel
    have k1 : (0 : Int) ≤ (k : Int) := by omega
    have k2 : (k : Int) ≤ (s.size : Int) := by omega
    by_cases hlt : k < s.size
    · have hb := bt_get s hlt
      obtain ⟨f', rfl⟩ : ∃ f', f = f' + 1 := ⟨f - 1, by omega⟩
      by_cases hc : (isLt (bt s k) || isDg (bt s k)) = true
      · have HK : Hid (nmF s f' (k + 1) = nmF s s.size 0) := Lib.hid (by rw [← hk, nmF_step s f' k ⟨hlt, hc⟩])
        have HF : Hid (s.size ≤ k + 1 + f') := Lib.hid (by omega)
        cases h1 : isLt (bt s k)
        · have h2 : isDg (bt s k) = true := by rw [h1] at hc; simpa using hc
          clear hk hc hf
          go_wp2_with (first | (go_at_call 57; refine (letter_any _ _).mono ?_; rintro e w' ⟨rfl, rfl⟩; rw [h1]) | (go_at_call 90; refine (ldigit_any _ _).mono ?_; rintro e w' ⟨rfl, rfl⟩; rw [h2]))
          go_roundw
          case rel => exact ⟨k + 1, f', by first | rfl | (congr 1; omega), by omega, HK.out, HF.out, rfl⟩
          case measure => simp [intOf]; omega
        · clear hk hc hf
          go_wp2_with (first | (go_at_call 57; refine (letter_any _ _).mono ?_; rintro e w' ⟨rfl, rfl⟩; rw [h1]))
          go_roundw
          case rel => exact ⟨k + 1, f', by first | rfl | (congr 1; omega), by omega, HK.out, HF.out, rfl⟩
          case measure => simp [intOf]; omega
      · have HK : Hid (nmF s s.size 0 = k) := Lib.hid (by rw [← hk]; exact nmF_stop s _ k (fun h => hc h.2))
        have h1 : isLt (bt s k) = false := by cases h : isLt (bt s k) <;> simp_all
        have h2 : isDg (bt s k) = false := by cases h : isDg (bt s k) <;> simp_all
        clear hk hc hf
        go_wp2_with (first | (go_at_call 57; refine (letter_any _ _).mono ?_; rintro e w' ⟨rfl, rfl⟩; rw [h1]) | (go_at_call 90; refine (ldigit_any _ _).mono ?_; rintro e w' ⟨rfl, rfl⟩; rw [h2]))
        go_ret
        exact ⟨by rw [HK.out]; rfl, rfl⟩
    · have HK : Hid (nmF s s.size 0 = k) := Lib.hid (by rw [← hk]; exact nmF_stop s _ k (fun h => hlt h.1))
      clear hk hf
      go_wp2_with fail
      go_ret
      exact ⟨by rw [HK.out]; rfl, rfl⟩

end Go.Proofs.YtmmfjknnbkcniaaGreat

namespace Go.Utf
theorem empty_iff (s : ByteArray) : s.toList.isEmpty = decide (s.size = 0) := by
  rw [ByteArray.toList_eq]
  have : s.size = s.data.toList.length := by simp
  rw [this]
  cases s.data.toList <;> simp
theorem nmF_all (s : ByteArray) : ∀ f i, s.size ≤ i + f → i ≤ s.size → (nmF s f i = s.size ↔ ∀ j, i ≤ j → j < s.size → (isLt (bt s j) || isDg (bt s j)) = true)
  | 0, i, h, hle => by
    simp only [nmF]
    constructor
    · intro _ j h1 h2; omega
    · intro _; omega
  | f + 1, i, h, hle => by
    by_cases hc : i < s.size ∧ (isLt (bt s i) || isDg (bt s i)) = true
    · rw [nmF_step s f i hc, nmF_all s f (i + 1) (by omega) (by omega)]
      constructor
      · intro hh j h1 h2
        by_cases hj : j = i
        · rw [hj]; exact hc.2
        · exact hh j (by omega) h2
      · intro hh j h1 h2; exact hh j (by omega) h2
    · rw [nmF_stop s _ i hc]
      constructor
      · intro hh j h1 h2; omega
      · intro hh
        by_cases hi : i < s.size
        · exact absurd ⟨hi, hh i (Nat.le_refl _) hi⟩ hc
        · omega
end Go.Utf
namespace Go.Proofs.YtmmfjknnbkcniaaGreat
open Go.Fl Go.Rel Go.RowKit Go.Utf
set_option linter.unusedSimpArgs false
set_option linter.unusedVariables false

set_option maxRecDepth 100000 in
theorem islabel_any (s : ByteArray) (w : World) (hs : s.size ≤ 140737488355328) : Calls Tryz.prog 43 #[.string s] w fun e w' => e = .returned (.bool (labB s)) ∧ w = w' := by
  have HN := Lib.hid (fun w => nameend_any s w hs)
  have he := empty_iff s
  by_cases h0 : s.size = 0
  · rw [decide_eq_true h0] at he
    have hl : labB s = false := by unfold labB; rw [decide_eq_false (by omega)]; rfl
    rw [hl]
    clear hl hs h0
    go_enter Tryz.func43, Tryz.ntmps43
    go_wp2_with fail
    go_ret
    exact ⟨rfl, rfl⟩
  rw [decide_eq_false h0] at he
  have hp : 0 < s.size := by omega
  have hb := bt_get s hp
  have hl : labB s = (isLt (bt s 0) && decide (nmF s s.size 0 = s.size)) := by unfold labB; rw [decide_eq_true hp]; rfl
  rw [hl]
  have d1 : ((nmF s s.size 0 : Nat) : Int) = ((s.size : Nat) : Int) ↔ nmF s s.size 0 = s.size := Int.natCast_inj
  have d2 : (((nmF s s.size 0 : Nat) : Int) == (s.size : Int)) = decide (nmF s s.size 0 = s.size) := by
    rw [Bool.eq_iff_iff, beq_iff_eq, decide_eq_true_iff]; exact d1
  obtain ⟨N, hN⟩ : ∃ N : Nat, N = nmF s s.size 0 := ⟨_, rfl⟩
  rw [← hN] at HN d2 ⊢
  cases h1 : isLt (bt s 0)
  · clear hl hs h0 d1 d2 hN
    go_enter Tryz.func43, Tryz.ntmps43
    go_wp2_with (go_at_call 57; refine (letter_any _ _).mono ?_; rintro e w' ⟨rfl, rfl⟩; rw [h1])
    go_ret
    exact ⟨rfl, rfl⟩
  · cases h2 : decide (N = s.size)
    · rw [h2] at d2
      clear hl hs h0 d1 hN h2
      go_enter Tryz.func43, Tryz.ntmps43
      go_wp2_with (first | (go_at_call 57; refine (letter_any _ _).mono ?_; rintro e w' ⟨rfl, rfl⟩; rw [h1]) | (go_at_call 58; refine (HN.out _).mono ?_; rintro e w' ⟨rfl, rfl⟩))
      go_ret
      exact ⟨rfl, rfl⟩
    · rw [h2] at d2
      clear hl hs h0 d1 hN h2
      go_enter Tryz.func43, Tryz.ntmps43
      go_wp2_with (first | (go_at_call 57; refine (letter_any _ _).mono ?_; rintro e w' ⟨rfl, rfl⟩; rw [h1]) | (go_at_call 58; refine (HN.out _).mono ?_; rintro e w' ⟨rfl, rfl⟩))
      go_ret
      exact ⟨rfl, rfl⟩

def RlabRel (s : ByteArray) (w : World) (v : Value) (wr : World) : Prop := ∃ k : Nat, v = .int .i64 (k : Int) ∧ k ≤ s.size ∧ (0 < k → isLt (bt s 0) = true) ∧ (∀ j, j < k → (isLt (bt s j) || isDg (bt s j)) = true) ∧ w = wr

set_option maxRecDepth 100000 in
theorem rislabel_any (s : ByteArray) (w : World) (hs : s.size ≤ 140737488355328) : Calls Tryz.prog 52 #[.string s] w fun e w' => e = .returned (.bool (labB s)) ∧ w = w' := by
  have he := empty_iff s
  have p3 : (s.size : Int) ≤ 140737488355328 := by omega
  have HALL := Lib.hid (nmF_all s s.size 0 (by omega) (by omega))
  clear hs
  go_enter Tryz.func52, Tryz.ntmps52
  go_wp2_with fail
  go_loopw [3] (RlabRel s w) (fun v _ => s.size - (intOf v).toNat)
  case atStart => exact ⟨0, rfl, by omega, fun h => by omega, fun j h => by omega, rfl⟩
  case round =>
    obtain ⟨k, rfl, hle, hf, hall, rfl⟩ := hrel
    have k1 : (0 : Int) ≤ (k : Int) := by omega
    have k2 : (k : Int) ≤ (s.size : Int) := by omega
    by_cases hlt : k < s.size
    · have hb := bt_get s hlt
      cases h1 : isLt (bt s k)
      · by_cases hk0 : k = 0
        · have dk : ((k : Int) == 0) = true := by simp; omega
          have HE : Hid (labB s = false) := Lib.hid (by unfold labB; rw [show isLt (bt s 0) = false by rw [← hk0]; exact h1]; simp)
          clear hf hall hk0
          go_wp2_with (first | (go_at_call 76; refine (rletter_any _ _).mono ?_; rintro e w' ⟨rfl, rfl⟩; rw [h1]))
          go_ret
          exact ⟨by rw [HE.out]; rfl, rfl⟩
        · have dk : ((k : Int) == 0) = false := by simp; omega
          cases h2 : isDg (bt s k)
          · have HE : Hid (labB s = false) := Lib.hid (by
              unfold labB
              have : nmF s s.size 0 ≠ s.size := fun hh => by
                have := HALL.out.1 hh k (by omega) hlt
                rw [h1, h2] at this; cases this
              rw [decide_eq_false this]; simp)
            clear hf hall hk0
            go_wp2_with (first | (go_at_call 76; refine (rletter_any _ _).mono ?_; rintro e w' ⟨rfl, rfl⟩; rw [h1]) | (go_at_call 77; refine (rdigit_any _ _).mono ?_; rintro e w' ⟨rfl, rfl⟩; rw [h2]))
            go_ret
            exact ⟨by rw [HE.out]; rfl, rfl⟩
          · have HF := Lib.hid (hf (by omega))
            have HA := Lib.hid hall
            have H12 : Hid ((isLt (bt s k) || isDg (bt s k)) = true) := Lib.hid (by rw [h2]; simp)
            clear hf hall hk0
            go_wp2_with (first | (go_at_call 76; refine (rletter_any _ _).mono ?_; rintro e w' ⟨rfl, rfl⟩; rw [h1]) | (go_at_call 77; refine (rdigit_any _ _).mono ?_; rintro e w' ⟨rfl, rfl⟩; rw [h2]))
            go_roundw
            case rel =>
              refine ⟨k + 1, by first | rfl | (congr 1; omega), by omega, fun _ => HF.out, fun j hj => ?_, rfl⟩
              by_cases hjk : j = k
              · rw [hjk]; exact H12.out
              · exact HA.out j (by omega)
            case measure => simp [intOf]; omega
      · have HF : Hid (isLt (bt s 0) = true) := Lib.hid (by
          by_cases hk0 : k = 0
          · rw [← hk0]; exact h1
          · exact hf (by omega))
        have HA := Lib.hid hall
        have H12 : Hid ((isLt (bt s k) || isDg (bt s k)) = true) := Lib.hid (by rw [h1]; simp)
        clear hf hall
        go_wp2_with (first | (go_at_call 76; refine (rletter_any _ _).mono ?_; rintro e w' ⟨rfl, rfl⟩; rw [h1]))
        go_roundw
        case rel =>
          refine ⟨k + 1, by first | rfl | (congr 1; omega), by omega, fun _ => HF.out, fun j hj => ?_, rfl⟩
          by_cases hjk : j = k
          · rw [hjk]; exact H12.out
          · exact HA.out j (by omega)
        case measure => simp [intOf]; omega
    · obtain rfl : k = s.size := by omega
      by_cases h0 : s.size = 0
      · rw [decide_eq_true h0] at he
        have HE : Hid (labB s = false) := Lib.hid (by unfold labB; rw [decide_eq_false (by omega)]; rfl)
        clear hf hall h0
        go_wp2_with fail
        go_ret
        exact ⟨by rw [HE.out]; rfl, rfl⟩
      · rw [decide_eq_false h0] at he
        have HE : Hid (labB s = true) := Lib.hid (by
          unfold labB
          rw [decide_eq_true (by omega), hf (by omega), decide_eq_true (HALL.out.2 (fun j _ h => hall j h))]; rfl)
        clear hf hall h0
        go_wp2_with fail
        go_ret
        exact ⟨by rw [HE.out]; rfl, rfl⟩

end Go.Proofs.YtmmfjknnbkcniaaGreat
