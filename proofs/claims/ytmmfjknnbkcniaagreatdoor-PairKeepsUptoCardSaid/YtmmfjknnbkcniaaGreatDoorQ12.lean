/- lex.IsLabel, weirref11.IsLabel: may a text be a label's name? lex.IsLabel, weirref11.IsLabel: may a text be a label's name? -/
import Derived.Test.YtmmfjknnbkcniaaGreatDoorQ11
namespace Go.Utf
def isLt (c : Nat) : Bool := (decide (97 ≤ c) && decide (c ≤ 122)) || ((decide (65 ≤ c) && decide (c ≤ 90)) || c == 95)
def isDg (c : Nat) : Bool := decide (48 ≤ c) && decide (c ≤ 57)
/-- Behind the letters and digits from i on. -/
def nmF (s : ByteArray) : Nat → Nat → Nat
  | 0, i => i
  | f + 1, i => if i < s.size ∧ (isLt (bt s i) || isDg (bt s i)) = true then nmF s f (i + 1) else i
def labB (s : ByteArray) : Bool := decide (0 < s.size) && (isLt (bt s 0) && decide (nmF s s.size 0 = s.size))
theorem nmF_stop (s : ByteArray) (f i : Nat) (h : ¬ (i < s.size ∧ (isLt (bt s i) || isDg (bt s i)) = true)) : nmF s f i = i := by
  cases f with
  | zero => rfl
  | succ f => unfold nmF; rw [if_neg h]
theorem nmF_step (s : ByteArray) (f i : Nat) (h : i < s.size ∧ (isLt (bt s i) || isDg (bt s i)) = true) : nmF s (f + 1) i = nmF s f (i + 1) := by
  rw [nmF, if_pos h]
end Go.Utf
namespace Go.Proofs.YtmmfjknnbkcniaaGreatDoor
open Go.Fl Go.Rel Go.RowKit Go.Utf
set_option linter.unusedSimpArgs false
set_option linter.unusedVariables false

theorem letter_any (c : Nat) (w : World) : Calls Tryz.prog 87 #[.int .u8 (c : Int)] w fun e w' => e = .returned (.bool (isLt c)) ∧ w = w' := by
  have H : isLt c = ((decide ((97 : Int) ≤ (c : Int)) && decide ((c : Int) ≤ 122)) || ((decide ((65 : Int) ≤ (c : Int)) && decide ((c : Int) ≤ 90)) || ((c : Int) == 95))) := by
    unfold isLt; rw [Bool.eq_iff_iff]; simp only [Bool.or_eq_true, Bool.and_eq_true, decide_eq_true_eq, beq_iff_eq]; omega
  rw [H]
  clear H
  by_cases h1 : (97 : Int) ≤ c <;> by_cases h2 : (c : Int) ≤ 122 <;> by_cases h3 : (65 : Int) ≤ c <;> by_cases h4 : (c : Int) ≤ 90
  all_goals
    cases h5 : ((c : Int) == 95)
    all_goals
      go_enter Tryz.func87, Tryz.ntmps87
      go_wp2_with fail
      go_ret
      exact ⟨by simp [h1, h2, h3, h4], rfl⟩
theorem ldigit_any (c : Nat) (w : World) : Calls Tryz.prog 121 #[.int .u8 (c : Int)] w fun e w' => e = .returned (.bool (isDg c)) ∧ w = w' := by
  have H : isDg c = (decide ((48 : Int) ≤ (c : Int)) && decide ((c : Int) ≤ 57)) := by
    unfold isDg; rw [Bool.eq_iff_iff]; simp only [Bool.and_eq_true, decide_eq_true_eq]; omega
  rw [H]
  clear H
  by_cases h1 : (48 : Int) ≤ c <;> by_cases h2 : (c : Int) ≤ 57
  all_goals
    go_enter Tryz.func121, Tryz.ntmps121
    go_wp2_with fail
    go_ret
    exact ⟨by simp [h1, h2], rfl⟩
def NameRel (s : ByteArray) (w : World) (v : Value) (wr : World) : Prop := ∃ k f : Nat, v = .int .i64 (k : Int) ∧ k ≤ s.size ∧ nmF s f k = nmF s s.size 0 ∧ s.size ≤ k + f ∧ w = wr

set_option maxRecDepth 100000 in
theorem nameend_any (s : ByteArray) (w : World) (hs : s.size ≤ 140737488355328) : Calls Tryz.prog 88 #[.string s, .int .i64 0, .bool false] w fun e w' => e = .returned (.int .i64 (nmF s s.size 0 : Nat)) ∧ w = w' := by
  have p3 : (s.size : Int) ≤ 140737488355328 := by omega
  clear hs
  go_enter Tryz.func88, Tryz.ntmps88
  go_wp2_with fail
  go_loopw [1] (NameRel s w) (fun v _ => s.size - (intOf v).toNat)
  case atStart => exact ⟨0, s.size, rfl, by omega, rfl, by omega, rfl⟩
  case round =>
    obtain ⟨k, f, rfl, hle, hk, hf, rfl⟩ := hrel
    have k1 : (0 : Int) ≤ (k : Int) := by omega
    have k2 : (k : Int) ≤ (s.size : Int) := by omega
    by_cases hlt : k < s.size
    · have hb := bt_get s hlt
      obtain ⟨f', rfl⟩ : ∃ f', f = f' + 1 := ⟨f - 1, by omega⟩
      by_cases hc : (isLt (bt s k) || isDg (bt s k)) = true
      · have HK : Hid (nmF s f' (k + 1) = nmF s s.size 0) := Lib.hid (by rw [← hk, nmF_step s f' k ⟨hlt, hc⟩])
        have HF : Hid (s.size ≤ k + 1 + f') := Lib.hid (by omega)
        cases h1 : isLt (bt s k)
        · have h2 : isDg (bt s k) = true := by rw [h1] at hc; simpa using hc
          clear hk hc hf
          go_wp2_with (first | (go_at_call 87; refine (letter_any _ _).mono ?_; rintro e w' ⟨rfl, rfl⟩; rw [h1]) | (go_at_call 121; refine (ldigit_any _ _).mono ?_; rintro e w' ⟨rfl, rfl⟩; rw [h2]))
          go_roundw
          case rel => exact ⟨k + 1, f', by first | rfl | (congr 1; omega), by omega, HK.out, HF.out, rfl⟩
          case measure => simp [intOf]; omega
        · clear hk hc hf
          go_wp2_with (first | (go_at_call 87; refine (letter_any _ _).mono ?_; rintro e w' ⟨rfl, rfl⟩; rw [h1]))
          go_roundw
          case rel => exact ⟨k + 1, f', by first | rfl | (congr 1; omega), by omega, HK.out, HF.out, rfl⟩
          case measure => simp [intOf]; omega
      · have HK : Hid (nmF s s.size 0 = k) := Lib.hid (by rw [← hk]; exact nmF_stop s _ k (fun h => hc h.2))
        have h1 : isLt (bt s k) = false := by cases h : isLt (bt s k) <;> simp_all
        have h2 : isDg (bt s k) = false := by cases h : isDg (bt s k) <;> simp_all
        clear hk hc hf
        go_wp2_with (first | (go_at_call 87; refine (letter_any _ _).mono ?_; rintro e w' ⟨rfl, rfl⟩; rw [h1]) | (go_at_call 121; refine (ldigit_any _ _).mono ?_; rintro e w' ⟨rfl, rfl⟩; rw [h2]))
        go_ret
        exact ⟨by rw [HK.out]; rfl, rfl⟩
    · have HK : Hid (nmF s s.size 0 = k) := Lib.hid (by rw [← hk]; exact nmF_stop s _ k (fun h => hlt h.1))
      clear hk hf
      go_wp2_with fail
      go_ret
      exact ⟨by rw [HK.out]; rfl, rfl⟩

end Go.Proofs.YtmmfjknnbkcniaaGreatDoor

namespace Go.Utf
theorem empty_iff (s : ByteArray) : s.toList.isEmpty = decide (s.size = 0) := by
  rw [ByteArray.toList_eq]
  have : s.size = s.data.toList.length := by simp
  rw [this]
  cases s.data.toList <;> simp
end Go.Utf
namespace Go.Proofs.YtmmfjknnbkcniaaGreatDoor
open Go.Fl Go.Rel Go.RowKit Go.Utf
set_option linter.unusedSimpArgs false
set_option linter.unusedVariables false

set_option maxRecDepth 100000 in
theorem islabel_any (s : ByteArray) (w : World) (hs : s.size ≤ 140737488355328) : Calls Tryz.prog 53 #[.string s] w fun e w' => e = .returned (.bool (labB s)) ∧ w = w' := by
  have HN := Lib.hid (fun w => nameend_any s w hs)
  have he := empty_iff s
  by_cases h0 : s.size = 0
  · rw [decide_eq_true h0] at he
    have hl : labB s = false := by unfold labB; rw [decide_eq_false (by omega)]; rfl
    rw [hl]
    clear hl hs h0
    go_enter Tryz.func53, Tryz.ntmps53
    go_wp2_with fail
    go_ret
    exact ⟨rfl, rfl⟩
  rw [decide_eq_false h0] at he
  have hp : 0 < s.size := by omega
  have hb := bt_get s hp
  have hl : labB s = (isLt (bt s 0) && decide (nmF s s.size 0 = s.size)) := by unfold labB; rw [decide_eq_true hp]; rfl
  rw [hl]
  have d1 : ((nmF s s.size 0 : Nat) : Int) = ((s.size : Nat) : Int) ↔ nmF s s.size 0 = s.size := Int.natCast_inj
  have d2 : (((nmF s s.size 0 : Nat) : Int) == (s.size : Int)) = decide (nmF s s.size 0 = s.size) := by
    rw [Bool.eq_iff_iff, beq_iff_eq, decide_eq_true_iff]; exact d1
  obtain ⟨N, hN⟩ : ∃ N : Nat, N = nmF s s.size 0 := ⟨_, rfl⟩
  rw [← hN] at HN d2 ⊢
  cases h1 : isLt (bt s 0)
  · clear hl hs h0 d1 d2 hN
    go_enter Tryz.func53, Tryz.ntmps53
    go_wp2_with (go_at_call 87; refine (letter_any _ _).mono ?_; rintro e w' ⟨rfl, rfl⟩; rw [h1])
    go_ret
    exact ⟨rfl, rfl⟩
  · cases h2 : decide (N = s.size)
    · rw [h2] at d2
      clear hl hs h0 d1 hN h2
      go_enter Tryz.func53, Tryz.ntmps53
      go_wp2_with (first | (go_at_call 87; refine (letter_any _ _).mono ?_; rintro e w' ⟨rfl, rfl⟩; rw [h1]) | (go_at_call 88; refine (HN.out _).mono ?_; rintro e w' ⟨rfl, rfl⟩))
      go_ret
      exact ⟨rfl, rfl⟩
    · rw [h2] at d2
      clear hl hs h0 d1 hN h2
      go_enter Tryz.func53, Tryz.ntmps53
      go_wp2_with (first | (go_at_call 87; refine (letter_any _ _).mono ?_; rintro e w' ⟨rfl, rfl⟩; rw [h1]) | (go_at_call 88; refine (HN.out _).mono ?_; rintro e w' ⟨rfl, rfl⟩))
      go_ret
      exact ⟨rfl, rfl⟩

end Go.Proofs.YtmmfjknnbkcniaaGreatDoor
