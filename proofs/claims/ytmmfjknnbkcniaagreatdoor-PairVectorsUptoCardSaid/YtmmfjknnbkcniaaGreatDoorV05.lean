/- lex.IsLabel, weirref11.IsLabel: may a text be a label's name? lex.IsLabel, weirref11.IsLabel: may a text be a label's name? labels.Valid: is this a label set? What a sort leaves: all blocks but the row's own. -/
import Derived.Test.YtmmfjknnbkcniaaGreatDoorV04
import Derived.Test.YtmmfjknnbkcniaaGreatDoorV02
import Derived.Deep.RegionHeld3
import Derived.Shelf.SlSortCmp.Kit1
import Derived.Shelf.SlSortCmp.KitK
set_option maxHeartbeats 64000000
set_option maxRecDepth 100000
namespace Go.Utf
def isLt (c : Nat) : Bool := (decide (97 ≤ c) && decide (c ≤ 122)) || ((decide (65 ≤ c) && decide (c ≤ 90)) || c == 95)
def isDg (c : Nat) : Bool := decide (48 ≤ c) && decide (c ≤ 57)
def nmF (s : ByteArray) : Nat → Nat → Nat
 | 0, i => i
 | f + 1, i => if i < s.size ∧ (isLt (bt s i) || isDg (bt s i)) = true then nmF s f (i + 1) else i
def labB (s : ByteArray) : Bool := decide (0 < s.size) && (isLt (bt s 0) && decide (nmF s s.size 0 = s.size))
theorem nmF_stop (s : ByteArray) (f i : Nat) (h : ¬ (i < s.size ∧ (isLt (bt s i) || isDg (bt s i)) = true)) : nmF s f i = i := by
 cases f with
 | zero => rfl
 | succ f => unfold nmF; rw [if_neg h]
theorem nmF_step (s : ByteArray) (f i : Nat) (h : i < s.size ∧ (isLt (bt s i) || isDg (bt s i)) = true) : nmF s (f + 1) i = nmF s f (i + 1) := by
 rw [nmF, if_pos h]
end Go.Utf
namespace Go.Proofs.YtmmfjknnbkcniaaGreatDoor
open Go.Fl Go.Rel Go.RowKit Go.Utf
set_option linter.unusedSimpArgs false
set_option linter.unusedVariables false
theorem letter_any (c : Nat) (w : World) : Calls Tryz.prog 87 #[.int .u8 (c : Int)] w fun e w' => e = .returned (.bool (isLt c)) ∧ w = w' := by
 have H : isLt c = ((decide ((97 : Int) ≤ (c : Int)) && decide ((c : Int) ≤ 122)) || ((decide ((65 : Int) ≤ (c : Int)) && decide ((c : Int) ≤ 90)) || ((c : Int) == 95))) := by
  unfold isLt; rw [Bool.eq_iff_iff]; simp only [Bool.or_eq_true, Bool.and_eq_true, decide_eq_true_eq, beq_iff_eq]; omega
 rw [H]
 clear H
 by_cases h1 : (97 : Int) ≤ c <;> by_cases h2 : (c : Int) ≤ 122 <;> by_cases h3 : (65 : Int) ≤ c <;> by_cases h4 : (c : Int) ≤ 90
 all_goals
  cases h5 : ((c : Int) == 95)
  all_goals
   go_enter Tryz.func87, Tryz.ntmps87
   go_wp2_with fail
   go_ret
   exact ⟨by simp [h1, h2, h3, h4], rfl⟩
theorem ldigit_any (c : Nat) (w : World) : Calls Tryz.prog 121 #[.int .u8 (c : Int)] w fun e w' => e = .returned (.bool (isDg c)) ∧ w = w' := by
 have H : isDg c = (decide ((48 : Int) ≤ (c : Int)) && decide ((c : Int) ≤ 57)) := by
  unfold isDg; rw [Bool.eq_iff_iff]; simp only [Bool.and_eq_true, decide_eq_true_eq]; omega
 rw [H]
 clear H
 by_cases h1 : (48 : Int) ≤ c <;> by_cases h2 : (c : Int) ≤ 57
 all_goals
  go_enter Tryz.func121, Tryz.ntmps121
  go_wp2_with fail
  go_ret
  exact ⟨by simp [h1, h2], rfl⟩
theorem rletter_any (c : Nat) (w : World) : Calls Tryz.prog 123 #[.int .u8 (c : Int)] w fun e w' => e = .returned (.bool (isLt c)) ∧ w = w' := by
 have H : isLt c = (((c : Int) == 95) || ((decide ((97 : Int) ≤ (c : Int)) && decide ((c : Int) ≤ 122)) || (decide ((65 : Int) ≤ (c : Int)) && decide ((c : Int) ≤ 90)))) := by
  unfold isLt; rw [Bool.eq_iff_iff]; simp only [Bool.or_eq_true, Bool.and_eq_true, decide_eq_true_eq, beq_iff_eq]; omega
 rw [H]
 clear H
 by_cases h1 : (97 : Int) ≤ c <;> by_cases h2 : (c : Int) ≤ 122 <;> by_cases h3 : (65 : Int) ≤ c <;> by_cases h4 : (c : Int) ≤ 90
 all_goals
  cases h5 : ((c : Int) == 95)
  all_goals
   go_enter Tryz.func123, Tryz.ntmps123
   go_wp2_with fail
   go_ret
   exact ⟨by simp [h1, h2, h3, h4], rfl⟩
theorem rdigit_any (c : Nat) (w : World) : Calls Tryz.prog 124 #[.int .u8 (c : Int)] w fun e w' => e = .returned (.bool (isDg c)) ∧ w = w' := by
 have H : isDg c = (decide ((48 : Int) ≤ (c : Int)) && decide ((c : Int) ≤ 57)) := by
  unfold isDg; rw [Bool.eq_iff_iff]; simp only [Bool.and_eq_true, decide_eq_true_eq]; omega
 rw [H]
 clear H
 by_cases h1 : (48 : Int) ≤ c <;> by_cases h2 : (c : Int) ≤ 57
 all_goals
  go_enter Tryz.func124, Tryz.ntmps124
  go_wp2_with fail
  go_ret
  exact ⟨by simp [h1, h2], rfl⟩
def NameRel (s : ByteArray) (w : World) (v : Value) (wr : World) : Prop := ∃ k f : Nat, v = .int .i64 (k : Int) ∧ k ≤ s.size ∧ nmF s f k = nmF s s.size 0 ∧ s.size ≤ k + f ∧ w = wr
theorem nameend_any (s : ByteArray) (w : World) (hs : s.size ≤ 140737488355328) : Calls Tryz.prog 88 #[.string s, .int .i64 0, .bool false] w fun e w' => e = .returned (.int .i64 (nmF s s.size 0 : Nat)) ∧ w = w' := by
 have p3 : (s.size : Int) ≤ 140737488355328 := by omega
 clear hs
 go_enter Tryz.func88, Tryz.ntmps88
 go_wp2_with fail
 go_loopw [1] (NameRel s w) (fun v _ => s.size - (intOf v).toNat)
 case atStart => exact ⟨0, s.size, rfl, by omega, rfl, by omega, rfl⟩
 case round =>
  obtain ⟨k, f, rfl, hle, hk, hf, rfl⟩ := hrel
  have k1 : (0 : Int) ≤ (k : Int) := by omega
  have k2 : (k : Int) ≤ (s.size : Int) := by omega
  by_cases hlt : k < s.size
  ·have hb := bt_get s hlt
   obtain ⟨f', rfl⟩ : ∃ f', f = f' + 1 := ⟨f - 1, by omega⟩
   by_cases hc : (isLt (bt s k) || isDg (bt s k)) = true
   ·have HK : Hid (nmF s f' (k + 1) = nmF s s.size 0) := qh (by rw [← hk, nmF_step s f' k ⟨hlt, hc⟩])
    have HF : Hid (s.size ≤ k + 1 + f') := qh (by omega)
    cases h1 : isLt (bt s k)
    ·have h2 : isDg (bt s k) = true := by rw [h1] at hc; simpa using hc
     clear hk hc hf
     go_wp2_with (first | (go_at_call 87; refine (letter_any _ _).mono ?_; rintro e w' ⟨rfl, rfl⟩; rw [h1]) | (go_at_call 121; refine (ldigit_any _ _).mono ?_; rintro e w' ⟨rfl, rfl⟩; rw [h2]))
     go_roundw
     case rel => exact ⟨k + 1, f', by first | rfl | (congr 1; omega), by omega, HK.out, HF.out, rfl⟩
     case measure => simp [intOf]; omega
    ·clear hk hc hf
     go_wp2_with (first | (go_at_call 87; refine (letter_any _ _).mono ?_; rintro e w' ⟨rfl, rfl⟩; rw [h1]))
     go_roundw
     case rel => exact ⟨k + 1, f', by first | rfl | (congr 1; omega), by omega, HK.out, HF.out, rfl⟩
     case measure => simp [intOf]; omega
   ·have HK : Hid (nmF s s.size 0 = k) := qh (by rw [← hk]; exact nmF_stop s _ k (fun h => hc h.2))
    have h1 : isLt (bt s k) = false := by cases h : isLt (bt s k) <;> simp_all
    have h2 : isDg (bt s k) = false := by cases h : isDg (bt s k) <;> simp_all
    clear hk hc hf
    go_wp2_with (first | (go_at_call 87; refine (letter_any _ _).mono ?_; rintro e w' ⟨rfl, rfl⟩; rw [h1]) | (go_at_call 121; refine (ldigit_any _ _).mono ?_; rintro e w' ⟨rfl, rfl⟩; rw [h2]))
    go_ret
    exact ⟨by rw [HK.out]; rfl, rfl⟩
  ·have HK : Hid (nmF s s.size 0 = k) := qh (by rw [← hk]; exact nmF_stop s _ k (fun h => hlt h.1))
   clear hk hf
   go_wp2_with fail
   go_ret
   exact ⟨by rw [HK.out]; rfl, rfl⟩
end Go.Proofs.YtmmfjknnbkcniaaGreatDoor
namespace Go.Utf
theorem empty_iff (s : ByteArray) : s.toList.isEmpty = decide (s.size = 0) := by
 rw [ByteArray.toList_eq]
 have : s.size = s.data.toList.length := by simp
 rw [this]
 cases s.data.toList <;> simp
theorem nmF_all (s : ByteArray) : ∀ f i, s.size ≤ i + f → i ≤ s.size → (nmF s f i = s.size ↔ ∀ j, i ≤ j → j < s.size → (isLt (bt s j) || isDg (bt s j)) = true)
 | 0, i, h, hle => by
  simp only [nmF]
  constructor
  ·intro _ j h1 h2; omega
  ·intro _; omega
 | f + 1, i, h, hle => by
  by_cases hc : i < s.size ∧ (isLt (bt s i) || isDg (bt s i)) = true
  ·rw [nmF_step s f i hc, nmF_all s f (i + 1) (by omega) (by omega)]
   constructor
   ·intro hh j h1 h2
    by_cases hj : j = i
    ·rw [hj]; exact hc.2
    ·exact hh j (by omega) h2
   ·intro hh j h1 h2; exact hh j (by omega) h2
  ·rw [nmF_stop s _ i hc]
   constructor
   ·intro hh j h1 h2; omega
   ·intro hh
    by_cases hi : i < s.size
    ·exact absurd ⟨hi, hh i (Nat.le_refl _) hi⟩ hc
    ·omega
end Go.Utf
namespace Go.Proofs.YtmmfjknnbkcniaaGreatDoor
open Go.Fl Go.Rel Go.RowKit Go.Utf
set_option linter.unusedSimpArgs false
set_option linter.unusedVariables false
theorem islabel_any (s : ByteArray) (w : World) (hs : s.size ≤ 140737488355328) : Calls Tryz.prog 53 #[.string s] w fun e w' => e = .returned (.bool (labB s)) ∧ w = w' := by
 have HN := qh (fun w => nameend_any s w hs)
 have he := empty_iff s
 by_cases h0 : s.size = 0
 ·rw [decide_eq_true h0] at he
  have hl : labB s = false := by unfold labB; rw [decide_eq_false (by omega)]; rfl
  rw [hl]
  clear hl hs h0
  go_enter Tryz.func53, Tryz.ntmps53
  go_wp2_with fail
  go_ret
  exact ⟨rfl, rfl⟩
 rw [decide_eq_false h0] at he
 have hp : 0 < s.size := by omega
 have hb := bt_get s hp
 have hl : labB s = (isLt (bt s 0) && decide (nmF s s.size 0 = s.size)) := by unfold labB; rw [decide_eq_true hp]; rfl
 rw [hl]
 have d1 : ((nmF s s.size 0 : Nat) : Int) = ((s.size : Nat) : Int) ↔ nmF s s.size 0 = s.size := Int.natCast_inj
 have d2 : (((nmF s s.size 0 : Nat) : Int) == (s.size : Int)) = decide (nmF s s.size 0 = s.size) := by
  rw [Bool.eq_iff_iff, beq_iff_eq, decide_eq_true_iff]; exact d1
 obtain ⟨N, hN⟩ : ∃ N : Nat, N = nmF s s.size 0 := ⟨_, rfl⟩
 rw [← hN] at HN d2 ⊢
 cases h1 : isLt (bt s 0)
 ·clear hl hs h0 d1 d2 hN
  go_enter Tryz.func53, Tryz.ntmps53
  go_wp2_with (go_at_call 87; refine (letter_any _ _).mono ?_; rintro e w' ⟨rfl, rfl⟩; rw [h1])
  go_ret
  exact ⟨rfl, rfl⟩
 ·cases h2 : decide (N = s.size)
  ·rw [h2] at d2
   clear hl hs h0 d1 hN h2
   go_enter Tryz.func53, Tryz.ntmps53
   go_wp2_with (first | (go_at_call 87; refine (letter_any _ _).mono ?_; rintro e w' ⟨rfl, rfl⟩; rw [h1]) | (go_at_call 88; refine (HN.out _).mono ?_; rintro e w' ⟨rfl, rfl⟩))
   go_ret
   exact ⟨rfl, rfl⟩
  ·rw [h2] at d2
   clear hl hs h0 d1 hN h2
   go_enter Tryz.func53, Tryz.ntmps53
   go_wp2_with (first | (go_at_call 87; refine (letter_any _ _).mono ?_; rintro e w' ⟨rfl, rfl⟩; rw [h1]) | (go_at_call 88; refine (HN.out _).mono ?_; rintro e w' ⟨rfl, rfl⟩))
   go_ret
   exact ⟨rfl, rfl⟩
def RlabRel (s : ByteArray) (w : World) (v : Value) (wr : World) : Prop := ∃ k : Nat, v = .int .i64 (k : Int) ∧ k ≤ s.size ∧ (0 < k → isLt (bt s 0) = true) ∧ (∀ j, j < k → (isLt (bt s j) || isDg (bt s j)) = true) ∧ w = wr
theorem rislabel_any (s : ByteArray) (w : World) (hs : s.size ≤ 140737488355328) : Calls Tryz.prog 93 #[.string s] w fun e w' => e = .returned (.bool (labB s)) ∧ w = w' := by
 have he := empty_iff s
 have p3 : (s.size : Int) ≤ 140737488355328 := by omega
 have HALL := qh (nmF_all s s.size 0 (by omega) (by omega))
 clear hs
 go_enter Tryz.func93, Tryz.ntmps93
 go_wp2_with fail
 go_loopw [3] (RlabRel s w) (fun v _ => s.size - (intOf v).toNat)
 case atStart => exact ⟨0, rfl, by omega, fun h => by omega, fun j h => by omega, rfl⟩
 case round =>
  obtain ⟨k, rfl, hle, hf, hall, rfl⟩ := hrel
  have k1 : (0 : Int) ≤ (k : Int) := by omega
  have k2 : (k : Int) ≤ (s.size : Int) := by omega
  by_cases hlt : k < s.size
  ·have hb := bt_get s hlt
   cases h1 : isLt (bt s k)
   ·by_cases hk0 : k = 0
    ·have dk : ((k : Int) == 0) = true := by simp; omega
     have HE : Hid (labB s = false) := qh (by unfold labB; rw [show isLt (bt s 0) = false by rw [← hk0]; exact h1]; simp)
     clear hf hall hk0
     go_wp2_with (first | (go_at_call 123; refine (rletter_any _ _).mono ?_; rintro e w' ⟨rfl, rfl⟩; rw [h1]))
     go_ret
     exact ⟨by rw [HE.out]; rfl, rfl⟩
    ·have dk : ((k : Int) == 0) = false := by simp; omega
     cases h2 : isDg (bt s k)
     ·have HE : Hid (labB s = false) := qh (by
       unfold labB
       have : nmF s s.size 0 ≠ s.size := fun hh => by
        have := HALL.out.1 hh k (by omega) hlt
        rw [h1, h2] at this; cases this
       rw [decide_eq_false this]; simp)
      clear hf hall hk0
      go_wp2_with (first | (go_at_call 123; refine (rletter_any _ _).mono ?_; rintro e w' ⟨rfl, rfl⟩; rw [h1]) | (go_at_call 124; refine (rdigit_any _ _).mono ?_; rintro e w' ⟨rfl, rfl⟩; rw [h2]))
      go_ret
      exact ⟨by rw [HE.out]; rfl, rfl⟩
     ·have HF := qh (hf (by omega))
      have HA := qh hall
      have H12 : Hid ((isLt (bt s k) || isDg (bt s k)) = true) := qh (by rw [h2]; simp)
      clear hf hall hk0
      go_wp2_with (first | (go_at_call 123; refine (rletter_any _ _).mono ?_; rintro e w' ⟨rfl, rfl⟩; rw [h1]) | (go_at_call 124; refine (rdigit_any _ _).mono ?_; rintro e w' ⟨rfl, rfl⟩; rw [h2]))
      go_roundw
      case rel =>
       refine ⟨k + 1, by first | rfl | (congr 1; omega), by omega, fun _ => HF.out, fun j hj => ?_, rfl⟩
       by_cases hjk : j = k
       ·rw [hjk]; exact H12.out
       ·exact HA.out j (by omega)
      case measure => simp [intOf]; omega
   ·have HF : Hid (isLt (bt s 0) = true) := qh (by
     by_cases hk0 : k = 0
     ·rw [← hk0]; exact h1
     ·exact hf (by omega))
    have HA := qh hall
    have H12 : Hid ((isLt (bt s k) || isDg (bt s k)) = true) := qh (by rw [h1]; simp)
    clear hf hall
    go_wp2_with (first | (go_at_call 123; refine (rletter_any _ _).mono ?_; rintro e w' ⟨rfl, rfl⟩; rw [h1]))
    go_roundw
    case rel =>
     refine ⟨k + 1, by first | rfl | (congr 1; omega), by omega, fun _ => HF.out, fun j hj => ?_, rfl⟩
     by_cases hjk : j = k
     ·rw [hjk]; exact H12.out
     ·exact HA.out j (by omega)
    case measure => simp [intOf]; omega
  ·obtain rfl : k = s.size := by omega
   by_cases h0 : s.size = 0
   ·rw [decide_eq_true h0] at he
    have HE : Hid (labB s = false) := qh (by unfold labB; rw [decide_eq_false (by omega)]; rfl)
    clear hf hall h0
    go_wp2_with fail
    go_ret
    exact ⟨by rw [HE.out]; rfl, rfl⟩
   ·rw [decide_eq_false h0] at he
    have HE : Hid (labB s = true) := qh (by
     unfold labB
     rw [decide_eq_true (by omega), hf (by omega), decide_eq_true (HALL.out.2 (fun j _ h => hall j h))]; rfl)
    clear hf hall h0
    go_wp2_with fail
    go_ret
    exact ⟨by rw [HE.out]; rfl, rfl⟩
end Go.Proofs.YtmmfjknnbkcniaaGreatDoor
namespace Go.Fl
open Go.Rel Go.RowKit
structure LidK (p : Prop) : Prop where
 out : p
section
variable {P : Program} {ops : Array Oper} {C : World → Prop} {Rc : FuncId → Array Value → Value → Prop} {Q' : Act → Prop} {a : Act} {rest : List Oper}
theorem wpRel_run {dst : Option Tmp} {op : Op} {ty : TypeId} {pos : String} {after : Array Edge} {guard : Option (Nat × Bool)} (w0 : World) (hC : C w0) (v : Value) (hp : plainOp op = true)
  (hg : Region.wanted { dst, op, type := ty, pos, after, guard } (yielded ops a.tmps) = true)
  (hr : ∀ w, C w → (execOp a.eval { dst, op, type := ty, pos, after, guard }).run P w = .ok (.value v) w)
  (h : wpQuiet P ops C (fun a' => wpRel P ops C Rc Q' rest a') [{ dst, op := .move (.const v), type := ty, pos, after := #[], guard := none }] a) :
  wpRel P ops C Rc Q' ({ dst, op, type := ty, pos, after, guard } :: rest) a := by
 refine wpRel_quiet hp ?_
 have h' := wpRel_laid w0 hC h
 unfold wpQuiet
 rw [if_pos hg]
 refine ⟨v, fun w hw => ?_, h'⟩
 unfold Oper.quietAt; rw [hr w hw]; exact ⟨rfl, rfl⟩
theorem wpRel_skip2 {dst : Option Tmp} {op : Op} {ty : TypeId} {pos : String} {after : Array Edge} {guard : Option (Nat × Bool)} (w0 : World) (hC : C w0)
  (hg : Region.wanted { dst, op, type := ty, pos, after, guard } (yielded ops a.tmps) = false)
  (h : wpQuiet P ops C (fun a' => wpRel P ops C Rc Q' rest a') [{ dst, op := .move (.const undef), type := ty, pos, after := #[], guard := none }] a) :
  wpRel P ops C Rc Q' ({ dst, op, type := ty, pos, after, guard } :: rest) a := wpRel_skip hg (wpRel_laid w0 hC h)
theorem wpRel_runK {dst : Option Tmp} {op : Op} {ty : TypeId} {pos : String} {after : Array Edge} {guard : Option (Nat × Bool)} (w0 : World) (hC : C w0) (v : Value) (hp : plainOp op = true)
  (hg : Region.wanted { dst, op, type := ty, pos, after, guard } (yielded ops a.tmps) = true)
  (hr : ∀ w, C w → (execOp a.eval { dst, op, type := ty, pos, after, guard }).run P w = .ok (.value v) w)
  (h : ∀ K : Act → Prop, (∀ a', LidK (wpRel P ops C Rc Q' rest a') → K a') → wpQuiet P ops C K [{ dst, op := .move (.const v), type := ty, pos, after := #[], guard := none }] a) : LidK (wpRel P ops C Rc Q' ({ dst, op, type := ty, pos, after, guard } :: rest) a) := LidK.mk (wpRel_run w0 hC v hp hg hr (h _ fun _ h => h.out))
theorem wpRel_skipK {dst : Option Tmp} {op : Op} {ty : TypeId} {pos : String} {after : Array Edge} {guard : Option (Nat × Bool)} (w0 : World) (hC : C w0)
  (hg : Region.wanted { dst, op, type := ty, pos, after, guard } (yielded ops a.tmps) = false)
  (h : ∀ K : Act → Prop, (∀ a', LidK (wpRel P ops C Rc Q' rest a') → K a') → wpQuiet P ops C K [{ dst, op := .move (.const undef), type := ty, pos, after := #[], guard := none }] a) : LidK (wpRel P ops C Rc Q' ({ dst, op, type := ty, pos, after, guard } :: rest) a) := LidK.mk (wpRel_skip2 w0 hC hg (h _ fun _ h => h.out))
theorem wpRel_skipG {dst : Option Tmp} {op : Op} {ty : TypeId} {pos : String} {after : Array Edge} {j : Nat} {b : Bool} (w0 : World) (hC : C w0)
  (hg : Region.wanted { dst, op, type := ty, pos, after, guard := some (j, b) } (yielded ops a.tmps) = false)
  (h : ∀ K : Act → Prop, (∀ a', LidK (wpRel P ops C Rc Q' rest a') → K a') → wpQuiet P ops C K [{ dst, op := .move (.const undef), type := ty, pos, after := #[], guard := none }] a) : LidK (wpRel P ops C Rc Q' ({ dst, op, type := ty, pos, after, guard := some (j, b) } :: rest) a) := wpRel_skipK w0 hC hg h
theorem wpRel_guardK {dst : Option Tmp} {op : Op} {ty : TypeId} {pos : String} {after : Array Edge} {guard : Option (Nat × Bool)} (hp : plainOp op = true)
  (hg : Region.wanted { dst, op, type := ty, pos, after, guard } (yielded ops a.tmps) = true)
  (h : ∀ K : Act → Prop, (∀ a', LidK (wpRel P ops C Rc Q' rest a') → K a') → wpQuiet P ops C K [{ dst, op, type := ty, pos, after := #[], guard := none }] a) : LidK (wpRel P ops C Rc Q' ({ dst, op, type := ty, pos, after, guard } :: rest) a) := by
 have h' := h (wpRel P ops C Rc Q' rest) fun _ h => h.out
 unfold wpQuiet at h'
 rw [if_pos (by rfl)] at h'
 refine LidK.mk (wpRel_quiet hp ?_)
 unfold wpQuiet
 rw [if_pos hg]
 exact h'
theorem wpRel_callK {dst : Option Tmp} {ty : TypeId} {pos : String} {after : Array Edge} {guard : Option (Nat × Bool)} (f : FuncId) (fn : Func) (xs : Array Operand) (ats : Array TypeId) (args : Array Value)
  (hg : Region.wanted { dst, op := .call { callee := .value (.func f), args := xs, argTypes := ats }, type := ty, pos, after, guard } (yielded ops a.tmps) = true)
  (hf : P.funcs[f]? = some fn) (hb : fn.body.isNone = false) (hn : (fn.name == "runtime.NumGoroutine") = false) (hargs : xs.map a.eval = args)
  (hc : ∀ w, C w → Calls P f args w fun e w2 => ∃ v, e = .returned v ∧ Rc f args v ∧ C w2)
  (h : ∀ v, Rc f args v → ∀ K : Act → Prop, (∀ a', LidK (wpRel P ops C Rc Q' rest a') → K a') → wpQuiet P ops C K [{ dst, op := .move (.const v), type := ty, pos, after := #[], guard := none }] a) : LidK (wpRel P ops C Rc Q' ({ dst, op := .call { callee := .value (.func f), args := xs, argTypes := ats }, type := ty, pos, after, guard } :: rest) a) := LidK.mk (wpRel_call f fn xs ats args hg hf hb hn hargs hc (fun v hv => h v hv _ fun _ h => h.out))
end
end Go.Fl
namespace Go.Proofs.YtmmfjknnbkcniaaGreatDoor
open Go.Fl Go.Rel Go.RowKit Go.Utf
set_option linter.unusedSimpArgs false
set_option linter.unusedVariables false
theorem cell_stayL {w w' : World} {q : Addr} {v : Value} (h : w.cell? q = some v) (hb : Below w.heap.size w w') : w'.cell? q = some v := by
 have hlt := World.block_lt_of_cell? w q h
 rw [hb.cell hlt]; exact h
theorem cell_oldL {w : World} {q : Addr} {v : Value} (h : w.cell? q = some v) (o : Obj) : (w.alloc o).cell? q = some v :=
 cell_stayL h ((Below.refl _ _).alloc (Nat.le_refl _) o)
theorem keep2 {z w w' : World} {q0 q1 : Addr} {v0 v1 : Value} (h : w.cell? q0 = some v0 ∧ w.cell? q1 = some v1 ∧ Below z.heap.size z w) (hb : Below w.heap.size w w') : w'.cell? q0 = some v0 ∧ w'.cell? q1 = some v1 ∧ Below z.heap.size z w' := by
 obtain ⟨h0, h1, hz⟩ := h
 exact ⟨cell_stayL h0 hb, cell_stayL h1 hb, hz.trans (hb.mono hz.size)⟩
def okL (ls : List Lb) (i : Nat) : Bool := labB (nL ls i) && (!decide ((vL ls i).size = 0) && (utf8B (vL ls i) && (decide (i = 0) || Op.bytesLess (nL ls (i - 1)).toList (nL ls i).toList)))
def ValidRel (ls : List Lb) (w : World) (v : Value) (wr : World) : Prop :=
 ∃ k : Nat, v = .int .i64 (k : Int) ∧ k ≤ ls.length ∧ (∀ j, j < k → okL ls j = true) ∧ Below w.heap.size w wr
theorem valid_any (a : Option Addr) (n cap : Nat) (ls : List Lb) (w : World) (hr : LRow w a n ls) :
  Calls Tryz.prog 36 #[.slice a n cap] w fun e w' => e = .returned (.bool ((List.range n).all (okL ls))) ∧ Below w.heap.size w w' := by
 have HR := qh hr
 have hl := hr.1
 have n1 : (n : Int) ≤ 9223372036854775807 := by have := hr.2.1; omega
 clear hr
 go_enter Tryz.func36, Tryz.ntmps36
 go_wp2_with fail
 go_loopw [7] (ValidRel ls w) (fun v _ => n - (intOf v).toNat)
 case atStart => exact ⟨0, rfl, by omega, fun j h => by omega, Below.refl _ _⟩
 case round =>
  obtain ⟨k, rfl, hk, hok, bel⟩ := hrel
  have hrw := HR.out.below bel
  by_cases hlt : k < n
  ·have dl : decide ((k : Int) < (n : Int)) = true := decide_eq_true (by omega)
   obtain ⟨b, off, ha, hbl, hcell⟩ := hrw.2.2.2 (by omega)
   subst ha
   obtain ⟨c0, c1⟩ := hcell k hlt
   have hsm := hrw.2.2.1 k
   obtain ⟨N, hN⟩ : ∃ N, N = nL ls k := ⟨_, rfl⟩
   obtain ⟨V, hV⟩ : ∃ V, V = vL ls k := ⟨_, rfl⟩
   rw [← hN] at c0 hsm
   rw [← hV] at c1 hsm
   have k1 : (0 : Int) ≤ (k : Int) := by omega
   have k2 : (k : Int) < (n : Int) := by omega
   have HUV : Hid (∀ W, Calls Tryz.prog 54 #[.string V] W fun e w' => e = .returned (.bool (utf8B V)) ∧ Below W.heap.size W w') := qh (fun W => (utf_any V W (by have := hsm.2; unfold SmallT at this; omega)).mono fun e w' ⟨h1, pos, h2⟩ => ⟨h1, by rw [h2]; exact (Below.refl _ _).alloc (Nat.le_refl _) _⟩)
   have HIL : Hid (∀ W, Calls Tryz.prog 53 #[.string N] W fun e w' => e = .returned (.bool (labB N)) ∧ W = w') := qh (fun W => islabel_any N W (by have := hsm.1; unfold SmallT at this; omega))
   have hem := empty_iff V
   have Hcell := qh hcell
   have HN := qh hN
   have HV := qh hV
   clear hcell hN hV
   go_wp2_with fail
   have hbx : Below wr.heap.size wr (wr.alloc (.cells #[.string N, .string V] 54)) := (Below.refl _ _).alloc (Nat.le_refl _) _
   have e0 : (wr.alloc (.cells #[.string N, .string V] 54)).cell? ⟨wr.heap.size, 0, none⟩ = some (.string N) := by rw [World.cell?_alloc_at _ _ _ _ rfl]; rfl
   have e1 : (wr.alloc (.cells #[.string N, .string V] 54)).cell? ⟨wr.heap.size, 1, none⟩ = some (.string V) := by rw [World.cell?_alloc_at _ _ _ _ rfl]; rfl
   generalize wr.alloc (.cells #[.string N, .string V] 54) = W at hbx e0 e1 ⊢
   have bel2 := qh (bel.trans (hbx.mono bel.size))
   have HC0 : Hid (∀ wd, Below W.heap.size W wd → wd.cell? ⟨wr.heap.size, 0, none⟩ = some (.string N)) := qh fun wd hb => cell_stayL e0 hb
   have HC1 : Hid (∀ wd, Below W.heap.size W wd → wd.cell? ⟨wr.heap.size, 1, none⟩ = some (.string V)) := qh fun wd hb => cell_stayL e1 hb
   obtain ⟨q, hq⟩ : ∃ q, q = k - 1 := ⟨_, rfl⟩
   obtain ⟨Pn, hPn⟩ : ∃ Pn, Pn = nL ls (k - 1) := ⟨_, rfl⟩
   have HCP : Hid (¬ k = 0 → ∀ wd, Below W.heap.size W wd → wd.cell? ⟨b, off + q * 2, none⟩ = some (.string Pn)) := qh fun hz wd hb => by
    have cP := (Hcell.out q (by omega)).1
    rw [show nL ls q = Pn by rw [hPn, hq]] at cP
    exact cell_stayL (cell_stayL cP hbx) hb
   obtain ⟨RC, hRC⟩ : ∃ RC : FuncId → Array Value → Value → Prop, RC = fun f _ v => (f = 53 ∧ v = .bool (labB N)) ∨ (f = 54 ∧ v = .bool (utf8B V)) := ⟨_, rfl⟩
   have HR1 : Hid (∀ xs, RC 53 xs (.bool (labB N))) := qh fun xs => by rw [hRC]; exact .inl ⟨rfl, rfl⟩
   have HR2 : Hid (∀ xs, RC 54 xs (.bool (utf8B V))) := qh fun xs => by rw [hRC]; exact .inr ⟨rfl, rfl⟩
   have HR3 : Hid (∀ xs v, RC 53 xs v → v = .bool (labB N)) := qh fun xs v h => by rw [hRC] at h; rcases h with h | h; exact h.2; exact absurd h.1 (by decide)
   have HR4 : Hid (∀ xs v, RC 54 xs v → v = .bool (utf8B V)) := qh fun xs v h => by rw [hRC] at h; rcases h with h | h; exact absurd h.1 (by decide); exact h.2
   have hc : (labB N = false ∧ okL ls k = false) ∨ (labB N = true ∧ decide (V.size = 0) = true ∧ okL ls k = false) ∨ (labB N = true ∧ decide (V.size = 0) = false ∧ utf8B V = false ∧ okL ls k = false) ∨
     (labB N = true ∧ decide (V.size = 0) = false ∧ utf8B V = true ∧ k = 0 ∧ okL ls k = true) ∨ (labB N = true ∧ decide (V.size = 0) = false ∧ utf8B V = true ∧ ¬ k = 0 ∧ Op.bytesLess Pn.toList N.toList = false ∧ okL ls k = false) ∨
     (labB N = true ∧ decide (V.size = 0) = false ∧ utf8B V = true ∧ ¬ k = 0 ∧ Op.bytesLess Pn.toList N.toList = true ∧ okL ls k = true) := by
    unfold okL
    rw [← HN.out, ← HV.out, ← hPn]
    by_cases hz : k = 0 <;> cases labB N <;> cases decide (V.size = 0) <;> cases utf8B V <;> cases Op.bytesLess Pn.toList N.toList <;> simp [hz]
   have HOF : Hid (okL ls k = false → (List.range n).all (okL ls) = false) := qh fun h => by
    rw [List.all_eq_false]
    exact ⟨k, List.mem_range.2 hlt, by rw [h]; simp⟩
   have HOT : Hid (okL ls k = true → ∀ j, j < k + 1 → okL ls j = true) := qh fun h j hj => by
    by_cases hjk : j = k
    ·rw [hjk]; exact h
    ·exact hok j (by omega)
   clear hok hsm hrw bel c0 c1 e0 e1 hPn hRC hbx
   rcases hc with ⟨h1, ho⟩ | ⟨h1, h2, ho⟩ | ⟨h1, h2, h3, ho⟩ | ⟨h1, h2, h3, hz, ho⟩ | ⟨h1, h2, h3, hz, hlex, ho⟩ | ⟨h1, h2, h3, hz, hlex, ho⟩
   all_goals
    have HO := qh ho
    rw [h1] at HIL HR1 HR3
    try rw [h2] at hem
    try rw [h3] at HUV HR2 HR4
    clear ho h1
    try clear h2
    try clear h3
    try subst hz
    try have kq : (k : Int) - 1 = (q : Int) ∧ (0 : Int) ≤ (q : Int) ∧ (q : Int) < (n : Int) ∧ IntKind.i64.wrap (q : Int) = (q : Int) ∧ (0 : Int) < (k : Int) := by refine ⟨?_, ?_, ?_, ?_, ?_⟩ <;> first | omega | (rw [IntKind.wrap_i64]; omega)
    refine wp_region_rel (fun wd => Below W.heap.size W wd) RC (by kernel_rfl) (by kernel_rfl) ((Below.refl _ _).drew) (LidK.out ?_)
    repeat ((first
     | (refine wpRel_skipG W (Below.refl _ _) (by rfl) ?_)
     | (refine wpRel_runK (op := .fieldAddr _ _ _) W (Below.refl _ _) (.pointer (some ⟨wr.heap.size, 0, none⟩)) (by rfl) (by kernel_rfl) ?_ ?_; focus (intro wd hb; simp [go_sem, Act.eval]; done))
     | (refine wpRel_runK (op := .fieldAddr _ _ _) W (Below.refl _ _) (.pointer (some ⟨wr.heap.size, 1, none⟩)) (by rfl) (by kernel_rfl) ?_ ?_; focus (intro wd hb; simp [go_sem, Act.eval]; done))
     | (refine wpRel_runK (op := .fieldAddr _ _ _) W (Below.refl _ _) (.pointer (some ⟨b, off + q * 2, none⟩)) (by rfl) (by kernel_rfl) ?_ ?_; focus (intro wd hb; simp [go_sem, Act.eval]; done))
     | (refine wpRel_runK (op := .indexAddr _ _ _) W (Below.refl _ _) (.pointer (some ⟨b, off + q * 2, none⟩)) (by rfl) (by kernel_rfl) ?_ ?_; focus (intro wd hb; simp [go_sem, Act.eval, kq]; done))
     | (refine wpRel_runK (op := .load _ _) W (Below.refl _ _) (.string N) (by rfl) (by kernel_rfl) ?_ ?_; focus (intro wd hb; simp [go_sem, Act.eval, HC0.out wd hb]; done))
     | (refine wpRel_runK (op := .load _ _) W (Below.refl _ _) (.string V) (by rfl) (by kernel_rfl) ?_ ?_; focus (intro wd hb; simp [go_sem, Act.eval, HC1.out wd hb]; done))
     | (refine wpRel_runK (op := .load _ _) W (Below.refl _ _) (.string Pn) (by rfl) (by kernel_rfl) ?_ ?_; focus (intro wd hb; simp [go_sem, Act.eval, HCP.out hz wd hb]; done))
     | (refine wpRel_callK 53 Tryz.f53 _ _ #[.string N] (by kernel_rfl) Tryz.func53 (by kernel_rfl) (by kernel_rfl) (by simp only [List.map_toArray, List.map]; rfl) (fun wd hd => (HIL.out wd).mono fun e w2 ⟨g1, g2⟩ => ⟨_, g1, HR1.out _, by rw [← g2]; exact hd⟩) ?_; intro v hv; obtain rfl := HR3.out _ _ hv; clear hv)
     | (refine wpRel_callK 54 Tryz.f54 _ _ #[.string V] (by kernel_rfl) Tryz.func54 (by kernel_rfl) (by kernel_rfl) (by simp only [List.map_toArray, List.map]; rfl) (fun wd hd => (HUV.out wd).mono fun e w2 ⟨g1, g2⟩ => ⟨_, g1, HR2.out _, hd.trans (g2.mono hd.size)⟩) ?_; intro v hv; obtain rfl := HR4.out _ _ hv; clear hv)
     | (refine wpRel_runK (op := .binOp _ _ _ _ _) W (Below.refl _ _) (.bool true) (by rfl) (by kernel_rfl) ?_ ?_; focus (intro wd hb; simp [go_sem, Act.eval, hem]; done))
     | (refine wpRel_runK (op := .binOp _ _ _ _ _) W (Below.refl _ _) (.bool false) (by rfl) (by kernel_rfl) ?_ ?_; focus (intro wd hb; simp [go_sem, Act.eval, hem]; done))
     | (refine wpRel_runK (op := .binOp _ _ _ _ _) W (Below.refl _ _) (.bool true) (by rfl) (by kernel_rfl) ?_ ?_; focus (intro wd hb; simp [go_sem, Act.eval, hem, hlex, kq]; done))
     | (refine wpRel_runK (op := .binOp _ _ _ _ _) W (Below.refl _ _) (.bool false) (by rfl) (by kernel_rfl) ?_ ?_; focus (intro wd hb; simp [go_sem, Act.eval, hem, hlex]; done))
     | (refine wpRel_runK (op := .binOp _ _ _ _ _) W (Below.refl _ _) (.bool true) (by rfl) (by kernel_rfl) ?_ ?_; focus (intro wd hb; simp [go_sem, Act.eval]; omega))
     | (refine wpRel_runK (op := .binOp _ _ _ _ _) W (Below.refl _ _) (.int .i64 (q : Int)) (by rfl) (by kernel_rfl) ?_ ?_; focus (intro wd hb; simp [go_sem, Act.eval, kq]; done))
     | (refine wpRel_runK (op := .unOp _ _ _) W (Below.refl _ _) (.bool true) (by rfl) (by kernel_rfl) ?_ ?_; focus (intro wd hb; simp [go_sem, Act.eval]; done))
     | (refine wpRel_runK (op := .unOp _ _ _) W (Below.refl _ _) (.bool false) (by rfl) (by kernel_rfl) ?_ ?_; focus (intro wd hb; simp [go_sem, Act.eval]; done))
     | (refine wpRel_runK (op := .pick _ _ _) W (Below.refl _ _) (.bool true) (by rfl) (by kernel_rfl) ?_ ?_; focus (intro wd hb; simp [go_sem, Act.eval]; done))
     | (refine wpRel_runK (op := .pick _ _ _) W (Below.refl _ _) (.bool false) (by rfl) (by kernel_rfl) ?_ ?_; focus (intro wd hb; simp [go_sem, Act.eval]; done))
     | (refine wpRel_guardK (by rfl) (by kernel_rfl) ?_)); intro K hK; have hK2 := LidK.mk hK; clear hK; go_big_quiet_step (fail); refine wpQuiet_nil ?_; refine hK2.out _ ?_; clear hK2 K)
    refine LidK.mk (wpRel_nil ?_)
    intro wz hz2
    go_wp2_with fail
    first
     | (have hx := HOT.out HO.out
        go_roundw
        case rel => exact ⟨_ + 1, by first | rfl | (congr 1; omega), by omega, hx, bel2.out.trans (hz2.mono bel2.out.size)⟩
        case measure => simp [intOf]; omega)
     | (have hx := HOF.out HO.out
        go_ret
        exact ⟨by rw [hx]; rfl, bel2.out.trans (hz2.mono bel2.out.size)⟩)
  ·have dl : decide ((k : Int) < (n : Int)) = false := decide_eq_false (by omega)
   have HE : Hid ((List.range n).all (okL ls) = true) := qh (by
    rw [List.all_eq_true]
    intro j hj
    exact hok j (by have := List.mem_range.1 hj; omega))
   clear hok hrw
   go_wp2_with fail
   go_ret
   exact ⟨by rw [HE.out]; rfl, bel⟩
end Go.Proofs.YtmmfjknnbkcniaaGreatDoor
namespace Go.Stab
open Go.Shelf Go.RowKit Go.Lib Go.Sort Go.Proofs
structure KeptButF (blk : Nat) (w w' : World) : Prop where
 os : w'.os = w.os
 tape : w'.tape = w.tape
 output : w'.output = w.output
 size : w.heap.size ≤ w'.heap.size
 block : ∀ k, k ≠ blk → k < w.heap.size → w'.heap[k]? = w.heap[k]?
theorem KeptButF.below {blk : Nat} {w w' : World} (h : KeptButF blk w w') (hb : blk < w.heap.size) : RowKit.Below blk w w' :=
 ⟨h.os, h.tape, h.output, h.size, fun k hk => h.block k (by omega) (by omega)⟩
theorem keptBut_sortWorldK {α : Type} [Inhabited α] (enc : α → List Value) (k : Nat) (w : World) (blk off m : Nat) (dk : Array α) (os : Array Obj) : KeptButF blk w (sortWorldK enc k w blk off m dk os) where
 os := rfl
 tape := rfl
 output := rfl
 size := by unfold sortWorldK; rw [Go.Sort.size_grow, size_putRowK]; exact Nat.le_add_right _ _
 block j hk hlt := by
  unfold sortWorldK
  rw [Go.Sort.heap_grow_old _ _ (by rw [size_putRowK]; exact hlt)]
  unfold putRowK putRow mapBlock
  show (w.heap.modify blk _)[j]? = _
  rw [Array.getElem?_modify, if_neg (Ne.symm hk)]
end Go.Stab
