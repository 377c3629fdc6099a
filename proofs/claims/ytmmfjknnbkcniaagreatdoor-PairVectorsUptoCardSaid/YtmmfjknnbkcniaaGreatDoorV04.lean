/- Which bytes are a rune's form, in plain: what the model's decoder answers, in words of widths. utf.Valid: is a text UTF-8? weirref01.Valid: is a text UTF-8, rune by rune. weirref01.Valid: is a text UTF-8, rune by rune. weirref01.Valid: is a text UTF-8, rune by rune: the walk. -/
import Derived.Laws.RangeAny
import Derived.Test.YtmmfjknnbkcniaaGreatDoorV02
import Derived.Laws.DeepStrings4
import Derived.Laws.IdiomStrings
set_option maxHeartbeats 64000000
set_option maxRecDepth 100000
namespace Go.Utf
open Go
set_option linter.unusedVariables false
def bt (s : ByteArray) (i : Nat) : Nat := (s.get! i).toNat
theorem bt_lt (s : ByteArray) (i : Nat) : bt s i < 256 := (s.get! i).toNat_lt
def uwB (n b0 b1 b2 b3 : Nat) : Nat :=
 if b0 < 128 then 1
 else if b0 / 32 = 6 ∧ 2 ≤ n ∧ b1 / 64 = 2 then (if 128 ≤ b0 % 32 * 64 + b1 % 64 then 2 else 0)
 else if b0 / 16 = 14 ∧ 3 ≤ n ∧ b1 / 64 = 2 ∧ b2 / 64 = 2 then (if 2048 ≤ b0 % 16 * 4096 + b1 % 64 * 64 + b2 % 64 ∧ (b0 % 16 * 4096 + b1 % 64 * 64 + b2 % 64 < 55296 ∨ 57344 ≤ b0 % 16 * 4096 + b1 % 64 * 64 + b2 % 64) then 3 else 0)
 else if b0 / 8 = 30 ∧ 4 ≤ n ∧ b1 / 64 = 2 ∧ b2 / 64 = 2 ∧ b3 / 64 = 2 then (if 65536 ≤ b0 % 8 * 262144 + b1 % 64 * 4096 + b2 % 64 * 64 + b3 % 64 ∧ b0 % 8 * 262144 + b1 % 64 * 4096 + b2 % 64 * 64 + b3 % 64 ≤ 1114111 then 4 else 0)
 else 0
def uw (s : ByteArray) (i : Nat) : Nat := uwB (s.size - i) (bt s i) (bt s (i + 1)) (bt s (i + 2)) (bt s (i + 3))
def fffd (s : ByteArray) (i : Nat) : Bool := decide (i + 3 ≤ s.size ∧ bt s i = 239 ∧ bt s (i + 1) = 191 ∧ bt s (i + 2) = 189)
theorem decode_uw (s : ByteArray) (i : Nat) (h : i < s.size) :
  (0 < uw s i → (Utf8.decode s i).2 = uw s i ∧ ((Utf8.decode s i).1 = 65533 → fffd s i = true)) ∧ (uw s i = 0 → Utf8.decode s i = (65533, 1) ∧ fffd s i = false) := by
 unfold uw fffd Utf8.decode
 have hb : ∀ k, (s.get! (i + k)).toNat = bt s (i + k) := fun _ => rfl
 have hb0 : (s.get! i).toNat = bt s i := rfl
 simp only [hb, hb0, Nat.add_zero, Utf8.runeError, Utf8.valid]
 have h0 := bt_lt s i
 have h1 := bt_lt s (i + 1)
 have h2 := bt_lt s (i + 2)
 have h3 := bt_lt s (i + 3)
 have p1 : (i + 1 < s.size) ↔ 2 ≤ s.size - i := by omega
 have p2 : (i + 2 < s.size) ↔ 3 ≤ s.size - i := by omega
 have p3 : (i + 3 < s.size) ↔ 4 ≤ s.size - i := by omega
 have p4 : (i + 3 ≤ s.size) ↔ 3 ≤ s.size - i := by omega
 simp only [p1, p2, p3, p4]
 have hn : 1 ≤ s.size - i := by omega
 generalize s.size - i = n at *
 generalize bt s i = b0 at *
 generalize bt s (i + 1) = b1 at *
 generalize bt s (i + 2) = b2 at *
 generalize bt s (i + 3) = b3 at *
 clear hb hb0 p1 p2 p3 p4
 unfold uwB
 by_cases c0 : b0 < 128
 ·simp only [c0, if_true]
  exact ⟨fun _ => ⟨trivial, fun h => by omega⟩, fun h => by omega⟩
 simp only [c0, if_false]
 by_cases c1 : b0 / 32 = 6 ∧ 2 ≤ n ∧ b1 / 64 = 2
 ·obtain ⟨x1, x2, x3⟩ := c1
  simp only [x1, x2, x3, beq_self_eq_true, decide_true, Bool.and_self, if_true, and_self, ge_iff_le]
  by_cases hc : 128 ≤ b0 % 32 * 64 + b1 % 64
  ·simp only [if_pos hc]
   exact ⟨fun _ => ⟨trivial, fun h => by have h2 : b0 % 32 * 64 + b1 % 64 = 65533 := h; omega⟩, fun h => absurd h (by decide)⟩
  ·simp only [if_neg hc]
   exact ⟨fun h => absurd h (by decide), fun _ => ⟨trivial, decide_eq_false (by omega)⟩⟩
 have c1' : (b0 / 32 == 6 && (decide (2 ≤ n) && b1 / 64 == 2)) = false := by
  rw [Bool.eq_false_iff]
  simp only [ne_eq, Bool.and_eq_true, beq_iff_eq, decide_eq_true_eq]
  exact c1
 simp only [c1, c1', if_false, Bool.false_eq_true]
 by_cases c2 : b0 / 16 = 14 ∧ 3 ≤ n ∧ b1 / 64 = 2 ∧ b2 / 64 = 2
 ·obtain ⟨x1, x2, x3, x4⟩ := c2
  have x5 : 2 ≤ n := by omega
  simp only [x1, x2, x3, x4, x5, beq_self_eq_true, decide_true, Bool.and_self, if_true, and_self, true_and]
  obtain ⟨c, hc⟩ : ∃ c, c = b0 % 16 * 4096 + b1 % 64 * 64 + b2 % 64 := ⟨_, rfl⟩
  rw [← hc]
  generalize hB : (decide (c ≥ 2048) && ((decide ((0 : Int) ≤ (c : Int)) && decide ((c : Int) < 55296)) || (decide ((57344 : Int) ≤ (c : Int)) && decide ((c : Int) ≤ 1114111)))) = B
  have hBv : B = decide (2048 ≤ c ∧ (c < 55296 ∨ 57344 ≤ c)) := by
   rw [← hB, Bool.eq_iff_iff]
   simp only [Bool.and_eq_true, Bool.or_eq_true, decide_eq_true_eq]; omega
  rw [hBv]
  clear hB hBv
  by_cases v : 2048 ≤ c ∧ (c < 55296 ∨ 57344 ≤ c)
  ·rw [decide_eq_true v, if_pos v, if_pos rfl]
   exact ⟨fun _ => ⟨rfl, fun h => by have h2 : c = 65533 := h; exact decide_eq_true (by omega)⟩, fun h => absurd h (by decide)⟩
  ·rw [decide_eq_false v, if_neg v, if_neg (by decide)]
   exact ⟨fun h => absurd h (by decide), fun _ => ⟨rfl, decide_eq_false (by omega)⟩⟩
 have c2' : (b0 / 16 == 14 && (decide (2 ≤ n) && b1 / 64 == 2) && (decide (3 ≤ n) && b2 / 64 == 2)) = false := by
  rw [Bool.eq_false_iff]
  simp only [ne_eq, Bool.and_eq_true, beq_iff_eq, decide_eq_true_eq]
  intro hh; exact c2 ⟨hh.1.1, hh.2.1, hh.1.2.2, hh.2.2⟩
 simp only [c2, c2', if_false, Bool.false_eq_true]
 by_cases c3 : b0 / 8 = 30 ∧ 4 ≤ n ∧ b1 / 64 = 2 ∧ b2 / 64 = 2 ∧ b3 / 64 = 2
 ·obtain ⟨x1, x2, x3, x4, x6⟩ := c3
  have x5 : 2 ≤ n := by omega
  have x7 : 3 ≤ n := by omega
  simp only [x1, x2, x3, x4, x5, x6, x7, beq_self_eq_true, decide_true, Bool.and_self, if_true, and_self, true_and]
  obtain ⟨c, hc⟩ : ∃ c, c = b0 % 8 * 262144 + b1 % 64 * 4096 + b2 % 64 * 64 + b3 % 64 := ⟨_, rfl⟩
  rw [← hc]
  generalize hB : (decide (c ≥ 65536) && ((decide ((0 : Int) ≤ (c : Int)) && decide ((c : Int) < 55296)) || (decide ((57344 : Int) ≤ (c : Int)) && decide ((c : Int) ≤ 1114111)))) = B
  have hBv : B = decide (65536 ≤ c ∧ c ≤ 1114111) := by
   rw [← hB, Bool.eq_iff_iff]
   simp only [Bool.and_eq_true, Bool.or_eq_true, decide_eq_true_eq]; omega
  rw [hBv]
  clear hB hBv
  by_cases v : 65536 ≤ c ∧ c ≤ 1114111
  ·rw [decide_eq_true v, if_pos v, if_pos rfl]
   exact ⟨fun _ => ⟨rfl, fun h => by have h2 : c = 65533 := h; omega⟩, fun h => absurd h (by decide)⟩
  ·rw [decide_eq_false v, if_neg v, if_neg (by decide)]
   exact ⟨fun h => absurd h (by decide), fun _ => ⟨rfl, decide_eq_false (by omega)⟩⟩
 have c3' : (b0 / 8 == 30 && (decide (2 ≤ n) && b1 / 64 == 2) && (decide (3 ≤ n) && b2 / 64 == 2) && (decide (4 ≤ n) && b3 / 64 == 2)) = false := by
  rw [Bool.eq_false_iff]
  simp only [ne_eq, Bool.and_eq_true, beq_iff_eq, decide_eq_true_eq]
  intro hh; exact c3 ⟨hh.1.1.1, hh.2.1, hh.1.1.2.2, hh.1.2.2, hh.2.2⟩
 simp only [c3, c3', if_false, Bool.false_eq_true]
 refine ⟨fun h => absurd h (by decide), fun _ => ⟨trivial, decide_eq_false (fun hh => ?_)⟩⟩
 exact c2 ⟨by omega, hh.1, by omega, by omega⟩
theorem uw_le (s : ByteArray) (i : Nat) (h : i < s.size) : i + uw s i ≤ s.size := by
 have hn : 1 ≤ s.size - i := by omega
 have : uw s i ≤ s.size - i := by
  unfold uw uwB
  generalize s.size - i = n at *
  repeat' split
  all_goals omega
 omega
def okFrom (s : ByteArray) : Nat → Nat → Bool
 | 0, _ => true
 | f + 1, i => if i < s.size then (if uw s i = 0 then false else okFrom s f (i + uw s i)) else true
def utf8B (s : ByteArray) : Bool := okFrom s s.size 0
theorem okFrom_end (s : ByteArray) (f i : Nat) (h : ¬ i < s.size) : okFrom s f i = true := by
 cases f with
 | zero => rfl
 | succ f => simp [okFrom, h]
theorem okFrom_bad (s : ByteArray) (f i : Nat) (h : i < s.size) (hu : uw s i = 0) (hf : s.size ≤ i + f) : okFrom s f i = false := by
 cases f with
 | zero => omega
 | succ f => simp [okFrom, h, hu]
theorem okFrom_step (s : ByteArray) (f i : Nat) (h : i < s.size) (hu : 0 < uw s i) (hf : s.size ≤ i + (f + 1)) : okFrom s (f + 1) i = okFrom s f (i + uw s i) := by
 simp [okFrom, h, show uw s i ≠ 0 by omega]
end Go.Utf
namespace Go.Utf
open Go
theorem ext_list (s : ByteArray) (i k : Nat) (h : i + k ≤ s.size) : (s.extract i (i + k)).toList = (List.range k).map (fun j => s.get! (i + j)) := by
 rw [ByteArray.toList_eq]
 apply List.ext_getElem
 ·simp [ByteArray.data_extract]
  have : s.size = s.data.size := rfl
  omega
 ·intro j h1 h2
  simp at h2
  have : s.size = s.data.size := rfl
  simp [ByteArray.data_extract, ByteArray.get!]
  rw [getElem!_pos s.data (i + j) (by omega)]
theorem ext3_eq (s : ByteArray) (i : Nat) (h : i + 3 ≤ s.size) : ((s.extract i (i + 3)).toList == [239, 191, 189]) = fffd s i := by
 rw [ext_list s i 3 h]
 have e : (List.range 3).map (fun j => s.get! (i + j)) = [s.get! i, s.get! (i + 1), s.get! (i + 2)] := rfl
 have u : ∀ (x : UInt8) (n : Nat) (hn : n < 256), (x = UInt8.ofNat n) ↔ x.toNat = n := fun x n hn => by
  constructor
  ·intro h; rw [h]; simp; omega
  ·intro h; rw [← h]; simp
 rw [e]
 unfold fffd bt
 rw [Bool.eq_iff_iff, beq_iff_eq, decide_eq_true_iff]
 simp only [List.cons.injEq, and_true]
 have a := u (s.get! i) 239 (by omega)
 have b := u (s.get! (i + 1)) 191 (by omega)
 have c := u (s.get! (i + 2)) 189 (by omega)
 have e1 : (239 : UInt8) = UInt8.ofNat 239 := rfl
 have e2 : (191 : UInt8) = UInt8.ofNat 191 := rfl
 have e3 : (189 : UInt8) = UInt8.ofNat 189 := rfl
 rw [e1, e2, e3, a, b, c]
 constructor
 ·rintro ⟨x, y, z⟩; exact ⟨h, x, y, z⟩
 ·rintro ⟨_, x, y, z⟩; exact ⟨x, y, z⟩
end Go.Utf
namespace Go.Proofs.YtmmfjknnbkcniaaGreatDoor
open Go.Fl Go.Rel Go.RowKit Go.Utf
set_option linter.unusedSimpArgs false
set_option linter.unusedVariables false
theorem slice_runU (s : ByteArray) (a b : Int) (A B : Nat) (w : World) (ha : a = (A : Int)) (hb : b = (B : Int)) (h : A ≤ B) (hB : B ≤ s.size) :
  (Instr.slice 9 (.string s) (some (.int .i64 a)) (some (.int .i64 b)) none).run Tryz.prog w = .ok (.string (s.extract A B)) w := by
 subst ha; subst hb
 rw [run_slice_string_if w 9 s .i64 .i64 _ _ Tryz.underlying9, if_pos (by omega), if_pos (by omega)]
 simp
theorem replaced_any (s : ByteArray) (i : Nat) (w : World) (hi : i ≤ s.size) (hs : s.size ≤ 9223372036854775800) :
  Calls Tryz.prog 89 #[.string s, .int .i64 (i : Int)] w fun e w' => e = .returned (.bool (fffd s i)) ∧ w = w' := by
 have i1 : (0 : Int) ≤ (i : Int) := by omega
 have i2 : (i : Int) ≤ 9223372036854775800 := by omega
 by_cases h : i + 3 ≤ s.size
 ·have d1 : decide ((i : Int) + 3 ≤ (s.size : Int)) = true := decide_eq_true (by omega)
  have hsl := fun w => slice_runU s (i : Int) ((i : Int) + 3) i (i + 3) w rfl (by omega) (by omega) h
  have he := ext3_eq s i h
  obtain ⟨B, hB⟩ : ∃ B, fffd s i = B := ⟨_, rfl⟩
  rw [hB] at he ⊢
  clear hB h hi hs
  go_enter Tryz.func89, Tryz.ntmps89
  go_wp2_with (simp only [hsl])
  go_ret
  exact ⟨rfl, rfl⟩
 ·have d1 : decide ((i : Int) + 3 ≤ (s.size : Int)) = false := decide_eq_false (by omega)
  have he : fffd s i = false := decide_eq_false (fun hh => h hh.1)
  rw [he]
  clear he h hi hs
  go_enter Tryz.func89, Tryz.ntmps89
  go_wp2_with fail
  go_ret
  exact ⟨rfl, rfl⟩
theorem utf_any (s : ByteArray) (w : World) (hs : s.size ≤ 9223372036854775800) :
  Calls Tryz.prog 54 #[.string s] w fun e w' => e = .returned (.bool (utf8B s)) ∧ ∃ pos, w' = w.iter s pos := by
 have HS := qh hs
 clear hs
 go_enter Tryz.func54, Tryz.ntmps54
 go_wp2
 go_loopw [3, 4] (fun _ _ w' => ∃ (pos f : Nat), w' = w.iter s pos ∧ pos ≤ s.size ∧ Hid (okFrom s f pos = utf8B s) ∧ s.size ≤ pos + f) (fun _ _ w' => s.size - w'.iterPos w.heap.size)
 case atStart => exact ⟨0, s.size, rfl, by omega, qh rfl, by omega⟩
 case round =>
  obtain ⟨pos, f, rfl, hle, hok, hf⟩ := hrel
  by_cases hp : pos < s.size
  ·have hnx : ∀ ty, (Instr.next (.pointer (some ⟨w.heap.size, 0, none⟩)) true ty).run Tryz.prog (w.iter s pos) = _ := fun ty => run_next_any w s pos ty hp
   obtain ⟨D, hD⟩ : ∃ D, Utf8.decode s pos = D := ⟨_, rfl⟩
   have hdu := decode_uw s pos hp
   rw [hD] at hnx hdu
   obtain ⟨c, wd⟩ := D
   have HR := qh (fun w => replaced_any s pos w hle HS.out)
   by_cases hu : uw s pos = 0
   ·obtain ⟨h1, h2⟩ := hdu.2 hu
    cases h1
    rw [h2] at HR
    have HE : Hid (false = utf8B s) := qh (by rw [← hok.out]; exact (okFrom_bad s f pos hp hu hf).symm)
    clear hok hdu hu hle hf h2 hD
    go_wp2_with (go_at_call 89; refine (HR.out _).mono ?_; rintro e w' ⟨rfl, rfl⟩)
    go_ret
    exact ⟨ret_bool HE.out, _, rfl⟩
   ·obtain ⟨h1, h2⟩ := hdu.1 (by omega)
    dsimp only at h1 h2
    have hul := uw_le s pos hp
    obtain ⟨f', rfl⟩ : ∃ f', f = f' + 1 := ⟨f - 1, by omega⟩
    have HOK : Hid (okFrom s f' (pos + wd) = utf8B s) := qh (by rw [← hok.out, okFrom_step s f' pos hp (by omega) hf, h1])
    have HW : Hid (pos + wd ≤ s.size ∧ 0 < wd ∧ s.size ≤ pos + wd + f' ∧ pos < s.size) := qh ⟨by omega, by omega, by omega, hp⟩
    by_cases hc : c = 65533
    ·have h3 := h2 hc
     rw [h3] at HR
     subst hc
     clear hok hdu hu hle hf h1 h2 hul hD h3
     go_wp2_with (go_at_call 89; refine (HR.out _).mono ?_; rintro e w' ⟨rfl, rfl⟩)
     go_roundw
     case rel => exact ⟨pos + wd, f', rfl, HW.out.1, HOK, HW.out.2.2.1⟩
     case measure => have := HW.out; simp; omega
    ·have d1 : ((c : Int) == 65533) = false := by simp; omega
     clear hok hdu hu hle hf h1 h2 hul hD hc
     go_wp2_with fail
     go_roundw
     case rel => exact ⟨pos + wd, f', rfl, HW.out.1, HOK, HW.out.2.2.1⟩
     case measure => have := HW.out; simp; omega
  ·have hnx : ∀ ty, (Instr.next (.pointer (some ⟨w.heap.size, 0, none⟩)) true ty).run Tryz.prog (w.iter s pos) = _ := fun ty => run_next_end w s pos ty hp
   have HE : Hid (true = utf8B s) := qh (by rw [← hok.out]; exact (okFrom_end s f pos hp).symm)
   clear hok hle hf
   go_wp2_with fail
   go_ret
   exact ⟨ret_bool HE.out, _, rfl⟩
end Go.Proofs.YtmmfjknnbkcniaaGreatDoor
namespace Go.Proofs.YtmmfjknnbkcniaaGreatDoor
open Go.Fl Go.Rel Go.RowKit Go.Utf
set_option linter.unusedSimpArgs false
set_option linter.unusedVariables false
def runeB (n : Int) : Bool := decide (0 ≤ n) && (decide (n ≤ 1114111) && (decide (n < 55296) || decide (57343 < n)))
theorem isrune_any (n : Int) (w : World) (h1 : -1000000000 ≤ n) (h2 : n ≤ 1000000000) : Calls Tryz.prog 161 #[.int .i64 n] w fun e w' => e = .returned (.bool (runeB n)) ∧ w = w' := by
 unfold runeB
 cases d1 : decide (0 ≤ n)
 case false =>
  go_enter Tryz.func161, Tryz.ntmps161
  go_wp2_with fail
  go_ret
  exact ⟨rfl, rfl⟩
 cases d2 : decide (n ≤ 1114111)
 case false =>
  go_enter Tryz.func161, Tryz.ntmps161
  go_wp2_with fail
  go_ret
  exact ⟨rfl, rfl⟩
 cases d3 : decide (n < 55296)
 ·cases d4 : decide (57343 < n)
  ·go_enter Tryz.func161, Tryz.ntmps161
   go_wp2_with fail
   go_ret
   exact ⟨rfl, rfl⟩
  ·go_enter Tryz.func161, Tryz.ntmps161
   go_wp2_with fail
   go_ret
   exact ⟨rfl, rfl⟩
 ·go_enter Tryz.func161, Tryz.ntmps161
  go_wp2_with fail
  go_ret
  exact ⟨rfl, rfl⟩
def formL (n : Int) : List UInt8 :=
 if runeB n = false then []
 else if n < 128 then [UInt8.ofNat n.toNat]
 else if n < 2048 then [UInt8.ofNat (192 + n.toNat / 64), UInt8.ofNat (128 + n.toNat % 64)]
 else if n < 65536 then [UInt8.ofNat (224 + n.toNat / 4096), UInt8.ofNat (128 + n.toNat / 64 % 64), UInt8.ofNat (128 + n.toNat % 64)]
 else [UInt8.ofNat (240 + n.toNat / 262144), UInt8.ofNat (128 + n.toNat / 4096 % 64), UInt8.ofNat (128 + n.toNat / 64 % 64), UInt8.ofNat (128 + n.toNat % 64)]
theorem u8nat {k : Nat} (h : k < 256) : ((UInt8.ofNat k).toNat : Int) = (k : Int) := by
 rw [UInt8.toNat_ofNat']; omega
def FormR (n : Int) (w : World) (e : Ending) (w' : World) : Prop := e = .returned (.string ⟨(formL n).toArray⟩) ∧ Below w.heap.size w w'
theorem form_none (n : Int) (w : World) (h1 : -1000000000 ≤ n) (h2 : n ≤ 1000000000) (h : runeB n = false) : Calls Tryz.prog 145 #[.int .i64 n] w (FormR n w) := by
 have hi := fun w => isrune_any n w (by omega) (by omega)
 rw [h] at hi
 unfold FormR formL
 rw [if_pos h]
 clear h
 go_enter Tryz.func145, Tryz.ntmps145
 go_wp2_with (go_at_call 161; refine (hi _).mono ?_; rintro e w' ⟨rfl, rfl⟩)
 go_ret
 exact ⟨rfl, Below.refl _ _⟩
theorem form_one (n : Nat) (w : World) (h1 : 0 ≤ n) (h2 : n < 128) (hr : runeB (n : Int) = true) : Calls Tryz.prog 145 #[.int .i64 (n : Int)] w (FormR (n : Int) w) := by
 have hL : formL (n : Int) = [UInt8.ofNat n] := by
  unfold formL
  rw [if_neg (by rw [hr]; simp)]; rw [if_pos (show (n : Int) < 128 by omega)]; simp only [Int.toNat_natCast]
 unfold FormR
 rw [hL]
 have hi := fun w => isrune_any (n : Int) w (by omega) (by omega)
 rw [hr] at hi
 have hcv := run_convert_bytes_back (P := Tryz.prog) (w.alloc (.cells #[.int .u8 (n : Int)] 5)) 84 9 5 ⟨w.heap.size, 0, none⟩ 1 [UInt8.ofNat n] Tryz.underlying84 Tryz.underlying5 Tryz.underlying9 (fun j hj => by
  match j, hj with
  | 0, _ =>
   rw [show (⟨w.heap.size, 0, none⟩ : Addr).add 0 = ⟨w.heap.size, 0, none⟩ from rfl, World.cell?_alloc_at _ _ _ _ rfl]
   show some (Value.int .u8 (n : Int)) = some (Value.int .u8 ((UInt8.ofNat n).toNat : Int))
   rw [u8nat (by omega)]; try (congr 2))
 rw [show ([UInt8.ofNat n] : List UInt8).length = 1 from rfl] at hcv
 generalize (⟨([UInt8.ofNat n] : List UInt8).toArray⟩ : ByteArray) = R at hcv ⊢
 have d0 : decide ((n : Int) < 128) = true := decide_eq_true (by omega)
 have n1 : (0 : Int) ≤ (n : Int) := by omega
 have n2 : (n : Int) < 128 := by omega
 have t1 : (n : Int).tdiv 64 = (n : Int) / 64 := Int.tdiv_eq_ediv_of_nonneg (by omega)
 have t2 : (n : Int).tmod 64 = (n : Int) % 64 := Int.tmod_eq_emod_of_nonneg (by omega)
 have t3 : ((n : Int) / 64).tmod 64 = (n : Int) / 64 % 64 := Int.tmod_eq_emod_of_nonneg (by omega)
 have t4 : (n : Int).tdiv 4096 = (n : Int) / 4096 := Int.tdiv_eq_ediv_of_nonneg (by omega)
 have t5 : ((n : Int) / 4096).tmod 64 = (n : Int) / 4096 % 64 := Int.tmod_eq_emod_of_nonneg (by omega)
 have t6 : (n : Int).tdiv 262144 = (n : Int) / 262144 := Int.tdiv_eq_ediv_of_nonneg (by omega)
 clear hL hr h1 h2
 go_enter Tryz.func145, Tryz.ntmps145
 go_wp2_with (go_at_call 161; refine (hi _).mono ?_; rintro e w' ⟨rfl, rfl⟩)
 go_ret
 exact ⟨rfl, (Below.refl _ _).alloc (Nat.le_refl _) _⟩
theorem form_two (n : Nat) (w : World) (h1 : 128 ≤ n) (h2 : n < 2048) (hr : runeB (n : Int) = true) : Calls Tryz.prog 145 #[.int .i64 (n : Int)] w (FormR (n : Int) w) := by
 have hL : formL (n : Int) = [UInt8.ofNat (192 + n / 64), UInt8.ofNat (128 + n % 64)] := by
  unfold formL
  rw [if_neg (by rw [hr]; simp)]; rw [if_neg (show ¬ (n : Int) < 128 by omega)]; rw [if_pos (show (n : Int) < 2048 by omega)]; simp only [Int.toNat_natCast]
 unfold FormR
 rw [hL]
 have hi := fun w => isrune_any (n : Int) w (by omega) (by omega)
 rw [hr] at hi
 have hcv := run_convert_bytes_back (P := Tryz.prog) (w.alloc (.cells #[.int .u8 (192 + (n : Int) / 64), .int .u8 (128 + (n : Int) % 64)] 5)) 84 9 5 ⟨w.heap.size, 0, none⟩ 2 [UInt8.ofNat (192 + n / 64), UInt8.ofNat (128 + n % 64)] Tryz.underlying84 Tryz.underlying5 Tryz.underlying9 (fun j hj => by
  match j, hj with
  | 0, _ =>
   rw [show (⟨w.heap.size, 0, none⟩ : Addr).add 0 = ⟨w.heap.size, 0, none⟩ from rfl, World.cell?_alloc_at _ _ _ _ rfl]
   show some (Value.int .u8 (192 + (n : Int) / 64)) = some (Value.int .u8 ((UInt8.ofNat (192 + n / 64)).toNat : Int))
   rw [u8nat (by omega)]; try (congr 2)
  | 1, _ =>
   rw [show (⟨w.heap.size, 0, none⟩ : Addr).add 1 = ⟨w.heap.size, 1, none⟩ from rfl, World.cell?_alloc_at _ _ _ _ rfl]
   show some (Value.int .u8 (128 + (n : Int) % 64)) = some (Value.int .u8 ((UInt8.ofNat (128 + n % 64)).toNat : Int))
   rw [u8nat (by omega)]; try (congr 2))
 rw [show ([UInt8.ofNat (192 + n / 64), UInt8.ofNat (128 + n % 64)] : List UInt8).length = 2 from rfl] at hcv
 generalize (⟨([UInt8.ofNat (192 + n / 64), UInt8.ofNat (128 + n % 64)] : List UInt8).toArray⟩ : ByteArray) = R at hcv ⊢
 have d0 : decide ((n : Int) < 128) = false := decide_eq_false (by omega)
 have d1 : decide ((n : Int) < 2048) = true := decide_eq_true (by omega)
 have n1 : (128 : Int) ≤ (n : Int) := by omega
 have n2 : (n : Int) < 2048 := by omega
 have t1 : (n : Int).tdiv 64 = (n : Int) / 64 := Int.tdiv_eq_ediv_of_nonneg (by omega)
 have t2 : (n : Int).tmod 64 = (n : Int) % 64 := Int.tmod_eq_emod_of_nonneg (by omega)
 have t3 : ((n : Int) / 64).tmod 64 = (n : Int) / 64 % 64 := Int.tmod_eq_emod_of_nonneg (by omega)
 have t4 : (n : Int).tdiv 4096 = (n : Int) / 4096 := Int.tdiv_eq_ediv_of_nonneg (by omega)
 have t5 : ((n : Int) / 4096).tmod 64 = (n : Int) / 4096 % 64 := Int.tmod_eq_emod_of_nonneg (by omega)
 have t6 : (n : Int).tdiv 262144 = (n : Int) / 262144 := Int.tdiv_eq_ediv_of_nonneg (by omega)
 clear hL hr h1 h2
 go_enter Tryz.func145, Tryz.ntmps145
 go_wp2_with (go_at_call 161; refine (hi _).mono ?_; rintro e w' ⟨rfl, rfl⟩)
 go_ret
 exact ⟨rfl, (Below.refl _ _).alloc (Nat.le_refl _) _⟩
theorem form_three (n : Nat) (w : World) (h1 : 2048 ≤ n) (h2 : n < 65536) (hr : runeB (n : Int) = true) : Calls Tryz.prog 145 #[.int .i64 (n : Int)] w (FormR (n : Int) w) := by
 have hL : formL (n : Int) = [UInt8.ofNat (224 + n / 4096), UInt8.ofNat (128 + n / 64 % 64), UInt8.ofNat (128 + n % 64)] := by
  unfold formL
  rw [if_neg (by rw [hr]; simp)]; rw [if_neg (show ¬ (n : Int) < 128 by omega)]; rw [if_neg (show ¬ (n : Int) < 2048 by omega)]; rw [if_pos (show (n : Int) < 65536 by omega)]; simp only [Int.toNat_natCast]
 unfold FormR
 rw [hL]
 have hi := fun w => isrune_any (n : Int) w (by omega) (by omega)
 rw [hr] at hi
 have hcv := run_convert_bytes_back (P := Tryz.prog) (w.alloc (.cells #[.int .u8 (224 + (n : Int) / 4096), .int .u8 (128 + (n : Int) / 64 % 64), .int .u8 (128 + (n : Int) % 64)] 5)) 84 9 5 ⟨w.heap.size, 0, none⟩ 3 [UInt8.ofNat (224 + n / 4096), UInt8.ofNat (128 + n / 64 % 64), UInt8.ofNat (128 + n % 64)] Tryz.underlying84 Tryz.underlying5 Tryz.underlying9 (fun j hj => by
  match j, hj with
  | 0, _ =>
   rw [show (⟨w.heap.size, 0, none⟩ : Addr).add 0 = ⟨w.heap.size, 0, none⟩ from rfl, World.cell?_alloc_at _ _ _ _ rfl]
   show some (Value.int .u8 (224 + (n : Int) / 4096)) = some (Value.int .u8 ((UInt8.ofNat (224 + n / 4096)).toNat : Int))
   rw [u8nat (by omega)]; try (congr 2)
  | 1, _ =>
   rw [show (⟨w.heap.size, 0, none⟩ : Addr).add 1 = ⟨w.heap.size, 1, none⟩ from rfl, World.cell?_alloc_at _ _ _ _ rfl]
   show some (Value.int .u8 (128 + (n : Int) / 64 % 64)) = some (Value.int .u8 ((UInt8.ofNat (128 + n / 64 % 64)).toNat : Int))
   rw [u8nat (by omega)]; try (congr 2)
  | 2, _ =>
   rw [show (⟨w.heap.size, 0, none⟩ : Addr).add 2 = ⟨w.heap.size, 2, none⟩ from rfl, World.cell?_alloc_at _ _ _ _ rfl]
   show some (Value.int .u8 (128 + (n : Int) % 64)) = some (Value.int .u8 ((UInt8.ofNat (128 + n % 64)).toNat : Int))
   rw [u8nat (by omega)]; try (congr 2))
 rw [show ([UInt8.ofNat (224 + n / 4096), UInt8.ofNat (128 + n / 64 % 64), UInt8.ofNat (128 + n % 64)] : List UInt8).length = 3 from rfl] at hcv
 generalize (⟨([UInt8.ofNat (224 + n / 4096), UInt8.ofNat (128 + n / 64 % 64), UInt8.ofNat (128 + n % 64)] : List UInt8).toArray⟩ : ByteArray) = R at hcv ⊢
 have d0 : decide ((n : Int) < 128) = false := decide_eq_false (by omega)
 have d1 : decide ((n : Int) < 2048) = false := decide_eq_false (by omega)
 have d2 : decide ((n : Int) < 65536) = true := decide_eq_true (by omega)
 have n1 : (2048 : Int) ≤ (n : Int) := by omega
 have n2 : (n : Int) < 65536 := by omega
 have t1 : (n : Int).tdiv 64 = (n : Int) / 64 := Int.tdiv_eq_ediv_of_nonneg (by omega)
 have t2 : (n : Int).tmod 64 = (n : Int) % 64 := Int.tmod_eq_emod_of_nonneg (by omega)
 have t3 : ((n : Int) / 64).tmod 64 = (n : Int) / 64 % 64 := Int.tmod_eq_emod_of_nonneg (by omega)
 have t4 : (n : Int).tdiv 4096 = (n : Int) / 4096 := Int.tdiv_eq_ediv_of_nonneg (by omega)
 have t5 : ((n : Int) / 4096).tmod 64 = (n : Int) / 4096 % 64 := Int.tmod_eq_emod_of_nonneg (by omega)
 have t6 : (n : Int).tdiv 262144 = (n : Int) / 262144 := Int.tdiv_eq_ediv_of_nonneg (by omega)
 clear hL hr h1 h2
 go_enter Tryz.func145, Tryz.ntmps145
 go_wp2_with (go_at_call 161; refine (hi _).mono ?_; rintro e w' ⟨rfl, rfl⟩)
 go_ret
 exact ⟨rfl, (Below.refl _ _).alloc (Nat.le_refl _) _⟩
theorem form_four (n : Nat) (w : World) (h1 : 65536 ≤ n) (h2 : n < 1114112) (hr : runeB (n : Int) = true) : Calls Tryz.prog 145 #[.int .i64 (n : Int)] w (FormR (n : Int) w) := by
 have hL : formL (n : Int) = [UInt8.ofNat (240 + n / 262144), UInt8.ofNat (128 + n / 4096 % 64), UInt8.ofNat (128 + n / 64 % 64), UInt8.ofNat (128 + n % 64)] := by
  unfold formL
  rw [if_neg (by rw [hr]; simp)]; rw [if_neg (show ¬ (n : Int) < 128 by omega)]; rw [if_neg (show ¬ (n : Int) < 2048 by omega)]; rw [if_neg (show ¬ (n : Int) < 65536 by omega)]; simp only [Int.toNat_natCast]
 unfold FormR
 rw [hL]
 have hi := fun w => isrune_any (n : Int) w (by omega) (by omega)
 rw [hr] at hi
 have hcv := run_convert_bytes_back (P := Tryz.prog) (w.alloc (.cells #[.int .u8 (240 + (n : Int) / 262144), .int .u8 (128 + (n : Int) / 4096 % 64), .int .u8 (128 + (n : Int) / 64 % 64), .int .u8 (128 + (n : Int) % 64)] 5)) 84 9 5 ⟨w.heap.size, 0, none⟩ 4 [UInt8.ofNat (240 + n / 262144), UInt8.ofNat (128 + n / 4096 % 64), UInt8.ofNat (128 + n / 64 % 64), UInt8.ofNat (128 + n % 64)] Tryz.underlying84 Tryz.underlying5 Tryz.underlying9 (fun j hj => by
  match j, hj with
  | 0, _ =>
   rw [show (⟨w.heap.size, 0, none⟩ : Addr).add 0 = ⟨w.heap.size, 0, none⟩ from rfl, World.cell?_alloc_at _ _ _ _ rfl]
   show some (Value.int .u8 (240 + (n : Int) / 262144)) = some (Value.int .u8 ((UInt8.ofNat (240 + n / 262144)).toNat : Int))
   rw [u8nat (by omega)]; try (congr 2)
  | 1, _ =>
   rw [show (⟨w.heap.size, 0, none⟩ : Addr).add 1 = ⟨w.heap.size, 1, none⟩ from rfl, World.cell?_alloc_at _ _ _ _ rfl]
   show some (Value.int .u8 (128 + (n : Int) / 4096 % 64)) = some (Value.int .u8 ((UInt8.ofNat (128 + n / 4096 % 64)).toNat : Int))
   rw [u8nat (by omega)]; try (congr 2)
  | 2, _ =>
   rw [show (⟨w.heap.size, 0, none⟩ : Addr).add 2 = ⟨w.heap.size, 2, none⟩ from rfl, World.cell?_alloc_at _ _ _ _ rfl]
   show some (Value.int .u8 (128 + (n : Int) / 64 % 64)) = some (Value.int .u8 ((UInt8.ofNat (128 + n / 64 % 64)).toNat : Int))
   rw [u8nat (by omega)]; try (congr 2)
  | 3, _ =>
   rw [show (⟨w.heap.size, 0, none⟩ : Addr).add 3 = ⟨w.heap.size, 3, none⟩ from rfl, World.cell?_alloc_at _ _ _ _ rfl]
   show some (Value.int .u8 (128 + (n : Int) % 64)) = some (Value.int .u8 ((UInt8.ofNat (128 + n % 64)).toNat : Int))
   rw [u8nat (by omega)]; try (congr 2))
 rw [show ([UInt8.ofNat (240 + n / 262144), UInt8.ofNat (128 + n / 4096 % 64), UInt8.ofNat (128 + n / 64 % 64), UInt8.ofNat (128 + n % 64)] : List UInt8).length = 4 from rfl] at hcv
 generalize (⟨([UInt8.ofNat (240 + n / 262144), UInt8.ofNat (128 + n / 4096 % 64), UInt8.ofNat (128 + n / 64 % 64), UInt8.ofNat (128 + n % 64)] : List UInt8).toArray⟩ : ByteArray) = R at hcv ⊢
 have d0 : decide ((n : Int) < 128) = false := decide_eq_false (by omega)
 have d1 : decide ((n : Int) < 2048) = false := decide_eq_false (by omega)
 have d2 : decide ((n : Int) < 65536) = false := decide_eq_false (by omega)
 have n1 : (65536 : Int) ≤ (n : Int) := by omega
 have n2 : (n : Int) < 1114112 := by omega
 have t1 : (n : Int).tdiv 64 = (n : Int) / 64 := Int.tdiv_eq_ediv_of_nonneg (by omega)
 have t2 : (n : Int).tmod 64 = (n : Int) % 64 := Int.tmod_eq_emod_of_nonneg (by omega)
 have t3 : ((n : Int) / 64).tmod 64 = (n : Int) / 64 % 64 := Int.tmod_eq_emod_of_nonneg (by omega)
 have t4 : (n : Int).tdiv 4096 = (n : Int) / 4096 := Int.tdiv_eq_ediv_of_nonneg (by omega)
 have t5 : ((n : Int) / 4096).tmod 64 = (n : Int) / 4096 % 64 := Int.tmod_eq_emod_of_nonneg (by omega)
 have t6 : (n : Int).tdiv 262144 = (n : Int) / 262144 := Int.tdiv_eq_ediv_of_nonneg (by omega)
 clear hL hr h1 h2
 go_enter Tryz.func145, Tryz.ntmps145
 go_wp2_with (go_at_call 161; refine (hi _).mono ?_; rintro e w' ⟨rfl, rfl⟩)
 go_ret
 exact ⟨rfl, (Below.refl _ _).alloc (Nat.le_refl _) _⟩
theorem form_any (n : Int) (w : World) (h1 : -1000000000 ≤ n) (h2 : n ≤ 1000000000) : Calls Tryz.prog 145 #[.int .i64 n] w (FormR n w) := by
 cases h : runeB n
 ·exact form_none n w h1 h2 h
 ·have hh := h
  unfold runeB at hh
  simp only [Bool.and_eq_true, Bool.or_eq_true, decide_eq_true_eq] at hh
  obtain ⟨m, rfl⟩ : ∃ m : Nat, n = (m : Int) := ⟨n.toNat, by omega⟩
  by_cases c1 : m < 128
  ·exact form_one m w (by omega) c1 h
  by_cases c2 : m < 2048
  ·exact form_two m w (by omega) c2 h
  by_cases c3 : m < 65536
  ·exact form_three m w (by omega) c3 h
  ·exact form_four m w (by omega) (by omega) h
end Go.Proofs.YtmmfjknnbkcniaaGreatDoor
namespace Go.Utf
open Go
set_option linter.unusedVariables false
theorem bt_get (s : ByteArray) {i : Nat} (h : i < s.size) : (s[i]'h).toNat = bt s i := by
 unfold bt
 rw [← get_at s i h]
 rfl
def gs (s : ByteArray) (p K : Nat) : Nat → Int
 | 0 => (bt s p : Int) - (K : Int)
 | j + 1 => gs s p K j * 64 + (bt s (p + (j + 1)) : Int) - 128
def guessV (s : ByteArray) (p w : Nat) : Int := if w = 1 then (bt s p : Int) else gs s p (if w = 3 then 224 else if w = 4 then 240 else 192) (w - 1)
theorem gs_bd (s : ByteArray) (p K j : Nat) (hK : K ≤ 240) (hj : j ≤ 3) : -100000000 ≤ gs s p K j ∧ gs s p K j ≤ 100000000 := by
 have b0 := bt_lt s p
 have b1 := bt_lt s (p + (0 + 1))
 have b2 := bt_lt s (p + (1 + 1))
 have b3 := bt_lt s (p + (2 + 1))
 match j, hj with
 | 0, _ => simp only [gs]; omega
 | 1, _ => simp only [gs]; omega
 | 2, _ => simp only [gs]; omega
 | 3, _ => simp only [gs]; omega
theorem guessV_bd (s : ByteArray) (p w : Nat) (h1 : 1 ≤ w) (h2 : w ≤ 4) : -100000000 ≤ guessV s p w ∧ guessV s p w ≤ 100000000 := by
 unfold guessV
 by_cases h : w = 1
 ·rw [if_pos h]; have := bt_lt s p; omega
 ·rw [if_neg h]
  exact gs_bd s p _ _ (by split <;> (try split) <;> omega) (by omega)
end Go.Utf
namespace Go.Proofs.YtmmfjknnbkcniaaGreatDoor
open Go.Fl Go.Rel Go.RowKit Go.Utf
set_option linter.unusedSimpArgs false
set_option linter.unusedVariables false
theorem formL_cases (n : Int) : (runeB n = false ∧ formL n = []) ∨ (∃ m : Nat, n = (m : Int) ∧ m < 128 ∧ formL n = [UInt8.ofNat m]) ∨
  (∃ m : Nat, n = (m : Int) ∧ 128 ≤ m ∧ m < 2048 ∧ formL n = [UInt8.ofNat (192 + m / 64), UInt8.ofNat (128 + m % 64)]) ∨
  (∃ m : Nat, n = (m : Int) ∧ 2048 ≤ m ∧ m < 65536 ∧ (m < 55296 ∨ 57344 ≤ m) ∧ formL n = [UInt8.ofNat (224 + m / 4096), UInt8.ofNat (128 + m / 64 % 64), UInt8.ofNat (128 + m % 64)]) ∨
  (∃ m : Nat, n = (m : Int) ∧ 65536 ≤ m ∧ m ≤ 1114111 ∧ formL n = [UInt8.ofNat (240 + m / 262144), UInt8.ofNat (128 + m / 4096 % 64), UInt8.ofNat (128 + m / 64 % 64), UInt8.ofNat (128 + m % 64)]) := by
 cases h : runeB n
 ·exact .inl ⟨rfl, by unfold formL; rw [if_pos h]⟩
 have hh := h
 unfold runeB at hh
 simp only [Bool.and_eq_true, Bool.or_eq_true, decide_eq_true_eq] at hh
 obtain ⟨m, rfl⟩ : ∃ m : Nat, n = (m : Int) := ⟨n.toNat, by omega⟩
 unfold formL
 rw [if_neg (by rw [h]; simp)]
 simp only [Int.toNat_natCast]
 by_cases c1 : m < 128
 ·exact .inr (.inl ⟨m, rfl, c1, by rw [if_pos (by omega)]⟩)
 by_cases c2 : m < 2048
 ·exact .inr (.inr (.inl ⟨m, rfl, by omega, c2, by rw [if_neg (by omega), if_pos (by omega)]⟩))
 by_cases c3 : m < 65536
 ·exact .inr (.inr (.inr (.inl ⟨m, rfl, by omega, c3, by omega, by rw [if_neg (by omega), if_neg (by omega), if_pos (by omega)]⟩)))
 ·exact .inr (.inr (.inr (.inr ⟨m, rfl, by omega, by omega, by rw [if_neg (by omega), if_neg (by omega), if_neg (by omega)]⟩)))
theorem u8_eq (x : UInt8) {n : Nat} (hn : n < 256) : (x = UInt8.ofNat n) ↔ x.toNat = n := by
 constructor
 ·intro h; rw [h, UInt8.toNat_ofNat']; omega
 ·intro h; rw [← h]; simp
theorem match_uw (s : ByteArray) (p k : Nat) (h : p + k ≤ s.size) (k1 : 1 ≤ k) (k4 : k ≤ 4) :
  ((formL (guessV s p k)).length = k ∧ (s.extract p (p + k)).toList = formL (guessV s p k)) ↔ uw s p = k := by
 rw [ext_list s p k h]
 have h0 := bt_lt s p
 have h1 := bt_lt s (p + 1)
 have h2 := bt_lt s (p + 2)
 have h3 := bt_lt s (p + 3)
 have hn : k ≤ s.size - p := by omega
 have x0 : (s.get! p).toNat = bt s p := rfl
 have x1 : (s.get! (p + 1)).toNat = bt s (p + 1) := rfl
 have x2 : (s.get! (p + 2)).toNat = bt s (p + 2) := rfl
 have x3 : (s.get! (p + 3)).toNat = bt s (p + 3) := rfl
 unfold uw
 rcases formL_cases (guessV s p k) with ⟨hr, e⟩ | ⟨m, hm, m1, e⟩ | ⟨m, hm, m1, m2, e⟩ | ⟨m, hm, m1, m2, m3, e⟩ | ⟨m, hm, m1, m2, e⟩
 all_goals rw [e]
 all_goals
  obtain rfl | rfl | rfl | rfl : k = 1 ∨ k = 2 ∨ k = 3 ∨ k = 4 := by omega
 all_goals
  simp only [guessV, gs, runeB, show ¬ (2 = 1) by decide, show ¬ (3 = 1) by decide, show ¬ (4 = 1) by decide, show ¬ (2 = 3) by decide, show ¬ (2 = 4) by decide, show ¬ (4 = 3) by decide, if_true, if_false, Nat.zero_add, Nat.add_sub_cancel, show 2 - 1 = 1 by decide, show 3 - 1 = 2 by decide, show 4 - 1 = 3 by decide, show 1 + 1 = 2 by decide, show 2 + 1 = 3 by decide] at *
 all_goals
  simp only [show (List.range 1).map (fun j => s.get! (p + j)) = [s.get! p] from rfl, show (List.range 2).map (fun j => s.get! (p + j)) = [s.get! p, s.get! (p + 1)] from rfl, show (List.range 3).map (fun j => s.get! (p + j)) = [s.get! p, s.get! (p + 1), s.get! (p + 2)] from rfl, show (List.range 4).map (fun j => s.get! (p + j)) = [s.get! p, s.get! (p + 1), s.get! (p + 2), s.get! (p + 3)] from rfl, List.length_cons, List.length_nil, List.cons.injEq, and_true, true_and, false_and, reduceCtorEq, and_false, false_iff, Nat.reduceAdd, Nat.reduceEqDiff]
 all_goals
  clear e
  try simp only [Bool.and_eq_false_iff, Bool.or_eq_false_iff, decide_eq_false_iff_not] at hr
 all_goals
  first
  | (intro hu
     unfold uwB at hu
     generalize bt s p = b0 at *
     generalize bt s (p + 1) = b1 at *
     generalize bt s (p + 2) = b2 at *
     generalize bt s (p + 3) = b3 at *
     generalize s.size - p = n at *
     clear x0 x1 x2 x3 h
     repeat' split at hu
     all_goals omega)
  | (rw [u8_eq (s.get! p) (n := m) (by omega), x0]
     unfold uwB
     generalize bt s p = b0 at *
     constructor
     ·intro hh; rw [if_pos (by omega)]
     ·intro hu
      repeat' split at hu
      all_goals omega)
  | (rw [u8_eq (s.get! p) (n := 192 + m / 64) (by omega), u8_eq (s.get! (p + 1)) (n := 128 + m % 64) (by omega), x0, x1]
     unfold uwB
     generalize bt s p = b0 at *
     generalize bt s (p + 1) = b1 at *
     constructor
     ·rintro ⟨e0, e1⟩
      rw [if_neg (by omega), if_pos (by omega), if_pos (by omega)]
     ·intro hu
      repeat' split at hu
      all_goals omega)
  | (rw [u8_eq (s.get! p) (n := 224 + m / 4096) (by omega), u8_eq (s.get! (p + 1)) (n := 128 + m / 64 % 64) (by omega), u8_eq (s.get! (p + 2)) (n := 128 + m % 64) (by omega), x0, x1, x2]
     unfold uwB
     generalize bt s p = b0 at *
     generalize bt s (p + 1) = b1 at *
     generalize bt s (p + 2) = b2 at *
     constructor
     ·rintro ⟨e0, e1, e2⟩
      rw [if_neg (by omega), if_neg (by omega), if_pos (by omega), if_pos (by omega)]
     ·intro hu
      repeat' split at hu
      all_goals omega)
  | (rw [u8_eq (s.get! p) (n := 240 + m / 262144) (by omega), u8_eq (s.get! (p + 1)) (n := 128 + m / 4096 % 64) (by omega), u8_eq (s.get! (p + 2)) (n := 128 + m / 64 % 64) (by omega), u8_eq (s.get! (p + 3)) (n := 128 + m % 64) (by omega), x0, x1, x2, x3]
     unfold uwB
     generalize bt s p = b0 at *
     generalize bt s (p + 1) = b1 at *
     generalize bt s (p + 2) = b2 at *
     generalize bt s (p + 3) = b3 at *
     constructor
     ·rintro ⟨e0, e1, e2, e3⟩
      rw [if_neg (by omega), if_neg (by omega), if_neg (by omega), if_pos (by omega), if_pos (by omega)]
     ·intro hu
      repeat' split at hu
      all_goals omega)
  | skip
end Go.Proofs.YtmmfjknnbkcniaaGreatDoor
namespace Go.Proofs.YtmmfjknnbkcniaaGreatDoor
open Go.Fl Go.Rel Go.RowKit Go.Utf
set_option linter.unusedSimpArgs false
set_option linter.unusedVariables false
def GuessRel (s : ByteArray) (p K W : Nat) (w : World) (vn vi : Value) (wr : World) : Prop :=
 ∃ j : Nat, vn = .int .i64 (gs s p K j) ∧ vi = .int .i64 ((j : Int) + 1) ∧ j + 1 ≤ W ∧ w = wr
theorem guess_any (s : ByteArray) (p W : Nat) (w : World) (h1 : 1 ≤ W) (h4 : W ≤ 4) (h : p + W ≤ s.size) (hs : s.size ≤ 140737488355328) :
  Calls Tryz.prog 144 #[.string s, .int .i64 (p : Int), .int .i64 (W : Int)] w fun e w' => e = .returned (.int .i64 (guessV s p W)) ∧ w = w' := by
 have hp : p < s.size := by omega
 have hb := bt_get s hp
 have hbl := bt_lt s p
 have p1 : (0 : Int) ≤ (p : Int) := by omega
 have p2 : (p : Int) < (s.size : Int) := by omega
 by_cases hW : W = 1
 ·subst hW
  have hv : guessV s p 1 = (bt s p : Int) := by unfold guessV; rw [if_pos rfl]
  rw [hv]
  clear hv h
  go_enter Tryz.func144, Tryz.ntmps144
  go_wp2_with fail
  go_ret
  exact ⟨rfl, rfl⟩
 obtain ⟨K, hK⟩ : ∃ K, K = if W = 3 then 224 else if W = 4 then 240 else 192 := ⟨_, rfl⟩
 have HV : Hid (guessV s p W = gs s p K (W - 1)) := qh (by unfold guessV; rw [if_neg hW, ← hK])
 have hK2 : K ≤ 240 := by rw [hK]; split <;> (try split) <;> omega
 have d0 : ((W : Int) == 1) = false := by simp; omega
 have d3 : ((W : Int) == 3) = decide (W = 3) := by rw [Bool.eq_iff_iff, beq_iff_eq, decide_eq_true_iff]; omega
 have d4 : ((W : Int) == 4) = decide (W = 4) := by rw [Bool.eq_iff_iff, beq_iff_eq, decide_eq_true_iff]; omega
 have HST : Hid (GuessRel s p K W w (.int .i64 ((bt s p : Int) - (K : Int))) (.int .i64 1) w) := qh ⟨0, rfl, rfl, by omega, rfl⟩
 have hround : ∀ j, j + 1 < W → ∃ q : Nat, (p : Int) + ((j : Int) + 1) = (q : Int) ∧ q < s.size ∧ gs s p K j * 64 + (bt s q : Int) - 128 = gs s p K (j + 1) := fun j hj => ⟨p + (j + 1), by omega, by omega, rfl⟩
 have HR := qh hround
 have HBD := qh (fun j (hj : j ≤ 3) => gs_bd s p K j hK2 hj)
 have W1 : (2 : Int) ≤ (W : Int) := by omega
 have W2 : (W : Int) ≤ 4 := by omega
 have HS := qh hs
 clear hround hK2 h hs
 by_cases h3 : W = 3
 ·rw [decide_eq_true h3] at d3
  rw [decide_eq_false (by omega)] at d4
  rw [if_pos h3] at hK
  subst hK
  clear h3 hW
  go_enter Tryz.func144, Tryz.ntmps144
  go_wp2_with fail
  go_loopw [8, 9] (GuessRel s p 224 W w) (fun _ v _ => (4 - intOf v).toNat)
  case atStart => exact HST.out
  case round =>
   obtain ⟨j, rfl, rfl, hj, rfl⟩ := hrel
   obtain ⟨g1, g2⟩ := HBD.out j (by omega)
   by_cases hlt : j + 1 < W
   ·have dl : decide ((j : Int) + 1 < (W : Int)) = true := decide_eq_true (by omega)
    obtain ⟨q, hq, hqs, hg⟩ := HR.out j hlt
    have hbq := bt_get s hqs
    have hbql := bt_lt s q
    have q1 : (0 : Int) ≤ (q : Int) := by omega
    have q2 : (q : Int) < (s.size : Int) := by omega
    have q3 : (q : Int) < 140737488355328 := by have := HS.out; omega
    have HG := qh hg
    generalize gs s p 224 j = G at *
    clear hg
    go_wp2_with fail
    go_roundw
    case rel => exact ⟨j + 1, by rw [HG.out], by first | rfl | (congr 1; omega), by omega, rfl⟩
    case measure => simp [intOf]; omega
   ·have dl : decide ((j : Int) + 1 < (W : Int)) = false := decide_eq_false (by omega)
    have hjw : j = W - 1 := by omega
    go_wp2_with fail
    go_ret
    exact ⟨by rw [HV.out, hjw]; rfl, rfl⟩
 by_cases h4' : W = 4
 ·rw [decide_eq_false h3] at d3
  rw [decide_eq_true h4'] at d4
  rw [if_neg h3, if_pos h4'] at hK
  subst hK
  clear h3 h4' hW
  go_enter Tryz.func144, Tryz.ntmps144
  go_wp2_with fail
  go_loopw [8, 9] (GuessRel s p 240 W w) (fun _ v _ => (4 - intOf v).toNat)
  case atStart => exact HST.out
  case round =>
   obtain ⟨j, rfl, rfl, hj, rfl⟩ := hrel
   obtain ⟨g1, g2⟩ := HBD.out j (by omega)
   by_cases hlt : j + 1 < W
   ·have dl : decide ((j : Int) + 1 < (W : Int)) = true := decide_eq_true (by omega)
    obtain ⟨q, hq, hqs, hg⟩ := HR.out j hlt
    have hbq := bt_get s hqs
    have hbql := bt_lt s q
    have q1 : (0 : Int) ≤ (q : Int) := by omega
    have q2 : (q : Int) < (s.size : Int) := by omega
    have q3 : (q : Int) < 140737488355328 := by have := HS.out; omega
    have HG := qh hg
    generalize gs s p 240 j = G at *
    clear hg
    go_wp2_with fail
    go_roundw
    case rel => exact ⟨j + 1, by rw [HG.out], by first | rfl | (congr 1; omega), by omega, rfl⟩
    case measure => simp [intOf]; omega
   ·have dl : decide ((j : Int) + 1 < (W : Int)) = false := decide_eq_false (by omega)
    have hjw : j = W - 1 := by omega
    go_wp2_with fail
    go_ret
    exact ⟨by rw [HV.out, hjw]; rfl, rfl⟩
 ·rw [decide_eq_false h3] at d3
  rw [decide_eq_false h4'] at d4
  rw [if_neg h3, if_neg h4'] at hK
  subst hK
  clear h3 h4' hW
  go_enter Tryz.func144, Tryz.ntmps144
  go_wp2_with fail
  go_loopw [8, 9] (GuessRel s p 192 W w) (fun _ v _ => (4 - intOf v).toNat)
  case atStart => exact HST.out
  case round =>
   obtain ⟨j, rfl, rfl, hj, rfl⟩ := hrel
   obtain ⟨g1, g2⟩ := HBD.out j (by omega)
   by_cases hlt : j + 1 < W
   ·have dl : decide ((j : Int) + 1 < (W : Int)) = true := decide_eq_true (by omega)
    obtain ⟨q, hq, hqs, hg⟩ := HR.out j hlt
    have hbq := bt_get s hqs
    have hbql := bt_lt s q
    have q1 : (0 : Int) ≤ (q : Int) := by omega
    have q2 : (q : Int) < (s.size : Int) := by omega
    have q3 : (q : Int) < 140737488355328 := by have := HS.out; omega
    have HG := qh hg
    generalize gs s p 192 j = G at *
    clear hg
    go_wp2_with fail
    go_roundw
    case rel => exact ⟨j + 1, by rw [HG.out], by first | rfl | (congr 1; omega), by omega, rfl⟩
    case measure => simp [intOf]; omega
   ·have dl : decide ((j : Int) + 1 < (W : Int)) = false := decide_eq_false (by omega)
    have hjw : j = W - 1 := by omega
    go_wp2_with fail
    go_ret
    exact ⟨by rw [HV.out, hjw]; rfl, rfl⟩
def NextRel (s : ByteArray) (p : Nat) (w : World) (v : Value) (wr : World) : Prop :=
 ∃ k : Nat, v = .int .i64 (k : Int) ∧ 1 ≤ k ∧ k ≤ 5 ∧ (∀ j, 1 ≤ j → j < k → uw s p ≠ j) ∧ Below w.heap.size w wr
def NextR (s : ByteArray) (p : Nat) (w : World) (e : Ending) (w' : World) : Prop :=
 ∃ r : Int, e = .returned (.tuple #[.int .i32 r, .int .i64 ((uw s p : Nat) : Int)]) ∧ Below w.heap.size w w'
theorem uw_four (s : ByteArray) (p : Nat) : uw s p ≤ 4 := by
 unfold uw uwB
 repeat' split
 all_goals omega
theorem size_mk (l : List UInt8) : (⟨l.toArray⟩ : ByteArray).size = l.length := by
 show l.toArray.size = _
 simp
theorem list_mk (l : List UInt8) : (⟨l.toArray⟩ : ByteArray).toList = l := by rw [ByteArray.toList_eq]
theorem next_any (s : ByteArray) (p : Nat) (w : World) (hp : p < s.size) (hs : s.size ≤ 140737488355328) :
  Calls Tryz.prog 125 #[.string s, .int .i64 (p : Int)] w (NextR s p w) := by
 have d1 : decide ((p : Int) < 0) = false := decide_eq_false (by omega)
 have d2 : decide (s.size ≤ p) = false := decide_eq_false (by omega)
 have p1 : (0 : Int) ≤ (p : Int) := by omega
 have p2 : (p : Int) < (s.size : Int) := by omega
 have p3 : (s.size : Int) ≤ 140737488355328 := by omega
 have hle := uw_le s p hp
 have hfour := uw_four s p
 have HLE := qh hle
 have HF := qh hfour
 have HP := qh hp
 have HS := qh hs
 clear hle hfour hp hs
 go_enter Tryz.func125, Tryz.ntmps125
 go_wp2_with fail
 go_loopw [6] (NextRel s p w) (fun v _ => (5 - intOf v).toNat)
 case atStart => exact ⟨1, rfl, by omega, by omega, fun j h1 h2 => by omega, Below.refl _ _⟩
 case round =>
  obtain ⟨k, rfl, k1, k5, hno, bel⟩ := hrel
  have HNO := qh hno
  clear hno
  have e1 : (1 : Int) ≤ (k : Int) := by omega
  have e2 : (k : Int) ≤ 5 := by omega
  by_cases hk4 : k ≤ 4
  ·have d3 : decide ((k : Int) ≤ 4) = true := decide_eq_true (by omega)
   have e3 : (k : Int) ≤ 4 := by omega
   by_cases hroom : p + k ≤ s.size
   ·have d4 : decide ((k : Int) ≤ (s.size : Int) - (p : Int)) = true := decide_eq_true (by omega)
    have HG := qh (fun w => guess_any s p k w k1 hk4 hroom HS.out)
    obtain ⟨g1, g2⟩ := guessV_bd s p k k1 hk4
    have HM := qh (match_uw s p k hroom k1 hk4)
    obtain ⟨n, hn⟩ : ∃ n, n = guessV s p k := ⟨_, rfl⟩
    rw [← hn] at HG g1 g2 HM
    have HFO := qh (fun w => form_any n w (by omega) (by omega))
    obtain ⟨F, hF⟩ : ∃ F : ByteArray, F = ⟨(formL n).toArray⟩ := ⟨_, rfl⟩
    have hFs : F.size = (formL n).length := by rw [hF, size_mk]
    have hFl : F.toList = formL n := by rw [hF, list_mk]
    have hsl := fun w => slice_runU s (p : Int) ((p : Int) + (k : Int)) p (p + k) w rfl (by omega) (by omega) hroom
    have HF2 : Hid (∀ w, Calls Tryz.prog 145 #[.int .i64 n] w fun e w' => e = .returned (.string F) ∧ Below w.heap.size w w') := qh (fun w => by rw [hF]; exact HFO.out w)
    by_cases hlen : (formL n).length = k
    ·have d5 : ((F.size : Int) == (k : Int)) = true := by simp; omega
     by_cases heq : (s.extract p (p + k)).toList = formL n
     ·have d6 : ((s.extract p (p + k)).toList == F.toList) = true := by rw [hFl, heq]; exact beq_self_eq_true _
      have HU : Hid (uw s p = k) := qh (HM.out.1 ⟨hlen, heq⟩)
      clear hn hF hFs hFl hlen heq hroom hk4 HFO
      go_wp2_with (first | (go_at_call 144; refine (HG.out _).mono ?_; rintro e w' ⟨rfl, rfl⟩) | (go_at_call 145; refine (HF2.out _).mono ?_; rintro e w' ⟨rfl, bw⟩; replace bel := bel.trans (bw.mono bel.size); clear bw) | simp only [hsl])
      go_ret2
      exact ⟨_, by rw [HU.out]; rfl, bel⟩
     ·have d6 : ((s.extract p (p + k)).toList == F.toList) = false := by
       rw [hFl, Bool.eq_false_iff]; simp only [ne_eq, beq_iff_eq]; exact heq
      have HU : Hid (uw s p ≠ k) := qh (fun hu => heq (HM.out.2 hu).2)
      clear hn hF hFs hFl hlen heq hroom hk4 HFO
      go_wp2_with (first | (go_at_call 144; refine (HG.out _).mono ?_; rintro e w' ⟨rfl, rfl⟩) | (go_at_call 145; refine (HF2.out _).mono ?_; rintro e w' ⟨rfl, bw⟩; replace bel := bel.trans (bw.mono bel.size); clear bw) | simp only [hsl])
      go_roundw
      case rel =>
       refine ⟨k + 1, by first | rfl | (congr 1; omega), by omega, by omega, fun j h1 h2 => ?_, bel⟩
       by_cases hjk : j = k
       ·rw [hjk]; exact HU.out
       ·exact HNO.out j h1 (by omega)
      case measure => simp [intOf]; omega
    ·have d5 : ((F.size : Int) == (k : Int)) = false := by simp; omega
     have HU : Hid (uw s p ≠ k) := qh (fun hu => hlen (HM.out.2 hu).1)
     clear hn hF hFs hFl hlen hroom hk4 HFO
     go_wp2_with (first | (go_at_call 144; refine (HG.out _).mono ?_; rintro e w' ⟨rfl, rfl⟩) | (go_at_call 145; refine (HF2.out _).mono ?_; rintro e w' ⟨rfl, bw⟩; replace bel := bel.trans (bw.mono bel.size); clear bw))
     go_roundw
     case rel =>
      refine ⟨k + 1, by first | rfl | (congr 1; omega), by omega, by omega, fun j h1 h2 => ?_, bel⟩
      by_cases hjk : j = k
      ·rw [hjk]; exact HU.out
      ·exact HNO.out j h1 (by omega)
     case measure => simp [intOf]; omega
   ·have d4 : decide ((k : Int) ≤ (s.size : Int) - (p : Int)) = false := decide_eq_false (by omega)
    have HU : Hid (uw s p = 0) := qh (by
     have := HLE.out
     rcases Nat.eq_zero_or_pos (uw s p) with h | h
     ·exact h
     ·exact absurd rfl (HNO.out (uw s p) h (by omega)))
    clear hroom hk4
    go_wp2_with fail
    go_ret2
    exact ⟨_, by rw [HU.out]; rfl, bel⟩
  ·have d3 : decide ((k : Int) ≤ 4) = false := decide_eq_false (by omega)
   have HU : Hid (uw s p = 0) := qh (by
    have := HF.out
    rcases Nat.eq_zero_or_pos (uw s p) with h | h
    ·exact h
    ·exact absurd rfl (HNO.out (uw s p) h (by omega)))
   clear hk4
   go_wp2_with fail
   go_ret2
   exact ⟨_, by rw [HU.out]; rfl, bel⟩
def RutfRel (s : ByteArray) (w : World) (v : Value) (wr : World) : Prop :=
 ∃ p f : Nat, v = .int .i64 (p : Int) ∧ p ≤ s.size ∧ okFrom s f p = utf8B s ∧ s.size ≤ p + f ∧ Below w.heap.size w wr
theorem rutf_any (s : ByteArray) (w : World) (hs : s.size ≤ 140737488355328) :
  Calls Tryz.prog 94 #[.string s] w fun e w' => e = .returned (.bool (utf8B s)) ∧ Below w.heap.size w w' := by
 have p3 : (s.size : Int) ≤ 140737488355328 := by omega
 have HS := qh hs
 clear hs
 go_enter Tryz.func94, Tryz.ntmps94
 go_wp2_with fail
 go_loopw [3] (RutfRel s w) (fun v _ => s.size - (intOf v).toNat)
 case atStart => exact ⟨0, s.size, rfl, by omega, rfl, by omega, Below.refl _ _⟩
 case round =>
  obtain ⟨p, f, rfl, hle, hok, hf, bel⟩ := hrel
  by_cases hp : p < s.size
  ·have dl : decide ((p : Int) < (s.size : Int)) = true := decide_eq_true (by omega)
   have HN := qh (fun w => next_any s p w hp HS.out)
   by_cases hu : uw s p = 0
   ·have HE : Hid (false = utf8B s) := qh (by rw [← hok]; exact (okFrom_bad s f p hp hu hf).symm)
    have HN2 : Hid (∀ w, Calls Tryz.prog 125 #[.string s, .int .i64 (p : Int)] w fun e w' => ∃ r : Int, e = .returned (.tuple #[.int .i32 r, .int .i64 0]) ∧ Below w.heap.size w w') := qh (fun w => (HN.out w).mono fun e w' ⟨r, h1, h2⟩ => ⟨r, by rw [h1, hu]; rfl, h2⟩)
    clear hok hu hle hf HN
    go_wp2_with (go_at_call 125; refine (HN2.out _).mono ?_; rintro e w' ⟨r, rfl, bw⟩; replace bel := bel.trans (bw.mono bel.size); clear bw)
    go_ret
    exact ⟨ret_bool HE.out, bel⟩
   ·have hul := uw_le s p hp
    obtain ⟨f', rfl⟩ : ∃ f', f = f' + 1 := ⟨f - 1, by omega⟩
    obtain ⟨u, hue⟩ : ∃ u, u = uw s p := ⟨_, rfl⟩
    have HOK : Hid (okFrom s f' (p + u) = utf8B s) := qh (by rw [← hok, okFrom_step s f' p hp (by omega) hf, hue])
    have HN2 : Hid (∀ w, Calls Tryz.prog 125 #[.string s, .int .i64 (p : Int)] w fun e w' => ∃ r : Int, e = .returned (.tuple #[.int .i32 r, .int .i64 (u : Int)]) ∧ Below w.heap.size w w') := qh (fun w => (HN.out w).mono fun e w' ⟨r, h1, h2⟩ => ⟨r, by rw [h1, hue], h2⟩)
    rw [← hue] at hu hul
    have du : ((u : Int) == 0) = false := by simp; omega
    have u1 : (0 : Int) < (u : Int) := by omega
    have u2 : (u : Int) ≤ 140737488355328 := by omega
    have p4 : (0 : Int) ≤ (p : Int) := by omega
    have p5 : (p : Int) ≤ 140737488355328 := by omega
    have HW : Hid (p + u ≤ s.size ∧ 0 < u ∧ s.size ≤ p + u + f' ∧ p < s.size) := qh ⟨by omega, by omega, by omega, hp⟩
    clear hok hu hle hf hul hue HN
    go_wp2_with (go_at_call 125; refine (HN2.out _).mono ?_; rintro e w' ⟨r, rfl, bw⟩; replace bel := bel.trans (bw.mono bel.size); clear bw)
    go_roundw
    case rel => exact ⟨p + u, f', by first | rfl | (congr 1; omega), HW.out.1, HOK.out, HW.out.2.2.1, bel⟩
    case measure => have := HW.out; simp [intOf]; omega
  ·have dl : decide ((p : Int) < (s.size : Int)) = false := decide_eq_false (by omega)
   have HE : Hid (true = utf8B s) := qh (by rw [← hok]; exact (okFrom_end s f p hp).symm)
   clear hok hle hf
   go_wp2_with fail
   go_ret
   exact ⟨ret_bool HE.out, bel⟩
end Go.Proofs.YtmmfjknnbkcniaaGreatDoor
