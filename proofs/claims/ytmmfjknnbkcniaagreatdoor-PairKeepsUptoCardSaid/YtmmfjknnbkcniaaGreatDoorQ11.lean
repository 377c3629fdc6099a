/- pair.Scalars and weirref21.Scalars: one number, one error. How arguments that are slices of floats are opened. A struct put whole into a new block. Lists of labels: what a slice of them holds. Which bytes are a rune's form, in plain: what the model's decoder answers, in words of widths. utf.Valid: is a text UTF-8? weirref01.Valid: is a text UTF-8, rune by rune. weirref01.Valid: is a text UTF-8, rune by rune. weirref01.Valid: is a text UTF-8, rune by rune: the walk. -/
import Derived.Test.YtmmfjknnbkcniaaGreatDoorQ10
import Derived.Test.YtmmfjknnbkcniaaGreatDoorQ01
import Derived.ProofKit
import Derived.OpenShut
import Derived.Deep.Slices
import Derived.Laws.Tables
import Derived.Laws.CopyOwn
import Derived.Laws.RangeAny
import Derived.Laws.DeepStrings4
import Derived.Laws.IdiomStrings
namespace Go.Proofs.YtmmfjknnbkcniaaGreatDoor
open Go.Fl Go.Rel Go.RowKit
set_option linter.unusedSimpArgs false
set_option linter.unusedVariables false

/-- What the arithmetic operators answer. -/
noncomputable def valS (k a b : Nat) : Nat := match k with
  | 0 => fadd (cn a) (cn b) | 1 => fsub (cn a) (cn b) | 2 => fmul (cn a) (cn b) | 3 => fdiv (cn a) (cn b) | 4 => modS a b | 5 => powS a b | _ => 0
/-- What the comparisons answer. -/
def holdsS (k a b : Nat) : Bool := match k with
  | 6 => ford a b == some .eq | 7 => ford a b != some .eq | 8 => ford a b == some .lt | 9 => ford a b == some .lt || ford a b == some .eq | 10 => ford a b == some .gt | 11 => ford a b == some .gt || ford a b == some .eq | _ => false
/-- The operator's number. -/
def opL : List (List UInt8) := [[43], [45], [42], [47], [37], [94], [61, 61], [33, 61], [60], [60, 61], [62], [62, 61]]
def opK (l : List UInt8) : Nat := opL.findIdx (· == l)
noncomputable def scS (k a b : Nat) : Nat := if k < 6 then valS k a b else if k < 12 then (if holdsS k a b then w1 else 0) else 0
def errS (k : Nat) : Int := if k < 12 then 0 else 7

theorem opK_0 : opK [43] = 0 := by decide
theorem opK_1 : opK [45] = 1 := by decide
theorem opK_2 : opK [42] = 2 := by decide
theorem opK_3 : opK [47] = 3 := by decide
theorem opK_4 : opK [37] = 4 := by decide
theorem opK_5 : opK [94] = 5 := by decide
theorem opK_6 : opK [61, 61] = 6 := by decide
theorem opK_7 : opK [33, 61] = 7 := by decide
theorem opK_8 : opK [60] = 8 := by decide
theorem opK_9 : opK [60, 61] = 9 := by decide
theorem opK_10 : opK [62] = 10 := by decide
theorem opK_11 : opK [62, 61] = 11 := by decide
theorem opK_none {l : List UInt8} (h0 : (l == [43]) = false) (h1 : (l == [45]) = false) (h2 : (l == [42]) = false) (h3 : (l == [47]) = false) (h4 : (l == [37]) = false) (h5 : (l == [94]) = false) (h6 : (l == [61, 61]) = false) (h7 : (l == [33, 61]) = false) (h8 : (l == [60]) = false) (h9 : (l == [60, 61]) = false) (h10 : (l == [62]) = false) (h11 : (l == [62, 61]) = false) : opK l = 12 := by
  unfold opK opL
  have s : ∀ a b : List UInt8, (a == b) = (b == a) := fun a b => by rw [Bool.eq_iff_iff, beq_iff_eq, beq_iff_eq]; exact eq_comm
  simp only [List.findIdx_cons, List.findIdx_nil, s _ l, h0, h1, h2, h3, h4, h5, h6, h7, h8, h9, h10, h11, cond_false]

theorem reck_0 (u : ByteArray) (a b : Nat) (w : World) (ha : W64 a) (hb : W64 b) (hl : u.toList = [43]) : Calls Tryz.prog 33 #[.string u, .float .f64 a, .float .f64 b] w fun e w' => ∃ r n, e = .returned (.tuple #[.float .f64 r, .bool true]) ∧ cn r = valS 0 a b ∧ w' = w.drewN n := by
  have t0 : (u.toList == [43]) = true := by rw [hl]; decide
  have t1 : (u.toList == [45]) = false := by rw [hl]; decide
  have t2 : (u.toList == [42]) = false := by rw [hl]; decide
  have t3 : (u.toList == [47]) = false := by rw [hl]; decide
  have t4 : (u.toList == [37]) = false := by rw [hl]; decide
  have t5 : (u.toList == [94]) = false := by rw [hl]; decide
  have HA := Lib.hid ha
  have HB := Lib.hid hb
  clear ha hb hl
  go_enter Tryz.func33, Tryz.ntmps33
  go_wp2_with (refine wpList_fop .add _ _ _ _ a b rfl rfl rfl ?_; intro r n hr; have HR := Lib.hid hr; clear hr)
  go_ret2
  exact ⟨r, n, rfl, HR.out, by first | rfl | (simp only [World.drewN_drewN]; rfl)⟩

theorem reck_1 (u : ByteArray) (a b : Nat) (w : World) (ha : W64 a) (hb : W64 b) (hl : u.toList = [45]) : Calls Tryz.prog 33 #[.string u, .float .f64 a, .float .f64 b] w fun e w' => ∃ r n, e = .returned (.tuple #[.float .f64 r, .bool true]) ∧ cn r = valS 1 a b ∧ w' = w.drewN n := by
  have t0 : (u.toList == [43]) = false := by rw [hl]; decide
  have t1 : (u.toList == [45]) = true := by rw [hl]; decide
  have t2 : (u.toList == [42]) = false := by rw [hl]; decide
  have t3 : (u.toList == [47]) = false := by rw [hl]; decide
  have t4 : (u.toList == [37]) = false := by rw [hl]; decide
  have t5 : (u.toList == [94]) = false := by rw [hl]; decide
  have HA := Lib.hid ha
  have HB := Lib.hid hb
  clear ha hb hl
  go_enter Tryz.func33, Tryz.ntmps33
  go_wp2_with (refine wpList_fop .sub _ _ _ _ a b rfl rfl rfl ?_; intro r n hr; have HR := Lib.hid hr; clear hr)
  go_ret2
  exact ⟨r, n, rfl, HR.out, by first | rfl | (simp only [World.drewN_drewN]; rfl)⟩

theorem reck_2 (u : ByteArray) (a b : Nat) (w : World) (ha : W64 a) (hb : W64 b) (hl : u.toList = [42]) : Calls Tryz.prog 33 #[.string u, .float .f64 a, .float .f64 b] w fun e w' => ∃ r n, e = .returned (.tuple #[.float .f64 r, .bool true]) ∧ cn r = valS 2 a b ∧ w' = w.drewN n := by
  have t0 : (u.toList == [43]) = false := by rw [hl]; decide
  have t1 : (u.toList == [45]) = false := by rw [hl]; decide
  have t2 : (u.toList == [42]) = true := by rw [hl]; decide
  have t3 : (u.toList == [47]) = false := by rw [hl]; decide
  have t4 : (u.toList == [37]) = false := by rw [hl]; decide
  have t5 : (u.toList == [94]) = false := by rw [hl]; decide
  have HA := Lib.hid ha
  have HB := Lib.hid hb
  clear ha hb hl
  go_enter Tryz.func33, Tryz.ntmps33
  go_wp2_with (refine wpList_fop .mul _ _ _ _ a b rfl rfl rfl ?_; intro r n hr; have HR := Lib.hid hr; clear hr)
  go_ret2
  exact ⟨r, n, rfl, HR.out, by first | rfl | (simp only [World.drewN_drewN]; rfl)⟩

theorem reck_3 (u : ByteArray) (a b : Nat) (w : World) (ha : W64 a) (hb : W64 b) (hl : u.toList = [47]) : Calls Tryz.prog 33 #[.string u, .float .f64 a, .float .f64 b] w fun e w' => ∃ r n, e = .returned (.tuple #[.float .f64 r, .bool true]) ∧ cn r = valS 3 a b ∧ w' = w.drewN n := by
  have t0 : (u.toList == [43]) = false := by rw [hl]; decide
  have t1 : (u.toList == [45]) = false := by rw [hl]; decide
  have t2 : (u.toList == [42]) = false := by rw [hl]; decide
  have t3 : (u.toList == [47]) = true := by rw [hl]; decide
  have t4 : (u.toList == [37]) = false := by rw [hl]; decide
  have t5 : (u.toList == [94]) = false := by rw [hl]; decide
  have HA := Lib.hid ha
  have HB := Lib.hid hb
  clear ha hb hl
  go_enter Tryz.func33, Tryz.ntmps33
  go_wp2_with (refine wpList_fop .quo _ _ _ _ a b rfl rfl rfl ?_; intro r n hr; have HR := Lib.hid hr; clear hr)
  go_ret2
  exact ⟨r, n, rfl, HR.out, by first | rfl | (simp only [World.drewN_drewN]; rfl)⟩

theorem reck_4 (u : ByteArray) (a b : Nat) (w : World) (ha : W64 a) (hb : W64 b) (hl : u.toList = [37]) : Calls Tryz.prog 33 #[.string u, .float .f64 a, .float .f64 b] w fun e w' => ∃ r n, e = .returned (.tuple #[.float .f64 r, .bool true]) ∧ cn r = valS 4 a b ∧ w' = w.drewN n := by
  have t0 : (u.toList == [43]) = false := by rw [hl]; decide
  have t1 : (u.toList == [45]) = false := by rw [hl]; decide
  have t2 : (u.toList == [42]) = false := by rw [hl]; decide
  have t3 : (u.toList == [47]) = false := by rw [hl]; decide
  have t4 : (u.toList == [37]) = true := by rw [hl]; decide
  have t5 : (u.toList == [94]) = false := by rw [hl]; decide
  have HA := Lib.hid ha
  have HB := Lib.hid hb
  clear ha hb hl
  go_enter Tryz.func33, Tryz.ntmps33
  go_wp2_with (go_at_call 51; refine (cmod_any _ _ _ HA.out).mono ?_; rintro e w' ⟨r, n, rfl, hr, rfl⟩; have HR := Lib.hid hr; clear hr)
  go_ret2
  exact ⟨r, n, rfl, HR.out, by first | rfl | (simp only [World.drewN_drewN]; rfl)⟩

theorem reck_5 (u : ByteArray) (a b : Nat) (w : World) (ha : W64 a) (hb : W64 b) (hl : u.toList = [94]) : Calls Tryz.prog 33 #[.string u, .float .f64 a, .float .f64 b] w fun e w' => ∃ r n, e = .returned (.tuple #[.float .f64 r, .bool true]) ∧ cn r = valS 5 a b ∧ w' = w.drewN n := by
  have t0 : (u.toList == [43]) = false := by rw [hl]; decide
  have t1 : (u.toList == [45]) = false := by rw [hl]; decide
  have t2 : (u.toList == [42]) = false := by rw [hl]; decide
  have t3 : (u.toList == [47]) = false := by rw [hl]; decide
  have t4 : (u.toList == [37]) = false := by rw [hl]; decide
  have t5 : (u.toList == [94]) = true := by rw [hl]; decide
  have HA := Lib.hid ha
  have HB := Lib.hid hb
  clear ha hb hl
  go_enter Tryz.func33, Tryz.ntmps33
  go_wp2_with (go_at_call 52; refine (pow_any _ _ _ HA.out).mono ?_; rintro e w' ⟨r, n, rfl, hr, rfl⟩; have HR := Lib.hid hr; clear hr)
  go_ret2
  exact ⟨r, n, rfl, HR.out, by first | rfl | (simp only [World.drewN_drewN]; rfl)⟩

theorem reck_none (u : ByteArray) (a b : Nat) (w : World) (t0 : (u.toList == [43]) = false) (t1 : (u.toList == [45]) = false) (t2 : (u.toList == [42]) = false) (t3 : (u.toList == [47]) = false) (t4 : (u.toList == [37]) = false) (t5 : (u.toList == [94]) = false) : Calls Tryz.prog 33 #[.string u, .float .f64 a, .float .f64 b] w fun e w' => e = .returned (.tuple #[.float .f64 0, .bool false]) ∧ w = w' := by
  go_enter Tryz.func33, Tryz.ntmps33
  go_wp2_with fail
  go_ret2
  exact ⟨rfl, rfl⟩

theorem hold_6 (u : ByteArray) (a b : Nat) (w : World) (hl : u.toList = [61, 61]) : Calls Tryz.prog 34 #[.string u, .float .f64 a, .float .f64 b] w fun e w' => e = .returned (.tuple #[.bool (holdsS 6 a b), .bool true]) ∧ w = w' := by
  have t6 : (u.toList == [61, 61]) = true := by rw [hl]; decide
  have t7 : (u.toList == [33, 61]) = false := by rw [hl]; decide
  have t8 : (u.toList == [60]) = false := by rw [hl]; decide
  have t9 : (u.toList == [60, 61]) = false := by rw [hl]; decide
  have t10 : (u.toList == [62]) = false := by rw [hl]; decide
  have t11 : (u.toList == [62, 61]) = false := by rw [hl]; decide
  obtain ⟨B, hB⟩ : ∃ B, (FloatKind.f64.format.order a b == some .eq) = B := ⟨_, rfl⟩
  have hB2 : holdsS 6 a b = B := hB
  rw [hB2]
  clear hl hB2
  go_enter Tryz.func34, Tryz.ntmps34
  go_wp2_with fail
  go_ret2
  exact ⟨rfl, rfl⟩

theorem hold_7 (u : ByteArray) (a b : Nat) (w : World) (hl : u.toList = [33, 61]) : Calls Tryz.prog 34 #[.string u, .float .f64 a, .float .f64 b] w fun e w' => e = .returned (.tuple #[.bool (holdsS 7 a b), .bool true]) ∧ w = w' := by
  have t6 : (u.toList == [61, 61]) = false := by rw [hl]; decide
  have t7 : (u.toList == [33, 61]) = true := by rw [hl]; decide
  have t8 : (u.toList == [60]) = false := by rw [hl]; decide
  have t9 : (u.toList == [60, 61]) = false := by rw [hl]; decide
  have t10 : (u.toList == [62]) = false := by rw [hl]; decide
  have t11 : (u.toList == [62, 61]) = false := by rw [hl]; decide
  obtain ⟨B, hB⟩ : ∃ B, (FloatKind.f64.format.order a b != some .eq) = B := ⟨_, rfl⟩
  have hB2 : holdsS 7 a b = B := hB
  rw [hB2]
  clear hl hB2
  go_enter Tryz.func34, Tryz.ntmps34
  go_wp2_with fail
  go_ret2
  exact ⟨rfl, rfl⟩

theorem hold_8 (u : ByteArray) (a b : Nat) (w : World) (hl : u.toList = [60]) : Calls Tryz.prog 34 #[.string u, .float .f64 a, .float .f64 b] w fun e w' => e = .returned (.tuple #[.bool (holdsS 8 a b), .bool true]) ∧ w = w' := by
  have t6 : (u.toList == [61, 61]) = false := by rw [hl]; decide
  have t7 : (u.toList == [33, 61]) = false := by rw [hl]; decide
  have t8 : (u.toList == [60]) = true := by rw [hl]; decide
  have t9 : (u.toList == [60, 61]) = false := by rw [hl]; decide
  have t10 : (u.toList == [62]) = false := by rw [hl]; decide
  have t11 : (u.toList == [62, 61]) = false := by rw [hl]; decide
  obtain ⟨B, hB⟩ : ∃ B, (FloatKind.f64.format.order a b == some .lt) = B := ⟨_, rfl⟩
  have hB2 : holdsS 8 a b = B := hB
  rw [hB2]
  clear hl hB2
  go_enter Tryz.func34, Tryz.ntmps34
  go_wp2_with fail
  go_ret2
  exact ⟨rfl, rfl⟩

theorem hold_9 (u : ByteArray) (a b : Nat) (w : World) (hl : u.toList = [60, 61]) : Calls Tryz.prog 34 #[.string u, .float .f64 a, .float .f64 b] w fun e w' => e = .returned (.tuple #[.bool (holdsS 9 a b), .bool true]) ∧ w = w' := by
  have t6 : (u.toList == [61, 61]) = false := by rw [hl]; decide
  have t7 : (u.toList == [33, 61]) = false := by rw [hl]; decide
  have t8 : (u.toList == [60]) = false := by rw [hl]; decide
  have t9 : (u.toList == [60, 61]) = true := by rw [hl]; decide
  have t10 : (u.toList == [62]) = false := by rw [hl]; decide
  have t11 : (u.toList == [62, 61]) = false := by rw [hl]; decide
  obtain ⟨B, hB⟩ : ∃ B, (FloatKind.f64.format.order a b == some .lt || FloatKind.f64.format.order a b == some .eq) = B := ⟨_, rfl⟩
  have hB2 : holdsS 9 a b = B := hB
  rw [hB2]
  clear hl hB2
  go_enter Tryz.func34, Tryz.ntmps34
  go_wp2_with fail
  go_ret2
  exact ⟨rfl, rfl⟩

theorem hold_10 (u : ByteArray) (a b : Nat) (w : World) (hl : u.toList = [62]) : Calls Tryz.prog 34 #[.string u, .float .f64 a, .float .f64 b] w fun e w' => e = .returned (.tuple #[.bool (holdsS 10 a b), .bool true]) ∧ w = w' := by
  have t6 : (u.toList == [61, 61]) = false := by rw [hl]; decide
  have t7 : (u.toList == [33, 61]) = false := by rw [hl]; decide
  have t8 : (u.toList == [60]) = false := by rw [hl]; decide
  have t9 : (u.toList == [60, 61]) = false := by rw [hl]; decide
  have t10 : (u.toList == [62]) = true := by rw [hl]; decide
  have t11 : (u.toList == [62, 61]) = false := by rw [hl]; decide
  obtain ⟨B, hB⟩ : ∃ B, (FloatKind.f64.format.order a b == some .gt) = B := ⟨_, rfl⟩
  have hB2 : holdsS 10 a b = B := hB
  rw [hB2]
  clear hl hB2
  go_enter Tryz.func34, Tryz.ntmps34
  go_wp2_with fail
  go_ret2
  exact ⟨rfl, rfl⟩

theorem hold_11 (u : ByteArray) (a b : Nat) (w : World) (hl : u.toList = [62, 61]) : Calls Tryz.prog 34 #[.string u, .float .f64 a, .float .f64 b] w fun e w' => e = .returned (.tuple #[.bool (holdsS 11 a b), .bool true]) ∧ w = w' := by
  have t6 : (u.toList == [61, 61]) = false := by rw [hl]; decide
  have t7 : (u.toList == [33, 61]) = false := by rw [hl]; decide
  have t8 : (u.toList == [60]) = false := by rw [hl]; decide
  have t9 : (u.toList == [60, 61]) = false := by rw [hl]; decide
  have t10 : (u.toList == [62]) = false := by rw [hl]; decide
  have t11 : (u.toList == [62, 61]) = true := by rw [hl]; decide
  obtain ⟨B, hB⟩ : ∃ B, (FloatKind.f64.format.order a b == some .gt || FloatKind.f64.format.order a b == some .eq) = B := ⟨_, rfl⟩
  have hB2 : holdsS 11 a b = B := hB
  rw [hB2]
  clear hl hB2
  go_enter Tryz.func34, Tryz.ntmps34
  go_wp2_with fail
  go_ret2
  exact ⟨rfl, rfl⟩

theorem hold_none (u : ByteArray) (a b : Nat) (w : World) (t6 : (u.toList == [61, 61]) = false) (t7 : (u.toList == [33, 61]) = false) (t8 : (u.toList == [60]) = false) (t9 : (u.toList == [60, 61]) = false) (t10 : (u.toList == [62]) = false) (t11 : (u.toList == [62, 61]) = false) : Calls Tryz.prog 34 #[.string u, .float .f64 a, .float .f64 b] w fun e w' => e = .returned (.tuple #[.bool false, .bool false]) ∧ w = w' := by
  go_enter Tryz.func34, Tryz.ntmps34
  go_wp2_with fail
  go_ret2
  exact ⟨rfl, rfl⟩

/-- A truth as a number. -/
def tru (b : Bool) : Nat := if b then 4607182418800017408 else 0
theorem truth_any (b : Bool) (w : World) : Calls Tryz.prog 35 #[.bool b] w fun e w' => e = .returned (.float .f64 (tru b)) ∧ w = w' := by
  cases b
  · go_enter Tryz.func35, Tryz.ntmps35
    go_wp2_with fail
    go_ret
    exact ⟨rfl, rfl⟩
  · go_enter Tryz.func35, Tryz.ntmps35
    go_wp2_with fail
    go_ret
    exact ⟨rfl, rfl⟩
theorem cn_tru (b : Bool) : cn (tru b) = if b then w1 else 0 := by cases b <;> decide +kernel

/-- The number and the error. -/
def ScalR (k a b : Nat) (w : World) (e : Ending) (w' : World) : Prop := ∃ r n, e = .returned (.tuple #[.float .f64 r, .int .i64 (errS k)]) ∧ cn r = scS k a b ∧ w' = w.drewN n

theorem scal_0 (u : ByteArray) (a b : Nat) (w : World) (ha : W64 a) (hb : W64 b) (hl : u.toList = [43]) : Calls Tryz.prog 18 #[.string u, .float .f64 a, .float .f64 b] w (ScalR 0 a b w) := by
  have H := Lib.hid (fun w => reck_0 u a b w ha hb hl)
  clear ha hb hl
  go_enter Tryz.func18, Tryz.ntmps18
  go_wp2_with (go_at_call 33; refine (H.out _).mono ?_; rintro e w' ⟨r, n, rfl, hr, rfl⟩; have HR := Lib.hid hr; clear hr)
  go_ret2
  exact ⟨r, n, rfl, HR.out, rfl⟩
theorem scal_1 (u : ByteArray) (a b : Nat) (w : World) (ha : W64 a) (hb : W64 b) (hl : u.toList = [45]) : Calls Tryz.prog 18 #[.string u, .float .f64 a, .float .f64 b] w (ScalR 1 a b w) := by
  have H := Lib.hid (fun w => reck_1 u a b w ha hb hl)
  clear ha hb hl
  go_enter Tryz.func18, Tryz.ntmps18
  go_wp2_with (go_at_call 33; refine (H.out _).mono ?_; rintro e w' ⟨r, n, rfl, hr, rfl⟩; have HR := Lib.hid hr; clear hr)
  go_ret2
  exact ⟨r, n, rfl, HR.out, rfl⟩
theorem scal_2 (u : ByteArray) (a b : Nat) (w : World) (ha : W64 a) (hb : W64 b) (hl : u.toList = [42]) : Calls Tryz.prog 18 #[.string u, .float .f64 a, .float .f64 b] w (ScalR 2 a b w) := by
  have H := Lib.hid (fun w => reck_2 u a b w ha hb hl)
  clear ha hb hl
  go_enter Tryz.func18, Tryz.ntmps18
  go_wp2_with (go_at_call 33; refine (H.out _).mono ?_; rintro e w' ⟨r, n, rfl, hr, rfl⟩; have HR := Lib.hid hr; clear hr)
  go_ret2
  exact ⟨r, n, rfl, HR.out, rfl⟩
theorem scal_3 (u : ByteArray) (a b : Nat) (w : World) (ha : W64 a) (hb : W64 b) (hl : u.toList = [47]) : Calls Tryz.prog 18 #[.string u, .float .f64 a, .float .f64 b] w (ScalR 3 a b w) := by
  have H := Lib.hid (fun w => reck_3 u a b w ha hb hl)
  clear ha hb hl
  go_enter Tryz.func18, Tryz.ntmps18
  go_wp2_with (go_at_call 33; refine (H.out _).mono ?_; rintro e w' ⟨r, n, rfl, hr, rfl⟩; have HR := Lib.hid hr; clear hr)
  go_ret2
  exact ⟨r, n, rfl, HR.out, rfl⟩
theorem scal_4 (u : ByteArray) (a b : Nat) (w : World) (ha : W64 a) (hb : W64 b) (hl : u.toList = [37]) : Calls Tryz.prog 18 #[.string u, .float .f64 a, .float .f64 b] w (ScalR 4 a b w) := by
  have H := Lib.hid (fun w => reck_4 u a b w ha hb hl)
  clear ha hb hl
  go_enter Tryz.func18, Tryz.ntmps18
  go_wp2_with (go_at_call 33; refine (H.out _).mono ?_; rintro e w' ⟨r, n, rfl, hr, rfl⟩; have HR := Lib.hid hr; clear hr)
  go_ret2
  exact ⟨r, n, rfl, HR.out, rfl⟩
theorem scal_5 (u : ByteArray) (a b : Nat) (w : World) (ha : W64 a) (hb : W64 b) (hl : u.toList = [94]) : Calls Tryz.prog 18 #[.string u, .float .f64 a, .float .f64 b] w (ScalR 5 a b w) := by
  have H := Lib.hid (fun w => reck_5 u a b w ha hb hl)
  clear ha hb hl
  go_enter Tryz.func18, Tryz.ntmps18
  go_wp2_with (go_at_call 33; refine (H.out _).mono ?_; rintro e w' ⟨r, n, rfl, hr, rfl⟩; have HR := Lib.hid hr; clear hr)
  go_ret2
  exact ⟨r, n, rfl, HR.out, rfl⟩
theorem scal_6 (u : ByteArray) (a b : Nat) (w : World) (hl : u.toList = [61, 61]) : Calls Tryz.prog 18 #[.string u, .float .f64 a, .float .f64 b] w (ScalR 6 a b w) := by
  have H := Lib.hid (fun w => reck_none u a b w (by rw [hl]; decide) (by rw [hl]; decide) (by rw [hl]; decide) (by rw [hl]; decide) (by rw [hl]; decide) (by rw [hl]; decide))
  have H2 := Lib.hid (fun w => hold_6 u a b w hl)
  clear hl
  go_enter Tryz.func18, Tryz.ntmps18
  go_wp2_with (first | (go_at_call 33; refine (H.out _).mono ?_; rintro e w' ⟨rfl, rfl⟩) | (go_at_call 34; refine (H2.out _).mono ?_; rintro e w' ⟨rfl, rfl⟩) | (go_at_call 35; refine (truth_any _ _).mono ?_; rintro e w' ⟨rfl, rfl⟩))
  go_ret2
  exact ⟨_, 0, rfl, cn_tru _, rfl⟩
theorem scal_7 (u : ByteArray) (a b : Nat) (w : World) (hl : u.toList = [33, 61]) : Calls Tryz.prog 18 #[.string u, .float .f64 a, .float .f64 b] w (ScalR 7 a b w) := by
  have H := Lib.hid (fun w => reck_none u a b w (by rw [hl]; decide) (by rw [hl]; decide) (by rw [hl]; decide) (by rw [hl]; decide) (by rw [hl]; decide) (by rw [hl]; decide))
  have H2 := Lib.hid (fun w => hold_7 u a b w hl)
  clear hl
  go_enter Tryz.func18, Tryz.ntmps18
  go_wp2_with (first | (go_at_call 33; refine (H.out _).mono ?_; rintro e w' ⟨rfl, rfl⟩) | (go_at_call 34; refine (H2.out _).mono ?_; rintro e w' ⟨rfl, rfl⟩) | (go_at_call 35; refine (truth_any _ _).mono ?_; rintro e w' ⟨rfl, rfl⟩))
  go_ret2
  exact ⟨_, 0, rfl, cn_tru _, rfl⟩
theorem scal_8 (u : ByteArray) (a b : Nat) (w : World) (hl : u.toList = [60]) : Calls Tryz.prog 18 #[.string u, .float .f64 a, .float .f64 b] w (ScalR 8 a b w) := by
  have H := Lib.hid (fun w => reck_none u a b w (by rw [hl]; decide) (by rw [hl]; decide) (by rw [hl]; decide) (by rw [hl]; decide) (by rw [hl]; decide) (by rw [hl]; decide))
  have H2 := Lib.hid (fun w => hold_8 u a b w hl)
  clear hl
  go_enter Tryz.func18, Tryz.ntmps18
  go_wp2_with (first | (go_at_call 33; refine (H.out _).mono ?_; rintro e w' ⟨rfl, rfl⟩) | (go_at_call 34; refine (H2.out _).mono ?_; rintro e w' ⟨rfl, rfl⟩) | (go_at_call 35; refine (truth_any _ _).mono ?_; rintro e w' ⟨rfl, rfl⟩))
  go_ret2
  exact ⟨_, 0, rfl, cn_tru _, rfl⟩
theorem scal_9 (u : ByteArray) (a b : Nat) (w : World) (hl : u.toList = [60, 61]) : Calls Tryz.prog 18 #[.string u, .float .f64 a, .float .f64 b] w (ScalR 9 a b w) := by
  have H := Lib.hid (fun w => reck_none u a b w (by rw [hl]; decide) (by rw [hl]; decide) (by rw [hl]; decide) (by rw [hl]; decide) (by rw [hl]; decide) (by rw [hl]; decide))
  have H2 := Lib.hid (fun w => hold_9 u a b w hl)
  clear hl
  go_enter Tryz.func18, Tryz.ntmps18
  go_wp2_with (first | (go_at_call 33; refine (H.out _).mono ?_; rintro e w' ⟨rfl, rfl⟩) | (go_at_call 34; refine (H2.out _).mono ?_; rintro e w' ⟨rfl, rfl⟩) | (go_at_call 35; refine (truth_any _ _).mono ?_; rintro e w' ⟨rfl, rfl⟩))
  go_ret2
  exact ⟨_, 0, rfl, cn_tru _, rfl⟩
theorem scal_10 (u : ByteArray) (a b : Nat) (w : World) (hl : u.toList = [62]) : Calls Tryz.prog 18 #[.string u, .float .f64 a, .float .f64 b] w (ScalR 10 a b w) := by
  have H := Lib.hid (fun w => reck_none u a b w (by rw [hl]; decide) (by rw [hl]; decide) (by rw [hl]; decide) (by rw [hl]; decide) (by rw [hl]; decide) (by rw [hl]; decide))
  have H2 := Lib.hid (fun w => hold_10 u a b w hl)
  clear hl
  go_enter Tryz.func18, Tryz.ntmps18
  go_wp2_with (first | (go_at_call 33; refine (H.out _).mono ?_; rintro e w' ⟨rfl, rfl⟩) | (go_at_call 34; refine (H2.out _).mono ?_; rintro e w' ⟨rfl, rfl⟩) | (go_at_call 35; refine (truth_any _ _).mono ?_; rintro e w' ⟨rfl, rfl⟩))
  go_ret2
  exact ⟨_, 0, rfl, cn_tru _, rfl⟩
theorem scal_11 (u : ByteArray) (a b : Nat) (w : World) (hl : u.toList = [62, 61]) : Calls Tryz.prog 18 #[.string u, .float .f64 a, .float .f64 b] w (ScalR 11 a b w) := by
  have H := Lib.hid (fun w => reck_none u a b w (by rw [hl]; decide) (by rw [hl]; decide) (by rw [hl]; decide) (by rw [hl]; decide) (by rw [hl]; decide) (by rw [hl]; decide))
  have H2 := Lib.hid (fun w => hold_11 u a b w hl)
  clear hl
  go_enter Tryz.func18, Tryz.ntmps18
  go_wp2_with (first | (go_at_call 33; refine (H.out _).mono ?_; rintro e w' ⟨rfl, rfl⟩) | (go_at_call 34; refine (H2.out _).mono ?_; rintro e w' ⟨rfl, rfl⟩) | (go_at_call 35; refine (truth_any _ _).mono ?_; rintro e w' ⟨rfl, rfl⟩))
  go_ret2
  exact ⟨_, 0, rfl, cn_tru _, rfl⟩
theorem scal_none (u : ByteArray) (a b : Nat) (w : World) (t0 : (u.toList == [43]) = false) (t1 : (u.toList == [45]) = false) (t2 : (u.toList == [42]) = false) (t3 : (u.toList == [47]) = false) (t4 : (u.toList == [37]) = false) (t5 : (u.toList == [94]) = false) (t6 : (u.toList == [61, 61]) = false) (t7 : (u.toList == [33, 61]) = false) (t8 : (u.toList == [60]) = false) (t9 : (u.toList == [60, 61]) = false) (t10 : (u.toList == [62]) = false) (t11 : (u.toList == [62, 61]) = false) : Calls Tryz.prog 18 #[.string u, .float .f64 a, .float .f64 b] w (ScalR 12 a b w) := by
  have H := Lib.hid (fun w => reck_none u a b w t0 t1 t2 t3 t4 t5)
  have H2 := Lib.hid (fun w => hold_none u a b w t6 t7 t8 t9 t10 t11)
  clear t0 t1 t2 t3 t4 t5 t6 t7 t8 t9 t10 t11
  go_enter Tryz.func18, Tryz.ntmps18
  go_wp2_with (first | (go_at_call 33; refine (H.out _).mono ?_; rintro e w' ⟨rfl, rfl⟩) | (go_at_call 34; refine (H2.out _).mono ?_; rintro e w' ⟨rfl, rfl⟩))
  go_ret2
  exact ⟨_, 0, rfl, cn_zero, rfl⟩

theorem scal_any (u : ByteArray) (a b : Nat) (w : World) (ha : W64 a) (hb : W64 b) : Calls Tryz.prog 18 #[.string u, .float .f64 a, .float .f64 b] w (ScalR (opK u.toList) a b w) := by
  cases t0 : (u.toList == [43])
  case true => rw [beq_iff_eq.1 t0, opK_0]; exact scal_0 u a b w ha hb (beq_iff_eq.1 t0)
  cases t1 : (u.toList == [45])
  case true => rw [beq_iff_eq.1 t1, opK_1]; exact scal_1 u a b w ha hb (beq_iff_eq.1 t1)
  cases t2 : (u.toList == [42])
  case true => rw [beq_iff_eq.1 t2, opK_2]; exact scal_2 u a b w ha hb (beq_iff_eq.1 t2)
  cases t3 : (u.toList == [47])
  case true => rw [beq_iff_eq.1 t3, opK_3]; exact scal_3 u a b w ha hb (beq_iff_eq.1 t3)
  cases t4 : (u.toList == [37])
  case true => rw [beq_iff_eq.1 t4, opK_4]; exact scal_4 u a b w ha hb (beq_iff_eq.1 t4)
  cases t5 : (u.toList == [94])
  case true => rw [beq_iff_eq.1 t5, opK_5]; exact scal_5 u a b w ha hb (beq_iff_eq.1 t5)
  cases t6 : (u.toList == [61, 61])
  case true => rw [beq_iff_eq.1 t6, opK_6]; exact scal_6 u a b w (beq_iff_eq.1 t6)
  cases t7 : (u.toList == [33, 61])
  case true => rw [beq_iff_eq.1 t7, opK_7]; exact scal_7 u a b w (beq_iff_eq.1 t7)
  cases t8 : (u.toList == [60])
  case true => rw [beq_iff_eq.1 t8, opK_8]; exact scal_8 u a b w (beq_iff_eq.1 t8)
  cases t9 : (u.toList == [60, 61])
  case true => rw [beq_iff_eq.1 t9, opK_9]; exact scal_9 u a b w (beq_iff_eq.1 t9)
  cases t10 : (u.toList == [62])
  case true => rw [beq_iff_eq.1 t10, opK_10]; exact scal_10 u a b w (beq_iff_eq.1 t10)
  cases t11 : (u.toList == [62, 61])
  case true => rw [beq_iff_eq.1 t11, opK_11]; exact scal_11 u a b w (beq_iff_eq.1 t11)
  rw [opK_none t0 t1 t2 t3 t4 t5 t6 t7 t8 t9 t10 t11]
  exact scal_none u a b w t0 t1 t2 t3 t4 t5 t6 t7 t8 t9 t10 t11

theorem alike21_any (x y : Nat) (w : World) : Calls Tryz.prog 30 #[.float .f64 x, .float .f64 y] w fun e w' => e = .returned (.bool (cn x == cn y)) ∧ w = w' := by
  have hx : (FloatKind.f64.format.order x x != some .eq) = isN x := ne_self x
  have hy : (FloatKind.f64.format.order y y != some .eq) = isN y := ne_self y
  have hb := bits_run x
  have hb' := bits_run y
  have key : (cn x == cn y) = (isN x && isN y || (x : Int) == (y : Int)) := by
    rw [Bool.eq_iff_iff, beq_iff_eq, cn_eq_iff]; simp [Int.natCast_inj]
  have Key := Lib.hid key
  clear key
  go_enter Tryz.func30, Tryz.ntmps30
  go_wp2_with (first | simp only [hb] | simp only [hb'])
  all_goals
    go_ret
    refine ⟨?_, rfl⟩
    rw [Key.out]
    simp [*]
end Go.Proofs.YtmmfjknnbkcniaaGreatDoor

namespace Go.Proofs.YtmmfjknnbkcniaaGreatDoor
open Go.Fl Go.Rel Go.RowKit Go.ChangeShapes Go.WideShapes Go.Deep

section
variable {H : Type} {enc : TypeId × Value → H} {P : Program} {w : World} {spare : Nat → Bool} {held : Bool}

end
end Go.Proofs.YtmmfjknnbkcniaaGreatDoor

namespace Go.Bk
open Go.RowKit

theorem Is.setRow {w : World} {B : Nat} {cs : Array Value} {t : TypeId} (h : Is w B cs t) (vs : Array Value) : Is (w.setRow B vs) B vs t := by
  unfold Is World.setRow at *
  simp [Array.getElem?_modify, h]

theorem below_setRow {B k : Nat} {a w : World} (h : Below B a w) (hk : B ≤ k) (vs : Array Value) : Below B a (w.setRow k vs) :=
  h.trans ⟨rfl, rfl, rfl, by simp, fun i hi => by unfold World.setRow; simp [Array.getElem?_modify]; intro e; omega⟩

/-- A guard: is the operation at hand a store of this type? -/
theorem is_store {P : Program} {ops : Array Oper} {rest : List Oper} {o : Oper} {a : Act} {w : World} {Q : Exit → Act → World → Prop} (ty : TypeId) {x y : Operand} (_ho : o.op = .store ty x y) (h : wpList P ops Q (o :: rest) a w) : wpList P ops Q (o :: rest) a w := h

theorem wpList_store_box {P : Program} {ops : Array Oper} {rest : List Oper} {o : Oper} {a : Act} {w0 : World} {N : Nat} {Q : Exit → Act → World → Prop} (hgd : o.guard = none) (ty : TypeId) (x y : Operand) (ho : o.op = .store ty x y)
    (vals zeros : Array Value) (t : TypeId) (hx : a.eval x = .pointer (some ⟨w0.heap.size, 0, none⟩)) (hy : a.eval y = .agg vals)
    (hi : (P.info? ty).map (·.size) = some vals.size) (hold : zeros.size = vals.size) (h1 : vals.all (·.oneCell') = true)
    (h : ∀ W, Is W w0.heap.size vals t → Below w0.heap.size w0 W → wpList P ops Q rest (a.put o.dst undef) W) : wpList P ops Q (o :: rest) a ((w0.drewN N).alloc (.cells zeros t)) := by
  have hm : Is ((w0.drewN N).alloc (.cells zeros t)) w0.heap.size zeros t := Is.made (w0.drewN N) zeros t
  refine wpList_store_row hgd ty x y ho w0.heap.size vals hx hy t zeros hm hi hold h1 ?_
  exact h _ (hm.setRow vals) (below_setRow (((Below.refl _ _).drewN' N).alloc (Nat.le_refl _) _) (Nat.le_refl _) vals)

end Go.Bk

namespace Go.Fl
/-- A label: its name, its value. -/
structure Lb where
  n : ByteArray
  v : ByteArray
instance : Inhabited Lb := ⟨⟨⟨#[]⟩, ⟨#[]⟩⟩⟩
def lbAt (l : List Lb) (i : Nat) : Lb := l.getD i default
def nL (l : List Lb) (i : Nat) : ByteArray := (lbAt l i).n
def vL (l : List Lb) (i : Nat) : ByteArray := (lbAt l i).v
/-- Texts that a machine holds. -/
def SmallT (s : ByteArray) : Prop := s.size ≤ 140737488355328
def SmallL (l : List Lb) : Prop := ∀ i, SmallT (nL l i) ∧ SmallT (vL l i)
theorem lbAt_get {l : List Lb} {i : Nat} (h : i < l.length) : lbAt l i = l[i] := by simp [lbAt, List.getD, h]
end Go.Fl
namespace Go.Proofs.YtmmfjknnbkcniaaGreatDoor
open Go.Fl Go.Rel Go.RowKit Go.ChangeShapes Go.WideShapes Go.Deep

/-- What a slice of labels holds. -/
def LRow (w : World) (a : Option Addr) (n : Nat) (ls : List Lb) : Prop :=
  ls.length = n ∧ n ≤ 9223372036854775807 ∧ SmallL ls ∧
  (0 < n → ∃ b off, a = some ⟨b, off, none⟩ ∧ b < w.heap.size ∧ ∀ i, i < n → w.cell? ⟨b, off + i * 2, none⟩ = some (.string (nL ls i)) ∧ w.cell? ⟨b, off + i * 2 + 1, none⟩ = some (.string (vL ls i)))

theorem LRow.below {w w' : World} {a : Option Addr} {n : Nat} {ls : List Lb} (h : LRow w a n ls) (hb : Below w.heap.size w w') : LRow w' a n ls := by
  obtain ⟨h1, h2, h3, h4⟩ := h
  refine ⟨h1, h2, h3, fun hn => ?_⟩
  obtain ⟨b, off, ha, hlt, hc⟩ := h4 hn
  refine ⟨b, off, ha, Nat.lt_of_lt_of_le hlt hb.size, fun i hi => ?_⟩
  obtain ⟨c0, c1⟩ := hc i hi
  rw [hb.cell (p := ⟨b, off + i * 2, none⟩) hlt, hb.cell (p := ⟨b, off + i * 2 + 1, none⟩) hlt]
  exact ⟨c0, c1⟩
theorem LRow.nothing {w : World} (a : Option Addr) : LRow w a 0 [] := ⟨rfl, by omega, fun i => by unfold nL vL lbAt SmallT; simp; exact ⟨by decide, by decide⟩, fun h => by omega⟩

def lbCells (s : Lb) : List Value := [.string s.n, .string s.v]
theorem lbCells_length (ls : List Lb) : (ls.flatMap lbCells).length = ls.length * 2 := by
  induction ls with
  | nil => rfl
  | cons x xs ih => rw [List.flatMap_cons, List.length_append, ih]; simp [lbCells]; omega
end Go.Proofs.YtmmfjknnbkcniaaGreatDoor

namespace Go.Utf
open Go
set_option linter.unusedVariables false

/-- A byte. -/
def bt (s : ByteArray) (i : Nat) : Nat := (s.get! i).toNat
theorem bt_lt (s : ByteArray) (i : Nat) : bt s i < 256 := (s.get! i).toNat_lt

/-- The width of the rune that four bytes begin with, n of them there; 0: none. -/
def uwB (n b0 b1 b2 b3 : Nat) : Nat :=
  if b0 < 128 then 1
  else if b0 / 32 = 6 ∧ 2 ≤ n ∧ b1 / 64 = 2 then (if 128 ≤ b0 % 32 * 64 + b1 % 64 then 2 else 0)
  else if b0 / 16 = 14 ∧ 3 ≤ n ∧ b1 / 64 = 2 ∧ b2 / 64 = 2 then (if 2048 ≤ b0 % 16 * 4096 + b1 % 64 * 64 + b2 % 64 ∧ (b0 % 16 * 4096 + b1 % 64 * 64 + b2 % 64 < 55296 ∨ 57344 ≤ b0 % 16 * 4096 + b1 % 64 * 64 + b2 % 64) then 3 else 0)
  else if b0 / 8 = 30 ∧ 4 ≤ n ∧ b1 / 64 = 2 ∧ b2 / 64 = 2 ∧ b3 / 64 = 2 then (if 65536 ≤ b0 % 8 * 262144 + b1 % 64 * 4096 + b2 % 64 * 64 + b3 % 64 ∧ b0 % 8 * 262144 + b1 % 64 * 4096 + b2 % 64 * 64 + b3 % 64 ≤ 1114111 then 4 else 0)
  else 0
def uw (s : ByteArray) (i : Nat) : Nat := uwB (s.size - i) (bt s i) (bt s (i + 1)) (bt s (i + 2)) (bt s (i + 3))

/-- Does 0xFFFD itself stand there? -/
def fffd (s : ByteArray) (i : Nat) : Bool := decide (i + 3 ≤ s.size ∧ bt s i = 239 ∧ bt s (i + 1) = 191 ∧ bt s (i + 2) = 189)

theorem decode_uw (s : ByteArray) (i : Nat) (h : i < s.size) :
    (0 < uw s i → (Utf8.decode s i).2 = uw s i ∧ ((Utf8.decode s i).1 = 65533 → fffd s i = true)) ∧ (uw s i = 0 → Utf8.decode s i = (65533, 1) ∧ fffd s i = false) := by
  unfold uw fffd Utf8.decode
  have hb : ∀ k, (s.get! (i + k)).toNat = bt s (i + k) := fun _ => rfl
  have hb0 : (s.get! i).toNat = bt s i := rfl
  simp only [hb, hb0, Nat.add_zero, Utf8.runeError, Utf8.valid]
  have h0 := bt_lt s i
  have h1 := bt_lt s (i + 1)
  have h2 := bt_lt s (i + 2)
  have h3 := bt_lt s (i + 3)
  have p1 : (i + 1 < s.size) ↔ 2 ≤ s.size - i := by omega
  have p2 : (i + 2 < s.size) ↔ 3 ≤ s.size - i := by omega
  have p3 : (i + 3 < s.size) ↔ 4 ≤ s.size - i := by omega
  have p4 : (i + 3 ≤ s.size) ↔ 3 ≤ s.size - i := by omega
  simp only [p1, p2, p3, p4]
  have hn : 1 ≤ s.size - i := by omega
  generalize s.size - i = n at *
  generalize bt s i = b0 at *
  generalize bt s (i + 1) = b1 at *
  generalize bt s (i + 2) = b2 at *
  generalize bt s (i + 3) = b3 at *
  clear hb hb0 p1 p2 p3 p4
  unfold uwB
  by_cases c0 : b0 < 128
  · simp only [c0, if_true]
    exact ⟨fun _ => ⟨trivial, fun h => by omega⟩, fun h => by omega⟩
  simp only [c0, if_false]
  by_cases c1 : b0 / 32 = 6 ∧ 2 ≤ n ∧ b1 / 64 = 2
  · obtain ⟨x1, x2, x3⟩ := c1
    simp only [x1, x2, x3, beq_self_eq_true, decide_true, Bool.and_self, if_true, and_self, ge_iff_le]
    by_cases hc : 128 ≤ b0 % 32 * 64 + b1 % 64
    · simp only [if_pos hc]
      exact ⟨fun _ => ⟨trivial, fun h => by have h2 : b0 % 32 * 64 + b1 % 64 = 65533 := h; omega⟩, fun h => absurd h (by decide)⟩
    · simp only [if_neg hc]
      exact ⟨fun h => absurd h (by decide), fun _ => ⟨trivial, decide_eq_false (by omega)⟩⟩
  have c1' : (b0 / 32 == 6 && (decide (2 ≤ n) && b1 / 64 == 2)) = false := by
    rw [Bool.eq_false_iff]
    simp only [ne_eq, Bool.and_eq_true, beq_iff_eq, decide_eq_true_eq]
    exact c1
  simp only [c1, c1', if_false, Bool.false_eq_true]
  by_cases c2 : b0 / 16 = 14 ∧ 3 ≤ n ∧ b1 / 64 = 2 ∧ b2 / 64 = 2
  · obtain ⟨x1, x2, x3, x4⟩ := c2
    have x5 : 2 ≤ n := by omega
    simp only [x1, x2, x3, x4, x5, beq_self_eq_true, decide_true, Bool.and_self, if_true, and_self, true_and]
    obtain ⟨c, hc⟩ : ∃ c, c = b0 % 16 * 4096 + b1 % 64 * 64 + b2 % 64 := ⟨_, rfl⟩
    rw [← hc]
    generalize hB : (decide (c ≥ 2048) && ((decide ((0 : Int) ≤ (c : Int)) && decide ((c : Int) < 55296)) || (decide ((57344 : Int) ≤ (c : Int)) && decide ((c : Int) ≤ 1114111)))) = B
    have hBv : B = decide (2048 ≤ c ∧ (c < 55296 ∨ 57344 ≤ c)) := by
      rw [← hB, Bool.eq_iff_iff]
      simp only [Bool.and_eq_true, Bool.or_eq_true, decide_eq_true_eq]; omega
    rw [hBv]
    clear hB hBv
    by_cases v : 2048 ≤ c ∧ (c < 55296 ∨ 57344 ≤ c)
    · rw [decide_eq_true v, if_pos v, if_pos rfl]
      exact ⟨fun _ => ⟨rfl, fun h => by have h2 : c = 65533 := h; exact decide_eq_true (by omega)⟩, fun h => absurd h (by decide)⟩
    · rw [decide_eq_false v, if_neg v, if_neg (by decide)]
      exact ⟨fun h => absurd h (by decide), fun _ => ⟨rfl, decide_eq_false (by omega)⟩⟩
  have c2' : (b0 / 16 == 14 && (decide (2 ≤ n) && b1 / 64 == 2) && (decide (3 ≤ n) && b2 / 64 == 2)) = false := by
    rw [Bool.eq_false_iff]
    simp only [ne_eq, Bool.and_eq_true, beq_iff_eq, decide_eq_true_eq]
    intro hh; exact c2 ⟨hh.1.1, hh.2.1, hh.1.2.2, hh.2.2⟩
  simp only [c2, c2', if_false, Bool.false_eq_true]
  by_cases c3 : b0 / 8 = 30 ∧ 4 ≤ n ∧ b1 / 64 = 2 ∧ b2 / 64 = 2 ∧ b3 / 64 = 2
  · obtain ⟨x1, x2, x3, x4, x6⟩ := c3
    have x5 : 2 ≤ n := by omega
    have x7 : 3 ≤ n := by omega
    simp only [x1, x2, x3, x4, x5, x6, x7, beq_self_eq_true, decide_true, Bool.and_self, if_true, and_self, true_and]
    obtain ⟨c, hc⟩ : ∃ c, c = b0 % 8 * 262144 + b1 % 64 * 4096 + b2 % 64 * 64 + b3 % 64 := ⟨_, rfl⟩
    rw [← hc]
    generalize hB : (decide (c ≥ 65536) && ((decide ((0 : Int) ≤ (c : Int)) && decide ((c : Int) < 55296)) || (decide ((57344 : Int) ≤ (c : Int)) && decide ((c : Int) ≤ 1114111)))) = B
    have hBv : B = decide (65536 ≤ c ∧ c ≤ 1114111) := by
      rw [← hB, Bool.eq_iff_iff]
      simp only [Bool.and_eq_true, Bool.or_eq_true, decide_eq_true_eq]; omega
    rw [hBv]
    clear hB hBv
    by_cases v : 65536 ≤ c ∧ c ≤ 1114111
    · rw [decide_eq_true v, if_pos v, if_pos rfl]
      exact ⟨fun _ => ⟨rfl, fun h => by have h2 : c = 65533 := h; omega⟩, fun h => absurd h (by decide)⟩
    · rw [decide_eq_false v, if_neg v, if_neg (by decide)]
      exact ⟨fun h => absurd h (by decide), fun _ => ⟨rfl, decide_eq_false (by omega)⟩⟩
  have c3' : (b0 / 8 == 30 && (decide (2 ≤ n) && b1 / 64 == 2) && (decide (3 ≤ n) && b2 / 64 == 2) && (decide (4 ≤ n) && b3 / 64 == 2)) = false := by
    rw [Bool.eq_false_iff]
    simp only [ne_eq, Bool.and_eq_true, beq_iff_eq, decide_eq_true_eq]
    intro hh; exact c3 ⟨hh.1.1.1, hh.2.1, hh.1.1.2.2, hh.1.2.2, hh.2.2⟩
  simp only [c3, c3', if_false, Bool.false_eq_true]
  refine ⟨fun h => absurd h (by decide), fun _ => ⟨trivial, decide_eq_false (fun hh => ?_)⟩⟩
  exact c2 ⟨by omega, hh.1, by omega, by omega⟩

theorem uw_le (s : ByteArray) (i : Nat) (h : i < s.size) : i + uw s i ≤ s.size := by
  have hn : 1 ≤ s.size - i := by omega
  have : uw s i ≤ s.size - i := by
    unfold uw uwB
    generalize s.size - i = n at *
    repeat' split
    all_goals omega
  omega

/-- Are all runes sound from i on? -/
def okFrom (s : ByteArray) : Nat → Nat → Bool
  | 0, _ => true
  | f + 1, i => if i < s.size then (if uw s i = 0 then false else okFrom s f (i + uw s i)) else true
/-- Is s UTF-8? -/
def utf8B (s : ByteArray) : Bool := okFrom s s.size 0

theorem okFrom_end (s : ByteArray) (f i : Nat) (h : ¬ i < s.size) : okFrom s f i = true := by
  cases f with
  | zero => rfl
  | succ f => simp [okFrom, h]
theorem okFrom_bad (s : ByteArray) (f i : Nat) (h : i < s.size) (hu : uw s i = 0) (hf : s.size ≤ i + f) : okFrom s f i = false := by
  cases f with
  | zero => omega
  | succ f => simp [okFrom, h, hu]
theorem okFrom_step (s : ByteArray) (f i : Nat) (h : i < s.size) (hu : 0 < uw s i) (hf : s.size ≤ i + (f + 1)) : okFrom s (f + 1) i = okFrom s f (i + uw s i) := by
  simp [okFrom, h, show uw s i ≠ 0 by omega]

end Go.Utf

namespace Go.Utf
open Go

theorem ext_list (s : ByteArray) (i k : Nat) (h : i + k ≤ s.size) : (s.extract i (i + k)).toList = (List.range k).map (fun j => s.get! (i + j)) := by
  rw [ByteArray.toList_eq]
  apply List.ext_getElem
  · simp [ByteArray.data_extract]
    have : s.size = s.data.size := rfl
    omega
  · intro j h1 h2
    simp at h2
    have : s.size = s.data.size := rfl
    simp [ByteArray.data_extract, ByteArray.get!]
    rw [getElem!_pos s.data (i + j) (by omega)]

theorem ext3_eq (s : ByteArray) (i : Nat) (h : i + 3 ≤ s.size) : ((s.extract i (i + 3)).toList == [239, 191, 189]) = fffd s i := by
  rw [ext_list s i 3 h]
  have e : (List.range 3).map (fun j => s.get! (i + j)) = [s.get! i, s.get! (i + 1), s.get! (i + 2)] := rfl
  have u : ∀ (x : UInt8) (n : Nat) (hn : n < 256), (x = UInt8.ofNat n) ↔ x.toNat = n := fun x n hn => by
    constructor
    · intro h; rw [h]; simp; omega
    · intro h; rw [← h]; simp
  rw [e]
  unfold fffd bt
  rw [Bool.eq_iff_iff, beq_iff_eq, decide_eq_true_iff]
  simp only [List.cons.injEq, and_true]
  have a := u (s.get! i) 239 (by omega)
  have b := u (s.get! (i + 1)) 191 (by omega)
  have c := u (s.get! (i + 2)) 189 (by omega)
  have e1 : (239 : UInt8) = UInt8.ofNat 239 := rfl
  have e2 : (191 : UInt8) = UInt8.ofNat 191 := rfl
  have e3 : (189 : UInt8) = UInt8.ofNat 189 := rfl
  rw [e1, e2, e3, a, b, c]
  constructor
  · rintro ⟨x, y, z⟩; exact ⟨h, x, y, z⟩
  · rintro ⟨_, x, y, z⟩; exact ⟨x, y, z⟩

end Go.Utf
namespace Go.Proofs.YtmmfjknnbkcniaaGreatDoor
open Go.Fl Go.Rel Go.RowKit Go.Utf
set_option linter.unusedSimpArgs false
set_option linter.unusedVariables false

theorem slice_runU (s : ByteArray) (a b : Int) (A B : Nat) (w : World) (ha : a = (A : Int)) (hb : b = (B : Int)) (h : A ≤ B) (hB : B ≤ s.size) :
    (Instr.slice 9 (.string s) (some (.int .i64 a)) (some (.int .i64 b)) none).run Tryz.prog w = .ok (.string (s.extract A B)) w := by
  subst ha; subst hb
  rw [run_slice_string_if w 9 s .i64 .i64 _ _ Tryz.underlying9, if_pos (by omega), if_pos (by omega)]
  simp

set_option maxRecDepth 100000 in
theorem replaced_any (s : ByteArray) (i : Nat) (w : World) (hi : i ≤ s.size) (hs : s.size ≤ 9223372036854775800) :
    Calls Tryz.prog 89 #[.string s, .int .i64 (i : Int)] w fun e w' => e = .returned (.bool (fffd s i)) ∧ w = w' := by
  have i1 : (0 : Int) ≤ (i : Int) := by omega
  have i2 : (i : Int) ≤ 9223372036854775800 := by omega
  by_cases h : i + 3 ≤ s.size
  · have d1 : decide ((i : Int) + 3 ≤ (s.size : Int)) = true := decide_eq_true (by omega)
    have hsl := fun w => slice_runU s (i : Int) ((i : Int) + 3) i (i + 3) w rfl (by omega) (by omega) h
    have he := ext3_eq s i h
    obtain ⟨B, hB⟩ : ∃ B, fffd s i = B := ⟨_, rfl⟩
    rw [hB] at he ⊢
    clear hB h hi hs
    go_enter Tryz.func89, Tryz.ntmps89
    go_wp2_with (simp only [hsl])
    go_ret
    exact ⟨rfl, rfl⟩
  · have d1 : decide ((i : Int) + 3 ≤ (s.size : Int)) = false := decide_eq_false (by omega)
    have he : fffd s i = false := decide_eq_false (fun hh => h hh.1)
    rw [he]
    clear he h hi hs
    go_enter Tryz.func89, Tryz.ntmps89
    go_wp2_with fail
    go_ret
    exact ⟨rfl, rfl⟩

set_option maxRecDepth 1000000 in
theorem utf_any (s : ByteArray) (w : World) (hs : s.size ≤ 9223372036854775800) :
    Calls Tryz.prog 54 #[.string s] w fun e w' => e = .returned (.bool (utf8B s)) ∧ ∃ pos, w' = w.iter s pos := by
  have HS := Lib.hid hs
  clear hs
  go_enter Tryz.func54, Tryz.ntmps54
  go_wp2
  go_loopw [3, 4] (fun _ _ w' => ∃ (pos f : Nat), w' = w.iter s pos ∧ pos ≤ s.size ∧ Hid (okFrom s f pos = utf8B s) ∧ s.size ≤ pos + f) (fun _ _ w' => s.size - w'.iterPos w.heap.size)
  case atStart => exact ⟨0, s.size, rfl, by omega, Lib.hid rfl, by omega⟩
  case round =>
    obtain ⟨pos, f, rfl, hle, hok, hf⟩ := hrel
    by_cases hp : pos < s.size
    · have hnx : ∀ ty, (Instr.next (.pointer (some ⟨w.heap.size, 0, none⟩)) true ty).run Tryz.prog (w.iter s pos) = _ := fun ty => run_next_any w s pos ty hp
      obtain ⟨D, hD⟩ : ∃ D, Utf8.decode s pos = D := ⟨_, rfl⟩
      have hdu := decode_uw s pos hp
      rw [hD] at hnx hdu
      obtain ⟨c, wd⟩ := D
      have HR := Lib.hid (fun w => replaced_any s pos w hle HS.out)
      by_cases hu : uw s pos = 0
      · obtain ⟨h1, h2⟩ := hdu.2 hu
        cases h1
        rw [h2] at HR
        have HE : Hid (false = utf8B s) := Lib.hid (by rw [← hok.out]; exact (okFrom_bad s f pos hp hu hf).symm)
        clear hok hdu hu hle hf h2 hD
        go_wp2_with (go_at_call 89; refine (HR.out _).mono ?_; rintro e w' ⟨rfl, rfl⟩)
        go_ret
        exact ⟨ret_bool HE.out, _, rfl⟩
      · obtain ⟨h1, h2⟩ := hdu.1 (by omega)
        dsimp only at h1 h2
        have hul := uw_le s pos hp
        obtain ⟨f', rfl⟩ : ∃ f', f = f' + 1 := ⟨f - 1, by omega⟩
        have HOK : Hid (okFrom s f' (pos + wd) = utf8B s) := Lib.hid (by rw [← hok.out, okFrom_step s f' pos hp (by omega) hf, h1])
        have HW : Hid (pos + wd ≤ s.size ∧ 0 < wd ∧ s.size ≤ pos + wd + f' ∧ pos < s.size) := Lib.hid ⟨by omega, by omega, by omega, hp⟩
        by_cases hc : c = 65533
        · have h3 := h2 hc
          rw [h3] at HR
          subst hc
          clear hok hdu hu hle hf h1 h2 hul hD h3
          go_wp2_with (go_at_call 89; refine (HR.out _).mono ?_; rintro e w' ⟨rfl, rfl⟩)
          go_roundw
          case rel => exact ⟨pos + wd, f', rfl, HW.out.1, HOK, HW.out.2.2.1⟩
          case measure => have := HW.out; simp; omega
        · have d1 : ((c : Int) == 65533) = false := by simp; omega
          clear hok hdu hu hle hf h1 h2 hul hD hc
          go_wp2_with fail
          go_roundw
          case rel => exact ⟨pos + wd, f', rfl, HW.out.1, HOK, HW.out.2.2.1⟩
          case measure => have := HW.out; simp; omega
    · have hnx : ∀ ty, (Instr.next (.pointer (some ⟨w.heap.size, 0, none⟩)) true ty).run Tryz.prog (w.iter s pos) = _ := fun ty => run_next_end w s pos ty hp
      have HE : Hid (true = utf8B s) := Lib.hid (by rw [← hok.out]; exact (okFrom_end s f pos hp).symm)
      clear hok hle hf
      go_wp2_with fail
      go_ret
      exact ⟨ret_bool HE.out, _, rfl⟩

end Go.Proofs.YtmmfjknnbkcniaaGreatDoor

namespace Go.Proofs.YtmmfjknnbkcniaaGreatDoor
open Go.Fl Go.Rel Go.RowKit Go.Utf
set_option linter.unusedSimpArgs false
set_option linter.unusedVariables false

end Go.Proofs.YtmmfjknnbkcniaaGreatDoor

namespace Go.Utf
open Go
set_option linter.unusedVariables false
theorem bt_get (s : ByteArray) {i : Nat} (h : i < s.size) : (s[i]'h).toNat = bt s i := by
  unfold bt
  rw [← get_at s i h]
  rfl

end Go.Utf
namespace Go.Proofs.YtmmfjknnbkcniaaGreatDoor
open Go.Fl Go.Rel Go.RowKit Go.Utf
set_option linter.unusedSimpArgs false
set_option linter.unusedVariables false

end Go.Proofs.YtmmfjknnbkcniaaGreatDoor

namespace Go.Proofs.YtmmfjknnbkcniaaGreatDoor
open Go.Fl Go.Rel Go.RowKit Go.Utf
set_option linter.unusedSimpArgs false
set_option linter.unusedVariables false

end Go.Proofs.YtmmfjknnbkcniaaGreatDoor
