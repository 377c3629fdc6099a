/- pair.Scalars and weirref21.Scalars: one number, one error. -/
import Derived.Test.YtmmfjknnbkcniaaGreatDoorV21
set_option maxHeartbeats 64000000
set_option maxRecDepth 100000
namespace Go.Proofs.YtmmfjknnbkcniaaGreatDoor
open Go.Fl Go.Rel Go.RowKit
set_option linter.unusedSimpArgs false
set_option linter.unusedVariables false
noncomputable def valS (k a b : Nat) : Nat := match k with
 | 0 => fadd (cn a) (cn b) | 1 => fsub (cn a) (cn b) | 2 => fmul (cn a) (cn b) | 3 => fdiv (cn a) (cn b) | 4 => modS a b | 5 => powS a b | _ => 0
def holdsS (k a b : Nat) : Bool := match k with
 | 6 => ford a b == some .eq | 7 => ford a b != some .eq | 8 => ford a b == some .lt | 9 => ford a b == some .lt || ford a b == some .eq | 10 => ford a b == some .gt | 11 => ford a b == some .gt || ford a b == some .eq | _ => false
def opL : List (List UInt8) := [[43], [45], [42], [47], [37], [94], [61, 61], [33, 61], [60], [60, 61], [62], [62, 61]]
def opK (l : List UInt8) : Nat := opL.findIdx (· == l)
theorem opK_0 : opK [43] = 0 := by decide
theorem opK_1 : opK [45] = 1 := by decide
theorem opK_2 : opK [42] = 2 := by decide
theorem opK_3 : opK [47] = 3 := by decide
theorem opK_4 : opK [37] = 4 := by decide
theorem opK_5 : opK [94] = 5 := by decide
theorem opK_6 : opK [61, 61] = 6 := by decide
theorem opK_7 : opK [33, 61] = 7 := by decide
theorem opK_8 : opK [60] = 8 := by decide
theorem opK_9 : opK [60, 61] = 9 := by decide
theorem opK_10 : opK [62] = 10 := by decide
theorem opK_11 : opK [62, 61] = 11 := by decide
theorem opK_none {l : List UInt8} (h0 : (l == [43]) = false) (h1 : (l == [45]) = false) (h2 : (l == [42]) = false) (h3 : (l == [47]) = false) (h4 : (l == [37]) = false) (h5 : (l == [94]) = false) (h6 : (l == [61, 61]) = false) (h7 : (l == [33, 61]) = false) (h8 : (l == [60]) = false) (h9 : (l == [60, 61]) = false) (h10 : (l == [62]) = false) (h11 : (l == [62, 61]) = false) : opK l = 12 := by
 unfold opK opL
 have s : ∀ a b : List UInt8, (a == b) = (b == a) := fun a b => by rw [Bool.eq_iff_iff, beq_iff_eq, beq_iff_eq]; exact eq_comm
 simp only [List.findIdx_cons, List.findIdx_nil, s _ l, h0, h1, h2, h3, h4, h5, h6, h7, h8, h9, h10, h11, cond_false]
theorem reck_0 (u : ByteArray) (a b : Nat) (w : World) (ha : W64 a) (hb : W64 b) (hl : u.toList = [43]) : Calls Tryz.prog 33 #[.string u, .float .f64 a, .float .f64 b] w fun e w' => ∃ r n, e = .returned (.tuple #[.float .f64 r, .bool true]) ∧ cn r = valS 0 a b ∧ w' = w.drewN n := by
 have t0 : (u.toList == [43]) = true := by rw [hl]; decide
 have t1 : (u.toList == [45]) = false := by rw [hl]; decide
 have t2 : (u.toList == [42]) = false := by rw [hl]; decide
 have t3 : (u.toList == [47]) = false := by rw [hl]; decide
 have t4 : (u.toList == [37]) = false := by rw [hl]; decide
 have t5 : (u.toList == [94]) = false := by rw [hl]; decide
 have HA := qh ha
 have HB := qh hb
 clear ha hb hl
 go_enter Tryz.func33, Tryz.ntmps33
 go_wp2_with (refine wpList_fop .add _ _ _ _ a b rfl rfl rfl ?_; intro r n hr; have HR := qh hr; clear hr)
 go_ret2
 exact ⟨r, n, rfl, HR.out, by first | rfl | (simp only [World.drewN_drewN]; rfl)⟩
theorem reck_1 (u : ByteArray) (a b : Nat) (w : World) (ha : W64 a) (hb : W64 b) (hl : u.toList = [45]) : Calls Tryz.prog 33 #[.string u, .float .f64 a, .float .f64 b] w fun e w' => ∃ r n, e = .returned (.tuple #[.float .f64 r, .bool true]) ∧ cn r = valS 1 a b ∧ w' = w.drewN n := by
 have t0 : (u.toList == [43]) = false := by rw [hl]; decide
 have t1 : (u.toList == [45]) = true := by rw [hl]; decide
 have t2 : (u.toList == [42]) = false := by rw [hl]; decide
 have t3 : (u.toList == [47]) = false := by rw [hl]; decide
 have t4 : (u.toList == [37]) = false := by rw [hl]; decide
 have t5 : (u.toList == [94]) = false := by rw [hl]; decide
 have HA := qh ha
 have HB := qh hb
 clear ha hb hl
 go_enter Tryz.func33, Tryz.ntmps33
 go_wp2_with (refine wpList_fop .sub _ _ _ _ a b rfl rfl rfl ?_; intro r n hr; have HR := qh hr; clear hr)
 go_ret2
 exact ⟨r, n, rfl, HR.out, by first | rfl | (simp only [World.drewN_drewN]; rfl)⟩
theorem reck_2 (u : ByteArray) (a b : Nat) (w : World) (ha : W64 a) (hb : W64 b) (hl : u.toList = [42]) : Calls Tryz.prog 33 #[.string u, .float .f64 a, .float .f64 b] w fun e w' => ∃ r n, e = .returned (.tuple #[.float .f64 r, .bool true]) ∧ cn r = valS 2 a b ∧ w' = w.drewN n := by
 have t0 : (u.toList == [43]) = false := by rw [hl]; decide
 have t1 : (u.toList == [45]) = false := by rw [hl]; decide
 have t2 : (u.toList == [42]) = true := by rw [hl]; decide
 have t3 : (u.toList == [47]) = false := by rw [hl]; decide
 have t4 : (u.toList == [37]) = false := by rw [hl]; decide
 have t5 : (u.toList == [94]) = false := by rw [hl]; decide
 have HA := qh ha
 have HB := qh hb
 clear ha hb hl
 go_enter Tryz.func33, Tryz.ntmps33
 go_wp2_with (refine wpList_fop .mul _ _ _ _ a b rfl rfl rfl ?_; intro r n hr; have HR := qh hr; clear hr)
 go_ret2
 exact ⟨r, n, rfl, HR.out, by first | rfl | (simp only [World.drewN_drewN]; rfl)⟩
theorem reck_3 (u : ByteArray) (a b : Nat) (w : World) (ha : W64 a) (hb : W64 b) (hl : u.toList = [47]) : Calls Tryz.prog 33 #[.string u, .float .f64 a, .float .f64 b] w fun e w' => ∃ r n, e = .returned (.tuple #[.float .f64 r, .bool true]) ∧ cn r = valS 3 a b ∧ w' = w.drewN n := by
 have t0 : (u.toList == [43]) = false := by rw [hl]; decide
 have t1 : (u.toList == [45]) = false := by rw [hl]; decide
 have t2 : (u.toList == [42]) = false := by rw [hl]; decide
 have t3 : (u.toList == [47]) = true := by rw [hl]; decide
 have t4 : (u.toList == [37]) = false := by rw [hl]; decide
 have t5 : (u.toList == [94]) = false := by rw [hl]; decide
 have HA := qh ha
 have HB := qh hb
 clear ha hb hl
 go_enter Tryz.func33, Tryz.ntmps33
 go_wp2_with (refine wpList_fop .quo _ _ _ _ a b rfl rfl rfl ?_; intro r n hr; have HR := qh hr; clear hr)
 go_ret2
 exact ⟨r, n, rfl, HR.out, by first | rfl | (simp only [World.drewN_drewN]; rfl)⟩
theorem reck_4 (u : ByteArray) (a b : Nat) (w : World) (ha : W64 a) (hb : W64 b) (hl : u.toList = [37]) : Calls Tryz.prog 33 #[.string u, .float .f64 a, .float .f64 b] w fun e w' => ∃ r n, e = .returned (.tuple #[.float .f64 r, .bool true]) ∧ cn r = valS 4 a b ∧ w' = w.drewN n := by
 have t0 : (u.toList == [43]) = false := by rw [hl]; decide
 have t1 : (u.toList == [45]) = false := by rw [hl]; decide
 have t2 : (u.toList == [42]) = false := by rw [hl]; decide
 have t3 : (u.toList == [47]) = false := by rw [hl]; decide
 have t4 : (u.toList == [37]) = true := by rw [hl]; decide
 have t5 : (u.toList == [94]) = false := by rw [hl]; decide
 have HA := qh ha
 have HB := qh hb
 clear ha hb hl
 go_enter Tryz.func33, Tryz.ntmps33
 go_wp2_with (go_at_call 51; refine (cmod_any _ _ _ HA.out).mono ?_; rintro e w' ⟨r, n, rfl, hr, rfl⟩; have HR := qh hr; clear hr)
 go_ret2
 exact ⟨r, n, rfl, HR.out, by first | rfl | (simp only [World.drewN_drewN]; rfl)⟩
theorem reck_5 (u : ByteArray) (a b : Nat) (w : World) (ha : W64 a) (hb : W64 b) (hl : u.toList = [94]) : Calls Tryz.prog 33 #[.string u, .float .f64 a, .float .f64 b] w fun e w' => ∃ r n, e = .returned (.tuple #[.float .f64 r, .bool true]) ∧ cn r = valS 5 a b ∧ w' = w.drewN n := by
 have t0 : (u.toList == [43]) = false := by rw [hl]; decide
 have t1 : (u.toList == [45]) = false := by rw [hl]; decide
 have t2 : (u.toList == [42]) = false := by rw [hl]; decide
 have t3 : (u.toList == [47]) = false := by rw [hl]; decide
 have t4 : (u.toList == [37]) = false := by rw [hl]; decide
 have t5 : (u.toList == [94]) = true := by rw [hl]; decide
 have HA := qh ha
 have HB := qh hb
 clear ha hb hl
 go_enter Tryz.func33, Tryz.ntmps33
 go_wp2_with (go_at_call 52; refine (pow_any _ _ _ HA.out).mono ?_; rintro e w' ⟨r, n, rfl, hr, rfl⟩; have HR := qh hr; clear hr)
 go_ret2
 exact ⟨r, n, rfl, HR.out, by first | rfl | (simp only [World.drewN_drewN]; rfl)⟩
theorem reck_none (u : ByteArray) (a b : Nat) (w : World) (t0 : (u.toList == [43]) = false) (t1 : (u.toList == [45]) = false) (t2 : (u.toList == [42]) = false) (t3 : (u.toList == [47]) = false) (t4 : (u.toList == [37]) = false) (t5 : (u.toList == [94]) = false) : Calls Tryz.prog 33 #[.string u, .float .f64 a, .float .f64 b] w fun e w' => e = .returned (.tuple #[.float .f64 0, .bool false]) ∧ w = w' := by
 go_enter Tryz.func33, Tryz.ntmps33
 go_wp2_with fail
 go_ret2
 exact ⟨rfl, rfl⟩
theorem hold_6 (u : ByteArray) (a b : Nat) (w : World) (hl : u.toList = [61, 61]) : Calls Tryz.prog 34 #[.string u, .float .f64 a, .float .f64 b] w fun e w' => e = .returned (.tuple #[.bool (holdsS 6 a b), .bool true]) ∧ w = w' := by
 have t6 : (u.toList == [61, 61]) = true := by rw [hl]; decide
 have t7 : (u.toList == [33, 61]) = false := by rw [hl]; decide
 have t8 : (u.toList == [60]) = false := by rw [hl]; decide
 have t9 : (u.toList == [60, 61]) = false := by rw [hl]; decide
 have t10 : (u.toList == [62]) = false := by rw [hl]; decide
 have t11 : (u.toList == [62, 61]) = false := by rw [hl]; decide
 obtain ⟨B, hB⟩ : ∃ B, (FloatKind.f64.format.order a b == some .eq) = B := ⟨_, rfl⟩
 have hB2 : holdsS 6 a b = B := hB
 rw [hB2]
 clear hl hB2
 go_enter Tryz.func34, Tryz.ntmps34
 go_wp2_with fail
 go_ret2
 exact ⟨rfl, rfl⟩
theorem hold_7 (u : ByteArray) (a b : Nat) (w : World) (hl : u.toList = [33, 61]) : Calls Tryz.prog 34 #[.string u, .float .f64 a, .float .f64 b] w fun e w' => e = .returned (.tuple #[.bool (holdsS 7 a b), .bool true]) ∧ w = w' := by
 have t6 : (u.toList == [61, 61]) = false := by rw [hl]; decide
 have t7 : (u.toList == [33, 61]) = true := by rw [hl]; decide
 have t8 : (u.toList == [60]) = false := by rw [hl]; decide
 have t9 : (u.toList == [60, 61]) = false := by rw [hl]; decide
 have t10 : (u.toList == [62]) = false := by rw [hl]; decide
 have t11 : (u.toList == [62, 61]) = false := by rw [hl]; decide
 obtain ⟨B, hB⟩ : ∃ B, (FloatKind.f64.format.order a b != some .eq) = B := ⟨_, rfl⟩
 have hB2 : holdsS 7 a b = B := hB
 rw [hB2]
 clear hl hB2
 go_enter Tryz.func34, Tryz.ntmps34
 go_wp2_with fail
 go_ret2
 exact ⟨rfl, rfl⟩
theorem hold_8 (u : ByteArray) (a b : Nat) (w : World) (hl : u.toList = [60]) : Calls Tryz.prog 34 #[.string u, .float .f64 a, .float .f64 b] w fun e w' => e = .returned (.tuple #[.bool (holdsS 8 a b), .bool true]) ∧ w = w' := by
 have t6 : (u.toList == [61, 61]) = false := by rw [hl]; decide
 have t7 : (u.toList == [33, 61]) = false := by rw [hl]; decide
 have t8 : (u.toList == [60]) = true := by rw [hl]; decide
 have t9 : (u.toList == [60, 61]) = false := by rw [hl]; decide
 have t10 : (u.toList == [62]) = false := by rw [hl]; decide
 have t11 : (u.toList == [62, 61]) = false := by rw [hl]; decide
 obtain ⟨B, hB⟩ : ∃ B, (FloatKind.f64.format.order a b == some .lt) = B := ⟨_, rfl⟩
 have hB2 : holdsS 8 a b = B := hB
 rw [hB2]
 clear hl hB2
 go_enter Tryz.func34, Tryz.ntmps34
 go_wp2_with fail
 go_ret2
 exact ⟨rfl, rfl⟩
theorem hold_9 (u : ByteArray) (a b : Nat) (w : World) (hl : u.toList = [60, 61]) : Calls Tryz.prog 34 #[.string u, .float .f64 a, .float .f64 b] w fun e w' => e = .returned (.tuple #[.bool (holdsS 9 a b), .bool true]) ∧ w = w' := by
 have t6 : (u.toList == [61, 61]) = false := by rw [hl]; decide
 have t7 : (u.toList == [33, 61]) = false := by rw [hl]; decide
 have t8 : (u.toList == [60]) = false := by rw [hl]; decide
 have t9 : (u.toList == [60, 61]) = true := by rw [hl]; decide
 have t10 : (u.toList == [62]) = false := by rw [hl]; decide
 have t11 : (u.toList == [62, 61]) = false := by rw [hl]; decide
 obtain ⟨B, hB⟩ : ∃ B, (FloatKind.f64.format.order a b == some .lt || FloatKind.f64.format.order a b == some .eq) = B := ⟨_, rfl⟩
 have hB2 : holdsS 9 a b = B := hB
 rw [hB2]
 clear hl hB2
 go_enter Tryz.func34, Tryz.ntmps34
 go_wp2_with fail
 go_ret2
 exact ⟨rfl, rfl⟩
theorem hold_10 (u : ByteArray) (a b : Nat) (w : World) (hl : u.toList = [62]) : Calls Tryz.prog 34 #[.string u, .float .f64 a, .float .f64 b] w fun e w' => e = .returned (.tuple #[.bool (holdsS 10 a b), .bool true]) ∧ w = w' := by
 have t6 : (u.toList == [61, 61]) = false := by rw [hl]; decide
 have t7 : (u.toList == [33, 61]) = false := by rw [hl]; decide
 have t8 : (u.toList == [60]) = false := by rw [hl]; decide
 have t9 : (u.toList == [60, 61]) = false := by rw [hl]; decide
 have t10 : (u.toList == [62]) = true := by rw [hl]; decide
 have t11 : (u.toList == [62, 61]) = false := by rw [hl]; decide
 obtain ⟨B, hB⟩ : ∃ B, (FloatKind.f64.format.order a b == some .gt) = B := ⟨_, rfl⟩
 have hB2 : holdsS 10 a b = B := hB
 rw [hB2]
 clear hl hB2
 go_enter Tryz.func34, Tryz.ntmps34
 go_wp2_with fail
 go_ret2
 exact ⟨rfl, rfl⟩
theorem hold_11 (u : ByteArray) (a b : Nat) (w : World) (hl : u.toList = [62, 61]) : Calls Tryz.prog 34 #[.string u, .float .f64 a, .float .f64 b] w fun e w' => e = .returned (.tuple #[.bool (holdsS 11 a b), .bool true]) ∧ w = w' := by
 have t6 : (u.toList == [61, 61]) = false := by rw [hl]; decide
 have t7 : (u.toList == [33, 61]) = false := by rw [hl]; decide
 have t8 : (u.toList == [60]) = false := by rw [hl]; decide
 have t9 : (u.toList == [60, 61]) = false := by rw [hl]; decide
 have t10 : (u.toList == [62]) = false := by rw [hl]; decide
 have t11 : (u.toList == [62, 61]) = true := by rw [hl]; decide
 obtain ⟨B, hB⟩ : ∃ B, (FloatKind.f64.format.order a b == some .gt || FloatKind.f64.format.order a b == some .eq) = B := ⟨_, rfl⟩
 have hB2 : holdsS 11 a b = B := hB
 rw [hB2]
 clear hl hB2
 go_enter Tryz.func34, Tryz.ntmps34
 go_wp2_with fail
 go_ret2
 exact ⟨rfl, rfl⟩
theorem hold_none (u : ByteArray) (a b : Nat) (w : World) (t6 : (u.toList == [61, 61]) = false) (t7 : (u.toList == [33, 61]) = false) (t8 : (u.toList == [60]) = false) (t9 : (u.toList == [60, 61]) = false) (t10 : (u.toList == [62]) = false) (t11 : (u.toList == [62, 61]) = false) : Calls Tryz.prog 34 #[.string u, .float .f64 a, .float .f64 b] w fun e w' => e = .returned (.tuple #[.bool false, .bool false]) ∧ w = w' := by
 go_enter Tryz.func34, Tryz.ntmps34
 go_wp2_with fail
 go_ret2
 exact ⟨rfl, rfl⟩
def tru (b : Bool) : Nat := if b then 4607182418800017408 else 0
theorem truth_any (b : Bool) (w : World) : Calls Tryz.prog 35 #[.bool b] w fun e w' => e = .returned (.float .f64 (tru b)) ∧ w = w' := by
 cases b
 ·go_enter Tryz.func35, Tryz.ntmps35
  go_wp2_with fail
  go_ret
  exact ⟨rfl, rfl⟩
 ·go_enter Tryz.func35, Tryz.ntmps35
  go_wp2_with fail
  go_ret
  exact ⟨rfl, rfl⟩
theorem yesno_any (b : Bool) (w : World) : Calls Tryz.prog 66 #[.bool b] w fun e w' => e = .returned (.float .f64 (tru b)) ∧ w = w' := by
 cases b
 ·go_enter Tryz.func66, Tryz.ntmps66
  go_wp2_with fail
  go_ret
  exact ⟨rfl, rfl⟩
 ·go_enter Tryz.func66, Tryz.ntmps66
  go_wp2_with fail
  go_ret
  exact ⟨rfl, rfl⟩
theorem cn_tru (b : Bool) : cn (tru b) = if b then w1 else 0 := by cases b <;> decide +kernel
theorem kind_0 (u : ByteArray) (w : World) (hl : u.toList = [43]) : Calls Tryz.prog 42 #[.string u] w fun e w' => e = .returned (.int .i64 1) ∧ w = w' := by
 have t0 : (u.toList == [43]) = true := by rw [hl]; decide
 clear hl
 go_enter Tryz.func42, Tryz.ntmps42
 go_wp2_with fail
 go_ret
 exact ⟨rfl, rfl⟩
theorem kind_1 (u : ByteArray) (w : World) (hl : u.toList = [45]) : Calls Tryz.prog 42 #[.string u] w fun e w' => e = .returned (.int .i64 1) ∧ w = w' := by
 have t0 : (u.toList == [43]) = false := by rw [hl]; decide
 have t1 : (u.toList == [45]) = true := by rw [hl]; decide
 clear hl
 go_enter Tryz.func42, Tryz.ntmps42
 go_wp2_with fail
 go_ret
 exact ⟨rfl, rfl⟩
theorem kind_2 (u : ByteArray) (w : World) (hl : u.toList = [42]) : Calls Tryz.prog 42 #[.string u] w fun e w' => e = .returned (.int .i64 1) ∧ w = w' := by
 have t0 : (u.toList == [43]) = false := by rw [hl]; decide
 have t1 : (u.toList == [45]) = false := by rw [hl]; decide
 have t2 : (u.toList == [42]) = true := by rw [hl]; decide
 clear hl
 go_enter Tryz.func42, Tryz.ntmps42
 go_wp2_with fail
 go_ret
 exact ⟨rfl, rfl⟩
theorem kind_3 (u : ByteArray) (w : World) (hl : u.toList = [47]) : Calls Tryz.prog 42 #[.string u] w fun e w' => e = .returned (.int .i64 1) ∧ w = w' := by
 have t0 : (u.toList == [43]) = false := by rw [hl]; decide
 have t1 : (u.toList == [45]) = false := by rw [hl]; decide
 have t2 : (u.toList == [42]) = false := by rw [hl]; decide
 have t3 : (u.toList == [47]) = true := by rw [hl]; decide
 clear hl
 go_enter Tryz.func42, Tryz.ntmps42
 go_wp2_with fail
 go_ret
 exact ⟨rfl, rfl⟩
theorem kind_4 (u : ByteArray) (w : World) (hl : u.toList = [37]) : Calls Tryz.prog 42 #[.string u] w fun e w' => e = .returned (.int .i64 1) ∧ w = w' := by
 have t0 : (u.toList == [43]) = false := by rw [hl]; decide
 have t1 : (u.toList == [45]) = false := by rw [hl]; decide
 have t2 : (u.toList == [42]) = false := by rw [hl]; decide
 have t3 : (u.toList == [47]) = false := by rw [hl]; decide
 have t4 : (u.toList == [37]) = true := by rw [hl]; decide
 clear hl
 go_enter Tryz.func42, Tryz.ntmps42
 go_wp2_with fail
 go_ret
 exact ⟨rfl, rfl⟩
theorem kind_5 (u : ByteArray) (w : World) (hl : u.toList = [94]) : Calls Tryz.prog 42 #[.string u] w fun e w' => e = .returned (.int .i64 1) ∧ w = w' := by
 have t0 : (u.toList == [43]) = false := by rw [hl]; decide
 have t1 : (u.toList == [45]) = false := by rw [hl]; decide
 have t2 : (u.toList == [42]) = false := by rw [hl]; decide
 have t3 : (u.toList == [47]) = false := by rw [hl]; decide
 have t4 : (u.toList == [37]) = false := by rw [hl]; decide
 have t5 : (u.toList == [94]) = true := by rw [hl]; decide
 clear hl
 go_enter Tryz.func42, Tryz.ntmps42
 go_wp2_with fail
 go_ret
 exact ⟨rfl, rfl⟩
theorem kind_6 (u : ByteArray) (w : World) (hl : u.toList = [61, 61]) : Calls Tryz.prog 42 #[.string u] w fun e w' => e = .returned (.int .i64 2) ∧ w = w' := by
 have t0 : (u.toList == [43]) = false := by rw [hl]; decide
 have t1 : (u.toList == [45]) = false := by rw [hl]; decide
 have t2 : (u.toList == [42]) = false := by rw [hl]; decide
 have t3 : (u.toList == [47]) = false := by rw [hl]; decide
 have t4 : (u.toList == [37]) = false := by rw [hl]; decide
 have t5 : (u.toList == [94]) = false := by rw [hl]; decide
 have t6 : (u.toList == [61, 61]) = true := by rw [hl]; decide
 clear hl
 go_enter Tryz.func42, Tryz.ntmps42
 go_wp2_with fail
 go_ret
 exact ⟨rfl, rfl⟩
theorem kind_7 (u : ByteArray) (w : World) (hl : u.toList = [33, 61]) : Calls Tryz.prog 42 #[.string u] w fun e w' => e = .returned (.int .i64 2) ∧ w = w' := by
 have t0 : (u.toList == [43]) = false := by rw [hl]; decide
 have t1 : (u.toList == [45]) = false := by rw [hl]; decide
 have t2 : (u.toList == [42]) = false := by rw [hl]; decide
 have t3 : (u.toList == [47]) = false := by rw [hl]; decide
 have t4 : (u.toList == [37]) = false := by rw [hl]; decide
 have t5 : (u.toList == [94]) = false := by rw [hl]; decide
 have t6 : (u.toList == [61, 61]) = false := by rw [hl]; decide
 have t7 : (u.toList == [33, 61]) = true := by rw [hl]; decide
 clear hl
 go_enter Tryz.func42, Tryz.ntmps42
 go_wp2_with fail
 go_ret
 exact ⟨rfl, rfl⟩
theorem kind_8 (u : ByteArray) (w : World) (hl : u.toList = [60]) : Calls Tryz.prog 42 #[.string u] w fun e w' => e = .returned (.int .i64 2) ∧ w = w' := by
 have t0 : (u.toList == [43]) = false := by rw [hl]; decide
 have t1 : (u.toList == [45]) = false := by rw [hl]; decide
 have t2 : (u.toList == [42]) = false := by rw [hl]; decide
 have t3 : (u.toList == [47]) = false := by rw [hl]; decide
 have t4 : (u.toList == [37]) = false := by rw [hl]; decide
 have t5 : (u.toList == [94]) = false := by rw [hl]; decide
 have t6 : (u.toList == [61, 61]) = false := by rw [hl]; decide
 have t7 : (u.toList == [33, 61]) = false := by rw [hl]; decide
 have t8 : (u.toList == [60]) = true := by rw [hl]; decide
 clear hl
 go_enter Tryz.func42, Tryz.ntmps42
 go_wp2_with fail
 go_ret
 exact ⟨rfl, rfl⟩
theorem kind_9 (u : ByteArray) (w : World) (hl : u.toList = [60, 61]) : Calls Tryz.prog 42 #[.string u] w fun e w' => e = .returned (.int .i64 2) ∧ w = w' := by
 have t0 : (u.toList == [43]) = false := by rw [hl]; decide
 have t1 : (u.toList == [45]) = false := by rw [hl]; decide
 have t2 : (u.toList == [42]) = false := by rw [hl]; decide
 have t3 : (u.toList == [47]) = false := by rw [hl]; decide
 have t4 : (u.toList == [37]) = false := by rw [hl]; decide
 have t5 : (u.toList == [94]) = false := by rw [hl]; decide
 have t6 : (u.toList == [61, 61]) = false := by rw [hl]; decide
 have t7 : (u.toList == [33, 61]) = false := by rw [hl]; decide
 have t8 : (u.toList == [60]) = false := by rw [hl]; decide
 have t9 : (u.toList == [60, 61]) = true := by rw [hl]; decide
 clear hl
 go_enter Tryz.func42, Tryz.ntmps42
 go_wp2_with fail
 go_ret
 exact ⟨rfl, rfl⟩
theorem kind_10 (u : ByteArray) (w : World) (hl : u.toList = [62]) : Calls Tryz.prog 42 #[.string u] w fun e w' => e = .returned (.int .i64 2) ∧ w = w' := by
 have t0 : (u.toList == [43]) = false := by rw [hl]; decide
 have t1 : (u.toList == [45]) = false := by rw [hl]; decide
 have t2 : (u.toList == [42]) = false := by rw [hl]; decide
 have t3 : (u.toList == [47]) = false := by rw [hl]; decide
 have t4 : (u.toList == [37]) = false := by rw [hl]; decide
 have t5 : (u.toList == [94]) = false := by rw [hl]; decide
 have t6 : (u.toList == [61, 61]) = false := by rw [hl]; decide
 have t7 : (u.toList == [33, 61]) = false := by rw [hl]; decide
 have t8 : (u.toList == [60]) = false := by rw [hl]; decide
 have t9 : (u.toList == [60, 61]) = false := by rw [hl]; decide
 have t10 : (u.toList == [62]) = true := by rw [hl]; decide
 clear hl
 go_enter Tryz.func42, Tryz.ntmps42
 go_wp2_with fail
 go_ret
 exact ⟨rfl, rfl⟩
theorem kind_11 (u : ByteArray) (w : World) (hl : u.toList = [62, 61]) : Calls Tryz.prog 42 #[.string u] w fun e w' => e = .returned (.int .i64 2) ∧ w = w' := by
 have t0 : (u.toList == [43]) = false := by rw [hl]; decide
 have t1 : (u.toList == [45]) = false := by rw [hl]; decide
 have t2 : (u.toList == [42]) = false := by rw [hl]; decide
 have t3 : (u.toList == [47]) = false := by rw [hl]; decide
 have t4 : (u.toList == [37]) = false := by rw [hl]; decide
 have t5 : (u.toList == [94]) = false := by rw [hl]; decide
 have t6 : (u.toList == [61, 61]) = false := by rw [hl]; decide
 have t7 : (u.toList == [33, 61]) = false := by rw [hl]; decide
 have t8 : (u.toList == [60]) = false := by rw [hl]; decide
 have t9 : (u.toList == [60, 61]) = false := by rw [hl]; decide
 have t10 : (u.toList == [62]) = false := by rw [hl]; decide
 have t11 : (u.toList == [62, 61]) = true := by rw [hl]; decide
 clear hl
 go_enter Tryz.func42, Tryz.ntmps42
 go_wp2_with fail
 go_ret
 exact ⟨rfl, rfl⟩
theorem rval_0 (u : ByteArray) (a b : Nat) (w : World) (ha : W64 a) (hb : W64 b) (hl : u.toList = [43]) : Calls Tryz.prog 65 #[.string u, .float .f64 a, .float .f64 b] w (FRet (valS 0 a b) w) := by
 have t0 : (u.toList == [43]) = true := by rw [hl]; decide
 have HA := qh ha
 have HB := qh hb
 clear ha hb hl
 go_enter Tryz.func65, Tryz.ntmps65
 go_wp2_with (refine wpList_fop .add _ _ _ _ a b rfl rfl rfl ?_; intro r n hr; have HR := qh hr; clear hr)
 go_ret
 exact ⟨r, n, rfl, HR.out, by first | rfl | (simp only [World.drewN_drewN]; rfl)⟩
theorem rval_1 (u : ByteArray) (a b : Nat) (w : World) (ha : W64 a) (hb : W64 b) (hl : u.toList = [45]) : Calls Tryz.prog 65 #[.string u, .float .f64 a, .float .f64 b] w (FRet (valS 1 a b) w) := by
 have t0 : (u.toList == [43]) = false := by rw [hl]; decide
 have t1 : (u.toList == [45]) = true := by rw [hl]; decide
 have HA := qh ha
 have HB := qh hb
 clear ha hb hl
 go_enter Tryz.func65, Tryz.ntmps65
 go_wp2_with (refine wpList_fop .sub _ _ _ _ a b rfl rfl rfl ?_; intro r n hr; have HR := qh hr; clear hr)
 go_ret
 exact ⟨r, n, rfl, HR.out, by first | rfl | (simp only [World.drewN_drewN]; rfl)⟩
theorem rval_2 (u : ByteArray) (a b : Nat) (w : World) (ha : W64 a) (hb : W64 b) (hl : u.toList = [42]) : Calls Tryz.prog 65 #[.string u, .float .f64 a, .float .f64 b] w (FRet (valS 2 a b) w) := by
 have t0 : (u.toList == [43]) = false := by rw [hl]; decide
 have t1 : (u.toList == [45]) = false := by rw [hl]; decide
 have t2 : (u.toList == [42]) = true := by rw [hl]; decide
 have HA := qh ha
 have HB := qh hb
 clear ha hb hl
 go_enter Tryz.func65, Tryz.ntmps65
 go_wp2_with (refine wpList_fop .mul _ _ _ _ a b rfl rfl rfl ?_; intro r n hr; have HR := qh hr; clear hr)
 go_ret
 exact ⟨r, n, rfl, HR.out, by first | rfl | (simp only [World.drewN_drewN]; rfl)⟩
theorem rval_3 (u : ByteArray) (a b : Nat) (w : World) (ha : W64 a) (hb : W64 b) (hl : u.toList = [47]) : Calls Tryz.prog 65 #[.string u, .float .f64 a, .float .f64 b] w (FRet (valS 3 a b) w) := by
 have t0 : (u.toList == [43]) = false := by rw [hl]; decide
 have t1 : (u.toList == [45]) = false := by rw [hl]; decide
 have t2 : (u.toList == [42]) = false := by rw [hl]; decide
 have t3 : (u.toList == [47]) = true := by rw [hl]; decide
 have HA := qh ha
 have HB := qh hb
 clear ha hb hl
 go_enter Tryz.func65, Tryz.ntmps65
 go_wp2_with (refine wpList_fop .quo _ _ _ _ a b rfl rfl rfl ?_; intro r n hr; have HR := qh hr; clear hr)
 go_ret
 exact ⟨r, n, rfl, HR.out, by first | rfl | (simp only [World.drewN_drewN]; rfl)⟩
theorem rval_4 (u : ByteArray) (a b : Nat) (w : World) (ha : W64 a) (hb : W64 b) (hl : u.toList = [37]) : Calls Tryz.prog 65 #[.string u, .float .f64 a, .float .f64 b] w (FRet (valS 4 a b) w) := by
 have t0 : (u.toList == [43]) = false := by rw [hl]; decide
 have t1 : (u.toList == [45]) = false := by rw [hl]; decide
 have t2 : (u.toList == [42]) = false := by rw [hl]; decide
 have t3 : (u.toList == [47]) = false := by rw [hl]; decide
 have t4 : (u.toList == [37]) = true := by rw [hl]; decide
 have HA := qh ha
 have HB := qh hb
 clear ha hb hl
 go_enter Tryz.func65, Tryz.ntmps65
 go_wp2_with (go_at_call 96; refine (rmod_any _ _ _ HA.out HB.out).mono ?_; rintro e w' ⟨r, n, rfl, hr, rfl⟩; have HR := qh hr; clear hr)
 go_ret
 exact ⟨r, n, rfl, HR.out, by first | rfl | (simp only [World.drewN_drewN]; rfl)⟩
theorem rval_5 (u : ByteArray) (a b : Nat) (w : World) (ha : W64 a) (hb : W64 b) (hl : u.toList = [94]) : Calls Tryz.prog 65 #[.string u, .float .f64 a, .float .f64 b] w (FRet (valS 5 a b) w) := by
 have t0 : (u.toList == [43]) = false := by rw [hl]; decide
 have t1 : (u.toList == [45]) = false := by rw [hl]; decide
 have t2 : (u.toList == [42]) = false := by rw [hl]; decide
 have t3 : (u.toList == [47]) = false := by rw [hl]; decide
 have t4 : (u.toList == [37]) = false := by rw [hl]; decide
 have HA := qh ha
 have HB := qh hb
 clear ha hb hl
 go_enter Tryz.func65, Tryz.ntmps65
 go_wp2_with (go_at_call 97; refine (rpow_any _ _ _ HA.out).mono ?_; rintro e w' ⟨r, n, rfl, hr, rfl⟩; have HR := qh hr; clear hr)
 go_ret
 exact ⟨r, n, rfl, HR.out, by first | rfl | (simp only [World.drewN_drewN]; rfl)⟩
theorem rhold_6 (u : ByteArray) (a b : Nat) (w : World) (hl : u.toList = [61, 61]) : Calls Tryz.prog 67 #[.string u, .float .f64 a, .float .f64 b] w fun e w' => e = .returned (.bool (holdsS 6 a b)) ∧ w = w' := by
 have t6 : (u.toList == [61, 61]) = true := by rw [hl]; decide
 obtain ⟨B, hB⟩ : ∃ B, (FloatKind.f64.format.order a b == some .eq) = B := ⟨_, rfl⟩
 have hB2 : holdsS 6 a b = B := hB
 rw [hB2]
 clear hl hB2
 go_enter Tryz.func67, Tryz.ntmps67
 go_wp2_with fail
 go_ret
 exact ⟨rfl, rfl⟩
theorem rhold_7 (u : ByteArray) (a b : Nat) (w : World) (hl : u.toList = [33, 61]) : Calls Tryz.prog 67 #[.string u, .float .f64 a, .float .f64 b] w fun e w' => e = .returned (.bool (holdsS 7 a b)) ∧ w = w' := by
 have t6 : (u.toList == [61, 61]) = false := by rw [hl]; decide
 have t7 : (u.toList == [33, 61]) = true := by rw [hl]; decide
 obtain ⟨B, hB⟩ : ∃ B, (FloatKind.f64.format.order a b != some .eq) = B := ⟨_, rfl⟩
 have hB2 : holdsS 7 a b = B := hB
 rw [hB2]
 clear hl hB2
 go_enter Tryz.func67, Tryz.ntmps67
 go_wp2_with fail
 go_ret
 exact ⟨rfl, rfl⟩
theorem rhold_8 (u : ByteArray) (a b : Nat) (w : World) (hl : u.toList = [60]) : Calls Tryz.prog 67 #[.string u, .float .f64 a, .float .f64 b] w fun e w' => e = .returned (.bool (holdsS 8 a b)) ∧ w = w' := by
 have t6 : (u.toList == [61, 61]) = false := by rw [hl]; decide
 have t7 : (u.toList == [33, 61]) = false := by rw [hl]; decide
 have t8 : (u.toList == [60]) = true := by rw [hl]; decide
 obtain ⟨B, hB⟩ : ∃ B, (FloatKind.f64.format.order a b == some .lt) = B := ⟨_, rfl⟩
 have hB2 : holdsS 8 a b = B := hB
 rw [hB2]
 clear hl hB2
 go_enter Tryz.func67, Tryz.ntmps67
 go_wp2_with fail
 go_ret
 exact ⟨rfl, rfl⟩
theorem rhold_9 (u : ByteArray) (a b : Nat) (w : World) (hl : u.toList = [60, 61]) : Calls Tryz.prog 67 #[.string u, .float .f64 a, .float .f64 b] w fun e w' => e = .returned (.bool (holdsS 9 a b)) ∧ w = w' := by
 have t6 : (u.toList == [61, 61]) = false := by rw [hl]; decide
 have t7 : (u.toList == [33, 61]) = false := by rw [hl]; decide
 have t8 : (u.toList == [60]) = false := by rw [hl]; decide
 have t9 : (u.toList == [60, 61]) = true := by rw [hl]; decide
 obtain ⟨B, hB⟩ : ∃ B, (FloatKind.f64.format.order a b == some .lt || FloatKind.f64.format.order a b == some .eq) = B := ⟨_, rfl⟩
 have hB2 : holdsS 9 a b = B := hB
 rw [hB2]
 clear hl hB2
 go_enter Tryz.func67, Tryz.ntmps67
 go_wp2_with fail
 go_ret
 exact ⟨rfl, rfl⟩
theorem rhold_10 (u : ByteArray) (a b : Nat) (w : World) (hl : u.toList = [62]) : Calls Tryz.prog 67 #[.string u, .float .f64 a, .float .f64 b] w fun e w' => e = .returned (.bool (holdsS 10 a b)) ∧ w = w' := by
 have t6 : (u.toList == [61, 61]) = false := by rw [hl]; decide
 have t7 : (u.toList == [33, 61]) = false := by rw [hl]; decide
 have t8 : (u.toList == [60]) = false := by rw [hl]; decide
 have t9 : (u.toList == [60, 61]) = false := by rw [hl]; decide
 have t10 : (u.toList == [62]) = true := by rw [hl]; decide
 obtain ⟨B, hB⟩ : ∃ B, (FloatKind.f64.format.order a b == some .gt) = B := ⟨_, rfl⟩
 have hB2 : holdsS 10 a b = B := hB
 rw [hB2]
 clear hl hB2
 go_enter Tryz.func67, Tryz.ntmps67
 go_wp2_with fail
 go_ret
 exact ⟨rfl, rfl⟩
theorem rhold_11 (u : ByteArray) (a b : Nat) (w : World) (hl : u.toList = [62, 61]) : Calls Tryz.prog 67 #[.string u, .float .f64 a, .float .f64 b] w fun e w' => e = .returned (.bool (holdsS 11 a b)) ∧ w = w' := by
 have t6 : (u.toList == [61, 61]) = false := by rw [hl]; decide
 have t7 : (u.toList == [33, 61]) = false := by rw [hl]; decide
 have t8 : (u.toList == [60]) = false := by rw [hl]; decide
 have t9 : (u.toList == [60, 61]) = false := by rw [hl]; decide
 have t10 : (u.toList == [62]) = false := by rw [hl]; decide
 obtain ⟨B, hB⟩ : ∃ B, (FloatKind.f64.format.order a b == some .gt || FloatKind.f64.format.order a b == some .eq) = B := ⟨_, rfl⟩
 have hB2 : holdsS 11 a b = B := hB
 rw [hB2]
 clear hl hB2
 go_enter Tryz.func67, Tryz.ntmps67
 go_wp2_with fail
 go_ret
 exact ⟨rfl, rfl⟩
theorem alike21_any (x y : Nat) (w : World) : Calls Tryz.prog 30 #[.float .f64 x, .float .f64 y] w fun e w' => e = .returned (.bool (cn x == cn y)) ∧ w = w' := by
 have hx : (FloatKind.f64.format.order x x != some .eq) = isN x := ne_self x
 have hy : (FloatKind.f64.format.order y y != some .eq) = isN y := ne_self y
 have hb := bits_run x
 have hb' := bits_run y
 have key : (cn x == cn y) = (isN x && isN y || (x : Int) == (y : Int)) := by
  rw [Bool.eq_iff_iff, beq_iff_eq, cn_eq_iff]; simp [Int.natCast_inj]
 have Key := qh key
 clear key
 go_enter Tryz.func30, Tryz.ntmps30
 go_wp2_with (first | simp only [hb] | simp only [hb'])
 all_goals
  go_ret
  refine ⟨?_, rfl⟩
  rw [Key.out]
  simp [*]
end Go.Proofs.YtmmfjknnbkcniaaGreatDoor
