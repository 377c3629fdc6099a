/- Millis on both sides. -/
import Derived.Test.YtmgnhekpgeahmaaFloorC
import Derived.Test.YtmgnhekpgeahmaaMoment
import Derived.Deep.Cut
namespace Go.Proofs.Ytmgnhekpgeahmaa
open Go.Fl Go.Rel Go.RowKit

def w1000 : Nat := 4652007308841189376
def wHalf : Nat := 4602678819172646912
def wMin : Nat := 14036670243316695040
def wMax : Nat := 4822456875284660192

/-- The number of ms as a float, made whole. -/
def milF (x : Nat) : Nat := ffloor (fop .add (fop .mul (cn x) (cn w1000)) (cn wHalf))
def milOk (x : Nat) : Bool := fge' (milF x) wMin && fle' (milF x) wMax
def milVal (x : Nat) : Int := if milOk x = true then (uv (milF x)).tdiv (U : Int) else 0
def milErr (x : Nat) : Int := if milOk x = true then 0 else 33

theorem wMin_eq : wMin = wz (-62167219200000) := by decide +kernel
theorem wMax_eq : wMax = wz 253402300799999 := by decide +kernel

theorem cn_milF (x : Nat) : cn (milF x) = milF x := by
  unfold milF ffloor
  split
  · exact cn_of_N isN_nanc
  · rename_i h
    cases hr : Ieee.double.read (fop .add (fop .mul (cn x) (cn w1000)) (cn wHalf)) with
    | nan s t => exact absurd (by unfold isN; rw [hr]; rfl) h
    | number s m p => exact cn_of_notN (write_not_nan _ rfl)
    | infinity s => exact cn_of_notN (write_not_nan _ rfl)

/-- In range the float is a number, and its whole part is told. -/
theorem mil_conv {x r : Nat} (hr : cn r = milF x) (hok : milOk x = true) : floatToIntVal .f64 r .i64 = some ((uv (milF x)).tdiv (U : Int)) := by
  unfold milOk at hok
  rw [Bool.and_eq_true] at hok
  have ha := wz_read (z := -62167219200000) (by decide)
  have hb := wz_read (z := 253402300799999) (by decide)
  rw [wMin_eq, wMax_eq] at hok
  have hF := isF_between ha.1 hb.1 hok.1 hok.2
  have hu := uv_between ha.1 hb.1 hok.1 hok.2
  have hrr : r = milF x := by
    have h2 : isN r = false := by rw [← isN_cn, hr]; exact isF_notN hF
    rw [← hr, cn_of_notN h2]
  rw [hrr]
  rw [ha.2.1, hb.2.1] at hu
  exact toIntVal_fin hF hu.1 hu.2 (by omega) (by omega)

theorem mil_min {x r : Nat} (hr : cn r = milF x) : (FloatKind.f64.format.order r wMin == some .gt || FloatKind.f64.format.order r wMin == some .eq) = fge' (milF x) wMin := by
  unfold fge'; rw [← hr, ford_cn1]; rfl
theorem mil_max {x r : Nat} (hr : cn r = milF x) : (FloatKind.f64.format.order r wMax == some .lt || FloatKind.f64.format.order r wMax == some .eq) = fle' (milF x) wMax := by
  unfold fle'; rw [← hr, ford_cn1]; rfl

theorem milF_of {x p q r : Nat} (h1 : cn p = fop .mul (cn x) (cn w1000)) (h2 : cn q = fop .add (cn p) (cn wHalf)) (h3 : cn r = ffloor (cn q)) : cn r = milF x := by
  rw [h3, h2, h1]; rfl

set_option maxHeartbeats 1000000 in
theorem millis_any (x : Nat) (w : World) : Calls Try.prog 12 #[.float .f64 x] w (MRet (milVal x) (milErr x) w) := by
  go_enter Try.func12, Try.ntmps12
  go_upto_region 3 with (first | (refine wpList_fop .mul _ _ _ _ _ _ rfl rfl rfl ?_; intro p np hp; have Hp := Lib.hid hp; clear hp) | (refine wpList_fop .add _ _ _ _ _ _ rfl rfl rfl ?_; intro q nq hq; have Hq := Lib.hid hq; clear hq) | (go_at_call 30; refine (floor_any _ _).mono ?_; rintro e w' ⟨r, n, rfl, hr, rfl⟩; have Hr := Lib.hid hr; clear hr))
  have H := Lib.hid (milF_of Hp.out Hq.out Hr.out)
  have g1 := mil_min H.out
  have g2 := mil_max H.out
  cases h1 : fge' (milF x) wMin <;> cases h2 : fle' (milF x) wMax
  case true.true =>
    rw [h1] at g1
    rw [h2] at g2
    have hok : milOk x = true := by unfold milOk; rw [h1, h2]; rfl
    have hc := fun w' => run_convert_float_int (P := Try.prog) w' 32 2 .f64 .i64 r _ (by kernel_rfl) Try.underlying2 (mil_conv H.out hok)
    have hv : milVal x = (uv (milF x)).tdiv (U : Int) := by unfold milVal; rw [if_pos hok]
    have he : milErr x = 0 := by unfold milErr; rw [if_pos hok]
    have Hv := Lib.hid hv
    have He := Lib.hid he
    unfold wMin at g1
    unfold wMax at g2
    clear hok hv he h1 h2
    go_wp2_with fail
    go_ret2
    exact ⟨by rw [Hv.out, He.out]; rfl, (Below.refl _ _).drewN' _⟩
  all_goals
    rw [h1] at g1
    rw [h2] at g2
    have hok : milOk x = false := by unfold milOk; rw [h1, h2]; rfl
    have hv : milVal x = 0 := by unfold milVal; rw [if_neg (by rw [hok]; simp)]
    have he : milErr x = 33 := by unfold milErr; rw [if_neg (by rw [hok]; simp)]
    have Hv := Lib.hid hv
    have He := Lib.hid he
    unfold wMin at g1
    unfold wMax at g2
    clear hok hv he h1 h2
    go_wp2_with fail
    go_ret2
    exact ⟨by rw [Hv.out, He.out]; rfl, (Below.refl _ _).drewN' _⟩

set_option maxHeartbeats 1000000 in
theorem refmillis_any (x : Nat) (w : World) : Calls Try.prog 13 #[.float .f64 x] w (MRet (milVal x) (milErr x) w) := by
  go_enter Try.func13, Try.ntmps13
  go_upto_region 3 with (first | (refine wpList_fop .mul _ _ _ _ _ _ rfl rfl rfl ?_; intro p np hp; have Hp := Lib.hid hp; clear hp) | (refine wpList_fop .add _ _ _ _ _ _ rfl rfl rfl ?_; intro q nq hq; have Hq := Lib.hid hq; clear hq) | (go_at_call 30; refine (floor_any _ _).mono ?_; rintro e w' ⟨r, n, rfl, hr, rfl⟩; have Hr := Lib.hid hr; clear hr))
  have H := Lib.hid (milF_of Hp.out Hq.out Hr.out)
  have g1 := mil_min H.out
  have g2 := mil_max H.out
  cases h1 : fge' (milF x) wMin <;> cases h2 : fle' (milF x) wMax
  case true.true =>
    rw [h1] at g1
    rw [h2] at g2
    have hok : milOk x = true := by unfold milOk; rw [h1, h2]; rfl
    have hc := fun w' => run_convert_float_int (P := Try.prog) w' 32 2 .f64 .i64 r _ (by kernel_rfl) Try.underlying2 (mil_conv H.out hok)
    have hv : milVal x = (uv (milF x)).tdiv (U : Int) := by unfold milVal; rw [if_pos hok]
    have he : milErr x = 0 := by unfold milErr; rw [if_pos hok]
    have Hv := Lib.hid hv
    have He := Lib.hid he
    unfold wMin at g1
    unfold wMax at g2
    clear hok hv he h1 h2
    go_wp2_with fail
    go_ret2
    exact ⟨by rw [Hv.out, He.out]; rfl, (Below.refl _ _).drewN' _⟩
  all_goals
    rw [h1] at g1
    rw [h2] at g2
    have hok : milOk x = false := by unfold milOk; rw [h1, h2]; rfl
    have hv : milVal x = 0 := by unfold milVal; rw [if_neg (by rw [hok]; simp)]
    have he : milErr x = 33 := by unfold milErr; rw [if_neg (by rw [hok]; simp)]
    have Hv := Lib.hid hv
    have He := Lib.hid he
    unfold wMin at g1
    unfold wMax at g2
    clear hok hv he h1 h2
    go_wp2_with fail
    go_ret2
    exact ⟨by rw [Hv.out, He.out]; rfl, (Below.refl _ _).drewN' _⟩

theorem mil_first : milVal 4609434218613702656 = 1500 ∧ milErr 4609434218613702656 = 0 := by decide +kernel

theorem law_millis (x : Nat) (w : World) : Calls Try.prog 5 #[.float .f64 x] w fun e w' => e = .returned (.bool true) ∧ Below w.heap.size w w' := by
  go_enter Try.func5, Try.ntmps5
  go_wp2_with fail
  refine (millis_any _ _).mono ?_
  rintro e1 w1 ⟨rfl, b1⟩
  rw [mil_first.1, mil_first.2]
  go_wp2_with fail
  refine (millis_any _ _).mono ?_
  rintro e1 w2 ⟨rfl, b2⟩
  go_wp2_with fail
  refine (refmillis_any _ _).mono ?_
  rintro e1 w3 ⟨rfl, b3⟩
  go_wp2_with fail
  go_ret
  have z1 := b1.size
  have z2 := b2.size
  exact ⟨ret_bool (by simp), (b1.trans (b2.mono (by omega))).trans (b3.mono (by omega))⟩

end Go.Proofs.Ytmgnhekpgeahmaa
