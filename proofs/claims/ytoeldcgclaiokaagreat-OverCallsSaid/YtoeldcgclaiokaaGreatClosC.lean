/- The closures of the functions of the values alone. The closures growth$1 and last$1. The closures that take numbers. The closure of smoothing. One operation of a region that draws its order, at a class of worlds of any kind: its value is told by the prover. The closure of deriv. num.ToInt. The closure of beat. -/
import Derived.Test.YtoeldcgclaiokaaGreatInstA
import Derived.Test.YtoeldcgclaiokaaGreatFindB
import Derived.Test.YtoeldcgclaiokaaGreatChg
import Derived.Test.YtoeldcgclaiokaaGreatExtAny
import Derived.Test.YtoeldcgclaiokaaGreatLineAll
import Derived.Test.YtoeldcgclaiokaaGreatStep
import Derived.Test.YtoeldcgclaiokaaGreatFlAll
import Derived.Test.YtoeldcgclaiokaaGreatProg
import Derived.Test.YtoeldcgclaiokaaGreatMeanAll
namespace Go.Proofs.YtoeldcgclaiokaaGreat
open Go.Fl Go.Rel Go.RowKit

/-- A function of a list of floats answers a class. -/
def AnsF (f : FuncId) (a : Option Addr) (n cap c : Nat) (w : World) : Prop := ∀ w1, Below w.heap.size w w1 → Calls Tryz.prog f #[.slice a n cap] w1 (FB c w1)

theorem FSame.fb {c : Nat} {w : World} {e : Ending} {w' : World} (h : FSame c w e w') : FB c w e w' := by
  obtain ⟨r, h1, h2, h3⟩ := h
  exact ⟨r, h1, h2, by rw [← h3]; exact Below.refl _ _⟩

theorem f1_any (a : Option Addr) (n cap : Nat) (w : World) : Calls Tryz.prog 41 #[.slice a n cap] w (FB (nfl n) w) := by
  go_enter Tryz.func41, Tryz.ntmps41
  go_wp2_with fail
  go_ret
  exact ⟨_, rfl, cn_nfl n, Below.refl _ _⟩
theorem f2_any (a : Option Addr) (n cap : Nat) (w : World) : Calls Tryz.prog 42 #[.slice a n cap] w (FB one w) := by
  go_enter Tryz.func42, Tryz.ntmps42
  go_wp2_with fail
  go_ret
  exact ⟨_, rfl, cn_one, Below.refl _ _⟩
theorem f3_any (b off n cap v : Nat) (h0 : 0 < n) (w : World) (hc : w.cell? ⟨b, off, none⟩ = some (.float .f64 v)) : Calls Tryz.prog 43 #[.slice (some ⟨b, off, none⟩) n cap] w (FB (cn v) w) := by
  go_enter Tryz.func43, Tryz.ntmps43
  go_wp2_with fail
  go_ret
  exact ⟨_, rfl, rfl, Below.refl _ _⟩
theorem f4_any (b off m cap v : Nat) (hn : m + 1 ≤ 140737488355328) (w : World) (hc : w.cell? ⟨b, off + m, none⟩ = some (.float .f64 v)) : Calls Tryz.prog 44 #[.slice (some ⟨b, off, none⟩) (m + 1) cap] w (FB (cn v) w) := by
  go_enter Tryz.func44, Tryz.ntmps44
  go_wp2_with fail
  go_ret
  exact ⟨_, rfl, rfl, Below.refl _ _⟩
theorem f5_any (b off n cap : Nat) (xs : List Nat) (w : World) (h0 : 0 < n) (hc : n < cap ∨ n = cap) (hcm : cap ≤ 140737488355328) (hl : xs.length = n) (hcell : ∀ i, i < n → w.cell? ⟨b, off + i, none⟩ = some (.float .f64 (at0 xs i))) :
    Calls Tryz.prog 49 #[.slice (some ⟨b, off, none⟩) n cap] w (FB (mostT (xs.map cn) true (n - 1)) w) := by
  have HM := Lib.hid (most_true b off n cap xs w h0 hc hcm hl hcell)
  clear hcell hl hc hcm h0
  go_enter Tryz.func49, Tryz.ntmps49
  go_wp2_with (go_at_call 50; ((with_reducible refine HM.out.mono ?_); rintro e w' ⟨r, rfl, hr, rfl⟩))
  go_ret
  exact ⟨r, rfl, hr, Below.refl _ _⟩
theorem f6_any (b off n cap : Nat) (xs : List Nat) (w : World) (h0 : 0 < n) (hc : n < cap ∨ n = cap) (hcm : cap ≤ 140737488355328) (hl : xs.length = n) (hcell : ∀ i, i < n → w.cell? ⟨b, off + i, none⟩ = some (.float .f64 (at0 xs i))) :
    Calls Tryz.prog 51 #[.slice (some ⟨b, off, none⟩) n cap] w (FB (mostT (xs.map cn) false (n - 1)) w) := by
  have HM := Lib.hid (most_false b off n cap xs w h0 hc hcm hl hcell)
  clear hcell hl hc hcm h0
  go_enter Tryz.func51, Tryz.ntmps51
  go_wp2_with (go_at_call 50; ((with_reducible refine HM.out.mono ?_); rintro e w' ⟨r, rfl, hr, rfl⟩))
  go_ret
  exact ⟨r, rfl, hr, Below.refl _ _⟩

set_option maxHeartbeats 4000000 in
set_option maxRecDepth 100000 in
theorem clos_count_over_time (c : Nat) (av : Value) (pa : Option Addr) (pn pc : Nat) (F T N : Int) (a : Option Addr) (n cap B : Nat) (w : World) (hcell : w.cell? ⟨B, 0, none⟩ = some (.func (.func 41) #[] #[]))
    (HF : Hid (AnsF 41 a n cap c w)) :
    Calls Tryz.prog 67 #[winV pa pn pc F T N, .slice a n cap, av, .pointer (some ⟨B, 0, none⟩)] w (OptRet (some c) w) := by
  have hc2 := cell_old hcell (.cells #[.slice pa pn pc, .int .i64 F, .int .i64 T, .int .i64 N] 24)
  have HB0 : Hid (Below w.heap.size w (w.alloc (.cells #[.slice pa pn pc, .int .i64 F, .int .i64 T, .int .i64 N] 24))) := (Below.refl _ _).alloc (Nat.le_refl _) _
  clear hcell
  unfold AnsF at HF
  go_enter Tryz.func67, Tryz.ntmps67
  go_wp2_with (go_at_call 41; ((with_reducible refine (HF.out _ HB0.out).mono ?_); rintro e w1 ⟨r, rfl, hr, b1⟩))
  go_ret2
  exact ⟨r, rfl, hr, HB0.out.trans (b1.mono HB0.out.size)⟩

set_option maxHeartbeats 4000000 in
set_option maxRecDepth 100000 in
theorem clos_present_over_time (c : Nat) (av : Value) (pa : Option Addr) (pn pc : Nat) (F T N : Int) (a : Option Addr) (n cap B : Nat) (w : World) (hcell : w.cell? ⟨B, 0, none⟩ = some (.func (.func 42) #[] #[]))
    (HF : Hid (AnsF 42 a n cap c w)) :
    Calls Tryz.prog 67 #[winV pa pn pc F T N, .slice a n cap, av, .pointer (some ⟨B, 0, none⟩)] w (OptRet (some c) w) := by
  have hc2 := cell_old hcell (.cells #[.slice pa pn pc, .int .i64 F, .int .i64 T, .int .i64 N] 24)
  have HB0 : Hid (Below w.heap.size w (w.alloc (.cells #[.slice pa pn pc, .int .i64 F, .int .i64 T, .int .i64 N] 24))) := (Below.refl _ _).alloc (Nat.le_refl _) _
  clear hcell
  unfold AnsF at HF
  go_enter Tryz.func67, Tryz.ntmps67
  go_wp2_with (go_at_call 42; ((with_reducible refine (HF.out _ HB0.out).mono ?_); rintro e w1 ⟨r, rfl, hr, b1⟩))
  go_ret2
  exact ⟨r, rfl, hr, HB0.out.trans (b1.mono HB0.out.size)⟩

set_option maxHeartbeats 4000000 in
set_option maxRecDepth 100000 in
theorem clos_first_over_time (c : Nat) (av : Value) (pa : Option Addr) (pn pc : Nat) (F T N : Int) (a : Option Addr) (n cap B : Nat) (w : World) (hcell : w.cell? ⟨B, 0, none⟩ = some (.func (.func 43) #[] #[]))
    (HF : Hid (AnsF 43 a n cap c w)) :
    Calls Tryz.prog 67 #[winV pa pn pc F T N, .slice a n cap, av, .pointer (some ⟨B, 0, none⟩)] w (OptRet (some c) w) := by
  have hc2 := cell_old hcell (.cells #[.slice pa pn pc, .int .i64 F, .int .i64 T, .int .i64 N] 24)
  have HB0 : Hid (Below w.heap.size w (w.alloc (.cells #[.slice pa pn pc, .int .i64 F, .int .i64 T, .int .i64 N] 24))) := (Below.refl _ _).alloc (Nat.le_refl _) _
  clear hcell
  unfold AnsF at HF
  go_enter Tryz.func67, Tryz.ntmps67
  go_wp2_with (go_at_call 43; ((with_reducible refine (HF.out _ HB0.out).mono ?_); rintro e w1 ⟨r, rfl, hr, b1⟩))
  go_ret2
  exact ⟨r, rfl, hr, HB0.out.trans (b1.mono HB0.out.size)⟩

set_option maxHeartbeats 4000000 in
set_option maxRecDepth 100000 in
theorem clos_last_over_time (c : Nat) (av : Value) (pa : Option Addr) (pn pc : Nat) (F T N : Int) (a : Option Addr) (n cap B : Nat) (w : World) (hcell : w.cell? ⟨B, 0, none⟩ = some (.func (.func 44) #[] #[]))
    (HF : Hid (AnsF 44 a n cap c w)) :
    Calls Tryz.prog 67 #[winV pa pn pc F T N, .slice a n cap, av, .pointer (some ⟨B, 0, none⟩)] w (OptRet (some c) w) := by
  have hc2 := cell_old hcell (.cells #[.slice pa pn pc, .int .i64 F, .int .i64 T, .int .i64 N] 24)
  have HB0 : Hid (Below w.heap.size w (w.alloc (.cells #[.slice pa pn pc, .int .i64 F, .int .i64 T, .int .i64 N] 24))) := (Below.refl _ _).alloc (Nat.le_refl _) _
  clear hcell
  unfold AnsF at HF
  go_enter Tryz.func67, Tryz.ntmps67
  go_wp2_with (go_at_call 44; ((with_reducible refine (HF.out _ HB0.out).mono ?_); rintro e w1 ⟨r, rfl, hr, b1⟩))
  go_ret2
  exact ⟨r, rfl, hr, HB0.out.trans (b1.mono HB0.out.size)⟩

set_option maxHeartbeats 4000000 in
set_option maxRecDepth 100000 in
theorem clos_sum_over_time (c : Nat) (av : Value) (pa : Option Addr) (pn pc : Nat) (F T N : Int) (a : Option Addr) (n cap B : Nat) (w : World) (hcell : w.cell? ⟨B, 0, none⟩ = some (.func (.func 45) #[] #[]))
    (HF : Hid (AnsF 45 a n cap c w)) :
    Calls Tryz.prog 67 #[winV pa pn pc F T N, .slice a n cap, av, .pointer (some ⟨B, 0, none⟩)] w (OptRet (some c) w) := by
  have hc2 := cell_old hcell (.cells #[.slice pa pn pc, .int .i64 F, .int .i64 T, .int .i64 N] 24)
  have HB0 : Hid (Below w.heap.size w (w.alloc (.cells #[.slice pa pn pc, .int .i64 F, .int .i64 T, .int .i64 N] 24))) := (Below.refl _ _).alloc (Nat.le_refl _) _
  clear hcell
  unfold AnsF at HF
  go_enter Tryz.func67, Tryz.ntmps67
  go_wp2_with (go_at_call 45; ((with_reducible refine (HF.out _ HB0.out).mono ?_); rintro e w1 ⟨r, rfl, hr, b1⟩))
  go_ret2
  exact ⟨r, rfl, hr, HB0.out.trans (b1.mono HB0.out.size)⟩

set_option maxHeartbeats 4000000 in
set_option maxRecDepth 100000 in
theorem clos_avg_over_time (c : Nat) (av : Value) (pa : Option Addr) (pn pc : Nat) (F T N : Int) (a : Option Addr) (n cap B : Nat) (w : World) (hcell : w.cell? ⟨B, 0, none⟩ = some (.func (.func 46) #[] #[]))
    (HF : Hid (AnsF 46 a n cap c w)) :
    Calls Tryz.prog 67 #[winV pa pn pc F T N, .slice a n cap, av, .pointer (some ⟨B, 0, none⟩)] w (OptRet (some c) w) := by
  have hc2 := cell_old hcell (.cells #[.slice pa pn pc, .int .i64 F, .int .i64 T, .int .i64 N] 24)
  have HB0 : Hid (Below w.heap.size w (w.alloc (.cells #[.slice pa pn pc, .int .i64 F, .int .i64 T, .int .i64 N] 24))) := (Below.refl _ _).alloc (Nat.le_refl _) _
  clear hcell
  unfold AnsF at HF
  go_enter Tryz.func67, Tryz.ntmps67
  go_wp2_with (go_at_call 46; ((with_reducible refine (HF.out _ HB0.out).mono ?_); rintro e w1 ⟨r, rfl, hr, b1⟩))
  go_ret2
  exact ⟨r, rfl, hr, HB0.out.trans (b1.mono HB0.out.size)⟩

set_option maxHeartbeats 4000000 in
set_option maxRecDepth 100000 in
theorem clos_stddev_over_time (c : Nat) (av : Value) (pa : Option Addr) (pn pc : Nat) (F T N : Int) (a : Option Addr) (n cap B : Nat) (w : World) (hcell : w.cell? ⟨B, 0, none⟩ = some (.func (.func 47) #[] #[]))
    (HF : Hid (AnsF 47 a n cap c w)) :
    Calls Tryz.prog 67 #[winV pa pn pc F T N, .slice a n cap, av, .pointer (some ⟨B, 0, none⟩)] w (OptRet (some c) w) := by
  have hc2 := cell_old hcell (.cells #[.slice pa pn pc, .int .i64 F, .int .i64 T, .int .i64 N] 24)
  have HB0 : Hid (Below w.heap.size w (w.alloc (.cells #[.slice pa pn pc, .int .i64 F, .int .i64 T, .int .i64 N] 24))) := (Below.refl _ _).alloc (Nat.le_refl _) _
  clear hcell
  unfold AnsF at HF
  go_enter Tryz.func67, Tryz.ntmps67
  go_wp2_with (go_at_call 47; ((with_reducible refine (HF.out _ HB0.out).mono ?_); rintro e w1 ⟨r, rfl, hr, b1⟩))
  go_ret2
  exact ⟨r, rfl, hr, HB0.out.trans (b1.mono HB0.out.size)⟩

set_option maxHeartbeats 4000000 in
set_option maxRecDepth 100000 in
theorem clos_stdvar_over_time (c : Nat) (av : Value) (pa : Option Addr) (pn pc : Nat) (F T N : Int) (a : Option Addr) (n cap B : Nat) (w : World) (hcell : w.cell? ⟨B, 0, none⟩ = some (.func (.func 48) #[] #[]))
    (HF : Hid (AnsF 48 a n cap c w)) :
    Calls Tryz.prog 67 #[winV pa pn pc F T N, .slice a n cap, av, .pointer (some ⟨B, 0, none⟩)] w (OptRet (some c) w) := by
  have hc2 := cell_old hcell (.cells #[.slice pa pn pc, .int .i64 F, .int .i64 T, .int .i64 N] 24)
  have HB0 : Hid (Below w.heap.size w (w.alloc (.cells #[.slice pa pn pc, .int .i64 F, .int .i64 T, .int .i64 N] 24))) := (Below.refl _ _).alloc (Nat.le_refl _) _
  clear hcell
  unfold AnsF at HF
  go_enter Tryz.func67, Tryz.ntmps67
  go_wp2_with (go_at_call 48; ((with_reducible refine (HF.out _ HB0.out).mono ?_); rintro e w1 ⟨r, rfl, hr, b1⟩))
  go_ret2
  exact ⟨r, rfl, hr, HB0.out.trans (b1.mono HB0.out.size)⟩

set_option maxHeartbeats 4000000 in
set_option maxRecDepth 100000 in
theorem clos_max_over_time (c : Nat) (av : Value) (pa : Option Addr) (pn pc : Nat) (F T N : Int) (a : Option Addr) (n cap B : Nat) (w : World) (hcell : w.cell? ⟨B, 0, none⟩ = some (.func (.func 49) #[] #[]))
    (HF : Hid (AnsF 49 a n cap c w)) :
    Calls Tryz.prog 67 #[winV pa pn pc F T N, .slice a n cap, av, .pointer (some ⟨B, 0, none⟩)] w (OptRet (some c) w) := by
  have hc2 := cell_old hcell (.cells #[.slice pa pn pc, .int .i64 F, .int .i64 T, .int .i64 N] 24)
  have HB0 : Hid (Below w.heap.size w (w.alloc (.cells #[.slice pa pn pc, .int .i64 F, .int .i64 T, .int .i64 N] 24))) := (Below.refl _ _).alloc (Nat.le_refl _) _
  clear hcell
  unfold AnsF at HF
  go_enter Tryz.func67, Tryz.ntmps67
  go_wp2_with (go_at_call 49; ((with_reducible refine (HF.out _ HB0.out).mono ?_); rintro e w1 ⟨r, rfl, hr, b1⟩))
  go_ret2
  exact ⟨r, rfl, hr, HB0.out.trans (b1.mono HB0.out.size)⟩

set_option maxHeartbeats 4000000 in
set_option maxRecDepth 100000 in
theorem clos_min_over_time (c : Nat) (av : Value) (pa : Option Addr) (pn pc : Nat) (F T N : Int) (a : Option Addr) (n cap B : Nat) (w : World) (hcell : w.cell? ⟨B, 0, none⟩ = some (.func (.func 51) #[] #[]))
    (HF : Hid (AnsF 51 a n cap c w)) :
    Calls Tryz.prog 67 #[winV pa pn pc F T N, .slice a n cap, av, .pointer (some ⟨B, 0, none⟩)] w (OptRet (some c) w) := by
  have hc2 := cell_old hcell (.cells #[.slice pa pn pc, .int .i64 F, .int .i64 T, .int .i64 N] 24)
  have HB0 : Hid (Below w.heap.size w (w.alloc (.cells #[.slice pa pn pc, .int .i64 F, .int .i64 T, .int .i64 N] 24))) := (Below.refl _ _).alloc (Nat.le_refl _) _
  clear hcell
  unfold AnsF at HF
  go_enter Tryz.func67, Tryz.ntmps67
  go_wp2_with (go_at_call 51; ((with_reducible refine (HF.out _ HB0.out).mono ?_); rintro e w1 ⟨r, rfl, hr, b1⟩))
  go_ret2
  exact ⟨r, rfl, hr, HB0.out.trans (b1.mono HB0.out.size)⟩

set_option maxHeartbeats 4000000 in
set_option maxRecDepth 100000 in
theorem clos_mad_over_time (c : Nat) (av : Value) (pa : Option Addr) (pn pc : Nat) (F T N : Int) (a : Option Addr) (n cap B : Nat) (w : World) (hcell : w.cell? ⟨B, 0, none⟩ = some (.func (.func 52) #[] #[]))
    (HF : Hid (AnsF 52 a n cap c w)) :
    Calls Tryz.prog 67 #[winV pa pn pc F T N, .slice a n cap, av, .pointer (some ⟨B, 0, none⟩)] w (OptRet (some c) w) := by
  have hc2 := cell_old hcell (.cells #[.slice pa pn pc, .int .i64 F, .int .i64 T, .int .i64 N] 24)
  have HB0 : Hid (Below w.heap.size w (w.alloc (.cells #[.slice pa pn pc, .int .i64 F, .int .i64 T, .int .i64 N] 24))) := (Below.refl _ _).alloc (Nat.le_refl _) _
  clear hcell
  unfold AnsF at HF
  go_enter Tryz.func67, Tryz.ntmps67
  go_wp2_with (go_at_call 52; ((with_reducible refine (HF.out _ HB0.out).mono ?_); rintro e w1 ⟨r, rfl, hr, b1⟩))
  go_ret2
  exact ⟨r, rfl, hr, HB0.out.trans (b1.mono HB0.out.size)⟩

set_option maxHeartbeats 4000000 in
set_option maxRecDepth 100000 in
theorem clos_changes (c : Nat) (av : Value) (pa : Option Addr) (pn pc : Nat) (F T N : Int) (a : Option Addr) (n cap B : Nat) (w : World) (hcell : w.cell? ⟨B, 0, none⟩ = some (.func (.func 53) #[] #[]))
    (HF : Hid (AnsF 53 a n cap c w)) :
    Calls Tryz.prog 67 #[winV pa pn pc F T N, .slice a n cap, av, .pointer (some ⟨B, 0, none⟩)] w (OptRet (some c) w) := by
  have hc2 := cell_old hcell (.cells #[.slice pa pn pc, .int .i64 F, .int .i64 T, .int .i64 N] 24)
  have HB0 : Hid (Below w.heap.size w (w.alloc (.cells #[.slice pa pn pc, .int .i64 F, .int .i64 T, .int .i64 N] 24))) := (Below.refl _ _).alloc (Nat.le_refl _) _
  clear hcell
  unfold AnsF at HF
  go_enter Tryz.func67, Tryz.ntmps67
  go_wp2_with (go_at_call 53; ((with_reducible refine (HF.out _ HB0.out).mono ?_); rintro e w1 ⟨r, rfl, hr, b1⟩))
  go_ret2
  exact ⟨r, rfl, hr, HB0.out.trans (b1.mono HB0.out.size)⟩

set_option maxHeartbeats 4000000 in
set_option maxRecDepth 100000 in
theorem clos_resets (c : Nat) (av : Value) (pa : Option Addr) (pn pc : Nat) (F T N : Int) (a : Option Addr) (n cap B : Nat) (w : World) (hcell : w.cell? ⟨B, 0, none⟩ = some (.func (.func 54) #[] #[]))
    (HF : Hid (AnsF 54 a n cap c w)) :
    Calls Tryz.prog 67 #[winV pa pn pc F T N, .slice a n cap, av, .pointer (some ⟨B, 0, none⟩)] w (OptRet (some c) w) := by
  have hc2 := cell_old hcell (.cells #[.slice pa pn pc, .int .i64 F, .int .i64 T, .int .i64 N] 24)
  have HB0 : Hid (Below w.heap.size w (w.alloc (.cells #[.slice pa pn pc, .int .i64 F, .int .i64 T, .int .i64 N] 24))) := (Below.refl _ _).alloc (Nat.le_refl _) _
  clear hcell
  unfold AnsF at HF
  go_enter Tryz.func67, Tryz.ntmps67
  go_wp2_with (go_at_call 54; ((with_reducible refine (HF.out _ HB0.out).mono ?_); rintro e w1 ⟨r, rfl, hr, b1⟩))
  go_ret2
  exact ⟨r, rfl, hr, HB0.out.trans (b1.mono HB0.out.size)⟩
end Go.Proofs.YtoeldcgclaiokaaGreat

namespace Go.Proofs.YtoeldcgclaiokaaGreat
open Go.Fl Go.Rel Go.RowKit
set_option linter.unusedVariables false
set_option linter.unusedSimpArgs false

set_option maxHeartbeats 4000000 in
set_option maxRecDepth 100000 in
theorem clos_last (cb : Bool) (o : Option Nat) (av vv : Value) (pa : Option Addr) (pn pc : Nat) (F T N : Int) (B : Nat) (w : World) (hcell : w.cell? ⟨B, 0, none⟩ = some (.bool cb))
    (HF : Hid (∀ w1, Below w.heap.size w w1 → Calls Tryz.prog 14 #[winV pa pn pc F T N, .bool cb] w1 (OptRet o w1))) :
    Calls Tryz.prog 98 #[winV pa pn pc F T N, vv, av, .pointer (some ⟨B, 0, none⟩)] w (OptRet o w) := by
  have hc2 := cell_old hcell (.cells #[.slice pa pn pc, .int .i64 F, .int .i64 T, .int .i64 N] 24)
  have HB0 : Hid (Below w.heap.size w (w.alloc (.cells #[.slice pa pn pc, .int .i64 F, .int .i64 T, .int .i64 N] 24))) := (Below.refl _ _).alloc (Nat.le_refl _) _
  clear hcell
  go_enter Tryz.func98, Tryz.ntmps98
  cases o with
  | none =>
    go_wp2_with (go_at_call 14; ((with_reducible refine (HF.out _ HB0.out).mono ?_); rintro e w1 ⟨rfl, b1⟩))
    go_ret2
    exact ⟨rfl, HB0.out.trans (b1.mono HB0.out.size)⟩
  | some c =>
    go_wp2_with (go_at_call 14; ((with_reducible refine (HF.out _ HB0.out).mono ?_); rintro e w1 ⟨r, rfl, hr, b1⟩))
    go_ret2
    exact ⟨r, rfl, hr, HB0.out.trans (b1.mono HB0.out.size)⟩

set_option maxHeartbeats 4000000 in
set_option maxRecDepth 100000 in
theorem clos_growth (cb pb : Bool) (o : Option Nat) (av vv : Value) (pa : Option Addr) (pn pc : Nat) (F T N : Int) (B C : Nat) (w : World) (hcell : w.cell? ⟨B, 0, none⟩ = some (.bool cb)) (hcell2 : w.cell? ⟨C, 0, none⟩ = some (.bool pb))
    (HF : Hid (∀ w1, Below w.heap.size w w1 → Calls Tryz.prog 13 #[winV pa pn pc F T N, .bool cb, .bool pb] w1 (OptRet o w1))) :
    Calls Tryz.prog 97 #[winV pa pn pc F T N, vv, av, .pointer (some ⟨B, 0, none⟩), .pointer (some ⟨C, 0, none⟩)] w (OptRet o w) := by
  have hc2 := cell_old hcell (.cells #[.slice pa pn pc, .int .i64 F, .int .i64 T, .int .i64 N] 24)
  have hc3 := cell_old hcell2 (.cells #[.slice pa pn pc, .int .i64 F, .int .i64 T, .int .i64 N] 24)
  have HB0 : Hid (Below w.heap.size w (w.alloc (.cells #[.slice pa pn pc, .int .i64 F, .int .i64 T, .int .i64 N] 24))) := (Below.refl _ _).alloc (Nat.le_refl _) _
  clear hcell hcell2
  go_enter Tryz.func97, Tryz.ntmps97
  cases o with
  | none =>
    go_wp2_with (go_at_call 13; ((with_reducible refine (HF.out _ HB0.out).mono ?_); rintro e w1 ⟨rfl, b1⟩))
    go_ret2
    exact ⟨rfl, HB0.out.trans (b1.mono HB0.out.size)⟩
  | some c =>
    go_wp2_with (go_at_call 13; ((with_reducible refine (HF.out _ HB0.out).mono ?_); rintro e w1 ⟨r, rfl, hr, b1⟩))
    go_ret2
    exact ⟨r, rfl, hr, HB0.out.trans (b1.mono HB0.out.size)⟩
end Go.Proofs.YtoeldcgclaiokaaGreat

namespace Go.Proofs.YtoeldcgclaiokaaGreat
open Go.Fl Go.Rel Go.RowKit

set_option maxHeartbeats 4000000 in
set_option maxRecDepth 100000 in
theorem clos_quant (c : Nat) (pa : Option Addr) (pn pc : Nat) (F T N : Int) (ab ao an ac q : Nat) (a : Option Addr) (n cap : Nat) (w : World) (h0 : 0 < an) (hcell : w.cell? ⟨ab, ao, none⟩ = some (.float .f64 q))
    (HF : Hid (∀ w1, Below w.heap.size w w1 → Calls Tryz.prog 72 #[.float .f64 q, .slice a n cap] w1 (FB c w1))) :
    Calls Tryz.prog 77 #[winV pa pn pc F T N, .slice a n cap, .slice (some ⟨ab, ao, none⟩) an ac] w (OptRet (some c) w) := by
  have hc2 := cell_old hcell (.cells #[.slice pa pn pc, .int .i64 F, .int .i64 T, .int .i64 N] 24)
  have HB0 : Hid (Below w.heap.size w (w.alloc (.cells #[.slice pa pn pc, .int .i64 F, .int .i64 T, .int .i64 N] 24))) := (Below.refl _ _).alloc (Nat.le_refl _) _
  clear hcell
  go_enter Tryz.func77, Tryz.ntmps77
  go_wp2_with (go_at_call 72; ((with_reducible refine (HF.out _ HB0.out).mono ?_); rintro e w1 ⟨r, rfl, hr, b1⟩))
  go_ret2
  exact ⟨r, rfl, hr, HB0.out.trans (b1.mono HB0.out.size)⟩

set_option maxHeartbeats 4000000 in
set_option maxRecDepth 100000 in
theorem clos_predict (st : Nat × Nat) (vv : Value) (pa : Option Addr) (pn pc : Nat) (F T N : Int) (ab ao an ac q : Nat) (w : World) (h0 : 0 < an) (hcell : w.cell? ⟨ab, ao, none⟩ = some (.float .f64 q))
    (HF : Hid (∀ w1, Below w.heap.size w w1 → Calls Tryz.prog 76 #[.slice pa pn pc, .int .i64 N] w1 (FB2 st w1))) :
    Calls Tryz.prog 78 #[winV pa pn pc F T N, vv, .slice (some ⟨ab, ao, none⟩) an ac] w (OptRet (some (fadd st.2 (fmul st.1 (cn q)))) w) := by
  have hc2 := cell_old hcell (.cells #[.slice pa pn pc, .int .i64 F, .int .i64 T, .int .i64 N] 24)
  have HB0 : Hid (Below w.heap.size w (w.alloc (.cells #[.slice pa pn pc, .int .i64 F, .int .i64 T, .int .i64 N] 24))) := (Below.refl _ _).alloc (Nat.le_refl _) _
  have hlt := World.block_lt_of_cell? w _ hcell
  have HC : Hid (∀ w1, Below (w.heap.size + 1) (w.alloc (.cells #[.slice pa pn pc, .int .i64 F, .int .i64 T, .int .i64 N] 24)) w1 → w1.cell? ⟨ab, ao, none⟩ = some (.float .f64 q)) := by
    show ∀ w1, _ → _
    intro w1 hb; rw [hb.cell (p := ⟨ab, ao, none⟩) (by show ab < w.heap.size + 1; have : ab < w.heap.size := hlt; omega)]; exact hc2
  clear hcell hlt
  go_enter Tryz.func78, Tryz.ntmps78
  go_wp2_with (first | (go_at_call 76; ((with_reducible refine (HF.out _ HB0.out).mono ?_); rintro e w1 ⟨r, s, rfl, hr, hs, b1⟩; have hc3 := HC.out w1 (by simpa using b1); have B1 := Lib.hid b1; clear b1)) | (refine wpList_fop _ _ _ _ _ _ _ rfl rfl rfl ?_; intro r1 n1 hr1))
  rename_i r0 n0 hr0
  have B1' := B1.out
  go_ret2
  refine ⟨r1, rfl, ?_, HB0.out.trans (((B1'.drewN' n0).drewN' n1).mono HB0.out.size)⟩
  rw [hr1, hs, hr0, hr]; rfl
end Go.Proofs.YtoeldcgclaiokaaGreat

namespace Go.Proofs.YtoeldcgclaiokaaGreat
open Go.Fl Go.Rel Go.RowKit

set_option maxHeartbeats 4000000 in
set_option maxRecDepth 100000 in
theorem clos_smooth (c : Nat) (pa : Option Addr) (pn pc : Nat) (F T N : Int) (ab ao an ac q q1 : Nat) (a : Option Addr) (n cap : Nat) (w : World) (h0 : 1 < an) (hcell : w.cell? ⟨ab, ao, none⟩ = some (.float .f64 q)) (hcell1 : w.cell? ⟨ab, ao + 1, none⟩ = some (.float .f64 q1))
    (HF : Hid (∀ w1, Below w.heap.size w w1 → Calls Tryz.prog 80 #[.slice a n cap, .float .f64 q, .float .f64 q1] w1 (FRet c w1))) :
    Calls Tryz.prog 79 #[winV pa pn pc F T N, .slice a n cap, .slice (some ⟨ab, ao, none⟩) an ac] w (OptRet (some c) w) := by
  have hc2 := cell_old hcell (.cells #[.slice pa pn pc, .int .i64 F, .int .i64 T, .int .i64 N] 24)
  have hc3 := cell_old hcell1 (.cells #[.slice pa pn pc, .int .i64 F, .int .i64 T, .int .i64 N] 24)
  have HB0 : Hid (Below w.heap.size w (w.alloc (.cells #[.slice pa pn pc, .int .i64 F, .int .i64 T, .int .i64 N] 24))) := (Below.refl _ _).alloc (Nat.le_refl _) _
  clear hcell hcell1
  go_enter Tryz.func79, Tryz.ntmps79
  go_wp2_with fail
  refine wp_region_rel (fun wd => ∃ nd, wd = (w.alloc (.cells #[.slice pa pn pc, .int .i64 F, .int .i64 T, .int .i64 N] 24)).drewN nd) (fun _ _ v => ∃ r, v = .float .f64 r ∧ cn r = c) (by kernel_rfl) (by kernel_rfl) (by repeat (first | exact ⟨_, rfl⟩ | refine drew_class _ _ ?_ | refine drewN_class _ _ _ ?_)) ?_
  iterate 7 (refine wpRel_quiet rfl ?_; go_big_quiet_step (fail); refine wpQuiet_nil ?_)
  refine wpRel_call 80 Tryz.f80 _ _ #[.slice a n cap, .float .f64 q, .float .f64 q1] rfl Tryz.func80 (by kernel_rfl) (by kernel_rfl) (by simp only [List.map_toArray, List.map]; rfl) (fun wd hd => ?_) ?_
  · obtain ⟨nd, rfl⟩ := hd
    refine (HF.out _ (HB0.out.drewN' nd)).mono ?_
    rintro e w2 ⟨r, m, rfl, hr, rfl⟩
    exact ⟨_, rfl, ⟨r, rfl, hr⟩, _, World.drewN_drewN ..⟩
  rintro v ⟨r, rfl, hr⟩
  have HR := Lib.hid hr
  clear hr
  go_big_quiet_step (fail)
  refine wpQuiet_nil ?_
  iterate 2 (refine wpRel_quiet rfl ?_; go_big_quiet_step (fail); refine wpQuiet_nil ?_)
  refine wpRel_nil ?_
  rintro wz ⟨n1, rfl⟩
  go_wp2_with fail
  go_ret2
  exact ⟨r, rfl, HR.out, HB0.out.drewN' n1⟩
end Go.Proofs.YtoeldcgclaiokaaGreat

namespace Go.Fl
open Go.Rel
section
variable {P : Program} {ops : Array Oper} {C : World → Prop} {Rc : FuncId → Array Value → Value → Prop} {Q' : Act → Prop} {a : Act} {rest : List Oper}
theorem wpRel_run {dst : Option Tmp} {op : Op} {ty : TypeId} {pos : String} {after : Array Edge} {guard : Option (Nat × Bool)} (w0 : World) (hC : C w0) (v : Value) (hp : plainOp op = true)
    (hg : Region.wanted { dst, op, type := ty, pos, after, guard } (yielded ops a.tmps) = true)
    (hr : ∀ w, C w → (execOp a.eval { dst, op, type := ty, pos, after, guard }).run P w = .ok (.value v) w)
    (h : wpQuiet P ops C (fun a' => wpRel P ops C Rc Q' rest a') [{ dst, op := .move (.const v), type := ty, pos, after := #[], guard := none }] a) :
    wpRel P ops C Rc Q' ({ dst, op, type := ty, pos, after, guard } :: rest) a := by
  refine wpRel_quiet hp ?_
  have h' := wpRel_laid w0 hC h
  unfold wpQuiet
  rw [if_pos hg]
  refine ⟨v, fun w hw => ?_, h'⟩
  unfold Oper.quietAt; rw [hr w hw]; exact ⟨rfl, rfl⟩
end
end Go.Fl

namespace Go.Proofs.YtoeldcgclaiokaaGreat
open Go.Fl Go.Rel Go.RowKit

set_option maxHeartbeats 4000000 in
set_option maxRecDepth 100000 in
theorem clos_deriv (st : Nat × Nat) (vv av : Value) (pb po pn pc : Nat) (F T N z : Int) (w : World) (h0 : 0 < pn) (hcell : w.cell? ⟨pb, po, none⟩ = some (.int .i64 z))
    (HF : Hid (∀ w1, Below w.heap.size w w1 → Calls Tryz.prog 76 #[.slice (some ⟨pb, po, none⟩) pn pc, .int .i64 z] w1 (FB2 st w1))) :
    Calls Tryz.prog 75 #[winV (some ⟨pb, po, none⟩) pn pc F T N, vv, av] w (OptRet (some st.1) w) := by
  obtain ⟨W0, hW0⟩ : ∃ W0, W0 = w.alloc (.cells #[.slice (some ⟨pb, po, none⟩) pn pc, .int .i64 F, .int .i64 T, .int .i64 N] 24) := ⟨_, rfl⟩
  have hsz : W0.heap.size = w.heap.size + 1 := by rw [hW0]; simp
  have HB0 : Hid (Below w.heap.size w W0) := by show Below _ _ _; rw [hW0]; exact (Below.refl _ _).alloc (Nat.le_refl _) _
  have hwin : W0.cell? ⟨w.heap.size, 0, none⟩ = some (.slice (some ⟨pb, po, none⟩) pn pc) := by rw [hW0, World.cell?_alloc_at _ _ _ _ rfl]; rfl
  have hpt : W0.cell? ⟨pb, po, none⟩ = some (.int .i64 z) := by rw [hW0]; exact cell_old hcell _
  have hlt : pb < w.heap.size := World.block_lt_of_cell? w _ hcell
  have HWin : Hid (∀ w1, Below W0.heap.size W0 w1 → w1.cell? ⟨w.heap.size, 0, none⟩ = some (.slice (some ⟨pb, po, none⟩) pn pc)) := by
    show ∀ w1, _ → _
    intro w1 hb; rw [hb.cell (p := ⟨w.heap.size, 0, none⟩) (by show w.heap.size < W0.heap.size; omega)]; exact hwin
  have HPt : Hid (∀ w1, Below W0.heap.size W0 w1 → w1.cell? ⟨pb, po, none⟩ = some (.int .i64 z)) := by
    show ∀ w1, _ → _
    intro w1 hb; rw [hb.cell (p := ⟨pb, po, none⟩) (by show pb < W0.heap.size; omega)]; exact hpt
  have HW0 := Lib.hid hW0
  clear hW0 hsz hwin hpt hlt hcell
  go_enter Tryz.func75, Tryz.ntmps75
  go_wp2_with fail
  rw [← HW0.out]
  refine wp_region_rel (fun wd => Below W0.heap.size W0 wd) (fun _ _ v => ∃ r q, v = .tuple #[.float .f64 r, .float .f64 q] ∧ cn r = st.1 ∧ cn q = st.2) (by kernel_rfl) (by kernel_rfl) ((Below.refl _ _).drew) ?_
  refine wpRel_run W0 (Below.refl _ _) (.pointer (some ⟨w.heap.size, 0, none⟩)) rfl rfl (fun wd hb => by simp [go_sem, Act.eval]) ?_; go_big_quiet_step (fail); refine wpQuiet_nil ?_
  refine wpRel_run W0 (Below.refl _ _) (.slice (some ⟨pb, po, none⟩) pn pc) rfl rfl (fun wd hb => by have := HWin.out wd hb; simp [go_sem, Act.eval, this]) ?_; go_big_quiet_step (fail); refine wpQuiet_nil ?_
  refine wpRel_run W0 (Below.refl _ _) (.pointer (some ⟨w.heap.size, 0, none⟩)) rfl rfl (fun wd hb => by simp [go_sem, Act.eval]) ?_; go_big_quiet_step (fail); refine wpQuiet_nil ?_
  refine wpRel_run W0 (Below.refl _ _) (.slice (some ⟨pb, po, none⟩) pn pc) rfl rfl (fun wd hb => by have := HWin.out wd hb; simp [go_sem, Act.eval, this]) ?_; go_big_quiet_step (fail); refine wpQuiet_nil ?_
  refine wpRel_run W0 (Below.refl _ _) (.pointer (some ⟨pb, po, none⟩)) rfl rfl (fun wd hb => by simp [go_sem, Act.eval, h0]) ?_; go_big_quiet_step (fail); refine wpQuiet_nil ?_
  refine wpRel_run W0 (Below.refl _ _) (.pointer (some ⟨pb, po, none⟩)) rfl rfl (fun wd hb => by simp [go_sem, Act.eval]) ?_; go_big_quiet_step (fail); refine wpQuiet_nil ?_
  refine wpRel_run W0 (Below.refl _ _) (.int .i64 z) rfl rfl (fun wd hb => by have := HPt.out wd hb; simp [go_sem, Act.eval, this]) ?_; go_big_quiet_step (fail); refine wpQuiet_nil ?_
  refine wpRel_call 76 Tryz.f76 _ _ #[.slice (some ⟨pb, po, none⟩) pn pc, .int .i64 z] rfl Tryz.func76 (by kernel_rfl) (by kernel_rfl) (by simp only [List.map_toArray, List.map]; rfl) (fun wd hd => ?_) ?_
  · refine (HF.out _ (HB0.out.trans (hd.mono HB0.out.size))).mono ?_
    rintro e w2 ⟨r, q, rfl, hr, hq, b2⟩
    exact ⟨_, rfl, ⟨r, q, rfl, hr, hq⟩, hd.trans (b2.mono hd.size)⟩
  rintro v ⟨r, q, rfl, hr, hq⟩
  have HR := Lib.hid hr
  clear hr hq
  go_big_quiet_step (fail)
  refine wpQuiet_nil ?_
  refine wpRel_quiet rfl ?_; go_big_quiet_step (fail); refine wpQuiet_nil ?_
  refine wpRel_run W0 (Below.refl _ _) (.float .f64 r) rfl rfl (fun wd hb => by simp [go_sem, Act.eval]) ?_; go_big_quiet_step (fail); refine wpQuiet_nil ?_
  refine wpRel_run W0 (Below.refl _ _) (.float .f64 q) rfl rfl (fun wd hb => by simp [go_sem, Act.eval]) ?_; go_big_quiet_step (fail); refine wpQuiet_nil ?_
  refine wpRel_quiet rfl ?_; go_big_quiet_step (fail); refine wpQuiet_nil ?_
  refine wpRel_quiet rfl ?_; go_big_quiet_step (fail); refine wpQuiet_nil ?_
  refine wpRel_nil ?_
  intro wz hz
  go_wp2_with fail
  go_ret2
  exact ⟨r, rfl, HR.out, HB0.out.trans (hz.mono HB0.out.size)⟩
end Go.Proofs.YtoeldcgclaiokaaGreat

namespace Go.Proofs.YtoeldcgclaiokaaGreat
open Go.Fl Go.Rel Go.RowKit

def w63n : Nat := 14114281232179134464
def w63 : Nat := 4890909195324358656
def toIOk (c : Nat) : Bool := fge' c w63n && (ford c w63 == some .lt)
def toIC (c : Nat) : Int := if toIOk c = true then (uv c).tdiv (U : Int) else 0

theorem f63n : isF w63n ∧ uv w63n = -9223372036854775808 * (U : Int) := by unfold isF; decide +kernel
theorem f63 : isF w63 ∧ uv w63 = 9223372036854775808 * (U : Int) := by unfold isF; decide +kernel

theorem toI_conv {x : Nat} (h : toIOk (cn x) = true) : floatToIntVal .f64 x .i64 = some (toIC (cn x)) := by
  have hC : toIC (cn x) = (uv (cn x)).tdiv (U : Int) := by unfold toIC; rw [if_pos h]
  unfold toIOk at h
  rw [Bool.and_eq_true] at h
  obtain ⟨h1, h2⟩ := h
  have h2' : fle' (cn x) w63 = true := by unfold fle'; rw [h2]; rfl
  have hF := isF_between f63n.1 f63.1 h1 h2'
  have hu := uv_between f63n.1 f63.1 h1 h2'
  have hn : uv (cn x) < uv w63 := by
    rw [order_fin hF f63.1] at h2
    by_cases hh : uv (cn x) < uv w63
    · exact hh
    · have he : uv (cn x) = uv w63 := by omega
      rw [he, Std.compare_self] at h2; simp at h2
  have hxx : cn x = x := by
    have h3 : isN x = false := by rw [← isN_cn]; exact isF_notN hF
    exact cn_of_notN h3
  rw [hC]
  rw [hxx] at hF hu hn ⊢
  rw [f63n.2] at hu
  rw [f63.2] at hn
  unfold floatToIntVal
  show (match (Ieee.double.read x).toInt .zero with | some n => _ | none => _) = _
  rw [toInt_fin hF]
  dsimp only
  have hU : (0 : Int) < (U : Int) := by exact_mod_cast U_pos
  have e1 : IntKind.i64.min = -9223372036854775808 := rfl
  have e2 : IntKind.i64.max = 9223372036854775807 := rfl
  have b1 : -9223372036854775808 ≤ (uv x).tdiv (U : Int) := by
    rcases Int.lt_or_le (uv x) 0 with hneg | hpos
    · have : (-uv x).tdiv (U : Int) ≤ 9223372036854775808 := by
        rw [Int.tdiv_eq_ediv_of_nonneg (by omega)]
        refine Int.ediv_le_of_le_mul hU ?_
        omega
      rw [Int.neg_tdiv] at this; omega
    · have := Int.tdiv_nonneg hpos (Int.le_of_lt hU); omega
  have b2 : (uv x).tdiv (U : Int) < 9223372036854775808 := by
    rcases Int.lt_or_le (uv x) 0 with hneg | hpos
    · have : 0 ≤ (-uv x).tdiv (U : Int) := Int.tdiv_nonneg (by omega) (Int.le_of_lt hU)
      rw [Int.neg_tdiv] at this; omega
    · rw [Int.tdiv_eq_ediv_of_nonneg hpos]
      exact Int.ediv_lt_of_lt_mul hU hn
  rw [if_pos (by rw [e1, e2]; omega)]

theorem ge63 (x : Nat) : (FloatKind.f64.format.order x w63n == some .gt || FloatKind.f64.format.order x w63n == some .eq) = fge' (cn x) w63n := by
  unfold fge'; rw [ford_cn1]; rfl
theorem lt63 (x : Nat) : (FloatKind.f64.format.order x w63 == some .lt) = (ford (cn x) w63 == some .lt) := by rw [ford_cn1]; rfl

def TIRet (c : Nat) (w : World) (e : Ending) (w' : World) : Prop := e = .returned (.tuple #[.int .i64 (toIC c), .bool (toIOk c)]) ∧ w' = w

set_option maxHeartbeats 1000000 in
theorem toint_any (x : Nat) (w : World) : Calls Tryz.prog 82 #[.float .f64 x] w (TIRet (cn x) w) := by
  have hg := ge63 x
  have hl := lt63 x
  unfold w63n at hg
  unfold w63 at hl
  have hk : toIOk (cn x) = (fge' (cn x) 14114281232179134464 && (ford (cn x) 4890909195324358656 == some .lt)) := rfl
  cases h1 : fge' (cn x) 14114281232179134464 with
  | false =>
    have h0 : toIOk (cn x) = false := by rw [hk, h1]; rfl
    have hc : toIC (cn x) = 0 := by unfold toIC; rw [if_neg (by rw [h0]; simp)]
    have HR : Hid (∀ w', w' = w → TIRet (cn x) w (.returned (.tuple #[.int .i64 0, .bool false])) w') := by show ∀ w', _ → _; intro w' hw; refine ⟨?_, hw⟩; rw [h0, hc]
    rw [h1] at hg
    clear hk h1 h0 hc hl
    go_enter Tryz.func82, Tryz.ntmps82
    go_wp2_with fail
    go_ret2
    exact HR.out _ rfl
  | true =>
    rw [h1] at hg
    cases h2 : (ford (cn x) 4890909195324358656 == some .lt) with
    | false =>
      have h0 : toIOk (cn x) = false := by rw [hk, h1, h2]; rfl
      have hc : toIC (cn x) = 0 := by unfold toIC; rw [if_neg (by rw [h0]; simp)]
      have HR : Hid (∀ w', w' = w → TIRet (cn x) w (.returned (.tuple #[.int .i64 0, .bool false])) w') := by show ∀ w', _ → _; intro w' hw; refine ⟨?_, hw⟩; rw [h0, hc]
      rw [h2] at hl
      clear hk h1 h0 hc h2
      go_enter Tryz.func82, Tryz.ntmps82
      go_wp2_with fail
      go_ret2
      exact HR.out _ rfl
    | true =>
      have h0 : toIOk (cn x) = true := by rw [hk, h1, h2]; rfl
      have hcv := fun w' => run_convert_float_int (P := Tryz.prog) w' 27 2 .f64 .i64 x _ (by kernel_rfl) Tryz.underlying2 (toI_conv h0)
      have HR : Hid (∀ w', w' = w → TIRet (cn x) w (.returned (.tuple #[.int .i64 (toIC (cn x)), .bool true])) w') := by show ∀ w', _ → _; intro w' hw; refine ⟨?_, hw⟩; rw [h0]
      rw [h2] at hl
      clear hk h1 h0 h2
      go_enter Tryz.func82, Tryz.ntmps82
      go_wp2_with fail
      go_ret2
      exact HR.out _ rfl
end Go.Proofs.YtoeldcgclaiokaaGreat

namespace Go.Proofs.YtoeldcgclaiokaaGreat
open Go.Fl Go.Rel Go.RowKit

set_option maxHeartbeats 4000000 in
set_option maxRecDepth 100000 in
theorem clos_beat (f : Int → Nat) (vv : Value) (pa : Option Addr) (pn pc : Nat) (F T N : Int) (ab ao an ac q : Nat) (w : World) (h0 : 0 < an) (hcell : w.cell? ⟨ab, ao, none⟩ = some (.float .f64 q))
    (HF : Hid (∀ p w1, Below w.heap.size w w1 → Calls Tryz.prog 83 #[.slice pa pn pc, .int .i64 p] w1 (FB (f p) w1))) :
    Calls Tryz.prog 81 #[winV pa pn pc F T N, vv, .slice (some ⟨ab, ao, none⟩) an ac] w (OptRet (some (f (toIC (fop .mul (cn q) (cn 4652007308841189376))))) w) := by
  have hc2 := cell_old hcell (.cells #[.slice pa pn pc, .int .i64 F, .int .i64 T, .int .i64 N] 24)
  have HB0 : Hid (Below w.heap.size w (w.alloc (.cells #[.slice pa pn pc, .int .i64 F, .int .i64 T, .int .i64 N] 24))) := (Below.refl _ _).alloc (Nat.le_refl _) _
  clear hcell
  go_enter Tryz.func81, Tryz.ntmps81
  go_wp2_with (first | (go_at_call 82; ((with_reducible refine (toint_any _ _).mono ?_); rintro e w1 ⟨rfl, rfl⟩)) | (go_at_call 83; ((with_reducible refine (HF.out _ _ (HB0.out.drewN' _)).mono ?_); rintro e w1 ⟨r, rfl, hr, b1⟩)) | (refine wpList_fop _ _ _ _ _ _ _ rfl rfl rfl ?_; intro r1 n1 hr1))
  go_ret2
  exact ⟨r, rfl, hr, (HB0.out.drewN' _).trans (b1.mono (HB0.out.drewN' _).size)⟩
end Go.Proofs.YtoeldcgclaiokaaGreat
