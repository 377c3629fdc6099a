/- The closures of the functions of the values alone. -/
import Derived.Test.YtoeldcgclaiokaaInstA
import Derived.Test.YtoeldcgclaiokaaFindA
import Derived.Test.YtoeldcgclaiokaaChg
namespace Go.Proofs.Ytoeldcgclaiokaa
open Go.Fl Go.Rel Go.RowKit

/-- A function of a list of floats answers a class. -/
def AnsF (f : FuncId) (a : Option Addr) (n cap c : Nat) (w : World) : Prop := ∀ w1, Below w.heap.size w w1 → Calls Try.prog f #[.slice a n cap] w1 (FB c w1)

theorem FSame.fb {c : Nat} {w : World} {e : Ending} {w' : World} (h : FSame c w e w') : FB c w e w' := by
  obtain ⟨r, h1, h2, h3⟩ := h
  exact ⟨r, h1, h2, by rw [← h3]; exact Below.refl _ _⟩

theorem f1_any (a : Option Addr) (n cap : Nat) (w : World) : Calls Try.prog 30 #[.slice a n cap] w (FB (nfl n) w) := by
  go_enter Try.func30, Try.ntmps30
  go_wp2_with fail
  go_ret
  exact ⟨_, rfl, cn_nfl n, Below.refl _ _⟩
theorem f2_any (a : Option Addr) (n cap : Nat) (w : World) : Calls Try.prog 31 #[.slice a n cap] w (FB one w) := by
  go_enter Try.func31, Try.ntmps31
  go_wp2_with fail
  go_ret
  exact ⟨_, rfl, cn_one, Below.refl _ _⟩
theorem f3_any (b off n cap v : Nat) (h0 : 0 < n) (w : World) (hc : w.cell? ⟨b, off, none⟩ = some (.float .f64 v)) : Calls Try.prog 32 #[.slice (some ⟨b, off, none⟩) n cap] w (FB (cn v) w) := by
  go_enter Try.func32, Try.ntmps32
  go_wp2_with fail
  go_ret
  exact ⟨_, rfl, rfl, Below.refl _ _⟩
theorem f4_any (b off m cap v : Nat) (hn : m + 1 ≤ 140737488355328) (w : World) (hc : w.cell? ⟨b, off + m, none⟩ = some (.float .f64 v)) : Calls Try.prog 33 #[.slice (some ⟨b, off, none⟩) (m + 1) cap] w (FB (cn v) w) := by
  go_enter Try.func33, Try.ntmps33
  go_wp2_with fail
  go_ret
  exact ⟨_, rfl, rfl, Below.refl _ _⟩
theorem f5_any (b off n cap : Nat) (xs : List Nat) (w : World) (h0 : 0 < n) (hc : n < cap ∨ n = cap) (hcm : cap ≤ 140737488355328) (hl : xs.length = n) (hcell : ∀ i, i < n → w.cell? ⟨b, off + i, none⟩ = some (.float .f64 (at0 xs i))) :
    Calls Try.prog 38 #[.slice (some ⟨b, off, none⟩) n cap] w (FB (mostT (xs.map cn) true (n - 1)) w) := by
  have HM := Lib.hid (most_true b off n cap xs w h0 hc hcm hl hcell)
  clear hcell hl hc hcm h0
  go_enter Try.func38, Try.ntmps38
  go_wp2_with (go_at_call 39; ((with_reducible refine HM.out.mono ?_); rintro e w' ⟨r, rfl, hr, rfl⟩))
  go_ret
  exact ⟨r, rfl, hr, Below.refl _ _⟩
theorem f6_any (b off n cap : Nat) (xs : List Nat) (w : World) (h0 : 0 < n) (hc : n < cap ∨ n = cap) (hcm : cap ≤ 140737488355328) (hl : xs.length = n) (hcell : ∀ i, i < n → w.cell? ⟨b, off + i, none⟩ = some (.float .f64 (at0 xs i))) :
    Calls Try.prog 40 #[.slice (some ⟨b, off, none⟩) n cap] w (FB (mostT (xs.map cn) false (n - 1)) w) := by
  have HM := Lib.hid (most_false b off n cap xs w h0 hc hcm hl hcell)
  clear hcell hl hc hcm h0
  go_enter Try.func40, Try.ntmps40
  go_wp2_with (go_at_call 39; ((with_reducible refine HM.out.mono ?_); rintro e w' ⟨r, rfl, hr, rfl⟩))
  go_ret
  exact ⟨r, rfl, hr, Below.refl _ _⟩

set_option maxHeartbeats 4000000 in
set_option maxRecDepth 100000 in
theorem clos_count_over_time (c : Nat) (av : Value) (pa : Option Addr) (pn pc : Nat) (F T N : Int) (a : Option Addr) (n cap B : Nat) (w : World) (hcell : w.cell? ⟨B, 0, none⟩ = some (.func (.func 30) #[] #[]))
    (HF : Hid (AnsF 30 a n cap c w)) :
    Calls Try.prog 45 #[winV pa pn pc F T N, .slice a n cap, av, .pointer (some ⟨B, 0, none⟩)] w (OptRet (some c) w) := by
  have hc2 := cell_old hcell (.cells #[.slice pa pn pc, .int .i64 F, .int .i64 T, .int .i64 N] 30)
  have HB0 : Hid (Below w.heap.size w (w.alloc (.cells #[.slice pa pn pc, .int .i64 F, .int .i64 T, .int .i64 N] 30))) := (Below.refl _ _).alloc (Nat.le_refl _) _
  clear hcell
  unfold AnsF at HF
  go_enter Try.func45, Try.ntmps45
  go_wp2_with (go_at_call 30; ((with_reducible refine (HF.out _ HB0.out).mono ?_); rintro e w1 ⟨r, rfl, hr, b1⟩))
  go_ret2
  exact ⟨r, rfl, hr, HB0.out.trans (b1.mono HB0.out.size)⟩

set_option maxHeartbeats 4000000 in
set_option maxRecDepth 100000 in
theorem clos_present_over_time (c : Nat) (av : Value) (pa : Option Addr) (pn pc : Nat) (F T N : Int) (a : Option Addr) (n cap B : Nat) (w : World) (hcell : w.cell? ⟨B, 0, none⟩ = some (.func (.func 31) #[] #[]))
    (HF : Hid (AnsF 31 a n cap c w)) :
    Calls Try.prog 45 #[winV pa pn pc F T N, .slice a n cap, av, .pointer (some ⟨B, 0, none⟩)] w (OptRet (some c) w) := by
  have hc2 := cell_old hcell (.cells #[.slice pa pn pc, .int .i64 F, .int .i64 T, .int .i64 N] 30)
  have HB0 : Hid (Below w.heap.size w (w.alloc (.cells #[.slice pa pn pc, .int .i64 F, .int .i64 T, .int .i64 N] 30))) := (Below.refl _ _).alloc (Nat.le_refl _) _
  clear hcell
  unfold AnsF at HF
  go_enter Try.func45, Try.ntmps45
  go_wp2_with (go_at_call 31; ((with_reducible refine (HF.out _ HB0.out).mono ?_); rintro e w1 ⟨r, rfl, hr, b1⟩))
  go_ret2
  exact ⟨r, rfl, hr, HB0.out.trans (b1.mono HB0.out.size)⟩

set_option maxHeartbeats 4000000 in
set_option maxRecDepth 100000 in
theorem clos_first_over_time (c : Nat) (av : Value) (pa : Option Addr) (pn pc : Nat) (F T N : Int) (a : Option Addr) (n cap B : Nat) (w : World) (hcell : w.cell? ⟨B, 0, none⟩ = some (.func (.func 32) #[] #[]))
    (HF : Hid (AnsF 32 a n cap c w)) :
    Calls Try.prog 45 #[winV pa pn pc F T N, .slice a n cap, av, .pointer (some ⟨B, 0, none⟩)] w (OptRet (some c) w) := by
  have hc2 := cell_old hcell (.cells #[.slice pa pn pc, .int .i64 F, .int .i64 T, .int .i64 N] 30)
  have HB0 : Hid (Below w.heap.size w (w.alloc (.cells #[.slice pa pn pc, .int .i64 F, .int .i64 T, .int .i64 N] 30))) := (Below.refl _ _).alloc (Nat.le_refl _) _
  clear hcell
  unfold AnsF at HF
  go_enter Try.func45, Try.ntmps45
  go_wp2_with (go_at_call 32; ((with_reducible refine (HF.out _ HB0.out).mono ?_); rintro e w1 ⟨r, rfl, hr, b1⟩))
  go_ret2
  exact ⟨r, rfl, hr, HB0.out.trans (b1.mono HB0.out.size)⟩

set_option maxHeartbeats 4000000 in
set_option maxRecDepth 100000 in
theorem clos_last_over_time (c : Nat) (av : Value) (pa : Option Addr) (pn pc : Nat) (F T N : Int) (a : Option Addr) (n cap B : Nat) (w : World) (hcell : w.cell? ⟨B, 0, none⟩ = some (.func (.func 33) #[] #[]))
    (HF : Hid (AnsF 33 a n cap c w)) :
    Calls Try.prog 45 #[winV pa pn pc F T N, .slice a n cap, av, .pointer (some ⟨B, 0, none⟩)] w (OptRet (some c) w) := by
  have hc2 := cell_old hcell (.cells #[.slice pa pn pc, .int .i64 F, .int .i64 T, .int .i64 N] 30)
  have HB0 : Hid (Below w.heap.size w (w.alloc (.cells #[.slice pa pn pc, .int .i64 F, .int .i64 T, .int .i64 N] 30))) := (Below.refl _ _).alloc (Nat.le_refl _) _
  clear hcell
  unfold AnsF at HF
  go_enter Try.func45, Try.ntmps45
  go_wp2_with (go_at_call 33; ((with_reducible refine (HF.out _ HB0.out).mono ?_); rintro e w1 ⟨r, rfl, hr, b1⟩))
  go_ret2
  exact ⟨r, rfl, hr, HB0.out.trans (b1.mono HB0.out.size)⟩

set_option maxHeartbeats 4000000 in
set_option maxRecDepth 100000 in
theorem clos_sum_over_time (c : Nat) (av : Value) (pa : Option Addr) (pn pc : Nat) (F T N : Int) (a : Option Addr) (n cap B : Nat) (w : World) (hcell : w.cell? ⟨B, 0, none⟩ = some (.func (.func 34) #[] #[]))
    (HF : Hid (AnsF 34 a n cap c w)) :
    Calls Try.prog 45 #[winV pa pn pc F T N, .slice a n cap, av, .pointer (some ⟨B, 0, none⟩)] w (OptRet (some c) w) := by
  have hc2 := cell_old hcell (.cells #[.slice pa pn pc, .int .i64 F, .int .i64 T, .int .i64 N] 30)
  have HB0 : Hid (Below w.heap.size w (w.alloc (.cells #[.slice pa pn pc, .int .i64 F, .int .i64 T, .int .i64 N] 30))) := (Below.refl _ _).alloc (Nat.le_refl _) _
  clear hcell
  unfold AnsF at HF
  go_enter Try.func45, Try.ntmps45
  go_wp2_with (go_at_call 34; ((with_reducible refine (HF.out _ HB0.out).mono ?_); rintro e w1 ⟨r, rfl, hr, b1⟩))
  go_ret2
  exact ⟨r, rfl, hr, HB0.out.trans (b1.mono HB0.out.size)⟩

set_option maxHeartbeats 4000000 in
set_option maxRecDepth 100000 in
theorem clos_avg_over_time (c : Nat) (av : Value) (pa : Option Addr) (pn pc : Nat) (F T N : Int) (a : Option Addr) (n cap B : Nat) (w : World) (hcell : w.cell? ⟨B, 0, none⟩ = some (.func (.func 35) #[] #[]))
    (HF : Hid (AnsF 35 a n cap c w)) :
    Calls Try.prog 45 #[winV pa pn pc F T N, .slice a n cap, av, .pointer (some ⟨B, 0, none⟩)] w (OptRet (some c) w) := by
  have hc2 := cell_old hcell (.cells #[.slice pa pn pc, .int .i64 F, .int .i64 T, .int .i64 N] 30)
  have HB0 : Hid (Below w.heap.size w (w.alloc (.cells #[.slice pa pn pc, .int .i64 F, .int .i64 T, .int .i64 N] 30))) := (Below.refl _ _).alloc (Nat.le_refl _) _
  clear hcell
  unfold AnsF at HF
  go_enter Try.func45, Try.ntmps45
  go_wp2_with (go_at_call 35; ((with_reducible refine (HF.out _ HB0.out).mono ?_); rintro e w1 ⟨r, rfl, hr, b1⟩))
  go_ret2
  exact ⟨r, rfl, hr, HB0.out.trans (b1.mono HB0.out.size)⟩

set_option maxHeartbeats 4000000 in
set_option maxRecDepth 100000 in
theorem clos_stddev_over_time (c : Nat) (av : Value) (pa : Option Addr) (pn pc : Nat) (F T N : Int) (a : Option Addr) (n cap B : Nat) (w : World) (hcell : w.cell? ⟨B, 0, none⟩ = some (.func (.func 36) #[] #[]))
    (HF : Hid (AnsF 36 a n cap c w)) :
    Calls Try.prog 45 #[winV pa pn pc F T N, .slice a n cap, av, .pointer (some ⟨B, 0, none⟩)] w (OptRet (some c) w) := by
  have hc2 := cell_old hcell (.cells #[.slice pa pn pc, .int .i64 F, .int .i64 T, .int .i64 N] 30)
  have HB0 : Hid (Below w.heap.size w (w.alloc (.cells #[.slice pa pn pc, .int .i64 F, .int .i64 T, .int .i64 N] 30))) := (Below.refl _ _).alloc (Nat.le_refl _) _
  clear hcell
  unfold AnsF at HF
  go_enter Try.func45, Try.ntmps45
  go_wp2_with (go_at_call 36; ((with_reducible refine (HF.out _ HB0.out).mono ?_); rintro e w1 ⟨r, rfl, hr, b1⟩))
  go_ret2
  exact ⟨r, rfl, hr, HB0.out.trans (b1.mono HB0.out.size)⟩

set_option maxHeartbeats 4000000 in
set_option maxRecDepth 100000 in
theorem clos_stdvar_over_time (c : Nat) (av : Value) (pa : Option Addr) (pn pc : Nat) (F T N : Int) (a : Option Addr) (n cap B : Nat) (w : World) (hcell : w.cell? ⟨B, 0, none⟩ = some (.func (.func 37) #[] #[]))
    (HF : Hid (AnsF 37 a n cap c w)) :
    Calls Try.prog 45 #[winV pa pn pc F T N, .slice a n cap, av, .pointer (some ⟨B, 0, none⟩)] w (OptRet (some c) w) := by
  have hc2 := cell_old hcell (.cells #[.slice pa pn pc, .int .i64 F, .int .i64 T, .int .i64 N] 30)
  have HB0 : Hid (Below w.heap.size w (w.alloc (.cells #[.slice pa pn pc, .int .i64 F, .int .i64 T, .int .i64 N] 30))) := (Below.refl _ _).alloc (Nat.le_refl _) _
  clear hcell
  unfold AnsF at HF
  go_enter Try.func45, Try.ntmps45
  go_wp2_with (go_at_call 37; ((with_reducible refine (HF.out _ HB0.out).mono ?_); rintro e w1 ⟨r, rfl, hr, b1⟩))
  go_ret2
  exact ⟨r, rfl, hr, HB0.out.trans (b1.mono HB0.out.size)⟩

set_option maxHeartbeats 4000000 in
set_option maxRecDepth 100000 in
theorem clos_max_over_time (c : Nat) (av : Value) (pa : Option Addr) (pn pc : Nat) (F T N : Int) (a : Option Addr) (n cap B : Nat) (w : World) (hcell : w.cell? ⟨B, 0, none⟩ = some (.func (.func 38) #[] #[]))
    (HF : Hid (AnsF 38 a n cap c w)) :
    Calls Try.prog 45 #[winV pa pn pc F T N, .slice a n cap, av, .pointer (some ⟨B, 0, none⟩)] w (OptRet (some c) w) := by
  have hc2 := cell_old hcell (.cells #[.slice pa pn pc, .int .i64 F, .int .i64 T, .int .i64 N] 30)
  have HB0 : Hid (Below w.heap.size w (w.alloc (.cells #[.slice pa pn pc, .int .i64 F, .int .i64 T, .int .i64 N] 30))) := (Below.refl _ _).alloc (Nat.le_refl _) _
  clear hcell
  unfold AnsF at HF
  go_enter Try.func45, Try.ntmps45
  go_wp2_with (go_at_call 38; ((with_reducible refine (HF.out _ HB0.out).mono ?_); rintro e w1 ⟨r, rfl, hr, b1⟩))
  go_ret2
  exact ⟨r, rfl, hr, HB0.out.trans (b1.mono HB0.out.size)⟩

set_option maxHeartbeats 4000000 in
set_option maxRecDepth 100000 in
theorem clos_min_over_time (c : Nat) (av : Value) (pa : Option Addr) (pn pc : Nat) (F T N : Int) (a : Option Addr) (n cap B : Nat) (w : World) (hcell : w.cell? ⟨B, 0, none⟩ = some (.func (.func 40) #[] #[]))
    (HF : Hid (AnsF 40 a n cap c w)) :
    Calls Try.prog 45 #[winV pa pn pc F T N, .slice a n cap, av, .pointer (some ⟨B, 0, none⟩)] w (OptRet (some c) w) := by
  have hc2 := cell_old hcell (.cells #[.slice pa pn pc, .int .i64 F, .int .i64 T, .int .i64 N] 30)
  have HB0 : Hid (Below w.heap.size w (w.alloc (.cells #[.slice pa pn pc, .int .i64 F, .int .i64 T, .int .i64 N] 30))) := (Below.refl _ _).alloc (Nat.le_refl _) _
  clear hcell
  unfold AnsF at HF
  go_enter Try.func45, Try.ntmps45
  go_wp2_with (go_at_call 40; ((with_reducible refine (HF.out _ HB0.out).mono ?_); rintro e w1 ⟨r, rfl, hr, b1⟩))
  go_ret2
  exact ⟨r, rfl, hr, HB0.out.trans (b1.mono HB0.out.size)⟩

set_option maxHeartbeats 4000000 in
set_option maxRecDepth 100000 in
theorem clos_mad_over_time (c : Nat) (av : Value) (pa : Option Addr) (pn pc : Nat) (F T N : Int) (a : Option Addr) (n cap B : Nat) (w : World) (hcell : w.cell? ⟨B, 0, none⟩ = some (.func (.func 41) #[] #[]))
    (HF : Hid (AnsF 41 a n cap c w)) :
    Calls Try.prog 45 #[winV pa pn pc F T N, .slice a n cap, av, .pointer (some ⟨B, 0, none⟩)] w (OptRet (some c) w) := by
  have hc2 := cell_old hcell (.cells #[.slice pa pn pc, .int .i64 F, .int .i64 T, .int .i64 N] 30)
  have HB0 : Hid (Below w.heap.size w (w.alloc (.cells #[.slice pa pn pc, .int .i64 F, .int .i64 T, .int .i64 N] 30))) := (Below.refl _ _).alloc (Nat.le_refl _) _
  clear hcell
  unfold AnsF at HF
  go_enter Try.func45, Try.ntmps45
  go_wp2_with (go_at_call 41; ((with_reducible refine (HF.out _ HB0.out).mono ?_); rintro e w1 ⟨r, rfl, hr, b1⟩))
  go_ret2
  exact ⟨r, rfl, hr, HB0.out.trans (b1.mono HB0.out.size)⟩

set_option maxHeartbeats 4000000 in
set_option maxRecDepth 100000 in
theorem clos_changes (c : Nat) (av : Value) (pa : Option Addr) (pn pc : Nat) (F T N : Int) (a : Option Addr) (n cap B : Nat) (w : World) (hcell : w.cell? ⟨B, 0, none⟩ = some (.func (.func 42) #[] #[]))
    (HF : Hid (AnsF 42 a n cap c w)) :
    Calls Try.prog 45 #[winV pa pn pc F T N, .slice a n cap, av, .pointer (some ⟨B, 0, none⟩)] w (OptRet (some c) w) := by
  have hc2 := cell_old hcell (.cells #[.slice pa pn pc, .int .i64 F, .int .i64 T, .int .i64 N] 30)
  have HB0 : Hid (Below w.heap.size w (w.alloc (.cells #[.slice pa pn pc, .int .i64 F, .int .i64 T, .int .i64 N] 30))) := (Below.refl _ _).alloc (Nat.le_refl _) _
  clear hcell
  unfold AnsF at HF
  go_enter Try.func45, Try.ntmps45
  go_wp2_with (go_at_call 42; ((with_reducible refine (HF.out _ HB0.out).mono ?_); rintro e w1 ⟨r, rfl, hr, b1⟩))
  go_ret2
  exact ⟨r, rfl, hr, HB0.out.trans (b1.mono HB0.out.size)⟩

set_option maxHeartbeats 4000000 in
set_option maxRecDepth 100000 in
theorem clos_resets (c : Nat) (av : Value) (pa : Option Addr) (pn pc : Nat) (F T N : Int) (a : Option Addr) (n cap B : Nat) (w : World) (hcell : w.cell? ⟨B, 0, none⟩ = some (.func (.func 43) #[] #[]))
    (HF : Hid (AnsF 43 a n cap c w)) :
    Calls Try.prog 45 #[winV pa pn pc F T N, .slice a n cap, av, .pointer (some ⟨B, 0, none⟩)] w (OptRet (some c) w) := by
  have hc2 := cell_old hcell (.cells #[.slice pa pn pc, .int .i64 F, .int .i64 T, .int .i64 N] 30)
  have HB0 : Hid (Below w.heap.size w (w.alloc (.cells #[.slice pa pn pc, .int .i64 F, .int .i64 T, .int .i64 N] 30))) := (Below.refl _ _).alloc (Nat.le_refl _) _
  clear hcell
  unfold AnsF at HF
  go_enter Try.func45, Try.ntmps45
  go_wp2_with (go_at_call 43; ((with_reducible refine (HF.out _ HB0.out).mono ?_); rintro e w1 ⟨r, rfl, hr, b1⟩))
  go_ret2
  exact ⟨r, rfl, hr, HB0.out.trans (b1.mono HB0.out.size)⟩
end Go.Proofs.Ytoeldcgclaiokaa
