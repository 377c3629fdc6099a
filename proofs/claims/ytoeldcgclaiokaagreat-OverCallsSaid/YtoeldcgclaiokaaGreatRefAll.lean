/- weirref20.values, outer, pairs: what they answer. weirref02.ToInt: its whole number. weirref20.off: the middle of the distances from the middle. weirref20.least, Known: how many points and numbers a name asks for. weirref20.plain at its names. weirref20.Call: what it answers, at any name. -/
import Derived.Test.YtoeldcgclaiokaaGreatCallB
import Derived.Test.YtoeldcgclaiokaaGreatFlAll
import Derived.OwnWalk
import Derived.Deep.QuietTactic
import Derived.BigQuiet
import Derived.Test.YtoeldcgclaiokaaGreatSmallQ
import Derived.Laws.BitsAllLaws
import Derived.Test.YtoeldcgclaiokaaGreatRatP
import Derived.Test.YtoeldcgclaiokaaGreatOpenW
import Derived.Test.YtoeldcgclaiokaaGreatAliveB
import Derived.Test.YtoeldcgclaiokaaGreatSpreadAll
import Derived.Test.YtoeldcgclaiokaaGreatSmooth
import Derived.Test.YtoeldcgclaiokaaGreatBeat
import Derived.Deep.RegionHeld3
import Derived.Test.YtoeldcgclaiokaaGreatRInstA
import Derived.Test.YtoeldcgclaiokaaGreatLineR
namespace Go.Proofs.YtoeldcgclaiokaaGreat
open Go.Fl Go.Rel Go.RowKit
set_option linter.unusedVariables false
set_option linter.unusedSimpArgs false

/-- The points' values, a list of its own. -/
def ValsRet (xs : List Nat) (w : World) (e : Ending) (w' : World) : Prop := ∃ v, e = .returned v ∧ Own w.heap.size w' v xs ∧ Below w.heap.size w w'
def ValsRel (xs : List Nat) (n B : Nat) (w : World) (v3 i : Value) (wr : World) : Prop := ∃ k, k ≤ n ∧ i = .int .i64 (k : Int) ∧ Own B wr v3 (xs.take k) ∧ Below B w wr
theorem take_snoc_at (xs : List Nat) (k : Nat) (h : k < xs.length) : xs.take (k + 1) = xs.take k ++ [at0 xs k] := by
  rw [List.take_add_one, List.getElem?_eq_getElem h]; simp [at0, List.getD, h]
theorem Own.weak {B C : Nat} {w : World} {v : Value} {ys : List Nat} (h : Own B w v ys) (hB : C ≤ B) : Own C w v ys := by
  obtain ⟨h1, h2⟩ := h
  refine ⟨h1, ?_⟩
  rcases h2 with h | ⟨g, cap, cur, e1, hg, h⟩
  · exact .inl h
  · exact .inr ⟨g, cap, cur, e1, by omega, h⟩
theorem cell_made1 (w : World) (y : Nat) : (w.alloc (.cells #[.float .f64 y] 27)).cell? ⟨w.heap.size, 0, none⟩ = some (.float .f64 y) := by rw [World.cell?_alloc_at _ _ _ _ rfl]; rfl

set_option maxHeartbeats 4000000 in
set_option maxRecDepth 100000 in
theorem values_any (a : Option Addr) (n cap : Nat) (ss : List Smp) (F T N : Int) (w : World) (hr : SRow w a n ss) (hn : n < 17592186044416) :
    Calls Tryz.prog 17 #[.agg #[.slice a n cap, .int .i64 F, .int .i64 T, .int .i64 N]] w (ValsRet (xsOf ss) w) := by
  have hl := hr.1
  obtain ⟨W1, hW1⟩ : ∃ W1, W1 = w.alloc (.cells #[.slice a n cap, .int .i64 F, .int .i64 T, .int .i64 N] 24) := ⟨_, rfl⟩
  have HI0 : Hid (Bk.Is W1 w.heap.size #[.slice a n cap, .int .i64 F, .int .i64 T, .int .i64 N] 24) := by show Bk.Is _ _ _ _; rw [hW1]; exact Bk.Is.made w _ _
  have hb1 : Below w.heap.size w W1 := by rw [hW1]; exact (Below.refl _ _).alloc (Nat.le_refl _) _
  have HB1 := Lib.hid hb1
  have HR := Lib.hid hr
  have HW1 := Lib.hid hW1
  have HL : Hid ((xsOf ss).length = n) := by show _ = _; unfold xsOf; rw [List.length_map, hl]
  have HN := Lib.hid hn
  have HX : Hid (∀ k, k < n → at0 (xsOf ss) k = vS ss k) := fun k hk => by simp [xsOf, at0, vS, sAt, List.getD, hl, hk]
  obtain ⟨i0, hi, hz0, hz1, hz2⟩ := info_parts info_f
  clear hb1 hr hW1 hl
  go_enter Tryz.func17, Tryz.ntmps17
  go_wp2_with (at_make; rw [← HW1.out]; refine wpList_make_own _ rfl _ _ 25 rfl W1.heap.size 27 i0 _ 1 Tryz.underlying25 hi hz0 hz1 .i64 .i64 _ n rfl rfl rfl (by rw [hz2]; have := HN.out; omega) (by unfold maxLen; have := HN.out; omega) (Nat.le_refl _) ?_; intro w2 hown2 hg2; have HO2 : Hid (Own W1.heap.size w2 (.slice (some ⟨W1.heap.size, 0, none⟩) 0 n) []) := hown2; have HB2 : Hid (Below W1.heap.size W1 w2) := Own.below (own_nil _ W1) (Below.refl _ _) hg2 (Nat.le_refl _); clear hown2 hg2)
  go_loopw [3, 4] (ValsRel (xsOf ss) n W1.heap.size W1) (fun _ i _ => n - (intOf i).toNat)
  case atStart => exact ⟨0, by omega, rfl, HO2.out, HB2.out⟩
  case round =>
    obtain ⟨k, hk, rfl, hown, bw⟩ := hrel
    have HOWN := Lib.hid hown
    have BW := Lib.hid bw
    have J0 := HI0.out.below bw HI0.out.lt
    have x0 : wr.cell? ⟨w.heap.size, 0, none⟩ = some (.slice a n cap) := by rw [J0.cell]; rfl
    clear hown
    by_cases hlt : k < n
    · have hrw := HR.out.below (HB1.out.trans (bw.mono HB1.out.size))
      obtain ⟨b, off, ha, hcell⟩ := hrw.2.2.2 (by omega)
      subst ha
      have e1 := (hcell k hlt).2.1
      have Hlen : Hid (((xsOf ss).take k).length = k) := by show _ = _; simp; rw [HL.out]; omega
      have Hsn := Lib.hid (take_snoc_at (xsOf ss) k (by rw [HL.out]; exact hlt))
      rw [HX.out k hlt] at Hsn
      obtain ⟨vk, hvk⟩ : ∃ q, q = vS ss k := ⟨_, rfl⟩
      rw [← hvk] at e1 Hsn
      have klt : (k : Int) < (n : Int) := by omega
      have wk1 : IntKind.i64.wrap ((k : Int) + 1) = (k : Int) + 1 := by have := HN.out; rw [IntKind.wrap_i64]; omega
      have wk2 : wrap64 ((k : Int) + 1) = (k : Int) + 1 := by have := HN.out; unfold wrap64; omega
      clear hcell hrw hvk J0 bw
      go_wp2_with (at_builtin; refine wpList_append_f rfl (.tmp 16) (.tmp 23) rfl W1.heap.size _ ((xsOf ss).take k) rfl (Own.alloc HOWN.out _) ⟨wr.heap.size, 0, none⟩ 1 vk rfl (cell_made1 wr vk) (by rw [Hlen.out]; exact Nat.lt_trans hlt HN.out) (by have := BW.out.size; simp; omega) ?_; intro v' w' hown' hg hv; have HG := Lib.hid hown'; have BN := Lib.hid (Own.below (Own.alloc HOWN.out _) (BW.out.alloc BW.out.size _) hg (by have := BW.out.size; simp; omega)); clear hown' hg hv)
      go_roundw
      case rel =>
        refine ⟨k + 1, by omega, by go_num, ?_, BN.out⟩
        rw [Hsn.out]
        exact HG.out
      case measure => simp [intOf]; omega
    · obtain rfl : k = n := by omega
      rw [List.take_of_length_le (by rw [HL.out]; exact Nat.le_refl _)] at HOWN
      go_wp2_with fail
      go_ret
      exact ⟨_, rfl, HOWN.out.weak HB1.out.size, HB1.out.trans (BW.out.mono HB1.out.size)⟩

def ROutRel (vs : List Nat) (up : Bool) (n : Nat) (vm vi : Value) : Prop := ∃ k r : Nat, k + 1 ≤ n ∧ vi = .int .i64 ((k : Int) + 1) ∧ vm = .float .f64 r ∧ cn r = mostT vs up k

set_option maxHeartbeats 2000000 in
set_option maxRecDepth 100000 in
theorem outer_false (b off n cap : Nat) (xs : List Nat) (w : World) (h0 : 0 < n) (hn : n < 17592186044416) (hl : xs.length = n) (hcell : ∀ i, i < n → w.cell? ⟨b, off + i, none⟩ = some (.float .f64 (at0 xs i))) :
    Calls Tryz.prog 33 #[.slice (some ⟨b, off, none⟩) n cap, .bool false] w (FSame (mostT (xs.map cn) true (n - 1)) w) := by
  have c0 := hcell 0 h0
  rw [Nat.add_zero] at c0
  have HA : Hid (∀ i, i < n → at0 (xs.map cn) i = cn (at0 xs i)) := fun i hi => at0_map cn xs (by omega)
  have HC := Lib.hid hcell
  have h1n : 1 ≤ n := h0
  clear hcell hl h0
  go_enter Tryz.func33, Tryz.ntmps33
  go_wp2_with fail
  go_loop [5, 6] (ROutRel (xs.map cn) true n) (fun _ vi => n + 1 - (intOf vi).toNat)
  case atStart => exact ⟨0, _, h1n, rfl, rfl, (HA.out 0 (by omega)).symm⟩
  case round =>
    obtain ⟨k, r, hk, rfl, rfl, hr⟩ := hrel
    have HR := Lib.hid hr
    clear hr
    by_cases hlt : k + 1 < n
    · have ck := HC.out (k + 1) hlt
      have HV := Lib.hid (HA.out (k + 1) hlt)
      obtain ⟨v, hv⟩ : ∃ v, v = at0 xs (k + 1) := ⟨_, rfl⟩
      rw [← hv] at ck HV
      clear hv
      have klt : (k : Int) + 1 < (n : Int) := by omega
      have o1 : (FloatKind.f64.format.order v r == some Ordering.gt) = (ford (cn v) (cn r) == some .gt) := by rw [order_cn]
      have o2 : (FloatKind.f64.format.order r r != some Ordering.eq) = isN (cn r) := by rw [isN_cn]; exact ne_self r
      have HP : Hid (mostP true (cn v) (cn r) = ((ford (cn v) (cn r) == some .gt) || isN (cn r))) := rfl
      obtain ⟨p, hp⟩ : ∃ p, p = (ford (cn v) (cn r) == some .gt) := ⟨_, rfl⟩
      obtain ⟨q, hq⟩ : ∃ p, p = isN (cn r) := ⟨_, rfl⟩
      rw [← hp] at o1 HP
      rw [← hq] at o2 HP
      clear hp hq
      have HT : Hid (mostT (xs.map cn) true (k + 1) = if mostP true (at0 (xs.map cn) (k + 1)) (mostT (xs.map cn) true k) = true then at0 (xs.map cn) (k + 1) else mostT (xs.map cn) true k) := rfl
      cases p <;> cases q
      all_goals
        go_wp2_with fail
        go_round
        case rel => exact ⟨k + 1, _, by omega, by go_num, rfl, by rw [HT.out, HV.out, ← HR.out, HP.out]; rfl⟩
        case measure => simp [intOf]; omega
    · have hkn : n - 1 = k := by omega
      have HKN := Lib.hid hkn
      have dk : decide ((k : Int) + 1 < (n : Int)) = false := decide_eq_false (by omega)
      clear hkn
      go_wp2_with fail
      go_ret
      exact ⟨r, rfl, by rw [HKN.out]; exact HR.out, rfl⟩

set_option maxHeartbeats 2000000 in
set_option maxRecDepth 100000 in
theorem outer_true (b off n cap : Nat) (xs : List Nat) (w : World) (h0 : 0 < n) (hn : n < 17592186044416) (hl : xs.length = n) (hcell : ∀ i, i < n → w.cell? ⟨b, off + i, none⟩ = some (.float .f64 (at0 xs i))) :
    Calls Tryz.prog 33 #[.slice (some ⟨b, off, none⟩) n cap, .bool true] w (FSame (mostT (xs.map cn) false (n - 1)) w) := by
  have c0 := hcell 0 h0
  rw [Nat.add_zero] at c0
  have HA : Hid (∀ i, i < n → at0 (xs.map cn) i = cn (at0 xs i)) := fun i hi => at0_map cn xs (by omega)
  have HC := Lib.hid hcell
  have h1n : 1 ≤ n := h0
  clear hcell hl h0
  go_enter Tryz.func33, Tryz.ntmps33
  go_wp2_with fail
  go_loop [5, 6] (ROutRel (xs.map cn) false n) (fun _ vi => n + 1 - (intOf vi).toNat)
  case atStart => exact ⟨0, _, h1n, rfl, rfl, (HA.out 0 (by omega)).symm⟩
  case round =>
    obtain ⟨k, r, hk, rfl, rfl, hr⟩ := hrel
    have HR := Lib.hid hr
    clear hr
    by_cases hlt : k + 1 < n
    · have ck := HC.out (k + 1) hlt
      have HV := Lib.hid (HA.out (k + 1) hlt)
      obtain ⟨v, hv⟩ : ∃ v, v = at0 xs (k + 1) := ⟨_, rfl⟩
      rw [← hv] at ck HV
      clear hv
      have klt : (k : Int) + 1 < (n : Int) := by omega
      have o1 : (FloatKind.f64.format.order v r == some Ordering.lt) = (ford (cn v) (cn r) == some .lt) := by rw [order_cn]
      have o2 : (FloatKind.f64.format.order r r != some Ordering.eq) = isN (cn r) := by rw [isN_cn]; exact ne_self r
      have HP : Hid (mostP false (cn v) (cn r) = ((ford (cn v) (cn r) == some .lt) || isN (cn r))) := rfl
      obtain ⟨p, hp⟩ : ∃ p, p = (ford (cn v) (cn r) == some .lt) := ⟨_, rfl⟩
      obtain ⟨q, hq⟩ : ∃ p, p = isN (cn r) := ⟨_, rfl⟩
      rw [← hp] at o1 HP
      rw [← hq] at o2 HP
      clear hp hq
      have HT : Hid (mostT (xs.map cn) false (k + 1) = if mostP false (at0 (xs.map cn) (k + 1)) (mostT (xs.map cn) false k) = true then at0 (xs.map cn) (k + 1) else mostT (xs.map cn) false k) := rfl
      cases p <;> cases q
      all_goals
        go_wp2_with fail
        go_round
        case rel => exact ⟨k + 1, _, by omega, by go_num, rfl, by rw [HT.out, HV.out, ← HR.out, HP.out]; rfl⟩
        case measure => simp [intOf]; omega
    · have hkn : n - 1 = k := by omega
      have HKN := Lib.hid hkn
      have dk : decide ((k : Int) + 1 < (n : Int)) = false := decide_eq_false (by omega)
      clear hkn
      go_wp2_with fail
      go_ret
      exact ⟨r, rfl, by rw [HKN.out]; exact HR.out, rfl⟩

theorem ford_ne_symm (x y : Nat) : (ford x y != some .eq) = (ford y x != some .eq) := by
  cases hx : isN x with
  | true => rw [ford_N1 y hx, ford_N2 y hx]
  | false =>
    cases hy : isN y with
    | true => rw [ford_N2 x hy, ford_N1 x hy]
    | false =>
      rw [ford_pl hx hy, ford_pl hy hx]
      rcases Int.lt_trichotomy (pl x) (pl y) with h | h | h
      · rw [Std.compare_eq_lt.2 h, Std.compare_eq_gt.2 h]; rfl
      · rw [h]
      · rw [Std.compare_eq_gt.2 h, Std.compare_eq_lt.2 h]; rfl

def PairsRel (vs : List Nat) (n : Nat) (w : World) (vn vm vi : Value) (wr : World) : Prop :=
  ∃ k nd c d : Nat, (k + 1 ≤ n ∨ k = 0) ∧ vi = .int .i64 ((k : Int) + 1) ∧ vn = .int .i64 (c : Int) ∧ vm = .int .i64 (d : Int) ∧ c = cntT chB vs k ∧ d = cntT reB vs k ∧ c ≤ k ∧ d ≤ k ∧ wr = w.drewN nd
theorem dw3 (w : World) (a b c : Nat) : ((w.drewN a).drewN b).drewN c = w.drewN (a + (b + c)) := by rw [World.drewN_drewN, World.drewN_drewN]
theorem dw4 (w : World) (a b c d : Nat) : (((w.drewN a).drewN b).drewN c).drewN d = w.drewN (a + (b + (c + d))) := by rw [World.drewN_drewN, dw3]

set_option maxHeartbeats 8000000 in
set_option maxRecDepth 100000 in
theorem pairs_any (a : Option Addr) (n cap : Nat) (xs : List Nat) (w : World) (hr : Row w a n xs) (hb : n < 17592186044416) (h0 : 0 < n) :
    Calls Tryz.prog 36 #[.slice a n cap] w fun e w' => e = .returned (.tuple #[.float .f64 (floatOfInt .f64 ((cntT chB (xs.map cn) (n - 1) : Nat) : Int)), .float .f64 (floatOfInt .f64 ((cntT reB (xs.map cn) (n - 1) : Nat) : Int))]) ∧ ∃ nd, w' = w.drewN nd := by
  obtain ⟨hl, -, hc⟩ := hr
  obtain ⟨b, off, rfl, hcell⟩ := hc h0
  have HA : Hid (∀ i, i < n → at0 (xs.map cn) i = cn (at0 xs i)) := fun i hi => at0_map cn xs (by omega)
  have HC := Lib.hid hcell
  clear hcell hl hc
  go_enter Tryz.func36, Tryz.ntmps36
  go_wp2_with fail
  go_loopw [4, 5, 6] (PairsRel (xs.map cn) n w) (fun _ _ vi _ => n + 1 - (intOf vi).toNat)
  case atStart => exact ⟨0, 0, 0, 0, .inr rfl, rfl, rfl, rfl, rfl, rfl, Nat.le_refl _, Nat.le_refl _, rfl⟩
  case round =>
    obtain ⟨k, nd, c, d, hk, rfl, rfl, rfl, hcc, hdd, hck, hdk, rfl⟩ := hrel
    have HCC := Lib.hid hcc
    have HDD := Lib.hid hdd
    clear hcc hdd
    by_cases hlt : k + 1 < n
    · have ck := HC.out k (by omega)
      have ck1 := HC.out (k + 1) hlt
      have HV0 := Lib.hid (HA.out k (by omega))
      have HV1 := Lib.hid (HA.out (k + 1) hlt)
      obtain ⟨u, hu⟩ : ∃ v, v = at0 xs k := ⟨_, rfl⟩
      obtain ⟨v, hv⟩ : ∃ v, v = at0 xs (k + 1) := ⟨_, rfl⟩
      rw [← hu] at ck HV0
      rw [← hv] at ck1 HV1
      clear hu hv hk
      have klt : (k : Int) + 1 < (n : Int) := by omega
      have hwk : IntKind.i64.wrap ((k : Int) + 1 - 1) = (k : Int) := by rw [IntKind.wrap_i64]; omega
      have hwc : IntKind.i64.wrap ((c : Int) + 1) = (c : Int) + 1 := by rw [IntKind.wrap_i64]; omega
      have hwd : IntKind.i64.wrap ((d : Int) + 1) = (d : Int) + 1 := by rw [IntKind.wrap_i64]; omega
      have HT : Hid (cntT chB (xs.map cn) (k + 1) = cntT chB (xs.map cn) k + if chB (at0 (xs.map cn) k) (at0 (xs.map cn) (k + 1)) = true then 1 else 0) := rfl
      have HS : Hid (cntT reB (xs.map cn) (k + 1) = cntT reB (xs.map cn) k + if reB (at0 (xs.map cn) k) (at0 (xs.map cn) (k + 1)) = true then 1 else 0) := rfl
      have o1 : (FloatKind.f64.format.order v u != some Ordering.eq) = (ford (cn v) (cn u) != some .eq) := by rw [order_cn]
      have o2 : (FloatKind.f64.format.order u u != some Ordering.eq) = isN (cn u) := by rw [isN_cn]; exact ne_self u
      have o3 : (FloatKind.f64.format.order v v != some Ordering.eq) = isN (cn v) := by rw [isN_cn]; exact ne_self v
      have o4 : (FloatKind.f64.format.order v u == some Ordering.lt) = (ford (cn v) (cn u) == some .lt) := by rw [order_cn]
      have HP : Hid (chB (cn u) (cn v) = ((ford (cn v) (cn u) != some .eq) && (!isN (cn u) || !isN (cn v)))) := by show _ = _; rw [ford_ne_symm]; rfl
      have HQ : Hid (reB (cn u) (cn v) = (ford (cn v) (cn u) == some .lt)) := rfl
      obtain ⟨p, hp⟩ : ∃ p, p = (ford (cn v) (cn u) != some .eq) := ⟨_, rfl⟩
      obtain ⟨q, hq⟩ : ∃ p, p = isN (cn u) := ⟨_, rfl⟩
      obtain ⟨s, hs⟩ : ∃ p, p = isN (cn v) := ⟨_, rfl⟩
      obtain ⟨t, ht⟩ : ∃ p, p = (ford (cn v) (cn u) == some .lt) := ⟨_, rfl⟩
      rw [← hp] at o1 HP
      rw [← hq] at o2 HP
      rw [← hs] at o3 HP
      rw [← ht] at o4 HQ
      clear hp hq hs ht
      cases p <;> cases q <;> cases s <;> cases t
      all_goals
        go_wp2_with fail
        go_quiet (fail)
        go_wp2_with fail
        go_quiet (fail)
        go_wp2_with fail
        go_quiet (fail)
        go_wp2_with fail
        go_roundw
        case rel =>
          first
            | exact ⟨k + 1, _, c, d, .inl hlt, by rw [show (((k + 1 : Nat) : Int) + 1) = (k : Int) + 1 + 1 from rfl], rfl, rfl, by rw [HT.out, HV0.out, HV1.out, ← HCC.out, HP.out]; rfl, by rw [HS.out, HV0.out, HV1.out, ← HDD.out, HQ.out]; rfl, by clear hwk hwc hwd; omega, by clear hwk hwc hwd; omega, by first | rfl | exact World.drewN_drewN .. | exact dw3 _ _ _ _ | exact dw4 _ _ _ _ _⟩
            | exact ⟨k + 1, _, c, d + 1, .inl hlt, by rw [show (((k + 1 : Nat) : Int) + 1) = (k : Int) + 1 + 1 from rfl], rfl, rfl, by rw [HT.out, HV0.out, HV1.out, ← HCC.out, HP.out]; rfl, by rw [HS.out, HV0.out, HV1.out, ← HDD.out, HQ.out]; rfl, by clear hwk hwc hwd; omega, by clear hwk hwc hwd; omega, by first | rfl | exact World.drewN_drewN .. | exact dw3 _ _ _ _ | exact dw4 _ _ _ _ _⟩
            | exact ⟨k + 1, _, c + 1, d, .inl hlt, by rw [show (((k + 1 : Nat) : Int) + 1) = (k : Int) + 1 + 1 from rfl], rfl, rfl, by rw [HT.out, HV0.out, HV1.out, ← HCC.out, HP.out]; rfl, by rw [HS.out, HV0.out, HV1.out, ← HDD.out, HQ.out]; rfl, by clear hwk hwc hwd; omega, by clear hwk hwc hwd; omega, by first | rfl | exact World.drewN_drewN .. | exact dw3 _ _ _ _ | exact dw4 _ _ _ _ _⟩
            | exact ⟨k + 1, _, c + 1, d + 1, .inl hlt, by rw [show (((k + 1 : Nat) : Int) + 1) = (k : Int) + 1 + 1 from rfl], rfl, rfl, by rw [HT.out, HV0.out, HV1.out, ← HCC.out, HP.out]; rfl, by rw [HS.out, HV0.out, HV1.out, ← HDD.out, HQ.out]; rfl, by clear hwk hwc hwd; omega, by clear hwk hwc hwd; omega, by first | rfl | exact World.drewN_drewN .. | exact dw3 _ _ _ _ | exact dw4 _ _ _ _ _⟩
        case measure => simp [intOf]; omega
    · have hkn : n - 1 = k := by omega
      have HKN := Lib.hid hkn
      have dk : decide ((k : Int) + 1 < (n : Int)) = false := decide_eq_false (by omega)
      clear hkn hk
      go_wp2_with fail
      go_ret2
      exact ⟨by rw [HKN.out, ← HCC.out, ← HDD.out]; rfl, _, rfl⟩

end Go.Proofs.YtoeldcgclaiokaaGreat

namespace Go.Proofs.YtoeldcgclaiokaaGreat
open Go.Fl Go.Rel Go.RowKit Ieee
set_option linter.unusedVariables false
set_option linter.unusedSimpArgs false

theorem rand_low (S E low : Nat) (hS : S = E * 4503599627370496 + low) (hl : low < 4503599627370496) (hE : E ≤ 2047) : bits .and .u64 (S : Int) 4503599627370495 = (low : Int) := by
  have := u64_and_nat S 4503599627370495 (by omega) (by omega)
  have e : S &&& 4503599627370495 = S % 4503599627370496 := Nat.and_two_pow_sub_one_eq_mod S 52
  rw [e, hS, show (E * 4503599627370496 + low) % 4503599627370496 = low by omega] at this
  rw [hS]
  exact this
theorem ror_one (low : Nat) (hl : low < 4503599627370496) : bits .or .u64 (low : Int) 4503599627370496 = ((4503599627370496 + low : Nat) : Int) := by
  have := u64_or_nat low 4503599627370496 (by omega) (by omega)
  rw [Nat.or_comm, nat_join 52 4503599627370496 low (by decide) (by omega)] at this
  exact this

theorem rparts_small (r : Nat) (w : World) (h : r < 4503599627370496) : Calls Tryz.prog 65 #[.int .u64 (r : Nat)] w fun e w' => e = .returned (.tuple #[.int .u64 (r : Nat), .int .i64 (-1074)]) ∧ w = w' := by
  have hz : (r : Int) / 4503599627370496 = 0 := by omega
  have hw : IntKind.i64.wrap ((r : Int) / 4503599627370496) = 0 := by rw [hz]; rfl
  clear h
  go_enter Tryz.func65, Tryz.ntmps65
  go_wp2_with fail
  go_ret2
  exact ⟨rfl, rfl⟩

theorem rparts_big (S E low : Nat) (w : World) (hS : S = E * 4503599627370496 + low) (hl : low < 4503599627370496) (h1 : 1 ≤ E) (h2 : E ≤ 2047) : Calls Tryz.prog 65 #[.int .u64 (S : Nat)] w fun e w' => e = .returned (.tuple #[.int .u64 ((4503599627370496 + low : Nat) : Int), .int .i64 ((E : Int) - 1075)]) ∧ w = w' := by
  have hz : (S : Int) / 4503599627370496 = (E : Int) := by omega
  have hw : IntKind.i64.wrap ((S : Int) / 4503599627370496) = (E : Int) := by rw [hz, IntKind.wrap_i64]; omega
  have hne : ((E : Int) == 0) = false := by simp; omega
  have ha := rand_low S E low hS hl h2
  have ho := ror_one low hl
  have hw2 : IntKind.i64.wrap ((E : Int) - 1075) = (E : Int) - 1075 := by rw [IntKind.wrap_i64]; omega
  clear hS hl h1
  go_enter Tryz.func65, Tryz.ntmps65
  go_wp2_with fail
  go_ret2
  exact ⟨rfl, rfl⟩

/-- The whole number in least units. -/
theorem un63 : unitsOf 4890909195324358656 = 9223372036854775808 * U := by
  have := f63.2
  have e : uv w63 = (unitsOf 4890909195324358656 : Int) := by
    unfold uv; rw [show sgn w63 = false by decide +kernel, show rung w63 = 4890909195324358656 by decide +kernel]; simp
  rw [e] at this
  have e2 : ((9223372036854775808 * U : Nat) : Int) = 9223372036854775808 * (U : Int) := by simp
  rw [← e2] at this
  exact_mod_cast this
theorem isF_r {c : Nat} (h : rung c < 4890909195324358656) : isF c := by unfold isF; omega
theorem tdiv_neg (a b : Nat) : (-(a : Int)).tdiv (b : Int) = -((a / b : Nat) : Int) := by
  rw [Int.neg_tdiv]; rfl
theorem toIC_mid {c : Nat} (h : rung c < 4890909195324358656) : toIC c = if sgn c then -((unitsOf (rung c) / U : Nat) : Int) else ((unitsOf (rung c) / U : Nat) : Int) := by
  have hF := isF_r h
  have hlt := unitsOf_lt h
  rw [un63] at hlt
  have hlt' : (unitsOf (rung c) : Int) < 9223372036854775808 * (U : Int) := by
    have : ((9223372036854775808 * U : Nat) : Int) = 9223372036854775808 * (U : Int) := by simp
    rw [← this]; exact_mod_cast hlt
  have hU : (0 : Int) < (U : Int) := by exact_mod_cast U_pos
  have hu : uv c = (unitsOf (rung c) : Int) ∨ uv c = -(unitsOf (rung c) : Int) := uv_of_sgn
  have hn0 : (0 : Int) ≤ (unitsOf (rung c) : Int) := Int.natCast_nonneg _
  have k : toIOk c = true := by
    unfold toIOk fge'
    rw [order_fin hF f63n.1, order_fin hF f63.1, f63n.2, f63.2, Bool.and_eq_true]
    refine ⟨?_, ?_⟩
    · have : -9223372036854775808 * (U : Int) < uv c := by rcases hu with e | e <;> rw [e] <;> omega
      rw [Std.compare_eq_gt.2 this]; rfl
    · have : uv c < 9223372036854775808 * (U : Int) := by rcases hu with e | e <;> rw [e] <;> omega
      rw [Std.compare_eq_lt.2 this]; rfl
  unfold toIC
  rw [if_pos k]
  unfold uv
  cases sgn c
  · simp only [Bool.false_eq_true, if_false]; rfl
  · simp only [if_true]; exact tdiv_neg _ _
theorem toIC_far {c : Nat} (h64 : c < 18446744073709551616) (hc : c ≠ 14114281232179134464) (h : 4890909195324358656 ≤ rung c) : toIC c = 0 := by
  have hk : toIOk c = false := by
    cases hk : toIOk c with
    | false => rfl
    | true =>
      exfalso
      unfold toIOk at hk
      rw [Bool.and_eq_true] at hk
      obtain ⟨h1, h2⟩ := hk
      have h2' : fle' c w63 = true := by unfold fle'; rw [h2]; rfl
      have hF := isF_between f63n.1 f63.1 h1 h2'
      have hu := uv_between f63n.1 f63.1 h1 h2'
      have hn : uv c < uv w63 := by
        rw [order_fin hF f63.1] at h2
        by_cases hh : uv c < uv w63
        · exact hh
        · have he : uv c = uv w63 := by omega
          rw [he, show compare (uv w63) (uv w63) = .eq from Std.ReflCmp.compare_self] at h2; cases h2
      rw [f63n.2] at hu
      rw [f63.2] at hn
      have hle := unitsOf_le h
      rw [un63] at hle
      have hle' : 9223372036854775808 * (U : Int) ≤ (unitsOf (rung c) : Int) := by
        have : ((9223372036854775808 * U : Nat) : Int) = 9223372036854775808 * (U : Int) := by simp
        rw [← this]; exact_mod_cast hle
      unfold uv at hn hu
      cases hs : sgn c with
      | false => rw [hs] at hn; simp only [Bool.false_eq_true, if_false] at hn; omega
      | true =>
        rw [hs] at hn hu
        simp only [if_true] at hn hu
        have he : (unitsOf (rung c) : Int) = 9223372036854775808 * (U : Int) := by omega
        have he2 : unitsOf (rung c) = unitsOf 4890909195324358656 := by
          rw [un63]
          have : ((9223372036854775808 * U : Nat) : Int) = 9223372036854775808 * (U : Int) := by simp
          rw [← this] at he; exact_mod_cast he
        have hr := unitsOf_inj he2
        unfold sgn at hs
        unfold rung at hr
        simp at hs
        omega
  unfold toIC
  rw [if_neg (by rw [hk]; simp)]
theorem units_tiny {r : Nat} (h : r < 4557642822898941952) : unitsOf r / U = 0 := by
  apply Nat.div_eq_of_lt
  have h2 := unitsOf_lt h
  refine Nat.lt_of_lt_of_le h2 ?_
  unfold unitsOf
  obtain ⟨t, ht⟩ : ∃ t, t = 1011 := ⟨_, rfl⟩
  rw [if_neg (by decide), show 4557642822898941952 % 4503599627370496 = 0 by decide, show 4557642822898941952 / 4503599627370496 - 1 = t by rw [ht], Nat.add_zero, show (4503599627370496 : Nat) = 2 ^ 52 by decide, ← Nat.pow_add]
  exact Nat.pow_le_pow_right (by decide) (by rw [K_eq, ht]; decide)
theorem units_low {r E low : Nat} (hr : r = E * 4503599627370496 + low) (hl : low < 4503599627370496) (h1 : 1 ≤ E) (h2 : E ≤ 1074) : unitsOf r / U = (4503599627370496 + low) / 2 ^ (1075 - E) := by
  unfold unitsOf
  rw [if_neg (by omega), show r % 4503599627370496 = low by omega, show r / 4503599627370496 = E by omega, U_eq]
  obtain ⟨t, ht⟩ : ∃ t, K = (1075 - E) + (E - 1) := ⟨0, by rw [K_eq]; omega⟩
  rw [ht, Nat.pow_add, Nat.mul_div_mul_right _ _ (Nat.two_pow_pos _)]
theorem units_high {r E low : Nat} (hr : r = E * 4503599627370496 + low) (hl : low < 4503599627370496) (h1 : 1075 ≤ E) : unitsOf r / U = (4503599627370496 + low) * 2 ^ (E - 1075) := by
  unfold unitsOf
  rw [if_neg (by omega), show r % 4503599627370496 = low by omega, show r / 4503599627370496 = E by omega, U_eq]
  have ht : E - 1 = (E - 1075) + K := by rw [K_eq]; omega
  rw [ht, Nat.pow_add, ← Nat.mul_assoc, Nat.mul_div_cancel _ (Nat.two_pow_pos _)]

def RTRet (z : Int) (w : World) (e : Ending) (w' : World) : Prop := ∃ b : Bool, e = .returned (.tuple #[.int .i64 z, .bool b]) ∧ w' = w

set_option maxHeartbeats 2000000 in
theorem rtoint_min (x : Nat) (w : World) (hc : cn x = 14114281232179134464) : Calls Tryz.prog 38 #[.float .f64 x] w (RTRet (-9223372036854775808) w) := by
  have HC := Lib.hid hc
  clear hc
  go_enter Tryz.func38, Tryz.ntmps38
  go_wp2_with (go_at_call 64; refine (rb_any _ _).mono ?_; rintro e w' ⟨rfl, rfl⟩; rw [HC.out])
  go_ret2
  exact ⟨_, rfl, rfl⟩

set_option maxHeartbeats 2000000 in
/-- Beyond: none. -/
theorem rtoint_far (x c r m E : Nat) (w : World) (hc : cn x = c) (hne : ((c : Int) == 14114281232179134464) = false) (hsh : IntKind.u64.wrap ((c : Int) * 2) / 2 = (r : Int)) (hE : 1086 ≤ E) (hE2 : E ≤ 2047)
    (HP : ∀ w, Calls Tryz.prog 65 #[.int .u64 (r : Nat)] w fun e w' => e = .returned (.tuple #[.int .u64 (m : Int), .int .i64 ((E : Int) - 1075)]) ∧ w = w') :
    Calls Tryz.prog 38 #[.float .f64 x] w (RTRet 0 w) := by
  have HC := Lib.hid hc
  have HPP := Lib.hid HP
  have d1 : decide (10 < (E : Int) - 1075) = true := decide_eq_true (by omega)
  obtain ⟨p, hp⟩ : ∃ p, ((c : Int) == 9221120237041090561) = p := ⟨_, rfl⟩
  obtain ⟨e, he⟩ : ∃ e, e = (E : Int) - 1075 := ⟨_, rfl⟩
  rw [← he] at d1 HPP
  clear hc HP hE hE2 he
  cases p
  · go_enter Tryz.func38, Tryz.ntmps38
    go_wp2_with (first | (go_at_call 64; refine (rb_any _ _).mono ?_; rintro e w' ⟨rfl, rfl⟩; rw [HC.out]) | (go_at_call 65; refine (HPP.out _).mono ?_; rintro e w' ⟨rfl, rfl⟩))
    go_ret2
    exact ⟨_, rfl, rfl⟩
  · go_enter Tryz.func38, Tryz.ntmps38
    go_wp2_with (first | (go_at_call 64; refine (rb_any _ _).mono ?_; rintro e w' ⟨rfl, rfl⟩; rw [HC.out]) | (go_at_call 65; refine (HPP.out _).mono ?_; rintro e w' ⟨rfl, rfl⟩))
    go_ret2
    exact ⟨_, rfl, rfl⟩

set_option maxHeartbeats 2000000 in
/-- Below one. -/
theorem rtoint_tiny (x c r m : Nat) (e : Int) (w : World) (hc : cn x = c) (hne : ((c : Int) == 14114281232179134464) = false) (hnn : ((c : Int) == 9221120237041090561) = false) (hsh : IntKind.u64.wrap ((c : Int) * 2) / 2 = (r : Int)) (hE : e ≤ -64) (hE2 : -2000 ≤ e)
    (HP : ∀ w, Calls Tryz.prog 65 #[.int .u64 (r : Nat)] w fun en w' => en = .returned (.tuple #[.int .u64 (m : Int), .int .i64 e]) ∧ w = w') :
    Calls Tryz.prog 38 #[.float .f64 x] w (RTRet 0 w) := by
  have HC := Lib.hid hc
  have HPP := Lib.hid HP
  have d1 : decide (10 < e) = false := decide_eq_false (by omega)
  have d2 : decide (0 ≤ e) = false := decide_eq_false (by omega)
  have d3 : decide (-64 < e) = false := decide_eq_false (by omega)
  obtain ⟨p, hp⟩ : ∃ p, ((c : Int) / 9223372036854775808 == 1) = p := ⟨_, rfl⟩
  clear hc HP hE hE2
  cases p
  · go_enter Tryz.func38, Tryz.ntmps38
    go_wp2_with (first | (go_at_call 64; refine (rb_any _ _).mono ?_; rintro e w' ⟨rfl, rfl⟩; rw [HC.out]) | (go_at_call 65; refine (HPP.out _).mono ?_; rintro e w' ⟨rfl, rfl⟩))
    go_ret2
    exact ⟨_, rfl, rfl⟩
  · go_enter Tryz.func38, Tryz.ntmps38
    go_wp2_with (first | (go_at_call 64; refine (rb_any _ _).mono ?_; rintro e w' ⟨rfl, rfl⟩; rw [HC.out]) | (go_at_call 65; refine (HPP.out _).mono ?_; rintro e w' ⟨rfl, rfl⟩))
    go_ret2
    exact ⟨_, rfl, rfl⟩

set_option maxHeartbeats 2000000 in
/-- A whole number of great size. -/
theorem rtoint_high (x c r m z : Nat) (e : Int) (w : World) (hc : cn x = c) (hne : ((c : Int) == 14114281232179134464) = false) (hnn : ((c : Int) == 9221120237041090561) = false) (hsh : IntKind.u64.wrap ((c : Int) * 2) / 2 = (r : Int)) (hE : 0 ≤ e) (hE2 : e ≤ 10) (hz : z ≤ 9223372036854775807) (hv : IntKind.u64.wrap ((m : Int) * 2 ^ e.toNat) = (z : Int))
    (HP : ∀ w, Calls Tryz.prog 65 #[.int .u64 (r : Nat)] w fun en w' => en = .returned (.tuple #[.int .u64 (m : Int), .int .i64 e]) ∧ w = w') :
    Calls Tryz.prog 38 #[.float .f64 x] w (RTRet (if ((c : Int) / 9223372036854775808 == 1) = true then -(z : Int) else (z : Int)) w) := by
  have HC := Lib.hid hc
  have HPP := Lib.hid HP
  have d1 : decide (10 < e) = false := decide_eq_false (by omega)
  have d2 : decide (0 ≤ e) = true := decide_eq_true (by omega)
  have d3 : decide (-64 < e) = true := decide_eq_true (by omega)
  obtain ⟨p, hp⟩ : ∃ p, ((c : Int) / 9223372036854775808 == 1) = p := ⟨_, rfl⟩
  have w1 : wrap64 (z : Int) = (z : Int) := by unfold wrap64; omega
  have w2 : wrap64 (-(z : Int)) = -(z : Int) := by unfold wrap64; omega
  have hem : wrap64 (-e) = -e := by unfold wrap64; omega
  have hem2 : IntKind.i64.wrap (-e) = -e := by rw [IntKind.wrap_i64]; omega
  rw [hp]
  clear hc HP hz
  cases p
  · go_enter Tryz.func38, Tryz.ntmps38
    go_wp2_with (first | (go_at_call 64; refine (rb_any _ _).mono ?_; rintro e w' ⟨rfl, rfl⟩; rw [HC.out]) | (go_at_call 65; refine (HPP.out _).mono ?_; rintro e w' ⟨rfl, rfl⟩))
    go_ret2
    exact ⟨true, congrArg (fun v => Ending.returned (.tuple #[.int .i64 v, .bool true])) (by simp [hv, w1, w2]), rfl⟩
  · go_enter Tryz.func38, Tryz.ntmps38
    go_wp2_with (first | (go_at_call 64; refine (rb_any _ _).mono ?_; rintro e w' ⟨rfl, rfl⟩; rw [HC.out]) | (go_at_call 65; refine (HPP.out _).mono ?_; rintro e w' ⟨rfl, rfl⟩))
    go_ret2
    exact ⟨true, congrArg (fun v => Ending.returned (.tuple #[.int .i64 v, .bool true])) (by simp [hv, w1, w2]), rfl⟩

set_option maxHeartbeats 2000000 in
/-- With a part behind the point. -/
theorem rtoint_low (x c r m z : Nat) (e : Int) (w : World) (hc : cn x = c) (hne : ((c : Int) == 14114281232179134464) = false) (hnn : ((c : Int) == 9221120237041090561) = false) (hsh : IntKind.u64.wrap ((c : Int) * 2) / 2 = (r : Int)) (hE : -63 ≤ e) (hE2 : e ≤ -1) (hz : z ≤ 9223372036854775807) (hv : (m : Int) / 2 ^ (-e).toNat = (z : Int))
    (HP : ∀ w, Calls Tryz.prog 65 #[.int .u64 (r : Nat)] w fun en w' => en = .returned (.tuple #[.int .u64 (m : Int), .int .i64 e]) ∧ w = w') :
    Calls Tryz.prog 38 #[.float .f64 x] w (RTRet (if ((c : Int) / 9223372036854775808 == 1) = true then -(z : Int) else (z : Int)) w) := by
  have HC := Lib.hid hc
  have HPP := Lib.hid HP
  have d1 : decide (10 < e) = false := decide_eq_false (by omega)
  have d2 : decide (0 ≤ e) = false := decide_eq_false (by omega)
  have d3 : decide (-64 < e) = true := decide_eq_true (by omega)
  obtain ⟨p, hp⟩ : ∃ p, ((c : Int) / 9223372036854775808 == 1) = p := ⟨_, rfl⟩
  have w1 : wrap64 (z : Int) = (z : Int) := by unfold wrap64; omega
  have w2 : wrap64 (-(z : Int)) = -(z : Int) := by unfold wrap64; omega
  have hem : wrap64 (-e) = -e := by unfold wrap64; omega
  have hem2 : IntKind.i64.wrap (-e) = -e := by rw [IntKind.wrap_i64]; omega
  rw [hp]
  clear hc HP hz
  cases p
  · go_enter Tryz.func38, Tryz.ntmps38
    go_wp2_with (first | (go_at_call 64; refine (rb_any _ _).mono ?_; rintro e w' ⟨rfl, rfl⟩; rw [HC.out]) | (go_at_call 65; refine (HPP.out _).mono ?_; rintro e w' ⟨rfl, rfl⟩))
    go_ret2
    exact ⟨true, congrArg (fun v => Ending.returned (.tuple #[.int .i64 v, .bool true])) (by simp [hv, w1, w2]), rfl⟩
  · go_enter Tryz.func38, Tryz.ntmps38
    go_wp2_with (first | (go_at_call 64; refine (rb_any _ _).mono ?_; rintro e w' ⟨rfl, rfl⟩; rw [HC.out]) | (go_at_call 65; refine (HPP.out _).mono ?_; rintro e w' ⟨rfl, rfl⟩))
    go_ret2
    exact ⟨true, congrArg (fun v => Ending.returned (.tuple #[.int .i64 v, .bool true])) (by simp [hv, w1, w2]), rfl⟩

theorem rung_i {c : Nat} (h : c < 18446744073709551616) : IntKind.u64.wrap ((c : Int) * 2) / 2 = (rung c : Int) := by
  rw [IntKind.wrap_u64]; unfold rung; omega
theorem sgn_i {c : Nat} (h : c < 18446744073709551616) : ((c : Int) / 9223372036854775808 == 1) = sgn c := by
  unfold sgn
  cases hd : (c / 9223372036854775808 % 2 == 1) <;> simp at hd ⊢ <;> omega
theorem rtoint_any (x : Nat) (w : World) (h64 : W64 x) : Calls Tryz.prog 38 #[.float .f64 x] w (RTRet (toIC (cn x)) w) := by
  unfold W64 at h64
  obtain ⟨c, hc⟩ : ∃ c, cn x = c := ⟨_, rfl⟩
  rw [hc] at h64 ⊢
  by_cases h1 : c = 14114281232179134464
  · have e : toIC c = -9223372036854775808 := by
      rw [h1]; decide +kernel
    rw [e]
    exact rtoint_min x w (hc.trans h1)
  have hne : ((c : Int) == 14114281232179134464) = false := by simp; omega
  have hsh := rung_i h64
  have hs := sgn_i h64
  obtain ⟨E, hE⟩ : ∃ E, E = rung c / 4503599627370496 := ⟨_, rfl⟩
  obtain ⟨low, hlow⟩ : ∃ low, low = rung c % 4503599627370496 := ⟨_, rfl⟩
  have hr : rung c = E * 4503599627370496 + low := by omega
  have hl : low < 4503599627370496 := by omega
  have hrb : rung c < 9223372036854775808 := by unfold rung; omega
  have hE2 : E ≤ 2047 := by omega
  by_cases hfar : 1086 ≤ E
  · rw [toIC_far h64 h1 (by omega)]
    exact rtoint_far x c (rung c) _ E w hc hne hsh hfar hE2 (fun w => rparts_big _ E low w hr hl (by omega) hE2)
  have hmid := toIC_mid (c := c) (by omega)
  have hnn : ((c : Int) == 9221120237041090561) = false := by
    have : rung c < 4890909195324358656 := by omega
    unfold rung at this
    simp; omega
  by_cases hhigh : 1075 ≤ E
  · have hu := units_high hr hl hhigh
    have hp10 : 2 ^ (E - 1075) ≤ 2 ^ 10 := Nat.pow_le_pow_right (by decide) (by omega)
    have hb : (4503599627370496 + low) * 2 ^ (E - 1075) ≤ 9223372036854774784 := by
      refine Nat.le_trans (Nat.mul_le_mul (show 4503599627370496 + low ≤ 9007199254740991 by omega) hp10) ?_
      decide
    rw [hmid, ← hs, hu]
    refine rtoint_high x c (rung c) (4503599627370496 + low) _ ((E : Int) - 1075) w hc hne hnn hsh (by omega) (by omega) (by omega) ?_ (fun w => rparts_big _ E low w hr hl (by omega) hE2)
    rw [show ((E : Int) - 1075).toNat = E - 1075 by omega]
    have : ((4503599627370496 + low : Nat) : Int) * 2 ^ (E - 1075) = (((4503599627370496 + low) * 2 ^ (E - 1075) : Nat) : Int) := by simp
    rw [this, IntKind.wrap_u64]
    omega
  by_cases hlo : 1012 ≤ E
  · have hu := units_low hr hl (by omega) (by omega)
    have hb : (4503599627370496 + low) / 2 ^ (1075 - E) ≤ 4503599627370496 + low := Nat.div_le_self _ _
    rw [hmid, ← hs, hu]
    refine rtoint_low x c (rung c) (4503599627370496 + low) _ ((E : Int) - 1075) w hc hne hnn hsh (by omega) (by omega) (by omega) ?_ (fun w => rparts_big _ E low w hr hl (by omega) hE2)
    rw [show (-((E : Int) - 1075)).toNat = 1075 - E by omega]
    simp
  have hz : toIC c = 0 := by
    rw [hmid, units_tiny (by omega)]
    cases sgn c <;> rfl
  rw [hz]
  by_cases hE0 : E = 0
  · exact rtoint_tiny x c (rung c) (rung c) (-1074) w hc hne hnn hsh (by omega) (by omega) (fun w => rparts_small _ w (by omega))
  · exact rtoint_tiny x c (rung c) _ ((E : Int) - 1075) w hc hne hnn hsh (by omega) (by omega) (fun w => rparts_big _ E low w hr hl (by omega) hE2)
end Go.Proofs.YtoeldcgclaiokaaGreat

namespace Go.Proofs.YtoeldcgclaiokaaGreat
open Go.Fl Go.Rel Go.RowKit Ieee
set_option linter.unusedVariables false
set_option linter.unusedSimpArgs false

theorem sub_word {x y : Nat} (h : isN (fsub x y) = false) : ∃ s r, r ≤ 9218868437227405312 ∧ fsub x y = double.word s r := getD_word h fun _ hx => sum_notN hx
theorem sub_nan {x y : Nat} (h : isN (fsub x y) = true) : fsub x y = nanc := by
  unfold fsub Format.sub at *
  cases ho : (double.read x).sum (double.read y).opposite with
  | none => rfl
  | some d =>
    rw [ho] at h
    have := write_not_nan d (sum_notN ho)
    rw [show ((some d : Option Datum).map double.write).getD nanc = double.write d from rfl, this] at h
    cases h
theorem neg_word {q : Nat} (h : q < 9223372036854775808) : Op.negFloat .f64 (double.word true q) = q := by
  have e : double.word true q = 2 ^ 63 * 1 + q := by rw [word_eq]; simp
  unfold Op.negFloat
  rw [show 2 ^ (FloatKind.f64.format.exponentBits + FloatKind.f64.format.fractionBits) = 2 ^ 63 from rfl, e]
  apply Nat.eq_of_testBit_eq
  intro i
  rw [Nat.testBit_xor, Nat.testBit_two_pow_mul_add 1 (by omega : q < 2 ^ 63), Nat.testBit_two_pow]
  by_cases hi : i < 63
  · rw [if_pos hi]; simp [show ¬ 63 = i by omega]
  · rw [if_neg hi]
    by_cases h63 : i = 63
    · subst h63
      rw [Nat.testBit_lt_two_pow (x := q) (i := 63) (by omega)]; simp
    · rw [Nat.testBit_lt_two_pow (x := q) (i := i) (Nat.lt_of_lt_of_le (show q < 2 ^ 63 by omega) (Nat.pow_le_pow_right (by decide) (by omega)))]
      have : Nat.testBit 1 (i - 63) = false := by
        rw [Nat.testBit_lt_two_pow]
        exact Nat.lt_of_lt_of_le (show 1 < 2 ^ 1 by decide) (Nat.pow_le_pow_right (by decide) (by omega))
      simp [this, show ¬ 63 = i by omega]

/-- The distance: below zero turned, zero made plain. -/
theorem off_neg {x y : Nat} (h : (ford (fsub x y) 0 == some .lt) = true) : isN (fsub x y) = false ∧ cn (Op.negFloat .f64 (fsub x y)) = fabs (fsub x y) ∧ (ford (Op.negFloat .f64 (fsub x y)) 0 == some .eq) = false := by
  have hn : isN (fsub x y) = false := by
    cases hh : isN (fsub x y) with
    | false => rfl
    | true => rw [ford_N1 0 hh] at h; cases h
  obtain ⟨s, q, hq, he⟩ := sub_word hn
  rw [he] at h hn ⊢
  have h0 : isN 0 = false := by decide +kernel
  rw [ford_pl hn h0, pl_word s hq, show pl 0 = 0 by decide +kernel] at h
  have hs : s = true ∧ 0 < q := by
    cases s with
    | false =>
      exfalso
      rcases Int.lt_trichotomy (q : Int) 0 with g | g | g
      · omega
      · simp only [Bool.false_eq_true, if_false] at h
        rw [g, show compare (0 : Int) 0 = .eq from rfl] at h; cases h
      · simp only [Bool.false_eq_true, if_false] at h
        rw [Std.compare_eq_gt.2 g] at h; cases h
    | true =>
      refine ⟨rfl, ?_⟩
      rcases Nat.eq_zero_or_pos q with g | g
      · subst g
        simp only [if_true] at h
        cases h
      · exact g
  obtain ⟨rfl, hq0⟩ := hs
  rw [neg_word (by omega)]
  have hw : q = double.word false q := by rw [word_eq]; simp
  have hnq : isN q = false := by rw [hw]; exact notN_word false hq
  refine ⟨hn, ?_, ?_⟩
  · unfold fabs
    rw [hn, cn_of_notN hnq, if_neg (by simp)]
    rw [word_eq]
    unfold top
    simp
    omega
  · rw [ford_pl hnq h0, show pl 0 = 0 by decide +kernel]
    have hp : pl q = (q : Int) := by
      have := pl_word false hq
      rw [← hw] at this
      simpa using this
    rw [hp, Std.compare_eq_gt.2 (show (0 : Int) < (q : Int) by omega)]
    rfl
theorem off_zero {x y : Nat} (h : (ford (fsub x y) 0 == some .eq) = true) : fabs (fsub x y) = 0 := by
  have hn : isN (fsub x y) = false := by
    cases hh : isN (fsub x y) with
    | false => rfl
    | true => rw [ford_N1 0 hh] at h; cases h
  obtain ⟨s, q, hq, he⟩ := sub_word hn
  rw [he] at h hn ⊢
  have h0 : isN 0 = false := by decide +kernel
  rw [ford_pl hn h0, pl_word s hq, show pl 0 = 0 by decide +kernel] at h
  have hq0 : q = 0 := by
    rcases Nat.eq_zero_or_pos q with g | g
    · exact g
    · exfalso
      cases s with
      | false =>
        simp only [Bool.false_eq_true, if_false] at h
        rw [Std.compare_eq_gt.2 (show (0 : Int) < (q : Int) by omega)] at h; cases h
      | true =>
        simp only [if_true] at h
        rw [Std.compare_eq_lt.2 (show -(q : Int) < 0 by omega)] at h; cases h
  subst hq0
  unfold fabs
  rw [hn]
  cases s <;> decide +kernel
theorem off_else {x y : Nat} (h1 : (ford (fsub x y) 0 == some .lt) = false) (h2 : (ford (fsub x y) 0 == some .eq) = false) : fabs (fsub x y) = fsub x y := by
  cases hn : isN (fsub x y) with
  | true =>
    unfold fabs
    rw [hn, if_pos rfl, sub_nan hn]
  | false =>
    obtain ⟨s, q, hq, he⟩ := sub_word hn
    rw [he] at h1 h2 hn ⊢
    have h0 : isN 0 = false := by decide +kernel
    rw [ford_pl hn h0, pl_word s hq, show pl 0 = 0 by decide +kernel] at h1 h2
    have hs : s = false := by
      cases s with
      | false => rfl
      | true =>
        exfalso
        simp only [if_true] at h1 h2
        rcases Nat.eq_zero_or_pos q with g | g
        · subst g; cases h2
        · rw [Std.compare_eq_lt.2 (show -(q : Int) < 0 by omega)] at h1; cases h1
    subst hs
    unfold fabs
    rw [hn, word_eq]
    unfold top
    simp
    omega

theorem fabs_w64 {x y : Nat} : fabs (fsub x y) < 18446744073709551616 := by
  unfold fabs
  split
  · decide
  · have : fsub x y % top < top := Nat.mod_lt _ (by decide)
    unfold top at *
    omega

def OffRel (xs : List Nat) (M n B : Nat) (w : World) (v4 i : Value) (wr : World) : Prop :=
  ∃ (k : Nat) (ys : List Nat), k ≤ n ∧ i = .int .i64 (k : Int) ∧ ys.length = k ∧ (∀ j, j < k → cn (at0 ys j) = fabs (fsub (cn (at0 xs j)) M)) ∧ Own B wr v4 ys ∧ Below B w wr

theorem at0_snoc (ys : List Nat) (y : Nat) {j : Nat} (h : j < ys.length) : at0 (ys ++ [y]) j = at0 ys j := by simp [at0, List.getD, List.getElem?_append_left h]
theorem at0_last (ys : List Nat) (y : Nat) : at0 (ys ++ [y]) ys.length = y := by simp [at0, List.getD]

set_option maxHeartbeats 4000000 in
set_option maxRecDepth 100000 in
theorem off_any (a : Option Addr) (n cap : Nat) (xs : List Nat) (w : World) (hr : Row w a n xs) (hs : SlOk a n cap) (H64 : ∀ x ∈ xs, W64 x) (hb : n < 17592186044416) :
    Calls Tryz.prog 35 #[.slice a n cap] w (FB (midT (xs.map cn)) w) := by
  have HQ1 : Hid (Calls Tryz.prog 34 #[.float .f64 4602678819172646912, .slice a n cap] w (FB (quantS half (xs.map cn)) w)) := by
    show Calls _ _ _ _ _
    rw [← cn_half]; exact refquant_any _ a n cap xs w hr hs H64 hb
  have HQ2 : Hid (∀ a2 c2 ys w1, Row w1 a2 n ys → SlOk a2 n c2 → (∀ y ∈ ys, W64 y) → Calls Tryz.prog 34 #[.float .f64 4602678819172646912, .slice a2 n c2] w1 (FB (quantS half (ys.map cn)) w1)) := fun a2 c2 ys w1 h h2 h3 => by
    rw [← cn_half]; exact refquant_any _ a2 n c2 ys w1 h h2 h3 hb
  have HR := Lib.hid hr
  have hl := hr.1
  have HA : Hid (∀ i, i < n → at0 (xs.map cn) i = cn (at0 xs i)) := fun i hi => at0_map cn xs (by omega)
  have HL := Lib.hid hl
  have HN := Lib.hid hb
  obtain ⟨i0, hi, hz0, hz1, hz2⟩ := info_parts info_f
  clear hr hs hl H64
  go_enter Tryz.func35, Tryz.ntmps35
  go_wp2_with (first | (go_at_call 34; ((with_reducible refine HQ1.out.mono ?_); rintro e w1 ⟨m, rfl, hm, b1⟩; have HM := Lib.hid hm; have B1 := Lib.hid b1; clear hm b1)) | (at_make; refine wpList_make_own _ rfl _ _ 25 rfl w1.heap.size 27 i0 _ 1 Tryz.underlying25 hi hz0 hz1 .i64 .i64 _ n rfl rfl rfl (by rw [hz2]; have := HN.out; omega) (by unfold maxLen; have := HN.out; omega) (Nat.le_refl _) ?_; intro w2 hown2 hg2; have HO2 : Hid (Own w1.heap.size w2 (.slice (some ⟨w1.heap.size, 0, none⟩) 0 n) []) := hown2; have HB2 : Hid (Below w1.heap.size w1 w2) := Own.below (own_nil _ w1) (Below.refl _ _) hg2 (Nat.le_refl _); clear hown2 hg2))
  go_loopw [4, 5] (OffRel xs (cn m) n w1.heap.size w1) (fun _ vi _ => n - (intOf vi).toNat)
  case atStart => exact ⟨0, [], by omega, rfl, rfl, fun j hj => by omega, HO2.out, HB2.out⟩
  case round =>
    obtain ⟨k, ys, hk, rfl, hyl, hyc, hown, bw⟩ := hrel
    have HYL := Lib.hid hyl
    have HYC := Lib.hid hyc
    have HOWN := Lib.hid hown
    have BW := Lib.hid bw
    clear hyl hyc hown bw
    by_cases hkn : k < n
    · have hrw := HR.out.below (B1.out.trans (BW.out.mono B1.out.size))
      obtain ⟨b, off, ha, hcell⟩ := hrw.2.2 (by omega)
      subst ha
      have ck := hcell k hkn
      obtain ⟨u, hu⟩ : ∃ v, v = at0 xs k := ⟨_, rfl⟩
      rw [← hu] at ck
      have HU := Lib.hid hu
      have klt : (k : Int) < (n : Int) := by omega
      have wk1 : IntKind.i64.wrap ((k : Int) + 1) = (k : Int) + 1 := by have := HN.out; rw [IntKind.wrap_i64]; omega
      have wk2 : wrap64 ((k : Int) + 1) = (k : Int) + 1 := by have := HN.out; unfold wrap64; omega
      have NEXT : Hid (∀ y v' w', cn y = fabs (fsub (cn u) (cn m)) → Own w1.heap.size w' v' (ys ++ [y]) → Below w1.heap.size w1 w' → OffRel xs (cn m) n w1.heap.size w1 v' (.int .i64 ((k : Int) + 1)) w') := fun y v' w' h1 h2 h3 =>
        ⟨k + 1, ys ++ [y], by omega, by go_num, by simp [HYL.out], fun j hj => by
          by_cases e : j < k
          · rw [at0_snoc _ _ (by rw [HYL.out]; exact e)]; exact HYC.out j e
          · have ej : j = ys.length := by rw [HYL.out]; omega
            rw [ej, at0_last, h1, HU.out, HYL.out], h2, h3⟩
      clear hcell hrw hu
      go_upto_if 25 with (refine wpList_fop _ _ _ _ _ _ _ rfl rfl rfl ?_; intro r0 n0 hr0; have HR0 := Lib.hid hr0; clear hr0)
      have HRC : Hid (cn r0 = fsub (cn u) (cn m)) := by show _ = _; rw [HR0.out, fop_sub]
      have o1 : (FloatKind.f64.format.order r0 0 == some Ordering.lt) = (ford (fsub (cn u) (cn m)) 0 == some .lt) := by rw [order_cn, cn_zero, HRC.out]
      have o2 : (FloatKind.f64.format.order r0 0 == some Ordering.eq) = (ford (fsub (cn u) (cn m)) 0 == some .eq) := by rw [order_cn, cn_zero, HRC.out]
      rw [o1]
      cases h1 : (ford (fsub (cn u) (cn m)) 0 == some .lt) with
      | true =>
        obtain ⟨n1, n2, n3⟩ := off_neg h1
        have er : r0 = fsub (cn u) (cn m) := eq_of_cn HRC.out n1
        rw [← er] at n2 n3
        have hng : ∀ w, (Op.unary UnOp.neg (.float .f64 r0)).run Tryz.prog w = .ok (.float .f64 (Op.negFloat .f64 r0)) w := fun _ => rfl
        have o3 : (FloatKind.f64.format.order (Op.negFloat .f64 r0) 0 == some Ordering.eq) = false := n3
        rw [h1] at o1
        have N2 : Hid (cn (Op.negFloat .f64 r0) = fabs (fsub (cn u) (cn m))) := by show _ = _; rw [n2, er]
        clear n1 n2 n3 er h1 o2
        generalize Op.negFloat .f64 r0 = rn at hng o3 N2
        go_wp2_with (at_builtin; refine wpList_append_f rfl (.tmp 30) (.tmp 32) rfl w1.heap.size _ ys rfl (Own.alloc (Own.drewN HOWN.out n0) _) ⟨wr.heap.size, 0, none⟩ 1 rn rfl (cell_made1 (wr.drewN n0) rn) (by rw [HYL.out]; have := HN.out; omega) (by have := BW.out.size; simp; omega) ?_; intro v' w' hown' hg hv; have HG := Lib.hid hown'; have BN := Lib.hid (Own.below (Own.alloc (Own.drewN HOWN.out n0) _) ((BW.out.drewN' n0).alloc (by have := BW.out.size; exact this) _) hg (by have := BW.out.size; simp; omega)); clear hown' hg hv)
        go_roundw
        case rel => exact NEXT.out _ _ _ N2.out HG.out BN.out
        case measure => simp [intOf]; omega
      | false =>
        rw [h1] at o1
        cases h2 : (ford (fsub (cn u) (cn m)) 0 == some .eq) with
        | true =>
          rw [h2] at o2
          have N2 : Hid (cn 0 = fabs (fsub (cn u) (cn m))) := by show _ = _; rw [off_zero h2, cn_zero]
          clear h1 h2
          go_wp2_with (at_builtin; refine wpList_append_f rfl (.tmp 30) (.tmp 32) rfl w1.heap.size _ ys rfl (Own.alloc (Own.drewN HOWN.out n0) _) ⟨wr.heap.size, 0, none⟩ 1 0 rfl (cell_made1 (wr.drewN n0) 0) (by rw [HYL.out]; have := HN.out; omega) (by have := BW.out.size; simp; omega) ?_; intro v' w' hown' hg hv; have HG := Lib.hid hown'; have BN := Lib.hid (Own.below (Own.alloc (Own.drewN HOWN.out n0) _) ((BW.out.drewN' n0).alloc (by have := BW.out.size; exact this) _) hg (by have := BW.out.size; simp; omega)); clear hown' hg hv)
          go_roundw
          case rel => exact NEXT.out _ _ _ N2.out HG.out BN.out
          case measure => simp [intOf]; omega
        | false =>
          rw [h2] at o2
          have N2 : Hid (cn r0 = fabs (fsub (cn u) (cn m))) := by show _ = _; rw [HRC.out, off_else h1 h2]
          clear h1 h2
          go_wp2_with (at_builtin; refine wpList_append_f rfl (.tmp 30) (.tmp 32) rfl w1.heap.size _ ys rfl (Own.alloc (Own.drewN HOWN.out n0) _) ⟨wr.heap.size, 0, none⟩ 1 r0 rfl (cell_made1 (wr.drewN n0) r0) (by rw [HYL.out]; have := HN.out; omega) (by have := BW.out.size; simp; omega) ?_; intro v' w' hown' hg hv; have HG := Lib.hid hown'; have BN := Lib.hid (Own.below (Own.alloc (Own.drewN HOWN.out n0) _) ((BW.out.drewN' n0).alloc (by have := BW.out.size; exact this) _) hg (by have := BW.out.size; simp; omega)); clear hown' hg hv)
          go_roundw
          case rel => exact NEXT.out _ _ _ N2.out HG.out BN.out
          case measure => simp [intOf]; omega
    · obtain rfl : k = n := by omega
      have hmap : ys.map cn = (xs.map cn).map fun v => fabs (fsub v (cn m)) := by
        apply List.ext_getElem?
        intro j
        have e1 := HYL.out
        have e2 := HL.out
        by_cases hj : j < k
        · have := HYC.out j hj
          simp [at0, List.getD, show j < ys.length by omega, show j < xs.length by omega] at this ⊢
          exact this
        · rw [List.getElem?_eq_none (by simp; omega), List.getElem?_eq_none (by simp; omega)]
      have HMAP : Hid (quantS half (ys.map cn) = midT (xs.map cn)) := by show _ = _; rw [hmap, HM.out]; rfl
      have HY64 : Hid (∀ y ∈ ys, W64 y) := fun y hy => by
        obtain ⟨j, hj, he⟩ := List.getElem_of_mem hy
        have hj2 : j < k := by have := HYL.out; omega
        have h3 := HYC.out j hj2
        have h4 : at0 ys j = y := by rw [← he]; simp [at0, List.getD, hj]
        rw [h4] at h3
        unfold W64
        rw [h3]
        exact fabs_w64
      obtain ⟨a9, c9, hv9, hok9, hr9⟩ := HOWN.out.row'
      rw [HYL.out] at hv9 hok9 hr9
      subst hv9
      have HOK := Lib.hid hok9
      have HRW := Lib.hid hr9
      clear hok9 hr9 hmap HYC
      go_wp2_with (go_at_call 34; ((with_reducible refine (HQ2.out _ _ _ _ HRW.out HOK.out HY64.out).mono ?_); rintro e w3 ⟨r, rfl, hr, b3⟩))
      go_ret
      exact ⟨r, rfl, hr.trans HMAP.out, B1.out.trans ((BW.out.trans (b3.mono BW.out.size)).mono B1.out.size)⟩
end Go.Proofs.YtoeldcgclaiokaaGreat

namespace Go.Proofs.YtoeldcgclaiokaaGreat
open Go.Fl Go.Rel Go.RowKit
set_option linter.unusedVariables false
set_option linter.unusedSimpArgs false

set_option maxRecDepth 100000 in
theorem least_count (w : World) : Calls Tryz.prog 15 #[.string ⟨#[99, 111, 117, 110, 116, 95, 111, 118, 101, 114, 95, 116, 105, 109, 101]⟩] w fun e w' => e = .returned (.tuple #[.int .i64 1, .int .i64 0]) ∧ w = w' := by
  go_enter Tryz.func15, Tryz.ntmps15
  go_wp2_with fail
  go_ret2
  exact ⟨rfl, rfl⟩

set_option maxRecDepth 100000 in
theorem least_present (w : World) : Calls Tryz.prog 15 #[.string ⟨#[112, 114, 101, 115, 101, 110, 116, 95, 111, 118, 101, 114, 95, 116, 105, 109, 101]⟩] w fun e w' => e = .returned (.tuple #[.int .i64 1, .int .i64 0]) ∧ w = w' := by
  go_enter Tryz.func15, Tryz.ntmps15
  go_wp2_with fail
  go_ret2
  exact ⟨rfl, rfl⟩

set_option maxRecDepth 100000 in
theorem least_first (w : World) : Calls Tryz.prog 15 #[.string ⟨#[102, 105, 114, 115, 116, 95, 111, 118, 101, 114, 95, 116, 105, 109, 101]⟩] w fun e w' => e = .returned (.tuple #[.int .i64 1, .int .i64 0]) ∧ w = w' := by
  go_enter Tryz.func15, Tryz.ntmps15
  go_wp2_with fail
  go_ret2
  exact ⟨rfl, rfl⟩

set_option maxRecDepth 100000 in
theorem least_last (w : World) : Calls Tryz.prog 15 #[.string ⟨#[108, 97, 115, 116, 95, 111, 118, 101, 114, 95, 116, 105, 109, 101]⟩] w fun e w' => e = .returned (.tuple #[.int .i64 1, .int .i64 0]) ∧ w = w' := by
  go_enter Tryz.func15, Tryz.ntmps15
  go_wp2_with fail
  go_ret2
  exact ⟨rfl, rfl⟩

set_option maxRecDepth 100000 in
theorem least_sum (w : World) : Calls Tryz.prog 15 #[.string ⟨#[115, 117, 109, 95, 111, 118, 101, 114, 95, 116, 105, 109, 101]⟩] w fun e w' => e = .returned (.tuple #[.int .i64 1, .int .i64 0]) ∧ w = w' := by
  go_enter Tryz.func15, Tryz.ntmps15
  go_wp2_with fail
  go_ret2
  exact ⟨rfl, rfl⟩

set_option maxRecDepth 100000 in
theorem least_avg (w : World) : Calls Tryz.prog 15 #[.string ⟨#[97, 118, 103, 95, 111, 118, 101, 114, 95, 116, 105, 109, 101]⟩] w fun e w' => e = .returned (.tuple #[.int .i64 1, .int .i64 0]) ∧ w = w' := by
  go_enter Tryz.func15, Tryz.ntmps15
  go_wp2_with fail
  go_ret2
  exact ⟨rfl, rfl⟩

set_option maxRecDepth 100000 in
theorem least_stddev (w : World) : Calls Tryz.prog 15 #[.string ⟨#[115, 116, 100, 100, 101, 118, 95, 111, 118, 101, 114, 95, 116, 105, 109, 101]⟩] w fun e w' => e = .returned (.tuple #[.int .i64 1, .int .i64 0]) ∧ w = w' := by
  go_enter Tryz.func15, Tryz.ntmps15
  go_wp2_with fail
  go_ret2
  exact ⟨rfl, rfl⟩

set_option maxRecDepth 100000 in
theorem least_stdvar (w : World) : Calls Tryz.prog 15 #[.string ⟨#[115, 116, 100, 118, 97, 114, 95, 111, 118, 101, 114, 95, 116, 105, 109, 101]⟩] w fun e w' => e = .returned (.tuple #[.int .i64 1, .int .i64 0]) ∧ w = w' := by
  go_enter Tryz.func15, Tryz.ntmps15
  go_wp2_with fail
  go_ret2
  exact ⟨rfl, rfl⟩

set_option maxRecDepth 100000 in
theorem least_max (w : World) : Calls Tryz.prog 15 #[.string ⟨#[109, 97, 120, 95, 111, 118, 101, 114, 95, 116, 105, 109, 101]⟩] w fun e w' => e = .returned (.tuple #[.int .i64 1, .int .i64 0]) ∧ w = w' := by
  go_enter Tryz.func15, Tryz.ntmps15
  go_wp2_with fail
  go_ret2
  exact ⟨rfl, rfl⟩

set_option maxRecDepth 100000 in
theorem least_min (w : World) : Calls Tryz.prog 15 #[.string ⟨#[109, 105, 110, 95, 111, 118, 101, 114, 95, 116, 105, 109, 101]⟩] w fun e w' => e = .returned (.tuple #[.int .i64 1, .int .i64 0]) ∧ w = w' := by
  go_enter Tryz.func15, Tryz.ntmps15
  go_wp2_with fail
  go_ret2
  exact ⟨rfl, rfl⟩

set_option maxRecDepth 100000 in
theorem least_mad (w : World) : Calls Tryz.prog 15 #[.string ⟨#[109, 97, 100, 95, 111, 118, 101, 114, 95, 116, 105, 109, 101]⟩] w fun e w' => e = .returned (.tuple #[.int .i64 1, .int .i64 0]) ∧ w = w' := by
  go_enter Tryz.func15, Tryz.ntmps15
  go_wp2_with fail
  go_ret2
  exact ⟨rfl, rfl⟩

set_option maxRecDepth 100000 in
theorem least_changes (w : World) : Calls Tryz.prog 15 #[.string ⟨#[99, 104, 97, 110, 103, 101, 115]⟩] w fun e w' => e = .returned (.tuple #[.int .i64 1, .int .i64 0]) ∧ w = w' := by
  go_enter Tryz.func15, Tryz.ntmps15
  go_wp2_with fail
  go_ret2
  exact ⟨rfl, rfl⟩

set_option maxRecDepth 100000 in
theorem least_resets (w : World) : Calls Tryz.prog 15 #[.string ⟨#[114, 101, 115, 101, 116, 115]⟩] w fun e w' => e = .returned (.tuple #[.int .i64 1, .int .i64 0]) ∧ w = w' := by
  go_enter Tryz.func15, Tryz.ntmps15
  go_wp2_with fail
  go_ret2
  exact ⟨rfl, rfl⟩

set_option maxRecDepth 100000 in
theorem least_rate (w : World) : Calls Tryz.prog 15 #[.string ⟨#[114, 97, 116, 101]⟩] w fun e w' => e = .returned (.tuple #[.int .i64 2, .int .i64 0]) ∧ w = w' := by
  go_enter Tryz.func15, Tryz.ntmps15
  go_wp2_with fail
  go_ret2
  exact ⟨rfl, rfl⟩

set_option maxRecDepth 100000 in
theorem least_increase (w : World) : Calls Tryz.prog 15 #[.string ⟨#[105, 110, 99, 114, 101, 97, 115, 101]⟩] w fun e w' => e = .returned (.tuple #[.int .i64 2, .int .i64 0]) ∧ w = w' := by
  go_enter Tryz.func15, Tryz.ntmps15
  go_wp2_with fail
  go_ret2
  exact ⟨rfl, rfl⟩

set_option maxRecDepth 100000 in
theorem least_delta (w : World) : Calls Tryz.prog 15 #[.string ⟨#[100, 101, 108, 116, 97]⟩] w fun e w' => e = .returned (.tuple #[.int .i64 2, .int .i64 0]) ∧ w = w' := by
  go_enter Tryz.func15, Tryz.ntmps15
  go_wp2_with fail
  go_ret2
  exact ⟨rfl, rfl⟩

set_option maxRecDepth 100000 in
theorem least_irate (w : World) : Calls Tryz.prog 15 #[.string ⟨#[105, 114, 97, 116, 101]⟩] w fun e w' => e = .returned (.tuple #[.int .i64 2, .int .i64 0]) ∧ w = w' := by
  go_enter Tryz.func15, Tryz.ntmps15
  go_wp2_with fail
  go_ret2
  exact ⟨rfl, rfl⟩

set_option maxRecDepth 100000 in
theorem least_idelta (w : World) : Calls Tryz.prog 15 #[.string ⟨#[105, 100, 101, 108, 116, 97]⟩] w fun e w' => e = .returned (.tuple #[.int .i64 2, .int .i64 0]) ∧ w = w' := by
  go_enter Tryz.func15, Tryz.ntmps15
  go_wp2_with fail
  go_ret2
  exact ⟨rfl, rfl⟩

set_option maxRecDepth 100000 in
theorem least_deriv (w : World) : Calls Tryz.prog 15 #[.string ⟨#[100, 101, 114, 105, 118]⟩] w fun e w' => e = .returned (.tuple #[.int .i64 2, .int .i64 0]) ∧ w = w' := by
  go_enter Tryz.func15, Tryz.ntmps15
  go_wp2_with fail
  go_ret2
  exact ⟨rfl, rfl⟩

set_option maxRecDepth 100000 in
theorem least_quantile (w : World) : Calls Tryz.prog 15 #[.string ⟨#[113, 117, 97, 110, 116, 105, 108, 101, 95, 111, 118, 101, 114, 95, 116, 105, 109, 101]⟩] w fun e w' => e = .returned (.tuple #[.int .i64 1, .int .i64 1]) ∧ w = w' := by
  go_enter Tryz.func15, Tryz.ntmps15
  go_wp2_with fail
  go_ret2
  exact ⟨rfl, rfl⟩

set_option maxRecDepth 100000 in
theorem least_predict (w : World) : Calls Tryz.prog 15 #[.string ⟨#[112, 114, 101, 100, 105, 99, 116, 95, 108, 105, 110, 101, 97, 114]⟩] w fun e w' => e = .returned (.tuple #[.int .i64 2, .int .i64 1]) ∧ w = w' := by
  go_enter Tryz.func15, Tryz.ntmps15
  go_wp2_with fail
  go_ret2
  exact ⟨rfl, rfl⟩

set_option maxRecDepth 100000 in
theorem least_smoothing (w : World) : Calls Tryz.prog 15 #[.string ⟨#[100, 111, 117, 98, 108, 101, 95, 101, 120, 112, 111, 110, 101, 110, 116, 105, 97, 108, 95, 115, 109, 111, 111, 116, 104, 105, 110, 103]⟩] w fun e w' => e = .returned (.tuple #[.int .i64 2, .int .i64 2]) ∧ w = w' := by
  go_enter Tryz.func15, Tryz.ntmps15
  go_wp2_with fail
  go_ret2
  exact ⟨rfl, rfl⟩

set_option maxRecDepth 100000 in
theorem least_beat (w : World) : Calls Tryz.prog 15 #[.string ⟨#[98, 101, 97, 116, 95, 111, 118, 101, 114, 95, 116, 105, 109, 101]⟩] w fun e w' => e = .returned (.tuple #[.int .i64 1, .int .i64 1]) ∧ w = w' := by
  go_enter Tryz.func15, Tryz.ntmps15
  go_wp2_with fail
  go_ret2
  exact ⟨rfl, rfl⟩

theorem least_nm (m : Nm) (w : World) : Calls Tryz.prog 15 #[.string m.str] w fun e w' => e = .returned (.tuple #[.int .i64 (m.pts : Int), .int .i64 (m.nums : Int)]) ∧ w = w' := by
  cases m
  · exact least_count w
  · exact least_present w
  · exact least_first w
  · exact least_last w
  · exact least_sum w
  · exact least_avg w
  · exact least_stddev w
  · exact least_stdvar w
  · exact least_max w
  · exact least_min w
  · exact least_mad w
  · exact least_changes w
  · exact least_resets w
  · exact least_rate w
  · exact least_increase w
  · exact least_delta w
  · exact least_irate w
  · exact least_idelta w
  · exact least_deriv w
  · exact least_quantile w
  · exact least_predict w
  · exact least_smoothing w
  · exact least_beat w

set_option maxHeartbeats 4000000 in
set_option maxRecDepth 100000 in
theorem least_none (s : ByteArray) (hs : ∀ m : Nm, s.toList ≠ m.str.toList) (w : World) : Calls Tryz.prog 15 #[.string s] w fun e w' => e = .returned (.tuple #[.int .i64 0, .int .i64 0]) ∧ w = w' := by
  have e0 : (s.toList == [99, 111, 117, 110, 116, 95, 111, 118, 101, 114, 95, 116, 105, 109, 101]) = false := beq_eq_false_iff_ne.2 (by rw [← show (Nm.count).str.toList = [99, 111, 117, 110, 116, 95, 111, 118, 101, 114, 95, 116, 105, 109, 101] by kernel_rfl]; exact hs .count)
  have e1 : (s.toList == [112, 114, 101, 115, 101, 110, 116, 95, 111, 118, 101, 114, 95, 116, 105, 109, 101]) = false := beq_eq_false_iff_ne.2 (by rw [← show (Nm.present).str.toList = [112, 114, 101, 115, 101, 110, 116, 95, 111, 118, 101, 114, 95, 116, 105, 109, 101] by kernel_rfl]; exact hs .present)
  have e2 : (s.toList == [102, 105, 114, 115, 116, 95, 111, 118, 101, 114, 95, 116, 105, 109, 101]) = false := beq_eq_false_iff_ne.2 (by rw [← show (Nm.first).str.toList = [102, 105, 114, 115, 116, 95, 111, 118, 101, 114, 95, 116, 105, 109, 101] by kernel_rfl]; exact hs .first)
  have e3 : (s.toList == [108, 97, 115, 116, 95, 111, 118, 101, 114, 95, 116, 105, 109, 101]) = false := beq_eq_false_iff_ne.2 (by rw [← show (Nm.last).str.toList = [108, 97, 115, 116, 95, 111, 118, 101, 114, 95, 116, 105, 109, 101] by kernel_rfl]; exact hs .last)
  have e4 : (s.toList == [115, 117, 109, 95, 111, 118, 101, 114, 95, 116, 105, 109, 101]) = false := beq_eq_false_iff_ne.2 (by rw [← show (Nm.sum).str.toList = [115, 117, 109, 95, 111, 118, 101, 114, 95, 116, 105, 109, 101] by kernel_rfl]; exact hs .sum)
  have e5 : (s.toList == [97, 118, 103, 95, 111, 118, 101, 114, 95, 116, 105, 109, 101]) = false := beq_eq_false_iff_ne.2 (by rw [← show (Nm.avg).str.toList = [97, 118, 103, 95, 111, 118, 101, 114, 95, 116, 105, 109, 101] by kernel_rfl]; exact hs .avg)
  have e6 : (s.toList == [115, 116, 100, 100, 101, 118, 95, 111, 118, 101, 114, 95, 116, 105, 109, 101]) = false := beq_eq_false_iff_ne.2 (by rw [← show (Nm.stddev).str.toList = [115, 116, 100, 100, 101, 118, 95, 111, 118, 101, 114, 95, 116, 105, 109, 101] by kernel_rfl]; exact hs .stddev)
  have e7 : (s.toList == [115, 116, 100, 118, 97, 114, 95, 111, 118, 101, 114, 95, 116, 105, 109, 101]) = false := beq_eq_false_iff_ne.2 (by rw [← show (Nm.stdvar).str.toList = [115, 116, 100, 118, 97, 114, 95, 111, 118, 101, 114, 95, 116, 105, 109, 101] by kernel_rfl]; exact hs .stdvar)
  have e8 : (s.toList == [109, 97, 120, 95, 111, 118, 101, 114, 95, 116, 105, 109, 101]) = false := beq_eq_false_iff_ne.2 (by rw [← show (Nm.max).str.toList = [109, 97, 120, 95, 111, 118, 101, 114, 95, 116, 105, 109, 101] by kernel_rfl]; exact hs .max)
  have e9 : (s.toList == [109, 105, 110, 95, 111, 118, 101, 114, 95, 116, 105, 109, 101]) = false := beq_eq_false_iff_ne.2 (by rw [← show (Nm.min).str.toList = [109, 105, 110, 95, 111, 118, 101, 114, 95, 116, 105, 109, 101] by kernel_rfl]; exact hs .min)
  have e10 : (s.toList == [109, 97, 100, 95, 111, 118, 101, 114, 95, 116, 105, 109, 101]) = false := beq_eq_false_iff_ne.2 (by rw [← show (Nm.mad).str.toList = [109, 97, 100, 95, 111, 118, 101, 114, 95, 116, 105, 109, 101] by kernel_rfl]; exact hs .mad)
  have e11 : (s.toList == [99, 104, 97, 110, 103, 101, 115]) = false := beq_eq_false_iff_ne.2 (by rw [← show (Nm.changes).str.toList = [99, 104, 97, 110, 103, 101, 115] by kernel_rfl]; exact hs .changes)
  have e12 : (s.toList == [114, 101, 115, 101, 116, 115]) = false := beq_eq_false_iff_ne.2 (by rw [← show (Nm.resets).str.toList = [114, 101, 115, 101, 116, 115] by kernel_rfl]; exact hs .resets)
  have e13 : (s.toList == [114, 97, 116, 101]) = false := beq_eq_false_iff_ne.2 (by rw [← show (Nm.rate).str.toList = [114, 97, 116, 101] by kernel_rfl]; exact hs .rate)
  have e14 : (s.toList == [105, 110, 99, 114, 101, 97, 115, 101]) = false := beq_eq_false_iff_ne.2 (by rw [← show (Nm.increase).str.toList = [105, 110, 99, 114, 101, 97, 115, 101] by kernel_rfl]; exact hs .increase)
  have e15 : (s.toList == [100, 101, 108, 116, 97]) = false := beq_eq_false_iff_ne.2 (by rw [← show (Nm.delta).str.toList = [100, 101, 108, 116, 97] by kernel_rfl]; exact hs .delta)
  have e16 : (s.toList == [105, 114, 97, 116, 101]) = false := beq_eq_false_iff_ne.2 (by rw [← show (Nm.irate).str.toList = [105, 114, 97, 116, 101] by kernel_rfl]; exact hs .irate)
  have e17 : (s.toList == [105, 100, 101, 108, 116, 97]) = false := beq_eq_false_iff_ne.2 (by rw [← show (Nm.idelta).str.toList = [105, 100, 101, 108, 116, 97] by kernel_rfl]; exact hs .idelta)
  have e18 : (s.toList == [100, 101, 114, 105, 118]) = false := beq_eq_false_iff_ne.2 (by rw [← show (Nm.deriv).str.toList = [100, 101, 114, 105, 118] by kernel_rfl]; exact hs .deriv)
  have e19 : (s.toList == [113, 117, 97, 110, 116, 105, 108, 101, 95, 111, 118, 101, 114, 95, 116, 105, 109, 101]) = false := beq_eq_false_iff_ne.2 (by rw [← show (Nm.quantile).str.toList = [113, 117, 97, 110, 116, 105, 108, 101, 95, 111, 118, 101, 114, 95, 116, 105, 109, 101] by kernel_rfl]; exact hs .quantile)
  have e20 : (s.toList == [112, 114, 101, 100, 105, 99, 116, 95, 108, 105, 110, 101, 97, 114]) = false := beq_eq_false_iff_ne.2 (by rw [← show (Nm.predict).str.toList = [112, 114, 101, 100, 105, 99, 116, 95, 108, 105, 110, 101, 97, 114] by kernel_rfl]; exact hs .predict)
  have e21 : (s.toList == [100, 111, 117, 98, 108, 101, 95, 101, 120, 112, 111, 110, 101, 110, 116, 105, 97, 108, 95, 115, 109, 111, 111, 116, 104, 105, 110, 103]) = false := beq_eq_false_iff_ne.2 (by rw [← show (Nm.smoothing).str.toList = [100, 111, 117, 98, 108, 101, 95, 101, 120, 112, 111, 110, 101, 110, 116, 105, 97, 108, 95, 115, 109, 111, 111, 116, 104, 105, 110, 103] by kernel_rfl]; exact hs .smoothing)
  have e22 : (s.toList == [98, 101, 97, 116, 95, 111, 118, 101, 114, 95, 116, 105, 109, 101]) = false := beq_eq_false_iff_ne.2 (by rw [← show (Nm.beat).str.toList = [98, 101, 97, 116, 95, 111, 118, 101, 114, 95, 116, 105, 109, 101] by kernel_rfl]; exact hs .beat)
  clear hs
  go_enter Tryz.func15, Tryz.ntmps15
  go_wp2_with fail
  go_ret2
  exact ⟨rfl, rfl⟩

theorem rknown_nm (m : Nm) (w : World) : Calls Tryz.prog 9 #[.string m.str] w fun e w' => e = .returned (.bool true) ∧ w = w' := by
  have HL := Lib.hid (least_nm m)
  have hp : decide ((0 : Int) < (m.pts : Int)) = true := decide_eq_true (by have : 0 < m.pts := by cases m <;> decide
                                                                            omega)
  have hp2 : decide (0 < m.pts) = true := by rw [← hp]; simp
  go_enter Tryz.func9, Tryz.ntmps9
  go_wp2_with (go_at_call 15; ((with_reducible refine (HL.out _).mono ?_); rintro e w1 ⟨rfl, rfl⟩))
  go_ret
  exact ⟨by simp [*], rfl⟩
theorem rknown_none (s : ByteArray) (hs : ∀ m : Nm, s.toList ≠ m.str.toList) (w : World) : Calls Tryz.prog 9 #[.string s] w fun e w' => e = .returned (.bool false) ∧ w = w' := by
  have HL := Lib.hid (least_none s hs)
  clear hs
  go_enter Tryz.func9, Tryz.ntmps9
  go_wp2_with (go_at_call 15; ((with_reducible refine (HL.out _).mono ?_); rintro e w1 ⟨rfl, rfl⟩))
  go_ret
  exact ⟨rfl, rfl⟩
end Go.Proofs.YtoeldcgclaiokaaGreat

namespace Go.Proofs.YtoeldcgclaiokaaGreat
open Go.Fl Go.Rel Go.RowKit Ieee
set_option linter.unusedVariables false
set_option linter.unusedSimpArgs false
theorem keepDN2 {z w : World} {q0 q1 : Addr} {v0 v1 : Value} (h : w.cell? q0 = some v0 ∧ w.cell? q1 = some v1 ∧ Below z.heap.size z w) (k : Nat) : (w.drewN k).cell? q0 = some v0 ∧ (w.drewN k).cell? q1 = some v1 ∧ Below z.heap.size z (w.drewN k) := by
  obtain ⟨h0, h1, hz⟩ := h
  exact ⟨cell_stay h0 ((Below.refl _ _).drewN' k), cell_stay h1 ((Below.refl _ _).drewN' k), hz.drewN' k⟩
theorem w64_mul {x a b : Nat} (h : cn x = fop .mul a b) : W64 x := by
  unfold W64
  rw [h, fop_mul]
  cases hn : isN (fmul a b) with
  | true =>
    unfold fmul Format.mul at *
    cases ho : (double.read a).product (double.read b) with
    | none => decide
    | some d =>
      rw [ho] at hn
      have := write_not_nan d (product_notN ho)
      rw [show ((some d : Option Datum).map double.write).getD nanc = double.write d from rfl, this] at hn
      cases hn
  | false =>
    obtain ⟨s, r, hr, he⟩ := mul_word hn
    rw [he, word_eq]
    cases s <;> simp <;> omega
theorem keep2 {z w w' : World} {q0 q1 : Addr} {v0 v1 : Value} (h : w.cell? q0 = some v0 ∧ w.cell? q1 = some v1 ∧ Below z.heap.size z w) (hb : Below w.heap.size w w') : w'.cell? q0 = some v0 ∧ w'.cell? q1 = some v1 ∧ Below z.heap.size z w' := by
  obtain ⟨h0, h1, hz⟩ := h
  exact ⟨cell_stay h0 hb, cell_stay h1 hb, hz.trans (hb.mono hz.size)⟩
theorem keepD2 {z w : World} {q0 q1 : Addr} {v0 v1 : Value} (h : w.cell? q0 = some v0 ∧ w.cell? q1 = some v1 ∧ Below z.heap.size z w) : w.drew.cell? q0 = some v0 ∧ w.drew.cell? q1 = some v1 ∧ Below z.heap.size z w.drew := by
  obtain ⟨h0, h1, hz⟩ := h
  exact ⟨h0, h1, hz.drewN' 1⟩
theorem keepA2 {z w : World} {q0 q1 : Addr} {v0 v1 : Value} (h : w.cell? q0 = some v0 ∧ w.cell? q1 = some v1 ∧ Below z.heap.size z w) (o : Obj) : (w.alloc o).cell? q0 = some v0 ∧ (w.alloc o).cell? q1 = some v1 ∧ Below z.heap.size z (w.alloc o) := by
  obtain ⟨h0, h1, hz⟩ := h
  exact ⟨cell_old h0 o, cell_old h1 o, hz.alloc hz.size o⟩

set_option maxHeartbeats 4000000 in
set_option maxRecDepth 100000 in
theorem rplain_beat (a : Option Addr) (n cap : Nat) (ss : List Smp) (F T N : Int) (la : Option Addr) (lc : Nat) (aa : Option Addr) (an ac : Nat) (w : World) (h0 : 0 < n) (hn : n < 17592186044416) (hrow : Row w la n (xsOf ss)) (hok : SlOk la n lc) (H64 : ∀ x ∈ xsOf ss, W64 x) (hsr : SRow w a n ss) (ab ao q0 : Nat) (haa : aa = some ⟨ab, ao, none⟩) (han : 0 < an) (hq0 : w.cell? ⟨ab, ao, none⟩ = some (.float .f64 q0)) :
    Calls Tryz.prog 21 #[.string ⟨#[98, 101, 97, 116, 95, 111, 118, 101, 114, 95, 116, 105, 109, 101]⟩, winV a n cap F T N, .slice la n lc, .slice aa an ac] w (FB (beatC ss (toIC (fop .mul (cn q0) (cn 4652007308841189376)))) w) := by
  subst haa
  have k0 := cell_old hq0 (.cells #[.slice a n cap, .int .i64 F, .int .i64 T, .int .i64 N] 24)
  have HSR := Lib.hid (hsr.below ((Below.refl _ _).alloc (Nat.le_refl _) (.cells #[.slice a n cap, .int .i64 F, .int .i64 T, .int .i64 N] 24)))
  have p1 : (0 : Int) < (an : Int) := by omega
  clear hsr
  have p0 : (0 : Int) < (an : Int) := by omega
  have HB0 : Hid (Below w.heap.size w (w.alloc (.cells #[.slice a n cap, .int .i64 F, .int .i64 T, .int .i64 N] 24))) := (Below.refl _ _).alloc (Nat.le_refl _) _
  have HRW := Lib.hid (hrow.below HB0.out)
  have HOK := Lib.hid hok
  have HW64 := Lib.hid H64
  have HN := Lib.hid hn
  clear hrow hok H64
  go_enter Tryz.func21, Tryz.ntmps21
  go_wp2_with (first | (go_at_call 38; ((with_reducible refine (rtoint_any _ _ (w64_mul (by assumption))).mono ?_); rintro e w1 ⟨bb, rfl, rfl⟩)) | (go_at_call 39; ((with_reducible refine (refbeat_any a n cap ss _ _ (HSR.out.below ((Below.refl _ _).drewN' _))).mono ?_); rintro e w1 ⟨r, rfl, hr, b1⟩)) | (refine wpList_fop _ _ _ _ _ _ _ rfl rfl rfl ?_; intro r1 n1 hr1))
  go_ret
  exact ⟨r, rfl, by rw [hr]; rfl, (HB0.out.drewN' _).trans (b1.mono (HB0.out.drewN' _).size)⟩

set_option maxHeartbeats 4000000 in
set_option maxRecDepth 100000 in
theorem rplain_count (a : Option Addr) (n cap : Nat) (ss : List Smp) (F T N : Int) (la : Option Addr) (lc : Nat) (aa : Option Addr) (an ac : Nat) (w : World) (h0 : 0 < n) (hn : n < 17592186044416) (hrow : Row w la n (xsOf ss)) (hok : SlOk la n lc) (H64 : ∀ x ∈ xsOf ss, W64 x) :
    Calls Tryz.prog 21 #[.string ⟨#[99, 111, 117, 110, 116, 95, 111, 118, 101, 114, 95, 116, 105, 109, 101]⟩, winV a n cap F T N, .slice la n lc, .slice aa an ac] w (FB (nfl n) w) := by
  have HB0 : Hid (Below w.heap.size w (w.alloc (.cells #[.slice a n cap, .int .i64 F, .int .i64 T, .int .i64 N] 24))) := (Below.refl _ _).alloc (Nat.le_refl _) _
  have HRW := Lib.hid (hrow.below HB0.out)
  have HOK := Lib.hid hok
  have HW64 := Lib.hid H64
  have HN := Lib.hid hn
  clear hrow hok H64
  go_enter Tryz.func21, Tryz.ntmps21
  go_wp2_with fail
  go_ret
  exact ⟨_, rfl, cn_nfl n, HB0.out⟩

set_option maxHeartbeats 4000000 in
set_option maxRecDepth 100000 in
theorem rplain_present (a : Option Addr) (n cap : Nat) (ss : List Smp) (F T N : Int) (la : Option Addr) (lc : Nat) (aa : Option Addr) (an ac : Nat) (w : World) (h0 : 0 < n) (hn : n < 17592186044416) (hrow : Row w la n (xsOf ss)) (hok : SlOk la n lc) (H64 : ∀ x ∈ xsOf ss, W64 x) :
    Calls Tryz.prog 21 #[.string ⟨#[112, 114, 101, 115, 101, 110, 116, 95, 111, 118, 101, 114, 95, 116, 105, 109, 101]⟩, winV a n cap F T N, .slice la n lc, .slice aa an ac] w (FB one w) := by
  have HB0 : Hid (Below w.heap.size w (w.alloc (.cells #[.slice a n cap, .int .i64 F, .int .i64 T, .int .i64 N] 24))) := (Below.refl _ _).alloc (Nat.le_refl _) _
  have HRW := Lib.hid (hrow.below HB0.out)
  have HOK := Lib.hid hok
  have HW64 := Lib.hid H64
  have HN := Lib.hid hn
  clear hrow hok H64
  go_enter Tryz.func21, Tryz.ntmps21
  go_wp2_with fail
  go_ret
  exact ⟨_, rfl, cn_one, HB0.out⟩

set_option maxHeartbeats 4000000 in
set_option maxRecDepth 100000 in
theorem rplain_first (a : Option Addr) (n cap : Nat) (ss : List Smp) (F T N : Int) (la : Option Addr) (lc : Nat) (aa : Option Addr) (an ac : Nat) (w : World) (h0 : 0 < n) (hn : n < 17592186044416) (hrow : Row w la n (xsOf ss)) (hok : SlOk la n lc) (H64 : ∀ x ∈ xsOf ss, W64 x) :
    Calls Tryz.prog 21 #[.string ⟨#[102, 105, 114, 115, 116, 95, 111, 118, 101, 114, 95, 116, 105, 109, 101]⟩, winV a n cap F T N, .slice la n lc, .slice aa an ac] w (FB (at0 (vcs ss) 0) w) := by
  obtain ⟨b, off, rfl, hcell⟩ := (hrow.below ((Below.refl _ _).alloc (Nat.le_refl _) (.cells #[.slice a n cap, .int .i64 F, .int .i64 T, .int .i64 N] 24))).2.2 h0
  have c0 := hcell 0 h0
  rw [Nat.add_zero] at c0
  have HV : Hid (cn (at0 (xsOf ss) 0) = at0 (vcs ss) 0) := by show _ = _; rw [← xsOf_cn, at0_map cn _ (by rw [hrow.1]; exact h0)]
  clear hcell
  have HB0 : Hid (Below w.heap.size w (w.alloc (.cells #[.slice a n cap, .int .i64 F, .int .i64 T, .int .i64 N] 24))) := (Below.refl _ _).alloc (Nat.le_refl _) _
  have HRW := Lib.hid (hrow.below HB0.out)
  have HOK := Lib.hid hok
  have HW64 := Lib.hid H64
  have HN := Lib.hid hn
  clear hrow hok H64
  go_enter Tryz.func21, Tryz.ntmps21
  go_wp2_with fail
  go_ret
  exact ⟨_, rfl, HV.out, HB0.out⟩

set_option maxHeartbeats 4000000 in
set_option maxRecDepth 100000 in
theorem rplain_last (a : Option Addr) (n cap : Nat) (ss : List Smp) (F T N : Int) (la : Option Addr) (lc : Nat) (aa : Option Addr) (an ac : Nat) (w : World) (h0 : 0 < n) (hn : n < 17592186044416) (hrow : Row w la n (xsOf ss)) (hok : SlOk la n lc) (H64 : ∀ x ∈ xsOf ss, W64 x) :
    Calls Tryz.prog 21 #[.string ⟨#[108, 97, 115, 116, 95, 111, 118, 101, 114, 95, 116, 105, 109, 101]⟩, winV a n cap F T N, .slice la n lc, .slice aa an ac] w (FB (at0 (vcs ss) (n - 1)) w) := by
  obtain ⟨m, rfl⟩ : ∃ m, n = m + 1 := ⟨n - 1, by omega⟩
  obtain ⟨b, off, rfl, hcell⟩ := (hrow.below ((Below.refl _ _).alloc (Nat.le_refl _) (.cells #[.slice a (m + 1) cap, .int .i64 F, .int .i64 T, .int .i64 N] 24))).2.2 h0
  have c0 := hcell m (by omega)
  have hwm : IntKind.i64.wrap (m : Int) = (m : Int) := by rw [IntKind.wrap_i64]; omega
  have HV : Hid (cn (at0 (xsOf ss) m) = at0 (vcs ss) (m + 1 - 1)) := by show _ = at0 (vcs ss) m; rw [← xsOf_cn, at0_map cn _ (by rw [hrow.1]; omega)]
  clear hcell
  have HB0 : Hid (Below w.heap.size w (w.alloc (.cells #[.slice a (m + 1) cap, .int .i64 F, .int .i64 T, .int .i64 N] 24))) := (Below.refl _ _).alloc (Nat.le_refl _) _
  have HRW := Lib.hid (hrow.below HB0.out)
  have HOK := Lib.hid hok
  have HW64 := Lib.hid H64
  have HN := Lib.hid hn
  clear hrow hok H64
  go_enter Tryz.func21, Tryz.ntmps21
  go_wp2_with fail
  go_ret
  exact ⟨_, rfl, HV.out, HB0.out⟩

set_option maxHeartbeats 4000000 in
set_option maxRecDepth 100000 in
theorem rplain_sum (a : Option Addr) (n cap : Nat) (ss : List Smp) (F T N : Int) (la : Option Addr) (lc : Nat) (aa : Option Addr) (an ac : Nat) (w : World) (h0 : 0 < n) (hn : n < 17592186044416) (hrow : Row w la n (xsOf ss)) (hok : SlOk la n lc) (H64 : ∀ x ∈ xsOf ss, W64 x) :
    Calls Tryz.prog 21 #[.string ⟨#[115, 117, 109, 95, 111, 118, 101, 114, 95, 116, 105, 109, 101]⟩, winV a n cap F T N, .slice la n lc, .slice aa an ac] w (FB (sumS (vcs ss)) w) := by
  have HB0 : Hid (Below w.heap.size w (w.alloc (.cells #[.slice a n cap, .int .i64 F, .int .i64 T, .int .i64 N] 24))) := (Below.refl _ _).alloc (Nat.le_refl _) _
  have HRW := Lib.hid (hrow.below HB0.out)
  have HOK := Lib.hid hok
  have HW64 := Lib.hid H64
  have HN := Lib.hid hn
  clear hrow hok H64
  go_enter Tryz.func21, Tryz.ntmps21
  go_wp2_with (go_at_call 29; ((with_reducible refine (refsum_any la n lc (xsOf ss) _ HRW.out).mono ?_); rintro e w1 ⟨r, nd, rfl, hr, rfl⟩))
  go_ret
  exact ⟨r, rfl, by rw [hr, xsOf_cn], HB0.out.drewN' nd⟩

set_option maxHeartbeats 4000000 in
set_option maxRecDepth 100000 in
theorem rplain_avg (a : Option Addr) (n cap : Nat) (ss : List Smp) (F T N : Int) (la : Option Addr) (lc : Nat) (aa : Option Addr) (an ac : Nat) (w : World) (h0 : 0 < n) (hn : n < 17592186044416) (hrow : Row w la n (xsOf ss)) (hok : SlOk la n lc) (H64 : ∀ x ∈ xsOf ss, W64 x) :
    Calls Tryz.prog 21 #[.string ⟨#[97, 118, 103, 95, 111, 118, 101, 114, 95, 116, 105, 109, 101]⟩, winV a n cap F T N, .slice la n lc, .slice aa an ac] w (FB (meanS (vcs ss)) w) := by
  have HB0 : Hid (Below w.heap.size w (w.alloc (.cells #[.slice a n cap, .int .i64 F, .int .i64 T, .int .i64 N] 24))) := (Below.refl _ _).alloc (Nat.le_refl _) _
  have HRW := Lib.hid (hrow.below HB0.out)
  have HOK := Lib.hid hok
  have HW64 := Lib.hid H64
  have HN := Lib.hid hn
  clear hrow hok H64
  go_enter Tryz.func21, Tryz.ntmps21
  go_wp2_with (go_at_call 30; ((with_reducible refine (refmean_any la n lc (xsOf ss) _ HRW.out HN.out).mono ?_); rintro e w1 ⟨r, rfl, hr, b1⟩))
  go_ret
  exact ⟨r, rfl, by rw [hr, xsOf_cn], HB0.out.trans (b1.mono HB0.out.size)⟩

set_option maxHeartbeats 4000000 in
set_option maxRecDepth 100000 in
theorem rplain_stddev (a : Option Addr) (n cap : Nat) (ss : List Smp) (F T N : Int) (la : Option Addr) (lc : Nat) (aa : Option Addr) (an ac : Nat) (w : World) (h0 : 0 < n) (hn : n < 17592186044416) (hrow : Row w la n (xsOf ss)) (hok : SlOk la n lc) (H64 : ∀ x ∈ xsOf ss, W64 x) :
    Calls Tryz.prog 21 #[.string ⟨#[115, 116, 100, 100, 101, 118, 95, 111, 118, 101, 114, 95, 116, 105, 109, 101]⟩, winV a n cap F T N, .slice la n lc, .slice aa an ac] w (FB (fsqrt (varS (vcs ss))) w) := by
  have HB0 : Hid (Below w.heap.size w (w.alloc (.cells #[.slice a n cap, .int .i64 F, .int .i64 T, .int .i64 N] 24))) := (Below.refl _ _).alloc (Nat.le_refl _) _
  have HRW := Lib.hid (hrow.below HB0.out)
  have HOK := Lib.hid hok
  have HW64 := Lib.hid H64
  have HN := Lib.hid hn
  clear hrow hok H64
  go_enter Tryz.func21, Tryz.ntmps21
  go_wp2_with (go_at_call 31; ((with_reducible refine (refspread_any la n lc (xsOf ss) _ HRW.out HN.out).mono ?_); rintro e w1 ⟨r, rfl, hr, b1⟩))
  go_ret
  exact ⟨r, rfl, by rw [hr, xsOf_cn], HB0.out.trans (b1.mono HB0.out.size)⟩

set_option maxHeartbeats 4000000 in
set_option maxRecDepth 100000 in
theorem rplain_stdvar (a : Option Addr) (n cap : Nat) (ss : List Smp) (F T N : Int) (la : Option Addr) (lc : Nat) (aa : Option Addr) (an ac : Nat) (w : World) (h0 : 0 < n) (hn : n < 17592186044416) (hrow : Row w la n (xsOf ss)) (hok : SlOk la n lc) (H64 : ∀ x ∈ xsOf ss, W64 x) :
    Calls Tryz.prog 21 #[.string ⟨#[115, 116, 100, 118, 97, 114, 95, 111, 118, 101, 114, 95, 116, 105, 109, 101]⟩, winV a n cap F T N, .slice la n lc, .slice aa an ac] w (FB (varS (vcs ss)) w) := by
  have HB0 : Hid (Below w.heap.size w (w.alloc (.cells #[.slice a n cap, .int .i64 F, .int .i64 T, .int .i64 N] 24))) := (Below.refl _ _).alloc (Nat.le_refl _) _
  have HRW := Lib.hid (hrow.below HB0.out)
  have HOK := Lib.hid hok
  have HW64 := Lib.hid H64
  have HN := Lib.hid hn
  clear hrow hok H64
  go_enter Tryz.func21, Tryz.ntmps21
  go_wp2_with (go_at_call 32; ((with_reducible refine (refvar_any la n lc (xsOf ss) _ HRW.out HN.out).mono ?_); rintro e w1 ⟨r, rfl, hr, b1⟩))
  go_ret
  exact ⟨r, rfl, by rw [hr, xsOf_cn], HB0.out.trans (b1.mono HB0.out.size)⟩

set_option maxHeartbeats 4000000 in
set_option maxRecDepth 100000 in
theorem rplain_max (a : Option Addr) (n cap : Nat) (ss : List Smp) (F T N : Int) (la : Option Addr) (lc : Nat) (aa : Option Addr) (an ac : Nat) (w : World) (h0 : 0 < n) (hn : n < 17592186044416) (hrow : Row w la n (xsOf ss)) (hok : SlOk la n lc) (H64 : ∀ x ∈ xsOf ss, W64 x) :
    Calls Tryz.prog 21 #[.string ⟨#[109, 97, 120, 95, 111, 118, 101, 114, 95, 116, 105, 109, 101]⟩, winV a n cap F T N, .slice la n lc, .slice aa an ac] w (FB (mostT (vcs ss) true (n - 1)) w) := by
  obtain ⟨b, off, rfl, hcell⟩ := (hrow.below ((Below.refl _ _).alloc (Nat.le_refl _) (.cells #[.slice a n cap, .int .i64 F, .int .i64 T, .int .i64 N] 24))).2.2 h0
  have HO := Lib.hid (outer_false b off n lc (xsOf ss) _ h0 hn hrow.1 hcell)
  clear hcell
  have HB0 : Hid (Below w.heap.size w (w.alloc (.cells #[.slice a n cap, .int .i64 F, .int .i64 T, .int .i64 N] 24))) := (Below.refl _ _).alloc (Nat.le_refl _) _
  have HRW := Lib.hid (hrow.below HB0.out)
  have HOK := Lib.hid hok
  have HW64 := Lib.hid H64
  have HN := Lib.hid hn
  clear hrow hok H64
  go_enter Tryz.func21, Tryz.ntmps21
  go_wp2_with (go_at_call 33; ((with_reducible refine HO.out.mono ?_); rintro e w1 ⟨r, rfl, hr, rfl⟩))
  go_ret
  exact ⟨r, rfl, by rw [hr, xsOf_cn], HB0.out⟩

set_option maxHeartbeats 4000000 in
set_option maxRecDepth 100000 in
theorem rplain_min (a : Option Addr) (n cap : Nat) (ss : List Smp) (F T N : Int) (la : Option Addr) (lc : Nat) (aa : Option Addr) (an ac : Nat) (w : World) (h0 : 0 < n) (hn : n < 17592186044416) (hrow : Row w la n (xsOf ss)) (hok : SlOk la n lc) (H64 : ∀ x ∈ xsOf ss, W64 x) :
    Calls Tryz.prog 21 #[.string ⟨#[109, 105, 110, 95, 111, 118, 101, 114, 95, 116, 105, 109, 101]⟩, winV a n cap F T N, .slice la n lc, .slice aa an ac] w (FB (mostT (vcs ss) false (n - 1)) w) := by
  obtain ⟨b, off, rfl, hcell⟩ := (hrow.below ((Below.refl _ _).alloc (Nat.le_refl _) (.cells #[.slice a n cap, .int .i64 F, .int .i64 T, .int .i64 N] 24))).2.2 h0
  have HO := Lib.hid (outer_true b off n lc (xsOf ss) _ h0 hn hrow.1 hcell)
  clear hcell
  have HB0 : Hid (Below w.heap.size w (w.alloc (.cells #[.slice a n cap, .int .i64 F, .int .i64 T, .int .i64 N] 24))) := (Below.refl _ _).alloc (Nat.le_refl _) _
  have HRW := Lib.hid (hrow.below HB0.out)
  have HOK := Lib.hid hok
  have HW64 := Lib.hid H64
  have HN := Lib.hid hn
  clear hrow hok H64
  go_enter Tryz.func21, Tryz.ntmps21
  go_wp2_with (go_at_call 33; ((with_reducible refine HO.out.mono ?_); rintro e w1 ⟨r, rfl, hr, rfl⟩))
  go_ret
  exact ⟨r, rfl, by rw [hr, xsOf_cn], HB0.out⟩

set_option maxHeartbeats 4000000 in
set_option maxRecDepth 100000 in
theorem rplain_quantile (a : Option Addr) (n cap : Nat) (ss : List Smp) (F T N : Int) (la : Option Addr) (lc : Nat) (aa : Option Addr) (an ac : Nat) (w : World) (h0 : 0 < n) (hn : n < 17592186044416) (hrow : Row w la n (xsOf ss)) (hok : SlOk la n lc) (H64 : ∀ x ∈ xsOf ss, W64 x) (ab ao q0 : Nat) (haa : aa = some ⟨ab, ao, none⟩) (han : 0 < an) (hq0 : w.cell? ⟨ab, ao, none⟩ = some (.float .f64 q0)) :
    Calls Tryz.prog 21 #[.string ⟨#[113, 117, 97, 110, 116, 105, 108, 101, 95, 111, 118, 101, 114, 95, 116, 105, 109, 101]⟩, winV a n cap F T N, .slice la n lc, .slice aa an ac] w (FB (quantS (cn q0) (vcs ss)) w) := by
  subst haa
  have k0 := cell_old hq0 (.cells #[.slice a n cap, .int .i64 F, .int .i64 T, .int .i64 N] 24)
  have p0 : (0 : Int) < (an : Int) := by omega
  have HB0 : Hid (Below w.heap.size w (w.alloc (.cells #[.slice a n cap, .int .i64 F, .int .i64 T, .int .i64 N] 24))) := (Below.refl _ _).alloc (Nat.le_refl _) _
  have HRW := Lib.hid (hrow.below HB0.out)
  have HOK := Lib.hid hok
  have HW64 := Lib.hid H64
  have HN := Lib.hid hn
  clear hrow hok H64
  go_enter Tryz.func21, Tryz.ntmps21
  go_wp2_with (go_at_call 34; ((with_reducible refine (refquant_any q0 la n lc (xsOf ss) _ HRW.out HOK.out HW64.out HN.out).mono ?_); rintro e w1 ⟨r, rfl, hr, b1⟩))
  go_ret
  exact ⟨r, rfl, by rw [hr, xsOf_cn], HB0.out.trans (b1.mono HB0.out.size)⟩

set_option maxHeartbeats 4000000 in
set_option maxRecDepth 100000 in
theorem rplain_mad (a : Option Addr) (n cap : Nat) (ss : List Smp) (F T N : Int) (la : Option Addr) (lc : Nat) (aa : Option Addr) (an ac : Nat) (w : World) (h0 : 0 < n) (hn : n < 17592186044416) (hrow : Row w la n (xsOf ss)) (hok : SlOk la n lc) (H64 : ∀ x ∈ xsOf ss, W64 x) :
    Calls Tryz.prog 21 #[.string ⟨#[109, 97, 100, 95, 111, 118, 101, 114, 95, 116, 105, 109, 101]⟩, winV a n cap F T N, .slice la n lc, .slice aa an ac] w (FB (midT (vcs ss)) w) := by
  have HB0 : Hid (Below w.heap.size w (w.alloc (.cells #[.slice a n cap, .int .i64 F, .int .i64 T, .int .i64 N] 24))) := (Below.refl _ _).alloc (Nat.le_refl _) _
  have HRW := Lib.hid (hrow.below HB0.out)
  have HOK := Lib.hid hok
  have HW64 := Lib.hid H64
  have HN := Lib.hid hn
  clear hrow hok H64
  go_enter Tryz.func21, Tryz.ntmps21
  go_wp2_with (go_at_call 35; ((with_reducible refine (off_any la n lc (xsOf ss) _ HRW.out HOK.out HW64.out HN.out).mono ?_); rintro e w1 ⟨r, rfl, hr, b1⟩))
  go_ret
  exact ⟨r, rfl, by rw [hr, xsOf_cn], HB0.out.trans (b1.mono HB0.out.size)⟩

set_option maxHeartbeats 4000000 in
set_option maxRecDepth 100000 in
theorem rplain_changes (a : Option Addr) (n cap : Nat) (ss : List Smp) (F T N : Int) (la : Option Addr) (lc : Nat) (aa : Option Addr) (an ac : Nat) (w : World) (h0 : 0 < n) (hn : n < 17592186044416) (hrow : Row w la n (xsOf ss)) (hok : SlOk la n lc) (H64 : ∀ x ∈ xsOf ss, W64 x) :
    Calls Tryz.prog 21 #[.string ⟨#[99, 104, 97, 110, 103, 101, 115]⟩, winV a n cap F T N, .slice la n lc, .slice aa an ac] w (FB (nfl (cntT chB (vcs ss) (n - 1))) w) := by
  have HB0 : Hid (Below w.heap.size w (w.alloc (.cells #[.slice a n cap, .int .i64 F, .int .i64 T, .int .i64 N] 24))) := (Below.refl _ _).alloc (Nat.le_refl _) _
  have HRW := Lib.hid (hrow.below HB0.out)
  have HOK := Lib.hid hok
  have HW64 := Lib.hid H64
  have HN := Lib.hid hn
  clear hrow hok H64
  go_enter Tryz.func21, Tryz.ntmps21
  go_wp2_with (go_at_call 36; ((with_reducible refine (pairs_any la n lc (xsOf ss) _ HRW.out HN.out h0).mono ?_); rintro e w1 ⟨rfl, nd, rfl⟩))
  go_ret
  rw [xsOf_cn]
  exact ⟨_, rfl, cn_nfl _, HB0.out.drewN' _⟩

set_option maxHeartbeats 4000000 in
set_option maxRecDepth 100000 in
theorem rplain_resets (a : Option Addr) (n cap : Nat) (ss : List Smp) (F T N : Int) (la : Option Addr) (lc : Nat) (aa : Option Addr) (an ac : Nat) (w : World) (h0 : 0 < n) (hn : n < 17592186044416) (hrow : Row w la n (xsOf ss)) (hok : SlOk la n lc) (H64 : ∀ x ∈ xsOf ss, W64 x) :
    Calls Tryz.prog 21 #[.string ⟨#[114, 101, 115, 101, 116, 115]⟩, winV a n cap F T N, .slice la n lc, .slice aa an ac] w (FB (nfl (cntT reB (vcs ss) (n - 1))) w) := by
  have HB0 : Hid (Below w.heap.size w (w.alloc (.cells #[.slice a n cap, .int .i64 F, .int .i64 T, .int .i64 N] 24))) := (Below.refl _ _).alloc (Nat.le_refl _) _
  have HRW := Lib.hid (hrow.below HB0.out)
  have HOK := Lib.hid hok
  have HW64 := Lib.hid H64
  have HN := Lib.hid hn
  clear hrow hok H64
  go_enter Tryz.func21, Tryz.ntmps21
  go_wp2_with (go_at_call 36; ((with_reducible refine (pairs_any la n lc (xsOf ss) _ HRW.out HN.out h0).mono ?_); rintro e w1 ⟨rfl, nd, rfl⟩))
  go_ret
  rw [xsOf_cn]
  exact ⟨_, rfl, cn_nfl _, HB0.out.drewN' _⟩

set_option maxHeartbeats 4000000 in
set_option maxRecDepth 100000 in
theorem rplain_smoothing (a : Option Addr) (n cap : Nat) (ss : List Smp) (F T N : Int) (la : Option Addr) (lc : Nat) (aa : Option Addr) (an ac : Nat) (w : World) (h0 : 0 < n) (hn : n < 17592186044416) (hrow : Row w la n (xsOf ss)) (hok : SlOk la n lc) (H64 : ∀ x ∈ xsOf ss, W64 x) (ab ao q0 q1 : Nat) (haa : aa = some ⟨ab, ao, none⟩) (han : 1 < an) (hq0 : w.cell? ⟨ab, ao, none⟩ = some (.float .f64 q0)) (hq1 : w.cell? ⟨ab, ao + 1, none⟩ = some (.float .f64 q1)) :
    Calls Tryz.prog 21 #[.string ⟨#[100, 111, 117, 98, 108, 101, 95, 101, 120, 112, 111, 110, 101, 110, 116, 105, 97, 108, 95, 115, 109, 111, 111, 116, 104, 105, 110, 103]⟩, winV a n cap F T N, .slice la n lc, .slice aa an ac] w (FB (smoothS (vcs ss) (cn q0) (cn q1)) w) := by
  subst haa
  have k0 := cell_old hq0 (.cells #[.slice a n cap, .int .i64 F, .int .i64 T, .int .i64 N] 24)
  have k1 := cell_old hq1 (.cells #[.slice a n cap, .int .i64 F, .int .i64 T, .int .i64 N] 24)
  have p0 : (0 : Int) < (an : Int) := by omega
  have p1 : (1 : Int) < (an : Int) := by omega
  have p2 : 0 < an := by omega
  have HB0 : Hid (Below w.heap.size w (w.alloc (.cells #[.slice a n cap, .int .i64 F, .int .i64 T, .int .i64 N] 24))) := (Below.refl _ _).alloc (Nat.le_refl _) _
  have HRW := Lib.hid (hrow.below HB0.out)
  have HOK := Lib.hid hok
  have HW64 := Lib.hid H64
  have HN := Lib.hid hn
  clear hrow hok H64
  go_enter Tryz.func21, Tryz.ntmps21
  go_wp2_with fail
  have hst := And.intro k0 (And.intro k1 (Below.refl (w.alloc (.cells #[.slice a n cap, .int .i64 F, .int .i64 T, .int .i64 N] 24)).heap.size (w.alloc (.cells #[.slice a n cap, .int .i64 F, .int .i64 T, .int .i64 N] 24))))
  have HSM := Lib.hid (refsmooth_any la n lc (xsOf ss) (w.alloc (.cells #[.slice a n cap, .int .i64 F, .int .i64 T, .int .i64 N] 24)).drew (HRW.out.below ((Below.refl _ _).drewN' 1)) q0 q1)
  go_region_held3 (fun w' => w'.cell? ⟨ab, ao, none⟩ = some (.float .f64 q0) ∧ w'.cell? ⟨ab, ao + 1, none⟩ = some (.float .f64 q1) ∧ Below (w.alloc (.cells #[.slice a n cap, .int .i64 F, .int .i64 T, .int .i64 N] 24)).heap.size (w.alloc (.cells #[.slice a n cap, .int .i64 F, .int .i64 T, .int .i64 N] 24)) w') (first | assumption | exact keepDN2 hst _ | exact keep2 (by assumption) (by assumption) | exact keepD2 (by assumption)) (first
    | (go_at_call 37; ((with_reducible refine HSM.out.mono ?_); rintro e w1 ⟨r, nd, rfl, hr, rfl⟩)))
  go_wp2_with fail
  go_ret
  exact ⟨r, rfl, by rw [hr, xsOf_cn], HB0.out.drewN' _⟩
end Go.Proofs.YtoeldcgclaiokaaGreat

namespace Go.Proofs.YtoeldcgclaiokaaGreat
open Go.Fl Go.Rel Go.RowKit
set_option linter.unusedVariables false
set_option linter.unusedSimpArgs false

/-- What a name asks for. -/
def LeastT (nm : ByteArray) (p k : Nat) : Prop := ∀ w, Calls Tryz.prog 15 #[.string nm] w fun e w' => e = .returned (.tuple #[.int .i64 (p : Int), .int .i64 (k : Int)]) ∧ w = w'

/-- The window's variable stands. -/
def WinSt (w : World) (a : Option Addr) (n cap : Nat) (F T N : Int) (W : World) : Prop := Below w.heap.size w W ∧ Bk.Is W w.heap.size #[.slice a n cap, .int .i64 F, .int .i64 T, .int .i64 N] 24
theorem WinSt.below {w : World} {a : Option Addr} {n cap : Nat} {F T N : Int} {W W' : World} (h : WinSt w a n cap F T N W) (hb : Below W.heap.size W W') : WinSt w a n cap F T N W' :=
  ⟨h.1.trans (hb.mono h.1.size), h.2.below hb h.2.lt⟩
theorem WinSt.bel {w : World} {a : Option Addr} {n cap : Nat} {F T N : Int} {W : World} (h : WinSt w a n cap F T N W) : Below w.heap.size w W := h.1
theorem WinSt.cells {w : World} {a : Option Addr} {n cap : Nat} {F T N : Int} {W : World} (h : WinSt w a n cap F T N W) :
    W.cell? ⟨w.heap.size, 0, none⟩ = some (.slice a n cap) ∧ W.cell? ⟨w.heap.size, 1, none⟩ = some (.int .i64 F) ∧ W.cell? ⟨w.heap.size, 2, none⟩ = some (.int .i64 T) ∧ W.cell? ⟨w.heap.size, 3, none⟩ = some (.int .i64 N) :=
  ⟨by rw [h.2.cell]; rfl, by rw [h.2.cell]; rfl, by rw [h.2.cell]; rfl, by rw [h.2.cell]; rfl⟩
theorem winSt_made (w : World) (a : Option Addr) (n cap : Nat) (F T N : Int) : WinSt w a n cap F T N (w.alloc (.cells #[.slice a n cap, .int .i64 F, .int .i64 T, .int .i64 N] 24)) :=
  ⟨(Below.refl _ _).alloc (Nat.le_refl _) _, Bk.Is.made w _ _⟩
theorem vals_row {xs : List Nat} {n : Nat} {w w' : World} {e : Ending} (h : ValsRet xs w e w') (hl : xs.length = n) : ∃ la lc, e = .returned (.slice la n lc) ∧ SlOk la n lc ∧ Row w' la n xs ∧ Below w.heap.size w w' := by
  obtain ⟨v, rfl, hown, hb⟩ := h
  obtain ⟨la, lc, rfl, hok, hrow⟩ := hown.row'
  subst hl
  exact ⟨la, lc, rfl, hok, hrow, hb⟩
theorem xsOf_len {ss : List Smp} {n : Nat} (h : ss.length = n) : (xsOf ss).length = n := by unfold xsOf; rw [List.length_map, h]

set_option maxHeartbeats 2000000 in
set_option maxRecDepth 100000 in
theorem rcall_zero (nm : ByteArray) (HL : Hid (LeastT nm 0 0)) (a : Option Addr) (n cap : Nat) (F T N : Int) (aa : Option Addr) (an ac : Nat) (w : World) :
    Calls Tryz.prog 5 #[.string nm, winV a n cap F T N, .slice aa an ac] w (OptRet none w) := by
  have ST0 := Lib.hid (winSt_made w a n cap F T N)
  unfold LeastT at HL
  go_enter Tryz.func5, Tryz.ntmps5
  go_wp2_with (go_at_call 15; ((with_reducible refine (HL.out _).mono ?_); rintro e w1 ⟨rfl, rfl⟩))
  go_ret2
  exact ⟨rfl, ST0.out.bel⟩

set_option maxHeartbeats 2000000 in
set_option maxRecDepth 100000 in
theorem rcall_few (nm : ByteArray) (p k : Nat) (HL : Hid (LeastT nm p k)) (hp : 0 < p) (a : Option Addr) (n cap : Nat) (F T N : Int) (aa : Option Addr) (an ac : Nat) (w : World) (hk : ¬ an = k) :
    Calls Tryz.prog 5 #[.string nm, winV a n cap F T N, .slice aa an ac] w (OptRet none w) := by
  have hne : ((an : Int) != (k : Int)) = true := by simp; omega
  have hp0 : ((p : Int) == 0) = false := by simp; omega
  clear hk hp
  have ST0 := Lib.hid (winSt_made w a n cap F T N)
  unfold LeastT at HL
  go_enter Tryz.func5, Tryz.ntmps5
  go_wp2_with (go_at_call 15; ((with_reducible refine (HL.out _).mono ?_); rintro e w1 ⟨rfl, rfl⟩))
  go_ret2
  exact ⟨rfl, ST0.out.bel⟩

set_option maxHeartbeats 2000000 in
set_option maxRecDepth 100000 in
theorem rcall_unsound (nm : ByteArray) (p k : Nat) (HL : Hid (LeastT nm p k)) (hp : 0 < p) (a : Option Addr) (n cap : Nat) (ss : List Smp) (F T N : Int) (aa : Option Addr) (ac : Nat) (w : World) (hr : SRow w a n ss) (hn : n < 17592186044416) (hs : sndB F T N ss n = false) :
    Calls Tryz.prog 5 #[.string nm, winV a n cap F T N, .slice aa k ac] w (OptRet none w) := by
  have hp0 : ((p : Int) == 0) = false := by simp; omega
  have HS : Hid (∀ w1, Below w.heap.size w w1 → Calls Tryz.prog 16 #[winV a n cap F T N] w1 (BoolB false w1)) := fun w1 hb => by rw [← hs]; exact rsound_any a n cap ss F T N w1 (hr.below hb) hn
  clear hp hr hn hs
  have ST0 := Lib.hid (winSt_made w a n cap F T N)
  unfold LeastT at HL
  go_enter Tryz.func5, Tryz.ntmps5
  go_wp2_with (first | (go_at_call 15; ((with_reducible refine (HL.out _).mono ?_); rintro e w1 ⟨rfl, rfl⟩)) | (go_at_call 16; ((with_reducible refine (HS.out _ ST0.out.bel).mono ?_); rintro e w3 ⟨rfl, b3⟩; have ST3 := Lib.hid (ST0.out.below b3); clear b3; obtain ⟨cw0, cw1, cw2, cw3⟩ := ST3.out.cells)))
  go_ret2
  exact ⟨rfl, ST3.out.bel⟩

set_option maxHeartbeats 2000000 in
set_option maxRecDepth 100000 in
theorem rcall_short (nm : ByteArray) (p k : Nat) (HL : Hid (LeastT nm p k)) (hp : 0 < p) (a : Option Addr) (n cap : Nat) (ss : List Smp) (F T N : Int) (aa : Option Addr) (ac : Nat) (w : World) (hr : SRow w a n ss) (hn : n < 17592186044416) (hs : sndB F T N ss n = true) (hlt0 : n < p) :
    Calls Tryz.prog 5 #[.string nm, winV a n cap F T N, .slice aa k ac] w (OptRet none w) := by
  have hp0 : ((p : Int) == 0) = false := by simp; omega
  have hlt : decide (n < p) = true := decide_eq_true hlt0
  have HS : Hid (∀ w1, Below w.heap.size w w1 → Calls Tryz.prog 16 #[winV a n cap F T N] w1 (BoolB true w1)) := fun w1 hb => by rw [← hs]; exact rsound_any a n cap ss F T N w1 (hr.below hb) hn
  clear hp hr hn hs hlt0
  have ST0 := Lib.hid (winSt_made w a n cap F T N)
  unfold LeastT at HL
  go_enter Tryz.func5, Tryz.ntmps5
  go_wp2_with (first | (go_at_call 15; ((with_reducible refine (HL.out _).mono ?_); rintro e w1 ⟨rfl, rfl⟩)) | (go_at_call 16; ((with_reducible refine (HS.out _ ST0.out.bel).mono ?_); rintro e w3 ⟨rfl, b3⟩; have ST3 := Lib.hid (ST0.out.below b3); clear b3; obtain ⟨cw0, cw1, cw2, cw3⟩ := ST3.out.cells)))
  go_ret2
  exact ⟨rfl, ST3.out.bel⟩

theorem rcall_all (nm : ByteArray) (p k : Nat) (HL : LeastT nm p k) (hp : 0 < p) (a : Option Addr) (n cap : Nat) (ss : List Smp) (F T N : Int) (aa : Option Addr) (an ac : Nat) (o : Option Nat) (w : World) (hr : SRow w a n ss) (hn : n < 17592186044416)
    (HC : an = k → p ≤ n → sndB F T N ss n = true → Calls Tryz.prog 5 #[.string nm, winV a n cap F T N, .slice aa an ac] w (OptRet o w)) :
    Calls Tryz.prog 5 #[.string nm, winV a n cap F T N, .slice aa an ac] w (OptRet (if an = k ∧ p ≤ n ∧ sndB F T N ss n = true then o else none) w) := by
  by_cases h1 : an = k
  · subst h1
    cases h3 : sndB F T N ss n with
    | false => rw [if_neg (by simp)]; exact rcall_unsound nm p an HL hp a n cap ss F T N aa ac w hr hn h3
    | true =>
      by_cases h2 : n < p
      · rw [if_neg (by omega)]
        exact rcall_short nm p an HL hp a n cap ss F T N aa ac w hr hn h3 h2
      · rw [if_pos ⟨rfl, by omega, rfl⟩]; exact HC rfl (by omega) h3
  · rw [if_neg (by omega)]
    exact rcall_few nm p k HL hp a n cap F T N aa an ac w h1

set_option maxHeartbeats 4000000 in
set_option maxRecDepth 100000 in
theorem rcall_plain (nm : ByteArray) (p k c : Nat) (HL : Hid (LeastT nm p k)) (hp : 0 < p) (a : Option Addr) (n cap : Nat) (ss : List Smp) (F T N : Int) (aa : Option Addr) (ac : Nat) (w : World) (hge : p ≤ n) (hr : SRow w a n ss) (hn : n < 17592186044416) (hs : sndB F T N ss n = true)
    (e0 : (nm.toList == [114, 97, 116, 101]) = false) (e1 : (nm.toList == [105, 110, 99, 114, 101, 97, 115, 101]) = false) (e2 : (nm.toList == [100, 101, 108, 116, 97]) = false) (e3 : (nm.toList == [105, 114, 97, 116, 101]) = false) (e4 : (nm.toList == [105, 100, 101, 108, 116, 97]) = false) (e5 : (nm.toList == [100, 101, 114, 105, 118]) = false) (e6 : (nm.toList == [112, 114, 101, 100, 105, 99, 116, 95, 108, 105, 110, 101, 97, 114]) = false)
    (HP : Hid (∀ la lc w1, Below w.heap.size w w1 → Row w1 la n (xsOf ss) → SlOk la n lc → Calls Tryz.prog 21 #[.string nm, winV a n cap F T N, .slice la n lc, .slice aa k ac] w1 (FB c w1))) :
    Calls Tryz.prog 5 #[.string nm, winV a n cap F T N, .slice aa k ac] w (OptRet (some c) w) := by
  have hp0 : ((p : Int) == 0) = false := by simp; omega
  have hlt : decide (n < p) = false := decide_eq_false (by omega)
  have HS : Hid (∀ w1, Below w.heap.size w w1 → Calls Tryz.prog 16 #[winV a n cap F T N] w1 (BoolB true w1)) := fun w1 hb => by rw [← hs]; exact rsound_any a n cap ss F T N w1 (hr.below hb) hn
  have HLEN := Lib.hid (xsOf_len hr.1)
  have HR := Lib.hid hr
  have HN := Lib.hid hn
  clear hp hr hn hs hge
  have ST0 := Lib.hid (winSt_made w a n cap F T N)
  unfold LeastT at HL
  go_enter Tryz.func5, Tryz.ntmps5
  go_wp2_with (first | (go_at_call 15; ((with_reducible refine (HL.out _).mono ?_); rintro e w1 ⟨rfl, rfl⟩)) | (go_at_call 16; ((with_reducible refine (HS.out _ ST0.out.bel).mono ?_); rintro e w3 ⟨rfl, b3⟩; have ST3 := Lib.hid (ST0.out.below b3); clear b3; obtain ⟨cw0, cw1, cw2, cw3⟩ := ST3.out.cells)) | (go_at_call 17; ((with_reducible refine (values_any _ n cap ss F T N _ (HR.out.below ST3.out.bel) HN.out).mono ?_); intro e w4 hvals; obtain ⟨la, lc, rfl, hok, hrow, b4⟩ := vals_row hvals HLEN.out; have ST4 := Lib.hid (ST3.out.below b4); have HOK := Lib.hid hok; have HRW := Lib.hid hrow; clear hvals b4 hok hrow cw0 cw1 cw2 cw3; obtain ⟨cv0, cv1, cv2, cv3⟩ := ST4.out.cells)) | (go_at_call 21; ((with_reducible refine (HP.out _ _ _ ST4.out.bel HRW.out HOK.out).mono ?_); rintro e w5 ⟨r, rfl, hr5, b5⟩)))
  go_ret2
  exact ⟨r, rfl, hr5, ST4.out.bel.trans (b5.mono ST4.out.bel.size)⟩

set_option maxHeartbeats 4000000 in
set_option maxRecDepth 100000 in
theorem rc_rate (p k : Nat) (o : Option Nat) (HL : Hid (LeastT ⟨#[114, 97, 116, 101]⟩ p k)) (hp : 0 < p) (a : Option Addr) (n cap : Nat) (ss : List Smp) (F T N : Int) (aa : Option Addr) (ac : Nat) (w : World) (hge : p ≤ n) (hr : SRow w a n ss) (hn : n < 17592186044416) (hs : sndB F T N ss n = true) (ho : extO ss n F T N true true = o) :
    Calls Tryz.prog 5 #[.string ⟨#[114, 97, 116, 101]⟩, winV a n cap F T N, .slice aa k ac] w (OptRet o w) := by
  have HE : Hid (∀ w1, Below w.heap.size w w1 → Calls Tryz.prog 18 #[winV a n cap F T N, .bool true, .bool true] w1 (OptRet o w1)) := fun w1 hb => by rw [← ho]; exact rext_any a n cap ss F T N true true w1 (hr.below hb) hn
  clear ho
  have hp0 : ((p : Int) == 0) = false := by simp; omega
  have hlt : decide (n < p) = false := decide_eq_false (by omega)
  have HS : Hid (∀ w1, Below w.heap.size w w1 → Calls Tryz.prog 16 #[winV a n cap F T N] w1 (BoolB true w1)) := fun w1 hb => by rw [← hs]; exact rsound_any a n cap ss F T N w1 (hr.below hb) hn
  have HLEN := Lib.hid (xsOf_len hr.1)
  have HR := Lib.hid hr
  have HN := Lib.hid hn
  clear hp hr hn hs hge
  have ST0 := Lib.hid (winSt_made w a n cap F T N)
  unfold LeastT at HL
  go_enter Tryz.func5, Tryz.ntmps5
  cases o with
  | none =>
    go_wp2_with (first | (go_at_call 15; ((with_reducible refine (HL.out _).mono ?_); rintro e w1 ⟨rfl, rfl⟩)) | (go_at_call 16; ((with_reducible refine (HS.out _ ST0.out.bel).mono ?_); rintro e w3 ⟨rfl, b3⟩; have ST3 := Lib.hid (ST0.out.below b3); clear b3; obtain ⟨cw0, cw1, cw2, cw3⟩ := ST3.out.cells)) | (go_at_call 17; ((with_reducible refine (values_any _ n cap ss F T N _ (HR.out.below ST3.out.bel) HN.out).mono ?_); intro e w4 hvals; obtain ⟨la, lc, rfl, hok, hrow, b4⟩ := vals_row hvals HLEN.out; have ST4 := Lib.hid (ST3.out.below b4); have HOK := Lib.hid hok; have HRW := Lib.hid hrow; clear hvals b4 hok hrow cw0 cw1 cw2 cw3; obtain ⟨cv0, cv1, cv2, cv3⟩ := ST4.out.cells)) | (go_at_call 18; ((with_reducible refine (HE.out _ ST4.out.bel).mono ?_); rintro e w5 ⟨rfl, b5⟩)))
    go_ret2
    exact ⟨rfl, ST4.out.bel.trans (b5.mono ST4.out.bel.size)⟩
  | some c =>
    go_wp2_with (first | (go_at_call 15; ((with_reducible refine (HL.out _).mono ?_); rintro e w1 ⟨rfl, rfl⟩)) | (go_at_call 16; ((with_reducible refine (HS.out _ ST0.out.bel).mono ?_); rintro e w3 ⟨rfl, b3⟩; have ST3 := Lib.hid (ST0.out.below b3); clear b3; obtain ⟨cw0, cw1, cw2, cw3⟩ := ST3.out.cells)) | (go_at_call 17; ((with_reducible refine (values_any _ n cap ss F T N _ (HR.out.below ST3.out.bel) HN.out).mono ?_); intro e w4 hvals; obtain ⟨la, lc, rfl, hok, hrow, b4⟩ := vals_row hvals HLEN.out; have ST4 := Lib.hid (ST3.out.below b4); have HOK := Lib.hid hok; have HRW := Lib.hid hrow; clear hvals b4 hok hrow cw0 cw1 cw2 cw3; obtain ⟨cv0, cv1, cv2, cv3⟩ := ST4.out.cells)) | (go_at_call 18; ((with_reducible refine (HE.out _ ST4.out.bel).mono ?_); rintro e w5 ⟨r, rfl, hr5, b5⟩)))
    go_ret2
    exact ⟨r, rfl, hr5, ST4.out.bel.trans (b5.mono ST4.out.bel.size)⟩

set_option maxHeartbeats 4000000 in
set_option maxRecDepth 100000 in
theorem rc_increase (p k : Nat) (o : Option Nat) (HL : Hid (LeastT ⟨#[105, 110, 99, 114, 101, 97, 115, 101]⟩ p k)) (hp : 0 < p) (a : Option Addr) (n cap : Nat) (ss : List Smp) (F T N : Int) (aa : Option Addr) (ac : Nat) (w : World) (hge : p ≤ n) (hr : SRow w a n ss) (hn : n < 17592186044416) (hs : sndB F T N ss n = true) (ho : extO ss n F T N true false = o) :
    Calls Tryz.prog 5 #[.string ⟨#[105, 110, 99, 114, 101, 97, 115, 101]⟩, winV a n cap F T N, .slice aa k ac] w (OptRet o w) := by
  have HE : Hid (∀ w1, Below w.heap.size w w1 → Calls Tryz.prog 18 #[winV a n cap F T N, .bool true, .bool false] w1 (OptRet o w1)) := fun w1 hb => by rw [← ho]; exact rext_any a n cap ss F T N true false w1 (hr.below hb) hn
  clear ho
  have hp0 : ((p : Int) == 0) = false := by simp; omega
  have hlt : decide (n < p) = false := decide_eq_false (by omega)
  have HS : Hid (∀ w1, Below w.heap.size w w1 → Calls Tryz.prog 16 #[winV a n cap F T N] w1 (BoolB true w1)) := fun w1 hb => by rw [← hs]; exact rsound_any a n cap ss F T N w1 (hr.below hb) hn
  have HLEN := Lib.hid (xsOf_len hr.1)
  have HR := Lib.hid hr
  have HN := Lib.hid hn
  clear hp hr hn hs hge
  have ST0 := Lib.hid (winSt_made w a n cap F T N)
  unfold LeastT at HL
  go_enter Tryz.func5, Tryz.ntmps5
  cases o with
  | none =>
    go_wp2_with (first | (go_at_call 15; ((with_reducible refine (HL.out _).mono ?_); rintro e w1 ⟨rfl, rfl⟩)) | (go_at_call 16; ((with_reducible refine (HS.out _ ST0.out.bel).mono ?_); rintro e w3 ⟨rfl, b3⟩; have ST3 := Lib.hid (ST0.out.below b3); clear b3; obtain ⟨cw0, cw1, cw2, cw3⟩ := ST3.out.cells)) | (go_at_call 17; ((with_reducible refine (values_any _ n cap ss F T N _ (HR.out.below ST3.out.bel) HN.out).mono ?_); intro e w4 hvals; obtain ⟨la, lc, rfl, hok, hrow, b4⟩ := vals_row hvals HLEN.out; have ST4 := Lib.hid (ST3.out.below b4); have HOK := Lib.hid hok; have HRW := Lib.hid hrow; clear hvals b4 hok hrow cw0 cw1 cw2 cw3; obtain ⟨cv0, cv1, cv2, cv3⟩ := ST4.out.cells)) | (go_at_call 18; ((with_reducible refine (HE.out _ ST4.out.bel).mono ?_); rintro e w5 ⟨rfl, b5⟩)))
    go_ret2
    exact ⟨rfl, ST4.out.bel.trans (b5.mono ST4.out.bel.size)⟩
  | some c =>
    go_wp2_with (first | (go_at_call 15; ((with_reducible refine (HL.out _).mono ?_); rintro e w1 ⟨rfl, rfl⟩)) | (go_at_call 16; ((with_reducible refine (HS.out _ ST0.out.bel).mono ?_); rintro e w3 ⟨rfl, b3⟩; have ST3 := Lib.hid (ST0.out.below b3); clear b3; obtain ⟨cw0, cw1, cw2, cw3⟩ := ST3.out.cells)) | (go_at_call 17; ((with_reducible refine (values_any _ n cap ss F T N _ (HR.out.below ST3.out.bel) HN.out).mono ?_); intro e w4 hvals; obtain ⟨la, lc, rfl, hok, hrow, b4⟩ := vals_row hvals HLEN.out; have ST4 := Lib.hid (ST3.out.below b4); have HOK := Lib.hid hok; have HRW := Lib.hid hrow; clear hvals b4 hok hrow cw0 cw1 cw2 cw3; obtain ⟨cv0, cv1, cv2, cv3⟩ := ST4.out.cells)) | (go_at_call 18; ((with_reducible refine (HE.out _ ST4.out.bel).mono ?_); rintro e w5 ⟨r, rfl, hr5, b5⟩)))
    go_ret2
    exact ⟨r, rfl, hr5, ST4.out.bel.trans (b5.mono ST4.out.bel.size)⟩

set_option maxHeartbeats 4000000 in
set_option maxRecDepth 100000 in
theorem rc_delta (p k : Nat) (o : Option Nat) (HL : Hid (LeastT ⟨#[100, 101, 108, 116, 97]⟩ p k)) (hp : 0 < p) (a : Option Addr) (n cap : Nat) (ss : List Smp) (F T N : Int) (aa : Option Addr) (ac : Nat) (w : World) (hge : p ≤ n) (hr : SRow w a n ss) (hn : n < 17592186044416) (hs : sndB F T N ss n = true) (ho : extO ss n F T N false false = o) :
    Calls Tryz.prog 5 #[.string ⟨#[100, 101, 108, 116, 97]⟩, winV a n cap F T N, .slice aa k ac] w (OptRet o w) := by
  have HE : Hid (∀ w1, Below w.heap.size w w1 → Calls Tryz.prog 18 #[winV a n cap F T N, .bool false, .bool false] w1 (OptRet o w1)) := fun w1 hb => by rw [← ho]; exact rext_any a n cap ss F T N false false w1 (hr.below hb) hn
  clear ho
  have hp0 : ((p : Int) == 0) = false := by simp; omega
  have hlt : decide (n < p) = false := decide_eq_false (by omega)
  have HS : Hid (∀ w1, Below w.heap.size w w1 → Calls Tryz.prog 16 #[winV a n cap F T N] w1 (BoolB true w1)) := fun w1 hb => by rw [← hs]; exact rsound_any a n cap ss F T N w1 (hr.below hb) hn
  have HLEN := Lib.hid (xsOf_len hr.1)
  have HR := Lib.hid hr
  have HN := Lib.hid hn
  clear hp hr hn hs hge
  have ST0 := Lib.hid (winSt_made w a n cap F T N)
  unfold LeastT at HL
  go_enter Tryz.func5, Tryz.ntmps5
  cases o with
  | none =>
    go_wp2_with (first | (go_at_call 15; ((with_reducible refine (HL.out _).mono ?_); rintro e w1 ⟨rfl, rfl⟩)) | (go_at_call 16; ((with_reducible refine (HS.out _ ST0.out.bel).mono ?_); rintro e w3 ⟨rfl, b3⟩; have ST3 := Lib.hid (ST0.out.below b3); clear b3; obtain ⟨cw0, cw1, cw2, cw3⟩ := ST3.out.cells)) | (go_at_call 17; ((with_reducible refine (values_any _ n cap ss F T N _ (HR.out.below ST3.out.bel) HN.out).mono ?_); intro e w4 hvals; obtain ⟨la, lc, rfl, hok, hrow, b4⟩ := vals_row hvals HLEN.out; have ST4 := Lib.hid (ST3.out.below b4); have HOK := Lib.hid hok; have HRW := Lib.hid hrow; clear hvals b4 hok hrow cw0 cw1 cw2 cw3; obtain ⟨cv0, cv1, cv2, cv3⟩ := ST4.out.cells)) | (go_at_call 18; ((with_reducible refine (HE.out _ ST4.out.bel).mono ?_); rintro e w5 ⟨rfl, b5⟩)))
    go_ret2
    exact ⟨rfl, ST4.out.bel.trans (b5.mono ST4.out.bel.size)⟩
  | some c =>
    go_wp2_with (first | (go_at_call 15; ((with_reducible refine (HL.out _).mono ?_); rintro e w1 ⟨rfl, rfl⟩)) | (go_at_call 16; ((with_reducible refine (HS.out _ ST0.out.bel).mono ?_); rintro e w3 ⟨rfl, b3⟩; have ST3 := Lib.hid (ST0.out.below b3); clear b3; obtain ⟨cw0, cw1, cw2, cw3⟩ := ST3.out.cells)) | (go_at_call 17; ((with_reducible refine (values_any _ n cap ss F T N _ (HR.out.below ST3.out.bel) HN.out).mono ?_); intro e w4 hvals; obtain ⟨la, lc, rfl, hok, hrow, b4⟩ := vals_row hvals HLEN.out; have ST4 := Lib.hid (ST3.out.below b4); have HOK := Lib.hid hok; have HRW := Lib.hid hrow; clear hvals b4 hok hrow cw0 cw1 cw2 cw3; obtain ⟨cv0, cv1, cv2, cv3⟩ := ST4.out.cells)) | (go_at_call 18; ((with_reducible refine (HE.out _ ST4.out.bel).mono ?_); rintro e w5 ⟨r, rfl, hr5, b5⟩)))
    go_ret2
    exact ⟨r, rfl, hr5, ST4.out.bel.trans (b5.mono ST4.out.bel.size)⟩

set_option maxHeartbeats 4000000 in
set_option maxRecDepth 100000 in
theorem rc_irate (p k : Nat) (o : Option Nat) (HL : Hid (LeastT ⟨#[105, 114, 97, 116, 101]⟩ p k)) (hp : 0 < p) (a : Option Addr) (n cap : Nat) (ss : List Smp) (F T N : Int) (aa : Option Addr) (ac : Nat) (w : World) (hge : p ≤ n) (hr : SRow w a n ss) (hn : n < 17592186044416) (hs : sndB F T N ss n = true) (ho : instO ss n F T N true = o) :
    Calls Tryz.prog 5 #[.string ⟨#[105, 114, 97, 116, 101]⟩, winV a n cap F T N, .slice aa k ac] w (OptRet o w) := by
  have HE : Hid (∀ w1, Below w.heap.size w w1 → Calls Tryz.prog 19 #[winV a n cap F T N, .bool true] w1 (OptRet o w1)) := fun w1 hb => by rw [← ho]; exact rinst_any a n cap ss F T N true w1 (hr.below hb) hn
  clear ho
  have hp0 : ((p : Int) == 0) = false := by simp; omega
  have hlt : decide (n < p) = false := decide_eq_false (by omega)
  have HS : Hid (∀ w1, Below w.heap.size w w1 → Calls Tryz.prog 16 #[winV a n cap F T N] w1 (BoolB true w1)) := fun w1 hb => by rw [← hs]; exact rsound_any a n cap ss F T N w1 (hr.below hb) hn
  have HLEN := Lib.hid (xsOf_len hr.1)
  have HR := Lib.hid hr
  have HN := Lib.hid hn
  clear hp hr hn hs hge
  have ST0 := Lib.hid (winSt_made w a n cap F T N)
  unfold LeastT at HL
  go_enter Tryz.func5, Tryz.ntmps5
  cases o with
  | none =>
    go_wp2_with (first | (go_at_call 15; ((with_reducible refine (HL.out _).mono ?_); rintro e w1 ⟨rfl, rfl⟩)) | (go_at_call 16; ((with_reducible refine (HS.out _ ST0.out.bel).mono ?_); rintro e w3 ⟨rfl, b3⟩; have ST3 := Lib.hid (ST0.out.below b3); clear b3; obtain ⟨cw0, cw1, cw2, cw3⟩ := ST3.out.cells)) | (go_at_call 17; ((with_reducible refine (values_any _ n cap ss F T N _ (HR.out.below ST3.out.bel) HN.out).mono ?_); intro e w4 hvals; obtain ⟨la, lc, rfl, hok, hrow, b4⟩ := vals_row hvals HLEN.out; have ST4 := Lib.hid (ST3.out.below b4); have HOK := Lib.hid hok; have HRW := Lib.hid hrow; clear hvals b4 hok hrow cw0 cw1 cw2 cw3; obtain ⟨cv0, cv1, cv2, cv3⟩ := ST4.out.cells)) | (go_at_call 19; ((with_reducible refine (HE.out _ ST4.out.bel).mono ?_); rintro e w5 ⟨rfl, b5⟩)))
    go_ret2
    exact ⟨rfl, ST4.out.bel.trans (b5.mono ST4.out.bel.size)⟩
  | some c =>
    go_wp2_with (first | (go_at_call 15; ((with_reducible refine (HL.out _).mono ?_); rintro e w1 ⟨rfl, rfl⟩)) | (go_at_call 16; ((with_reducible refine (HS.out _ ST0.out.bel).mono ?_); rintro e w3 ⟨rfl, b3⟩; have ST3 := Lib.hid (ST0.out.below b3); clear b3; obtain ⟨cw0, cw1, cw2, cw3⟩ := ST3.out.cells)) | (go_at_call 17; ((with_reducible refine (values_any _ n cap ss F T N _ (HR.out.below ST3.out.bel) HN.out).mono ?_); intro e w4 hvals; obtain ⟨la, lc, rfl, hok, hrow, b4⟩ := vals_row hvals HLEN.out; have ST4 := Lib.hid (ST3.out.below b4); have HOK := Lib.hid hok; have HRW := Lib.hid hrow; clear hvals b4 hok hrow cw0 cw1 cw2 cw3; obtain ⟨cv0, cv1, cv2, cv3⟩ := ST4.out.cells)) | (go_at_call 19; ((with_reducible refine (HE.out _ ST4.out.bel).mono ?_); rintro e w5 ⟨r, rfl, hr5, b5⟩)))
    go_ret2
    exact ⟨r, rfl, hr5, ST4.out.bel.trans (b5.mono ST4.out.bel.size)⟩

set_option maxHeartbeats 4000000 in
set_option maxRecDepth 100000 in
theorem rc_idelta (p k : Nat) (o : Option Nat) (HL : Hid (LeastT ⟨#[105, 100, 101, 108, 116, 97]⟩ p k)) (hp : 0 < p) (a : Option Addr) (n cap : Nat) (ss : List Smp) (F T N : Int) (aa : Option Addr) (ac : Nat) (w : World) (hge : p ≤ n) (hr : SRow w a n ss) (hn : n < 17592186044416) (hs : sndB F T N ss n = true) (ho : instO ss n F T N false = o) :
    Calls Tryz.prog 5 #[.string ⟨#[105, 100, 101, 108, 116, 97]⟩, winV a n cap F T N, .slice aa k ac] w (OptRet o w) := by
  have HE : Hid (∀ w1, Below w.heap.size w w1 → Calls Tryz.prog 19 #[winV a n cap F T N, .bool false] w1 (OptRet o w1)) := fun w1 hb => by rw [← ho]; exact rinst_any a n cap ss F T N false w1 (hr.below hb) hn
  clear ho
  have hp0 : ((p : Int) == 0) = false := by simp; omega
  have hlt : decide (n < p) = false := decide_eq_false (by omega)
  have HS : Hid (∀ w1, Below w.heap.size w w1 → Calls Tryz.prog 16 #[winV a n cap F T N] w1 (BoolB true w1)) := fun w1 hb => by rw [← hs]; exact rsound_any a n cap ss F T N w1 (hr.below hb) hn
  have HLEN := Lib.hid (xsOf_len hr.1)
  have HR := Lib.hid hr
  have HN := Lib.hid hn
  clear hp hr hn hs hge
  have ST0 := Lib.hid (winSt_made w a n cap F T N)
  unfold LeastT at HL
  go_enter Tryz.func5, Tryz.ntmps5
  cases o with
  | none =>
    go_wp2_with (first | (go_at_call 15; ((with_reducible refine (HL.out _).mono ?_); rintro e w1 ⟨rfl, rfl⟩)) | (go_at_call 16; ((with_reducible refine (HS.out _ ST0.out.bel).mono ?_); rintro e w3 ⟨rfl, b3⟩; have ST3 := Lib.hid (ST0.out.below b3); clear b3; obtain ⟨cw0, cw1, cw2, cw3⟩ := ST3.out.cells)) | (go_at_call 17; ((with_reducible refine (values_any _ n cap ss F T N _ (HR.out.below ST3.out.bel) HN.out).mono ?_); intro e w4 hvals; obtain ⟨la, lc, rfl, hok, hrow, b4⟩ := vals_row hvals HLEN.out; have ST4 := Lib.hid (ST3.out.below b4); have HOK := Lib.hid hok; have HRW := Lib.hid hrow; clear hvals b4 hok hrow cw0 cw1 cw2 cw3; obtain ⟨cv0, cv1, cv2, cv3⟩ := ST4.out.cells)) | (go_at_call 19; ((with_reducible refine (HE.out _ ST4.out.bel).mono ?_); rintro e w5 ⟨rfl, b5⟩)))
    go_ret2
    exact ⟨rfl, ST4.out.bel.trans (b5.mono ST4.out.bel.size)⟩
  | some c =>
    go_wp2_with (first | (go_at_call 15; ((with_reducible refine (HL.out _).mono ?_); rintro e w1 ⟨rfl, rfl⟩)) | (go_at_call 16; ((with_reducible refine (HS.out _ ST0.out.bel).mono ?_); rintro e w3 ⟨rfl, b3⟩; have ST3 := Lib.hid (ST0.out.below b3); clear b3; obtain ⟨cw0, cw1, cw2, cw3⟩ := ST3.out.cells)) | (go_at_call 17; ((with_reducible refine (values_any _ n cap ss F T N _ (HR.out.below ST3.out.bel) HN.out).mono ?_); intro e w4 hvals; obtain ⟨la, lc, rfl, hok, hrow, b4⟩ := vals_row hvals HLEN.out; have ST4 := Lib.hid (ST3.out.below b4); have HOK := Lib.hid hok; have HRW := Lib.hid hrow; clear hvals b4 hok hrow cw0 cw1 cw2 cw3; obtain ⟨cv0, cv1, cv2, cv3⟩ := ST4.out.cells)) | (go_at_call 19; ((with_reducible refine (HE.out _ ST4.out.bel).mono ?_); rintro e w5 ⟨r, rfl, hr5, b5⟩)))
    go_ret2
    exact ⟨r, rfl, hr5, ST4.out.bel.trans (b5.mono ST4.out.bel.size)⟩

set_option maxHeartbeats 4000000 in
set_option maxRecDepth 100000 in
theorem rc_deriv (p k : Nat) (HL : Hid (LeastT ⟨#[100, 101, 114, 105, 118]⟩ p k)) (hp : 0 < p) (a : Option Addr) (n cap : Nat) (ss : List Smp) (F T N : Int) (aa : Option Addr) (ac : Nat) (w : World) (hge : p ≤ n) (hr : SRow w a n ss) (hn : n < 17592186044416) (hs : sndB F T N ss n = true) (pb po : Nat) (z : Int) (ha : a = some ⟨pb, po, none⟩) (h0 : 0 < n) (hcell : w.cell? ⟨pb, po, none⟩ = some (.int .i64 z)) :
    Calls Tryz.prog 5 #[.string ⟨#[100, 101, 114, 105, 118]⟩, winV a n cap F T N, .slice aa k ac] w (OptRet (some (lineS (tcs z ss) (vcs ss)).1) w) := by
  subst ha
  have HPT : Hid (∀ w1, Below w.heap.size w w1 → w1.cell? ⟨pb, po, none⟩ = some (.int .i64 z)) := fun w1 hb => cell_stay hcell hb
  have hp1 : (0 : Int) < (n : Int) := by omega
  clear hcell
  have hp0 : ((p : Int) == 0) = false := by simp; omega
  have hlt : decide (n < p) = false := decide_eq_false (by omega)
  have HS : Hid (∀ w1, Below w.heap.size w w1 → Calls Tryz.prog 16 #[winV (some ⟨pb, po, none⟩) n cap F T N] w1 (BoolB true w1)) := fun w1 hb => by rw [← hs]; exact rsound_any _ n cap ss F T N w1 (hr.below hb) hn
  have HLEN := Lib.hid (xsOf_len hr.1)
  have HR := Lib.hid hr
  have HN := Lib.hid hn
  clear hp hr hn hs hge
  have ST0 := Lib.hid (winSt_made w (some ⟨pb, po, none⟩) n cap F T N)
  unfold LeastT at HL
  go_enter Tryz.func5, Tryz.ntmps5
  go_wp2_with (first | (go_at_call 15; ((with_reducible refine (HL.out _).mono ?_); rintro e w1 ⟨rfl, rfl⟩)) | (go_at_call 16; ((with_reducible refine (HS.out _ ST0.out.bel).mono ?_); rintro e w3 ⟨rfl, b3⟩; have ST3 := Lib.hid (ST0.out.below b3); clear b3; obtain ⟨cw0, cw1, cw2, cw3⟩ := ST3.out.cells)) | (go_at_call 17; ((with_reducible refine (values_any _ n cap ss F T N _ (HR.out.below ST3.out.bel) HN.out).mono ?_); intro e w4 hvals; obtain ⟨la, lc, rfl, hok, hrow, b4⟩ := vals_row hvals HLEN.out; have ST4 := Lib.hid (ST3.out.below b4); have HOK := Lib.hid hok; have HRW := Lib.hid hrow; clear hvals b4 hok hrow cw0 cw1 cw2 cw3; obtain ⟨cv0, cv1, cv2, cv3⟩ := ST4.out.cells)))
  have HWin : Hid (∀ w1, Below w4.heap.size w4 w1 → w1.cell? ⟨w.heap.size, 0, none⟩ = some (.slice (some ⟨pb, po, none⟩) n cap)) := fun w1 hb => (ST4.out.below hb).cells.1
  have HPt : Hid (∀ w1, Below w4.heap.size w4 w1 → w1.cell? ⟨pb, po, none⟩ = some (.int .i64 z)) := fun w1 hb => HPT.out w1 (ST4.out.below hb).bel
  refine wp_region_rel (fun wd => Below w4.heap.size w4 wd) (fun _ _ v => ∃ r q, v = .tuple #[.float .f64 r, .float .f64 q] ∧ cn r = (lineS (tcs z ss) (vcs ss)).1 ∧ cn q = (lineS (tcs z ss) (vcs ss)).2) (by kernel_rfl) (by kernel_rfl) ((Below.refl _ _).drew) ?_
  refine wpRel_run w4 (Below.refl _ _) (.pointer (some ⟨w.heap.size, 0, none⟩)) rfl rfl (fun wd hb => by simp [go_sem, Act.eval]) ?_; go_big_quiet_step (fail); refine wpQuiet_nil ?_
  refine wpRel_run w4 (Below.refl _ _) (.slice (some ⟨pb, po, none⟩) n cap) rfl rfl (fun wd hb => by have := HWin.out wd hb; simp [go_sem, Act.eval, this]) ?_; go_big_quiet_step (fail); refine wpQuiet_nil ?_
  refine wpRel_run w4 (Below.refl _ _) (.pointer (some ⟨w.heap.size, 0, none⟩)) rfl rfl (fun wd hb => by simp [go_sem, Act.eval]) ?_; go_big_quiet_step (fail); refine wpQuiet_nil ?_
  refine wpRel_run w4 (Below.refl _ _) (.slice (some ⟨pb, po, none⟩) n cap) rfl rfl (fun wd hb => by have := HWin.out wd hb; simp [go_sem, Act.eval, this]) ?_; go_big_quiet_step (fail); refine wpQuiet_nil ?_
  refine wpRel_run w4 (Below.refl _ _) (.pointer (some ⟨pb, po, none⟩)) rfl rfl (fun wd hb => by simp [go_sem, Act.eval, h0]) ?_; go_big_quiet_step (fail); refine wpQuiet_nil ?_
  refine wpRel_run w4 (Below.refl _ _) (.pointer (some ⟨pb, po, none⟩)) rfl rfl (fun wd hb => by simp [go_sem, Act.eval]) ?_; go_big_quiet_step (fail); refine wpQuiet_nil ?_
  refine wpRel_run w4 (Below.refl _ _) (.int .i64 z) rfl rfl (fun wd hb => by have := HPt.out wd hb; simp [go_sem, Act.eval, this]) ?_; go_big_quiet_step (fail); refine wpQuiet_nil ?_
  refine wpRel_call 20 Tryz.f20 _ _ #[.slice (some ⟨pb, po, none⟩) n cap, .int .i64 z] rfl Tryz.func20 (by kernel_rfl) (by kernel_rfl) (by simp only [List.map_toArray, List.map]; rfl) (fun wd hd => ?_) ?_
  · refine (refline_any _ n cap ss z wd (HR.out.below (ST4.out.below hd).bel) HN.out).mono ?_
    rintro e w2 ⟨r, q, rfl, hr, hq, b2⟩
    exact ⟨_, rfl, ⟨r, q, rfl, hr, hq⟩, hd.trans (b2.mono hd.size)⟩
  rintro v ⟨r, q, rfl, hr, hq⟩
  have HRR := Lib.hid hr
  clear hr hq
  go_big_quiet_step (fail)
  refine wpQuiet_nil ?_
  refine wpRel_quiet rfl ?_; go_big_quiet_step (fail); refine wpQuiet_nil ?_
  refine wpRel_run w4 (Below.refl _ _) (.float .f64 r) rfl rfl (fun wd hb => by simp [go_sem, Act.eval]) ?_; go_big_quiet_step (fail); refine wpQuiet_nil ?_
  refine wpRel_run w4 (Below.refl _ _) (.float .f64 q) rfl rfl (fun wd hb => by simp [go_sem, Act.eval]) ?_; go_big_quiet_step (fail); refine wpQuiet_nil ?_
  refine wpRel_quiet rfl ?_; go_big_quiet_step (fail); refine wpQuiet_nil ?_
  refine wpRel_quiet rfl ?_; go_big_quiet_step (fail); refine wpQuiet_nil ?_
  refine wpRel_nil ?_
  intro wz hz
  go_wp2_with fail
  go_ret2
  exact ⟨r, rfl, HRR.out, (ST4.out.below hz).bel⟩

set_option maxHeartbeats 4000000 in
set_option maxRecDepth 100000 in
theorem rc_predict (p k : Nat) (HL : Hid (LeastT ⟨#[112, 114, 101, 100, 105, 99, 116, 95, 108, 105, 110, 101, 97, 114]⟩ p k)) (hp : 0 < p) (a : Option Addr) (n cap : Nat) (ss : List Smp) (F T N : Int) (aa : Option Addr) (ac : Nat) (w : World) (hge : p ≤ n) (hr : SRow w a n ss) (hn : n < 17592186044416) (hs : sndB F T N ss n = true) (ab ao q : Nat) (haa : aa = some ⟨ab, ao, none⟩) (hk : 0 < k) (hcell : w.cell? ⟨ab, ao, none⟩ = some (.float .f64 q)) :
    Calls Tryz.prog 5 #[.string ⟨#[112, 114, 101, 100, 105, 99, 116, 95, 108, 105, 110, 101, 97, 114]⟩, winV a n cap F T N, .slice aa k ac] w (OptRet (some (fadd (lineS (tcs N ss) (vcs ss)).2 (fmul (lineS (tcs N ss) (vcs ss)).1 (cn q)))) w) := by
  subst haa
  have HPT : Hid (∀ w1, Below w.heap.size w w1 → w1.cell? ⟨ab, ao, none⟩ = some (.float .f64 q)) := fun w1 hb => cell_stay hcell hb
  have hk1 : (0 : Int) < (k : Int) := by omega
  clear hcell
  have hp0 : ((p : Int) == 0) = false := by simp; omega
  have hlt : decide (n < p) = false := decide_eq_false (by omega)
  have HS : Hid (∀ w1, Below w.heap.size w w1 → Calls Tryz.prog 16 #[winV a n cap F T N] w1 (BoolB true w1)) := fun w1 hb => by rw [← hs]; exact rsound_any a n cap ss F T N w1 (hr.below hb) hn
  have HLEN := Lib.hid (xsOf_len hr.1)
  have HR := Lib.hid hr
  have HN := Lib.hid hn
  clear hp hr hn hs hge
  have ST0 := Lib.hid (winSt_made w a n cap F T N)
  unfold LeastT at HL
  go_enter Tryz.func5, Tryz.ntmps5
  go_wp2_with (first | (go_at_call 15; ((with_reducible refine (HL.out _).mono ?_); rintro e w1 ⟨rfl, rfl⟩)) | (go_at_call 16; ((with_reducible refine (HS.out _ ST0.out.bel).mono ?_); rintro e w3 ⟨rfl, b3⟩; have ST3 := Lib.hid (ST0.out.below b3); clear b3; obtain ⟨cw0, cw1, cw2, cw3⟩ := ST3.out.cells)) | (go_at_call 17; ((with_reducible refine (values_any _ n cap ss F T N _ (HR.out.below ST3.out.bel) HN.out).mono ?_); intro e w4 hvals; obtain ⟨la, lc, rfl, hok, hrow, b4⟩ := vals_row hvals HLEN.out; have ST4 := Lib.hid (ST3.out.below b4); have HOK := Lib.hid hok; have HRW := Lib.hid hrow; clear hvals b4 hok hrow cw0 cw1 cw2 cw3; obtain ⟨cv0, cv1, cv2, cv3⟩ := ST4.out.cells)) | (go_at_call 20; ((with_reducible refine (refline_any _ n cap ss N _ (HR.out.below ST4.out.bel) HN.out).mono ?_); rintro e w5 ⟨r, s, rfl, hr, hs, b5⟩; have hc3 := HPT.out w5 (ST4.out.below b5).bel; have B5 := Lib.hid (ST4.out.below b5).bel; clear b5)) | (refine wpList_fop _ _ _ _ _ _ _ rfl rfl rfl ?_; intro r1 n1 hr1))
  rename_i r0 n0 hr0
  have B5' := B5.out
  go_ret2
  refine ⟨r1, rfl, ?_, ((B5'.drewN' n0).drewN' n1)⟩
  rw [hr1, hs, hr0, hr]; rfl

theorem pts_pos (m : Nm) : 0 < m.pts := by cases m <;> decide

set_option maxHeartbeats 4000000 in
set_option maxRecDepth 100000 in
/-- weirref20.Call at any of the names. -/
theorem rcall_nm (m : Nm) (a : Option Addr) (n cap : Nat) (ss : List Smp) (F T N : Int) (aa : Option Addr) (an ac : Nat) (xs : List Nat) (w : World) (hr : SRow w a n ss) (H64 : ∀ s ∈ ss, W64 s.v) (hn : n < 17592186044416) (ha : Row w aa an xs) :
    Calls Tryz.prog 5 #[.string m.str, winV a n cap F T N, .slice aa an ac] w (OptRet (callO m ss n F T N an (xs.map cn)) w) := by
  refine rcall_all m.str m.pts m.nums (least_nm m) (pts_pos m) a n cap ss F T N aa an ac _ w hr hn ?_
  intro hk hp hs
  have hx : ∀ x ∈ xsOf ss, W64 x := fun x hx => by
    obtain ⟨s, h1, rfl⟩ := List.mem_map.1 hx
    exact H64 s h1
  have hL := Lib.hid (least_nm m)
  have h0 : 0 < n := Nat.lt_of_lt_of_le (pts_pos m) hp
  cases m
  ·
    subst hk
    exact rcall_plain _ _ _ _ hL (by decide) a n cap ss F T N _ ac w hp hr hn hs (by kernel_rfl) (by kernel_rfl) (by kernel_rfl) (by kernel_rfl) (by kernel_rfl) (by kernel_rfl) (by kernel_rfl) (fun la lc w1 hb h1 h2 => rplain_count a n cap ss F T N la lc _ _ ac w1 h0 hn h1 h2 hx)
  ·
    subst hk
    exact rcall_plain _ _ _ _ hL (by decide) a n cap ss F T N _ ac w hp hr hn hs (by kernel_rfl) (by kernel_rfl) (by kernel_rfl) (by kernel_rfl) (by kernel_rfl) (by kernel_rfl) (by kernel_rfl) (fun la lc w1 hb h1 h2 => rplain_present a n cap ss F T N la lc _ _ ac w1 h0 hn h1 h2 hx)
  ·
    subst hk
    exact rcall_plain _ _ _ _ hL (by decide) a n cap ss F T N _ ac w hp hr hn hs (by kernel_rfl) (by kernel_rfl) (by kernel_rfl) (by kernel_rfl) (by kernel_rfl) (by kernel_rfl) (by kernel_rfl) (fun la lc w1 hb h1 h2 => rplain_first a n cap ss F T N la lc _ _ ac w1 h0 hn h1 h2 hx)
  ·
    subst hk
    exact rcall_plain _ _ _ _ hL (by decide) a n cap ss F T N _ ac w hp hr hn hs (by kernel_rfl) (by kernel_rfl) (by kernel_rfl) (by kernel_rfl) (by kernel_rfl) (by kernel_rfl) (by kernel_rfl) (fun la lc w1 hb h1 h2 => rplain_last a n cap ss F T N la lc _ _ ac w1 h0 hn h1 h2 hx)
  ·
    subst hk
    exact rcall_plain _ _ _ _ hL (by decide) a n cap ss F T N _ ac w hp hr hn hs (by kernel_rfl) (by kernel_rfl) (by kernel_rfl) (by kernel_rfl) (by kernel_rfl) (by kernel_rfl) (by kernel_rfl) (fun la lc w1 hb h1 h2 => rplain_sum a n cap ss F T N la lc _ _ ac w1 h0 hn h1 h2 hx)
  ·
    subst hk
    exact rcall_plain _ _ _ _ hL (by decide) a n cap ss F T N _ ac w hp hr hn hs (by kernel_rfl) (by kernel_rfl) (by kernel_rfl) (by kernel_rfl) (by kernel_rfl) (by kernel_rfl) (by kernel_rfl) (fun la lc w1 hb h1 h2 => rplain_avg a n cap ss F T N la lc _ _ ac w1 h0 hn h1 h2 hx)
  ·
    subst hk
    exact rcall_plain _ _ _ _ hL (by decide) a n cap ss F T N _ ac w hp hr hn hs (by kernel_rfl) (by kernel_rfl) (by kernel_rfl) (by kernel_rfl) (by kernel_rfl) (by kernel_rfl) (by kernel_rfl) (fun la lc w1 hb h1 h2 => rplain_stddev a n cap ss F T N la lc _ _ ac w1 h0 hn h1 h2 hx)
  ·
    subst hk
    exact rcall_plain _ _ _ _ hL (by decide) a n cap ss F T N _ ac w hp hr hn hs (by kernel_rfl) (by kernel_rfl) (by kernel_rfl) (by kernel_rfl) (by kernel_rfl) (by kernel_rfl) (by kernel_rfl) (fun la lc w1 hb h1 h2 => rplain_stdvar a n cap ss F T N la lc _ _ ac w1 h0 hn h1 h2 hx)
  ·
    subst hk
    exact rcall_plain _ _ _ _ hL (by decide) a n cap ss F T N _ ac w hp hr hn hs (by kernel_rfl) (by kernel_rfl) (by kernel_rfl) (by kernel_rfl) (by kernel_rfl) (by kernel_rfl) (by kernel_rfl) (fun la lc w1 hb h1 h2 => rplain_max a n cap ss F T N la lc _ _ ac w1 h0 hn h1 h2 hx)
  ·
    subst hk
    exact rcall_plain _ _ _ _ hL (by decide) a n cap ss F T N _ ac w hp hr hn hs (by kernel_rfl) (by kernel_rfl) (by kernel_rfl) (by kernel_rfl) (by kernel_rfl) (by kernel_rfl) (by kernel_rfl) (fun la lc w1 hb h1 h2 => rplain_min a n cap ss F T N la lc _ _ ac w1 h0 hn h1 h2 hx)
  ·
    subst hk
    exact rcall_plain _ _ _ _ hL (by decide) a n cap ss F T N _ ac w hp hr hn hs (by kernel_rfl) (by kernel_rfl) (by kernel_rfl) (by kernel_rfl) (by kernel_rfl) (by kernel_rfl) (by kernel_rfl) (fun la lc w1 hb h1 h2 => rplain_mad a n cap ss F T N la lc _ _ ac w1 h0 hn h1 h2 hx)
  ·
    subst hk
    exact rcall_plain _ _ _ _ hL (by decide) a n cap ss F T N _ ac w hp hr hn hs (by kernel_rfl) (by kernel_rfl) (by kernel_rfl) (by kernel_rfl) (by kernel_rfl) (by kernel_rfl) (by kernel_rfl) (fun la lc w1 hb h1 h2 => rplain_changes a n cap ss F T N la lc _ _ ac w1 h0 hn h1 h2 hx)
  ·
    subst hk
    exact rcall_plain _ _ _ _ hL (by decide) a n cap ss F T N _ ac w hp hr hn hs (by kernel_rfl) (by kernel_rfl) (by kernel_rfl) (by kernel_rfl) (by kernel_rfl) (by kernel_rfl) (by kernel_rfl) (fun la lc w1 hb h1 h2 => rplain_resets a n cap ss F T N la lc _ _ ac w1 h0 hn h1 h2 hx)
  · subst hk; exact rc_rate _ _ _ hL (by decide) a n cap ss F T N aa ac w hp hr hn hs rfl
  · subst hk; exact rc_increase _ _ _ hL (by decide) a n cap ss F T N aa ac w hp hr hn hs rfl
  · subst hk; exact rc_delta _ _ _ hL (by decide) a n cap ss F T N aa ac w hp hr hn hs rfl
  · subst hk; exact rc_irate _ _ _ hL (by decide) a n cap ss F T N aa ac w hp hr hn hs rfl
  · subst hk; exact rc_idelta _ _ _ hL (by decide) a n cap ss F T N aa ac w hp hr hn hs rfl
  · subst hk
    obtain ⟨b, off, rfl, hcell⟩ := hr.2.2.2 h0
    have c0 := (hcell 0 h0).1
    rw [show off + 0 * 3 = off by omega] at c0
    exact rc_deriv _ _ hL (by decide) _ n cap ss F T N aa ac w hp hr hn hs b off _ rfl h0 c0
  ·
    subst hk
    obtain ⟨b, off, rfl, hcell⟩ := ha.2.2 (by decide)
    have c0 := hcell 0 (by decide)
    rw [Nat.add_zero] at c0
    have e0 : at0 (xs.map cn) 0 = cn (at0 xs 0) := at0_map cn xs (by rw [ha.1]; decide)
    show Calls _ _ _ _ (OptRet (some (quantS (at0 (xs.map cn) 0) (vcs ss))) w)
    rw [e0]
    exact rcall_plain _ _ _ _ hL (by decide) a n cap ss F T N _ ac w hp hr hn hs (by kernel_rfl) (by kernel_rfl) (by kernel_rfl) (by kernel_rfl) (by kernel_rfl) (by kernel_rfl) (by kernel_rfl) (fun la lc w1 hb h1 h2 => rplain_quantile a n cap ss F T N la lc _ _ ac w1 h0 hn h1 h2 hx b off _ rfl (by decide) (cell_stay c0 hb))
  · subst hk
    obtain ⟨b, off, rfl, hcell⟩ := ha.2.2 (by decide)
    have c0 := hcell 0 (by decide)
    rw [Nat.add_zero] at c0
    have e0 : at0 (xs.map cn) 0 = cn (at0 xs 0) := at0_map cn xs (by rw [ha.1]; decide)
    show Calls _ _ _ _ (OptRet (some (fadd (lineS (tcs N ss) (vcs ss)).2 (fmul (lineS (tcs N ss) (vcs ss)).1 (at0 (xs.map cn) 0)))) w)
    rw [e0]
    exact rc_predict _ _ hL (by decide) _ n cap ss F T N _ ac w hp hr hn hs b off _ rfl (by decide) c0
  ·
    subst hk
    obtain ⟨b, off, rfl, hcell⟩ := ha.2.2 (by decide)
    have c0 := hcell 0 (by decide)
    rw [Nat.add_zero] at c0
    have e0 : at0 (xs.map cn) 0 = cn (at0 xs 0) := at0_map cn xs (by rw [ha.1]; decide)
    have c1 := hcell 1 (by decide)
    have e1 : at0 (xs.map cn) 1 = cn (at0 xs 1) := at0_map cn xs (by rw [ha.1]; decide)
    show Calls _ _ _ _ (OptRet (some (smoothS (vcs ss) (at0 (xs.map cn) 0) (at0 (xs.map cn) 1))) w)
    rw [e0, e1]
    exact rcall_plain _ _ _ _ hL (by decide) a n cap ss F T N _ ac w hp hr hn hs (by kernel_rfl) (by kernel_rfl) (by kernel_rfl) (by kernel_rfl) (by kernel_rfl) (by kernel_rfl) (by kernel_rfl) (fun la lc w1 hb h1 h2 => rplain_smoothing a n cap ss F T N la lc _ _ ac w1 h0 hn h1 h2 hx b off _ _ rfl (by decide) (cell_stay c0 hb) (cell_stay c1 hb))
  ·
    subst hk
    obtain ⟨b, off, rfl, hcell⟩ := ha.2.2 (by decide)
    have c0 := hcell 0 (by decide)
    rw [Nat.add_zero] at c0
    have e0 : at0 (xs.map cn) 0 = cn (at0 xs 0) := at0_map cn xs (by rw [ha.1]; decide)
    show Calls _ _ _ _ (OptRet (some (beatC ss (toIC (fop .mul (at0 (xs.map cn) 0) (cn 4652007308841189376))))) w)
    rw [e0]
    exact rcall_plain _ _ _ _ hL (by decide) a n cap ss F T N _ ac w hp hr hn hs (by kernel_rfl) (by kernel_rfl) (by kernel_rfl) (by kernel_rfl) (by kernel_rfl) (by kernel_rfl) (by kernel_rfl) (fun la lc w1 hb h1 h2 => rplain_beat a n cap ss F T N la lc _ _ ac w1 h0 hn h1 h2 hx (hr.below hb) b off _ rfl (by decide) (cell_stay c0 hb))
end Go.Proofs.YtoeldcgclaiokaaGreat
