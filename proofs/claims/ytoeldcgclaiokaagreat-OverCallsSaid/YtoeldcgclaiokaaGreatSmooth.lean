/- calc.Smooth and weirref06.Smooth: what they answer. -/
import Derived.Test.YtoeldcgclaiokaaGreatSmall
namespace Go.Proofs.YtoeldcgclaiokaaGreat
open Go.Fl Go.Rel Go.RowKit

def smSt (ys : List Nat) (sf tf : Nat) : Nat → Nat × Nat × Nat
  | 0 => (0, at0 ys 0, fsub (at0 ys 1) (at0 ys 0))
  | k + 1 =>
    let st := smSt ys sf tf k
    let b := if k = 0 then st.2.2 else fadd (fmul tf (fsub st.2.1 st.1)) (fmul (fsub one tf) st.2.2)
    (st.2.1, fadd (fmul sf (at0 ys (k + 1))) (fmul (fsub one sf) (fadd st.2.1 b)), b)


def fgt0 (x : Nat) : Bool := ford x 0 == some .gt
def flt1 (x : Nat) : Bool := ford x one == some .lt
/-- Double exponential smoothing, by classes. -/
def smoothS (ys : List Nat) (sf tf : Nat) : Nat :=
  if 2 ≤ ys.length ∧ fgt0 sf = true ∧ flt1 sf = true ∧ fgt0 tf = true ∧ flt1 tf = true then (smSt ys sf tf (ys.length - 1)).2.1 else nanc

theorem order_gt0 (x : Nat) : (FloatKind.f64.format.order x 0 == some Ordering.gt) = fgt0 (cn x) := by
  rw [fgt0, ford_cn1]; rfl
theorem order_lt1 (x : Nat) : (FloatKind.f64.format.order x 4607182418800017408 == some Ordering.lt) = flt1 (cn x) := by
  rw [flt1, ford_cn1]; rfl

def SmRel (ys : List Nat) (sf tf n : Nat) (w : World) (p s b i : Value) (wr : World) : Prop :=
  ∃ k m rp rs rb, k + 1 ≤ n ∧ p = .float .f64 rp ∧ s = .float .f64 rs ∧ b = .float .f64 rb ∧ i = .int .i64 ((k + 1 : Nat) : Int) ∧ wr = w.drewN m ∧
    cn rp = (smSt ys sf tf k).1 ∧ cn rs = (smSt ys sf tf k).2.1 ∧ cn rb = (smSt ys sf tf k).2.2

set_option maxHeartbeats 1000000 in
set_option maxRecDepth 100000 in
theorem smooth_walk (b off n cap : Nat) (xs : List Nat) (w : World) (hl : xs.length = n) (hm : n ≤ 9223372036854775807) (h2 : 2 ≤ n) (sf tf : Nat)
   (hc : ∀ i, i < n → w.cell? ⟨b, off + i, none⟩ = some (.float .f64 (at0 xs i))) 
   (h1 : (FloatKind.f64.format.order sf 0 == some Ordering.gt) = true)
   (h3 : (FloatKind.f64.format.order sf 4607182418800017408 == some Ordering.lt) = true)
   (h4 : (FloatKind.f64.format.order tf 0 == some Ordering.gt) = true)
   (h5 : (FloatKind.f64.format.order tf 4607182418800017408 == some Ordering.lt) = true) :
    Calls Tryz.prog 80 #[.slice (some ⟨b, off, none⟩) n cap, .float .f64 sf, .float .f64 tf] w (FRet (smSt (xs.map cn) (cn sf) (cn tf) (n - 1)).2.1 w) := by
  have c0 : w.cell? ⟨b, off, none⟩ = some (.float .f64 (at0 xs 0)) := hc 0 (by omega)
  have c1 := hc 1 (by omega)
  have i0 : (0 : Int) < (n : Int) := by omega
  have i1 : (1 : Int) < (n : Int) := by omega
  have hN : decide ((n : Int) < 2) = false := by simp; omega
  go_enter Tryz.func80, Tryz.ntmps80
  go_wp2_with (first | (refine wpList_fop _ _ _ _ _ _ _ rfl rfl rfl ?_; intro r nq hr))
  refine wp_region_rel (fun wd => ∃ nd, wd = w.drewN nd) (fun _ _ _ => False) (by kernel_rfl) (by kernel_rfl) ⟨1, rfl⟩ ?_
  repeat (first | (refine wpRel_fop _ _ _ _ _ _ _ rfl rfl rfl rfl (drewN_class w) ?_; intro r hr; go_big_quiet_step (fail); refine wpQuiet_nil ?_) | (refine wpRel_quiet rfl ?_; go_big_quiet_step (fail); refine wpQuiet_nil ?_))
  refine wpRel_nil ?_
  rintro w1 ⟨m1, rfl⟩
  go_wp2_with fail
  clear c0 c1
  go_loopw [7, 8, 9, 10] (SmRel (xs.map cn) (cn sf) (cn tf) n w) (fun _ _ _ i _ => n - (intOf i).toNat)
  case atStart =>
    refine ⟨0, m1, _, _, _, by omega, rfl, rfl, rfl, rfl, rfl, (by rw [smSt]; exact cn_zero), ?_, ?_⟩
    · rw [smSt, at0_map _ _ (by omega)]
    · rw [smSt, at0_map _ _ (by omega), at0_map _ _ (by omega)]; assumption
  case round =>
    obtain ⟨k, m, rp, rs, rb, hk, rfl, rfl, rfl, rfl, rfl, e1, e2, e3⟩ := hrel
    have H1 := Lib.hid e1
    have H2 := Lib.hid e2
    have H3 := Lib.hid e3
    clear e1 e2 e3
    by_cases hlt : k + 1 < n
    · have ck := hc (k + 1) hlt
      have ik : ((k + 1 : Nat) : Int) < (n : Int) := by omega
      have hat := at0_map cn xs (i := k + 1) (by omega)
      have Hat := Lib.hid hat
      clear hat
      go_wp2_with (first | (refine wpList_fop _ _ _ _ _ _ _ rfl rfl rfl ?_; intro r nq hr))
      all_goals
        refine wp_region_rel (fun wd => ∃ nd, wd = w.drewN nd) (fun _ _ _ => False) (by kernel_rfl) (by kernel_rfl) (by repeat (first | exact ⟨_, rfl⟩ | refine drew_class _ _ ?_ | refine drewN_class _ _ _ ?_)) ?_
        repeat (first | (refine wpRel_fop _ _ _ _ _ _ _ rfl rfl rfl rfl (drewN_class w) ?_; intro r hr; go_big_quiet_step (fail); refine wpQuiet_nil ?_) | (refine wpRel_quiet rfl ?_; go_big_quiet_step (fail); refine wpQuiet_nil ?_))
        refine wpRel_nil ?_
        rintro w1 ⟨m1, rfl⟩
        go_wp2_with fail
        go_roundw
      all_goals first
        | (simp only [intOf]; omega)
        | (refine ⟨k + 1, m1, _, _, _, by omega, rfl, rfl, rfl, by go_num, rfl, ?_, ?_, ?_⟩
           · rw [smSt]; exact H2.out
           · rw [smSt]
             first | rw [if_pos (by omega)] | rw [if_neg (by omega)]
             simp only [← H1.out, ← H2.out, ← H3.out, Hat.out, one, fop_add, fop_sub, fop_mul, cn_one, *]
           · rw [smSt]
             first | rw [if_pos (by omega)] | rw [if_neg (by omega)]
             simp only [← H1.out, ← H2.out, ← H3.out, one, fop_add, fop_sub, fop_mul, cn_one, *])
    · have hkn : k = n - 1 := by omega
      go_wp2_with fail
      go_ret
      exact ⟨rs, m, rfl, by rw [H2.out, hkn], rfl⟩


set_option maxHeartbeats 1000000 in
set_option maxRecDepth 100000 in
theorem smooth_any (a : Option Addr) (n cap : Nat) (xs : List Nat) (w : World) (hr : Row w a n xs) (sf tf : Nat) :
    Calls Tryz.prog 80 #[.slice a n cap, .float .f64 sf, .float .f64 tf] w (FRet (smoothS (xs.map cn) (cn sf) (cn tf)) w) := by
  obtain ⟨hl, hm, hc⟩ := hr
  have o1 := order_gt0 sf
  have o2 := order_lt1 sf
  have o3 := order_gt0 tf
  have o4 := order_lt1 tf
  by_cases h2 : 2 ≤ n
  · obtain ⟨b, off, rfl, hcc⟩ := hc (by omega)
    clear hc
    cases b1 : fgt0 (cn sf)
    case true =>
      cases b2 : flt1 (cn sf)
      case true =>
        cases b3 : fgt0 (cn tf)
        case true =>
          cases b4 : flt1 (cn tf)
          case true =>
            have hs : smoothS (xs.map cn) (cn sf) (cn tf) = (smSt (xs.map cn) (cn sf) (cn tf) (n - 1)).2.1 := by
              unfold smoothS
              rw [if_pos ⟨by simpa [hl] using h2, b1, b2, b3, b4⟩]
              simp [hl]
            rw [hs]
            exact smooth_walk b off n cap xs w hl hm h2 sf tf hcc (by rw [o1, b1]) (by rw [o2, b2]) (by rw [o3, b3]) (by rw [o4, b4])
          case false =>
            rw [b1] at o1
            rw [b2] at o2
            rw [b3] at o3
            rw [b4] at o4
            have hs : smoothS (xs.map cn) (cn sf) (cn tf) = nanc := by unfold smoothS; rw [if_neg]; rintro ⟨_, x1, x2, x3, x4⟩; simp_all
            have Hs := Lib.hid hs
            clear hs b1 b2 b3 b4
            have hN : decide ((n : Int) < 2) = false := by simp; omega
            go_enter Tryz.func80, Tryz.ntmps80
            go_wp2_with (go_at_call 56; refine (nan_any _).mono ?_; rintro e w' ⟨rfl, rfl⟩)
            all_goals (go_ret; exact ⟨nanc, 0, rfl, by rw [Hs.out]; exact cn_nanc, rfl⟩)
        case false =>
          rw [b1] at o1
          rw [b2] at o2
          rw [b3] at o3
          have hs : smoothS (xs.map cn) (cn sf) (cn tf) = nanc := by unfold smoothS; rw [if_neg]; rintro ⟨_, x1, x2, x3, x4⟩; simp_all
          have Hs := Lib.hid hs
          clear hs b1 b2 b3
          have hN : decide ((n : Int) < 2) = false := by simp; omega
          go_enter Tryz.func80, Tryz.ntmps80
          go_wp2_with (go_at_call 56; refine (nan_any _).mono ?_; rintro e w' ⟨rfl, rfl⟩)
          all_goals (go_ret; exact ⟨nanc, 0, rfl, by rw [Hs.out]; exact cn_nanc, rfl⟩)
      case false =>
        rw [b1] at o1
        rw [b2] at o2
        have hs : smoothS (xs.map cn) (cn sf) (cn tf) = nanc := by unfold smoothS; rw [if_neg]; rintro ⟨_, x1, x2, x3, x4⟩; simp_all
        have Hs := Lib.hid hs
        clear hs b1 b2
        have hN : decide ((n : Int) < 2) = false := by simp; omega
        go_enter Tryz.func80, Tryz.ntmps80
        go_wp2_with (go_at_call 56; refine (nan_any _).mono ?_; rintro e w' ⟨rfl, rfl⟩)
        all_goals (go_ret; exact ⟨nanc, 0, rfl, by rw [Hs.out]; exact cn_nanc, rfl⟩)
    case false =>
      rw [b1] at o1
      have hs : smoothS (xs.map cn) (cn sf) (cn tf) = nanc := by unfold smoothS; rw [if_neg]; rintro ⟨_, x1, x2, x3, x4⟩; simp_all
      have Hs := Lib.hid hs
      clear hs b1
      have hN : decide ((n : Int) < 2) = false := by simp; omega
      go_enter Tryz.func80, Tryz.ntmps80
      go_wp2_with (go_at_call 56; refine (nan_any _).mono ?_; rintro e w' ⟨rfl, rfl⟩)
      all_goals (go_ret; exact ⟨nanc, 0, rfl, by rw [Hs.out]; exact cn_nanc, rfl⟩)
  · clear hc o1 o2 o3 o4
    have hs : smoothS (xs.map cn) (cn sf) (cn tf) = nanc := by
      unfold smoothS; rw [if_neg]; intro h; simp [hl] at h; omega
    have Hs := Lib.hid hs
    clear hs
    have hN : decide ((n : Int) < 2) = true := by simp; omega
    go_enter Tryz.func80, Tryz.ntmps80
    go_wp2_with (go_at_call 56; refine (nan_any _).mono ?_; rintro e w' ⟨rfl, rfl⟩)
    all_goals (go_ret; exact ⟨nanc, 0, rfl, by rw [Hs.out]; exact cn_nanc, rfl⟩)

set_option maxHeartbeats 1000000 in
set_option maxRecDepth 100000 in
theorem refsmooth_walk (b off n cap : Nat) (xs : List Nat) (w : World) (hl : xs.length = n) (hm : n ≤ 9223372036854775807) (h2 : 2 ≤ n) (sf tf : Nat)
   (hc : ∀ i, i < n → w.cell? ⟨b, off + i, none⟩ = some (.float .f64 (at0 xs i))) 
   (h1 : (FloatKind.f64.format.order sf 0 == some Ordering.gt) = true)
   (h3 : (FloatKind.f64.format.order sf 4607182418800017408 == some Ordering.lt) = true)
   (h4 : (FloatKind.f64.format.order tf 0 == some Ordering.gt) = true)
   (h5 : (FloatKind.f64.format.order tf 4607182418800017408 == some Ordering.lt) = true) :
    Calls Tryz.prog 37 #[.slice (some ⟨b, off, none⟩) n cap, .float .f64 sf, .float .f64 tf] w (FRet (smSt (xs.map cn) (cn sf) (cn tf) (n - 1)).2.1 w) := by
  have c0 : w.cell? ⟨b, off, none⟩ = some (.float .f64 (at0 xs 0)) := hc 0 (by omega)
  have c1 := hc 1 (by omega)
  have i0 : (0 : Int) < (n : Int) := by omega
  have i1 : (1 : Int) < (n : Int) := by omega
  have hN : decide ((n : Int) < 2) = false := by simp; omega
  go_enter Tryz.func37, Tryz.ntmps37
  go_wp2_with (first | (refine wpList_fop _ _ _ _ _ _ _ rfl rfl rfl ?_; intro r nq hr))
  refine wp_region_rel (fun wd => ∃ nd, wd = w.drewN nd) (fun _ _ _ => False) (by kernel_rfl) (by kernel_rfl) ⟨1, rfl⟩ ?_
  repeat (first | (refine wpRel_fop _ _ _ _ _ _ _ rfl rfl rfl rfl (drewN_class w) ?_; intro r hr; go_big_quiet_step (fail); refine wpQuiet_nil ?_) | (refine wpRel_quiet rfl ?_; go_big_quiet_step (fail); refine wpQuiet_nil ?_))
  refine wpRel_nil ?_
  rintro w1 ⟨m1, rfl⟩
  go_wp2_with fail
  clear c0 c1
  go_loopw [7, 8, 9, 10] (SmRel (xs.map cn) (cn sf) (cn tf) n w) (fun _ _ _ i _ => n - (intOf i).toNat)
  case atStart =>
    refine ⟨0, m1, _, _, _, by omega, rfl, rfl, rfl, rfl, rfl, (by rw [smSt]; exact cn_zero), ?_, ?_⟩
    · rw [smSt, at0_map _ _ (by omega)]
    · rw [smSt, at0_map _ _ (by omega), at0_map _ _ (by omega)]; assumption
  case round =>
    obtain ⟨k, m, rp, rs, rb, hk, rfl, rfl, rfl, rfl, rfl, e1, e2, e3⟩ := hrel
    have H1 := Lib.hid e1
    have H2 := Lib.hid e2
    have H3 := Lib.hid e3
    clear e1 e2 e3
    by_cases hlt : k + 1 < n
    · have ck := hc (k + 1) hlt
      have ik : ((k + 1 : Nat) : Int) < (n : Int) := by omega
      have hat := at0_map cn xs (i := k + 1) (by omega)
      have Hat := Lib.hid hat
      clear hat
      go_wp2_with (first | (refine wpList_fop _ _ _ _ _ _ _ rfl rfl rfl ?_; intro r nq hr))
      all_goals go_roundw
      all_goals first
        | (simp only [intOf]; omega)
        | (refine ⟨k + 1, _, _, _, _, by omega, rfl, rfl, rfl, by go_num, rfl, ?_, ?_, ?_⟩
           · rw [smSt]; exact H2.out
           · rw [smSt]
             first | rw [if_pos (by omega)] | rw [if_neg (by omega)]
             simp only [← H1.out, ← H2.out, ← H3.out, Hat.out, one, fop_add, fop_sub, fop_mul, cn_one, *]
           · rw [smSt]
             first | rw [if_pos (by omega)] | rw [if_neg (by omega)]
             simp only [← H1.out, ← H2.out, ← H3.out, one, fop_add, fop_sub, fop_mul, cn_one, *])
    · have hkn : k = n - 1 := by omega
      go_wp2_with fail
      go_ret
      exact ⟨rs, m, rfl, by rw [H2.out, hkn], rfl⟩


set_option maxHeartbeats 1000000 in
set_option maxRecDepth 100000 in
theorem refsmooth_any (a : Option Addr) (n cap : Nat) (xs : List Nat) (w : World) (hr : Row w a n xs) (sf tf : Nat) :
    Calls Tryz.prog 37 #[.slice a n cap, .float .f64 sf, .float .f64 tf] w (FRet (smoothS (xs.map cn) (cn sf) (cn tf)) w) := by
  obtain ⟨hl, hm, hc⟩ := hr
  have o1 := order_gt0 sf
  have o2 := order_lt1 sf
  have o3 := order_gt0 tf
  have o4 := order_lt1 tf
  by_cases h2 : 2 ≤ n
  · obtain ⟨b, off, rfl, hcc⟩ := hc (by omega)
    clear hc
    cases b1 : fgt0 (cn sf)
    case true =>
      cases b2 : flt1 (cn sf)
      case true =>
        cases b3 : fgt0 (cn tf)
        case true =>
          cases b4 : flt1 (cn tf)
          case true =>
            have hs : smoothS (xs.map cn) (cn sf) (cn tf) = (smSt (xs.map cn) (cn sf) (cn tf) (n - 1)).2.1 := by
              unfold smoothS
              rw [if_pos ⟨by simpa [hl] using h2, b1, b2, b3, b4⟩]
              simp [hl]
            rw [hs]
            exact refsmooth_walk b off n cap xs w hl hm h2 sf tf hcc (by rw [o1, b1]) (by rw [o2, b2]) (by rw [o3, b3]) (by rw [o4, b4])
          case false =>
            rw [b1] at o1
            rw [b2] at o2
            rw [b3] at o3
            rw [b4] at o4
            have hs : smoothS (xs.map cn) (cn sf) (cn tf) = nanc := by unfold smoothS; rw [if_neg]; rintro ⟨_, x1, x2, x3, x4⟩; simp_all
            have Hs := Lib.hid hs
            clear hs b1 b2 b3 b4
            have hN : decide ((n : Int) < 2) = false := by simp; omega
            go_enter Tryz.func37, Tryz.ntmps37
            go_wp2_with (go_at_call 27; refine (refnan_any _).mono ?_; rintro e w' ⟨rfl, rfl⟩)
            all_goals (go_ret; exact ⟨nanc, 0, rfl, by rw [Hs.out]; exact cn_nanc, rfl⟩)
        case false =>
          rw [b1] at o1
          rw [b2] at o2
          rw [b3] at o3
          have hs : smoothS (xs.map cn) (cn sf) (cn tf) = nanc := by unfold smoothS; rw [if_neg]; rintro ⟨_, x1, x2, x3, x4⟩; simp_all
          have Hs := Lib.hid hs
          clear hs b1 b2 b3
          have hN : decide ((n : Int) < 2) = false := by simp; omega
          go_enter Tryz.func37, Tryz.ntmps37
          go_wp2_with (go_at_call 27; refine (refnan_any _).mono ?_; rintro e w' ⟨rfl, rfl⟩)
          all_goals (go_ret; exact ⟨nanc, 0, rfl, by rw [Hs.out]; exact cn_nanc, rfl⟩)
      case false =>
        rw [b1] at o1
        rw [b2] at o2
        have hs : smoothS (xs.map cn) (cn sf) (cn tf) = nanc := by unfold smoothS; rw [if_neg]; rintro ⟨_, x1, x2, x3, x4⟩; simp_all
        have Hs := Lib.hid hs
        clear hs b1 b2
        have hN : decide ((n : Int) < 2) = false := by simp; omega
        go_enter Tryz.func37, Tryz.ntmps37
        go_wp2_with (go_at_call 27; refine (refnan_any _).mono ?_; rintro e w' ⟨rfl, rfl⟩)
        all_goals (go_ret; exact ⟨nanc, 0, rfl, by rw [Hs.out]; exact cn_nanc, rfl⟩)
    case false =>
      rw [b1] at o1
      have hs : smoothS (xs.map cn) (cn sf) (cn tf) = nanc := by unfold smoothS; rw [if_neg]; rintro ⟨_, x1, x2, x3, x4⟩; simp_all
      have Hs := Lib.hid hs
      clear hs b1
      have hN : decide ((n : Int) < 2) = false := by simp; omega
      go_enter Tryz.func37, Tryz.ntmps37
      go_wp2_with (go_at_call 27; refine (refnan_any _).mono ?_; rintro e w' ⟨rfl, rfl⟩)
      all_goals (go_ret; exact ⟨nanc, 0, rfl, by rw [Hs.out]; exact cn_nanc, rfl⟩)
  · clear hc o1 o2 o3 o4
    have hs : smoothS (xs.map cn) (cn sf) (cn tf) = nanc := by
      unfold smoothS; rw [if_neg]; intro h; simp [hl] at h; omega
    have Hs := Lib.hid hs
    clear hs
    have hN : decide ((n : Int) < 2) = true := by simp; omega
    go_enter Tryz.func37, Tryz.ntmps37
    go_wp2_with (go_at_call 27; refine (refnan_any _).mono ?_; rintro e w' ⟨rfl, rfl⟩)
    all_goals (go_ret; exact ⟨nanc, 0, rfl, by rw [Hs.out]; exact cn_nanc, rfl⟩)

end Go.Proofs.YtoeldcgclaiokaaGreat
