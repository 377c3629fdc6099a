/- Quantile on both sides. -/
import Derived.Test.YtoeldcgclaiokaaGreatSortR
import Derived.Test.YtoeldcgclaiokaaGreatSortF
import Derived.Test.YtoeldcgclaiokaaGreatFloorC
import Derived.Test.YtoeldcgclaiokaaGreatMeanAll
import Derived.Laws.OwnMore
import Derived.WalkLawsBesides
namespace Go.Proofs.YtoeldcgclaiokaaGreat
open Go.Fl Go.Rel Go.RowKit Go.Sort Go.Lib Go.Stab Go.Shelf

/-- A row of the call's own, to write on. -/
def OwnRow (n : Nat) (xs : List Nat) (w : World) (e : Ending) (w' : World) : Prop :=
  ∃ g c', e = .returned (.slice (some ⟨g, 0, none⟩) n c') ∧ Own w.heap.size w' (.slice (some ⟨g, 0, none⟩) n c') xs ∧ Go.RowKit.Below w.heap.size w w'

theorem clone_any (a : Option Addr) (n cap : Nat) (xs : List Nat) (w : World) (hr : Row w a n xs) (hs : SlOk a n cap) (hn : 0 < n) (hb : n < 17592186044416) :
    Calls Tryz.prog 94 #[.slice a n cap] w (OwnRow n xs w) := by
  obtain ⟨b, off, rfl, _⟩ := hr.2.2 hn
  have HR := Lib.hid hr
  have HS := Lib.hid hs
  clear hr hs
  have hnil := fun (w : World) => Lib.run_eql_slice_nil (P := Tryz.prog) w 25 27 (some ⟨b, off, none⟩) n cap 0 0 Tryz.underlying25
  go_enter Tryz.func94, Tryz.ntmps94
  go_wp2_with (at_builtin; refine wpList_append_fs rfl (.tmp 5) (.tmp 6) rfl w.heap.size _ [] rfl (own_made w) _ n cap xs HS.out rfl (HR.out.below ((Below.refl _ _).alloc (Nat.le_refl _) _)) (by simp; omega) (by simp) ?_; intro v' w' hown hg hv)
  have bw := Own.below (own_made w) ((Below.refl w.heap.size w).alloc (Nat.le_refl _) _) hg (by simp)
  rw [List.nil_append] at hown
  obtain ⟨g, c', rfl⟩ : ∃ g c', v' = .slice (some ⟨g, 0, none⟩) n c' := by
    rcases hown.2 with ⟨_, h0⟩ | ⟨g, c', _, h1, _⟩
    · have := HR.out.1; omega
    · exact ⟨g, c', by rw [h1, HR.out.1]⟩
  have HO := Lib.hid hown
  clear hown hg hv
  go_ret
  exact ⟨g, c', rfl, HO.out, bw⟩

theorem own_holds {B g n c' : Nat} {w : World} {xs : List Nat} (h : Own B w (.slice (some ⟨g, 0, none⟩) n c') xs) (hl : xs.length = n) : Holds (Value.float .f64) w g 0 xs.toArray := fun j hj => by
  unfold Own at h
  rw [hl] at h
  have hj' : j < n := by simpa [hl] using hj
  refine ⟨?_, World.ownsRow.frozenAt h _⟩
  rw [Nat.zero_add, World.ownsRow.cellAt h j (by omega)]
  simp [List.getElem?_map, List.getElem?_eq_getElem (show j < xs.length by omega)]

/-- The row sorted in place. -/
theorem sort_row {B : Nat} (g n c' : Nat) (xs : List Nat) (w : World) (h : Own B w (.slice (some ⟨g, 0, none⟩) n c') xs) (hl : xs.length = n) (hn : 0 < n) (hb : n < 17592186044416) :
    Calls Tryz.prog 95 #[.slice (some ⟨g, 0, none⟩) n c', .func (.func 96) #[] #[]] w fun e w' => e = .returned (.tuple #[]) ∧ Row w' (some ⟨g, 0, none⟩) n (xs.mergeSort leF) ∧ Go.RowKit.Below g w w' := by
  have hH := own_holds h hl
  have hg : g < w.heap.size := (World.ownsRow.lt h g rfl).2
  have hsz : xs.toArray.size = n := by simp [hl]
  have := sortStableF (Value.float .f64) (fun _ => rfl) ordI swo_ordI 96 #[] (fun args w => by kernel_rfl) g 0 c' xs.toArray w hH hg (by rw [hsz]; omega) (fun W i j _ => (order_any _ _ W).mono fun e w' ⟨he, hw⟩ => ⟨he, 0, #[], by rw [← hw]; rfl⟩)
  rw [hsz] at this
  refine this.mono ?_
  rintro e w' ⟨rfl, hk, ms, hms, hml, hc⟩
  have hms' : ms = xs.mergeSort leF := by rw [hms, leF_eq]
  subst hms'
  refine ⟨rfl, ⟨by rw [hml], by omega, fun _ => ⟨g, 0, rfl, fun i hi => ?_⟩⟩, hk.below hg⟩
  exact hc i hi

theorem quantS_nan {q : Nat} {xs : List Nat} (h : isN q = true) : quantS (cn q) (xs.map cn) = nanc := by
  unfold quantS; rw [isN_cn, h]; split <;> rfl
theorem quantS_none {q : Nat} : quantS (cn q) [] = nanc := rfl
theorem quantS_low {q : Nat} {xs : List Nat} (hx : xs.length ≠ 0) (h : isN q = false) (h2 : (ford q 0 == some .lt) = true) : quantS (cn q) (xs.map cn) = ninf := by
  unfold quantS; rw [isN_cn, h, ford_cn1, h2, if_neg (by simpa using hx), if_neg (by simp), if_pos rfl]
theorem quantS_high {q : Nat} {xs : List Nat} (hx : xs.length ≠ 0) (h : isN q = false) (h2 : (ford q 0 == some .lt) = false) (h3 : (ford q w1 == some .gt) = true) : quantS (cn q) (xs.map cn) = pinf := by
  unfold quantS; rw [isN_cn, h, ford_cn1, ford_cn1, h2, h3, if_neg (by simpa using hx), if_neg (by simp), if_neg (by simp), if_pos rfl]
theorem quantS_in {q : Nat} {xs : List Nat} (hx : xs.length ≠ 0) (h : isN q = false) (h2 : (ford q 0 == some .lt) = false) (h3 : (ford q w1 == some .gt) = false) : quantS (cn q) (xs.map cn) = quantSorted (cn q) ((xs.mergeSort leF).map cn) := by
  unfold quantS; rw [isN_cn, h, ford_cn1, ford_cn1, h2, h3, if_neg (by simpa using hx), if_neg (by simp), if_neg (by simp), if_neg (by simp), sortC_cn]
theorem unit01_of {q : Nat} (h : isN q = false) (h2 : (ford q 0 == some .lt) = false) (h3 : (ford q w1 == some .gt) = false) : unit01 (cn q) := by
  unfold unit01; rw [isN_cn, ford_cn1, ford_cn1]; exact ⟨h, h2, h3⟩
theorem atC_map (xs : List Nat) {i : Nat} (h : i < xs.length) : atC (xs.map cn) i = cn (at0 xs i) := at0_map cn xs h
theorem quantSorted_pos {q r p : Nat} {s : List Nat} (hr : cn r = weightQ q s.length) (hz : (ford r 0 == some .eq) = true) (hp : p = placeQ q s.length) : quantSorted q s = atC s p := by
  unfold quantSorted; rw [← hr, ford_cn1, if_pos hz, hp]
theorem quantSorted_neg {q r p j : Nat} {s : List Nat} (hr : cn r = weightQ q s.length) (hz : (ford r 0 == some .eq) = false) (hp : p = placeQ q s.length) (hj : j = min (p + 1) (s.length - 1)) :
    quantSorted q s = fadd (fmul (atC s p) (fsub w1 (cn r))) (fmul (atC s j) (cn r)) := by
  unfold quantSorted; rw [← hr, ford_cn1, if_neg (by rw [hz]; simp), hj, hp]
theorem cn_w1 : cn 4607182418800017408 = w1 := by decide +kernel

set_option maxHeartbeats 4000000 in
set_option maxRecDepth 100000 in
theorem quant_any (q : Nat) (a : Option Addr) (n cap : Nat) (xs : List Nat) (w : World) (hr : Row w a n xs) (hs : SlOk a n cap) (hb : n < 17592186044416) :
    Calls Tryz.prog 72 #[.float .f64 q, .slice a n cap] w (FB (quantS (cn q) (xs.map cn)) w) := by
  have hl := hr.1
  have hm := hr.2.1
  by_cases h0 : n = 0
  · subst h0
    obtain rfl : xs = [] := List.eq_nil_of_length_eq_zero hl
    rw [List.map_nil, quantS_none]
    clear hr hs
    go_enter Tryz.func72, Tryz.ntmps72
    go_wp2_with (first | (go_at_call 93; refine (isnan_any _ _).mono ?_; rintro e w' ⟨rfl, rfl⟩) | (go_at_call 56; refine (nan_any _).mono ?_; rintro e w' ⟨rfl, rfl⟩))
    go_ret
    exact ⟨nanc, rfl, cn_nanc, Go.RowKit.Below.refl _ _⟩
  have hn0 : ((n : Int) == 0) = false := by simp; omega
  have hne : xs.length ≠ 0 := by omega
  cases hq : isN q
  case true =>
    rw [quantS_nan hq]
    clear hr hs hne h0
    go_enter Tryz.func72, Tryz.ntmps72
    go_wp2_with (first | (go_at_call 93; refine (isnan_any _ _).mono ?_; rintro e w' ⟨rfl, rfl⟩) | (go_at_call 56; refine (nan_any _).mono ?_; rintro e w' ⟨rfl, rfl⟩))
    go_ret
    exact ⟨nanc, rfl, cn_nanc, Go.RowKit.Below.refl _ _⟩
  case false =>
    cases h1 : (ford q 0 == some .lt)
    case true =>
      have h1' : (FloatKind.f64.format.order q 0 == some .lt) = true := h1
      rw [quantS_low hne hq h1]
      clear hr hs hne h0 h1
      go_enter Tryz.func72, Tryz.ntmps72
      go_wp2_with (first | (go_at_call 93; refine (isnan_any _ _).mono ?_; rintro e w' ⟨rfl, rfl⟩) | (go_at_call 86; refine (inf_down _).mono ?_; rintro e w' ⟨rfl, rfl⟩))
      go_ret
      exact ⟨ninf, rfl, cn_ninf, Go.RowKit.Below.refl _ _⟩
    case false =>
    cases h2 : (ford q w1 == some .gt)
    case true =>
      have h1' : (FloatKind.f64.format.order q 0 == some .lt) = false := h1
      have h2' : (FloatKind.f64.format.order q 4607182418800017408 == some .gt) = true := h2
      rw [quantS_high hne hq h1 h2]
      clear hr hs hne h0 h1 h2
      go_enter Tryz.func72, Tryz.ntmps72
      go_wp2_with (first | (go_at_call 93; refine (isnan_any _ _).mono ?_; rintro e w' ⟨rfl, rfl⟩) | (go_at_call 86; refine (inf_up _).mono ?_; rintro e w' ⟨rfl, rfl⟩))
      go_ret
      exact ⟨pinf, rfl, cn_pinf, Go.RowKit.Below.refl _ _⟩
    case false =>
      have h1' : (FloatKind.f64.format.order q 0 == some .lt) = false := h1
      have h2' : (FloatKind.f64.format.order q 4607182418800017408 == some .gt) = false := h2
      have HU := Lib.hid (unit01_of hq h1 h2)
      rw [quantS_in hne hq h1 h2]
      have HN1 : Hid (1 ≤ n) := Lib.hid (by omega)
      have HN2 : Hid (n ≤ 9007199254740992) := Lib.hid (by omega)
      have HWZ : Hid (cn (floatOfInt .f64 ((n : Int) - 1)) = wz ((n : Int) - 1)) := Lib.hid (by rw [wz_eq]; exact cn_wz (by omega))
      have hrk := place_lt HU.out HN1.out HN2.out
      have HRK := Lib.hid hrk
      have hls : (xs.mergeSort leF).length = n := by rw [List.length_mergeSort, hl]
      have HL := Lib.hid hl
      have HR := Lib.hid hr
      have HS := Lib.hid hs
      clear hr hs hl hne h0 h1 h2 hrk
      go_enter Tryz.func72, Tryz.ntmps72
      go_wp2_with (go_at_call 93; refine (isnan_any _ _).mono ?_; rintro e w' ⟨rfl, rfl⟩)
      refine (clone_any a n cap xs _ HR.out HS.out (by have := HN1.out; omega) hb).mono ?_
      rintro e w1 ⟨g, c', rfl, hown, b1⟩
      have HO := Lib.hid hown
      have hg := (World.ownsRow.lt hown g rfl).1
      clear hown
      go_wp2_with fail
      refine (sort_row g n c' xs _ HO.out HL.out (by have := HN1.out; omega) hb).mono ?_
      rintro e w2 ⟨rfl, hrs, b2⟩
      have HRS := Lib.hid hrs
      have B2 : Hid (Go.RowKit.Below w.heap.size w w2) := Lib.hid (b1.trans (b2.mono hg))
      clear hrs b1 b2 HO hg
      have hls2 : ((xs.mergeSort leF).map cn).length = n := by rw [List.length_map, hls]
      have HLS := Lib.hid hls
      have HLS2 := Lib.hid hls2
      obtain ⟨g2, o2, hgo, hcell⟩ := HRS.out.2.2 (by have := HN1.out; omega)
      cases hgo
      obtain ⟨p, hp⟩ : ∃ p, p = placeQ (cn q) n := ⟨_, rfl⟩
      have hpn : p < n := by rw [hp]; exact HRK.out
      obtain ⟨j, hj⟩ : ∃ j, j = min (p + 1) (n - 1) := ⟨_, rfl⟩
      have hjn : j < n := by omega
      have hmin : min ((p : Int) + 1) ((n : Int) - 1) = (j : Int) := by omega
      have cp := hcell p hpn
      have cj := hcell j hjn
      have pi0 : (0 : Int) ≤ (p : Int) := by omega
      have pi1 : (p : Int) < (n : Int) := by omega
      have ji0 : (0 : Int) ≤ (j : Int) := by omega
      have ji1 : (j : Int) < (n : Int) := by omega
      have HP := Lib.hid hp
      have HJ := Lib.hid hj
      clear hcell hp hj hls hls2
      try simp only [Nat.zero_add] at cp cj
      go_wp2_with (first | (go_at_call 63; refine (floor_any _ _).mono ?_; rintro e w' ⟨r2, n2, rfl, hr2, rfl⟩; have hcv := fun w' => run_convert_float_int (P := Tryz.prog) w' 27 3 .f64 .i64 r2 _ (by kernel_rfl) Tryz.underlying3 (rank_conv HU.out HN1.out HN2.out (by rw [hr2, HR1.out])); rw [← HP.out] at hcv; have HR2 := Lib.hid hr2; clear hr2) | (refine wpList_fop .mul _ _ _ _ _ _ rfl rfl rfl ?_; intro r1 n1 hr1; have HR1 : Hid (cn r1 = rankQ (cn q) n) := Lib.hid (by rw [hr1]; exact congrArg (fmul (cn q)) HWZ.out); clear hr1) | (refine wpList_fop .sub _ _ _ _ _ _ rfl rfl rfl ?_; intro r3 n3 hr3; have HR3 : Hid (cn r3 = weightQ (cn q) n) := Lib.hid (by rw [hr3, HR2.out, HR1.out]; rfl); clear hr3))
      · have hz : (ford r3 0 == some .eq) = true := by assumption
        have hQ := quantSorted_pos (p := p) (s := (xs.mergeSort leF).map cn) (by rw [HLS2.out]; exact HR3.out) hz (by rw [HLS2.out]; exact HP.out)
        go_ret
        exact ⟨_, rfl, by rw [hQ, atC_map _ (by rw [HLS.out]; exact hpn)], B2.out.drewN' _⟩
      · have hz : (ford r3 0 == some .eq) = false := by assumption
        have hQ := quantSorted_neg (p := p) (j := j) (s := (xs.mergeSort leF).map cn) (by rw [HLS2.out]; exact HR3.out) hz (by rw [HLS2.out]; exact HP.out) (by rw [HLS2.out]; exact HJ.out)
        have HQ := Lib.hid hQ
        clear hQ
        refine wp_region_rel (fun wd => ∃ nd, wd = w2.drewN nd) (fun _ _ _ => False) (by kernel_rfl) (by kernel_rfl) (by repeat (first | exact ⟨_, rfl⟩ | refine drew_class _ _ ?_ | refine drewN_class _ _ _ ?_)) ?_
        repeat (first | (refine wpRel_fop _ _ _ _ _ _ _ rfl rfl rfl rfl (drewN_class w2) ?_; intro r hr; go_big_quiet_step (fail); refine wpQuiet_nil ?_) | (refine wpRel_quiet rfl ?_; go_big_quiet_step (fail); refine wpQuiet_nil ?_))
        refine wpRel_nil ?_
        rintro w1 ⟨m1, rfl⟩
        go_wp2_with fail
        go_ret
        refine ⟨_, rfl, ?_, B2.out.drewN' _⟩
        rw [HQ.out, atC_map _ (by rw [HLS.out]; exact hpn), atC_map _ (by rw [HLS.out]; exact hjn)]
        simp only [fop_add, fop_sub, fop_mul, cn_w1, *]

set_option maxHeartbeats 4000000 in
set_option maxRecDepth 100000 in
theorem refquant_any (q : Nat) (a : Option Addr) (n cap : Nat) (xs : List Nat) (w : World) (hr : Row w a n xs) (hs : SlOk a n cap) (H64 : ∀ x ∈ xs, W64 x) (hb : n < 17592186044416) :
    Calls Tryz.prog 34 #[.float .f64 q, .slice a n cap] w (FB (quantS (cn q) (xs.map cn)) w) := by
  have hl := hr.1
  have hm := hr.2.1
  by_cases h0 : n = 0
  · subst h0
    obtain rfl : xs = [] := List.eq_nil_of_length_eq_zero hl
    rw [List.map_nil, quantS_none]
    clear hr hs
    go_enter Tryz.func34, Tryz.ntmps34
    go_wp2_with (first | (go_at_call 60; refine (bad_any _ _).mono ?_; rintro e w' ⟨rfl, rfl⟩) | (go_at_call 27; refine (refnan_any _).mono ?_; rintro e w' ⟨rfl, rfl⟩))
    go_ret
    exact ⟨nanc, rfl, cn_nanc, Go.RowKit.Below.refl _ _⟩
  have hn0 : ((n : Int) == 0) = false := by simp; omega
  have hne : xs.length ≠ 0 := by omega
  cases hq : isN q
  case true =>
    rw [quantS_nan hq]
    clear hr hs hne h0
    go_enter Tryz.func34, Tryz.ntmps34
    go_wp2_with (first | (go_at_call 60; refine (bad_any _ _).mono ?_; rintro e w' ⟨rfl, rfl⟩) | (go_at_call 27; refine (refnan_any _).mono ?_; rintro e w' ⟨rfl, rfl⟩))
    go_ret
    exact ⟨nanc, rfl, cn_nanc, Go.RowKit.Below.refl _ _⟩
  case false =>
    cases h1 : (ford q 0 == some .lt)
    case true =>
      have h1' : (FloatKind.f64.format.order q 0 == some .lt) = true := h1
      rw [quantS_low hne hq h1]
      clear hr hs hne h0 h1
      go_enter Tryz.func34, Tryz.ntmps34
      go_wp2_with (first | (go_at_call 60; refine (bad_any _ _).mono ?_; rintro e w' ⟨rfl, rfl⟩) | (go_at_call 61; refine (rinf_down _).mono ?_; rintro e w' ⟨rfl, rfl⟩))
      go_ret
      exact ⟨ninf, rfl, cn_ninf, Go.RowKit.Below.refl _ _⟩
    case false =>
    cases h2 : (ford q w1 == some .gt)
    case true =>
      have h1' : (FloatKind.f64.format.order q 0 == some .lt) = false := h1
      have h2' : (FloatKind.f64.format.order q 4607182418800017408 == some .gt) = true := h2
      rw [quantS_high hne hq h1 h2]
      clear hr hs hne h0 h1 h2
      go_enter Tryz.func34, Tryz.ntmps34
      go_wp2_with (first | (go_at_call 60; refine (bad_any _ _).mono ?_; rintro e w' ⟨rfl, rfl⟩) | (go_at_call 61; refine (rinf_up _).mono ?_; rintro e w' ⟨rfl, rfl⟩))
      go_ret
      exact ⟨pinf, rfl, cn_pinf, Go.RowKit.Below.refl _ _⟩
    case false =>
      have h1' : (FloatKind.f64.format.order q 0 == some .lt) = false := h1
      have h2' : (FloatKind.f64.format.order q 4607182418800017408 == some .gt) = false := h2
      have HU := Lib.hid (unit01_of hq h1 h2)
      rw [quantS_in hne hq h1 h2]
      have HN1 : Hid (1 ≤ n) := Lib.hid (by omega)
      have HN2 : Hid (n ≤ 9007199254740992) := Lib.hid (by omega)
      have HWZ : Hid (cn (floatOfInt .f64 ((n : Int) - 1)) = wz ((n : Int) - 1)) := Lib.hid (by rw [wz_eq]; exact cn_wz (by omega))
      have hrk := place_lt HU.out HN1.out HN2.out
      have HRK := Lib.hid hrk
      have hls : (xs.mergeSort leF).length = n := by rw [List.length_mergeSort, hl]
      have HL := Lib.hid hl
      have HR := Lib.hid hr
      have HS := Lib.hid hs
      clear hr hs hl hne h0 h1 h2 hrk
      go_enter Tryz.func34, Tryz.ntmps34
      go_wp2_with (go_at_call 60; refine (bad_any _ _).mono ?_; rintro e w' ⟨rfl, rfl⟩)
      refine (sorted_any n a n cap xs _ (Nat.le_refl _) HR.out HS.out H64 hb).mono ?_
      rintro e w2 ⟨a', c', rfl, ok', hrs, b2⟩
      have HRS := Lib.hid hrs
      have B2 := Lib.hid b2
      clear hrs b2
      have hls2 : ((xs.mergeSort leF).map cn).length = n := by rw [List.length_map, hls]
      have HLS := Lib.hid hls
      have HLS2 := Lib.hid hls2
      obtain ⟨g2, o2, hgo, hcell⟩ := HRS.out.2.2 (by have := HN1.out; omega)
      cases hgo
      obtain ⟨p, hp⟩ : ∃ p, p = placeQ (cn q) n := ⟨_, rfl⟩
      have hpn : p < n := by rw [hp]; exact HRK.out
      obtain ⟨j, hj⟩ : ∃ j, j = min (p + 1) (n - 1) := ⟨_, rfl⟩
      have hjn : j < n := by omega
      have hmin : min ((p : Int) + 1) ((n : Int) - 1) = (j : Int) := by omega
      have cp := hcell p hpn
      have cj := hcell j hjn
      have pi0 : (0 : Int) ≤ (p : Int) := by omega
      have pi1 : (p : Int) < (n : Int) := by omega
      have ji0 : (0 : Int) ≤ (j : Int) := by omega
      have ji1 : (j : Int) < (n : Int) := by omega
      have HP := Lib.hid hp
      have HJ := Lib.hid hj
      clear hcell hp hj hls hls2
      try simp only [Nat.zero_add] at cp cj
      go_wp2_with (first | (go_at_call 63; refine (floor_any _ _).mono ?_; rintro e w' ⟨r2, n2, rfl, hr2, rfl⟩; have hcv := fun w' => run_convert_float_int (P := Tryz.prog) w' 27 3 .f64 .i64 r2 _ (by kernel_rfl) Tryz.underlying3 (rank_conv HU.out HN1.out HN2.out (by rw [hr2, HR1.out])); rw [← HP.out] at hcv; have HR2 := Lib.hid hr2; clear hr2) | (refine wpList_fop .mul _ _ _ _ _ _ rfl rfl rfl ?_; intro r1 n1 hr1; have HR1 : Hid (cn r1 = rankQ (cn q) n) := Lib.hid (by rw [hr1]; exact congrArg (fmul (cn q)) HWZ.out); clear hr1) | (refine wpList_fop .sub _ _ _ _ _ _ rfl rfl rfl ?_; intro r3 n3 hr3; have HR3 : Hid (cn r3 = weightQ (cn q) n) := Lib.hid (by rw [hr3, HR2.out, HR1.out]; rfl); clear hr3))
      · have hz : (ford r3 0 == some .eq) = true := by assumption
        have hQ := quantSorted_pos (p := p) (s := (xs.mergeSort leF).map cn) (by rw [HLS2.out]; exact HR3.out) hz (by rw [HLS2.out]; exact HP.out)
        go_ret
        exact ⟨_, rfl, by rw [hQ, atC_map _ (by rw [HLS.out]; exact hpn)], B2.out.drewN' _⟩
      · have hz : (ford r3 0 == some .eq) = false := by assumption
        have hQ := quantSorted_neg (p := p) (j := j) (s := (xs.mergeSort leF).map cn) (by rw [HLS2.out]; exact HR3.out) hz (by rw [HLS2.out]; exact HP.out) (by rw [HLS2.out]; exact HJ.out)
        have HQ := Lib.hid hQ
        clear hQ
        refine wp_region_rel (fun wd => ∃ nd, wd = w2.drewN nd) (fun _ _ _ => False) (by kernel_rfl) (by kernel_rfl) (by repeat (first | exact ⟨_, rfl⟩ | refine drew_class _ _ ?_ | refine drewN_class _ _ _ ?_)) ?_
        repeat (first | (refine wpRel_fop _ _ _ _ _ _ _ rfl rfl rfl rfl (drewN_class w2) ?_; intro r hr; go_big_quiet_step (fail); refine wpQuiet_nil ?_) | (refine wpRel_quiet rfl ?_; go_big_quiet_step (fail); refine wpQuiet_nil ?_))
        refine wpRel_nil ?_
        rintro w1 ⟨m1, rfl⟩
        go_wp2_with fail
        go_ret
        refine ⟨_, rfl, ?_, B2.out.drewN' _⟩
        rw [HQ.out, atC_map _ (by rw [HLS.out]; exact hpn), atC_map _ (by rw [HLS.out]; exact hjn)]
        simp only [fop_add, fop_sub, fop_mul, cn_w1, *]

end Go.Proofs.YtoeldcgclaiokaaGreat
