/- Buckets on both sides. -/
import Derived.Test.YtllphokepjekpaaHTog
import Derived.Test.YtllphokepjekpaaHSteps
import Derived.Test.YtllphokepjekpaaMeanAll
namespace Go.Fl
theorem buck_nan {q : Nat} {bs : List Hb} (h : isN q = true) : bucketsS (cn q) bs = nanc := by unfold bucketsS; rw [isN_cn, h, if_pos rfl]
theorem buck_low {q : Nat} {bs : List Hb} (h : isN q = false) (h1 : (ford q 0 == some .lt) = true) : bucketsS (cn q) bs = ninf := by
  unfold bucketsS; rw [isN_cn, h, ford_cn1, h1, if_neg (by simp), if_pos rfl]
theorem buck_high {q : Nat} {bs : List Hb} (h : isN q = false) (h1 : (ford q 0 == some .lt) = false) (h2 : (ford q w1 == some .gt) = true) : bucketsS (cn q) bs = pinf := by
  unfold bucketsS; rw [isN_cn, h, ford_cn1, ford_cn1, h1, h2, if_neg (by simp), if_neg (by simp), if_pos rfl]
theorem buck_none {q : Nat} {bs : List Hb} (h : isN q = false) (h1 : (ford q 0 == some .lt) = false) (h2 : (ford q w1 == some .gt) = false) (h3 : hSound (hTog bs) = false) : bucketsS (cn q) bs = nanc := by
  unfold bucketsS; rw [isN_cn, h, ford_cn1, ford_cn1, h1, h2, h3, if_neg (by simp), if_neg (by simp), if_neg (by simp), if_neg (by simp)]
theorem buck_in {q : Nat} {bs : List Hb} (h : isN q = false) (h1 : (ford q 0 == some .lt) = false) (h2 : (ford q w1 == some .gt) = false) (h3 : hSound (hTog bs) = true) : bucketsS (cn q) bs = hVal (cn q) (levels (hTog bs)) := by
  unfold bucketsS; rw [isN_cn, h, ford_cn1, ford_cn1, h1, h2, h3, if_neg (by simp), if_neg (by simp), if_neg (by simp), if_pos rfl]

/-- The search, told of a row of words. -/
def IdxW (cur : List Hb) (rank b : Nat) : Prop := b ≤ cur.length - 1 ∧ (∀ j, j < b → geF (cH cur j) rank = false) ∧ (b < cur.length - 1 → geF (cH cur b) rank = true)
theorem geF_cn (x y : Nat) : geF (cn x) (cn y) = geF x y := by unfold geF; rw [ford_cn]
theorem IdxW.is {cur : List Hb} {r b : Nat} (h : IdxW cur r b) : IsIdx (cur.map clsB) (cn r) b := by
  obtain ⟨h1, h2, h3⟩ := h
  refine ⟨by rw [List.length_map]; exact h1, fun j hj => ?_, fun hb => ?_⟩
  · rw [cH_map _ (by omega), geF_cn]; exact h2 j hj
  · rw [List.length_map] at hb
    rw [cH_map _ (by omega), geF_cn]; exact h3 hb

theorem val_none {q : Nat} {cur : List Hb} (hl : 0 < cur.length) (h : (ford (cH cur (cur.length - 1)) 0 == some .gt) = false) : hVal (cn q) (cur.map clsB) = nanc := by
  unfold hVal
  rw [List.length_map, cH_map _ (by omega), ford_cn1, h, if_pos rfl]
theorem val_in {q r b : Nat} {cur : List Hb} (hl : 0 < cur.length) (h : (ford (cH cur (cur.length - 1)) 0 == some .gt) = true) (hr : cn r = fmul (cn q) (cn (cH cur (cur.length - 1)))) (hi : IdxW cur r b) :
    hVal (cn q) (cur.map clsB) = hAns (cur.map clsB) (cn r) b := by
  unfold hVal
  rw [List.length_map, cH_map _ (by omega), ford_cn1, h, if_neg (by simp), ← hr, hIdx_of hi.is]
theorem ans_last {cur : List Hb} {r b : Nat} (h : b = cur.length - 1) : hAns (cur.map clsB) r b = cn (uH cur (cur.length - 2)) := by
  unfold hAns; rw [List.length_map, if_pos h, uH_map]
theorem ans_low {cur : List Hb} {r : Nat} (h : 2 ≤ cur.length) (h2 : leFF (uH cur 0) 0 = true) : hAns (cur.map clsB) r 0 = cn (uH cur 0) := by
  unfold hAns; rw [List.length_map, if_neg (by omega), uH_map, h2, if_pos (by rfl)]
theorem ans_first {cur : List Hb} {r : Nat} (h : 2 ≤ cur.length) (h2 : leFF (uH cur 0) 0 = false) : hAns (cur.map clsB) r 0 = fadd 0 (fmul (fsub (cn (uH cur 0)) 0) (fdiv (fsub r 0) (fsub (cn (cH cur 0)) 0))) := by
  unfold hAns; rw [List.length_map, if_neg (by omega), uH_map, h2, if_neg (by simp), if_neg (by omega), cH_map _ (by omega)]
theorem ans_mid {cur : List Hb} {r k : Nat} (h : k + 1 < cur.length - 1) : hAns (cur.map clsB) r (k + 1) =
    fadd (cn (uH cur k)) (fmul (fsub (cn (uH cur (k + 1))) (cn (uH cur k))) (fdiv (fsub r (cn (cH cur k))) (fsub (cn (cH cur (k + 1))) (cn (cH cur k))))) := by
  unfold hAns; rw [List.length_map, if_neg (by omega), if_neg (by simp), if_pos (by omega), Nat.add_sub_cancel, uH_map, uH_map, cH_map _ (by omega), cH_map _ (by omega)]
theorem cn_0 : cn 0 = 0 := by decide +kernel
end Go.Fl
namespace Go.Proofs.Ytllphokepjekpaa
open Go.Fl Go.Rel Go.RowKit

set_option maxRecDepth 100000 in
theorem isinf_up (x : Nat) (w : World) : Calls Try.prog 89 #[.float .f64 x, .int .i64 1] w fun e w' => e = .returned (.bool (ford x fmax64 == some .gt)) ∧ w = w' := by
  have Ho : Hid ((FloatKind.f64.format.order x 9218868437227405311 == some .gt) = (ford x fmax64 == some .gt)) := rfl
  go_enter Try.func89, Try.ntmps89
  go_wp2
  go_ret
  exact ⟨ret_bool Ho.out, rfl⟩

/-- How far the search is. -/
def SeekRel (cur : List Hb) (r : Nat) (W : World) (i : Value) (wr : World) : Prop :=
  ∃ b : Nat, i = .int .i64 (b : Int) ∧ b ≤ cur.length - 1 ∧ (∀ j, j < b → geF (cH cur j) r = false) ∧ wr = W

set_option maxHeartbeats 8000000 in
set_option maxRecDepth 100000 in
theorem buckets_any (q : Nat) (a : Option Addr) (n cap : Nat) (bs : List Hb) (w : World) (hr : HRow w a n bs) (hb : n < 8796093022208) :
    Calls Try.prog 41 #[.float .f64 q, .slice a n cap] w (FB (bucketsS (cn q) bs) w) := by
  cases hq : isN q
  case true =>
    rw [buck_nan hq]
    clear hr
    go_enter Try.func41, Try.ntmps41
    go_wp2_with (go_at_call 66; refine (isnan_any _ _).mono ?_; rintro e w' ⟨rfl, rfl⟩; rw [hq])
    go_ret
    exact ⟨q, rfl, cn_of_N hq, Below.refl _ _⟩
  case false =>
  cases h1 : (ford q 0 == some .lt)
  case true =>
    have h1' : (FloatKind.f64.format.order q 0 == some .lt) = true := h1
    rw [buck_low hq h1]
    clear hr h1
    go_enter Try.func41, Try.ntmps41
    go_wp2_with (first | (go_at_call 66; refine (isnan_any _ _).mono ?_; rintro e w' ⟨rfl, rfl⟩; rw [hq]) | (go_at_call 42; refine (inf_down _).mono ?_; rintro e w' ⟨rfl, rfl⟩))
    go_ret
    exact ⟨ninf, rfl, cn_ninf, Below.refl _ _⟩
  case false =>
  cases h2 : (ford q w1 == some .gt)
  case true =>
    have h1' : (FloatKind.f64.format.order q 0 == some .lt) = false := h1
    have h2' : (FloatKind.f64.format.order q 4607182418800017408 == some .gt) = true := h2
    rw [buck_high hq h1 h2]
    clear hr h1 h2
    go_enter Try.func41, Try.ntmps41
    go_wp2_with (first | (go_at_call 66; refine (isnan_any _ _).mono ?_; rintro e w' ⟨rfl, rfl⟩; rw [hq]) | (go_at_call 42; refine (inf_up _).mono ?_; rintro e w' ⟨rfl, rfl⟩))
    go_ret
    exact ⟨pinf, rfl, cn_pinf, Below.refl _ _⟩
  case false =>
  have h1' : (FloatKind.f64.format.order q 0 == some .lt) = false := h1
  have h2' : (FloatKind.f64.format.order q 4607182418800017408 == some .gt) = false := h2
  have HNONE := Lib.hid (fun h3 => buck_none (bs := bs) hq h1 h2 h3)
  have HIN := Lib.hid (fun h3 => buck_in (bs := bs) hq h1 h2 h3)
  have HTG := Lib.hid (tog_any a n cap bs w hr hb)
  have HSP := Lib.hid (rfl : bucketsS (cn q) bs = bucketsS (cn q) bs)
  clear hr h1 h2
  generalize hTog bs = S at *
  generalize bucketsS (cn q) bs = V at *
  go_enter Try.func41, Try.ntmps41
  go_wp2_with (go_at_call 66; refine (isnan_any _ _).mono ?_; rintro e w' ⟨rfl, rfl⟩; rw [hq])
  refine HTG.out.mono ?_
  rintro e w1 ⟨a1, m, c1, O, rfl, hOl, hOS, b1, hm, hg⟩
  clear HTG
  have hSl : S.length = m := by rw [← hOS, List.length_map, hOl]
  by_cases hm2 : m < 2
  · have hV : V = nanc := HNONE.out (by unfold hSound; rw [hSl, decide_eq_false (by omega)]; rfl)
    have HV := Lib.hid hV
    have hd : decide (m < 2) = true := decide_eq_true hm2
    clear hOl hOS hSl hV HIN HNONE hg
    go_wp2_with (go_at_call 52; refine (nan_any _).mono ?_; rintro e w' ⟨rfl, rfl⟩)
    go_ret
    exact ⟨nanc, rfl, by rw [HV.out]; exact cn_nanc, b1⟩
  · obtain ⟨g, rfl, hg0, hwr⟩ := hg (by omega)
    obtain ⟨p, rfl⟩ : ∃ p, m = p + 2 := ⟨m - 2, by omega⟩
    obtain ⟨p0, p1, _, p3⟩ := hwr.2 (p + 1) (by omega)
    obtain ⟨t0, t1, _, _⟩ := hwr.2 0 (by omega)
    have hz : decide ((p : Int) + 2 < 2) = false := decide_eq_false (by omega)
    have hSo : hSound S = (ford (uH O (p + 1)) fmax64 == some .gt) := by
      unfold hSound
      rw [hSl, ← hOS, uH_map, decide_eq_true (by omega), Bool.true_and]; rfl
    cases ho : (ford (uH O (p + 1)) fmax64 == some .gt)
    · have HV : Hid (V = nanc) := HNONE.out (by rw [hSo, ho])
      clear hOl hOS hSl HIN HNONE hSo hwr
      go_wp2_with (first | (go_at_call 89; refine (isinf_up _ _).mono ?_; rintro e w' ⟨rfl, rfl⟩; rw [ho]) | (go_at_call 52; refine (nan_any _).mono ?_; rintro e w' ⟨rfl, rfl⟩))
      go_ret
      exact ⟨nanc, rfl, by rw [HV.out]; exact cn_nanc, b1⟩
    · have HV : Hid (V = hVal (cn q) (levels S)) := HIN.out (by rw [hSo, ho])
      have HS0 := Lib.hid (lvr_start hOS (by omega))
      have HSL2 : Hid (S.length = p + 2) := hSl
      have HWR := Lib.hid hwr
      clear hOl hOS hSl HIN HNONE hSo hwr
      go_wp2_with (go_at_call 89; refine (isinf_up _ _).mono ?_; rintro e w' ⟨rfl, rfl⟩; rw [ho])
      go_loopw [7, 8] (LvlRel S g w) (fun _ i _ => p + 2 - (intOf i).toNat)
      case atStart => exact ⟨1, cH O 0, O, rfl, rfl, HS0.out, HWR.out, b1⟩
      case round =>
        clear HS0 HWR p0 p1 p3 t0 t1
        obtain ⟨i, top, cur, rfl, rfl, hlv, hwr, bw2⟩ := hrel
        have hcl := hlv.1
        have hil := hlv.2.1
        have hS2 : S.length ≤ p + 2 := Nat.le_of_eq HSL2.out
        have hS3 : p + 2 ≤ S.length := Nat.le_of_eq HSL2.out.symm
        have HLV := Lib.hid hlv
        have HWR := Lib.hid hwr
        clear hlv hwr
        by_cases hi : i < p + 2
        · obtain ⟨_, k1, _, k3⟩ := HWR.out.2 i (by omega)
          have hiS : i < S.length := by omega
          have hiL : i < cur.length := by omega
          cases h1 : (ford (cH cur i) top == some .lt)
          · have h1' : (FloatKind.f64.format.order (cH cur i) top == some .lt) = false := h1
            cases h3 : (ford (cH cur i) top == some .gt)
            · have h3' : (FloatKind.f64.format.order (cH cur i) top == some .gt) = false := h3
              have HN := Lib.hid (HLV.out.eq hiS h1 h3)
              clear h1 h3
              go_wp2_with fail
              go_roundw
              case rel => exact ⟨i + 1, top, cur, rfl, by go_num, HN.out, HWR.out, bw2⟩
              case measure => simp [intOf]; omega
            · have h3' : (FloatKind.f64.format.order (cH cur i) top == some .gt) = true := h3
              have HN := Lib.hid (HLV.out.gt hiS h1 h3)
              clear h1 h3
              go_wp2_with fail
              go_roundw
              case rel => exact ⟨i + 1, cH cur i, cur, rfl, by go_num, HN.out, HWR.out, bw2⟩
              case measure => simp [intOf]; omega
          · have h1' : (FloatKind.f64.format.order (cH cur i) top == some .lt) = true := h1
            have HN := Lib.hid (HLV.out.lt hiS h1)
            clear h1
            go_wp2_with fail
            go_roundw
            case rel => exact ⟨i + 1, top, _, rfl, by go_num, HN.out, HWR.out.setC i top hiL, bw2.setCell (p := ⟨g, i * 2 + 1, none⟩) hg0 _⟩
            case measure => simp [intOf]; omega
        · have hi' : i = p + 2 := by omega
          have hc2 : cur.length = p + 2 := by omega
          have hdn := HLV.out
          rw [hi', ← HSL2.out] at hdn
          have hv := HV.out
          rw [← hdn.done] at hv
          obtain ⟨p0, p1, _, _⟩ := HWR.out.2 (p + 1) (by omega)
          obtain ⟨o0, _, _, _⟩ := HWR.out.2 p (by omega)
          obtain ⟨t0, t1, _, _⟩ := HWR.out.2 0 (by omega)
          clear hdn HV HLV
          have hlast : cur.length - 1 = p + 1 := by omega
          cases hpos : (ford (cH cur (p + 1)) 0 == some .gt)
          · have HV : Hid (V = nanc) := by show _ = _; rw [hv, val_none (by omega) (by rw [hlast]; exact hpos)]
            have hpos' : (FloatKind.f64.format.order (cH cur (p + 1)) 0 == some .gt) = false := hpos
            clear hpos hv hc2 hlast
            go_wp2_with (go_at_call 52; refine (nan_any _).mono ?_; rintro e w' ⟨rfl, rfl⟩)
            go_ret
            exact ⟨nanc, rfl, by rw [HV.out]; exact cn_nanc, bw2⟩
          · have hpos' : (FloatKind.f64.format.order (cH cur (p + 1)) 0 == some .gt) = true := hpos
            have HV := Lib.hid (fun (r : Nat) (hr : cn r = fmul (cn q) (cn (cH cur (p + 1)))) (b : Nat) (hi : IdxW cur r b) => hv.trans (val_in (r := r) (b := b) (by omega) (by rw [hlast]; exact hpos) (by rw [hlast]; exact hr) hi))
            have HC2 := Lib.hid hc2
            clear hpos hv hc2 hlast hS2 hS3 hcl hil HSL2
            go_wp2_with (refine wpList_fop _ _ _ _ _ _ _ rfl rfl rfl ?_; intro r nq hr9; have Hr9 := Lib.hid hr9; clear hr9)
            have hr9 := Hr9.out
            rw [fop_mul] at hr9
            have HV2 := Lib.hid (fun b hi => HV.out r hr9 b hi)
            have HWR2 := Lib.hid (HWR.out.drewN nq)
            have bw3 := bw2.drewN' nq
            have p0' : (wr.drewN nq).cell? ⟨g, (p + 1) * 2, none⟩ = some (.float .f64 (uH cur (p + 1))) := p0
            have o0' : (wr.drewN nq).cell? ⟨g, p * 2, none⟩ = some (.float .f64 (uH cur p)) := o0
            have t0' : (wr.drewN nq).cell? ⟨g, 0, none⟩ = some (.float .f64 (uH cur 0)) := by simpa using t0
            have t1' : (wr.drewN nq).cell? ⟨g, 1, none⟩ = some (.float .f64 (cH cur 0)) := by simpa using t1
            clear hr9 Hr9 HV HWR p0 p1 o0 t0 t1 bw2
            generalize wr.drewN nq = W at *
            have hcl1 : cur.length - 1 = p + 1 := by have := HC2.out; omega
            have HCL1 := Lib.hid hcl1
            clear hcl1
            go_loopw [11] (SeekRel cur r W) (fun i _ => p + 2 - (intOf i).toNat)
            case atStart => exact ⟨0, rfl, by omega, fun j hj => by omega, rfl⟩
            case round =>
              obtain ⟨b, rfl, hbl, hall, hwW⟩ := hrel
              subst hwW
              have HALL := Lib.hid hall
              clear hall
              have hb1 : b ≤ p + 1 := by rw [← HCL1.out]; exact hbl
              clear hbl
              have hcge : p + 2 ≤ cur.length := Nat.le_of_eq HC2.out.symm
              have hcle : cur.length ≤ p + 2 := Nat.le_of_eq HC2.out
              have hcge' : 2 ≤ cur.length := by omega
              by_cases hbl : b < p + 1
              · obtain ⟨u0, u1, _, _⟩ := HWR2.out.2 b (by omega)
                have hzz : (b : Int) < (p : Int) + 2 - 1 := by omega
                cases hge : geF (cH cur b) r
                · have hge' : (FloatKind.f64.format.order (cH cur b) r == some .gt || FloatKind.f64.format.order (cH cur b) r == some .eq) = false := hge
                  have HN : Hid (∀ j, j < b + 1 → geF (cH cur j) r = false) := fun j hj => by
                    by_cases e : j = b
                    · rw [e]; exact hge
                    · exact HALL.out j (by omega)
                  clear hge
                  go_wp2_with fail
                  go_roundw
                  case rel => exact ⟨b + 1, by go_num, by rw [HCL1.out]; omega, HN.out, rfl⟩
                  case measure => simp [intOf]; omega
                · have hge' : (FloatKind.f64.format.order (cH cur b) r == some .gt || FloatKind.f64.format.order (cH cur b) r == some .eq) = true := hge
                  have HVB := Lib.hid (HV2.out b ⟨by rw [HCL1.out]; omega, HALL.out, fun _ => hge⟩)
                  clear hge HV2
                  have hne : ((b : Int) == (p : Int) + 2 - 1) = false := by simp; omega
                  by_cases hb0 : b = 0
                  · subst hb0
                    have hz1 : decide ((0 : Int) < 0) = false := by decide
                    cases hle : leFF (uH cur 0) 0
                    · have hle' : (FloatKind.f64.format.order (uH cur 0) 0 == some .lt || FloatKind.f64.format.order (uH cur 0) 0 == some .eq) = false := hle
                      have HA := Lib.hid (HVB.out.trans (ans_first (cur := cur) (r := cn r) hcge' hle))
                      clear HVB hle
                      go_wp2_with (refine wpList_fop _ _ _ _ _ _ _ rfl rfl rfl ?_; intro rn nn hr9; have Hr9 := Lib.hid hr9; clear hr9)
                      go_ret
                      rename_i e1 m1 H1 e2 m2 H2 e3 m3 H3 e4 m4 H4 e5 m5 H5
                      refine ⟨rn, rfl, ?_, by repeat (first | exact bw3 | refine Below.drewN' ?_ _)⟩
                      rw [HA.out, Hr9.out, H5.out, H4.out, H3.out, H2.out, H1.out, cn_0, fop_add, fop_sub, fop_mul, fop_quo]
                    · have hle' : (FloatKind.f64.format.order (uH cur 0) 0 == some .lt || FloatKind.f64.format.order (uH cur 0) 0 == some .eq) = true := hle
                      have HA := Lib.hid (HVB.out.trans (ans_low (cur := cur) (r := cn r) hcge' hle))
                      clear HVB hle
                      go_wp2_with fail
                      go_ret
                      exact ⟨uH cur 0, rfl, HA.out.symm, bw3⟩
                  · obtain ⟨k, rfl⟩ : ∃ k, b = k + 1 := ⟨b - 1, by omega⟩
                    obtain ⟨l0, l1, _, _⟩ := HWR2.out.2 k (by omega)
                    have HA := Lib.hid (HVB.out.trans (ans_mid (cur := cur) (r := cn r) (k := k) (by rw [HCL1.out]; exact hbl)))
                    clear HVB
                    go_wp2_with (refine wpList_fop _ _ _ _ _ _ _ rfl rfl rfl ?_; intro r nq hr9; have Hr9 := Lib.hid hr9; clear hr9)
                    go_quiet (fail)
                    go_wp2_with (refine wpList_fop _ _ _ _ _ _ _ rfl rfl rfl ?_; intro rn nn hr9; have Hr9 := Lib.hid hr9; clear hr9)
                    go_ret
                    rename_i e1 m1 H1 e2 m2 H2 e3 m3 H3 e4 m4 H4 e5 m5 H5
                    refine ⟨rn, rfl, ?_, ((((bw3.drewN' _).drewN' _).drewN' _).drewN' _).drewN' _⟩
                    rw [HA.out, Hr9.out, H5.out, H4.out, H3.out, H2.out, H1.out, fop_add, fop_sub, fop_mul, fop_quo]
              · have hbe : b = p + 1 := by omega
                have hzz : ¬ (b : Int) < (p : Int) + 2 - 1 := by omega
                have hne : ((b : Int) == (p : Int) + 2 - 1) = true := by simp; omega
                have HVB := Lib.hid ((HV2.out b ⟨by rw [HCL1.out]; omega, HALL.out, fun h => by rw [HCL1.out] at h; omega⟩).trans (ans_last (by rw [HCL1.out]; exact hbe)))
                have hc22 : cur.length - 2 = p := by omega
                rw [hc22] at HVB
                clear HV2 hc22
                go_wp2_with fail
                go_ret
                exact ⟨uH cur p, rfl, HVB.out.symm, bw3⟩
end Go.Proofs.Ytllphokepjekpaa
