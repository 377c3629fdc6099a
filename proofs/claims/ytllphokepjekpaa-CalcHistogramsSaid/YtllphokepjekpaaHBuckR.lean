/- weirref06.Buckets. -/
import Derived.Test.YtllphokepjekpaaHBucks
namespace Go.Proofs.Ytllphokepjekpaa
open Go.Fl Go.Rel Go.RowKit

theorem sound_len {S : List Hb} (h : hSound S = true) : 2 ≤ S.length := by
  unfold hSound at h; simp at h; exact h.1

/-- How far the search from above is. -/
def DownRel (cur : List Hb) (r p : Nat) (W : World) (vb i : Value) (wr : World) : Prop :=
  ∃ b k : Nat, vb = .int .i64 (b : Int) ∧ i = .int .i64 ((k : Int) - 1) ∧ k ≤ b ∧ k ≤ p + 1 ∧ b ≤ p + 1 ∧ (∀ j, k ≤ j → j < b → geF (cH cur j) r = false) ∧ (b < p + 1 → geF (cH cur b) r = true) ∧ wr = W

set_option maxHeartbeats 8000000 in
set_option maxRecDepth 100000 in
theorem refbuckets_any (q : Nat) (a : Option Addr) (n cap : Nat) (bs : List Hb) (w : World) (hr : HRow w a n bs) (hs : SlOk a n cap) (hb : n < 8796093022208) :
    Calls Try.prog 43 #[.float .f64 q, .slice a n cap] w (FB (bucketsS (cn q) bs) w) := by
  cases hq : isN q
  case true =>
    rw [buck_nan hq]
    clear hr hs
    go_enter Try.func43, Try.ntmps43
    go_wp2_with (first | (go_at_call 77; refine (bad_any _ _).mono ?_; rintro e w' ⟨rfl, rfl⟩; rw [hq]) | (go_at_call 53; refine (refnan_any _).mono ?_; rintro e w' ⟨rfl, rfl⟩))
    go_ret
    exact ⟨nanc, rfl, cn_nanc, Below.refl _ _⟩
  case false =>
  cases h1 : (ford q 0 == some .lt)
  case true =>
    have h1' : (FloatKind.f64.format.order q 0 == some .lt) = true := h1
    rw [buck_low hq h1]
    clear hr h1 hs
    go_enter Try.func43, Try.ntmps43
    go_wp2_with (first | (go_at_call 77; refine (bad_any _ _).mono ?_; rintro e w' ⟨rfl, rfl⟩; rw [hq]) | (go_at_call 79; refine (rinf_down _).mono ?_; rintro e w' ⟨rfl, rfl⟩))
    go_ret
    exact ⟨ninf, rfl, cn_ninf, Below.refl _ _⟩
  case false =>
  cases h2 : (ford q w1 == some .gt)
  case true =>
    have h1' : (FloatKind.f64.format.order q 0 == some .lt) = false := h1
    have h2' : (FloatKind.f64.format.order q 4607182418800017408 == some .gt) = true := h2
    rw [buck_high hq h1 h2]
    clear hr h1 h2 hs
    go_enter Try.func43, Try.ntmps43
    go_wp2_with (first | (go_at_call 77; refine (bad_any _ _).mono ?_; rintro e w' ⟨rfl, rfl⟩; rw [hq]) | (go_at_call 79; refine (rinf_up _).mono ?_; rintro e w' ⟨rfl, rfl⟩))
    go_ret
    exact ⟨pinf, rfl, cn_pinf, Below.refl _ _⟩
  case false =>
  have h1' : (FloatKind.f64.format.order q 0 == some .lt) = false := h1
  have h2' : (FloatKind.f64.format.order q 4607182418800017408 == some .gt) = false := h2
  have HNONE := Lib.hid (fun h3 => buck_none (bs := bs) hq h1 h2 h3)
  have HIN := Lib.hid (fun h3 => buck_in (bs := bs) hq h1 h2 h3)
  have HTG := Lib.hid (steps_any a n cap bs w hr hs hb)
  clear hr h1 h2 hs
  generalize hTog bs = S at *
  generalize bucketsS (cn q) bs = V at *
  go_enter Try.func43, Try.ntmps43
  go_wp2_with (go_at_call 77; refine (bad_any _ _).mono ?_; rintro e w' ⟨rfl, rfl⟩; rw [hq])
  refine HTG.out.mono ?_
  rintro e w1 ⟨a1, m, c1, cur, rfl, hOS, hrow, b1⟩
  clear HTG
  have hcm := hrow.1
  cases hso : hSound S
  · have hV : V = nanc := HNONE.out hso
    have hnil : cur = [] := by
      have : cur.map clsB = [] := by rw [hOS]; unfold stepsS; rw [hso]; rfl
      simpa using this
    have hm0 : m = 0 := by rw [← hcm, hnil]; rfl
    subst hm0
    have HV := Lib.hid hV
    clear hOS hV HIN HNONE hrow hcm hnil hso
    go_wp2_with (go_at_call 53; refine (refnan_any _).mono ?_; rintro e w' ⟨rfl, rfl⟩)
    go_ret
    exact ⟨nanc, rfl, by rw [HV.out]; exact cn_nanc, b1⟩
  · have hOS2 : cur.map clsB = levels S := by rw [hOS]; unfold stepsS; rw [if_pos hso]
    have hV : V = hVal (cn q) (cur.map clsB) := by rw [hOS2]; exact HIN.out hso
    have hl2 : 2 ≤ m := by
      have := congrArg List.length hOS2
      rw [List.length_map, length_levels] at this
      have := sound_len hso
      omega
    obtain ⟨p, rfl⟩ : ∃ p, m = p + 2 := ⟨m - 2, by omega⟩
    obtain ⟨g, og, rfl, hcell⟩ := hrow.2.2 (by omega)
    obtain ⟨p0, p1⟩ := hcell (p + 1) (by omega)
    obtain ⟨o0, o1⟩ := hcell p (by omega)
    obtain ⟨t0, t1⟩ := hcell 0 (by omega)
    rw [Nat.zero_mul, Nat.add_zero] at t0 t1
    have HROW := Lib.hid hcell
    have hmx := hrow.2.1
    have hzn : (((p : Int) + 2) == 0) = false := by simp; omega
    have hcl1 : cur.length - 1 = p + 1 := by omega
    have hlow : 0 < cur.length := by omega
    clear hOS hOS2 HIN HNONE hrow hl2 hso
    cases hpos : (ford (cH cur (p + 1)) 0 == some .gt)
    · have HV : Hid (V = nanc) := by show _ = _; rw [hV, val_none hlow (by rw [hcl1]; exact hpos)]
      have hpos' : (FloatKind.f64.format.order (cH cur (p + 1)) 0 == some .gt) = false := hpos
      clear hpos hV hcl1 hcm
      go_wp2_with (go_at_call 53; refine (refnan_any _).mono ?_; rintro e w' ⟨rfl, rfl⟩)
      go_ret
      exact ⟨nanc, rfl, by rw [HV.out]; exact cn_nanc, b1⟩
    · have hpos' : (FloatKind.f64.format.order (cH cur (p + 1)) 0 == some .gt) = true := hpos
      have HV := Lib.hid (fun (r : Nat) (hr : cn r = fmul (cn q) (cn (cH cur (p + 1)))) (b : Nat) (hi : IdxW cur r b) => hV.trans (val_in (r := r) (b := b) hlow (by rw [hcl1]; exact hpos) (by rw [hcl1]; exact hr) hi))
      have HC2 : Hid (cur.length = p + 2) := hcm
      clear hpos hV hcl1 hcm
      go_wp2_with (refine wpList_fop _ _ _ _ _ _ _ rfl rfl rfl ?_; intro r nq hr9; have Hr9 := Lib.hid hr9; clear hr9)
      have hr9 := Hr9.out
      rw [fop_mul] at hr9
      have HV2 := Lib.hid (fun b hi => HV.out r hr9 b hi)
      have bw3 := b1.drewN' nq
      have HROW2 : Hid (∀ i, i < p + 2 → (w1.drewN nq).cell? ⟨g, og + i * 2, none⟩ = some (.float .f64 (uH cur i)) ∧ (w1.drewN nq).cell? ⟨g, og + i * 2 + 1, none⟩ = some (.float .f64 (cH cur i))) := HROW.out
      have o0' : (w1.drewN nq).cell? ⟨g, og + p * 2, none⟩ = some (.float .f64 (uH cur p)) := o0
      have t0' : (w1.drewN nq).cell? ⟨g, og, none⟩ = some (.float .f64 (uH cur 0)) := t0
      have t1' : (w1.drewN nq).cell? ⟨g, og + 1, none⟩ = some (.float .f64 (cH cur 0)) := t1
      clear hr9 Hr9 HV HROW p0 p1 o0 o1 t0 t1 b1
      generalize w1.drewN nq = W at *
      have HCL1 : Hid (cur.length - 1 = p + 1) := by show _ = _; rw [HC2.out]; omega
      go_loopw [8, 9] (DownRel cur r p W) (fun _ i _ => (intOf i + 1).toNat)
      case atStart => exact ⟨p + 1, p + 1, by go_num, by go_num, by omega, by omega, by omega, fun j h1 h2 => by omega, fun h => by omega, rfl⟩
      case round =>
        obtain ⟨b, k, rfl, rfl, hkb, hkp, hbp, hall, hge0, hwW⟩ := hrel
        subst hwW
        have HALL := Lib.hid hall
        have HGE := Lib.hid hge0
        clear hall hge0
        by_cases hk0 : k = 0
        · have HVB0 := Lib.hid (HV2.out b ⟨by rw [HCL1.out]; omega, fun j hj => HALL.out j (by omega) hj, fun h => HGE.out (by rw [HCL1.out] at h; exact h)⟩)
          have hcge : p + 2 ≤ cur.length := Nat.le_of_eq HC2.out.symm
          have hcle : cur.length ≤ p + 2 := Nat.le_of_eq HC2.out
          have hcge' : 2 ≤ cur.length := by omega
          have hkz : ¬ 0 ≤ (k : Int) - 1 := by omega
          clear HALL HGE HV2
          by_cases hbl : b < p + 1
          · have hne : ((b : Int) == (p : Int) + 2 - 1) = false := by simp; omega
            by_cases hb0 : b = 0
            · subst hb0
              have hz1 : decide ((0 : Int) < 0) = false := by decide
              cases hle : leFF (uH cur 0) 0
              · have hle' : (FloatKind.f64.format.order (uH cur 0) 0 == some .lt || FloatKind.f64.format.order (uH cur 0) 0 == some .eq) = false := hle
                have HA := Lib.hid (HVB0.out.trans (ans_first (cur := cur) (r := cn r) hcge' hle))
                clear HVB0 hle
                go_wp2_with (refine wpList_fop _ _ _ _ _ _ _ rfl rfl rfl ?_; intro rn nn hr9; have Hr9 := Lib.hid hr9; clear hr9)
                go_ret
                rename_i e1 m1 H1 e2 m2 H2 e3 m3 H3 e4 m4 H4 e5 m5 H5
                refine ⟨rn, rfl, ?_, by repeat (first | exact bw3 | refine Below.drewN' ?_ _)⟩
                rw [HA.out, Hr9.out, H5.out, H4.out, H3.out, H2.out, H1.out, cn_0, fop_add, fop_sub, fop_mul, fop_quo]
              · have hle' : (FloatKind.f64.format.order (uH cur 0) 0 == some .lt || FloatKind.f64.format.order (uH cur 0) 0 == some .eq) = true := hle
                have HA := Lib.hid (HVB0.out.trans (ans_low (cur := cur) (r := cn r) hcge' hle))
                clear HVB0 hle
                go_wp2_with fail
                go_ret
                exact ⟨uH cur 0, rfl, HA.out.symm, bw3⟩
            · obtain ⟨l, rfl⟩ : ∃ l, b = l + 1 := ⟨b - 1, by omega⟩
              obtain ⟨l0, l1⟩ := HROW2.out l (by omega)
              obtain ⟨u0, u1⟩ := HROW2.out (l + 1) (by omega)
              have HA := Lib.hid (HVB0.out.trans (ans_mid (cur := cur) (r := cn r) (k := l) (by rw [HCL1.out]; exact hbl)))
              clear HVB0
              go_wp2_with (refine wpList_fop _ _ _ _ _ _ _ rfl rfl rfl ?_; intro rn nn hr9; have Hr9 := Lib.hid hr9; clear hr9)
              go_quiet (fail)
              go_wp2_with (refine wpList_fop _ _ _ _ _ _ _ rfl rfl rfl ?_; intro rn nn hr9; have Hr9 := Lib.hid hr9; clear hr9)
              go_ret
              rename_i e1 m1 H1 e2 m2 H2 e3 m3 H3 e4 m4 H4 e5 m5 H5
              refine ⟨rn, rfl, ?_, by repeat (first | exact bw3 | refine Below.drewN' ?_ _)⟩
              rw [HA.out, Hr9.out, H5.out, H4.out, H3.out, H2.out, H1.out, fop_add, fop_sub, fop_mul, fop_quo]
          · have hbe : b = p + 1 := by omega
            have HVB := Lib.hid (HVB0.out.trans (ans_last (by rw [HCL1.out]; exact hbe)))
            have hc22 : cur.length - 2 = p := by omega
            rw [hc22] at HVB
            have hne : ((b : Int) == (p : Int) + 2 - 1) = true := by simp; omega
            clear HVB0 hc22
            go_wp2_with fail
            go_ret
            exact ⟨uH cur p, rfl, HVB.out.symm, bw3⟩
        · obtain ⟨l, rfl⟩ : ∃ l, k = l + 1 := ⟨k - 1, by omega⟩
          obtain ⟨u0, u1⟩ := HROW2.out l (by omega)
          have hzz : 0 ≤ (l : Int) + 1 - 1 := by omega
          cases hge : geF (cH cur l) r
          · have hge' : (FloatKind.f64.format.order (cH cur l) r == some .gt || FloatKind.f64.format.order (cH cur l) r == some .eq) = false := hge
            have HN : Hid (∀ j, l ≤ j → j < b → geF (cH cur j) r = false) := fun j h1 h2 => by
              by_cases e : j = l
              · rw [e]; exact hge
              · exact HALL.out j (by omega) h2
            clear hge
            go_wp2_with fail
            go_roundw
            case rel => exact ⟨b, l, rfl, by go_num, by omega, by omega, hbp, HN.out, HGE.out, rfl⟩
            case measure => simp [intOf] <;> omega
          · have hge' : (FloatKind.f64.format.order (cH cur l) r == some .gt || FloatKind.f64.format.order (cH cur l) r == some .eq) = true := hge
            have HG2 := Lib.hid hge
            clear hge
            go_wp2_with fail
            go_roundw
            case rel => exact ⟨l, l, by go_num, by go_num, by omega, by omega, by omega, fun j h1 h2 => by omega, fun _ => HG2.out, rfl⟩
            case measure => simp [intOf] <;> omega
end Go.Proofs.Ytllphokepjekpaa
