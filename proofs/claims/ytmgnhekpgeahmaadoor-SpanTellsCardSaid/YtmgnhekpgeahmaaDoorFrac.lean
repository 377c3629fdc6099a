/- Fractions behind a point. -/
import Derived.Test.YtmgnhekpgeahmaaDoorDurMeas
import Derived.Test.YtmgnhekpgeahmaaDoorBlock
import Derived.Deep.Cut
namespace Go.Proofs.YtmgnhekpgeahmaaDoor
open Go.Dur Go.Fl Go.RowKit

/-- A digit's value (0 behind the end). -/
def dv (t : ByteArray) (i : Nat) : Nat := bt t i - 48
def milN (t : ByteArray) : Nat → Nat
  | 0 => 0
  | k + 1 => milN t k * 10 + dv t k
/-- Stands a digit other than 0 among the places 4 to k - 1? -/
def nzN (t : ByteArray) : Nat → Bool
  | 0 => false
  | k + 1 => nzN t k || (decide (4 ≤ k) && decide (bt t k ≠ 48))
/-- How what is behind three digits stands to a half. -/
def halfN (t : ByteArray) : Int := if t.size < 4 ∨ bt t 3 < 53 then -1 else if 53 < bt t 3 ∨ nzN t t.size = true then 1 else 0

theorem bt_out {t : ByteArray} {i : Nat} (h : t.size ≤ i) : bt t i = 0 := by
  obtain ⟨⟨l⟩⟩ := t
  have : l.length ≤ i := h
  unfold bt
  simp [List.getD, this]

theorem nz_low (t : ByteArray) {k : Nat} (h : k ≤ 4) : nzN t k = false := by
  match k, h with
  | 0, _ | 1, _ | 2, _ | 3, _ | 4, _ => simp [nzN]

def FracRet (t : ByteArray) (w : World) (e : Ending) (w' : World) : Prop := e = .returned (.agg #[.int .i64 ((milN t 3 : Nat) : Int), .int .i64 (halfN t)]) ∧ Below w.heap.size w w'

def FracRel (t : ByteArray) (B : Nat) (w : World) (i : Value) (wr : World) : Prop :=
  ∃ k : Nat, k ≤ 3 ∧ i = .int .i64 (k : Int) ∧ Bk.Is wr B #[.int .i64 0, .int .i64 0] 69 ∧ Bk.Is wr (B + 1) #[.int .i64 ((milN t k : Nat) : Int), .int .i64 (-1)] 69 ∧ Below B w wr
def FracRel2 (t : ByteArray) (m3 : Nat) (B : Nat) (w : World) (i : Value) (wr : World) : Prop :=
  ∃ (k : Nat) (h : Int), 4 ≤ k ∧ k ≤ t.size ∧ i = .int .i64 (k : Int) ∧ Bk.Is wr B #[.int .i64 0, .int .i64 0] 69 ∧ Bk.Is wr (B + 1) #[.int .i64 (m3 : Int), .int .i64 h] 69 ∧ Below B w wr ∧ h = if 53 < bt t 3 ∨ nzN t k = true then 1 else 0

theorem mil_le (t : ByteArray) (hd : AllD t) : ∀ k, k ≤ 3 → milN t k ≤ 999 := by
  have h : ∀ i, dv t i ≤ 9 := fun i => by
    unfold dv
    by_cases hi : i < t.size
    · have := dig_bounds (hd i hi); omega
    · rw [bt_out (by omega)]; omega
  intro k hk
  match k, hk with
  | 0, _ => simp [milN]
  | 1, _ => have := h 0; simp only [milN]; omega
  | 2, _ => have := h 0; have := h 1; simp only [milN]; omega
  | 3, _ => have := h 0; have := h 1; have := h 2; simp only [milN]; omega

set_option maxHeartbeats 2000000 in
theorem frac_any (t : ByteArray) (w : World) (hs : t.size ≤ 9223372036854775806) (hd : AllD t) : Calls Tryd.prog 46 #[.string t] w (FracRet t w) := by
  have hml := mil_le t hd
  go_enter Tryd.func46, Tryd.ntmps46
  go_wp2_with fail
  go_loopw [8] (FracRel t w.heap.size w) (fun i _ => 3 - (intOf i).toNat)
  case atStart =>
    refine ⟨0, by omega, rfl, (Bk.Is.made _ _ _).alloc _, ?_, ((Below.refl _ _).alloc (Nat.le_refl _) _).alloc (by simp) _⟩
    have := Bk.Is.made (w.alloc (.cells #[.int .i64 0, .int .i64 0] 69)) #[.int .i64 0, .int .i64 (-1)] 69
    simpa [milN] using this
  case round =>
    obtain ⟨k, hk, rfl, hb0, hb1, bw⟩ := hrel
    have c0 : wr.cell? ⟨w.heap.size + 1, 0, none⟩ = some (.int .i64 ((milN t k : Nat) : Int)) := hb1.cell 0
    have c1 : wr.cell? ⟨w.heap.size + 1, 1, none⟩ = some (.int .i64 (-1)) := hb1.cell 1
    have f0 := hb1.free 0
    have f1 := hb1.free 1
    by_cases hlt : k < 3
    · have HM : Hid (milN t (k + 1) = milN t k * 10 + dv t k) := rfl
      have hm1 := hml k hk
      have hm2 := hml (k + 1) (by omega)
      rw [HM.out] at hm2
      clear hml
      by_cases hin : k < t.size
      · have hb := bt_get t hin
        have hc := dig_bounds (hd k hin)
        have HV : Hid (dv t k = bt t k - 48) := rfl
        have hcv : IntKind.u8.wrap ((bt t k : Int) - 48) = (bt t k : Int) - 48 := IntWalk.u8_in _ (by omega)
        rw [HV.out] at hm2
        clear hd
        go_wp2_with fail
        go_roundw
        case rel =>
          refine ⟨k + 1, by omega, by go_num, hb0.other (by simp) _, ?_, bw.setCell (by simp) _⟩
          have h2 := hb1.set 0 (.int .i64 ((milN t k : Int) * 10 + ((bt t k : Int) - 48)))
          rw [HM.out, HV.out]
          have e : (((milN t k * 10 + (bt t k - 48) : Nat)) : Int) = (milN t k : Int) * 10 + ((bt t k : Int) - 48) := by omega
          rw [e]
          exact h2
        case measure => simp [intOf]; omega
      · have HV : Hid (dv t k = 0) := by show _ = _; unfold dv; rw [bt_out (by omega)]
        rw [HV.out] at hm2
        clear hd
        go_wp2_with fail
        go_roundw
        case rel =>
          refine ⟨k + 1, by omega, by go_num, hb0.other (by simp) _, ?_, bw.setCell (by simp) _⟩
          have h2 := hb1.set 0 (.int .i64 ((milN t k : Int) * 10))
          rw [HM.out, HV.out]
          have e : (((milN t k * 10 + 0 : Nat)) : Int) = (milN t k : Int) * 10 := by omega
          rw [e]
          exact h2
        case measure => simp [intOf]; omega
    · have hk3 : k = 3 := by omega
      subst hk3
      clear hml
      have g0 := hb0.free 0
      have g1 := hb0.free 1
      have d0 : wr.cell? ⟨w.heap.size, 0, none⟩ = some (.int .i64 0) := hb0.cell 0
      have d1 : wr.cell? ⟨w.heap.size, 1, none⟩ = some (.int .i64 0) := hb0.cell 1
      have HH : Hid (halfN t = if t.size < 4 ∨ bt t 3 < 53 then -1 else if 53 < bt t 3 ∨ nzN t t.size = true then 1 else 0) := rfl
      obtain ⟨m3, hm3⟩ : ∃ m, milN t 3 = m := ⟨_, rfl⟩
      rw [hm3] at hb1 c0
      have HM3 := Lib.hid hm3
      clear hm3
      by_cases h4 : t.size < 4
      · have Hh : Hid (halfN t = -1) := by show _ = _; rw [HH.out, if_pos (.inl h4)]
        go_wp2_with fail
        refine Bk.ret_block ((hb0.set 0 (.int .i64 (m3 : Int))).set 1 (.int .i64 (-1))) rfl rfl Tryd.underlying69 rfl (by kernel_rfl) rfl ?_
        exact ⟨by rw [HM3.out, Hh.out]; rfl, (bw.setCell (Nat.le_refl _) _).setCell (Nat.le_refl _) _⟩
      · have hb := bt_get t (show 3 < t.size by omega)
        have hc := dig_bounds (hd 3 (by omega))
        by_cases h5 : bt t 3 < 53
        · have Hh : Hid (halfN t = -1) := by show _ = _; rw [HH.out, if_pos (.inr h5)]
          clear hd
          go_wp2_with fail
          refine Bk.ret_block ((hb0.set 0 (.int .i64 (m3 : Int))).set 1 (.int .i64 (-1))) rfl rfl Tryd.underlying69 rfl (by kernel_rfl) rfl ?_
          exact ⟨by rw [HM3.out, Hh.out]; rfl, (bw.setCell (Nat.le_refl _) _).setCell (Nat.le_refl _) _⟩
        · have HH2 : Hid (halfN t = if 53 < bt t 3 ∨ nzN t t.size = true then 1 else 0) := by show _ = _; rw [HH.out, if_neg (by omega)]
          by_cases h6 : 53 < bt t 3
          · have H6 : Hid (53 < bt t 3) := h6
            clear hd
            go_wp2_with fail
            go_loopw [6] (FracRel2 t m3 w.heap.size w) (fun i _ => t.size - (intOf i).toNat)
            case atStart => exact ⟨4, _, Nat.le_refl _, by omega, rfl, (hb0.other (by simp) _).other (by simp) _, (hb1.set 1 (.int .i64 0)).set 1 (.int .i64 1), (bw.setCell (by simp) _).setCell (by simp) _, by rw [nz_low t (Nat.le_refl _)]; rw [if_pos (.inl H6.out)]⟩
            case round =>
              obtain ⟨k, h, hk4, hkt, rfl, hb0, hb1, bw, hh⟩ := hrel
              have c0 : wr.cell? ⟨w.heap.size + 1, 0, none⟩ = some (.int .i64 (m3 : Int)) := hb1.cell 0
              have c1 : wr.cell? ⟨w.heap.size + 1, 1, none⟩ = some (.int .i64 h) := hb1.cell 1
              have f1 := hb1.free 1
              have g0 := hb0.free 0
              have g1 := hb0.free 1
              have d0 : wr.cell? ⟨w.heap.size, 0, none⟩ = some (.int .i64 0) := hb0.cell 0
              have d1 : wr.cell? ⟨w.heap.size, 1, none⟩ = some (.int .i64 0) := hb0.cell 1
              have HHH := Lib.hid hh
              clear hh
              by_cases hlt : k < t.size
              · have hb2 := bt_get t hlt
                have HN : Hid (nzN t (k + 1) = (nzN t k || (decide (4 ≤ k) && decide (bt t k ≠ 48)))) := rfl
                by_cases h48 : bt t k = 48
                · have HN2 : Hid (nzN t (k + 1) = nzN t k) := by show _ = _; rw [HN.out, h48]; simp
                  have hz : ((bt t k : Int) == 48) = true := eqb h48
                  clear h48 HN
                  go_wp2_with fail
                  go_roundw
                  case rel => exact ⟨k + 1, h, by omega, by omega, by go_num, hb0, hb1, bw, by rw [HN2.out, HHH.out]⟩
                  case measure => simp [intOf]; omega
                · have HN2 : Hid (nzN t (k + 1) = true) := by show _ = _; rw [HN.out]; simp [h48, hk4]
                  have hz : ((bt t k : Int) == 48) = false := neb h48
                  clear h48 HN
                  go_wp2_with fail
                  go_roundw
                  case rel => exact ⟨k + 1, 1, by omega, by omega, by go_num, hb0.other (by simp) _, hb1.set 1 (.int .i64 1), bw.setCell (by simp) _, by rw [HN2.out]; simp⟩
                  case measure => simp [intOf]; omega
              · have hk' : k = t.size := by omega
                have Hh : Hid (halfN t = h) := by show _ = _; rw [HH2.out, HHH.out, hk']
                clear hk'
                go_wp2_with fail
                refine Bk.ret_block ((hb0.set 0 (.int .i64 (m3 : Int))).set 1 (.int .i64 h)) rfl rfl Tryd.underlying69 rfl (by kernel_rfl) rfl ?_
                exact ⟨by rw [HM3.out, Hh.out]; rfl, (bw.setCell (Nat.le_refl _) _).setCell (Nat.le_refl _) _⟩
          · have H6 : Hid (¬ 53 < bt t 3) := h6
            clear hd
            go_wp2_with fail
            go_loopw [6] (FracRel2 t m3 w.heap.size w) (fun i _ => t.size - (intOf i).toNat)
            case atStart => exact ⟨4, _, Nat.le_refl _, by omega, rfl, hb0.other (by simp) _, hb1.set 1 (.int .i64 0), bw.setCell (by simp) _, by rw [nz_low t (Nat.le_refl _)]; rw [if_neg (by have := H6.out; simp; omega)]⟩
            case round =>
              obtain ⟨k, h, hk4, hkt, rfl, hb0, hb1, bw, hh⟩ := hrel
              have c0 : wr.cell? ⟨w.heap.size + 1, 0, none⟩ = some (.int .i64 (m3 : Int)) := hb1.cell 0
              have c1 : wr.cell? ⟨w.heap.size + 1, 1, none⟩ = some (.int .i64 h) := hb1.cell 1
              have f1 := hb1.free 1
              have g0 := hb0.free 0
              have g1 := hb0.free 1
              have d0 : wr.cell? ⟨w.heap.size, 0, none⟩ = some (.int .i64 0) := hb0.cell 0
              have d1 : wr.cell? ⟨w.heap.size, 1, none⟩ = some (.int .i64 0) := hb0.cell 1
              have HHH := Lib.hid hh
              clear hh
              by_cases hlt : k < t.size
              · have hb2 := bt_get t hlt
                have HN : Hid (nzN t (k + 1) = (nzN t k || (decide (4 ≤ k) && decide (bt t k ≠ 48)))) := rfl
                by_cases h48 : bt t k = 48
                · have HN2 : Hid (nzN t (k + 1) = nzN t k) := by show _ = _; rw [HN.out, h48]; simp
                  have hz : ((bt t k : Int) == 48) = true := eqb h48
                  clear h48 HN
                  go_wp2_with fail
                  go_roundw
                  case rel => exact ⟨k + 1, h, by omega, by omega, by go_num, hb0, hb1, bw, by rw [HN2.out, HHH.out]⟩
                  case measure => simp [intOf]; omega
                · have HN2 : Hid (nzN t (k + 1) = true) := by show _ = _; rw [HN.out]; simp [h48, hk4]
                  have hz : ((bt t k : Int) == 48) = false := neb h48
                  clear h48 HN
                  go_wp2_with fail
                  go_roundw
                  case rel => exact ⟨k + 1, 1, by omega, by omega, by go_num, hb0.other (by simp) _, hb1.set 1 (.int .i64 1), bw.setCell (by simp) _, by rw [HN2.out]; simp⟩
                  case measure => simp [intOf]; omega
              · have hk' : k = t.size := by omega
                have Hh : Hid (halfN t = h) := by show _ = _; rw [HH2.out, HHH.out, hk']
                clear hk'
                go_wp2_with fail
                refine Bk.ret_block ((hb0.set 0 (.int .i64 (m3 : Int))).set 1 (.int .i64 h)) rfl rfl Tryd.underlying69 rfl (by kernel_rfl) rfl ?_
                exact ⟨by rw [HM3.out, Hh.out]; rfl, (bw.setCell (Nat.le_refl _) _).setCell (Nat.le_refl _) _⟩

end Go.Proofs.YtmgnhekpgeahmaaDoor
