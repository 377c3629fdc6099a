/- span.Text: what it answers. -/
import Derived.Test.YtmgnhekpgeahmaaDoorAppD
import Derived.Test.YtmgnhekpgeahmaaDoorDurMeas
namespace Go.Proofs.YtmgnhekpgeahmaaDoor
open Go.Dur Go.Fl Go.Rel Go.RowKit
open Go.Lib (decDigits)

theorem unit_sz (u : Nat) : unitMs u = szN u := by
  match u with
  | 0 | 1 | 2 | 3 | 4 | 5 => rfl
  | u + 6 => rfl

theorem nameL_any (u : Nat) (h : u ≤ 6) (w : World) : Calls Tryd.prog 21 #[.int .i64 (u : Int)] w (Same (.string ⟨(nmL u).toArray⟩) w) := by
  match u, h with
  | 0, _ | 1, _ | 2, _ | 3, _ | 4, _ | 5, _ | 6, _ =>
    go_enter Tryd.func21, Tryd.ntmps21
    go_wp2_with fail
    go_ret
    exact ⟨rfl, rfl⟩

def TextRel (m : Nat) (B : Nat) (w0 : World) (vm vb vu : Value) (wr : World) : Prop :=
  ∃ u : Nat, u ≤ 7 ∧ vu = .int .i64 (u : Int) ∧ vm = .int .i64 ((rst u m : Nat) : Int) ∧ OwnB B wr vb (tx u m) ∧ Below B w0 wr

theorem rst_le (u m : Nat) : rst u m ≤ m := by
  induction u with
  | zero => exact Nat.le_refl _
  | succ u ih => exact Nat.le_trans (Nat.mod_le _ _) ih

def TextRet (m : Nat) (w : World) (e : Ending) (w' : World) : Prop := e = .returned (.tuple #[.string ⟨(tx 7 m).toArray⟩, .int .i64 0]) ∧ Below w.heap.size w w'

set_option maxHeartbeats 4000000 in
theorem text_any (m : Nat) (h0 : 0 < m) (h1 : m ≤ 315360000000000) (w : World) (ht : Tab w.heap.size w) :
    Calls Tryd.prog 6 #[.int .i64 (m : Int)] w (TextRet m w) := by
  have HT := Lib.hid ht
  have HNE : Hid (tx 7 m ≠ []) := by rw [tx_all]; exact txt_ne m h0
  clear ht
  have d0 : decide ((m : Int) < 0) = false := decide_eq_false (by omega)
  have d1 : decide ((315360000000000 : Int) < (m : Int)) = false := decide_eq_false (by omega)
  have d2 : ((m : Int) == 0) = false := by simp; omega
  go_enter Tryd.func6, Tryd.ntmps6
  go_wp2_with fail
  go_loopw [0, 4, 5] (TextRel m w.heap.size w) (fun _ _ vu _ => (7 - intOf vu).toNat)
  case atStart => exact ⟨0, by omega, rfl, rfl, ownB_nil _ _, Below.refl _ _⟩
  case round =>
    obtain ⟨u, hu, rfl, rfl, hob, bw⟩ := hrel
    have HOB := Lib.hid hob
    have hsz := bw.size
    clear hob d0 d1 d2
    by_cases hlt : u < 7
    · have HL : Hid ((tx u m).length ≤ 60) := tx_len m h1 u hu
      have hr := rst_le u m
      have hs := szN_pos u
      have HU : Hid (rst (u + 1) m = rst u m % szN u) := rfl
      have HX : Hid (tx (u + 1) m = tx u m ++ (if rst u m / szN u = 0 then [] else decDigits (rst u m / szN u) ++ nmL u)) := rfl
      have HS : Hid (∀ w, Calls Tryd.prog 19 #[.int .i64 (u : Int)] w (Same (.int .i64 ((szN u : Nat) : Int)) w)) := fun w => by rw [← unit_sz]; exact size_any u (by omega) w
      have HN : Hid (∀ w, Calls Tryd.prog 21 #[.int .i64 (u : Int)] w (Same (.string ⟨(nmL u).toArray⟩) w)) := fun w => nameL_any u (by omega) w
      have HNL : Hid ((nmL u).length ≤ 2) := (nm_len u).2
      generalize tx u m = l at *
      generalize rst u m = r at *
      generalize szN u = sz at *
      generalize nmL u = nm at *
      have hq : r / sz ≤ r := Nat.div_le_self _ _
      have hqi : (r : Int) / (sz : Int) = ((r / sz : Nat) : Int) := by rw [Int.natCast_ediv]
      have hri : (r : Int) % (sz : Int) = ((r % sz : Nat) : Int) := by rw [Int.natCast_emod]
      have HQI := Lib.hid hqi
      have HRI := Lib.hid hri
      have q0 : 0 ≤ (r : Int) / (sz : Int) := by rw [hqi]; exact Int.natCast_nonneg _
      have q1 : (r : Int) / (sz : Int) ≤ 315360000000000 := by rw [hqi]; omega
      have e0 : 0 ≤ (r : Int) % (sz : Int) := by rw [hri]; exact Int.natCast_nonneg _
      have e1 : (r : Int) % (sz : Int) ≤ 315360000000000 := by
        rw [hri]
        have := Nat.mod_le r sz
        omega
      by_cases hz : r / sz = 0
      · have dz : decide (0 < (r : Int) / (sz : Int)) = false := decide_eq_false (by rw [hqi, hz]; decide)
        have HX2 : Hid (tx (u + 1) m = l) := by show _ = _; rw [HX.out, if_pos hz, List.append_nil]
        have HR2 : Hid (rst (u + 1) m = r) := by
          show _ = _
          rw [HU.out]
          have := Nat.div_add_mod r sz
          rw [hz, Nat.mul_zero, Nat.zero_add] at this
          exact this
        have hsp := hs.1
        clear hqi hri HX HU hz hq hs
        go_wp2_with (first | (go_at_call 19; refine (HS.out _).mono ?_; rintro e w' ⟨rfl, rfl⟩))
        go_roundw
        case rel => exact ⟨u + 1, by omega, by go_num, by rw [HR2.out], by rw [HX2.out]; exact HOB.out, bw⟩
        case measure => simp [intOf]; omega
      · have dz : decide (0 < (r : Int) / (sz : Int)) = true := decide_eq_true (by rw [hqi]; exact Int.natCast_pos.2 (Nat.pos_of_ne_zero hz))
        have HX2 : Hid (tx (u + 1) m = l ++ (decDigits (r / sz) ++ nm)) := by show _ = _; rw [HX.out, if_neg hz]
        have HDL : Hid ((decDigits (r / sz)).length ≤ 100) := by
          show _ ≤ _
          have := dec_len 17 (r / sz) (by omega)
          omega
        have HAI : Hid (∀ v w1, w.heap.size ≤ w1.heap.size → OwnB w.heap.size w1 v l → Tab w.heap.size w1 → Calls Tryd.prog 20 #[v, .int .i64 ((r : Int) / (sz : Int)), .int .i64 10] w1 (OwnRet w.heap.size w1 (l ++ decDigits (r / sz)))) := fun v w1 g1 g2 g3 => appendInt_any (r / sz) _ HQI.out (by omega) _ v l w1 g1 g2 (by have := HL.out; omega) g3
        have HTW : Hid (∀ w1, Below w.heap.size w w1 → Tab w.heap.size w1) := fun w1 hb => HT.out.on hb
        have hsp := hs.1
        clear hqi hri HX hz hq hs
        go_wp2_with (first | (go_at_call 19; ((with_reducible refine (HS.out _).mono ?_); rintro e w' ⟨rfl, rfl⟩)) | (go_at_call 20; ((with_reducible refine (HAI.out _ _ hsz HOB.out (HTW.out _ bw)).mono ?_); rintro e w1 ⟨v1, rfl, ho1, b1⟩; have HO1 := Lib.hid ho1; have bw1 := bw.trans b1; have hsz1 := bw1.size; clear ho1)) | (go_at_call 21; ((with_reducible refine (HN.out _).mono ?_); rintro e w' ⟨rfl, rfl⟩)) | (at_builtin; refine wpList_append_s rfl (.tmp 28) (.tmp 30) rfl w.heap.size v1 (l ++ decDigits (r / sz)) rfl HO1.out nm rfl (by rw [List.length_append]; have := HL.out; have := HDL.out; have := HNL.out; omega) hsz1 ?_; intro v2 w2 ho2 hg2; have HO2 := Lib.hid ho2; have bw2 := HO1.out.below bw1 hg2 hsz1; have hsz2 := bw2.size; clear ho2 hg2))
        go_roundw
        case rel => exact ⟨u + 1, by omega, by go_num, by rw [HU.out, ← HRI.out], by rw [HX2.out, ← List.append_assoc]; exact HO2.out, bw2⟩
        case measure => simp [intOf]; omega
    · obtain rfl : u = 7 := by omega
      have htx := HOB.out.text HNE.out
      go_wp2_with fail
      go_ret2
      exact ⟨rfl, bw⟩
end Go.Proofs.YtmgnhekpgeahmaaDoor
