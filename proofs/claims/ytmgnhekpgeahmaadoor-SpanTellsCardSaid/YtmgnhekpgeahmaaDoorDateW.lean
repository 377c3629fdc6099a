/- span.Date: what it answers in the range. -/
import Derived.Test.YtmgnhekpgeahmaaDoorThouB
import Derived.Test.YtmgnhekpgeahmaaDoorDateText
import Derived.Test.YtmgnhekpgeahmaaDoorCivil
import Derived.Test.YtmgnhekpgeahmaaDoorDateLaw
import Derived.Test.YtmgnhekpgeahmaaDoorBox
namespace Go.Proofs.YtmgnhekpgeahmaaDoor
open Go.Dur Go.Fl Go.Rel Go.RowKit

theorem day_first : dayNum 0 1 1 = -719528 ∧ dayNum 10000 1 1 = 2932897 := by decide
/-- The year of a moment in the range. -/
theorem year_range {y mo d t : Int} (m0 : 1 ≤ mo) (m1 : mo ≤ 12) (d0 : 1 ≤ d) (d1 : d ≤ mdays y mo) (hd : dayNum y mo d = t / 86400000) (h0 : -62167219200000 ≤ t) (h1 : t ≤ 253402300799999) : 0 ≤ y ∧ y ≤ 9999 := by
  obtain ⟨f0, f1⟩ := day_first
  obtain ⟨a, b⟩ := in_year y mo d m0 m1 d0 d1
  constructor
  · refine Int.not_lt.1 fun hlt => ?_
    obtain ⟨k, hk⟩ : ∃ k : Nat, y + 1 + (k : Int) = 0 := ⟨(-(y + 1)).toNat, by omega⟩
    have h2 := year_mono (y + 1) k
    rw [hk, f0, dayNum_year] at h2
    omega
  · refine Int.not_lt.1 fun hlt => ?_
    obtain ⟨k, hk⟩ : ∃ k : Nat, 10000 + (k : Int) = y := ⟨(y - 10000).toNat, by omega⟩
    have h2 := year_mono 10000 k
    rw [hk, f1] at h2
    omega

def DateWRet (t : Int) (w : World) (e : Ending) (w' : World) : Prop :=
  ∃ y mo d h mi s ms : Nat, e = .returned (.tuple #[.string ⟨(wholeL y mo d h mi s ms [90]).toArray⟩, .int .i64 0]) ∧
    (y ≤ 9999 ∧ 1 ≤ mo ∧ mo ≤ 12 ∧ 1 ≤ d ∧ (d : Int) ≤ mdays y mo ∧ dayNum y mo d = t / 86400000) ∧
    ((h : Int) = t % 86400000 / 3600000 ∧ (mi : Int) = t % 86400000 / 60000 % 60 ∧ (s : Int) = t % 86400000 / 1000 % 60 ∧ (ms : Int) = t % 86400000 % 1000) ∧ Below w.heap.size w w'

set_option maxHeartbeats 4000000 in
set_option maxRecDepth 100000 in
theorem dateW_any (t : Int) (h0 : -62167219200000 ≤ t) (h1 : t ≤ 253402300799999) (w : World) : Calls Tryd.prog 10 #[.int .i64 t] w (DateWRet t w) := by
  have d0 : decide (t < -62167219200000) = false := decide_eq_false (by omega)
  have d1 : decide (253402300799999 < t) = false := decide_eq_false (by omega)
  go_enter Tryd.func10, Tryd.ntmps10
  go_wp2_with fail
  refine (civil_any t (by omega) (by omega) _).mono ?_
  rintro e w1 ⟨y, mo, d, rfl, m0, m1, e0, e1, hdn, -, -, b1⟩
  obtain ⟨y0, y1⟩ := year_range m0 m1 e0 e1 hdn h0 h1
  have hmd := mdays_bd y mo
  obtain ⟨h, hh⟩ : ∃ h : Nat, t % 86400000 / 3600000 = (h : Int) := ⟨(t % 86400000 / 3600000).toNat, by omega⟩
  obtain ⟨mi, hmi⟩ : ∃ h : Nat, t % 86400000 / 60000 % 60 = (h : Int) := ⟨(t % 86400000 / 60000 % 60).toNat, by omega⟩
  obtain ⟨s, hs⟩ : ∃ h : Nat, t % 86400000 / 1000 % 60 = (h : Int) := ⟨(t % 86400000 / 1000 % 60).toNat, by omega⟩
  obtain ⟨ms, hms⟩ : ∃ h : Nat, t % 86400000 % 1000 = (h : Int) := ⟨(t % 86400000 % 1000).toNat, by omega⟩
  obtain ⟨y, rfl⟩ := Int.eq_ofNat_of_zero_le y0
  obtain ⟨mo, rfl⟩ := Int.eq_ofNat_of_zero_le (show 0 ≤ mo by omega)
  obtain ⟨d, rfl⟩ := Int.eq_ofNat_of_zero_le (show 0 ≤ d by omega)
  have bh : h ≤ 23 := by omega
  have bmi : mi ≤ 59 := by omega
  have bs : s ≤ 59 := by omega
  have bms : ms ≤ 999 := by omega
  have HEND : Hid ((y ≤ 9999 ∧ 1 ≤ mo ∧ mo ≤ 12 ∧ 1 ≤ d ∧ (d : Int) ≤ mdays y mo ∧ dayNum y mo d = t / 86400000) ∧
    ((h : Int) = t % 86400000 / 3600000 ∧ (mi : Int) = t % 86400000 / 60000 % 60 ∧ (s : Int) = t % 86400000 / 1000 % 60 ∧ (ms : Int) = t % 86400000 % 1000)) := ⟨⟨by omega, by omega, by omega, by omega, e1, hdn⟩, hh.symm, hmi.symm, hs.symm, hms.symm⟩
  rw [hh, hmi, hs, hms]
  have by1 : y ≤ 9999 := by omega
  have bmo : mo ≤ 12 := by omega
  have bd : d ≤ 31 := by omega
  clear m0 m1 e0 e1 hdn hh hmi hs hms y0 y1 hmd
  generalize mdays (y : Int) (mo : Int) = q9
  generalize t / 86400000 - dayNum (y : Int) 1 1 + 1 = q8
  generalize (t / 86400000 + 4) % 7 = q7
  go_wp2_with (first | (refine Bk.is_store 27 rfl ?_; refine Bk.wpList_store_box (w0 := w1) (N := 0) rfl 27 _ _ rfl #[.int .i64 (y : Int), .int .i64 (mo : Int), .int .i64 (d : Int), .int .i64 (h : Int), .int .i64 (mi : Int), .int .i64 (s : Int), .int .i64 (ms : Int), .int .i64 q7, .int .i64 q8, .int .i64 q9] #[.int .i64 0, .int .i64 0, .int .i64 0, .int .i64 0, .int .i64 0, .int .i64 0, .int .i64 0, .int .i64 0, .int .i64 0, .int .i64 0] 27 rfl rfl (by kernel_rfl) rfl (by kernel_rfl) ?_; intro W hIs bW; have c0 : W.cell? ⟨w1.heap.size, 0, none⟩ = some (.int .i64 (y : Int)) := hIs.cell 0; have c1 : W.cell? ⟨w1.heap.size, 1, none⟩ = some (.int .i64 (mo : Int)) := hIs.cell 1; have c2 : W.cell? ⟨w1.heap.size, 2, none⟩ = some (.int .i64 (d : Int)) := hIs.cell 2; have c3 : W.cell? ⟨w1.heap.size, 3, none⟩ = some (.int .i64 (h : Int)) := hIs.cell 3; have c4 : W.cell? ⟨w1.heap.size, 4, none⟩ = some (.int .i64 (mi : Int)) := hIs.cell 4; have c5 : W.cell? ⟨w1.heap.size, 5, none⟩ = some (.int .i64 (s : Int)) := hIs.cell 5; have c6 : W.cell? ⟨w1.heap.size, 6, none⟩ = some (.int .i64 (ms : Int)) := hIs.cell 6) | (go_at_call 29; refine (padded_any y 4 (by omega) (by omega) (by omega) W.heap.size _ [] W (Nat.le_refl _) (ownB_nil _ _) (by simp)).mono ?_; rintro e W1 ⟨v1, rfl, ho1, bb1⟩))
  --GEN
  have hlt := hIs.lt
  have HO1 := Lib.hid ho1
  have hl1 : ([] ++ digs y 4 4 : List UInt8).length = 4 := by rw [List.nil_append, length_digs]
  obtain ⟨l1, hl1e⟩ : ∃ l, l = ([] ++ digs y 4 4 : List UInt8) := ⟨_, rfl⟩
  have HE1 := Lib.hid hl1e
  rw [← hl1e] at HO1 hl1
  have HL1 := Lib.hid hl1
  clear ho1 hl1e hl1
  have KEEP1 : Hid (∀ W', Below W.heap.size W W' → (Below W.heap.size W W' ∧ W'.cell? ⟨w1.heap.size, 1, none⟩ = some (.int .i64 (mo : Int)))) := fun W' hb => ⟨hb, by rw [hb.cell (p := ⟨w1.heap.size, 1, none⟩) hlt]; exact c1⟩
  have BD1 : Below W.heap.size W W1.drew := bb1.drewN' 1
  have hz1 := BD1.size
  have hx1 := bb1.size
  go_region_held3 (fun w' => Below W.heap.size W w' ∧ w'.cell? ⟨w1.heap.size, 1, none⟩ = some (.int .i64 (mo : Int))) (first | exact KEEP1.out _ bb2 | exact KEEP1.out _ ba1 | exact KEEP1.out _ (BD1.alloc hz1 _) | exact KEEP1.out _ BD1) (first | (refine step_append_b rfl (.tmp 17) (.tmp 18) rfl W.heap.size v1 l1 rfl (OwnB.alloc (OwnB.drewN HO1.out 1) _) W1.heap.size _ [45] 1 rfl (by omega) rfl (byte_one _ _ _ _ rfl) (by have := HL1.out; omega) (by simp; omega) ?_; intro g1 cap1 V1 hw1 hg1; have ba1 := (OwnB.alloc (OwnB.drewN HO1.out 1) _).below (BD1.alloc hz1 _) hg1 (by simp; omega)) | (go_at_call 29; have hq4 : (l1 ++ [45]).length ≤ 1000000 := (by rw [List.length_append, HL1.out]; simp); have hq5 := padded_any mo 2 (by omega) (by omega) (by omega) W.heap.size _ (l1 ++ [45]) V1 ba1.size hw1 hq4; refine hq5.mono ?_; rintro e W2 ⟨v2, rfl, ho2, bc2⟩; have bb2 := ba1.trans bc2))
  have hl2 : (l1 ++ [45] ++ digs mo 2 2).length = 7 := by rw [List.length_append, List.length_append, HL1.out, length_digs]; rfl
  have HO2 := Lib.hid ho2
  obtain ⟨l2, hl2e⟩ : ∃ l, l = l1 ++ [45] ++ digs mo 2 2 := ⟨_, rfl⟩
  have HE2 := Lib.hid hl2e
  rw [← hl2e] at HO2 hl2
  have HL2 := Lib.hid hl2
  clear hl2
  clear ho2 hl2e hw1 hg1 ba1 bc2 BD1 hz1
  go_wp2_with fail
  have KEEP2 : Hid (∀ W', Below W.heap.size W W' → (Below W.heap.size W W' ∧ W'.cell? ⟨w1.heap.size, 2, none⟩ = some (.int .i64 (d : Int)))) := fun W' hb => ⟨hb, by rw [hb.cell (p := ⟨w1.heap.size, 2, none⟩) hlt]; exact c2⟩
  have BD2 : Below W.heap.size W W2.drew := bb2.drewN' 1
  have hz2 := BD2.size
  have hx2 := bb2.size
  go_region_held3 (fun w' => Below W.heap.size W w' ∧ w'.cell? ⟨w1.heap.size, 2, none⟩ = some (.int .i64 (d : Int))) (first | exact KEEP2.out _ bb3 | exact KEEP2.out _ ba2 | exact KEEP2.out _ (BD2.alloc hz2 _) | exact KEEP2.out _ BD2) (first | (refine step_append_b rfl (.tmp 23) (.tmp 24) rfl W.heap.size v2 l2 rfl (OwnB.alloc (OwnB.drewN HO2.out 1) _) W2.heap.size _ [45] 1 rfl (by omega) rfl (byte_one _ _ _ _ rfl) (by have := HL2.out; omega) (by simp; omega) ?_; intro g2 cap2 V2 hw2 hg2; have ba2 := (OwnB.alloc (OwnB.drewN HO2.out 1) _).below (BD2.alloc hz2 _) hg2 (by simp; omega)) | (go_at_call 29; have hq4 : (l2 ++ [45]).length ≤ 1000000 := (by rw [List.length_append, HL2.out]; simp); have hq5 := padded_any d 2 (by omega) (by omega) (by omega) W.heap.size _ (l2 ++ [45]) V2 ba2.size hw2 hq4; refine hq5.mono ?_; rintro e W3 ⟨v3, rfl, ho3, bc3⟩; have bb3 := ba2.trans bc3))
  have hl3 : (l2 ++ [45] ++ digs d 2 2).length = 10 := by rw [List.length_append, List.length_append, HL2.out, length_digs]; rfl
  have HO3 := Lib.hid ho3
  obtain ⟨l3, hl3e⟩ : ∃ l, l = l2 ++ [45] ++ digs d 2 2 := ⟨_, rfl⟩
  have HE3 := Lib.hid hl3e
  rw [← hl3e] at HO3 hl3
  have HL3 := Lib.hid hl3
  clear hl3
  clear ho3 hl3e hw2 hg2 ba2 bc3 BD2 hz2
  go_wp2_with fail
  have KEEP3 : Hid (∀ W', Below W.heap.size W W' → (Below W.heap.size W W' ∧ W'.cell? ⟨w1.heap.size, 3, none⟩ = some (.int .i64 (h : Int)))) := fun W' hb => ⟨hb, by rw [hb.cell (p := ⟨w1.heap.size, 3, none⟩) hlt]; exact c3⟩
  have BD3 : Below W.heap.size W W3.drew := bb3.drewN' 1
  have hz3 := BD3.size
  have hx3 := bb3.size
  go_region_held3 (fun w' => Below W.heap.size W w' ∧ w'.cell? ⟨w1.heap.size, 3, none⟩ = some (.int .i64 (h : Int))) (first | exact KEEP3.out _ bb4 | exact KEEP3.out _ ba3 | exact KEEP3.out _ (BD3.alloc hz3 _) | exact KEEP3.out _ BD3) (first | (refine step_append_b rfl (.tmp 29) (.tmp 30) rfl W.heap.size v3 l3 rfl (OwnB.alloc (OwnB.drewN HO3.out 1) _) W3.heap.size _ [84] 1 rfl (by omega) rfl (byte_one _ _ _ _ rfl) (by have := HL3.out; omega) (by simp; omega) ?_; intro g3 cap3 V3 hw3 hg3; have ba3 := (OwnB.alloc (OwnB.drewN HO3.out 1) _).below (BD3.alloc hz3 _) hg3 (by simp; omega)) | (go_at_call 29; have hq4 : (l3 ++ [84]).length ≤ 1000000 := (by rw [List.length_append, HL3.out]; simp); have hq5 := padded_any h 2 (by omega) (by omega) (by omega) W.heap.size _ (l3 ++ [84]) V3 ba3.size hw3 hq4; refine hq5.mono ?_; rintro e W4 ⟨v4, rfl, ho4, bc4⟩; have bb4 := ba3.trans bc4))
  have hl4 : (l3 ++ [84] ++ digs h 2 2).length = 13 := by rw [List.length_append, List.length_append, HL3.out, length_digs]; rfl
  have HO4 := Lib.hid ho4
  obtain ⟨l4, hl4e⟩ : ∃ l, l = l3 ++ [84] ++ digs h 2 2 := ⟨_, rfl⟩
  have HE4 := Lib.hid hl4e
  rw [← hl4e] at HO4 hl4
  have HL4 := Lib.hid hl4
  clear hl4
  clear ho4 hl4e hw3 hg3 ba3 bc4 BD3 hz3
  go_wp2_with fail
  have KEEP4 : Hid (∀ W', Below W.heap.size W W' → (Below W.heap.size W W' ∧ W'.cell? ⟨w1.heap.size, 4, none⟩ = some (.int .i64 (mi : Int)))) := fun W' hb => ⟨hb, by rw [hb.cell (p := ⟨w1.heap.size, 4, none⟩) hlt]; exact c4⟩
  have BD4 : Below W.heap.size W W4.drew := bb4.drewN' 1
  have hz4 := BD4.size
  have hx4 := bb4.size
  go_region_held3 (fun w' => Below W.heap.size W w' ∧ w'.cell? ⟨w1.heap.size, 4, none⟩ = some (.int .i64 (mi : Int))) (first | exact KEEP4.out _ bb5 | exact KEEP4.out _ ba4 | exact KEEP4.out _ (BD4.alloc hz4 _) | exact KEEP4.out _ BD4) (first | (refine step_append_b rfl (.tmp 35) (.tmp 36) rfl W.heap.size v4 l4 rfl (OwnB.alloc (OwnB.drewN HO4.out 1) _) W4.heap.size _ [58] 1 rfl (by omega) rfl (byte_one _ _ _ _ rfl) (by have := HL4.out; omega) (by simp; omega) ?_; intro g4 cap4 V4 hw4 hg4; have ba4 := (OwnB.alloc (OwnB.drewN HO4.out 1) _).below (BD4.alloc hz4 _) hg4 (by simp; omega)) | (go_at_call 29; have hq4 : (l4 ++ [58]).length ≤ 1000000 := (by rw [List.length_append, HL4.out]; simp); have hq5 := padded_any mi 2 (by omega) (by omega) (by omega) W.heap.size _ (l4 ++ [58]) V4 ba4.size hw4 hq4; refine hq5.mono ?_; rintro e W5 ⟨v5, rfl, ho5, bc5⟩; have bb5 := ba4.trans bc5))
  have hl5 : (l4 ++ [58] ++ digs mi 2 2).length = 16 := by rw [List.length_append, List.length_append, HL4.out, length_digs]; rfl
  have HO5 := Lib.hid ho5
  obtain ⟨l5, hl5e⟩ : ∃ l, l = l4 ++ [58] ++ digs mi 2 2 := ⟨_, rfl⟩
  have HE5 := Lib.hid hl5e
  rw [← hl5e] at HO5 hl5
  have HL5 := Lib.hid hl5
  clear hl5
  clear ho5 hl5e hw4 hg4 ba4 bc5 BD4 hz4
  go_wp2_with fail
  have KEEP5 : Hid (∀ W', Below W.heap.size W W' → (Below W.heap.size W W' ∧ W'.cell? ⟨w1.heap.size, 5, none⟩ = some (.int .i64 (s : Int)))) := fun W' hb => ⟨hb, by rw [hb.cell (p := ⟨w1.heap.size, 5, none⟩) hlt]; exact c5⟩
  have BD5 : Below W.heap.size W W5.drew := bb5.drewN' 1
  have hz5 := BD5.size
  have hx5 := bb5.size
  go_region_held3 (fun w' => Below W.heap.size W w' ∧ w'.cell? ⟨w1.heap.size, 5, none⟩ = some (.int .i64 (s : Int))) (first | exact KEEP5.out _ bb6 | exact KEEP5.out _ ba5 | exact KEEP5.out _ (BD5.alloc hz5 _) | exact KEEP5.out _ BD5) (first | (refine step_append_b rfl (.tmp 41) (.tmp 42) rfl W.heap.size v5 l5 rfl (OwnB.alloc (OwnB.drewN HO5.out 1) _) W5.heap.size _ [58] 1 rfl (by omega) rfl (byte_one _ _ _ _ rfl) (by have := HL5.out; omega) (by simp; omega) ?_; intro g5 cap5 V5 hw5 hg5; have ba5 := (OwnB.alloc (OwnB.drewN HO5.out 1) _).below (BD5.alloc hz5 _) hg5 (by simp; omega)) | (go_at_call 29; have hq4 : (l5 ++ [58]).length ≤ 1000000 := (by rw [List.length_append, HL5.out]; simp); have hq5 := padded_any s 2 (by omega) (by omega) (by omega) W.heap.size _ (l5 ++ [58]) V5 ba5.size hw5 hq4; refine hq5.mono ?_; rintro e W6 ⟨v6, rfl, ho6, bc6⟩; have bb6 := ba5.trans bc6))
  have hl6 : (l5 ++ [58] ++ digs s 2 2).length = 19 := by rw [List.length_append, List.length_append, HL5.out, length_digs]; rfl
  have HO6 := Lib.hid ho6
  obtain ⟨l6, hl6e⟩ : ∃ l, l = l5 ++ [58] ++ digs s 2 2 := ⟨_, rfl⟩
  have HE6 := Lib.hid hl6e
  rw [← hl6e] at HO6 hl6
  have HL6 := Lib.hid hl6
  clear hl6
  clear ho6 hl6e hw5 hg5 ba5 bc6 BD5 hz5
  --END
  have k6 : W6.cell? ⟨w1.heap.size, 6, none⟩ = some (.int .i64 (ms : Int)) := by rw [bb6.cell (p := ⟨w1.heap.size, 6, none⟩) hlt]; exact c6
  have hx6 := bb6.size
  have hth : (thL ms).length ≤ 4 := by unfold thL; split <;> simp
  have HTH := Lib.hid hth
  clear hth
  go_wp2_with (first | (go_at_call 23; have hq4 : l6.length ≤ 1000000 := (by have := HL6.out; omega); have hq5 := thouB_any ms bms W.heap.size _ l6 W6 bb6.size HO6.out hq4; refine hq5.mono ?_; rintro e W7 ⟨v7, rfl, ho7, bc7⟩; have bb7 := bb6.trans bc7; have hx7 := bb7.size; have HO7 := Lib.hid ho7; clear ho7 hq4 hq5) | (at_builtin; refine wpList_append_b rfl (.tmp 50) (.tmp 51) rfl W.heap.size v7 (l6 ++ thL ms) rfl (OwnB.alloc HO7.out _) W7.heap.size _ [90] 1 rfl rfl (byte_one _ _ _ _ rfl) (by have := HTH.out; have := HL6.out; rw [List.length_append]; omega) (by simp; omega) ?_; intro v8 W8 ho8 hg8 hv8; have hcv := OwnB.text ho8 (by simp); have bb8 := (OwnB.alloc HO7.out _).below (bb7.alloc hx7 _) hg8 (by simp; omega); clear hv8 hg8 ho8))
  go_ret2
  refine ⟨y, mo, d, h, mi, s, ms, ?_, HEND.out.1, HEND.out.2, b1.trans ((bW.trans (bb8.mono bW.size)).mono b1.size)⟩
  have hl : l6 = dateL y mo d h mi s := by
    rw [HE6.out, HE5.out, HE4.out, HE3.out, HE2.out, HE1.out]
    rfl
  rw [hl]
  rfl
end Go.Proofs.YtmgnhekpgeahmaaDoor
