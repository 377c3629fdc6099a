/- span.Civil: what it answers. -/
import Derived.Test.YtmgnhekpgeahmaaDoorCivLaw
import Derived.Test.YtmgnhekpgeahmaaDoorYoe
import Derived.Test.YtmgnhekpgeahmaaDoorBlock
import Derived.Deep.Cut
namespace Go.Proofs.YtmgnhekpgeahmaaDoor
open Go.Fl Go.Rel Go.RowKit

/-- floorDiv with its answers under names. -/
theorem floorDiv_ex (a b : Int) (hb : 0 < b) (ha : -9223372036854775808 ≤ a) (ha' : a ≤ 9223372036854775807) (hb' : b ≤ 9223372036854775807) (w : World) :
    Calls Tryd.prog 24 #[.int .i64 a, .int .i64 b] w fun e w' => ∃ q r n, e = .returned (.tuple #[.int .i64 q, .int .i64 r]) ∧ Hid (q = a / b ∧ r = a % b) ∧ 0 ≤ r ∧ r < b ∧ w' = w.drewN n :=
  (floorDiv_any a b hb ha ha' hb' w).mono fun e w' ⟨he, n, hw⟩ => ⟨_, _, n, he, ⟨rfl, rfl⟩, Int.emod_nonneg _ (by omega), Int.emod_lt_of_pos _ hb, hw⟩

theorem dayNum_bd2 (y : Int) (h0 : -1000000000 ≤ y) (h1 : y ≤ 1000000000) : -400000000000 ≤ dayNum y 1 1 ∧ dayNum y 1 1 ≤ 400000000000 := by
  unfold dayNum doyM
  simp only [if_pos (show (1 : Int) ≤ 2 by omega)]
  omega

def CivRet (t : Int) (w : World) (e : Ending) (w' : World) : Prop :=
  ∃ y mo d : Int, e = .returned (.agg #[.int .i64 y, .int .i64 mo, .int .i64 d, .int .i64 (t % 86400000 / 3600000), .int .i64 (t % 86400000 / 60000 % 60), .int .i64 (t % 86400000 / 1000 % 60), .int .i64 (t % 86400000 % 1000), .int .i64 ((t / 86400000 + 4) % 7), .int .i64 (t / 86400000 - dayNum y 1 1 + 1), .int .i64 (mdays y mo)]) ∧
    1 ≤ mo ∧ mo ≤ 12 ∧ 1 ≤ d ∧ d ≤ mdays y mo ∧ dayNum y mo d = t / 86400000 ∧ -1000000000 ≤ y ∧ y ≤ 1000000000 ∧ Below w.heap.size w w'

set_option maxHeartbeats 2000000 in
set_option maxRecDepth 100000 in
theorem civil_any (t : Int) (h0 : -9223372036854775808 ≤ t) (h1 : t ≤ 9223372036854775807) (w : World) : Calls Tryd.prog 8 #[.int .i64 t] w (CivRet t w) := by
  go_enter Tryd.func8, Tryd.ntmps8
  go_wp2_with fail
  refine (floorDiv_ex _ _ (by omega) (by omega) (by omega) (by omega) _).mono ?_
  rintro e w1 ⟨n, r, k1, rfl, H1, r0, r1, rfl⟩
  have n0 : -106751991168 ≤ n := by have := H1.out; omega
  have n1 : n ≤ 106751991168 := by have := H1.out; omega
  go_wp2_with fail
  refine (floorDiv_ex _ _ (by omega) (by omega) (by omega) (by omega) _).mono ?_
  rintro e w1 ⟨q2, wk, k2, rfl, H2, wk0, wk1, rfl⟩
  go_wp2_with fail
  refine (floorDiv_ex _ _ (by omega) (by omega) (by omega) (by omega) _).mono ?_
  rintro e w1 ⟨era, doe, k3, rfl, H3, doe0, doe1, rfl⟩
  have era0 : -740000 ≤ era := by have := H3.out; omega
  have era1 : era ≤ 740000 := by have := H3.out; omega
  go_upto_region 7 with fail
  obtain ⟨yo, hyo, y0, y1, y2, y3⟩ := Yoe.yoe_int doe doe0 doe1
  rw [hyo]
  clear hyo
  go_upto_region 8 with fail
  have d0 : 0 ≤ doe - (365 * yo + yo / 4 - yo / 100) := by omega
  have d1 : doe - (365 * yo + yo / 4 - yo / 100) ≤ 365 := by omega
  generalize hdoy : doe - (365 * yo + yo / 4 - yo / 100) = doy at d0 d1 ⊢
  have HD := Lib.hid hdoy
  have HY2 := Lib.hid y2
  have HY3 := Lib.hid y3
  clear hdoy y2 y3
  go_upto_region 9 with fail
  have m0 : 0 ≤ (5 * doy + 2) / 153 := by omega
  have m1 : (5 * doy + 2) / 153 ≤ 11 := by omega
  have m2 : 0 ≤ doy - (153 * ((5 * doy + 2) / 153) + 2) / 5 := by omega
  have m3 : doy - (153 * ((5 * doy + 2) / 153) + 2) / 5 ≤ 30 := by omega
  generalize hmp : (5 * doy + 2) / 153 = mp at m0 m1 m2 m3 ⊢
  have HM := Lib.hid hmp
  clear hmp
  generalize hW : ((((((w.alloc (Obj.cells #[Value.int IntKind.i64 0, Value.int IntKind.i64 0, Value.int IntKind.i64 0, Value.int IntKind.i64 0, Value.int IntKind.i64 0, Value.int IntKind.i64 0, Value.int IntKind.i64 0, Value.int IntKind.i64 0, Value.int IntKind.i64 0, Value.int IntKind.i64 0] 27)).drewN k1).alloc (Obj.cells #[Value.int IntKind.i64 0, Value.int IntKind.i64 0, Value.int IntKind.i64 0, Value.int IntKind.i64 0, Value.int IntKind.i64 0, Value.int IntKind.i64 0, Value.int IntKind.i64 0, Value.int IntKind.i64 0, Value.int IntKind.i64 0, Value.int IntKind.i64 0] 27)).drewN k2).setCell ⟨w.heap.size + 1, 7, none⟩ (Value.int IntKind.i64 wk)).drewN k3) = W
  have HB : Bk.Is W (w.heap.size + 1) #[.int .i64 (0), .int .i64 (0), .int .i64 (0), .int .i64 (0), .int .i64 (0), .int .i64 (0), .int .i64 (0), .int .i64 (wk), .int .i64 (0), .int .i64 (0)] 27 := by
    rw [← hW]
    have h := (((Bk.Is.made ((w.alloc (Obj.cells #[.int .i64 (0), .int .i64 (0), .int .i64 (0), .int .i64 (0), .int .i64 (0), .int .i64 (0), .int .i64 (0), .int .i64 (0), .int .i64 (0), .int .i64 (0)] 27)).drewN k1) #[.int .i64 (0), .int .i64 (0), .int .i64 (0), .int .i64 (0), .int .i64 (0), .int .i64 (0), .int .i64 (0), .int .i64 (0), .int .i64 (0), .int .i64 (0)] 27).drewN k2).set 7 (.int .i64 wk)).drewN k3
    simpa using h
  have HR : Bk.Is W w.heap.size #[.int .i64 (0), .int .i64 (0), .int .i64 (0), .int .i64 (0), .int .i64 (0), .int .i64 (0), .int .i64 (0), .int .i64 (0), .int .i64 (0), .int .i64 (0)] 27 := by
    rw [← hW]
    exact (((((Bk.Is.made w #[.int .i64 (0), .int .i64 (0), .int .i64 (0), .int .i64 (0), .int .i64 (0), .int .i64 (0), .int .i64 (0), .int .i64 (0), .int .i64 (0), .int .i64 (0)] 27).drewN k1).alloc _).drewN k2).other (by simp) _).drewN k3
  have bw : Below w.heap.size w W := by rw [← hW]; exact ((((((Below.refl _ _).alloc (Nat.le_refl _) _).drewN' _).alloc (by simp) _).drewN' _).setCell (by simp) _).drewN' _
  clear hW
  have c0 : W.cell? ⟨w.heap.size + 1, 0, none⟩ = some (.int .i64 (0)) := HB.cell 0
  have c1 : W.cell? ⟨w.heap.size + 1, 1, none⟩ = some (.int .i64 (0)) := HB.cell 1
  have c2 : W.cell? ⟨w.heap.size + 1, 2, none⟩ = some (.int .i64 (0)) := HB.cell 2
  have c3 : W.cell? ⟨w.heap.size + 1, 3, none⟩ = some (.int .i64 (0)) := HB.cell 3
  have c4 : W.cell? ⟨w.heap.size + 1, 4, none⟩ = some (.int .i64 (0)) := HB.cell 4
  have c5 : W.cell? ⟨w.heap.size + 1, 5, none⟩ = some (.int .i64 (0)) := HB.cell 5
  have c6 : W.cell? ⟨w.heap.size + 1, 6, none⟩ = some (.int .i64 (0)) := HB.cell 6
  have c7 : W.cell? ⟨w.heap.size + 1, 7, none⟩ = some (.int .i64 (wk)) := HB.cell 7
  have c8 : W.cell? ⟨w.heap.size + 1, 8, none⟩ = some (.int .i64 (0)) := HB.cell 8
  have c9 : W.cell? ⟨w.heap.size + 1, 9, none⟩ = some (.int .i64 (0)) := HB.cell 9
  have cf : ∀ j, W.frozen? ⟨w.heap.size + 1, j, none⟩ = false := HB.free
  by_cases hc : 12 < mp + 3
  · go_upto_region 14 with fail
    generalize hW2 : ((((((((((W).setCell ⟨w.heap.size + 1, 2, none⟩ (Value.int IntKind.i64 (doy - (153 * mp + 2) / 5 + 1)))).setCell ⟨w.heap.size + 1, 1, none⟩ (Value.int IntKind.i64 (mp + 3)))).setCell ⟨w.heap.size + 1, 0, none⟩ (Value.int IntKind.i64 (era * 400 + yo)))).setCell ⟨w.heap.size + 1, 1, none⟩ (Value.int IntKind.i64 (mp + 3 - 12)))).setCell ⟨w.heap.size + 1, 0, none⟩ (Value.int IntKind.i64 (era * 400 + yo + 1))) = W2
    have HB2 : Bk.Is W2 (w.heap.size + 1) #[.int .i64 (era * 400 + yo + 1), .int .i64 (mp + 3 - 12), .int .i64 (doy - (153 * mp + 2) / 5 + 1), .int .i64 (0), .int .i64 (0), .int .i64 (0), .int .i64 (0), .int .i64 (wk), .int .i64 (0), .int .i64 (0)] 27 := by rw [← hW2]; exact (((((HB.set 2 (.int .i64 (doy - (153 * mp + 2) / 5 + 1))).set 1 (.int .i64 (mp + 3))).set 0 (.int .i64 (era * 400 + yo))).set 1 (.int .i64 (mp + 3 - 12))).set 0 (.int .i64 (era * 400 + yo + 1)))
    have HR2 : Bk.Is W2 w.heap.size #[.int .i64 (0), .int .i64 (0), .int .i64 (0), .int .i64 (0), .int .i64 (0), .int .i64 (0), .int .i64 (0), .int .i64 (0), .int .i64 (0), .int .i64 (0)] 27 := by rw [← hW2]; exact (((((HR.other (by simp) _).other (by simp) _).other (by simp) _).other (by simp) _).other (by simp) _)
    have bw2 : Below w.heap.size w W2 := by rw [← hW2]; exact (((((bw.setCell (by simp) _).setCell (by simp) _).setCell (by simp) _).setCell (by simp) _).setCell (by simp) _)
    clear hW2 c0 c1 c2 c3 c4 c5 c6 c7 c8 c9 cf
    have e0 : W2.cell? ⟨w.heap.size + 1, 0, none⟩ = some (.int .i64 (era * 400 + yo + 1)) := HB2.cell 0
    have e1 : W2.cell? ⟨w.heap.size + 1, 1, none⟩ = some (.int .i64 (mp + 3 - 12)) := HB2.cell 1
    have e2 : W2.cell? ⟨w.heap.size + 1, 2, none⟩ = some (.int .i64 (doy - (153 * mp + 2) / 5 + 1)) := HB2.cell 2
    have e3 : W2.cell? ⟨w.heap.size + 1, 3, none⟩ = some (.int .i64 (0)) := HB2.cell 3
    have e4 : W2.cell? ⟨w.heap.size + 1, 4, none⟩ = some (.int .i64 (0)) := HB2.cell 4
    have e5 : W2.cell? ⟨w.heap.size + 1, 5, none⟩ = some (.int .i64 (0)) := HB2.cell 5
    have e6 : W2.cell? ⟨w.heap.size + 1, 6, none⟩ = some (.int .i64 (0)) := HB2.cell 6
    have e7 : W2.cell? ⟨w.heap.size + 1, 7, none⟩ = some (.int .i64 (wk)) := HB2.cell 7
    have e8 : W2.cell? ⟨w.heap.size + 1, 8, none⟩ = some (.int .i64 (0)) := HB2.cell 8
    have e9 : W2.cell? ⟨w.heap.size + 1, 9, none⟩ = some (.int .i64 (0)) := HB2.cell 9
    have ef : ∀ j, W2.frozen? ⟨w.heap.size + 1, j, none⟩ = false := HB2.free
    have nb := dayNum_bd2 (era * 400 + yo + 1) (by omega) (by omega)
    go_upto_region 18 with (first | (go_at_call 25; refine (mdays_any _ _ _).mono ?_; rintro e w' ⟨rfl, rfl⟩) | (go_at_call 26; refine (dayNumber_any _ _ _ (by omega) (by omega) (by omega) (by omega) (by omega) (by omega) _).mono ?_; rintro e w' ⟨rfl, k4, rfl⟩))
    generalize hW3 : (((((((W2.setCell ⟨w.heap.size + 1, 9, none⟩ (Value.int IntKind.i64 (mdays (era * 400 + yo + 1) (mp + 3 - 12)))).drewN k4).setCell ⟨w.heap.size + 1, 8, none⟩ (Value.int IntKind.i64 (n - dayNum (era * 400 + yo + 1) 1 1 + 1))).setCell ⟨w.heap.size + 1, 3, none⟩ (Value.int IntKind.i64 (r / 3600000))).setCell ⟨w.heap.size + 1, 4, none⟩ (Value.int IntKind.i64 (r / 60000 % 60))).setCell ⟨w.heap.size + 1, 5, none⟩ (Value.int IntKind.i64 (r / 1000 % 60))).setCell ⟨w.heap.size + 1, 6, none⟩ (Value.int IntKind.i64 (r % 1000))) = W3
    have HB3 : Bk.Is W3 (w.heap.size + 1) #[.int .i64 (era * 400 + yo + 1), .int .i64 (mp + 3 - 12), .int .i64 (doy - (153 * mp + 2) / 5 + 1), .int .i64 (r / 3600000), .int .i64 (r / 60000 % 60), .int .i64 (r / 1000 % 60), .int .i64 (r % 1000), .int .i64 (wk), .int .i64 (n - dayNum (era * 400 + yo + 1) 1 1 + 1), .int .i64 (mdays (era * 400 + yo + 1) (mp + 3 - 12))] 27 := by rw [← hW3]; exact (((((((HB2.set 9 (.int .i64 (mdays (era * 400 + yo + 1) (mp + 3 - 12)))).drewN k4).set 8 (.int .i64 (n - dayNum (era * 400 + yo + 1) 1 1 + 1))).set 3 (.int .i64 (r / 3600000))).set 4 (.int .i64 (r / 60000 % 60))).set 5 (.int .i64 (r / 1000 % 60))).set 6 (.int .i64 (r % 1000)))
    have HR3 : Bk.Is W3 w.heap.size #[.int .i64 (0), .int .i64 (0), .int .i64 (0), .int .i64 (0), .int .i64 (0), .int .i64 (0), .int .i64 (0), .int .i64 (0), .int .i64 (0), .int .i64 (0)] 27 := by rw [← hW3]; exact (((((((HR2.other (by simp) _).drewN k4).other (by simp) _).other (by simp) _).other (by simp) _).other (by simp) _).other (by simp) _)
    have bw3 : Below w.heap.size w W3 := by rw [← hW3]; exact (((((((bw2.setCell (by simp) _).drewN' k4).setCell (by simp) _).setCell (by simp) _).setCell (by simp) _).setCell (by simp) _).setCell (by simp) _)
    clear hW3 e0 e1 e2 e3 e4 e5 e6 e7 e8 e9 ef
    have g0 : W3.cell? ⟨w.heap.size + 1, 0, none⟩ = some (.int .i64 (era * 400 + yo + 1)) := HB3.cell 0
    have g1 : W3.cell? ⟨w.heap.size + 1, 1, none⟩ = some (.int .i64 (mp + 3 - 12)) := HB3.cell 1
    have g2 : W3.cell? ⟨w.heap.size + 1, 2, none⟩ = some (.int .i64 (doy - (153 * mp + 2) / 5 + 1)) := HB3.cell 2
    have g3 : W3.cell? ⟨w.heap.size + 1, 3, none⟩ = some (.int .i64 (r / 3600000)) := HB3.cell 3
    have g4 : W3.cell? ⟨w.heap.size + 1, 4, none⟩ = some (.int .i64 (r / 60000 % 60)) := HB3.cell 4
    have g5 : W3.cell? ⟨w.heap.size + 1, 5, none⟩ = some (.int .i64 (r / 1000 % 60)) := HB3.cell 5
    have g6 : W3.cell? ⟨w.heap.size + 1, 6, none⟩ = some (.int .i64 (r % 1000)) := HB3.cell 6
    have g7 : W3.cell? ⟨w.heap.size + 1, 7, none⟩ = some (.int .i64 (wk)) := HB3.cell 7
    have g8 : W3.cell? ⟨w.heap.size + 1, 8, none⟩ = some (.int .i64 (n - dayNum (era * 400 + yo + 1) 1 1 + 1)) := HB3.cell 8
    have g9 : W3.cell? ⟨w.heap.size + 1, 9, none⟩ = some (.int .i64 (mdays (era * 400 + yo + 1) (mp + 3 - 12))) := HB3.cell 9
    have x0 : W3.cell? ⟨w.heap.size, 0, none⟩ = some (.int .i64 0) := HR3.cell 0
    have x1 : W3.cell? ⟨w.heap.size, 1, none⟩ = some (.int .i64 0) := HR3.cell 1
    have x2 : W3.cell? ⟨w.heap.size, 2, none⟩ = some (.int .i64 0) := HR3.cell 2
    have x3 : W3.cell? ⟨w.heap.size, 3, none⟩ = some (.int .i64 0) := HR3.cell 3
    have x4 : W3.cell? ⟨w.heap.size, 4, none⟩ = some (.int .i64 0) := HR3.cell 4
    have x5 : W3.cell? ⟨w.heap.size, 5, none⟩ = some (.int .i64 0) := HR3.cell 5
    have x6 : W3.cell? ⟨w.heap.size, 6, none⟩ = some (.int .i64 0) := HR3.cell 6
    have x7 : W3.cell? ⟨w.heap.size, 7, none⟩ = some (.int .i64 0) := HR3.cell 7
    have x8 : W3.cell? ⟨w.heap.size, 8, none⟩ = some (.int .i64 0) := HR3.cell 8
    have x9 : W3.cell? ⟨w.heap.size, 9, none⟩ = some (.int .i64 0) := HR3.cell 9
    have xf : ∀ j, W3.frozen? ⟨w.heap.size, j, none⟩ = false := HR3.free
    go_wp2_with fail
    have s0 : Bk.Is _ w.heap.size #[.int .i64 (era * 400 + yo + 1), .int .i64 (0), .int .i64 (0), .int .i64 (0), .int .i64 (0), .int .i64 (0), .int .i64 (0), .int .i64 (0), .int .i64 (0), .int .i64 (0)] 27 := HR3.set 0 (.int .i64 (era * 400 + yo + 1))
    have s1 : Bk.Is _ w.heap.size #[.int .i64 (era * 400 + yo + 1), .int .i64 (mp + 3 - 12), .int .i64 (0), .int .i64 (0), .int .i64 (0), .int .i64 (0), .int .i64 (0), .int .i64 (0), .int .i64 (0), .int .i64 (0)] 27 := s0.set 1 (.int .i64 (mp + 3 - 12))
    have s2 : Bk.Is _ w.heap.size #[.int .i64 (era * 400 + yo + 1), .int .i64 (mp + 3 - 12), .int .i64 (doy - (153 * mp + 2) / 5 + 1), .int .i64 (0), .int .i64 (0), .int .i64 (0), .int .i64 (0), .int .i64 (0), .int .i64 (0), .int .i64 (0)] 27 := s1.set 2 (.int .i64 (doy - (153 * mp + 2) / 5 + 1))
    have s3 : Bk.Is _ w.heap.size #[.int .i64 (era * 400 + yo + 1), .int .i64 (mp + 3 - 12), .int .i64 (doy - (153 * mp + 2) / 5 + 1), .int .i64 (r / 3600000), .int .i64 (0), .int .i64 (0), .int .i64 (0), .int .i64 (0), .int .i64 (0), .int .i64 (0)] 27 := s2.set 3 (.int .i64 (r / 3600000))
    have s4 : Bk.Is _ w.heap.size #[.int .i64 (era * 400 + yo + 1), .int .i64 (mp + 3 - 12), .int .i64 (doy - (153 * mp + 2) / 5 + 1), .int .i64 (r / 3600000), .int .i64 (r / 60000 % 60), .int .i64 (0), .int .i64 (0), .int .i64 (0), .int .i64 (0), .int .i64 (0)] 27 := s3.set 4 (.int .i64 (r / 60000 % 60))
    have s5 : Bk.Is _ w.heap.size #[.int .i64 (era * 400 + yo + 1), .int .i64 (mp + 3 - 12), .int .i64 (doy - (153 * mp + 2) / 5 + 1), .int .i64 (r / 3600000), .int .i64 (r / 60000 % 60), .int .i64 (r / 1000 % 60), .int .i64 (0), .int .i64 (0), .int .i64 (0), .int .i64 (0)] 27 := s4.set 5 (.int .i64 (r / 1000 % 60))
    have s6 : Bk.Is _ w.heap.size #[.int .i64 (era * 400 + yo + 1), .int .i64 (mp + 3 - 12), .int .i64 (doy - (153 * mp + 2) / 5 + 1), .int .i64 (r / 3600000), .int .i64 (r / 60000 % 60), .int .i64 (r / 1000 % 60), .int .i64 (r % 1000), .int .i64 (0), .int .i64 (0), .int .i64 (0)] 27 := s5.set 6 (.int .i64 (r % 1000))
    have s7 : Bk.Is _ w.heap.size #[.int .i64 (era * 400 + yo + 1), .int .i64 (mp + 3 - 12), .int .i64 (doy - (153 * mp + 2) / 5 + 1), .int .i64 (r / 3600000), .int .i64 (r / 60000 % 60), .int .i64 (r / 1000 % 60), .int .i64 (r % 1000), .int .i64 (wk), .int .i64 (0), .int .i64 (0)] 27 := s6.set 7 (.int .i64 (wk))
    have s8 : Bk.Is _ w.heap.size #[.int .i64 (era * 400 + yo + 1), .int .i64 (mp + 3 - 12), .int .i64 (doy - (153 * mp + 2) / 5 + 1), .int .i64 (r / 3600000), .int .i64 (r / 60000 % 60), .int .i64 (r / 1000 % 60), .int .i64 (r % 1000), .int .i64 (wk), .int .i64 (n - dayNum (era * 400 + yo + 1) 1 1 + 1), .int .i64 (0)] 27 := s7.set 8 (.int .i64 (n - dayNum (era * 400 + yo + 1) 1 1 + 1))
    have s9 : Bk.Is _ w.heap.size #[.int .i64 (era * 400 + yo + 1), .int .i64 (mp + 3 - 12), .int .i64 (doy - (153 * mp + 2) / 5 + 1), .int .i64 (r / 3600000), .int .i64 (r / 60000 % 60), .int .i64 (r / 1000 % 60), .int .i64 (r % 1000), .int .i64 (wk), .int .i64 (n - dayNum (era * 400 + yo + 1) 1 1 + 1), .int .i64 (mdays (era * 400 + yo + 1) (mp + 3 - 12))] 27 := s8.set 9 (.int .i64 (mdays (era * 400 + yo + 1) (mp + 3 - 12)))
    generalize hW4 : ((((((((((W3.setCell ⟨w.heap.size, 0, none⟩ (Value.int IntKind.i64 (era * 400 + yo + 1))).setCell ⟨w.heap.size, 1, none⟩ (Value.int IntKind.i64 (mp + 3 - 12))).setCell ⟨w.heap.size, 2, none⟩ (Value.int IntKind.i64 (doy - (153 * mp + 2) / 5 + 1))).setCell ⟨w.heap.size, 3, none⟩ (Value.int IntKind.i64 (r / 3600000))).setCell ⟨w.heap.size, 4, none⟩ (Value.int IntKind.i64 (r / 60000 % 60))).setCell ⟨w.heap.size, 5, none⟩ (Value.int IntKind.i64 (r / 1000 % 60))).setCell ⟨w.heap.size, 6, none⟩ (Value.int IntKind.i64 (r % 1000))).setCell ⟨w.heap.size, 7, none⟩ (Value.int IntKind.i64 (wk))).setCell ⟨w.heap.size, 8, none⟩ (Value.int IntKind.i64 (n - dayNum (era * 400 + yo + 1) 1 1 + 1))).setCell ⟨w.heap.size, 9, none⟩ (Value.int IntKind.i64 (mdays (era * 400 + yo + 1) (mp + 3 - 12)))) = W4
    have HR4 : Bk.Is W4 w.heap.size #[.int .i64 (era * 400 + yo + 1), .int .i64 (mp + 3 - 12), .int .i64 (doy - (153 * mp + 2) / 5 + 1), .int .i64 (r / 3600000), .int .i64 (r / 60000 % 60), .int .i64 (r / 1000 % 60), .int .i64 (r % 1000), .int .i64 (wk), .int .i64 (n - dayNum (era * 400 + yo + 1) 1 1 + 1), .int .i64 (mdays (era * 400 + yo + 1) (mp + 3 - 12))] 27 := by rw [← hW4]; exact s9
    clear s0 s1 s2 s3 s4 s5 s6 s7 s8 s9
    have bw4 : Below w.heap.size w W4 := by rw [← hW4]; exact ((((((((((bw3.setCell (Nat.le_refl _) _).setCell (Nat.le_refl _) _).setCell (Nat.le_refl _) _).setCell (Nat.le_refl _) _).setCell (Nat.le_refl _) _).setCell (Nat.le_refl _) _).setCell (Nat.le_refl _) _).setCell (Nat.le_refl _) _).setCell (Nat.le_refl _) _).setCell (Nat.le_refl _) _)
    clear hW4 x0 x1 x2 x3 x4 x5 x6 x7 x8 x9 g0 g1 g2 g3 g4 g5 g6 g7 g8 g9 xf
    refine Bk.ret_block HR4 rfl rfl Tryd.underlying27 rfl (by kernel_rfl) rfl ?_
    obtain ⟨rfl, rfl⟩ := H1.out
    obtain ⟨rfl, rfl⟩ := H2.out
    have hl := civ_early _ era doe yo doy mp H3.out y0 y1 HY2.out HY3.out HD.out HM.out m1 hc
    exact ⟨_, _, _, rfl, by omega, by omega, by omega, hl.2, hl.1, by omega, by omega, bw4⟩
  · go_upto_region 14 with fail
    generalize hW2 : ((((((W).setCell ⟨w.heap.size + 1, 2, none⟩ (Value.int IntKind.i64 (doy - (153 * mp + 2) / 5 + 1)))).setCell ⟨w.heap.size + 1, 1, none⟩ (Value.int IntKind.i64 (mp + 3)))).setCell ⟨w.heap.size + 1, 0, none⟩ (Value.int IntKind.i64 (era * 400 + yo))) = W2
    have HB2 : Bk.Is W2 (w.heap.size + 1) #[.int .i64 (era * 400 + yo), .int .i64 (mp + 3), .int .i64 (doy - (153 * mp + 2) / 5 + 1), .int .i64 (0), .int .i64 (0), .int .i64 (0), .int .i64 (0), .int .i64 (wk), .int .i64 (0), .int .i64 (0)] 27 := by rw [← hW2]; exact (((HB.set 2 (.int .i64 (doy - (153 * mp + 2) / 5 + 1))).set 1 (.int .i64 (mp + 3))).set 0 (.int .i64 (era * 400 + yo)))
    have HR2 : Bk.Is W2 w.heap.size #[.int .i64 (0), .int .i64 (0), .int .i64 (0), .int .i64 (0), .int .i64 (0), .int .i64 (0), .int .i64 (0), .int .i64 (0), .int .i64 (0), .int .i64 (0)] 27 := by rw [← hW2]; exact (((HR.other (by simp) _).other (by simp) _).other (by simp) _)
    have bw2 : Below w.heap.size w W2 := by rw [← hW2]; exact (((bw.setCell (by simp) _).setCell (by simp) _).setCell (by simp) _)
    clear hW2 c0 c1 c2 c3 c4 c5 c6 c7 c8 c9 cf
    have e0 : W2.cell? ⟨w.heap.size + 1, 0, none⟩ = some (.int .i64 (era * 400 + yo)) := HB2.cell 0
    have e1 : W2.cell? ⟨w.heap.size + 1, 1, none⟩ = some (.int .i64 (mp + 3)) := HB2.cell 1
    have e2 : W2.cell? ⟨w.heap.size + 1, 2, none⟩ = some (.int .i64 (doy - (153 * mp + 2) / 5 + 1)) := HB2.cell 2
    have e3 : W2.cell? ⟨w.heap.size + 1, 3, none⟩ = some (.int .i64 (0)) := HB2.cell 3
    have e4 : W2.cell? ⟨w.heap.size + 1, 4, none⟩ = some (.int .i64 (0)) := HB2.cell 4
    have e5 : W2.cell? ⟨w.heap.size + 1, 5, none⟩ = some (.int .i64 (0)) := HB2.cell 5
    have e6 : W2.cell? ⟨w.heap.size + 1, 6, none⟩ = some (.int .i64 (0)) := HB2.cell 6
    have e7 : W2.cell? ⟨w.heap.size + 1, 7, none⟩ = some (.int .i64 (wk)) := HB2.cell 7
    have e8 : W2.cell? ⟨w.heap.size + 1, 8, none⟩ = some (.int .i64 (0)) := HB2.cell 8
    have e9 : W2.cell? ⟨w.heap.size + 1, 9, none⟩ = some (.int .i64 (0)) := HB2.cell 9
    have ef : ∀ j, W2.frozen? ⟨w.heap.size + 1, j, none⟩ = false := HB2.free
    have nb := dayNum_bd2 (era * 400 + yo) (by omega) (by omega)
    go_upto_region 18 with (first | (go_at_call 25; refine (mdays_any _ _ _).mono ?_; rintro e w' ⟨rfl, rfl⟩) | (go_at_call 26; refine (dayNumber_any _ _ _ (by omega) (by omega) (by omega) (by omega) (by omega) (by omega) _).mono ?_; rintro e w' ⟨rfl, k4, rfl⟩))
    generalize hW3 : (((((((W2.setCell ⟨w.heap.size + 1, 9, none⟩ (Value.int IntKind.i64 (mdays (era * 400 + yo) (mp + 3)))).drewN k4).setCell ⟨w.heap.size + 1, 8, none⟩ (Value.int IntKind.i64 (n - dayNum (era * 400 + yo) 1 1 + 1))).setCell ⟨w.heap.size + 1, 3, none⟩ (Value.int IntKind.i64 (r / 3600000))).setCell ⟨w.heap.size + 1, 4, none⟩ (Value.int IntKind.i64 (r / 60000 % 60))).setCell ⟨w.heap.size + 1, 5, none⟩ (Value.int IntKind.i64 (r / 1000 % 60))).setCell ⟨w.heap.size + 1, 6, none⟩ (Value.int IntKind.i64 (r % 1000))) = W3
    have HB3 : Bk.Is W3 (w.heap.size + 1) #[.int .i64 (era * 400 + yo), .int .i64 (mp + 3), .int .i64 (doy - (153 * mp + 2) / 5 + 1), .int .i64 (r / 3600000), .int .i64 (r / 60000 % 60), .int .i64 (r / 1000 % 60), .int .i64 (r % 1000), .int .i64 (wk), .int .i64 (n - dayNum (era * 400 + yo) 1 1 + 1), .int .i64 (mdays (era * 400 + yo) (mp + 3))] 27 := by rw [← hW3]; exact (((((((HB2.set 9 (.int .i64 (mdays (era * 400 + yo) (mp + 3)))).drewN k4).set 8 (.int .i64 (n - dayNum (era * 400 + yo) 1 1 + 1))).set 3 (.int .i64 (r / 3600000))).set 4 (.int .i64 (r / 60000 % 60))).set 5 (.int .i64 (r / 1000 % 60))).set 6 (.int .i64 (r % 1000)))
    have HR3 : Bk.Is W3 w.heap.size #[.int .i64 (0), .int .i64 (0), .int .i64 (0), .int .i64 (0), .int .i64 (0), .int .i64 (0), .int .i64 (0), .int .i64 (0), .int .i64 (0), .int .i64 (0)] 27 := by rw [← hW3]; exact (((((((HR2.other (by simp) _).drewN k4).other (by simp) _).other (by simp) _).other (by simp) _).other (by simp) _).other (by simp) _)
    have bw3 : Below w.heap.size w W3 := by rw [← hW3]; exact (((((((bw2.setCell (by simp) _).drewN' k4).setCell (by simp) _).setCell (by simp) _).setCell (by simp) _).setCell (by simp) _).setCell (by simp) _)
    clear hW3 e0 e1 e2 e3 e4 e5 e6 e7 e8 e9 ef
    have g0 : W3.cell? ⟨w.heap.size + 1, 0, none⟩ = some (.int .i64 (era * 400 + yo)) := HB3.cell 0
    have g1 : W3.cell? ⟨w.heap.size + 1, 1, none⟩ = some (.int .i64 (mp + 3)) := HB3.cell 1
    have g2 : W3.cell? ⟨w.heap.size + 1, 2, none⟩ = some (.int .i64 (doy - (153 * mp + 2) / 5 + 1)) := HB3.cell 2
    have g3 : W3.cell? ⟨w.heap.size + 1, 3, none⟩ = some (.int .i64 (r / 3600000)) := HB3.cell 3
    have g4 : W3.cell? ⟨w.heap.size + 1, 4, none⟩ = some (.int .i64 (r / 60000 % 60)) := HB3.cell 4
    have g5 : W3.cell? ⟨w.heap.size + 1, 5, none⟩ = some (.int .i64 (r / 1000 % 60)) := HB3.cell 5
    have g6 : W3.cell? ⟨w.heap.size + 1, 6, none⟩ = some (.int .i64 (r % 1000)) := HB3.cell 6
    have g7 : W3.cell? ⟨w.heap.size + 1, 7, none⟩ = some (.int .i64 (wk)) := HB3.cell 7
    have g8 : W3.cell? ⟨w.heap.size + 1, 8, none⟩ = some (.int .i64 (n - dayNum (era * 400 + yo) 1 1 + 1)) := HB3.cell 8
    have g9 : W3.cell? ⟨w.heap.size + 1, 9, none⟩ = some (.int .i64 (mdays (era * 400 + yo) (mp + 3))) := HB3.cell 9
    have x0 : W3.cell? ⟨w.heap.size, 0, none⟩ = some (.int .i64 0) := HR3.cell 0
    have x1 : W3.cell? ⟨w.heap.size, 1, none⟩ = some (.int .i64 0) := HR3.cell 1
    have x2 : W3.cell? ⟨w.heap.size, 2, none⟩ = some (.int .i64 0) := HR3.cell 2
    have x3 : W3.cell? ⟨w.heap.size, 3, none⟩ = some (.int .i64 0) := HR3.cell 3
    have x4 : W3.cell? ⟨w.heap.size, 4, none⟩ = some (.int .i64 0) := HR3.cell 4
    have x5 : W3.cell? ⟨w.heap.size, 5, none⟩ = some (.int .i64 0) := HR3.cell 5
    have x6 : W3.cell? ⟨w.heap.size, 6, none⟩ = some (.int .i64 0) := HR3.cell 6
    have x7 : W3.cell? ⟨w.heap.size, 7, none⟩ = some (.int .i64 0) := HR3.cell 7
    have x8 : W3.cell? ⟨w.heap.size, 8, none⟩ = some (.int .i64 0) := HR3.cell 8
    have x9 : W3.cell? ⟨w.heap.size, 9, none⟩ = some (.int .i64 0) := HR3.cell 9
    have xf : ∀ j, W3.frozen? ⟨w.heap.size, j, none⟩ = false := HR3.free
    go_wp2_with fail
    have s0 : Bk.Is _ w.heap.size #[.int .i64 (era * 400 + yo), .int .i64 (0), .int .i64 (0), .int .i64 (0), .int .i64 (0), .int .i64 (0), .int .i64 (0), .int .i64 (0), .int .i64 (0), .int .i64 (0)] 27 := HR3.set 0 (.int .i64 (era * 400 + yo))
    have s1 : Bk.Is _ w.heap.size #[.int .i64 (era * 400 + yo), .int .i64 (mp + 3), .int .i64 (0), .int .i64 (0), .int .i64 (0), .int .i64 (0), .int .i64 (0), .int .i64 (0), .int .i64 (0), .int .i64 (0)] 27 := s0.set 1 (.int .i64 (mp + 3))
    have s2 : Bk.Is _ w.heap.size #[.int .i64 (era * 400 + yo), .int .i64 (mp + 3), .int .i64 (doy - (153 * mp + 2) / 5 + 1), .int .i64 (0), .int .i64 (0), .int .i64 (0), .int .i64 (0), .int .i64 (0), .int .i64 (0), .int .i64 (0)] 27 := s1.set 2 (.int .i64 (doy - (153 * mp + 2) / 5 + 1))
    have s3 : Bk.Is _ w.heap.size #[.int .i64 (era * 400 + yo), .int .i64 (mp + 3), .int .i64 (doy - (153 * mp + 2) / 5 + 1), .int .i64 (r / 3600000), .int .i64 (0), .int .i64 (0), .int .i64 (0), .int .i64 (0), .int .i64 (0), .int .i64 (0)] 27 := s2.set 3 (.int .i64 (r / 3600000))
    have s4 : Bk.Is _ w.heap.size #[.int .i64 (era * 400 + yo), .int .i64 (mp + 3), .int .i64 (doy - (153 * mp + 2) / 5 + 1), .int .i64 (r / 3600000), .int .i64 (r / 60000 % 60), .int .i64 (0), .int .i64 (0), .int .i64 (0), .int .i64 (0), .int .i64 (0)] 27 := s3.set 4 (.int .i64 (r / 60000 % 60))
    have s5 : Bk.Is _ w.heap.size #[.int .i64 (era * 400 + yo), .int .i64 (mp + 3), .int .i64 (doy - (153 * mp + 2) / 5 + 1), .int .i64 (r / 3600000), .int .i64 (r / 60000 % 60), .int .i64 (r / 1000 % 60), .int .i64 (0), .int .i64 (0), .int .i64 (0), .int .i64 (0)] 27 := s4.set 5 (.int .i64 (r / 1000 % 60))
    have s6 : Bk.Is _ w.heap.size #[.int .i64 (era * 400 + yo), .int .i64 (mp + 3), .int .i64 (doy - (153 * mp + 2) / 5 + 1), .int .i64 (r / 3600000), .int .i64 (r / 60000 % 60), .int .i64 (r / 1000 % 60), .int .i64 (r % 1000), .int .i64 (0), .int .i64 (0), .int .i64 (0)] 27 := s5.set 6 (.int .i64 (r % 1000))
    have s7 : Bk.Is _ w.heap.size #[.int .i64 (era * 400 + yo), .int .i64 (mp + 3), .int .i64 (doy - (153 * mp + 2) / 5 + 1), .int .i64 (r / 3600000), .int .i64 (r / 60000 % 60), .int .i64 (r / 1000 % 60), .int .i64 (r % 1000), .int .i64 (wk), .int .i64 (0), .int .i64 (0)] 27 := s6.set 7 (.int .i64 (wk))
    have s8 : Bk.Is _ w.heap.size #[.int .i64 (era * 400 + yo), .int .i64 (mp + 3), .int .i64 (doy - (153 * mp + 2) / 5 + 1), .int .i64 (r / 3600000), .int .i64 (r / 60000 % 60), .int .i64 (r / 1000 % 60), .int .i64 (r % 1000), .int .i64 (wk), .int .i64 (n - dayNum (era * 400 + yo) 1 1 + 1), .int .i64 (0)] 27 := s7.set 8 (.int .i64 (n - dayNum (era * 400 + yo) 1 1 + 1))
    have s9 : Bk.Is _ w.heap.size #[.int .i64 (era * 400 + yo), .int .i64 (mp + 3), .int .i64 (doy - (153 * mp + 2) / 5 + 1), .int .i64 (r / 3600000), .int .i64 (r / 60000 % 60), .int .i64 (r / 1000 % 60), .int .i64 (r % 1000), .int .i64 (wk), .int .i64 (n - dayNum (era * 400 + yo) 1 1 + 1), .int .i64 (mdays (era * 400 + yo) (mp + 3))] 27 := s8.set 9 (.int .i64 (mdays (era * 400 + yo) (mp + 3)))
    generalize hW4 : ((((((((((W3.setCell ⟨w.heap.size, 0, none⟩ (Value.int IntKind.i64 (era * 400 + yo))).setCell ⟨w.heap.size, 1, none⟩ (Value.int IntKind.i64 (mp + 3))).setCell ⟨w.heap.size, 2, none⟩ (Value.int IntKind.i64 (doy - (153 * mp + 2) / 5 + 1))).setCell ⟨w.heap.size, 3, none⟩ (Value.int IntKind.i64 (r / 3600000))).setCell ⟨w.heap.size, 4, none⟩ (Value.int IntKind.i64 (r / 60000 % 60))).setCell ⟨w.heap.size, 5, none⟩ (Value.int IntKind.i64 (r / 1000 % 60))).setCell ⟨w.heap.size, 6, none⟩ (Value.int IntKind.i64 (r % 1000))).setCell ⟨w.heap.size, 7, none⟩ (Value.int IntKind.i64 (wk))).setCell ⟨w.heap.size, 8, none⟩ (Value.int IntKind.i64 (n - dayNum (era * 400 + yo) 1 1 + 1))).setCell ⟨w.heap.size, 9, none⟩ (Value.int IntKind.i64 (mdays (era * 400 + yo) (mp + 3)))) = W4
    have HR4 : Bk.Is W4 w.heap.size #[.int .i64 (era * 400 + yo), .int .i64 (mp + 3), .int .i64 (doy - (153 * mp + 2) / 5 + 1), .int .i64 (r / 3600000), .int .i64 (r / 60000 % 60), .int .i64 (r / 1000 % 60), .int .i64 (r % 1000), .int .i64 (wk), .int .i64 (n - dayNum (era * 400 + yo) 1 1 + 1), .int .i64 (mdays (era * 400 + yo) (mp + 3))] 27 := by rw [← hW4]; exact s9
    clear s0 s1 s2 s3 s4 s5 s6 s7 s8 s9
    have bw4 : Below w.heap.size w W4 := by rw [← hW4]; exact ((((((((((bw3.setCell (Nat.le_refl _) _).setCell (Nat.le_refl _) _).setCell (Nat.le_refl _) _).setCell (Nat.le_refl _) _).setCell (Nat.le_refl _) _).setCell (Nat.le_refl _) _).setCell (Nat.le_refl _) _).setCell (Nat.le_refl _) _).setCell (Nat.le_refl _) _).setCell (Nat.le_refl _) _)
    clear hW4 x0 x1 x2 x3 x4 x5 x6 x7 x8 x9 g0 g1 g2 g3 g4 g5 g6 g7 g8 g9 xf
    refine Bk.ret_block HR4 rfl rfl Tryd.underlying27 rfl (by kernel_rfl) rfl ?_
    obtain ⟨rfl, rfl⟩ := H1.out
    obtain ⟨rfl, rfl⟩ := H2.out
    have hl := civ_late _ era doe yo doy mp H3.out y0 y1 HD.out HM.out m0 (by omega)
    exact ⟨_, _, _, rfl, by omega, by omega, by omega, hl.2, hl.1, by omega, by omega, bw4⟩

end Go.Proofs.YtmgnhekpgeahmaaDoor
