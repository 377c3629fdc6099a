/- weirlaw03.SpanDays returns true whatever comes in. -/
import Derived.Test.YtmgnhekpgeahmaaCivil
import Derived.Test.YtmgnhekpgeahmaaDateLaw
import Derived.Deep.DeepCutAuto
namespace Go.Proofs.Ytmgnhekpgeahmaa
open Go.Fl Go.Rel Go.RowKit

set_option maxHeartbeats 4000000 in
set_option maxRecDepth 100000 in
theorem law_days (t : Int) (h0 : -9223372036854775808 ≤ t) (h1 : t ≤ 9223372036768375807) (w : World) : Calls Try.prog 4 #[.int .i64 t] w fun e w' => e = .returned (.bool true) ∧ Below w.heap.size w w' := by
  go_enter Try.func4, Try.ntmps4
  go_wp2_with fail
  refine (civil_any _ (by omega) (by omega) _).mono ?_
  rintro e w1 ⟨y, m, d, rfl, m0, m1, d0, d1, hn, y0, y1, b1⟩
  go_wp2_with fail
  refine (civil_any _ (by omega) (by omega) _).mono ?_
  rintro e w2 ⟨y2, m2, d2, rfl, p0, p1, e0, e1, hn2, z0, z1, b2⟩
  have en : (t + 86400000) / 86400000 = t / 86400000 + 1 := by omega
  rw [en] at hn2
  have hnext := next_date y m d y2 m2 d2 m0 m1 d0 d1 p0 p1 e0 e1 (by omega)
  have na : -106751991168 ≤ t / 86400000 := by omega
  have nb : t / 86400000 ≤ 106751991168 := by omega
  have dy := dayNum_bd2 y y0 y1
  have dy2 := dayNum_bd2 y2 z0 z1
  have En := Lib.hid en
  have Hnext := Lib.hid hnext
  have HN := Lib.hid hn
  have HN2 := Lib.hid hn2
  clear en hnext hn hn2
  go_upto_region 4 with fail
  rw [En.out]
  generalize t / 86400000 = n at HN HN2 En na nb ⊢
  generalize t % 86400000 / 3600000 = h
  generalize t % 86400000 / 60000 % 60 = mi
  generalize t % 86400000 / 1000 % 60 = s
  generalize t % 1000 = ms
  generalize hW : ((w2.alloc (Obj.cells #[.int .i64 (y), .int .i64 (m), .int .i64 (d), .int .i64 (h), .int .i64 (mi), .int .i64 (s), .int .i64 (ms), .int .i64 ((n + 4) % 7), .int .i64 (n - dayNum y 1 1 + 1), .int .i64 (mdays y m)] 23)).alloc (Obj.cells #[.int .i64 (y2), .int .i64 (m2), .int .i64 (d2), .int .i64 (h), .int .i64 (mi), .int .i64 (s), .int .i64 (ms), .int .i64 ((n + 1 + 4) % 7), .int .i64 (n + 1 - dayNum y2 1 1 + 1), .int .i64 (mdays y2 m2)] 23)) = W
  have HA : Bk.Is W w2.heap.size #[.int .i64 (y), .int .i64 (m), .int .i64 (d), .int .i64 (h), .int .i64 (mi), .int .i64 (s), .int .i64 (ms), .int .i64 ((n + 4) % 7), .int .i64 (n - dayNum y 1 1 + 1), .int .i64 (mdays y m)] 23 := by rw [← hW]; exact (Bk.Is.made _ _ _).alloc _
  have HB : Bk.Is W (w2.heap.size + 1) #[.int .i64 (y2), .int .i64 (m2), .int .i64 (d2), .int .i64 (h), .int .i64 (mi), .int .i64 (s), .int .i64 (ms), .int .i64 ((n + 1 + 4) % 7), .int .i64 (n + 1 - dayNum y2 1 1 + 1), .int .i64 (mdays y2 m2)] 23 := by
    rw [← hW]
    have hh := Bk.Is.made (w2.alloc (Obj.cells #[.int .i64 (y), .int .i64 (m), .int .i64 (d), .int .i64 (h), .int .i64 (mi), .int .i64 (s), .int .i64 (ms), .int .i64 ((n + 4) % 7), .int .i64 (n - dayNum y 1 1 + 1), .int .i64 (mdays y m)] 23)) #[.int .i64 (y2), .int .i64 (m2), .int .i64 (d2), .int .i64 (h), .int .i64 (mi), .int .i64 (s), .int .i64 (ms), .int .i64 ((n + 1 + 4) % 7), .int .i64 (n + 1 - dayNum y2 1 1 + 1), .int .i64 (mdays y2 m2)] 23
    simpa using hh
  have bw : Below w.heap.size w W := by
    rw [← hW]
    have k1 := b1.size
    have k2 := b2.size
    exact ((b1.trans (b2.mono k1)).alloc (by omega) _).alloc (by simp; omega) _
  clear hW
  have A0 : W.cell? ⟨w2.heap.size, 0, none⟩ = some (.int .i64 (y)) := HA.cell 0
  have B0 : W.cell? ⟨w2.heap.size + 1, 0, none⟩ = some (.int .i64 (y2)) := HB.cell 0
  have A1 : W.cell? ⟨w2.heap.size, 1, none⟩ = some (.int .i64 (m)) := HA.cell 1
  have B1 : W.cell? ⟨w2.heap.size + 1, 1, none⟩ = some (.int .i64 (m2)) := HB.cell 1
  have A2 : W.cell? ⟨w2.heap.size, 2, none⟩ = some (.int .i64 (d)) := HA.cell 2
  have B2 : W.cell? ⟨w2.heap.size + 1, 2, none⟩ = some (.int .i64 (d2)) := HB.cell 2
  have A3 : W.cell? ⟨w2.heap.size, 3, none⟩ = some (.int .i64 (h)) := HA.cell 3
  have B3 : W.cell? ⟨w2.heap.size + 1, 3, none⟩ = some (.int .i64 (h)) := HB.cell 3
  have A4 : W.cell? ⟨w2.heap.size, 4, none⟩ = some (.int .i64 (mi)) := HA.cell 4
  have B4 : W.cell? ⟨w2.heap.size + 1, 4, none⟩ = some (.int .i64 (mi)) := HB.cell 4
  have A5 : W.cell? ⟨w2.heap.size, 5, none⟩ = some (.int .i64 (s)) := HA.cell 5
  have B5 : W.cell? ⟨w2.heap.size + 1, 5, none⟩ = some (.int .i64 (s)) := HB.cell 5
  have A6 : W.cell? ⟨w2.heap.size, 6, none⟩ = some (.int .i64 (ms)) := HA.cell 6
  have B6 : W.cell? ⟨w2.heap.size + 1, 6, none⟩ = some (.int .i64 (ms)) := HB.cell 6
  have A7 : W.cell? ⟨w2.heap.size, 7, none⟩ = some (.int .i64 ((n + 4) % 7)) := HA.cell 7
  have B7 : W.cell? ⟨w2.heap.size + 1, 7, none⟩ = some (.int .i64 ((n + 1 + 4) % 7)) := HB.cell 7
  have A8 : W.cell? ⟨w2.heap.size, 8, none⟩ = some (.int .i64 (n - dayNum y 1 1 + 1)) := HA.cell 8
  have B8 : W.cell? ⟨w2.heap.size + 1, 8, none⟩ = some (.int .i64 (n + 1 - dayNum y2 1 1 + 1)) := HB.cell 8
  have A9 : W.cell? ⟨w2.heap.size, 9, none⟩ = some (.int .i64 (mdays y m)) := HA.cell 9
  have B9 : W.cell? ⟨w2.heap.size + 1, 9, none⟩ = some (.int .i64 (mdays y2 m2)) := HB.cell 9
  go_upto_region 8 with fail
  go_cut [5] (fun s5 wx => s5 = .bool (leapB y) ∧ wx = W)
  case first =>
    cases h4 : (y.tmod 4 == 0) <;> cases h100 : (y.tmod 100 != 0) <;> cases h400 : (y.tmod 400 == 0)
    all_goals
      have hs := leap_alt y
      rw [h4, h100, h400] at hs
      have Hs := Lib.hid hs
      clear hs
      go_wp2_with fail
      go_meet
      exact ⟨by rw [← Hs.out]; rfl, rfl⟩
  case rest =>
    obtain ⟨rfl, rfl⟩ := hcut
    rcases Hnext.out with ⟨c, ey, em, ed⟩ | ⟨c, c', ey, em, ed⟩ | ⟨c, ec, ey, em, ed⟩
    · clear Hnext
      obtain rfl : y = y2 := ey.symm
      obtain rfl : m = m2 := em.symm
      subst ed
      rcases mdays_at y m m0 m1 with ⟨rfl, _⟩ | ⟨hm, hL⟩ | ⟨hm, hL⟩
      · cases hl : leapB y
        · have hL : mdays y 2 = 28 := by unfold mdays; rw [if_neg (by omega), if_pos rfl, hl]; rfl
          clear hl
          go_wp2_with fail
          go_ret
          exact ⟨ret_bool (by simp; try omega), bw⟩
        · have hL : mdays y 2 = 29 := by unfold mdays; rw [if_neg (by omega), if_pos rfl, hl]; rfl
          clear hl
          go_wp2_with fail
          go_ret
          exact ⟨ret_bool (by simp; try omega), bw⟩
      · rcases hm with rfl | rfl | rfl | rfl
        all_goals
          go_wp2_with fail
          go_ret
          exact ⟨ret_bool (by simp; try omega), bw⟩
      · have q2 : (m == 2) = false := by simp; omega
        have q4 : (m == 4) = false := by simp; omega
        have q6 : (m == 6) = false := by simp; omega
        have q9 : (m == 9) = false := by simp; omega
        have q11 : (m == 11) = false := by simp; omega
        clear hm
        go_wp2_with fail
        go_ret
        exact ⟨ret_bool (by simp; try omega), bw⟩
    · clear Hnext
      obtain rfl : y = y2 := ey.symm
      subst em ed
      rcases mdays_at y m m0 m1 with ⟨rfl, _⟩ | ⟨hm, hL⟩ | ⟨hm, hL⟩
      · cases hl : leapB y
        · have hL : mdays y 2 = 28 := by unfold mdays; rw [if_neg (by omega), if_pos rfl, hl]; rfl
          clear hl
          go_wp2_with fail
          go_ret
          exact ⟨ret_bool (by simp; try omega), bw⟩
        · have hL : mdays y 2 = 29 := by unfold mdays; rw [if_neg (by omega), if_pos rfl, hl]; rfl
          clear hl
          go_wp2_with fail
          go_ret
          exact ⟨ret_bool (by simp; try omega), bw⟩
      · rcases hm with rfl | rfl | rfl | rfl
        all_goals
          go_wp2_with fail
          go_ret
          exact ⟨ret_bool (by simp; try omega), bw⟩
      · have q2 : (m == 2) = false := by simp; omega
        have q4 : (m == 4) = false := by simp; omega
        have q6 : (m == 6) = false := by simp; omega
        have q9 : (m == 9) = false := by simp; omega
        have q11 : (m == 11) = false := by simp; omega
        clear hm
        go_wp2_with fail
        go_ret
        exact ⟨ret_bool (by simp; try omega), bw⟩
    · clear Hnext
      subst ec ey em ed
      have hy1 : dayNum (y + 1) 1 1 = n + 1 := HN2.out
      have hy0 : dayNum y 1 1 = n + 1 - ydays y := by have := last_day y d c; have := HN.out; omega
      have hL : mdays y 12 = 31 := by unfold mdays; rw [if_neg (by omega), if_neg (by omega)]
      cases hl : leapB y
      · have hY : ydays y = 365 := by unfold ydays; rw [hl]; rfl
        clear hl
        go_wp2_with fail
        go_ret
        exact ⟨ret_bool (by simp; try omega), bw⟩
      · have hY : ydays y = 366 := by unfold ydays; rw [hl]; rfl
        clear hl
        go_wp2_with fail
        go_ret
        exact ⟨ret_bool (by simp; try omega), bw⟩

end Go.Proofs.Ytmgnhekpgeahmaa
