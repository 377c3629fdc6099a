/- weirlaw06.CalcMoves returns true whatever comes in. -/
import Derived.Test.YtllphokepjekpaaLineB
import Derived.Test.YtllphokepjekpaaBeat
import Derived.Test.YtllphokepjekpaaGrowS
import Derived.StillTailTactics
namespace Go.Proofs.Ytllphokepjekpaa
open Go.Fl Go.Rel Go.RowKit

/-- The samples moved in time, their marks turned. -/
def mvS (y : Int) (s : Smp) : Smp := ⟨wrap64 (s.t + y), s.v, !s.s⟩

theorem wrap64_move (t z y : Int) : wrap64 (wrap64 (t + y) - wrap64 (z + y)) = wrap64 (t - z) := by
  unfold wrap64; omega
theorem wrap64_bounds (x : Int) : -9223372036854775808 ≤ wrap64 x ∧ wrap64 x ≤ 9223372036854775807 := by
  unfold wrap64; omega

theorem vcs_mv (y : Int) (ss : List Smp) : vcs (ss.map (mvS y)) = vcs ss := by
  unfold vcs; rw [List.map_map]; rfl
theorem tcs_mv (y z : Int) (ss : List Smp) : tcs (wrap64 (z + y)) (ss.map (mvS y)) = tcs z ss := by
  unfold tcs; rw [List.map_map]
  refine List.map_congr_left fun s _ => ?_
  show secF (wrap64 (wrap64 (s.t + y) - wrap64 (z + y))) = _
  rw [wrap64_move]
theorem eigs_mv (y p : Int) (ss : List Smp) : eigs (ss.map (mvS y)) p = eigs ss p := by
  unfold eigs; rw [List.map_map]
  cases ss with
  | nil => rfl
  | cons s0 ss =>
    refine List.map_congr_left fun s _ => ?_
    show (eig (wrap64 (wrap64 (s.t + y) - wrap64 (s0.t + y))) p).toNat = _
    rw [wrap64_move]
    rfl
theorem tS_mv (y : Int) (ss : List Smp) (i : Nat) : -9223372036854775808 ≤ tS (ss.map (mvS y)) i ∧ tS (ss.map (mvS y)) i ≤ 9223372036854775807 := by
  unfold tS sAt
  by_cases h : i < ss.length
  · simp only [List.getD, List.getElem?_map, List.getElem?_eq_getElem h, Option.map_some, Option.getD_some]
    exact wrap64_bounds _
  · rw [List.getD, List.getElem?_eq_none (by simpa using h)]; simp
theorem take_snoc_mv (y : Int) (ss : List Smp) (k : Nat) (h : k < ss.length) : (ss.take (k + 1)).map (mvS y) = (ss.take k).map (mvS y) ++ [mvS y (sAt ss k)] := by
  rw [List.take_add_one, List.getElem?_eq_getElem h, List.map_append]; simp [sAt, List.getD, h]

def ssC : List Smp := [⟨-1, 4616189618054758400, false⟩]
theorem beat_closedC : beatS (vcs ssC) (eigs ssC 1000) 1000 = 4616189618054758400 := by decide +kernel
theorem srow_C (w : World) : SRow (w.alloc (.cells #[.int .i64 (-1), .float .f64 4616189618054758400, .bool false] 35)) (some ⟨w.heap.size, 0, none⟩) 1 ssC := by
  refine ⟨rfl, by omega, fun i => ?_, fun _ => ⟨_, _, rfl, fun i hi => ?_⟩⟩
  · match i with
    | 0 => exact ⟨by decide, by decide⟩
    | i + 1 => exact ⟨by simp [tS, sAt, ssC], by simp [tS, sAt, ssC]⟩
  · match i, hi with
    | 0, _ => refine ⟨?_, ?_, ?_⟩ <;> (rw [World.cell?_alloc_at _ _ _ _ rfl]; rfl)

def MvRel (y : Int) (ss : List Smp) (n B : Nat) (w : World) (v9 i : Value) (wr : World) : Prop :=
  ∃ k, k ≤ n ∧ i = .int .i64 (k : Int) ∧ OwnS B wr v9 ((ss.take k).map (mvS y)) ∧ Below B w wr

set_option maxHeartbeats 4000000 in
set_option maxRecDepth 100000 in
theorem law_moves (a : Option Addr) (n cap : Nat) (ss : List Smp) (z y p : Int) (w : World) (hr : SRow w a n ss) (hreach : n < 5864062014805) :
    Calls Try.prog 7 #[.slice a n cap, .int .i64 z, .int .i64 y, .int .i64 p] w fun e w' => e = .returned (.bool true) ∧ Below w.heap.size w w' := by
  have hne2 : (FloatKind.f64.format.order 4616189618054758400 4616189618054758400 != some .eq) = false := by decide +kernel
  have hl := hr.1
  have hm := hr.2.1
  have Hl := Lib.hid hl
  have Hreach := Lib.hid hreach
  clear hl hreach
  go_enter Try.func7, Try.ntmps7
  go_wp2_with fail
  refine (beat_any _ 1 1 ssC _ _ (srow_C _)).mono ?_
  rintro e w2 ⟨r2, rfl, h2, b2⟩
  rw [beat_closedC] at h2
  have := eq_of_cn h2 (by decide +kernel)
  subst this
  clear h2
  have c2 : Below w.heap.size w w2 := ((Below.refl _ _).alloc (Nat.le_refl _) _).trans (b2.mono (by simp))
  have hc := (hr.below c2).2.2.2
  have HC := Lib.hid hc
  have HR := Lib.hid (hr.below c2)
  clear hc b2 hr
  go_wp2_with fail
  go_loopw [9, 10] (MvRel y ss n w2.heap.size w2) (fun _ i _ => n - (intOf i).toNat)
  case atStart => exact ⟨0, by omega, rfl, World.ownsRow_made w2 #[] 0 (Nat.le_refl _) (by decide) rfl, (Below.refl _ _).alloc (Nat.le_refl _) _⟩
  case round =>
    obtain ⟨k, hk, rfl, hown, bw⟩ := hrel
    have HOWN := Lib.hid hown
    clear hown
    by_cases hlt : k < n
    · obtain ⟨b, off, rfl, hcell⟩ := HC.out (by omega)
      obtain ⟨c0, c3, c4⟩ := hcell k hlt
      have hblt : b < w2.heap.size := World.block_lt_of_cell? w2 _ c0
      have k0 : wr.cell? ⟨b, off + k * 3, none⟩ = some (.int .i64 (tS ss k)) := by rw [bw.cell (p := ⟨b, off + k * 3, none⟩) hblt]; exact c0
      have k1 : wr.cell? ⟨b, off + k * 3 + 1, none⟩ = some (.float .f64 (vS ss k)) := by rw [bw.cell (p := ⟨b, off + k * 3 + 1, none⟩) hblt]; exact c3
      have k2 : wr.cell? ⟨b, off + k * 3 + 2, none⟩ = some (.bool (sS ss k)) := by rw [bw.cell (p := ⟨b, off + k * 3 + 2, none⟩) hblt]; exact c4
      clear c0 c3 c4 hcell
      have hlen : ((ss.take k).map (mvS y)).length = k := by simp; rw [Hl.out]; omega
      have Hlen := Lib.hid hlen
      have Hsn := Lib.hid (take_snoc_mv y ss k (by rw [Hl.out]; exact hlt))
      clear hlen
      obtain ⟨tt, htt⟩ : ∃ tt, tt = wrap64 (tS ss k + y) := ⟨_, rfl⟩
      have hw1 : wrap64 (tS ss k + y) = tt := htt.symm
      have hw2 : IntKind.i64.wrap (tS ss k + y) = tt := by rw [IntKind.wrap_i64, htt]; unfold wrap64; rfl
      have Hmv : Hid (mvS y (sAt ss k) = ⟨tt, vS ss k, !sS ss k⟩) := by show _ = _; rw [htt]; rfl
      clear htt
      go_wp2_with fail
      go_region_law (refine step_append_smp rfl (.tmp 28) (.tmp 48) rfl w2.heap.size _ ((ss.take k).map (mvS y)) rfl (OwnS.alloc (OwnS.drewN HOWN.out 1) _) wr.heap.size 1 ⟨tt, vS ss k, !sS ss k⟩ rfl ⟨by exact World.cell?_alloc_at _ _ _ _ rfl, by exact World.cell?_alloc_at _ _ _ _ rfl, by exact World.cell?_alloc_at _ _ _ _ rfl⟩ (by rw [Hlen.out]; exact Nat.lt_trans hlt Hreach.out) (by have := bw.size; simp; omega) ?_; intro g cp w3 hown3 hgrow3)
      all_goals
        have HG := Lib.hid hown3
        have bw3 := OwnS.below (OwnS.alloc (OwnS.drewN HOWN.out 1) _) ((bw.drewN' 1).alloc (by have := bw.size; exact this) _) hgrow3 (by have := bw.size; simp; omega)
        clear hown3 hgrow3 k0 k1 k2
        go_wp2_with fail
        refine ⟨⟨k + 1, by omega, by go_num, ?_, bw3⟩, by simp [intOf]; omega⟩
        rw [Hsn.out, Hmv.out]
        have := HG.out
        simpa using this
    · have hk' : k = n := by omega
      subst hk'
      clear hlt hk
      rw [List.take_of_length_le (by rw [Hl.out]; exact Nat.le_refl _)] at HOWN
      obtain ⟨a9, c9, hv9, hr9⟩ := OwnS.row HOWN.out (tS_mv y ss)
      subst hv9
      have HM := Lib.hid hr9
      clear hr9 HOWN
      have hlm : (ss.map (mvS y)).length = k := by rw [List.length_map, Hl.out]
      rw [hlm] at HM ⊢
      clear hlm
      have c3 : Below w.heap.size w wr := c2.trans (bw.mono c2.size)
      have R3 : Hid (SRow wr a k ss) := Lib.hid (HR.out.below bw)
      clear HR HC bw
      go_wp2_with fail
      refine (line_any _ _ _ ss _ _ R3.out).mono ?_
      rintro e w4 ⟨x, yy, rfl, hx, hy, b4⟩
      have HX := Lib.hid hx
      have HY := Lib.hid hy
      clear hx hy
      have c4 := c3.trans (b4.mono c3.size)
      have R4 := Lib.hid (R3.out.below b4)
      have M4 := Lib.hid (HM.out.below b4)
      clear R3 HM b4
      go_wp2_with fail
      refine (line_any _ _ _ (ss.map (mvS y)) _ _ M4.out).mono ?_
      rintro e w5 ⟨x', yy', rfl, hx', hy', b5⟩
      have hbx : (cn x == cn x') = true := by rw [hx', HX.out, tcs_mv, vcs_mv]; simp
      have hby : (cn yy == cn yy') = true := by rw [hy', HY.out, tcs_mv, vcs_mv]; simp
      clear hx' hy' HX HY
      have c5 := c4.trans (b5.mono c4.size)
      have R5 := Lib.hid (R4.out.below b5)
      have M5 := Lib.hid (M4.out.below b5)
      clear R4 M4 b5
      go_wp2_with fail
      refine (turn_any _ _ _ ss _ _ R5.out).mono ?_
      rintro e w6 ⟨re, im, rfl, hre, him, b6⟩
      have HRE := Lib.hid hre
      have HIM := Lib.hid him
      clear hre him
      have c6 := c5.trans (b6.mono c5.size)
      have R6 := Lib.hid (R5.out.below b6)
      have M6 := Lib.hid (M5.out.below b6)
      clear R5 M5 b6
      go_wp2_with fail
      refine (turn_any _ _ _ (ss.map (mvS y)) _ _ M6.out).mono ?_
      rintro e w7 ⟨re', im', rfl, hre', him', b7⟩
      have hbr : (cn re == cn re') = true := by rw [hre', HRE.out, eigs_mv, vcs_mv]; simp
      have hbi : (cn im == cn im') = true := by rw [him', HIM.out, eigs_mv, vcs_mv]; simp
      clear hre' him' HRE HIM
      have c7 := c6.trans (b7.mono c6.size)
      have R7 := Lib.hid (R6.out.below b7)
      have M7 := Lib.hid (M6.out.below b7)
      clear R6 M6 b7
      go_wp2_with (first
        | (go_at_call 17; refine (alike_any _ _ _).mono ?_; rintro e w' ⟨rfl, rfl⟩; rw [hbx])
        | (go_at_call 17; refine (alike_any _ _ _).mono ?_; rintro e w' ⟨rfl, rfl⟩; rw [hby])
        | (go_at_call 17; refine (alike_any _ _ _).mono ?_; rintro e w' ⟨rfl, rfl⟩; rw [hbr])
        | (go_at_call 17; refine (alike_any _ _ _).mono ?_; rintro e w' ⟨rfl, rfl⟩; rw [hbi]))
      refine (beat_any _ _ _ ss _ _ R7.out).mono ?_
      rintro e w8 ⟨bt, rfl, hbt, b8⟩
      have HBT := Lib.hid hbt
      clear hbt
      have c8 := c7.trans (b8.mono c7.size)
      have M8 := Lib.hid (M7.out.below b8)
      clear R7 M7 b8
      go_wp2_with fail
      refine (beat_any _ _ _ (ss.map (mvS y)) _ _ M8.out).mono ?_
      rintro e w9 ⟨bt', rfl, hbt', b9⟩
      have hbb : (cn bt == cn bt') = true := by rw [hbt', HBT.out, eigs_mv, vcs_mv]; simp
      clear hbt' HBT
      have c9 := c8.trans (b9.mono c8.size)
      go_wp2_with (go_at_call 17; refine (alike_any _ _ _).mono ?_; rintro e w' ⟨rfl, rfl⟩; rw [hbb])
      go_ret
      exact ⟨rfl, c9⟩

end Go.Proofs.Ytllphokepjekpaa
