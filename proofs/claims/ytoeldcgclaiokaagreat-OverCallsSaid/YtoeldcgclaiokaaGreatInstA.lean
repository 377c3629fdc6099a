/- over.Instant: what it answers. -/
import Derived.Test.YtoeldcgclaiokaaGreatWinA
import Derived.RegionTactic
import Derived.ChangeAlike
namespace Go.Proofs.YtoeldcgclaiokaaGreat
open Go.Fl Go.Rel Go.RowKit

/-- A value of a class, or none. -/
def OptRet (o : Option Nat) (w : World) (e : Ending) (w' : World) : Prop :=
  match o with
  | none => e = .returned (.tuple #[.float .f64 0, .bool false]) ∧ Below w.heap.size w w'
  | some c => ∃ r, e = .returned (.tuple #[.float .f64 r, .bool true]) ∧ cn r = c ∧ Below w.heap.size w w'

theorem cell_old {w : World} {q : Addr} {v : Value} (h : w.cell? q = some v) (o : Obj) : (w.alloc o).cell? q = some v := by
  rw [((Below.refl w.heap.size w).alloc (Nat.le_refl _) o).cell (p := q) (World.block_lt_of_cell? w q h)]; exact h

set_option maxRecDepth 100000 in
theorem secs_any (z : Int) (w : World) : Calls Tryz.prog 25 #[.int .i64 z] w (FRet (secF z) w) := by
  go_enter Tryz.func25, Tryz.ntmps25
  go_wp2_with (first | (refine wpList_fop _ _ _ _ _ _ _ rfl rfl rfl ?_; intro r nq hr))
  go_ret
  exact ⟨r, nq, rfl, hr.trans (by rw [fop_quo, fdiv_cn1]; rfl), rfl⟩

/-- The last step's growth, the class. -/
def instC (vs : List Nat) (ts : Nat → Int) (n : Nat) (counter : Bool) : Nat :=
  if counter = true then fdiv (if flt (at0 vs (n - 1)) (at0 vs (n - 2)) = true then at0 vs (n - 1) else fsub (at0 vs (n - 1)) (at0 vs (n - 2))) (secF (wrap64 (ts (n - 1) - ts (n - 2)))) else fsub (at0 vs (n - 1)) (at0 vs (n - 2))
def instO (ss : List Smp) (n : Nat) (F T N : Int) (counter : Bool) : Option Nat := if n < 2 ∨ sndB F T N ss n = false then none else some (instC (vcs ss) (tS ss) n counter)

set_option maxHeartbeats 4000000 in
set_option maxRecDepth 100000 in
theorem inst_any (a : Option Addr) (n cap : Nat) (ss : List Smp) (F T N : Int) (counter : Bool) (w : World) (hr : SRow w a n ss) :
    Calls Tryz.prog 14 #[winV a n cap F T N, .bool counter] w (OptRet (instO ss n F T N counter) w) := by
  have hn := hr.2.1
  by_cases h2 : n < 2
  · have HO : Hid (instO ss n F T N counter = none) := by show _ = _; unfold instO; rw [if_pos (.inl h2)]
    have dd : decide ((n : Int) < 2) = true := decide_eq_true (by omega)
    clear hr
    go_enter Tryz.func14, Tryz.ntmps14
    go_wp2_with fail
    go_ret2
    rw [HO.out]
    exact ⟨rfl, (Below.refl _ _).alloc (Nat.le_refl _) _⟩
  · have dd : decide ((n : Int) < 2) = false := decide_eq_false (by omega)
    have HS : Hid (∀ w1, Below w.heap.size w w1 → Calls Tryz.prog 23 #[winV a n cap F T N] w1 (BoolB (sndB F T N ss n) w1)) := fun w1 hb => sound_any a n cap ss F T N w1 (hr.below hb)
    have HB0 : Hid (Below w.heap.size w (w.alloc (.cells #[.slice a n cap, .int .i64 F, .int .i64 T, .int .i64 N] 24))) := (Below.refl _ _).alloc (Nat.le_refl _) _
    cases hs : sndB F T N ss n with
    | false =>
      have HO : Hid (instO ss n F T N counter = none) := by show _ = _; unfold instO; rw [if_pos (.inr hs)]
      rw [hs] at HS
      clear hr hs h2
      go_enter Tryz.func14, Tryz.ntmps14
      go_wp2_with (go_at_call 23; ((with_reducible refine (HS.out _ HB0.out).mono ?_); rintro e w1 ⟨rfl, b1⟩))
      go_ret2
      rw [HO.out]
      exact ⟨rfl, HB0.out.trans (b1.mono HB0.out.size)⟩
    | true =>
      have HO : Hid (instO ss n F T N counter = some (instC (vcs ss) (tS ss) n counter)) := by show _ = _; unfold instO; rw [if_neg (by rw [hs]; simp; omega)]
      rw [hs] at HS
      have HR := Lib.hid hr
      obtain ⟨m, hm⟩ : ∃ m, n = m + 2 := ⟨n - 2, by omega⟩
      subst hm
      clear hr hs h2
      go_enter Tryz.func14, Tryz.ntmps14
      go_wp2_with (go_at_call 23; ((with_reducible refine (HS.out _ HB0.out).mono ?_); rintro e w1 ⟨rfl, b1⟩; have BW := Lib.hid (HB0.out.trans (b1.mono HB0.out.size)); have cw0 : w1.cell? ⟨w.heap.size, 0, none⟩ = some (.slice a (m + 2) cap) := (by rw [b1.cell (p := ⟨w.heap.size, 0, none⟩) (by simp), World.cell?_alloc_at _ _ _ _ rfl]; rfl); clear b1))
      obtain ⟨b, off, ha, hcell⟩ := ((HR.out).below (show Below w.heap.size w w1 from BW.out)).2.2.2 (by omega)
      subst ha
      obtain ⟨e0, e1, e2⟩ := hcell m (by omega)
      obtain ⟨f0, f1, f2⟩ := hcell (m + 1) (by omega)
      clear hcell
      have hlen : (m : Int) + 2 ≤ 9223372036854775807 := by omega
      have hw0 : IntKind.i64.wrap (m : Int) = (m : Int) := by rw [IntKind.wrap_i64]; omega
      have hw1 : IntKind.i64.wrap ((m : Int) + 1) = (m : Int) + 1 := by rw [IntKind.wrap_i64]; omega
      have OLD1 : ∀ (q : Addr) v, w1.cell? q = some v → ∀ o1, (w1.alloc o1).cell? q = some v := fun q v h o1 => cell_old h o1
      have p0 := OLD1 _ _ cw0
      have p1 := OLD1 _ _ e0
      have p2 := OLD1 _ _ e1
      have p3 := OLD1 _ _ e2
      have p4 := OLD1 _ _ f0
      have p5 := OLD1 _ _ f1
      have p6 := OLD1 _ _ f2
      have OLD : ∀ (q : Addr) v, w1.cell? q = some v → ∀ o1 o2, ((w1.alloc o1).alloc o2).cell? q = some v := fun q v h o1 o2 => cell_old (cell_old h o1) o2
      have g0 := OLD _ _ cw0
      have g1 := OLD _ _ e0
      have g2 := OLD _ _ e1
      have g3 := OLD _ _ e2
      have g4 := OLD _ _ f0
      have g5 := OLD _ _ f1
      have g6 := OLD _ _ f2
      clear OLD OLD1
      obtain ⟨t1, ht1⟩ : ∃ q, q = tS ss m := ⟨_, rfl⟩
      obtain ⟨v1, hv1⟩ : ∃ q, q = vS ss m := ⟨_, rfl⟩
      obtain ⟨s1, hs1⟩ : ∃ q, q = sS ss m := ⟨_, rfl⟩
      have HT1a := Lib.hid ht1.symm
      have HV1a := Lib.hid hv1.symm
      simp only [← ht1, ← hv1, ← hs1] at e0 e1 e2 p1 p2 p3 g1 g2 g3
      clear ht1 hv1 hs1
      obtain ⟨t2, ht2⟩ : ∃ q, q = tS ss (m + 1) := ⟨_, rfl⟩
      obtain ⟨v2, hv2⟩ : ∃ q, q = vS ss (m + 1) := ⟨_, rfl⟩
      obtain ⟨s2, hs2⟩ : ∃ q, q = sS ss (m + 1) := ⟨_, rfl⟩
      have HT2a := Lib.hid ht2.symm
      have HV2a := Lib.hid hv2.symm
      simp only [← ht2, ← hv2, ← hs2] at f0 f1 f2 p4 p5 p6 g4 g5 g6
      clear ht2 hv2 hs2
      have HV1 : Hid (at0 (vcs ss) m = cn v1) := by show _ = _; rw [at0_vcs ss (by rw [HR.out.1]; omega), HV1a.out]
      have HV2 : Hid (at0 (vcs ss) (m + 1) = cn v2) := by show _ = _; rw [at0_vcs ss (by rw [HR.out.1]; omega), HV2a.out]
      have HI : Hid (instC (vcs ss) (tS ss) (m + 2) counter = if counter = true then fdiv (if flt (cn v2) (cn v1) = true then cn v2 else fsub (cn v2) (cn v1)) (secF (wrap64 (t2 - t1))) else fsub (cn v2) (cn v1)) := by
        show _ = _
        unfold instC
        rw [show m + 2 - 1 = m + 1 from rfl, show m + 2 - 2 = m from rfl, HV1.out, HV2.out, HT1a.out, HT2a.out]
      cases counter with
      | false =>
        go_region
        all_goals
          go_wp2_with (refine wpList_fop _ _ _ _ _ _ _ rfl rfl rfl ?_; intro r nq hr9; have Hr9 := Lib.hid hr9; clear hr9)
          go_ret2
          rw [HO.out, HI.out]
          refine ⟨r, rfl, by rw [Hr9.out, fop_sub]; rfl, ?_⟩
          have B1 := BW.out
          exact (((B1.alloc B1.size _).alloc (by have := B1.size; simp; omega) _).drewN' 1).drewN' nq
      | true =>
        have hsec : Hid (∀ w1, Calls Tryz.prog 25 #[.int .i64 (wrap64 (t2 - t1))] w1 (FRet (secF (wrap64 (t2 - t1))) w1)) := fun w1 => secs_any _ w1
        cases hl : flt (cn v2) (cn v1) with
        | true =>
          have ho : (FloatKind.f64.format.order v2 v1 == some Ordering.lt) = true := by rw [order_cn]; exact hl
          have HL := Lib.hid hl
          clear hl
          go_region
          all_goals
            go_wp2_with (first | (refine wpList_fop _ _ _ _ _ _ _ rfl rfl rfl ?_; intro r nq hr9; have Hr9 := Lib.hid hr9; clear hr9) | (go_at_call 25; ((with_reducible refine (hsec.out _).mono ?_); rintro e w4 ⟨r4, n4, rfl, h4, rfl⟩; have H4 := Lib.hid h4; have Hd := Hr9; clear h4)))
            go_ret2
            rw [HO.out, HI.out]
            refine ⟨r, rfl, by rw [Hr9.out, fop_quo, H4.out, if_pos (by trivial), if_pos HL.out], ?_⟩
            have B1 := BW.out
            exact (((B1.alloc B1.size _).alloc (by have := B1.size; simp; omega) _).drewN' _).drewN' _
        | false =>
          have ho : (FloatKind.f64.format.order v2 v1 == some Ordering.lt) = false := by rw [order_cn]; exact hl
          have HL := Lib.hid hl
          clear hl
          go_region
          all_goals
            go_wp2_with (first | (refine wpList_fop _ _ _ _ _ _ _ rfl rfl rfl ?_; intro r nq hr9; have Hr9 := Lib.hid hr9; clear hr9) | (go_at_call 25; ((with_reducible refine (hsec.out _).mono ?_); rintro e w4 ⟨r4, n4, rfl, h4, rfl⟩; have H4 := Lib.hid h4; have Hd := Hr9; clear h4)))
            go_ret2
            rw [HO.out, HI.out]
            refine ⟨r, rfl, by rw [Hr9.out, fop_quo, H4.out, if_pos (by trivial), if_neg (by rw [HL.out]; simp), Hd.out, fop_sub], ?_⟩
            have B1 := BW.out
            exact (((B1.alloc B1.size _).alloc (by have := B1.size; simp; omega) _).drewN' _).drewN' _
end Go.Proofs.YtoeldcgclaiokaaGreat
