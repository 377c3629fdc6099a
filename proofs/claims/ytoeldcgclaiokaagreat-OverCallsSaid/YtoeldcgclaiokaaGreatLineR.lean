/- weirref06.Line: what it answers. weirref06.Line: the walk. -/
import Derived.Test.YtoeldcgclaiokaaGreatLineAll
import Derived.Test.YtoeldcgclaiokaaGreatSpreadAll
namespace Go.Proofs.YtoeldcgclaiokaaGreat
open Go.Fl Go.Rel Go.RowKit

/-- Two lists under way lie in different blocks. -/
def Apart (u v : Value) : Prop := ∀ k, u.ownBlock = some k → v.ownBlock = some k → False
theorem Apart.symm {u v : Value} (h : Apart u v) : Apart v u := fun k h1 h2 => h k h2 h1

theorem Own.other {B : Nat} {w w' : World} {u v v' : Value} {zs : List Nat} (hu : Own B w u zs) (hap : Apart u v) (hg : w.grownBy w' v.ownBlock) (hb : v'.ownBlock = v.ownBlock ∨ v'.ownBlock = some w.heap.size) : Own B w' u zs ∧ Apart u v' := by
  constructor
  · refine Own.kept hu hg ?_
    cases h : u.ownBlock with
    | none => exact .inl rfl
    | some k => exact .inr fun e => hap k h e.symm
  · intro k h1 h2
    rcases hb with hb | hb
    · exact hap k h1 (hb ▸ h2)
    · rw [hb] at h2
      have := (World.ownsRow.lt hu k h1).2
      cases h2
      omega

/-- Are all values up to k the first one? -/
def lvK (vs : List Nat) : Nat → Bool
  | 0 => true
  | k + 1 => lvK vs k && !(decide (0 < k) && fne (at0 vs k) (at0 vs 0))

theorem lvK_true (vs : List Nat) : ∀ k, lvK vs k = true ↔ ∀ j, 0 < j → j < k → fne (at0 vs j) (at0 vs 0) = false
  | 0 => ⟨fun _ j _ hj => by omega, fun _ => rfl⟩
  | k + 1 => by
    rw [lvK, Bool.and_eq_true, lvK_true vs k, Bool.not_eq_true', Bool.and_eq_false_iff, decide_eq_false_iff_not]
    constructor
    · rintro ⟨h1, h2⟩ j h3 h4
      by_cases hj : j = k
      · subst hj; exact h2.resolve_left (by omega)
      · exact h1 j h3 (by omega)
    · intro h
      refine ⟨fun j h1 h2 => h j h1 (by omega), ?_⟩
      by_cases hk : 0 < k
      · exact .inr (h k hk (by omega))
      · exact .inl hk

theorem lvK_level (vs : List Nat) (h0 : 0 < vs.length) : lvK vs vs.length = levelS vs := by
  rw [Bool.eq_iff_iff, lvK_true]
  unfold levelS
  rw [Bool.or_eq_true, beq_iff_eq, Bool.not_eq_true']
  constructor
  · intro h
    by_cases h1 : vs.length = 1
    · exact .inl h1
    · right
      refine anyNe_false fun j hj => ?_
      by_cases hj0 : j = 0
      · subst hj0
        -- the first one is held against itself: it is no NaN, or the second one would not be equal to it
        have h2 := h 1 (by omega) (by omega)
        cases hN : isN (at0 vs 0)
        · unfold fne; rw [ford_self hN]; rfl
        · unfold fne at h2; rw [ford_N2 _ hN] at h2; cases h2
      · exact h j (by omega) hj
  · rintro (h | h) j h1 h2
    · omega
    · unfold anyNe at h
      rw [List.any_eq_false] at h
      have := h (at0 vs j) (by simp [at0, List.getD, h2])
      simpa using this

theorem map_take_snoc {f : Nat → Nat} {ps ys : List Nat} {k r : Nat} (h : ps.map f = ys.take k) (hk : k < ys.length) (hr : f r = at0 ys k) : (ps ++ [r]).map f = ys.take (k + 1) := by
  rw [take_snoc ys k hk, List.map_append, h]; simp [hr]

def RLineRel (ts vs : List Nat) (n B : Nat) (w : World) (lv v7 v8 v9 v10 i : Value) (wr : World) : Prop :=
  ∃ k l7 l8 l9 l10, k ≤ n ∧ lv = .bool (lvK vs k) ∧ i = .int .i64 (k : Int) ∧ (Own B wr v7 l7 ∧ Own B wr v8 l8 ∧ Own B wr v9 l9 ∧ Own B wr v10 l10) ∧
    (Apart v7 v8 ∧ Apart v7 v9 ∧ Apart v7 v10 ∧ Apart v8 v9 ∧ Apart v8 v10 ∧ Apart v9 v10) ∧
    Hid (l7.map cn = ts.take k ∧ l8.map cn = vs.take k ∧ l9.map cn = (muls ts vs).take k ∧ l10.map cn = (muls ts ts).take k) ∧ Below B w wr

theorem apart_nil (v : Value) : Apart (.slice none 0 0) v := fun k h => by cases h

end Go.Proofs.YtoeldcgclaiokaaGreat

namespace Go.Proofs.YtoeldcgclaiokaaGreat
open Go.Fl Go.Rel Go.RowKit

set_option maxHeartbeats 1000000 in
theorem refline_none (cap : Nat) (a : Option Addr) (z : Int) (w : World) : Calls Tryz.prog 20 #[.slice a 0 cap, .int .i64 z] w (FB2 (nanc, nanc) w) := by
  go_enter Tryz.func20, Tryz.ntmps20
  go_wp2_with (go_at_call 27; refine (refnan_any _).mono ?_; rintro e w' ⟨rfl, rfl⟩)
  go_ret2
  exact ⟨nanc, nanc, rfl, cn_nanc, cn_nanc, Below.refl _ _⟩

set_option maxHeartbeats 4000000 in
set_option maxRecDepth 100000 in
theorem refline_some (a : Option Addr) (n cap : Nat) (ss : List Smp) (z : Int) (w : World) (hr : SRow w a n ss) (h0 : 0 < n) (hreach : n < 17592186044416) :
    Calls Tryz.prog 20 #[.slice a n cap, .int .i64 z] w (FB2 (lineS (tcs z ss) (vcs ss)) w) := by
  have hl := hr.1
  have hm := hr.2.1
  obtain ⟨b, off, rfl, hcell⟩ := hr.2.2.2 h0
  have c1 : w.cell? ⟨b, off + 1, none⟩ = some (.float .f64 (vS ss 0)) := by simpa using (hcell 0 h0).2.1
  have hat := at0_vcs ss (i := 0) (by omega)
  have hn0 : ((n : Int) == 0) = false := by simp; omega
  have hblt : b < w.heap.size := World.block_lt_of_cell? w _ c1
  have Hl := Lib.hid hl
  have HC := Lib.hid hcell
  have Hreach := Lib.hid hreach
  have Hr := Lib.hid hr
  clear hl hcell hreach hr
  generalize hv : vS ss 0 = v0 at c1 hat
  have Hat0 := Lib.hid hat
  clear hv hat
  go_enter Tryz.func20, Tryz.ntmps20
  go_wp2_with fail
  go_loopw [6, 7, 8, 9, 10, 11] (RLineRel (tcs z ss) (vcs ss) n w.heap.size w) (fun _ _ _ _ _ i _ => n - (intOf i).toNat)
  case atStart => exact ⟨0, [], [], [], [], by omega, rfl, rfl, ⟨own_nil _ _, own_nil _ _, own_nil _ _, own_nil _ _⟩, ⟨apart_nil _, apart_nil _, apart_nil _, apart_nil _, apart_nil _, apart_nil _⟩, ⟨rfl, rfl, rfl, rfl⟩, Below.refl _ _⟩
  case round =>
    obtain ⟨k, l7, l8, l9, l10, hk, rfl, rfl, ⟨o7, o8, o9, o10⟩, ⟨p1, p2, p3, p4, p5, p6⟩, HL, bw⟩ := hrel
    by_cases hlt : k < n
    · obtain ⟨c0, c2, _⟩ := HC.out k hlt
      have k0 : wr.cell? ⟨b, off + k * 3, none⟩ = some (.int .i64 (tS ss k)) := by rw [bw.cell (p := ⟨b, off + k * 3, none⟩) hblt]; exact c0
      have k1 : wr.cell? ⟨b, off + k * 3 + 1, none⟩ = some (.float .f64 (vS ss k)) := by rw [bw.cell (p := ⟨b, off + k * 3 + 1, none⟩) hblt]; exact c2
      have kf : wr.cell? ⟨b, off + 1, none⟩ = some (.float .f64 v0) := by rw [bw.cell (p := ⟨b, off + 1, none⟩) hblt]; exact c1
      have HatV := Lib.hid (at0_vcs ss (i := k) (by rw [Hl.out]; exact hlt))
      have HatT := Lib.hid (at0_tcs z ss (i := k) (by rw [Hl.out]; exact hlt))
      generalize htt : tS ss k = tt at k0 HatT
      generalize hvv : vS ss k = vv at k1 HatV
      clear c0 c2 htt hvv c1
      have Hlv : Hid (lvK (vcs ss) (k + 1) = (lvK (vcs ss) k && !(decide (0 < k) && fne (at0 (vcs ss) k) (at0 (vcs ss) 0)))) := rfl
      have HO : Hid _ := And.intro o7 (And.intro o8 (And.intro o9 o10))
      have HP : Hid _ := And.intro p1 (And.intro p2 (And.intro p3 (And.intro p4 (And.intro p5 p6))))
      clear o7 o8 o9 o10 p1 p2 p3 p4 p5 p6
      have hlen : l7.length = k ∧ l8.length = k ∧ l9.length = k ∧ l10.length = k := by
        obtain ⟨e1, e2, e3, e4⟩ := HL.out
        have f1 := congrArg List.length e1
        have f2 := congrArg List.length e2
        have f3 := congrArg List.length e3
        have f4 := congrArg List.length e4
        simp [length_tcs, length_vcs, length_muls, Hl.out] at f1 f2 f3 f4
        omega
      have Hlen := Lib.hid hlen
      clear hlen
      have hord : (FloatKind.f64.format.order vv v0 != some .eq) = fne (cn vv) (cn v0) := by rw [order_cn]; rfl
      have hcases : (0 < k ∧ fne (cn vv) (cn v0) = false) ∨ (0 < k ∧ fne (cn vv) (cn v0) = true) ∨ (¬ 0 < k ∧ True) := by
        by_cases hk0 : 0 < k
        · cases hf : fne (cn vv) (cn v0)
          · exact .inl ⟨hk0, rfl⟩
          · exact .inr (.inl ⟨hk0, rfl⟩)
        · exact .inr (.inr ⟨hk0, trivial⟩)
      rcases hcases with ⟨hk0, hf⟩ | ⟨hk0, hf⟩ | ⟨hk0, hf⟩
      all_goals
          first
            | (have hkz : (0 : Int) < (k : Int) := by omega
               have hkd : decide ((k : Int) > 0) = true := decide_eq_true hkz
               rw [hf] at hord
               have Hlv2 := Hlv.out
               rw [HatV.out, Hat0.out, hf, decide_eq_true hk0] at Hlv2
               have HLV := Lib.hid Hlv2
               clear Hlv2 Hlv hf)
            | (have hkz : ¬ (0 : Int) < (k : Int) := by omega
               have hkd : decide ((k : Int) > 0) = false := decide_eq_false hkz
               have Hlv2 := Hlv.out
               rw [decide_eq_false hk0] at Hlv2
               have HLV := Lib.hid Hlv2
               clear Hlv2 Hlv hf)
          go_wp2_with fail
          go_quiet (fail)
          go_wp2_with fail
          have d0 : (wr.drewN nq).cell? ⟨b, off + k * 3, none⟩ = some (.int .i64 tt) := k0
          have d1 : (wr.drewN nq).cell? ⟨b, off + k * 3 + 1, none⟩ = some (.float .f64 vv) := k1
          have HO2 := Lib.hid (And.intro (HO.out.1.drewN nq) (And.intro (HO.out.2.1.drewN nq) (And.intro (HO.out.2.2.1.drewN nq) (HO.out.2.2.2.drewN nq))))
          have bw1 := bw.drewN' nq
          clear k0 k1 kf HO hord bw
          generalize wr.drewN nq = W at d0 d1 HO2 bw1 ⊢
          refine wp_region_rel (fun wd => ∃ nd, wd = W.drewN nd) (fun _ _ _ => False) (by kernel_rfl) (by kernel_rfl) (by repeat (first | exact ⟨_, rfl⟩ | refine drew_class _ _ ?_ | refine drewN_class _ _ _ ?_)) ?_
          repeat (first | (refine wpRel_fop _ _ _ _ _ _ _ rfl rfl rfl rfl (drewN_class W) ?_; intro r hr9; go_big_quiet_step (fail); refine wpQuiet_nil ?_) | (refine wpRel_quiet rfl ?_; go_big_quiet_step (fail); refine wpQuiet_nil ?_))
          refine wpRel_nil ?_
          rintro w1 ⟨m1, rfl⟩
          have hR : cn r = at0 (tcs z ss) k := by rw [hr9, HatT.out, fop_quo, fdiv_cn1]; rfl
          have HR := Lib.hid hR
          have HO3 := Lib.hid (And.intro (HO2.out.1.drewN m1) (And.intro (HO2.out.2.1.drewN m1) (And.intro (HO2.out.2.2.1.drewN m1) (HO2.out.2.2.2.drewN m1))))
          have bw2 := bw1.drewN' m1
          clear hR hr9 HO2 d0 d1 bw1
          generalize W.drewN m1 = W1 at HO3 bw2 ⊢
          go_wp2_with (first
            | (refine wpList_fop _ _ _ _ _ _ _ rfl rfl rfl ?_; intro r2 nq2 hr9; have Hr2 := Lib.hid hr9; clear hr9)
            | (at_builtin; refine wpList_append_f rfl _ _ rfl w.heap.size _ l7 rfl (Own.alloc HO3.out.1 _) ⟨W1.heap.size, 0, none⟩ 1 r rfl (by exact World.cell?_alloc_at _ _ _ _ rfl) (by rw [Hlen.out.1]; exact Nat.lt_trans hlt Hreach.out) (by have := bw2.size; simp; omega) ?_; intro n7 w2 hown hgrow hbk;
               have G7 := Lib.hid hown; have G8 := Lib.hid (Own.other (Own.alloc HO3.out.2.1 _) HP.out.1.symm hgrow hbk); have G9 := Lib.hid (Own.other (Own.alloc HO3.out.2.2.1 _) HP.out.2.1.symm hgrow hbk); have G10 := Lib.hid (Own.other (Own.alloc HO3.out.2.2.2 _) HP.out.2.2.1.symm hgrow hbk);
               have bw3 := Own.below (Own.alloc HO3.out.1 _) (bw2.alloc (by have := bw2.size; omega) _) hgrow (by have := bw2.size; simp; omega); clear hown hgrow hbk)
            | (at_builtin; refine wpList_append_f rfl _ _ rfl w.heap.size _ l8 rfl (Own.alloc G8.out.1 _) ⟨w2.heap.size, 0, none⟩ 1 vv rfl (by exact World.cell?_alloc_at _ _ _ _ rfl) (by rw [Hlen.out.2.1]; exact Nat.lt_trans hlt Hreach.out) (by have := bw3.size; simp; omega) ?_; intro n8 w3 hown hgrow hbk;
               have J8 := Lib.hid hown; have J7 := Lib.hid (Own.other (Own.alloc G7.out _) G8.out.2.symm hgrow hbk); have J9 := Lib.hid (Own.other (Own.alloc G9.out.1 _) HP.out.2.2.2.1.symm hgrow hbk); have J10 := Lib.hid (Own.other (Own.alloc G10.out.1 _) HP.out.2.2.2.2.1.symm hgrow hbk);
               have bw4 := Own.below (Own.alloc G8.out.1 _) (bw3.alloc (by have := bw3.size; omega) _) hgrow (by have := bw3.size; simp; omega); clear hown hgrow hbk)
            | (at_builtin; refine wpList_append_f rfl _ _ rfl w.heap.size _ l9 rfl (Own.alloc (Own.drewN J9.out.1 _) _) ⟨w3.heap.size, 0, none⟩ 1 r2 rfl (by exact World.cell?_alloc_at _ _ _ _ rfl) (by rw [Hlen.out.2.2.1]; exact Nat.lt_trans hlt Hreach.out) (by have := bw4.size; simp; omega) ?_; intro n9 w4 hown hgrow hbk;
               have K9 := Lib.hid hown; have K7 := Lib.hid (Own.other (Own.alloc (Own.drewN J7.out.1 _) _) G9.out.2.symm hgrow hbk); have K8 := Lib.hid (Own.other (Own.alloc (Own.drewN J8.out _) _) J9.out.2.symm hgrow hbk); have K10 := Lib.hid (Own.other (Own.alloc (Own.drewN J10.out.1 _) _) HP.out.2.2.2.2.2.symm hgrow hbk);
               have Hm := Lib.hid Hr2.out; clear Hr2;
               have bw5 := Own.below (Own.alloc (Own.drewN J9.out.1 nq2) _) ((bw4.drewN' nq2).alloc (by have := bw4.size; exact this) _) hgrow (by have := bw4.size; simp; omega); clear hown hgrow hbk)
            | (at_builtin; refine wpList_append_f rfl _ _ rfl w.heap.size _ l10 rfl (Own.alloc (Own.drewN K10.out.1 _) _) ⟨w4.heap.size, 0, none⟩ 1 r2 rfl (by exact World.cell?_alloc_at _ _ _ _ rfl) (by rw [Hlen.out.2.2.2]; exact Nat.lt_trans hlt Hreach.out) (by have := bw5.size; simp; omega) ?_; intro n10 w5 hown hgrow hbk;
               have L10 := Lib.hid hown; have L7 := Lib.hid (Own.other (Own.alloc (Own.drewN K7.out.1 _) _) G10.out.2.symm hgrow hbk); have L8 := Lib.hid (Own.other (Own.alloc (Own.drewN K8.out.1 _) _) J10.out.2.symm hgrow hbk); have L9 := Lib.hid (Own.other (Own.alloc (Own.drewN K9.out _) _) K10.out.2.symm hgrow hbk);
               have bw6 := Own.below (Own.alloc (Own.drewN K10.out.1 nq2) _) ((bw5.drewN' nq2).alloc (by have := bw5.size; exact this) _) hgrow (by have := bw5.size; simp; omega); clear hown hgrow hbk))
          have hM3 : cn r2 = at0 (muls (tcs z ss) (tcs z ss)) k := by rw [at0_muls (by rw [length_tcs, Hl.out]; exact hlt) (by rw [length_tcs, Hl.out]; exact hlt), ← HR.out, Hr2.out]; rfl
          have HM3 := Lib.hid hM3
          clear hM3 Hr2
          refine ⟨⟨k + 1, _, _, _, _, by omega, ?_, by go_num, ⟨L7.out.1, L8.out.1, L9.out.1, L10.out⟩, ⟨J7.out.2, K7.out.2, L7.out.2, K8.out.2, L8.out.2, L9.out.2⟩, ⟨map_take_snoc HL.out.1 (by rw [length_tcs, Hl.out]; exact hlt) HR.out, map_take_snoc HL.out.2.1 (by rw [length_vcs, Hl.out]; exact hlt) HatV.out.symm, map_take_snoc HL.out.2.2.1 (by rw [length_muls (by rw [length_tcs, length_vcs]), length_tcs, Hl.out]; exact hlt) ?_, map_take_snoc HL.out.2.2.2 (by rw [length_muls rfl, length_tcs, Hl.out]; exact hlt) HM3.out⟩, bw6⟩, by simp [intOf]; omega⟩
          · rw [HLV.out]; simp
          · rw [Hm.out, at0_muls (by rw [length_tcs, Hl.out]; exact hlt) (by rw [length_vcs, Hl.out]; exact hlt), ← HR.out, HatV.out]; rfl
    · have hk' : k = n := by omega
      subst hk'
      clear hlt hk
      have kf : wr.cell? ⟨b, off + 1, none⟩ = some (.float .f64 v0) := by rw [bw.cell (p := ⟨b, off + 1, none⟩) hblt]; exact c1
      have hlk : lvK (vcs ss) k = levelS (vcs ss) := by
        have := lvK_level (vcs ss) (by rw [length_vcs, Hl.out]; exact h0)
        rwa [length_vcs, Hl.out] at this
      have HLK := Lib.hid hlk
      clear hlk c1
      obtain ⟨e7, e8, e9, e10⟩ := HL.out
      rw [List.take_of_length_le (by rw [length_tcs, Hl.out]; exact Nat.le_refl _)] at e7
      rw [List.take_of_length_le (by rw [length_vcs, Hl.out]; exact Nat.le_refl _)] at e8
      rw [List.take_of_length_le (by rw [length_muls (by rw [length_tcs, length_vcs]), length_tcs, Hl.out]; exact Nat.le_refl _)] at e9
      rw [List.take_of_length_le (by rw [length_muls rfl, length_tcs, Hl.out]; exact Nat.le_refl _)] at e10
      have E7 := Lib.hid e7
      have E8 := Lib.hid e8
      have E9 := Lib.hid e9
      have E10 := Lib.hid e10
      clear e7 e8 e9 e10 HL p1 p2 p3 p4 p5 p6
      obtain ⟨a7, c7, rfl, r7⟩ := o7.row
      obtain ⟨a8, c8, rfl, r8⟩ := o8.row
      obtain ⟨a9, c9, rfl, r9⟩ := o9.row
      obtain ⟨a10, c10, rfl, r10⟩ := o10.row
      have R7 := Lib.hid r7
      have R8 := Lib.hid r8
      have R9 := Lib.hid r9
      have R10 := Lib.hid r10
      clear r7 r8 r9 r10 o7 o8 o9 o10
      have hne : ¬ (vcs ss).length = 0 := by rw [length_vcs, Hl.out]; omega
      have HNE := Lib.hid hne
      clear hne
      have hat0 := Hat0.out
      cases hlv : levelS (vcs ss)
      · have hS : lineS (tcs z ss) (vcs ss) = lineC (tcs z ss) (vcs ss) := by unfold lineS; rw [if_neg HNE.out, if_neg (by rw [hlv]; simp)]
        have HS := Lib.hid hS
        have HLV := Lib.hid (HLK.out.trans hlv)
        clear hS HLK hlv hat0
        rw [HLV.out]
        go_wp2_with fail
        refine (refsum_any _ _ _ l7 _ R7.out).mono ?_
        rintro e w2 ⟨rx, m1, rfl, hx, rfl⟩
        rw [E7.out] at hx
        have HX := Lib.hid hx
        clear hx
        go_wp2_with fail
        refine (refsum_any _ _ _ l8 _ (by exact R8.out)).mono ?_
        rintro e w2 ⟨ry, m2, rfl, hx, rfl⟩
        rw [E8.out] at hx
        have HY := Lib.hid hx
        clear hx
        go_wp2_with fail
        refine (refsum_any _ _ _ l9 _ (by exact R9.out)).mono ?_
        rintro e w2 ⟨rxy, m3, rfl, hx, rfl⟩
        rw [E9.out] at hx
        have HXY := Lib.hid hx
        clear hx
        go_wp2_with (refine wpList_fop _ _ _ _ _ _ _ rfl rfl rfl ?_; intro r nq hr9)
        refine (refsum_any _ _ _ l10 _ (by exact R10.out)).mono ?_
        rintro e w2 ⟨rxx, m4, rfl, hx, rfl⟩
        rw [E10.out] at hx
        have HXX := Lib.hid hx
        clear hx R7 R8 R9 R10
        go_wp2_with (refine wpList_fop _ _ _ _ _ _ _ rfl rfl rfl ?_; intro r nq hr9)
        go_ret2
        have hnk : cn (floatOfInt .f64 (k : Int)) = nfl k := cn_nfl k
        rw [HS.out]
        refine ⟨_, _, rfl, ?_, ?_, ?_⟩
        · simp only [lineC, length_tcs, Hl.out, fop_quo, fop_mul, fop_sub, HX.out, HY.out, HXY.out, HXX.out, *]
        · simp only [lineC, length_tcs, Hl.out, fop_quo, fop_mul, fop_sub, HX.out, HY.out, HXY.out, HXX.out, *]
        · repeat (first | exact bw | refine Below.drewN' ?_ _)
      · have HLV := Lib.hid (HLK.out.trans hlv)
        cases hi : finf (cn v0)
        · have hS : lineS (tcs z ss) (vcs ss) = (0, cn v0) := by unfold lineS; rw [if_neg HNE.out, if_pos hlv, hat0, if_neg (by rw [hi]; simp)]
          have HS := Lib.hid hS
          have Hi := Lib.hid hi
          clear hS HLK hlv hat0 hi
          rw [HLV.out]
          go_wp2_with (go_at_call 28; refine (endless_any _ _).mono ?_; rintro e w' ⟨rfl, rfl⟩; rw [Hi.out])
          all_goals try go_quiet (fail)
          all_goals try go_wp2_with fail
          go_ret2
          rw [HS.out]
          exact ⟨_, _, rfl, cn_zero, rfl, by first | exact bw | exact bw.drewN' _⟩
        · have hS : lineS (tcs z ss) (vcs ss) = (nanc, nanc) := by unfold lineS; rw [if_neg HNE.out, if_pos hlv, hat0, if_pos hi]
          have HS := Lib.hid hS
          have Hi := Lib.hid hi
          clear hS HLK hlv hat0 hi
          rw [HLV.out]
          go_wp2_with (first | (go_at_call 28; refine (endless_any _ _).mono ?_; rintro e w' ⟨rfl, rfl⟩; rw [Hi.out]) | (go_at_call 27; refine (refnan_any _).mono ?_; rintro e w' ⟨rfl, rfl⟩))
          go_ret2
          rw [HS.out]
          exact ⟨nanc, nanc, rfl, cn_nanc, cn_nanc, by first | exact bw | exact bw.drewN' _⟩

theorem refline_any (a : Option Addr) (n cap : Nat) (ss : List Smp) (z : Int) (w : World) (hr : SRow w a n ss) (hreach : n < 17592186044416) :
    Calls Tryz.prog 20 #[.slice a n cap, .int .i64 z] w (FB2 (lineS (tcs z ss) (vcs ss)) w) := by
  by_cases h0 : n = 0
  · subst h0
    have : lineS (tcs z ss) (vcs ss) = (nanc, nanc) := by unfold lineS; rw [if_pos (by rw [length_vcs]; exact hr.1)]
    rw [this]
    exact refline_none cap a z w
  · exact refline_some a n cap ss z w hr (by omega) hreach

end Go.Proofs.YtoeldcgclaiokaaGreat
