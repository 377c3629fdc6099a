/- weirref21.labels; weirref21.Kind and pair.set of the set operators. -/
import Derived.Test.YtmmfjknnbkcniaaGreatDoorV31
set_option maxHeartbeats 64000000
set_option maxRecDepth 100000
namespace Go.Proofs.YtmmfjknnbkcniaaGreatDoor
open Go.Fl Go.Rel Go.RowKit Go.Maps Go.WideMaps
set_option linter.unusedSimpArgs false
set_option linter.unusedVariables false
def setB (l : List UInt8) : Bool := (l == [97, 110, 100]) || (l == [111, 114]) || (l == [117, 110, 108, 101, 115, 115])
theorem ops_none {l : List UInt8} (hk : ¬ opK l < 12) : ∀ p ∈ opL, (l == p) = false := by
 intro p hp
 cases h : (l == p)
 ·rfl
 ·exfalso
  apply hk
  have e : l = p := beq_iff_eq.1 h
  unfold opK
  exact List.findIdx_lt_length_of_exists ⟨p, hp, by rw [e]; exact beq_self_eq_true p⟩
theorem kind3_any (u : ByteArray) (w : World) (hk : ¬ opK u.toList < 12) : Calls Tryz.prog 42 #[.string u] w fun e w' => e = .returned (.int .i64 (if setB u.toList then 3 else 0)) ∧ w = w' := by
 have hn := ops_none hk
 have t0 := hn [43] (by decide)
 have t1 := hn [45] (by decide)
 have t2 := hn [42] (by decide)
 have t3 := hn [47] (by decide)
 have t4 := hn [37] (by decide)
 have t5 := hn [94] (by decide)
 have t6 := hn [61, 61] (by decide)
 have t7 := hn [33, 61] (by decide)
 have t8 := hn [60] (by decide)
 have t9 := hn [60, 61] (by decide)
 have t10 := hn [62] (by decide)
 have t11 := hn [62, 61] (by decide)
 unfold setB
 clear hn hk
 cases s0 : (u.toList == [97, 110, 100])
 all_goals cases s1 : (u.toList == [111, 114])
 all_goals cases s2 : (u.toList == [117, 110, 108, 101, 115, 115])
 all_goals
  go_enter Tryz.func42, Tryz.ntmps42
  go_wp2_with fail
  go_ret
  exact ⟨rfl, rfl⟩
theorem set_any (u : ByteArray) (w : World) : Calls Tryz.prog 24 #[.string u] w fun e w' => e = .returned (.bool (setB u.toList)) ∧ w = w' := by
 unfold setB
 cases s0 : (u.toList == [97, 110, 100])
 all_goals cases s1 : (u.toList == [111, 114])
 all_goals cases s2 : (u.toList == [117, 110, 108, 101, 115, 115])
 all_goals
  go_enter Tryz.func24, Tryz.ntmps24
  go_wp2_with fail
  go_ret
  exact ⟨rfl, rfl⟩
def IncRel2 (x : Er) (inc : List ByteArray) (one ls0 : List Lb) (n0 : Nat) (w W1 : World) (v9 v27 : Value) (wr : World) : Prop :=
 ∃ (k : Nat) (a : Option Addr) (n c : Nat), v27 = .int .i64 (k : Int) ∧ k ≤ inc.length ∧ v9 = .slice a n c ∧ n ≤ n0 + k ∧ KeepM x w wr ⟨a, n, c, 0, incL (inc.take k) one ls0⟩ ∧ Below w.heap.size w wr ∧ Below W1.heap.size W1 wr
def OutLRel (ns : List ByteArray) (on : Bool) (ls : List Lb) (w : World) (v12 v13 : Value) (wr : World) : Prop :=
 ∃ k : Nat, v13 = .int .i64 (k : Int) ∧ k ≤ ls.length ∧ OwnL w.heap.size wr v12 (outL ns on (ls.take k)) ∧ Below w.heap.size w wr
theorem rlab_f0 (u : ByteArray) (ma : Option Addr) (mn mc : Nat) (many : List Lb) (oa : Option Addr) (o_n oc : Nat) (one : List Lb) (m : Mt) (y : Bool) (c : Int) (w : World) (hm : LRow w ma mn many) (hk : SlK ma mn mc) (ho : LRow w oa o_n one) (hM : MtOk w m) (hb : mn + m.im ≤ 4398046511000) (hcd : m.card = 0) (hkd : ∀ w, Calls Tryz.prog 42 #[.string u] w fun e w' => e = .returned (.int .i64 c) ∧ w = w') (hy : c = 2 ∧ y = false) :
  Calls Tryz.prog 68 #[.string u, .slice ma mn mc, .slice oa o_n oc, m.v, .bool y] w (ToldRet ⟨ma, mn, mc, 0, many⟩ m.on m.ns m.inc m.card true many one w) := by
 have HKD := qh hkd
 obtain ⟨given, on, la, ln, lc, card, ia, im, ic, ns, inc⟩ := m
 dsimp only [Mt.v] at hb hcd ⊢
 subst hcd
 obtain ⟨W0, hW0⟩ : ∃ W0, W0 = w.alloc (.cells #[.bool given, .bool on, .slice la ln lc, .int .i64 0, .slice ia im ic] 25) := ⟨_, rfl⟩
 have hI0 : Bk.Is W0 w.heap.size #[.bool given, .bool on, .slice la ln lc, .int .i64 0, .slice ia im ic] 25 := by rw [hW0]; exact Bk.Is.made w _ _
 have hB0 : Below w.heap.size w W0 := by rw [hW0]; exact (Below.refl _ _).alloc (Nat.le_refl _) _
 have HI := qh hI0
 have HB := qh hB0
 have HNS := qh (hM.1)
 have HINC := qh (hM.2)
 have HONE := qh ho
 have HMANY := qh hm
 have HK := qh hk
 have hml := hm.1
 have HXO : Hid (ErOk w ⟨ma, mn, mc, 0, many⟩) := qh ⟨hm, hk, show mn ≤ 4398046511104 by omega⟩
 have hil := hM.2.1
 dsimp only at hil
 have hsm := hm.2.2.1
 have hlw : w.heap.size < W0.heap.size := hI0.lt
 have HLW := qh hlw
 have HSM := qh hsm
 clear hI0 hB0 hM ho hm hk hsm hlw hkd
 obtain ⟨rfl, rfl⟩ := hy
 all_goals
  have HQ := qh (HI.out)
  go_enter Tryz.func68, Tryz.ntmps68
  go_wp2_with (first | (go_at_call 42; refine (HKD.out _).mono ?_; rintro e wk ⟨rfl, rfl⟩))
  have HKP0 : Hid (KeepM ⟨ma, mn, mc, 0, many⟩ w W0 ⟨ma, mn, mc, 0, many⟩) := qh (.inl rfl)
  have HQL : Hid (w.heap.size < W0.heap.size) := qh HQ.out.lt
  go_loopw [12, 13] (OutLRel ns on many W0) (fun _ v _ => mn - (intOf v).toNat)
  case atStart => (try rw [← hW0]); exact ⟨0, rfl, by omega, ownL_nil _ _, Below.refl _ _⟩
  case round =>
   obtain ⟨k, rfl, hk, own, bel⟩ := hrel
   have HO := qh own
   have HBW := qh bel
   have hrw := ((HKP0.out.ok HXO.out HB.out).below bel).1
   have hqw := HQ.out.below bel HQL.out
   have q1 := hqw.cell 1
   have q2 := hqw.cell 2
   have q3 := hqw.cell 3
   have q4 := hqw.cell 4
   simp at q1 q2 q3 q4
   have hnl : (mn : Int) ≤ 4398046511104 := by have : mn ≤ mn := Nat.le_refl _; omega
   have hll : many.length = mn := hml
   clear own bel hqw
   dsimp only at hrw
   by_cases hlt : k < mn
   ·obtain ⟨b, off, hab, hb0, hc⟩ := hrw.2.2.2 (by omega)
    subst hab
    obtain ⟨x0, x1⟩ := hc k hlt
    have k1 : (0 : Int) ≤ (k : Int) := by omega
    have k2 : (k : Int) < (mn : Int) := by omega
    have HE := qh (outL_snoc ns on many (by omega : k < many.length))
    have HL : Hid ((outL ns on (many.take k)).length ≤ k) := qh (Nat.le_trans (outL_len _ _ _) (by simp; omega))
    have HNW := qh (HNS.out.below (HB.out.trans (HBW.out.mono HB.out.size)))
    have HIN : Hid (∀ n, Calls Tryz.prog 99 #[.slice la ln lc, .string (nL many k)] (wr.drewN n) fun e w' => e = .returned (.bool (inN ns (nL many k))) ∧ w' = wr.drewN n) := qh fun n => has_any la ln lc ns _ _ (HNW.out.below ((Below.refl _ _).drewN' n))
    unfold delB at HE
    generalize nL many k = xn at *
    generalize vL many k = xv at *
    dsimp only at HE HIN
    have HOD : Hid (∀ n, OwnL W0.heap.size (wr.drewN n) u12 (outL ns on (many.take k))) := qh fun n => HO.out.drewN n
    have HBD : Hid (∀ n, Below W0.heap.size W0 (wr.drewN n)) := qh fun n => HBW.out.drewN' n
    generalize inN ns xn = i at *
    clear hc hrw
    cases i
    all_goals cases on
    all_goals
     go_wp2_with fail
     go_quiet (first | (go_at_call 99; exact quiet_of_eqR (HIN.out _)))
     go_wp2_with (at_builtin; refine wpList_append_lb rfl (.tmp 44) (.tmp 49) rfl W0.heap.size _ _ rfl ((HOD.out nq).alloc _) wr.heap.size _ ⟨xn, xv⟩ rfl (by rw [World.cell?_alloc_at _ _ _ _ (by rfl)]; rfl) (by rw [World.cell?_alloc_at _ _ _ _ (by rfl)]; rfl) (by have := HL.out; omega) (by have := (HBD.out nq).size; simp at this ⊢; omega) ?_; intro v5 w5 own5 gb5 hv5; have HO5 := qh own5; have HB5 := qh (((HOD.out nq).alloc _).grown ((HBD.out nq).alloc (HBD.out nq).size _) gb5 (by have := (HBD.out nq).size; simp at this ⊢; omega)); clear own5 gb5 hv5)
     go_roundw
     case rel => first | exact ⟨k + 1, by first | rfl | (congr 1; omega), by omega, by rw [HE.out]; exact HO5.out, HB5.out⟩ | exact ⟨k + 1, by first | rfl | (congr 1; omega), by omega, by rw [HE.out]; simp; exact HOD.out nq, HBD.out nq⟩
     case measure => simp [intOf]; omega
   ·have hkn : ¬ (k : Int) < (mn : Int) := by omega
    have HE : Hid (outL ns on (many.take k) = outL ns on many) := qh (by rw [List.take_of_length_le (by omega)])
    rw [HE.out] at HO
    clear hrw
    obtain ⟨a3, c3, hv3⟩ := HO.out.slice
    subst hv3
    go_wp2_with fail
    go_ret
    refine ⟨a3, (outL ns on many).length, c3, rfl, ?_, HB.out.trans (HBW.out.mono HB.out.size)⟩
    have hk := keep_new (x := ⟨ma, mn, mc, 0, many⟩) HO.out HB.out.size (outL_small ns on HSM.out) (Nat.le_trans (outL_len _ _ _) (by omega))
    unfold toldL
    rw [if_pos rfl]
    simpa using hk
theorem rlab_f1 (u : ByteArray) (ma : Option Addr) (mn mc : Nat) (many : List Lb) (oa : Option Addr) (o_n oc : Nat) (one : List Lb) (m : Mt) (y : Bool) (c : Int) (w : World) (hm : LRow w ma mn many) (hk : SlK ma mn mc) (ho : LRow w oa o_n one) (hM : MtOk w m) (hb : mn + m.im ≤ 4398046511000) (hcd : m.card ≠ 0) (hkd : ∀ w, Calls Tryz.prog 42 #[.string u] w fun e w' => e = .returned (.int .i64 c) ∧ w = w') (hy : c = 2 ∧ y = false) :
  Calls Tryz.prog 68 #[.string u, .slice ma mn mc, .slice oa o_n oc, m.v, .bool y] w (ToldRet ⟨ma, mn, mc, 0, many⟩ m.on m.ns m.inc m.card true many one w) := by
 have HKD := qh hkd
 obtain ⟨given, on, la, ln, lc, card, ia, im, ic, ns, inc⟩ := m
 dsimp only [Mt.v] at hb hcd ⊢
 have hcz : (card == 0) = false := beq_eq_false_iff_ne.2 hcd
 obtain ⟨W0, hW0⟩ : ∃ W0, W0 = w.alloc (.cells #[.bool given, .bool on, .slice la ln lc, .int .i64 card, .slice ia im ic] 25) := ⟨_, rfl⟩
 have hI0 : Bk.Is W0 w.heap.size #[.bool given, .bool on, .slice la ln lc, .int .i64 card, .slice ia im ic] 25 := by rw [hW0]; exact Bk.Is.made w _ _
 have hB0 : Below w.heap.size w W0 := by rw [hW0]; exact (Below.refl _ _).alloc (Nat.le_refl _) _
 have HI := qh hI0
 have HB := qh hB0
 have HNS := qh (hM.1)
 have HINC := qh (hM.2)
 have HONE := qh ho
 have HMANY := qh hm
 have HK := qh hk
 have hml := hm.1
 have HXO : Hid (ErOk w ⟨ma, mn, mc, 0, many⟩) := qh ⟨hm, hk, show mn ≤ 4398046511104 by omega⟩
 have hil := hM.2.1
 dsimp only at hil
 have hsm := hm.2.2.1
 have hlw : w.heap.size < W0.heap.size := hI0.lt
 have HLW := qh hlw
 have HSM := qh hsm
 clear hI0 hB0 hM ho hm hk hsm hlw hkd
 obtain ⟨rfl, rfl⟩ := hy
 all_goals
  have HQ := qh (HI.out)
  go_enter Tryz.func68, Tryz.ntmps68
  go_wp2_with (first | (go_at_call 42; refine (HKD.out _).mono ?_; rintro e wk ⟨rfl, rfl⟩))
  have HKP0 : Hid (KeepM ⟨ma, mn, mc, 0, many⟩ w W0 ⟨ma, mn, mc, 0, many⟩) := qh (.inl rfl)
  have HQL : Hid (w.heap.size < W0.heap.size) := qh HQ.out.lt
  go_loopw [11, 14] (IncRel2 ⟨ma, mn, mc, 0, many⟩ inc one many mn w W0) (fun _ v _ => im - (intOf v).toNat)
  case atStart => (try rw [← hW0]); exact ⟨0, ma, mn, mc, rfl, by omega, rfl, Nat.le_refl _, HKP0.out, HB.out, Below.refl _ _⟩
  case round =>
   obtain ⟨k, xa, xn, xc, rfl, hk, rfl, hxn, hkeep, bel, hbq⟩ := hrel
   have HBQ := qh hbq
   have HKP := qh hkeep
   have HBW := qh bel
   have hiw := HINC.out.below bel
   have hqw := HQ.out.below hbq HQL.out
   have q1 := hqw.cell 1
   have q2 := hqw.cell 2
   have q3 := hqw.cell 3
   have q4 := hqw.cell 4
   simp at q1 q2 q3 q4
   clear hkeep bel hqw hbq
   have hnn : mn ≤ mn := Nat.le_refl _
   by_cases hlt : k < im
   ·obtain ⟨b, off, rfl, hb0, hc⟩ := hiw.2.2.2 (by omega)
    (try dsimp only at hc)
    have x0 := hc k hlt
    have k1 : (0 : Int) ≤ (k : Int) := by omega
    have k2 : (k : Int) < (im : Int) := by omega
    have HE := qh (incL_snoc inc one many (by omega : k < inc.length))
    have hsn : SmallT (nsAt inc k) := hiw.2.2.1 _ (by rw [nsAt_get (by omega)]; exact List.getElem_mem _)
    have HSN := qh hsn
    generalize nsAt inc k = N at *
    have hok := HKP.out.ok HXO.out HBW.out
    have HG : Hid (Calls Tryz.prog 101 #[.slice oa o_n oc, .string N] wr.drew fun e w' => e = .returned (.string (getL N one)) ∧ w' = wr.drew) := qh (rget_any oa o_n oc one N wr.drew ((HONE.out.below HBW.out).below ((Below.refl _ wr).drewN' 1)))
    have HGS := qh (getL_small N HONE.out.2.2.1)
    obtain ⟨V, hV⟩ : ∃ V, V = getL N one := ⟨_, rfl⟩
    rw [← hV] at HE HG HGS
    obtain ⟨L, hL⟩ : ∃ L, L = incL (inc.take k) one many := ⟨_, rfl⟩
    rw [← hL] at HE HKP hok
    have hlen : L.length = xn := hok.1.1
    have HWD : Hid (Below wr.heap.size wr wr.drew) := qh ((Below.refl _ wr).drewN' 1)
    have HWT : Hid (Calls Tryz.prog 100 #[.slice xa xn xc, .string N, .string V] wr.drew (NewL (withL N V L) wr.drew)) := qh (rwith_any xa xn xc L N V wr.drew (hok.1.below HWD.out) (by omega))
    have HLS := qh (withL_small N V hok.1.2.2.1 HSN.out HGS.out)
    have HLL : Hid ((withL N V L).length ≤ xn + 1) := qh (by have := withL_len N V L; omega)
    have y0 : wr.drew.cell? ⟨b, off + k, none⟩ = some (.string N) := x0
    have p4 : wr.drew.cell? ⟨w.heap.size, 4, none⟩ = some (.slice (some ⟨b, off, none⟩) im ic) := q4
    clear hc hiw hsn hok hV hL
    go_wp2_with fail
    go_still_tail 13, (by kernel_rfl)
    still_call (HG.out)
    refine wpStill_nil ?_
    change wpList _ _ _ _ _ wr.drew
    go_wp2_with (go_at_call 100; refine HWT.out.mono ?_; intro e w6 h6; obtain ⟨a6, c6, rfl, ow6, b6⟩ := h6.own; have HO6 := qh ow6; have HB6 := qh (HWD.out.trans b6); clear ow6 b6 h6)
    go_roundw
    case rel => exact ⟨k + 1, a6, _, c6, by first | rfl | (congr 1; omega), by omega, rfl, by have := HLL.out; omega, by rw [HE.out]; exact keep_new HO6.out (Nat.le_trans HBW.out.size HWD.out.size) HLS.out (by have := HLL.out; omega), HBW.out.trans (HB6.out.mono HBW.out.size), HBQ.out.trans (HB6.out.mono HBQ.out.size)⟩
    case measure => simp [intOf]; omega
   ·have hkn : ¬ (k : Int) < (im : Int) := by omega
    have HE : Hid (incL (inc.take k) one many = toldL on ns inc card true many one) := qh (by
     rw [List.take_of_length_le (by omega)]; unfold toldL; rw [if_neg hcd]; rfl)
    rw [HE.out] at HKP
    clear hiw
    go_wp2_with fail
    go_ret
    exact ⟨xa, xn, xc, rfl, HKP.out, HBW.out⟩
theorem rlab_n0 (u : ByteArray) (ma : Option Addr) (mn mc : Nat) (many : List Lb) (oa : Option Addr) (o_n oc : Nat) (one : List Lb) (m : Mt) (y : Bool) (c : Int) (w : World) (hm : LRow w ma mn many) (hk : SlK ma mn mc) (ho : LRow w oa o_n one) (hM : MtOk w m) (hb : mn + m.im ≤ 4398046511000) (hcd : m.card = 0) (hkd : ∀ w, Calls Tryz.prog 42 #[.string u] w fun e w' => e = .returned (.int .i64 c) ∧ w = w') (hy : c = 1 ∨ (c = 2 ∧ y = true)) :
  Calls Tryz.prog 68 #[.string u, .slice ma mn mc, .slice oa o_n oc, m.v, .bool y] w (ToldRet ⟨ma, mn, mc, 0, many⟩ m.on m.ns m.inc m.card false many one w) := by
 have HKD := qh hkd
 obtain ⟨given, on, la, ln, lc, card, ia, im, ic, ns, inc⟩ := m
 dsimp only [Mt.v] at hb hcd ⊢
 subst hcd
 obtain ⟨W0, hW0⟩ : ∃ W0, W0 = w.alloc (.cells #[.bool given, .bool on, .slice la ln lc, .int .i64 0, .slice ia im ic] 25) := ⟨_, rfl⟩
 have hI0 : Bk.Is W0 w.heap.size #[.bool given, .bool on, .slice la ln lc, .int .i64 0, .slice ia im ic] 25 := by rw [hW0]; exact Bk.Is.made w _ _
 have hB0 : Below w.heap.size w W0 := by rw [hW0]; exact (Below.refl _ _).alloc (Nat.le_refl _) _
 have HI := qh hI0
 have HB := qh hB0
 have HNS := qh (hM.1)
 have HINC := qh (hM.2)
 have HONE := qh ho
 have HMANY := qh hm
 have HK := qh hk
 have hml := hm.1
 have HXO : Hid (ErOk w ⟨ma, mn, mc, 0, many⟩) := qh ⟨hm, hk, show mn ≤ 4398046511104 by omega⟩
 have hil := hM.2.1
 dsimp only at hil
 have hsm := hm.2.2.1
 have hlw : w.heap.size < W0.heap.size := hI0.lt
 have HLW := qh hlw
 have HSM := qh hsm
 have HNL := qh ((bare_any ma mn mc many W0 (HMANY.out.below HB.out) (by omega)).mono fun e w' h => h.own)
 rw [hW0] at HNL
 clear hI0 hB0 hM ho hm hk hsm hlw hkd
 rcases hy with rfl | ⟨rfl, rfl⟩
 all_goals
  go_enter Tryz.func68, Tryz.ntmps68
  go_wp2_with (first | (go_at_call 42; refine (HKD.out _).mono ?_; rintro e wk ⟨rfl, rfl⟩) | (go_at_call 98; refine HNL.out.mono ?_; rintro e w1 ⟨a', c', rfl, ow, b1⟩; rw [← hW0] at ow b1; have HOW := qh ow; have HB1 := qh (HB.out.trans (b1.mono HB.out.size)); have HQ := qh (HI.out.below b1 HLW.out); clear ow b1; have q1 := HQ.out.cell 1; have q2 := HQ.out.cell 2; have q3 := HQ.out.cell 3; have q4 := HQ.out.cell 4; simp at q1 q2 q3 q4))
  have HKP0 : Hid (KeepM ⟨ma, mn, mc, 0, many⟩ w w1 ⟨a', (sansL MN many).length, c', 0, (sansL MN many)⟩) := qh (keep_new HOW.out HB.out.size (sansL_small _ HSM.out) (Nat.le_trans (sansL_length _ _) (by omega)))
  have HQL : Hid (w.heap.size < w1.heap.size) := qh HQ.out.lt
  go_loopw [12, 13] (OutLRel ns on (sansL MN many) w1) (fun _ v _ => (sansL MN many).length - (intOf v).toNat)
  case atStart => (try rw [← hW0]); exact ⟨0, rfl, by omega, ownL_nil _ _, Below.refl _ _⟩
  case round =>
   obtain ⟨k, rfl, hk, own, bel⟩ := hrel
   have HO := qh own
   have HBW := qh bel
   have hrw := ((HKP0.out.ok HXO.out HB1.out).below bel).1
   have hqw := HQ.out.below bel HQL.out
   have q1 := hqw.cell 1
   have q2 := hqw.cell 2
   have q3 := hqw.cell 3
   have q4 := hqw.cell 4
   simp at q1 q2 q3 q4
   have hnl : ((sansL MN many).length : Int) ≤ 4398046511104 := by have : (sansL MN many).length ≤ mn := Nat.le_trans (sansL_length _ _) (by omega); omega
   have hll : (sansL MN many).length = (sansL MN many).length := rfl
   clear own bel hqw
   dsimp only at hrw
   by_cases hlt : k < (sansL MN many).length
   ·obtain ⟨b, off, hab, hb0, hc⟩ := hrw.2.2.2 (by omega)
    subst hab
    obtain ⟨x0, x1⟩ := hc k hlt
    have k1 : (0 : Int) ≤ (k : Int) := by omega
    have k2 : (k : Int) < ((sansL MN many).length : Int) := by omega
    have HE := qh (outL_snoc ns on (sansL MN many) (by omega : k < (sansL MN many).length))
    have HL : Hid ((outL ns on ((sansL MN many).take k)).length ≤ k) := qh (Nat.le_trans (outL_len _ _ _) (by simp; omega))
    have HNW := qh (HNS.out.below (HB1.out.trans (HBW.out.mono HB1.out.size)))
    have HIN : Hid (∀ n, Calls Tryz.prog 99 #[.slice la ln lc, .string (nL (sansL MN many) k)] (wr.drewN n) fun e w' => e = .returned (.bool (inN ns (nL (sansL MN many) k))) ∧ w' = wr.drewN n) := qh fun n => has_any la ln lc ns _ _ (HNW.out.below ((Below.refl _ _).drewN' n))
    unfold delB at HE
    generalize nL (sansL MN many) k = xn at *
    generalize vL (sansL MN many) k = xv at *
    dsimp only at HE HIN
    have HOD : Hid (∀ n, OwnL w1.heap.size (wr.drewN n) u12 (outL ns on ((sansL MN many).take k))) := qh fun n => HO.out.drewN n
    have HBD : Hid (∀ n, Below w1.heap.size w1 (wr.drewN n)) := qh fun n => HBW.out.drewN' n
    generalize inN ns xn = i at *
    clear hc hrw
    cases i
    all_goals cases on
    all_goals
     go_wp2_with fail
     go_quiet (first | (go_at_call 99; exact quiet_of_eqR (HIN.out _)))
     go_wp2_with (at_builtin; refine wpList_append_lb rfl (.tmp 44) (.tmp 49) rfl w1.heap.size _ _ rfl ((HOD.out nq).alloc _) wr.heap.size _ ⟨xn, xv⟩ rfl (by rw [World.cell?_alloc_at _ _ _ _ (by rfl)]; rfl) (by rw [World.cell?_alloc_at _ _ _ _ (by rfl)]; rfl) (by have := HL.out; omega) (by have := (HBD.out nq).size; simp at this ⊢; omega) ?_; intro v5 w5 own5 gb5 hv5; have HO5 := qh own5; have HB5 := qh (((HOD.out nq).alloc _).grown ((HBD.out nq).alloc (HBD.out nq).size _) gb5 (by have := (HBD.out nq).size; simp at this ⊢; omega)); clear own5 gb5 hv5)
     go_roundw
     case rel => first | exact ⟨k + 1, by first | rfl | (congr 1; omega), by omega, by rw [HE.out]; exact HO5.out, HB5.out⟩ | exact ⟨k + 1, by first | rfl | (congr 1; omega), by omega, by rw [HE.out]; simp; exact HOD.out nq, HBD.out nq⟩
     case measure => simp [intOf]; omega
   ·have hkn : ¬ (k : Int) < ((sansL MN many).length : Int) := by omega
    have HE : Hid (outL ns on ((sansL MN many).take k) = outL ns on (sansL MN many)) := qh (by rw [List.take_of_length_le (by omega)])
    rw [HE.out] at HO
    clear hrw
    obtain ⟨a3, c3, hv3⟩ := HO.out.slice
    subst hv3
    go_wp2_with fail
    go_ret
    refine ⟨a3, (outL ns on (sansL MN many)).length, c3, rfl, ?_, HB1.out.trans (HBW.out.mono HB1.out.size)⟩
    have hk := keep_new (x := ⟨ma, mn, mc, 0, many⟩) HO.out HB1.out.size (outL_small ns on (sansL_small _ HSM.out)) (Nat.le_trans (outL_len _ _ _) (Nat.le_trans (sansL_length _ _) (by omega)))
    unfold toldL
    rw [if_pos rfl]
    simpa using hk
theorem rlab_n1 (u : ByteArray) (ma : Option Addr) (mn mc : Nat) (many : List Lb) (oa : Option Addr) (o_n oc : Nat) (one : List Lb) (m : Mt) (y : Bool) (c : Int) (w : World) (hm : LRow w ma mn many) (hk : SlK ma mn mc) (ho : LRow w oa o_n one) (hM : MtOk w m) (hb : mn + m.im ≤ 4398046511000) (hcd : m.card ≠ 0) (hkd : ∀ w, Calls Tryz.prog 42 #[.string u] w fun e w' => e = .returned (.int .i64 c) ∧ w = w') (hy : c = 1 ∨ (c = 2 ∧ y = true)) :
  Calls Tryz.prog 68 #[.string u, .slice ma mn mc, .slice oa o_n oc, m.v, .bool y] w (ToldRet ⟨ma, mn, mc, 0, many⟩ m.on m.ns m.inc m.card false many one w) := by
 have HKD := qh hkd
 obtain ⟨given, on, la, ln, lc, card, ia, im, ic, ns, inc⟩ := m
 dsimp only [Mt.v] at hb hcd ⊢
 have hcz : (card == 0) = false := beq_eq_false_iff_ne.2 hcd
 obtain ⟨W0, hW0⟩ : ∃ W0, W0 = w.alloc (.cells #[.bool given, .bool on, .slice la ln lc, .int .i64 card, .slice ia im ic] 25) := ⟨_, rfl⟩
 have hI0 : Bk.Is W0 w.heap.size #[.bool given, .bool on, .slice la ln lc, .int .i64 card, .slice ia im ic] 25 := by rw [hW0]; exact Bk.Is.made w _ _
 have hB0 : Below w.heap.size w W0 := by rw [hW0]; exact (Below.refl _ _).alloc (Nat.le_refl _) _
 have HI := qh hI0
 have HB := qh hB0
 have HNS := qh (hM.1)
 have HINC := qh (hM.2)
 have HONE := qh ho
 have HMANY := qh hm
 have HK := qh hk
 have hml := hm.1
 have HXO : Hid (ErOk w ⟨ma, mn, mc, 0, many⟩) := qh ⟨hm, hk, show mn ≤ 4398046511104 by omega⟩
 have hil := hM.2.1
 dsimp only at hil
 have hsm := hm.2.2.1
 have hlw : w.heap.size < W0.heap.size := hI0.lt
 have HLW := qh hlw
 have HSM := qh hsm
 have HNL := qh ((bare_any ma mn mc many W0 (HMANY.out.below HB.out) (by omega)).mono fun e w' h => h.own)
 rw [hW0] at HNL
 clear hI0 hB0 hM ho hm hk hsm hlw hkd
 rcases hy with rfl | ⟨rfl, rfl⟩
 all_goals
  go_enter Tryz.func68, Tryz.ntmps68
  go_wp2_with (first | (go_at_call 42; refine (HKD.out _).mono ?_; rintro e wk ⟨rfl, rfl⟩) | (go_at_call 98; refine HNL.out.mono ?_; rintro e w1 ⟨a', c', rfl, ow, b1⟩; rw [← hW0] at ow b1; have HOW := qh ow; have HB1 := qh (HB.out.trans (b1.mono HB.out.size)); have HQ := qh (HI.out.below b1 HLW.out); clear ow b1; have q1 := HQ.out.cell 1; have q2 := HQ.out.cell 2; have q3 := HQ.out.cell 3; have q4 := HQ.out.cell 4; simp at q1 q2 q3 q4))
  have HKP0 : Hid (KeepM ⟨ma, mn, mc, 0, many⟩ w w1 ⟨a', (sansL MN many).length, c', 0, (sansL MN many)⟩) := qh (keep_new HOW.out HB.out.size (sansL_small _ HSM.out) (Nat.le_trans (sansL_length _ _) (by omega)))
  have HQL : Hid (w.heap.size < w1.heap.size) := qh HQ.out.lt
  go_loopw [11, 14] (IncRel2 ⟨ma, mn, mc, 0, many⟩ inc one (sansL MN many) (sansL MN many).length w w1) (fun _ v _ => im - (intOf v).toNat)
  case atStart => (try rw [← hW0]); exact ⟨0, a', (sansL MN many).length, c', rfl, by omega, rfl, Nat.le_refl _, HKP0.out, HB1.out, Below.refl _ _⟩
  case round =>
   obtain ⟨k, xa, xn, xc, rfl, hk, rfl, hxn, hkeep, bel, hbq⟩ := hrel
   have HBQ := qh hbq
   have HKP := qh hkeep
   have HBW := qh bel
   have hiw := HINC.out.below bel
   have hqw := HQ.out.below hbq HQL.out
   have q1 := hqw.cell 1
   have q2 := hqw.cell 2
   have q3 := hqw.cell 3
   have q4 := hqw.cell 4
   simp at q1 q2 q3 q4
   clear hkeep bel hqw hbq
   have hnn : (sansL MN many).length ≤ mn := Nat.le_trans (sansL_length _ _) (by omega)
   by_cases hlt : k < im
   ·obtain ⟨b, off, rfl, hb0, hc⟩ := hiw.2.2.2 (by omega)
    (try dsimp only at hc)
    have x0 := hc k hlt
    have k1 : (0 : Int) ≤ (k : Int) := by omega
    have k2 : (k : Int) < (im : Int) := by omega
    have HE := qh (incL_snoc inc one (sansL MN many) (by omega : k < inc.length))
    have hsn : SmallT (nsAt inc k) := hiw.2.2.1 _ (by rw [nsAt_get (by omega)]; exact List.getElem_mem _)
    have HSN := qh hsn
    generalize nsAt inc k = N at *
    have hok := HKP.out.ok HXO.out HBW.out
    have HG : Hid (Calls Tryz.prog 101 #[.slice oa o_n oc, .string N] wr.drew fun e w' => e = .returned (.string (getL N one)) ∧ w' = wr.drew) := qh (rget_any oa o_n oc one N wr.drew ((HONE.out.below HBW.out).below ((Below.refl _ wr).drewN' 1)))
    have HGS := qh (getL_small N HONE.out.2.2.1)
    obtain ⟨V, hV⟩ : ∃ V, V = getL N one := ⟨_, rfl⟩
    rw [← hV] at HE HG HGS
    obtain ⟨L, hL⟩ : ∃ L, L = incL (inc.take k) one (sansL MN many) := ⟨_, rfl⟩
    rw [← hL] at HE HKP hok
    have hlen : L.length = xn := hok.1.1
    have HWD : Hid (Below wr.heap.size wr wr.drew) := qh ((Below.refl _ wr).drewN' 1)
    have HWT : Hid (Calls Tryz.prog 100 #[.slice xa xn xc, .string N, .string V] wr.drew (NewL (withL N V L) wr.drew)) := qh (rwith_any xa xn xc L N V wr.drew (hok.1.below HWD.out) (by omega))
    have HLS := qh (withL_small N V hok.1.2.2.1 HSN.out HGS.out)
    have HLL : Hid ((withL N V L).length ≤ xn + 1) := qh (by have := withL_len N V L; omega)
    have y0 : wr.drew.cell? ⟨b, off + k, none⟩ = some (.string N) := x0
    have p4 : wr.drew.cell? ⟨w.heap.size, 4, none⟩ = some (.slice (some ⟨b, off, none⟩) im ic) := q4
    clear hc hiw hsn hok hV hL
    go_wp2_with fail
    go_still_tail 13, (by kernel_rfl)
    still_call (HG.out)
    refine wpStill_nil ?_
    change wpList _ _ _ _ _ wr.drew
    go_wp2_with (go_at_call 100; refine HWT.out.mono ?_; intro e w6 h6; obtain ⟨a6, c6, rfl, ow6, b6⟩ := h6.own; have HO6 := qh ow6; have HB6 := qh (HWD.out.trans b6); clear ow6 b6 h6)
    go_roundw
    case rel => exact ⟨k + 1, a6, _, c6, by first | rfl | (congr 1; omega), by omega, rfl, by have := HLL.out; omega, by rw [HE.out]; exact keep_new HO6.out (Nat.le_trans HBW.out.size HWD.out.size) HLS.out (by have := HLL.out; omega), HBW.out.trans (HB6.out.mono HBW.out.size), HBQ.out.trans (HB6.out.mono HBQ.out.size)⟩
    case measure => simp [intOf]; omega
   ·have hkn : ¬ (k : Int) < (im : Int) := by omega
    have HE : Hid (incL (inc.take k) one (sansL MN many) = toldL on ns inc card false many one) := qh (by
     rw [List.take_of_length_le (by omega)]; unfold toldL; rw [if_neg hcd]; rfl)
    rw [HE.out] at HKP
    clear hiw
    go_wp2_with fail
    go_ret
    exact ⟨xa, xn, xc, rfl, HKP.out, HBW.out⟩
theorem rlabels_any (u : ByteArray) (ma : Option Addr) (mn mc : Nat) (many : List Lb) (oa : Option Addr) (o_n oc : Nat) (one : List Lb) (m : Mt) (yes : Bool) (w : World) (hm : LRow w ma mn many) (hk : SlK ma mn mc) (ho : LRow w oa o_n one) (hM : MtOk w m) (hb : mn + m.im ≤ 4398046511000) (hop : opK u.toList < 12) :
  Calls Tryz.prog 68 #[.string u, .slice ma mn mc, .slice oa o_n oc, m.v, .bool (if opK u.toList < 6 then true else yes)] w (ToldRet ⟨ma, mn, mc, 0, many⟩ m.on m.ns m.inc m.card (stepF (opK u.toList) yes) many one w) := by
 have hkd := fun w => kindY_any u w hop
 unfold kindS at hkd
 unfold stepF
 by_cases h6 : opK u.toList < 6
 ·simp only [if_pos h6] at hkd ⊢
  by_cases hc : m.card = 0
  ·exact rlab_n0 u ma mn mc many oa o_n oc one m true 1 w hm hk ho hM hb hc hkd (.inl rfl)
  ·exact rlab_n1 u ma mn mc many oa o_n oc one m true 1 w hm hk ho hM hb hc hkd (.inl rfl)
 ·simp only [if_neg h6] at hkd ⊢
  by_cases hc : m.card = 0
  ·cases yes
   ·exact rlab_f0 u ma mn mc many oa o_n oc one m false 2 w hm hk ho hM hb hc hkd ⟨rfl, rfl⟩
   ·exact rlab_n0 u ma mn mc many oa o_n oc one m true 2 w hm hk ho hM hb hc hkd (.inr ⟨rfl, rfl⟩)
  ·cases yes
   ·exact rlab_f1 u ma mn mc many oa o_n oc one m false 2 w hm hk ho hM hb hc hkd ⟨rfl, rfl⟩
   ·exact rlab_n1 u ma mn mc many oa o_n oc one m true 2 w hm hk ho hM hb hc hkd (.inr ⟨rfl, rfl⟩)
end Go.Proofs.YtmmfjknnbkcniaaGreatDoor
