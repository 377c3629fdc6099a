/- pair.Vectors: the walk. (Printed by tools/genvecs.py.) -/
import Derived.Test.YtmmfjknnbkcniaaGreatDoorV35
import Derived.Deep.Cut
import Derived.Test.YtmmfjknnbkcniaaGreatDoorV37
import Derived.Test.YtmmfjknnbkcniaaGreatDoorV38
import Derived.Test.YtmmfjknnbkcniaaGreatDoorV39
set_option maxHeartbeats 64000000
set_option maxRecDepth 100000
namespace Go.Proofs.YtmmfjknnbkcniaaGreatDoor
open Go.Fl Go.Rel Go.RowKit Go.Maps Go.WideMaps
set_option linter.unusedSimpArgs false
set_option linter.unusedVariables false
def FitK (on : Bool) (ns : List ByteArray) (im : Nat) (ks : List Ek) : Prop := ∀ k ∈ ks, W64 k.2 ∧ (keyL ns (!on) k.1).length ≤ 140737480000000 ∧ k.1.length + im ≤ 4398046511000
theorem vecK_mem {ks ms : List Ek} (h : vecK ks = some ms) : ∀ k ∈ ms, k ∈ ks := by
 unfold vecK at h
 split at h
 ·injection h with h
  intro k hk
  rw [← h] at hk
  exact List.mem_mergeSort.1 hk
 ·cases h
theorem vecK_len {ks ms : List Ek} (h : vecK ks = some ms) : ms.length = ks.length := by
 unfold vecK at h
 split at h
 ·injection h with h
  rw [← h]; exact List.length_mergeSort _
 ·cases h
theorem FitK.of {on : Bool} {ns : List ByteArray} {im : Nat} {ks ms : List Ek} (h : FitK on ns im ks) (hv : vecK ks = some ms) : FitK on ns im ms := fun k hk => h k (vecK_mem hv k hk)
theorem VecGood.row2 {es0 : List Er} {ms : List Ek} {w w' : World} {e : Ending} (h : VecGood es0 ms w e w') : ∃ g cap es, e = .returned (.tuple #[.slice (some ⟨g, 0, none⟩) es.length cap, .int .i64 0]) ∧ ERow w' (some ⟨g, 0, none⟩) es.length es ∧ es.map Er.key = ms ∧ Below w.heap.size w w' := by
 obtain ⟨g, cap, es, h1, h2, h3, h4, h5, h6, h7, _, h9⟩ := h
 refine ⟨g, cap, es, h1, ⟨rfl, h3, fun x hx => (h6 x hx).1.ok, fun _ => ⟨g, 0, rfl, h5.1, fun i hi => ⟨?_, ?_⟩⟩⟩, h7, h9⟩
 ·have := (h5.2 i hi 0 (by omega)).1; rw [Nat.add_zero] at this; exact this
 ·exact (h5.2 i hi 1 (by omega)).1
theorem set_no {l : List UInt8} (h : opK l < 12) : setB l = false := by
 unfold setB
 have key : ∀ p : List UInt8, opK p = 12 → (l == p) = false := fun p hp => by
  cases he : l == p
  ·rfl
  ·have := eq_of_beq he; subst this; omega
 rw [key _ (by decide), key _ (by decide), key _ (by decide)]; rfl
theorem vecs_bad (u : ByteArray) (a b : Option Addr) (na ca nb cb : Nat) (la lb : List Er) (m : Mt) (yes : Bool) (w : World) (ha : ERow w a na la) (hb : ERow w b nb lb) (hM : MtOk w m) (hfa : FitK m.on m.ns m.im (la.map Er.key)) (hfb : FitK m.on m.ns m.im (lb.map Er.key)) (hT : Tab w.heap.size w) (hn : na + nb ≤ 4398046511000) (hv : vecK (la.map Er.key) = none ∨ vecK (lb.map Er.key) = none) :
  Calls Tryz.prog 13 #[.string u, .slice a na ca, .slice b nb cb, m.v, .bool yes] w (AnsO 5 [] w) := by
 have HVA : Hid (∀ W, Below w.heap.size w W → Calls Tryz.prog 19 #[.slice a na ca] W (VecRet la W)) := qh fun W h => vector_any a na ca la W (ha.below h)
 have HVB : Hid (∀ W, Below w.heap.size w W → Calls Tryz.prog 19 #[.slice b nb cb] W (VecRet lb W)) := qh fun W h => vector_any b nb cb lb W (hb.below h)
 have HM := qh hM
 have HT := qh hT
 have hal := ha.1
 have hbl := hb.1
 have HN : Hid (la.length + lb.length ≤ 4398046511000) := qh (by omega)
 obtain ⟨given, on, ma, mn, mc, card, ia, im, ic, ns, inc⟩ := m
 dsimp only [Mt.v] at hfa hfb ⊢
 obtain ⟨W0, hW0⟩ : ∃ W0, W0 = w.alloc (.cells #[.bool given, .bool on, .slice ma mn mc, .int .i64 card, .slice ia im ic] 25) := ⟨_, rfl⟩
 have hI0 : Bk.Is W0 w.heap.size #[.bool given, .bool on, .slice ma mn mc, .int .i64 card, .slice ia im ic] 25 := by rw [hW0]; exact Bk.Is.made w _ _
 have HI0 := qh hI0
 have HB0 : Hid (Below w.heap.size w W0) := qh (by rw [hW0]; exact (Below.refl _ _).alloc (Nat.le_refl _) _)
 have HW0 := qh hW0
 unfold VecRet at HVA HVB
 clear ha hb hM hI0 hW0 hT hn
 clear hfa hfb HM HT HI0 HN
 cases hva : vecK (la.map Er.key) with
 | none =>
  rw [hva] at HVA
  dsimp only at HVA
  cases hvb : vecK (lb.map Er.key) with
  | none =>
   rw [hvb] at HVB
   dsimp only at HVB
   clear hv hva hvb
   go_enter Tryz.func13, Tryz.ntmps13
   go_upto_region 1 with fail
   rw [← HW0.out]
   go_wp2_with (first | (go_at_call 19; (with_reducible refine (HVA.out _ HB0.out).mono ?_); rintro e w1 ⟨rfl, b1⟩; have HB1 := qh (HB0.out.trans (b1.mono HB0.out.size)); clear b1) | (go_at_call 19; (with_reducible refine (HVB.out _ HB1.out).mono ?_); rintro e w2 ⟨rfl, b2⟩; have HB2 := qh (HB1.out.trans (b2.mono HB1.out.size)); clear b2))
   go_ret2
   exact AnsO.nil _ 0 HB2.out rfl
  | some mr =>
   rw [hvb] at HVB
   dsimp only at HVB
   clear hv hva hvb
   go_enter Tryz.func13, Tryz.ntmps13
   go_upto_region 1 with fail
   rw [← HW0.out]
   go_wp2_with (first | (go_at_call 19; (with_reducible refine (HVA.out _ HB0.out).mono ?_); rintro e w1 ⟨rfl, b1⟩; have HB1 := qh (HB0.out.trans (b1.mono HB0.out.size)); clear b1) | (go_at_call 19; (with_reducible refine (HVB.out _ HB1.out).mono ?_); intro e w2 h2; obtain ⟨g2, c2, es2, rfl, r2, k2, b2⟩ := h2.row2; have HR2 := qh r2; have HK2 := qh k2; have HB12 := qh b2; have HB2 := qh (HB1.out.trans (b2.mono HB1.out.size)); clear h2 r2 k2 b2))
   go_ret2
   exact AnsO.nil _ 0 HB2.out rfl
 | some ml =>
  rw [hva] at HVA
  dsimp only at HVA
  have hvb : vecK (lb.map Er.key) = none := by
   rcases hv with h | h
   ·rw [hva] at h; cases h
   ·exact h
  rw [hvb] at HVB
  dsimp only at HVB
  clear hv hva hvb
  go_enter Tryz.func13, Tryz.ntmps13
  go_upto_region 1 with fail
  rw [← HW0.out]
  go_wp2_with (first | (go_at_call 19; (with_reducible refine (HVA.out _ HB0.out).mono ?_); intro e w1 h1; obtain ⟨g1, c1, es1, rfl, r1, k1, b1⟩ := h1.row2; have HR1 := qh r1; have HK1 := qh k1; have HB01 := qh b1; have HB1 := qh (HB0.out.trans (b1.mono HB0.out.size)); clear h1 r1 k1 b1) | (go_at_call 19; (with_reducible refine (HVB.out _ HB1.out).mono ?_); rintro e w2 ⟨rfl, b2⟩; have HB2 := qh (HB1.out.trans (b2.mono HB1.out.size)); clear b2))
  go_ret2
  exact AnsO.nil _ 0 HB2.out rfl
def BadV (e : Int) (A C S : Bool) (card : Int) : Prop :=
 (e = 7 ∧ A = false ∧ C = false ∧ S = false) ∨ (e = 2 ∧ ((A = true ∧ S = false) ∨ (A = false ∧ C = true ∧ S = false) ∨ (A = false ∧ C = false ∧ S = true)) ∧ (decide (card < 0) = true ∨ (decide (card < 0) = false ∧ decide (2 < card) = true))) ∨ (e = 2 ∧ A = false ∧ C = false ∧ S = true ∧ (card = 1 ∨ card = 2))
theorem vecs_two (u : ByteArray) (a b : Option Addr) (na ca nb cb : Nat) (la lb : List Er) (m : Mt) (yes : Bool) (w : World) (ha : ERow w a na la) (hb : ERow w b nb lb) (hM : MtOk w m) (hfa : FitK m.on m.ns m.im (la.map Er.key)) (hfb : FitK m.on m.ns m.im (lb.map Er.key)) (hT : Tab w.heap.size w) (hn : na + nb ≤ 4398046511000) (ml mr : List Ek) (hva : vecK (la.map Er.key) = some ml) (hvb : vecK (lb.map Er.key) = some mr) (e : Int) (A C S : Bool) (hA : decide (opK u.toList < 6) = A) (hC : decide (opK u.toList < 12) = C) (hS : setB u.toList = S) (h0 : BadV e A C S m.card) :
  Calls Tryz.prog 13 #[.string u, .slice a na ca, .slice b nb cb, m.v, .bool yes] w (AnsO e [] w) := by
 have HVA : Hid (∀ W, Below w.heap.size w W → Calls Tryz.prog 19 #[.slice a na ca] W (VecRet la W)) := qh fun W h => vector_any a na ca la W (ha.below h)
 have HVB : Hid (∀ W, Below w.heap.size w W → Calls Tryz.prog 19 #[.slice b nb cb] W (VecRet lb W)) := qh fun W h => vector_any b nb cb lb W (hb.below h)
 have HM := qh hM
 have HT := qh hT
 have hal := ha.1
 have hbl := hb.1
 have HN : Hid (la.length + lb.length ≤ 4398046511000) := qh (by omega)
 obtain ⟨given, on, ma, mn, mc, card, ia, im, ic, ns, inc⟩ := m
 dsimp only [Mt.v] at hfa hfb ⊢
 obtain ⟨W0, hW0⟩ : ∃ W0, W0 = w.alloc (.cells #[.bool given, .bool on, .slice ma mn mc, .int .i64 card, .slice ia im ic] 25) := ⟨_, rfl⟩
 have hI0 : Bk.Is W0 w.heap.size #[.bool given, .bool on, .slice ma mn mc, .int .i64 card, .slice ia im ic] 25 := by rw [hW0]; exact Bk.Is.made w _ _
 have HI0 := qh hI0
 have HB0 : Hid (Below w.heap.size w W0) := qh (by rw [hW0]; exact (Below.refl _ _).alloc (Nat.le_refl _) _)
 have HW0 := qh hW0
 unfold VecRet at HVA HVB
 clear ha hb hM hI0 hW0 hT hn
 rw [hva] at HVA
 rw [hvb] at HVB
 unfold BadV at h0
 dsimp only at h0 HVA HVB
 have HAR := qh (arith_any u)
 have HCO : Hid (A = false → ∀ w, _) := qh (fun h w => compar_any u w (of_decide_eq_false (hA.trans h)))
 have HSE := qh (set_any u)
 rw [hA] at HAR
 rw [hC] at HCO
 rw [hS] at HSE
 clear hfa hfb HM HT hva hvb HN hA hC hS
 rcases h0 with ⟨rfl, rfl, rfl, rfl⟩ | ⟨rfl, ⟨rfl, rfl⟩ | ⟨rfl, rfl, rfl⟩ | ⟨rfl, rfl, rfl⟩, q1 | ⟨q1, q2⟩⟩ | ⟨rfl, rfl, rfl, rfl, rfl | rfl⟩
 all_goals
  try have HCP := qh (HCO.out rfl)
  clear HCO
  go_enter Tryz.func13, Tryz.ntmps13
  go_upto_region 1 with fail
  rw [← HW0.out]
  go_wp2_with (first | (go_at_call 19; (with_reducible refine (HVA.out _ HB0.out).mono ?_); intro e w1 h1; obtain ⟨g1, c1, es1, rfl, r1, k1, b1⟩ := h1.row2; have HR1 := qh r1; have HK1 := qh k1; have HB01 := qh b1; have HB1 := qh (HB0.out.trans (b1.mono HB0.out.size)); have hw0 : w.heap.size < W0.heap.size := HI0.out.lt; have HI1 := qh (HI0.out.below b1 hw0); clear h1 r1 k1 b1) | (go_at_call 19; (with_reducible refine (HVB.out _ HB1.out).mono ?_); intro e w2 h2; obtain ⟨g2, c2, es2, rfl, r2, k2, b2⟩ := h2.row2; have HR2 := qh r2; have HK2 := qh k2; have HB12 := qh b2; have HB2 := qh (HB1.out.trans (b2.mono HB1.out.size)); have HI2 := qh (HI1.out.below b2 (Nat.lt_of_lt_of_le hw0 HB01.out.size)); have q0 := HI2.out.cell 0; have q1 := HI2.out.cell 1; have q2 := HI2.out.cell 2; have q3 := HI2.out.cell 3; have q4 := HI2.out.cell 4; simp at q0 q1 q2 q3 q4; clear h2 r2 k2 b2) | (go_at_call 22; refine (HAR.out _).mono ?_; rintro e w3 ⟨rfl, nd, rfl⟩) | (go_at_call 23; refine (HCP.out _).mono ?_; rintro e w3 ⟨rfl, rfl⟩) | (go_at_call 24; refine (HSE.out _).mono ?_; rintro e w3 ⟨rfl, rfl⟩))
  go_ret2
  exact AnsO.nil _ 0 (HB2.out.drewN' nd) rfl
theorem met_all (u : ByteArray) (ada adb : Addr) (na ca nb cb : Nat) (la lb : List Er) (m : Mt) (yes : Bool) (w : World) (ha : ERow w (some ada) na la) (hb : ERow w (some adb) nb lb) (hM : MtOk w m) (hla : KeyFits m.on m.ns la) (hlb : KeyFits m.on m.ns lb) (hT : Tab w.heap.size w) (hn : na + nb ≤ 4398046511000)
  (hfa : ∀ e ∈ la, W64 e.f) (hfb : ∀ e ∈ lb, W64 e.f) (him : ∀ e ∈ la, e.n + m.im ≤ 4398046511000) (hin : ∀ e ∈ lb, e.n + m.im ≤ 4398046511000) (hk : opK u.toList < 12) (hcd : m.card = 0 ∨ m.card = 1 ∨ m.card = 2) :
  Calls Tryz.prog 26 #[.string u, .slice (some ada) na ca, .slice (some adb) nb cb, m.v, .bool yes] w (AnsO (metE (opK u.toList) m.on m.ns m.inc m.card yes (if m.card = 2 then lb.map Er.key else la.map Er.key) (if m.card = 2 then la.map Er.key else lb.map Er.key)) (metV (opK u.toList) m.on m.ns m.inc m.card yes (if m.card = 2 then lb.map Er.key else la.map Er.key) (if m.card = 2 then la.map Er.key else lb.map Er.key)) w) := by
 rcases hcd with h | h | h
 ·rw [if_neg (by omega), if_neg (by omega)]; exact met_c0 u ada adb na ca nb cb la lb m yes w ha hb hM hla hlb hT hn hfa hfb him hk h
 ·rw [if_neg (by omega), if_neg (by omega)]; exact met_c1 u ada adb na ca nb cb la lb m yes w ha hb hM hla hlb hT hn hfa hfb him hk h
 ·rw [if_pos h, if_pos h]; exact met_c2 u ada adb na ca nb cb la lb m yes w ha hb hM hla hlb hT hn hfa hfb hin hk h
theorem vecs_met (u : ByteArray) (a b : Option Addr) (na ca nb cb : Nat) (la lb : List Er) (m : Mt) (yes : Bool) (w : World) (ha : ERow w a na la) (hb : ERow w b nb lb) (hM : MtOk w m) (hfa : FitK m.on m.ns m.im (la.map Er.key)) (hfb : FitK m.on m.ns m.im (lb.map Er.key)) (hT : Tab w.heap.size w) (hn : na + nb ≤ 4398046511000) (ml mr : List Ek) (hva : vecK (la.map Er.key) = some ml) (hvb : vecK (lb.map Er.key) = some mr) (hk : opK u.toList < 12) (hcd : m.card = 0 ∨ m.card = 1 ∨ m.card = 2) :
  Calls Tryz.prog 13 #[.string u, .slice a na ca, .slice b nb cb, m.v, .bool yes] w (AnsO (metE (opK u.toList) m.on m.ns m.inc m.card yes (if m.card = 2 then mr else ml) (if m.card = 2 then ml else mr)) (metV (opK u.toList) m.on m.ns m.inc m.card yes (if m.card = 2 then mr else ml) (if m.card = 2 then ml else mr)) w) := by
 have HVA : Hid (∀ W, Below w.heap.size w W → Calls Tryz.prog 19 #[.slice a na ca] W (VecRet la W)) := qh fun W h => vector_any a na ca la W (ha.below h)
 have HVB : Hid (∀ W, Below w.heap.size w W → Calls Tryz.prog 19 #[.slice b nb cb] W (VecRet lb W)) := qh fun W h => vector_any b nb cb lb W (hb.below h)
 have HM := qh hM
 have HT := qh hT
 have hal := ha.1
 have hbl := hb.1
 have HN : Hid (la.length + lb.length ≤ 4398046511000) := qh (by omega)
 obtain ⟨given, on, ma, mn, mc, card, ia, im, ic, ns, inc⟩ := m
 dsimp only [Mt.v] at hfa hfb ⊢
 obtain ⟨W0, hW0⟩ : ∃ W0, W0 = w.alloc (.cells #[.bool given, .bool on, .slice ma mn mc, .int .i64 card, .slice ia im ic] 25) := ⟨_, rfl⟩
 have hI0 : Bk.Is W0 w.heap.size #[.bool given, .bool on, .slice ma mn mc, .int .i64 card, .slice ia im ic] 25 := by rw [hW0]; exact Bk.Is.made w _ _
 have HI0 := qh hI0
 have HB0 : Hid (Below w.heap.size w W0) := qh (by rw [hW0]; exact (Below.refl _ _).alloc (Nat.le_refl _) _)
 have HW0 := qh hW0
 unfold VecRet at HVA HVB
 clear ha hb hM hI0 hW0 hT hn
 dsimp only at hcd
 rw [hva] at HVA
 rw [hvb] at HVB
 dsimp only at HVA HVB
 have HAR := qh (arith_any u)
 have HSE := qh (set_any u)
 rw [set_no hk] at HSE
 have HCO : Hid (decide (opK u.toList < 6) = false → ∀ w, _) := qh (fun h w => compar_any u w (of_decide_eq_false h))
 rw [decide_eq_true hk] at HCO
 have HX1 : Hid (FitK on ns im ml) := qh (hfa.of hva)
 have HX2 : Hid (FitK on ns im mr) := qh (hfb.of hvb)
 have HLL : Hid (ml.length + mr.length ≤ 4398046511000) := qh (by rw [vecK_len hva, vecK_len hvb, List.length_map, List.length_map]; exact HN.out)
 have HKO : Hid (opK u.toList < 12) := qh hk
 generalize decide (opK u.toList < 6) = A at HAR HCO
 clear hfa hfb hva hvb hk HN
 rcases hcd with rfl | rfl | rfl <;> cases A
 all_goals
  try have HCP := qh (HCO.out rfl)
  clear HCO
  go_enter Tryz.func13, Tryz.ntmps13
  go_upto_region 1 with fail
  rw [← HW0.out]
  go_upto_region 11 with (first | (go_at_call 19; (with_reducible refine (HVA.out _ HB0.out).mono ?_); intro e w1 h1; obtain ⟨g1, c1, es1, rfl, r1, k1, b1⟩ := h1.row2; have HR1 := qh r1; have HK1 := qh k1; have HB01 := qh b1; have HB1 := qh (HB0.out.trans (b1.mono HB0.out.size)); have hw0 : w.heap.size < W0.heap.size := HI0.out.lt; have HI1 := qh (HI0.out.below b1 hw0); clear h1 r1 k1 b1) | (go_at_call 19; (with_reducible refine (HVB.out _ HB1.out).mono ?_); intro e w2 h2; obtain ⟨g2, c2, es2, rfl, r2, k2, b2⟩ := h2.row2; have HR2 := qh r2; have HK2 := qh k2; have HB12 := qh b2; have HB2 := qh (HB1.out.trans (b2.mono HB1.out.size)); have HI2 := qh (HI1.out.below b2 (Nat.lt_of_lt_of_le hw0 HB01.out.size)); have q0 := HI2.out.cell 0; have q1 := HI2.out.cell 1; have q2 := HI2.out.cell 2; have q3 := HI2.out.cell 3; have q4 := HI2.out.cell 4; simp at q0 q1 q2 q3 q4; clear h2 r2 k2 b2) | (go_at_call 22; refine (HAR.out _).mono ?_; rintro e w3 ⟨rfl, nd, rfl⟩) | (go_at_call 23; refine (HCP.out _).mono ?_; rintro e w3 ⟨rfl, rfl⟩) | (go_at_call 24; refine (HSE.out _).mono ?_; rintro e w3 ⟨rfl, rfl⟩))
  have HE1 : Hid (∀ e ∈ es1, W64 e.f ∧ (keyL ns (!on) e.ls).length ≤ 140737480000000 ∧ e.n + im ≤ 4398046511000) := qh fun e he => by
   have h1 := HX1.out e.key (by rw [← HK1.out]; exact List.mem_map_of_mem he)
   have h2 := (HR1.out.2.2.1 e he).1.1
   exact ⟨h1.1, h1.2.1, by rw [← h2]; exact h1.2.2⟩
  have HE2 : Hid (∀ e ∈ es2, W64 e.f ∧ (keyL ns (!on) e.ls).length ≤ 140737480000000 ∧ e.n + im ≤ 4398046511000) := qh fun e he => by
   have h1 := HX2.out e.key (by rw [← HK2.out]; exact List.mem_map_of_mem he)
   have h2 := (HR2.out.2.2.1 e he).1.1
   exact ⟨h1.1, h1.2.1, by rw [← h2]; exact h1.2.2⟩
  have HLE : Hid (es1.length + es2.length ≤ 4398046511000) := qh (by
   have h1 := congrArg List.length HK1.out
   have h2 := congrArg List.length HK2.out
   have := HLL.out
   rw [List.length_map] at h1 h2; omega)
  have HBW := qh (HB2.out.drewN' nd)
  have gd : Below w2.heap.size w2 (w2.drewN nd) := (Below.refl _ _).drewN' nd
  have h := met_all u ⟨g1, 0, none⟩ ⟨g2, 0, none⟩ es1.length c1 es2.length c2 es1 es2 ⟨given, on, ma, mn, mc, _, ia, im, ic, ns, inc⟩ yes (w2.drewN nd) ((HR1.out.below HB12.out).below gd) (HR2.out.below gd) (HM.out.below HBW.out) (fun e he => (HE1.out e he).2.1) (fun e he => (HE2.out e he).2.1) (fun w' h => HT.out w' (HBW.out.trans (h.mono HBW.out.size))) HLE.out (fun e he => (HE1.out e he).1) (fun e he => (HE2.out e he).1) (fun e he => (HE1.out e he).2.2) (fun e he => (HE2.out e he).2.2) HKO.out (by first | exact .inl rfl | exact .inr (.inl rfl) | exact .inr (.inr rfl))
  simp only [if_true, if_false, show ¬ (0 : Int) = 2 by decide, show ¬ (1 : Int) = 2 by decide] at h ⊢
  rw [HK1.out, HK2.out] at h
  have HCALL := qh h
  clear h
  clear gd
  go_wp2_with (go_at_call 26; refine HCALL.out.mono ?_; rintro e w5 ⟨xs5, hx5, a5, c5, es5, rfl, hh⟩; have HH := qh (And.intro hx5 hh); clear hx5 hh)
  go_ret2
  exact AnsO.from ⟨xs5, HH.out.1, a5, c5, es5, rfl, HH.out.2⟩ HBW.out
theorem vecsX_se (u : ByteArray) (a b : Option Addr) (na ca nb cb : Nat) (la lb : List Er) (m : Mt) (yes : Bool) (w : World) (ha : ERow w a na la) (hb : ERow w b nb lb) (hM : MtOk w m) (hfa : FitK m.on m.ns m.im (la.map Er.key)) (hfb : FitK m.on m.ns m.im (lb.map Er.key)) (hT : Tab w.heap.size w) (hn : na + nb ≤ 4398046511000) (ml mr : List Ek) (hva : vecK (la.map Er.key) = some ml) (hvb : vecK (lb.map Er.key) = some mr) (hk : ¬ opK u.toList < 12) (hs : setB u.toList = true) (hc0 : m.card = 0) :
  Calls Tryz.prog 13 #[.string u, .slice a na ca, .slice b nb cb, m.v, .bool yes] w (AnsX (setE (setL u.toList m.on m.ns ml mr)) (setV (setL u.toList m.on m.ns ml mr)) w) := by
 have HVA : Hid (∀ W, Below w.heap.size w W → Calls Tryz.prog 19 #[.slice a na ca] W (VecRet la W)) := qh fun W h => vector_any a na ca la W (ha.below h)
 have HVB : Hid (∀ W, Below w.heap.size w W → Calls Tryz.prog 19 #[.slice b nb cb] W (VecRet lb W)) := qh fun W h => vector_any b nb cb lb W (hb.below h)
 have HM := qh hM
 have HT := qh hT
 have hal := ha.1
 have hbl := hb.1
 have HN : Hid (la.length + lb.length ≤ 4398046511000) := qh (by omega)
 obtain ⟨given, on, ma, mn, mc, card, ia, im, ic, ns, inc⟩ := m
 dsimp only [Mt.v] at hfa hfb ⊢
 obtain ⟨W0, hW0⟩ : ∃ W0, W0 = w.alloc (.cells #[.bool given, .bool on, .slice ma mn mc, .int .i64 card, .slice ia im ic] 25) := ⟨_, rfl⟩
 have hI0 : Bk.Is W0 w.heap.size #[.bool given, .bool on, .slice ma mn mc, .int .i64 card, .slice ia im ic] 25 := by rw [hW0]; exact Bk.Is.made w _ _
 have HI0 := qh hI0
 have HB0 : Hid (Below w.heap.size w W0) := qh (by rw [hW0]; exact (Below.refl _ _).alloc (Nat.le_refl _) _)
 have HW0 := qh hW0
 unfold VecRet at HVA HVB
 clear ha hb hM hI0 hW0 hT hn
 dsimp only at hc0
 subst hc0
 rw [hva] at HVA
 rw [hvb] at HVB
 dsimp only at HVA HVB
 have HAR := qh (arith_any u)
 rw [decide_eq_false (by omega)] at HAR
 have HCO : Hid (∀ w, _) := qh (fun w => compar_any u w (by omega))
 rw [decide_eq_false hk] at HCO
 have HSE := qh (set_any u)
 rw [hs] at HSE
 have HX1 : Hid (FitK on ns im ml) := qh (hfa.of hva)
 have HX2 : Hid (FitK on ns im mr) := qh (hfb.of hvb)
 have HLL : Hid (ml.length + mr.length ≤ 4398046511000) := qh (by rw [vecK_len hva, vecK_len hvb, List.length_map, List.length_map]; exact HN.out)
 clear hfa hfb hva hvb hk hs HN
 go_enter Tryz.func13, Tryz.ntmps13
 go_upto_region 1 with fail
 rw [← HW0.out]
 go_upto_region 10 with (first | (go_at_call 19; (with_reducible refine (HVA.out _ HB0.out).mono ?_); intro e w1 h1; obtain ⟨g1, c1, es1, rfl, r1, k1, b1⟩ := h1.row2; have HR1 := qh r1; have HK1 := qh k1; have HB01 := qh b1; have HB1 := qh (HB0.out.trans (b1.mono HB0.out.size)); have hw0 : w.heap.size < W0.heap.size := HI0.out.lt; have HI1 := qh (HI0.out.below b1 hw0); clear h1 r1 k1 b1) | (go_at_call 19; (with_reducible refine (HVB.out _ HB1.out).mono ?_); intro e w2 h2; obtain ⟨g2, c2, es2, rfl, r2, k2, b2⟩ := h2.row2; have HR2 := qh r2; have HK2 := qh k2; have HB12 := qh b2; have HB2 := qh (HB1.out.trans (b2.mono HB1.out.size)); have HI2 := qh (HI1.out.below b2 (Nat.lt_of_lt_of_le hw0 HB01.out.size)); have q0 := HI2.out.cell 0; have q1 := HI2.out.cell 1; have q2 := HI2.out.cell 2; have q3 := HI2.out.cell 3; have q4 := HI2.out.cell 4; simp at q0 q1 q2 q3 q4; clear h2 r2 k2 b2) | (go_at_call 22; refine (HAR.out _).mono ?_; rintro e w3 ⟨rfl, nd, rfl⟩) | (go_at_call 23; refine (HCO.out _).mono ?_; rintro e w3 ⟨rfl, rfl⟩) | (go_at_call 24; refine (HSE.out _).mono ?_; rintro e w3 ⟨rfl, rfl⟩))
 have HE1 : Hid (∀ e ∈ es1, W64 e.f ∧ (keyL ns (!on) e.ls).length ≤ 140737480000000 ∧ e.n + im ≤ 4398046511000) := qh fun e he => by
  have h1 := HX1.out e.key (by rw [← HK1.out]; exact List.mem_map_of_mem he)
  have h2 := (HR1.out.2.2.1 e he).1.1
  exact ⟨h1.1, h1.2.1, by rw [← h2]; exact h1.2.2⟩
 have HE2 : Hid (∀ e ∈ es2, W64 e.f ∧ (keyL ns (!on) e.ls).length ≤ 140737480000000 ∧ e.n + im ≤ 4398046511000) := qh fun e he => by
  have h1 := HX2.out e.key (by rw [← HK2.out]; exact List.mem_map_of_mem he)
  have h2 := (HR2.out.2.2.1 e he).1.1
  exact ⟨h1.1, h1.2.1, by rw [← h2]; exact h1.2.2⟩
 have HLE : Hid (es1.length + es2.length ≤ 4398046511000) := qh (by
  have h1 := congrArg List.length HK1.out
  have h2 := congrArg List.length HK2.out
  have := HLL.out
  rw [List.length_map] at h1 h2; omega)
 have HBW := qh (HB2.out.drewN' nd)
 have gd : Below w2.heap.size w2 (w2.drewN nd) := (Below.refl _ _).drewN' nd
 have HCALL : Hid (Calls Tryz.prog 25 #[.string u, .slice (some ⟨g1, 0, none⟩) es1.length c1, .slice (some ⟨g2, 0, none⟩) es2.length c2, .agg #[.bool given, .bool on, .slice ma mn mc, .int .i64 0, .slice ia im ic]] (w2.drewN nd) (AnsX (setE (setL u.toList on ns ml mr)) (setV (setL u.toList on ns ml mr)) (w2.drewN nd))) := qh (by
  have h := joined_any u ⟨g1, 0, none⟩ (some ⟨g2, 0, none⟩) es1.length c1 es2.length c2 es1 es2 ⟨given, on, ma, mn, mc, 0, ia, im, ic, ns, inc⟩ (w2.drewN nd) ((HR1.out.below HB12.out).below gd) (HR2.out.below gd) (HM.out.below HBW.out) (fun e he => (HE1.out e he).2.1) (fun e he => (HE2.out e he).2.1) (fun w' h => HT.out w' (HBW.out.trans (h.mono HBW.out.size))) HLE.out
  rw [HK1.out, HK2.out] at h
  exact h)
 clear gd
 go_wp2_with (go_at_call 25; refine HCALL.out.mono ?_; rintro e w5 ⟨a5, c5, es5, rfl, hh⟩; have HH := qh hh; clear hh)
 go_ret2
 exact AnsX.from ⟨a5, c5, es5, rfl, HH.out⟩ HBW.out
theorem AnsX.ans {err : Int} {xs : List Ek} {w w' : World} {e : Ending} (h : AnsX err xs w e w') : AnsO err (xs.map clK) w e w' := ⟨xs, rfl, h⟩
theorem vectors_any (u : ByteArray) (a b : Option Addr) (na ca nb cb : Nat) (la lb : List Er) (m : Mt) (yes : Bool) (w : World) (ha : ERow w a na la) (hb : ERow w b nb lb) (hM : MtOk w m) (hfa : FitK m.on m.ns m.im (la.map Er.key)) (hfb : FitK m.on m.ns m.im (lb.map Er.key)) (hT : Tab w.heap.size w) (hn : na + nb ≤ 4398046511000) :
  Calls Tryz.prog 13 #[.string u, .slice a na ca, .slice b nb cb, m.v, .bool yes] w (AnsO (vecsE u.toList m.on m.ns m.inc m.card yes (la.map Er.key) (lb.map Er.key)) (vecsV u.toList m.on m.ns m.inc m.card yes (la.map Er.key) (lb.map Er.key)) w) := by
 unfold vecsE vecsV
 cases hva : vecK (la.map Er.key) with
 | none => exact vecs_bad u a b na ca nb cb la lb m yes w ha hb hM hfa hfb hT hn (.inl hva)
 | some ml =>
  cases hvb : vecK (lb.map Er.key) with
  | none => exact vecs_bad u a b na ca nb cb la lb m yes w ha hb hM hfa hfb hT hn (.inr hvb)
  | some mr =>
   dsimp only
   have two := vecs_two u a b na ca nb cb la lb m yes w ha hb hM hfa hfb hT hn ml mr hva hvb
   have hr : ¬ (m.card < 0 ∨ 2 < m.card) → m.card = 0 ∨ m.card = 1 ∨ m.card = 2 := by omega
   have ho : (m.card < 0 ∨ 2 < m.card) → (decide (m.card < 0) = true ∨ (decide (m.card < 0) = false ∧ decide (2 < m.card) = true)) := fun h => by
    by_cases h1 : m.card < 0
    ·exact .inl (decide_eq_true h1)
    ·exact .inr ⟨decide_eq_false h1, decide_eq_true (by omega)⟩
   by_cases hk : opK u.toList < 12
   ·have hsn := set_no hk
    have hn0 : ¬ (¬ opK u.toList < 12 ∧ setB u.toList = false) := fun h => h.1 hk
    rw [if_neg hn0, if_neg hn0, hsn]
    by_cases h1 : m.card < 0 ∨ 2 < m.card
    ·have h2 : m.card < 0 ∨ 2 < m.card ∨ (false = true ∧ m.card ≠ 0) := by omega
     rw [if_pos h2, if_pos h2]
     by_cases h6 : opK u.toList < 6
     ·exact two 2 true true false (decide_eq_true h6) (decide_eq_true hk) hsn (.inr (.inl ⟨rfl, .inl ⟨rfl, rfl⟩, ho h1⟩))
     ·exact two 2 false true false (decide_eq_false h6) (decide_eq_true hk) hsn (.inr (.inl ⟨rfl, .inr (.inl ⟨rfl, rfl, rfl⟩), ho h1⟩))
    ·have hn1 : ¬ (m.card < 0 ∨ 2 < m.card ∨ (false = true ∧ m.card ≠ 0)) := fun h => by rcases h with h | h | h; exact h1 (.inl h); exact h1 (.inr h); exact absurd h.1 (by simp)
     rw [if_neg hn1, if_neg hn1, if_neg (show ¬ false = true by simp), if_neg (show ¬ false = true by simp)]
     have h := vecs_met u a b na ca nb cb la lb m yes w ha hb hM hfa hfb hT hn ml mr hva hvb hk (hr h1)
     exact h
   ·cases hs : setB u.toList
    ·have hn0 : ¬ opK u.toList < 12 ∧ false = false := ⟨hk, rfl⟩
     rw [if_pos hn0, if_pos hn0]
     exact two 7 false false false (decide_eq_false (by omega)) (decide_eq_false hk) hs (.inl ⟨rfl, rfl, rfl, rfl⟩)
    ·have hn0 : ¬ (¬ opK u.toList < 12 ∧ true = false) := fun h => by cases h.2
     rw [if_neg hn0, if_neg hn0]
     have t := two 2 false false true (decide_eq_false (by omega)) (decide_eq_false hk) hs
     by_cases h1 : m.card < 0 ∨ 2 < m.card
     ·have h2 : m.card < 0 ∨ 2 < m.card ∨ (true = true ∧ m.card ≠ 0) := by omega
      rw [if_pos h2, if_pos h2]
      exact t (.inr (.inl ⟨rfl, .inr (.inr ⟨rfl, rfl, rfl⟩), ho h1⟩))
     ·by_cases h : m.card = 0
      ·have hn1 : ¬ (m.card < 0 ∨ 2 < m.card ∨ (true = true ∧ m.card ≠ 0)) := fun g => by rcases g with g | g | g; exact h1 (.inl g); exact h1 (.inr g); exact g.2 h
       rw [if_neg hn1, if_neg hn1, if_pos rfl, if_pos rfl, setE_cl, setV_cl]
       exact (vecsX_se u a b na ca nb cb la lb m yes w ha hb hM hfa hfb hT hn ml mr hva hvb hk hs h).mono fun _ _ h => h.ans
      ·have hn1 : (m.card < 0 ∨ 2 < m.card ∨ (true = true ∧ m.card ≠ 0)) := .inr (.inr ⟨rfl, h⟩)
       rw [if_pos hn1, if_pos hn1]
       exact t (.inr (.inr ⟨rfl, rfl, rfl, rfl, by omega⟩))
end Go.Proofs.YtmmfjknnbkcniaaGreatDoor
