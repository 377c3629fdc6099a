/- weirref21.Vectors: the contract. (Printed by tools/genrw.py.) PairMixes: the law. How an argument is opened that holds elements. -/
import Derived.Test.YtmmfjknnbkcniaaGreatDoorV40
import Derived.Test.YtmmfjknnbkcniaaGreatDoorV43
import Derived.Test.YtmmfjknnbkcniaaGreatDoorV44
import Derived.Test.YtmmfjknnbkcniaaGreatDoorV45
import Derived.Test.YtmmfjknnbkcniaaGreatDoorV30
import Derived.Test.YtmmfjknnbkcniaaGreatDoorV28
import Derived.SizedLaws
import Derived.ChangeMaps5
set_option maxHeartbeats 64000000
set_option maxRecDepth 100000
namespace Go.Proofs.YtmmfjknnbkcniaaGreatDoor
open Go.Fl Go.Rel Go.RowKit Go.Maps Go.WideMaps Go.Sort Go.Shelf
set_option linter.unusedSimpArgs false
set_option linter.unusedVariables false
theorem AnsRet.nil (err : Int) {w w' : World} (h : Below w.heap.size w w') : AnsRet err [] w (.returned (.tuple #[.slice none 0 0, .int .i64 err])) w' :=
 ⟨none, 0, [], rfl, ⟨Nat.le_refl _, fun _ => rfl⟩, ERow.nothing _, rfl, h⟩
theorem rvecs_bad (u : ByteArray) (a b : Option Addr) (na ca nb cb : Nat) (la lb : List Er) (m : Mt) (yes : Bool) (w : World) (ha : ERow w a na la) (hsa : SlK a na ca) (hb : ERow w b nb lb) (hsb : SlK b nb cb) (hM : MtOk w m) (hv : vecK (la.map Er.key) = none ∨ vecK (lb.map Er.key) = none) :
  Calls Tryz.prog 21 #[.string u, .slice a na ca, .slice b nb cb, m.v, .bool yes] w (AnsRet 5 [] w) := by
 have HKD : ∃ c : Int, ∀ w, Calls Tryz.prog 42 #[.string u] w fun e w' => e = .returned (.int .i64 c) ∧ w = w' := by
  by_cases hk : opK u.toList < 12
  ·exact ⟨_, fun w => kindY_any u w hk⟩
  ·exact ⟨_, fun w => kind3_any u w hk⟩
 obtain ⟨kk, hkk⟩ := HKD
 have HKD := qh hkk
 clear hkk
 have HVA : Hid (∀ W, Below w.heap.size w W → Calls Tryz.prog 41 #[.slice a na ca] W (RVecRet la W)) := qh fun W h => rvector_any a na ca la W (ha.below h) hsa
 have HVB : Hid (∀ W, Below w.heap.size w W → Calls Tryz.prog 41 #[.slice b nb cb] W (RVecRet lb W)) := qh fun W h => rvector_any b nb cb lb W (hb.below h) hsb
 unfold RVecRet at HVA HVB
 have HM := qh hM
 obtain ⟨given, on, ma, mn, mc, card, ia, im, ic, ns, inc⟩ := m
 dsimp only [Mt.v] at *
 obtain ⟨W0, hW0⟩ : ∃ W0, W0 = w.alloc (.cells #[.bool given, .bool on, .slice ma mn mc, .int .i64 card, .slice ia im ic] 25) := ⟨_, rfl⟩
 have HI0 : Hid (Bk.Is W0 w.heap.size #[.bool given, .bool on, .slice ma mn mc, .int .i64 card, .slice ia im ic] 25) := qh (by rw [hW0]; exact Bk.Is.made w _ _)
 have HB0 : Hid (Below w.heap.size w W0) := qh (by rw [hW0]; exact (Below.refl _ _).alloc (Nat.le_refl _) _)
 have HW0 := qh hW0
 clear ha hsa hb hsb hM hW0
 clear HM HI0
 cases hva : vecK (la.map Er.key) with
 | none =>
  rw [hva] at HVA
  dsimp only at HVA
  cases hvb : vecK (lb.map Er.key) with
  | none =>
   rw [hvb] at HVB
   dsimp only at HVB
   clear hv hva hvb
   go_enter Tryz.func21, Tryz.ntmps21
   go_upto_region 1 with fail
   rw [← HW0.out]
   go_wp2_with (first | (go_at_call 41; (with_reducible refine (HVA.out _ HB0.out).mono ?_); rintro e w1 ⟨rfl, b1⟩; have HB1 := qh (HB0.out.trans (b1.mono HB0.out.size)); clear b1) | (go_at_call 41; (with_reducible refine (HVB.out _ HB1.out).mono ?_); rintro e w2 ⟨rfl, b2⟩; have HB2 := qh (HB1.out.trans (b2.mono HB1.out.size)); clear b2) | (go_at_call 42; refine (HKD.out _).mono ?_; rintro e wk ⟨rfl, rfl⟩))
   go_ret2
   exact AnsRet.nil 5 HB2.out
  | some mr =>
   rw [hvb] at HVB
   dsimp only at HVB
   clear hv hva hvb
   go_enter Tryz.func21, Tryz.ntmps21
   go_upto_region 1 with fail
   rw [← HW0.out]
   go_wp2_with (first | (go_at_call 41; (with_reducible refine (HVA.out _ HB0.out).mono ?_); rintro e w1 ⟨rfl, b1⟩; have HB1 := qh (HB0.out.trans (b1.mono HB0.out.size)); clear b1) | (go_at_call 41; (with_reducible refine (HVB.out _ HB1.out).mono ?_); rintro e w2 ⟨a2, c2, lb1, rfl, sl2, r2, ky2, _, b2⟩; have HB2 := qh (HB1.out.trans (b2.mono HB1.out.size)); clear sl2 r2 ky2 b2) | (go_at_call 42; refine (HKD.out _).mono ?_; rintro e wk ⟨rfl, rfl⟩))
   go_ret2
   exact AnsRet.nil 5 HB2.out
 | some ml =>
  rw [hva] at HVA
  dsimp only at HVA
  have hvb : vecK (lb.map Er.key) = none := by
   rcases hv with h | h
   ·rw [hva] at h; cases h
   ·exact h
  rw [hvb] at HVB
  dsimp only at HVB
  clear hv hva hvb
  go_enter Tryz.func21, Tryz.ntmps21
  go_upto_region 1 with fail
  rw [← HW0.out]
  go_wp2_with (first | (go_at_call 41; (with_reducible refine (HVA.out _ HB0.out).mono ?_); rintro e w1 ⟨a1, c1, la1, rfl, sl1, r1, ky1, _, b1⟩; have HB1 := qh (HB0.out.trans (b1.mono HB0.out.size)); clear sl1 r1 ky1 b1) | (go_at_call 41; (with_reducible refine (HVB.out _ HB1.out).mono ?_); rintro e w2 ⟨rfl, b2⟩; have HB2 := qh (HB1.out.trans (b2.mono HB1.out.size)); clear b2) | (go_at_call 42; refine (HKD.out _).mono ?_; rintro e wk ⟨rfl, rfl⟩))
  go_ret2
  exact AnsRet.nil 5 HB2.out
theorem rvecs_no (u : ByteArray) (a b : Option Addr) (na ca nb cb : Nat) (la lb : List Er) (m : Mt) (yes : Bool) (w : World) (ha : ERow w a na la) (hsa : SlK a na ca) (hb : ERow w b nb lb) (hsb : SlK b nb cb) (hM : MtOk w m) (ml mr : List Ek) (hva : vecK (la.map Er.key) = some ml) (hvb : vecK (lb.map Er.key) = some mr) (hk : ¬ opK u.toList < 12) (hs : setB u.toList = false) :
  Calls Tryz.prog 21 #[.string u, .slice a na ca, .slice b nb cb, m.v, .bool yes] w (AnsRet 7 [] w) := by
 have HKD : Hid (∀ w, _) := qh fun w => kind3_any u w hk
 rw [hs, if_neg (by simp)] at HKD
 have HVA : Hid (∀ W, Below w.heap.size w W → Calls Tryz.prog 41 #[.slice a na ca] W (RVecRet la W)) := qh fun W h => rvector_any a na ca la W (ha.below h) hsa
 have HVB : Hid (∀ W, Below w.heap.size w W → Calls Tryz.prog 41 #[.slice b nb cb] W (RVecRet lb W)) := qh fun W h => rvector_any b nb cb lb W (hb.below h) hsb
 unfold RVecRet at HVA HVB
 have HM := qh hM
 obtain ⟨given, on, ma, mn, mc, card, ia, im, ic, ns, inc⟩ := m
 dsimp only [Mt.v] at *
 obtain ⟨W0, hW0⟩ : ∃ W0, W0 = w.alloc (.cells #[.bool given, .bool on, .slice ma mn mc, .int .i64 card, .slice ia im ic] 25) := ⟨_, rfl⟩
 have HI0 : Hid (Bk.Is W0 w.heap.size #[.bool given, .bool on, .slice ma mn mc, .int .i64 card, .slice ia im ic] 25) := qh (by rw [hW0]; exact Bk.Is.made w _ _)
 have HB0 : Hid (Below w.heap.size w W0) := qh (by rw [hW0]; exact (Below.refl _ _).alloc (Nat.le_refl _) _)
 have HW0 := qh hW0
 clear ha hsa hb hsb hM hW0
 rw [hva] at HVA
 rw [hvb] at HVB
 dsimp only at HVA HVB
 clear hva hvb hk hs HM HI0
 go_enter Tryz.func21, Tryz.ntmps21
 go_upto_region 1 with fail
 rw [← HW0.out]
 go_wp2_with (first | (go_at_call 41; (with_reducible refine (HVA.out _ HB0.out).mono ?_); rintro e w1 ⟨a1, c1, la1, rfl, sl1, r1, ky1, _, b1⟩; have HB1 := qh (HB0.out.trans (b1.mono HB0.out.size)); clear sl1 r1 ky1 b1) | (go_at_call 41; (with_reducible refine (HVB.out _ HB1.out).mono ?_); rintro e w2 ⟨a2, c2, lb1, rfl, sl2, r2, ky2, _, b2⟩; have HB2 := qh (HB1.out.trans (b2.mono HB1.out.size)); clear sl2 r2 ky2 b2) | (go_at_call 42; refine (HKD.out _).mono ?_; rintro e wk ⟨rfl, rfl⟩))
 go_ret2
 exact AnsRet.nil 7 HB2.out
theorem rvecs_lt (u : ByteArray) (a b : Option Addr) (na ca nb cb : Nat) (la lb : List Er) (m : Mt) (yes : Bool) (w : World) (ha : ERow w a na la) (hsa : SlK a na ca) (hb : ERow w b nb lb) (hsb : SlK b nb cb) (hM : MtOk w m) (ml mr : List Ek) (hva : vecK (la.map Er.key) = some ml) (hvb : vecK (lb.map Er.key) = some mr) (kk : Int) (hkd : ∀ w, Calls Tryz.prog 42 #[.string u] w fun e w' => e = .returned (.int .i64 kk) ∧ w = w') (k0 : (kk == 0) = false) (hc0 : m.card < 0) :
  Calls Tryz.prog 21 #[.string u, .slice a na ca, .slice b nb cb, m.v, .bool yes] w (AnsRet 2 [] w) := by
 have HKD := qh hkd
 have HVA : Hid (∀ W, Below w.heap.size w W → Calls Tryz.prog 41 #[.slice a na ca] W (RVecRet la W)) := qh fun W h => rvector_any a na ca la W (ha.below h) hsa
 have HVB : Hid (∀ W, Below w.heap.size w W → Calls Tryz.prog 41 #[.slice b nb cb] W (RVecRet lb W)) := qh fun W h => rvector_any b nb cb lb W (hb.below h) hsb
 unfold RVecRet at HVA HVB
 have HM := qh hM
 obtain ⟨given, on, ma, mn, mc, card, ia, im, ic, ns, inc⟩ := m
 dsimp only [Mt.v] at *
 obtain ⟨W0, hW0⟩ : ∃ W0, W0 = w.alloc (.cells #[.bool given, .bool on, .slice ma mn mc, .int .i64 card, .slice ia im ic] 25) := ⟨_, rfl⟩
 have HI0 : Hid (Bk.Is W0 w.heap.size #[.bool given, .bool on, .slice ma mn mc, .int .i64 card, .slice ia im ic] 25) := qh (by rw [hW0]; exact Bk.Is.made w _ _)
 have HB0 : Hid (Below w.heap.size w W0) := qh (by rw [hW0]; exact (Below.refl _ _).alloc (Nat.le_refl _) _)
 have HW0 := qh hW0
 clear ha hsa hb hsb hM hW0
 rw [hva] at HVA
 rw [hvb] at HVB
 dsimp only at HVA HVB
 have c1 : decide (card < 0) = true := decide_eq_true hc0
 clear hva hvb hkd hc0 HM
 go_enter Tryz.func21, Tryz.ntmps21
 go_upto_region 1 with fail
 rw [← HW0.out]
 go_wp2_with (first | (go_at_call 41; (with_reducible refine (HVA.out _ HB0.out).mono ?_); rintro e w1 ⟨a1, c1, la1, rfl, sl1, r1, ky1, _, b1⟩; have HSA := qh sl1; have HA1 := qh r1; have HKA := qh ky1; have HB01 := qh b1; have HB1 := qh (HB0.out.trans (b1.mono HB0.out.size)); have hw0 : w.heap.size < W0.heap.size := HI0.out.lt; have HI1 := qh (HI0.out.below b1 hw0); clear sl1 r1 ky1 b1) | (go_at_call 41; (with_reducible refine (HVB.out _ HB1.out).mono ?_); rintro e w2 ⟨a2, c2, lb1, rfl, sl2, r2, ky2, _, b2⟩; have HSB := qh sl2; have HA := qh (HA1.out.below b2); have HBR := qh r2; have HKB := qh ky2; have HB2 := qh (HB1.out.trans (b2.mono HB1.out.size)); have HI2 := qh (HI1.out.below b2 (Nat.lt_of_lt_of_le hw0 HB01.out.size)); have q0 := HI2.out.cell 0; have q1 := HI2.out.cell 1; have q2 := HI2.out.cell 2; have q3 := HI2.out.cell 3; have q4 := HI2.out.cell 4; simp at q0 q1 q2 q3 q4; clear sl2 r2 ky2 b2) | (go_at_call 42; refine (HKD.out _).mono ?_; rintro e wk ⟨rfl, rfl⟩))
 go_ret2
 exact AnsRet.nil 2 HB2.out
theorem rvecs_gt (u : ByteArray) (a b : Option Addr) (na ca nb cb : Nat) (la lb : List Er) (m : Mt) (yes : Bool) (w : World) (ha : ERow w a na la) (hsa : SlK a na ca) (hb : ERow w b nb lb) (hsb : SlK b nb cb) (hM : MtOk w m) (ml mr : List Ek) (hva : vecK (la.map Er.key) = some ml) (hvb : vecK (lb.map Er.key) = some mr) (kk : Int) (hkd : ∀ w, Calls Tryz.prog 42 #[.string u] w fun e w' => e = .returned (.int .i64 kk) ∧ w = w') (k0 : (kk == 0) = false) (hc0 : 2 < m.card) :
  Calls Tryz.prog 21 #[.string u, .slice a na ca, .slice b nb cb, m.v, .bool yes] w (AnsRet 2 [] w) := by
 have HKD := qh hkd
 have HVA : Hid (∀ W, Below w.heap.size w W → Calls Tryz.prog 41 #[.slice a na ca] W (RVecRet la W)) := qh fun W h => rvector_any a na ca la W (ha.below h) hsa
 have HVB : Hid (∀ W, Below w.heap.size w W → Calls Tryz.prog 41 #[.slice b nb cb] W (RVecRet lb W)) := qh fun W h => rvector_any b nb cb lb W (hb.below h) hsb
 unfold RVecRet at HVA HVB
 have HM := qh hM
 obtain ⟨given, on, ma, mn, mc, card, ia, im, ic, ns, inc⟩ := m
 dsimp only [Mt.v] at *
 obtain ⟨W0, hW0⟩ : ∃ W0, W0 = w.alloc (.cells #[.bool given, .bool on, .slice ma mn mc, .int .i64 card, .slice ia im ic] 25) := ⟨_, rfl⟩
 have HI0 : Hid (Bk.Is W0 w.heap.size #[.bool given, .bool on, .slice ma mn mc, .int .i64 card, .slice ia im ic] 25) := qh (by rw [hW0]; exact Bk.Is.made w _ _)
 have HB0 : Hid (Below w.heap.size w W0) := qh (by rw [hW0]; exact (Below.refl _ _).alloc (Nat.le_refl _) _)
 have HW0 := qh hW0
 clear ha hsa hb hsb hM hW0
 rw [hva] at HVA
 rw [hvb] at HVB
 dsimp only at HVA HVB
 have c1 : decide (card < 0) = false := decide_eq_false (by omega)
 have c2 : decide (2 < card) = true := decide_eq_true hc0
 clear hva hvb hkd hc0 HM
 go_enter Tryz.func21, Tryz.ntmps21
 go_upto_region 1 with fail
 rw [← HW0.out]
 go_wp2_with (first | (go_at_call 41; (with_reducible refine (HVA.out _ HB0.out).mono ?_); rintro e w1 ⟨a1, c1, la1, rfl, sl1, r1, ky1, _, b1⟩; have HSA := qh sl1; have HA1 := qh r1; have HKA := qh ky1; have HB01 := qh b1; have HB1 := qh (HB0.out.trans (b1.mono HB0.out.size)); have hw0 : w.heap.size < W0.heap.size := HI0.out.lt; have HI1 := qh (HI0.out.below b1 hw0); clear sl1 r1 ky1 b1) | (go_at_call 41; (with_reducible refine (HVB.out _ HB1.out).mono ?_); rintro e w2 ⟨a2, c2, lb1, rfl, sl2, r2, ky2, _, b2⟩; have HSB := qh sl2; have HA := qh (HA1.out.below b2); have HBR := qh r2; have HKB := qh ky2; have HB2 := qh (HB1.out.trans (b2.mono HB1.out.size)); have HI2 := qh (HI1.out.below b2 (Nat.lt_of_lt_of_le hw0 HB01.out.size)); have q0 := HI2.out.cell 0; have q1 := HI2.out.cell 1; have q2 := HI2.out.cell 2; have q3 := HI2.out.cell 3; have q4 := HI2.out.cell 4; simp at q0 q1 q2 q3 q4; clear sl2 r2 ky2 b2) | (go_at_call 42; refine (HKD.out _).mono ?_; rintro e wk ⟨rfl, rfl⟩))
 go_ret2
 exact AnsRet.nil 2 HB2.out
theorem rvecs_se1 (u : ByteArray) (a b : Option Addr) (na ca nb cb : Nat) (la lb : List Er) (m : Mt) (yes : Bool) (w : World) (ha : ERow w a na la) (hsa : SlK a na ca) (hb : ERow w b nb lb) (hsb : SlK b nb cb) (hM : MtOk w m) (ml mr : List Ek) (hva : vecK (la.map Er.key) = some ml) (hvb : vecK (lb.map Er.key) = some mr) (hk : ¬ opK u.toList < 12) (hs : setB u.toList = true) (hc0 : m.card = 1) :
  Calls Tryz.prog 21 #[.string u, .slice a na ca, .slice b nb cb, m.v, .bool yes] w (AnsRet 2 [] w) := by
 have HKD : Hid (∀ w, _) := qh fun w => kind3_any u w hk
 rw [hs, if_pos rfl] at HKD
 have HVA : Hid (∀ W, Below w.heap.size w W → Calls Tryz.prog 41 #[.slice a na ca] W (RVecRet la W)) := qh fun W h => rvector_any a na ca la W (ha.below h) hsa
 have HVB : Hid (∀ W, Below w.heap.size w W → Calls Tryz.prog 41 #[.slice b nb cb] W (RVecRet lb W)) := qh fun W h => rvector_any b nb cb lb W (hb.below h) hsb
 unfold RVecRet at HVA HVB
 have HM := qh hM
 obtain ⟨given, on, ma, mn, mc, card, ia, im, ic, ns, inc⟩ := m
 dsimp only [Mt.v] at *
 obtain ⟨W0, hW0⟩ : ∃ W0, W0 = w.alloc (.cells #[.bool given, .bool on, .slice ma mn mc, .int .i64 card, .slice ia im ic] 25) := ⟨_, rfl⟩
 have HI0 : Hid (Bk.Is W0 w.heap.size #[.bool given, .bool on, .slice ma mn mc, .int .i64 card, .slice ia im ic] 25) := qh (by rw [hW0]; exact Bk.Is.made w _ _)
 have HB0 : Hid (Below w.heap.size w W0) := qh (by rw [hW0]; exact (Below.refl _ _).alloc (Nat.le_refl _) _)
 have HW0 := qh hW0
 clear ha hsa hb hsb hM hW0
 subst hc0
 rw [hva] at HVA
 rw [hvb] at HVB
 dsimp only at HVA HVB
 clear hva hvb hk hs HM
 go_enter Tryz.func21, Tryz.ntmps21
 go_upto_region 1 with fail
 rw [← HW0.out]
 go_wp2_with (first | (go_at_call 41; (with_reducible refine (HVA.out _ HB0.out).mono ?_); rintro e w1 ⟨a1, c1, la1, rfl, sl1, r1, ky1, _, b1⟩; have HSA := qh sl1; have HA1 := qh r1; have HKA := qh ky1; have HB01 := qh b1; have HB1 := qh (HB0.out.trans (b1.mono HB0.out.size)); have hw0 : w.heap.size < W0.heap.size := HI0.out.lt; have HI1 := qh (HI0.out.below b1 hw0); clear sl1 r1 ky1 b1) | (go_at_call 41; (with_reducible refine (HVB.out _ HB1.out).mono ?_); rintro e w2 ⟨a2, c2, lb1, rfl, sl2, r2, ky2, _, b2⟩; have HSB := qh sl2; have HA := qh (HA1.out.below b2); have HBR := qh r2; have HKB := qh ky2; have HB2 := qh (HB1.out.trans (b2.mono HB1.out.size)); have HI2 := qh (HI1.out.below b2 (Nat.lt_of_lt_of_le hw0 HB01.out.size)); have q0 := HI2.out.cell 0; have q1 := HI2.out.cell 1; have q2 := HI2.out.cell 2; have q3 := HI2.out.cell 3; have q4 := HI2.out.cell 4; simp at q0 q1 q2 q3 q4; clear sl2 r2 ky2 b2) | (go_at_call 42; refine (HKD.out _).mono ?_; rintro e wk ⟨rfl, rfl⟩))
 go_ret2
 exact AnsRet.nil 2 HB2.out
theorem rvecs_se2 (u : ByteArray) (a b : Option Addr) (na ca nb cb : Nat) (la lb : List Er) (m : Mt) (yes : Bool) (w : World) (ha : ERow w a na la) (hsa : SlK a na ca) (hb : ERow w b nb lb) (hsb : SlK b nb cb) (hM : MtOk w m) (ml mr : List Ek) (hva : vecK (la.map Er.key) = some ml) (hvb : vecK (lb.map Er.key) = some mr) (hk : ¬ opK u.toList < 12) (hs : setB u.toList = true) (hc0 : m.card = 2) :
  Calls Tryz.prog 21 #[.string u, .slice a na ca, .slice b nb cb, m.v, .bool yes] w (AnsRet 2 [] w) := by
 have HKD : Hid (∀ w, _) := qh fun w => kind3_any u w hk
 rw [hs, if_pos rfl] at HKD
 have HVA : Hid (∀ W, Below w.heap.size w W → Calls Tryz.prog 41 #[.slice a na ca] W (RVecRet la W)) := qh fun W h => rvector_any a na ca la W (ha.below h) hsa
 have HVB : Hid (∀ W, Below w.heap.size w W → Calls Tryz.prog 41 #[.slice b nb cb] W (RVecRet lb W)) := qh fun W h => rvector_any b nb cb lb W (hb.below h) hsb
 unfold RVecRet at HVA HVB
 have HM := qh hM
 obtain ⟨given, on, ma, mn, mc, card, ia, im, ic, ns, inc⟩ := m
 dsimp only [Mt.v] at *
 obtain ⟨W0, hW0⟩ : ∃ W0, W0 = w.alloc (.cells #[.bool given, .bool on, .slice ma mn mc, .int .i64 card, .slice ia im ic] 25) := ⟨_, rfl⟩
 have HI0 : Hid (Bk.Is W0 w.heap.size #[.bool given, .bool on, .slice ma mn mc, .int .i64 card, .slice ia im ic] 25) := qh (by rw [hW0]; exact Bk.Is.made w _ _)
 have HB0 : Hid (Below w.heap.size w W0) := qh (by rw [hW0]; exact (Below.refl _ _).alloc (Nat.le_refl _) _)
 have HW0 := qh hW0
 clear ha hsa hb hsb hM hW0
 subst hc0
 rw [hva] at HVA
 rw [hvb] at HVB
 dsimp only at HVA HVB
 clear hva hvb hk hs HM
 go_enter Tryz.func21, Tryz.ntmps21
 go_upto_region 1 with fail
 rw [← HW0.out]
 go_wp2_with (first | (go_at_call 41; (with_reducible refine (HVA.out _ HB0.out).mono ?_); rintro e w1 ⟨a1, c1, la1, rfl, sl1, r1, ky1, _, b1⟩; have HSA := qh sl1; have HA1 := qh r1; have HKA := qh ky1; have HB01 := qh b1; have HB1 := qh (HB0.out.trans (b1.mono HB0.out.size)); have hw0 : w.heap.size < W0.heap.size := HI0.out.lt; have HI1 := qh (HI0.out.below b1 hw0); clear sl1 r1 ky1 b1) | (go_at_call 41; (with_reducible refine (HVB.out _ HB1.out).mono ?_); rintro e w2 ⟨a2, c2, lb1, rfl, sl2, r2, ky2, _, b2⟩; have HSB := qh sl2; have HA := qh (HA1.out.below b2); have HBR := qh r2; have HKB := qh ky2; have HB2 := qh (HB1.out.trans (b2.mono HB1.out.size)); have HI2 := qh (HI1.out.below b2 (Nat.lt_of_lt_of_le hw0 HB01.out.size)); have q0 := HI2.out.cell 0; have q1 := HI2.out.cell 1; have q2 := HI2.out.cell 2; have q3 := HI2.out.cell 3; have q4 := HI2.out.cell 4; simp at q0 q1 q2 q3 q4; clear sl2 r2 ky2 b2) | (go_at_call 42; refine (HKD.out _).mono ?_; rintro e wk ⟨rfl, rfl⟩))
 go_ret2
 exact AnsRet.nil 2 HB2.out
theorem rvecs_se0 (u : ByteArray) (a b : Option Addr) (na ca nb cb : Nat) (la lb : List Er) (m : Mt) (yes : Bool) (w : World) (ha : ERow w a na la) (hsa : SlK a na ca) (hb : ERow w b nb lb) (hsb : SlK b nb cb) (hM : MtOk w m) (ml mr : List Ek) (hva : vecK (la.map Er.key) = some ml) (hvb : vecK (lb.map Er.key) = some mr) (hk : ¬ opK u.toList < 12) (hs : setB u.toList = true) (hc0 : m.card = 0) (hn : na + nb ≤ 4398046511000) :
  Calls Tryz.prog 21 #[.string u, .slice a na ca, .slice b nb cb, m.v, .bool yes] w (AnsRet (setE ((setL u.toList m.on m.ns ml mr).map clK)) (setV ((setL u.toList m.on m.ns ml mr).map clK)) w) := by
 have HKD : Hid (∀ w, _) := qh fun w => kind3_any u w hk
 rw [hs, if_pos rfl] at HKD
 have HLL : Hid (ml.length + mr.length ≤ 4398046511000) := qh (by rw [vecK_len hva, vecK_len hvb, List.length_map, List.length_map, ha.1, hb.1]; exact hn)
 have HVA : Hid (∀ W, Below w.heap.size w W → Calls Tryz.prog 41 #[.slice a na ca] W (RVecRet la W)) := qh fun W h => rvector_any a na ca la W (ha.below h) hsa
 have HVB : Hid (∀ W, Below w.heap.size w W → Calls Tryz.prog 41 #[.slice b nb cb] W (RVecRet lb W)) := qh fun W h => rvector_any b nb cb lb W (hb.below h) hsb
 unfold RVecRet at HVA HVB
 have HM := qh hM
 obtain ⟨given, on, ma, mn, mc, card, ia, im, ic, ns, inc⟩ := m
 dsimp only [Mt.v] at *
 obtain ⟨W0, hW0⟩ : ∃ W0, W0 = w.alloc (.cells #[.bool given, .bool on, .slice ma mn mc, .int .i64 card, .slice ia im ic] 25) := ⟨_, rfl⟩
 have HI0 : Hid (Bk.Is W0 w.heap.size #[.bool given, .bool on, .slice ma mn mc, .int .i64 card, .slice ia im ic] 25) := qh (by rw [hW0]; exact Bk.Is.made w _ _)
 have HB0 : Hid (Below w.heap.size w W0) := qh (by rw [hW0]; exact (Below.refl _ _).alloc (Nat.le_refl _) _)
 have HW0 := qh hW0
 clear ha hsa hb hsb hM hW0
 subst hc0
 rw [hva] at HVA
 rw [hvb] at HVB
 dsimp only at HVA HVB
 clear hva hvb hk hs hn
 go_enter Tryz.func21, Tryz.ntmps21
 go_upto_region 1 with fail
 rw [← HW0.out]
 go_upto_region 11 with (first | (go_at_call 41; (with_reducible refine (HVA.out _ HB0.out).mono ?_); rintro e w1 ⟨a1, c1, la1, rfl, sl1, r1, ky1, _, b1⟩; have HSA := qh sl1; have HA1 := qh r1; have HKA := qh ky1; have HB01 := qh b1; have HB1 := qh (HB0.out.trans (b1.mono HB0.out.size)); have hw0 : w.heap.size < W0.heap.size := HI0.out.lt; have HI1 := qh (HI0.out.below b1 hw0); clear sl1 r1 ky1 b1) | (go_at_call 41; (with_reducible refine (HVB.out _ HB1.out).mono ?_); rintro e w2 ⟨a2, c2, lb1, rfl, sl2, r2, ky2, _, b2⟩; have HSB := qh sl2; have HA := qh (HA1.out.below b2); have HBR := qh r2; have HKB := qh ky2; have HB2 := qh (HB1.out.trans (b2.mono HB1.out.size)); have HI2 := qh (HI1.out.below b2 (Nat.lt_of_lt_of_le hw0 HB01.out.size)); have q0 := HI2.out.cell 0; have q1 := HI2.out.cell 1; have q2 := HI2.out.cell 2; have q3 := HI2.out.cell 3; have q4 := HI2.out.cell 4; simp at q0 q1 q2 q3 q4; clear sl2 r2 ky2 b2) | (go_at_call 42; refine (HKD.out _).mono ?_; rintro e wk ⟨rfl, rfl⟩))
 have hka := HKA.out
 have hkb := HKB.out
 clear HKA HKB
 subst hka hkb
 have HSE : Hid (Calls Tryz.prog 43 #[.string u, .slice a1 la1.length c1, .slice a2 lb1.length c2, .agg #[.bool given, .bool on, .slice ma mn mc, .int .i64 0, .slice ia im ic]] w2 (AnsRet (setE ((setL u.toList on ns (la1.map Er.key) (lb1.map Er.key)).map clK)) (setV ((setL u.toList on ns (la1.map Er.key) (lb1.map Er.key)).map clK)) w2)) := qh
  (sets_any u a1 a2 la1.length c1 lb1.length c2 la1 lb1 ⟨given, on, ma, mn, mc, 0, ia, im, ic, ns, inc⟩ w2 HA.out HBR.out (HM.out.below HB2.out) (by have := HLL.out; rw [List.length_map, List.length_map] at this; exact this))
 go_wp2_with (go_at_call 43; refine HSE.out.mono ?_; rintro e w5 ⟨a5, c5, es5, rfl, h1, h2, h3, h4⟩; have HH := qh (And.intro h1 (And.intro h2 (And.intro h3 h4))); clear h1 h2 h3 h4)
 go_ret2
 obtain ⟨h1, h2, h3, h4⟩ := HH.out
 exact ⟨a5, c5, es5, rfl, h1, h2, h3, HB2.out.trans (h4.mono HB2.out.size)⟩
theorem rvectors_any (u : ByteArray) (a b : Option Addr) (na ca nb cb : Nat) (la lb : List Er) (m : Mt) (yes : Bool) (w : World) (ha : ERow w a na la) (hsa : SlK a na ca) (hb : ERow w b nb lb) (hsb : SlK b nb cb) (hM : MtOk w m) (hfa : FitK m.on m.ns m.im (la.map Er.key)) (hfb : FitK m.on m.ns m.im (lb.map Er.key)) (hn : na + nb ≤ 4398046511000) :
  Calls Tryz.prog 21 #[.string u, .slice a na ca, .slice b nb cb, m.v, .bool yes] w (AnsRet (vecsE u.toList m.on m.ns m.inc m.card yes (la.map Er.key) (lb.map Er.key)) (vecsV u.toList m.on m.ns m.inc m.card yes (la.map Er.key) (lb.map Er.key)) w) := by
 unfold vecsE vecsV
 cases hva : vecK (la.map Er.key) with
 | none => exact rvecs_bad u a b na ca nb cb la lb m yes w ha hsa hb hsb hM (.inl hva)
 | some ml =>
  cases hvb : vecK (lb.map Er.key) with
  | none => exact rvecs_bad u a b na ca nb cb la lb m yes w ha hsa hb hsb hM (.inr hvb)
  | some mr =>
   dsimp only
   have hf1 := hfa.of hva
   have hf2 := hfb.of hvb
   by_cases hk : opK u.toList < 12
   ·have hsn := set_no hk
    have hn0 : ¬ (¬ opK u.toList < 12 ∧ setB u.toList = false) := fun h => h.1 hk
    have k0 : (kindS (opK u.toList) == 0) = false := by unfold kindS; split <;> rfl
    rw [if_neg hn0, if_neg hn0, hsn]
    by_cases h1 : m.card < 0
    ·rw [if_pos (.inl h1), if_pos (.inl h1)]
     exact rvecs_lt u a b na ca nb cb la lb m yes w ha hsa hb hsb hM ml mr hva hvb _ (fun w => kindY_any u w hk) k0 h1
    ·by_cases h2 : 2 < m.card
     ·rw [if_pos (.inr (.inl h2)), if_pos (.inr (.inl h2))]
      exact rvecs_gt u a b na ca nb cb la lb m yes w ha hsa hb hsb hM ml mr hva hvb _ (fun w => kindY_any u w hk) k0 h2
     ·have hn1 : ¬ (m.card < 0 ∨ 2 < m.card ∨ (false = true ∧ m.card ≠ 0)) := fun h => by rcases h with h | h | h; exact h1 h; exact h2 h; exact absurd h.1 (by simp)
      rw [if_neg hn1, if_neg hn1, if_neg (show ¬ false = true by simp), if_neg (show ¬ false = true by simp)]
      rcases (by omega : m.card = 0 ∨ m.card = 1 ∨ m.card = 2) with h | h | h
      ·rw [h]; exact rmet_c0 u a b na ca nb cb la lb ml mr m yes 0 w ha hsa hb hsb hM hva hvb (fun k hk => (hf1 k hk).1) (fun k hk => (hf2 k hk).1) (fun k hk => (hf1 k hk).2.2) hk h
      ·rw [h]; exact rmet_c1 u a b na ca nb cb la lb ml mr m yes 0 w ha hsa hb hsb hM hva hvb (fun k hk => (hf1 k hk).1) (fun k hk => (hf2 k hk).1) (fun k hk => (hf1 k hk).2.2) hk h
      ·rw [h]; exact rmet_c2 u a b na ca nb cb la lb ml mr m yes 0 w ha hsa hb hsb hM hva hvb (fun k hk => (hf1 k hk).1) (fun k hk => (hf2 k hk).1) (fun k hk => (hf2 k hk).2.2) hk h
   ·cases hs : setB u.toList
    ·have hn0 : ¬ opK u.toList < 12 ∧ false = false := ⟨hk, rfl⟩
     rw [if_pos hn0, if_pos hn0]
     exact rvecs_no u a b na ca nb cb la lb m yes w ha hsa hb hsb hM ml mr hva hvb hk hs
    ·have hn0 : ¬ (¬ opK u.toList < 12 ∧ true = false) := fun h => by cases h.2
     have hkd : ∀ w, Calls Tryz.prog 42 #[.string u] w fun e w' => e = .returned (.int .i64 3) ∧ w = w' := fun w => by
      have := kind3_any u w hk
      rw [hs, if_pos rfl] at this; exact this
     rw [if_neg hn0, if_neg hn0]
     by_cases h1 : m.card < 0
     ·rw [if_pos (.inl h1), if_pos (.inl h1)]
      exact rvecs_lt u a b na ca nb cb la lb m yes w ha hsa hb hsb hM ml mr hva hvb 3 hkd rfl h1
     ·by_cases h2 : 2 < m.card
      ·rw [if_pos (.inr (.inl h2)), if_pos (.inr (.inl h2))]
       exact rvecs_gt u a b na ca nb cb la lb m yes w ha hsa hb hsb hM ml mr hva hvb 3 hkd rfl h2
      ·rcases (by omega : m.card = 0 ∨ m.card = 1 ∨ m.card = 2) with h | h | h
       ·have hn1 : ¬ (m.card < 0 ∨ 2 < m.card ∨ (true = true ∧ m.card ≠ 0)) := fun g => by rcases g with g | g | g; exact h1 g; exact h2 g; exact g.2 h
        rw [if_neg hn1, if_neg hn1, if_pos rfl, if_pos rfl]
        exact rvecs_se0 u a b na ca nb cb la lb m yes w ha hsa hb hsb hM ml mr hva hvb hk hs h hn
       ·have hn1 : (m.card < 0 ∨ 2 < m.card ∨ (true = true ∧ m.card ≠ 0)) := .inr (.inr ⟨rfl, by omega⟩)
        rw [if_pos hn1, if_pos hn1]
        exact rvecs_se1 u a b na ca nb cb la lb m yes w ha hsa hb hsb hM ml mr hva hvb hk hs h
       ·have hn1 : (m.card < 0 ∨ 2 < m.card ∨ (true = true ∧ m.card ≠ 0)) := .inr (.inr ⟨rfl, by omega⟩)
        rw [if_pos hn1, if_pos hn1]
        exact rvecs_se2 u a b na ca nb cb la lb m yes w ha hsa hb hsb hM ml mr hva hvb hk hs h
end Go.Proofs.YtmmfjknnbkcniaaGreatDoor
namespace Go.Proofs.YtmmfjknnbkcniaaGreatDoor
open Go.Fl Go.Rel Go.RowKit Go.Sort
set_option linter.unusedSimpArgs false
set_option linter.unusedVariables false
def AnsN (err : Int) (n : Nat) (ks : List Ek) (w : World) (e : Ending) (w' : World) : Prop :=
 ∃ a cap es, e = .returned (.tuple #[.slice a n cap, .int .i64 err]) ∧ ERow w' a n es ∧ es.map (fun x => clK x.key) = ks ∧ Below w.heap.size w w'
theorem AnsRet.n {err : Int} {ks : List Ek} {w w' : World} {e : Ending} (h : AnsRet err ks w e w') : AnsN err ks.length ks w e w' := by
 obtain ⟨a, cap, es, h1, h2, h3, h4, h5⟩ := h
 have hl : es.length = ks.length := by rw [← h4, List.length_map]
 rw [hl] at h1 h3
 exact ⟨a, cap, es, h1, h3, h4, h5⟩
theorem small_up : SmallT txtUp ∧ SmallT txt1 := ⟨by unfold SmallT; decide, by unfold SmallT; decide⟩
theorem elem_a (v : Nat) (w : World) : Calls Tryz.prog 12 #[.string ⟨#[]⟩, .string ⟨#[49]⟩, .float .f64 v] w (fun e w' => ∃ a c, e = .returned (.agg #[.slice a 1 c, .float .f64 v]) ∧ ErOwn w.heap.size w' ⟨a, 1, c, v, [⟨nmA, txt1⟩]⟩ ∧ Below w.heap.size w w') :=
 elem_none txt1 v w small_up.2
def Box5 (g : Nat) (u : ByteArray) (v : Value) (x : Nat) (left yes : Bool) (W : World) : Prop :=
 W.cell? ⟨g, 0, none⟩ = some (.string u) ∧ W.cell? ⟨g, 1, none⟩ = some v ∧ W.cell? ⟨g, 2, none⟩ = some (.float .f64 x) ∧ W.cell? ⟨g, 3, none⟩ = some (.bool left) ∧ W.cell? ⟨g, 4, none⟩ = some (.bool yes)
theorem Box5.below {g : Nat} {u : ByteArray} {v : Value} {x : Nat} {left yes : Bool} {W W' : World} (h : Box5 g u v x left yes W) (hb : Below W.heap.size W W') : Box5 g u v x left yes W' :=
 ⟨cell_stayL h.1 hb, cell_stayL h.2.1 hb, cell_stayL h.2.2.1 hb, cell_stayL h.2.2.2.1 hb, cell_stayL h.2.2.2.2 hb⟩
end Go.Proofs.YtmmfjknnbkcniaaGreatDoor
namespace Go.Proofs.YtmmfjknnbkcniaaGreatDoor
open Go.Fl Go.Rel Go.RowKit Go.ChangeShapes Go.WideShapes Go.Deep
set_option linter.unusedVariables false
set_option linter.unusedSimpArgs false
section
variable {H : Type} {enc : TypeId × Value → H} {P : Program} {w : World} {base : Nat} {spare : Nat → Bool} {held : Bool}
theorem cellm_string {t : TypeId} {fuel : Nat} {v : Value} {x : DataW H × List MemPlace} (ht : P.underlying t = some .string) (h : DataW.trod enc P w base spare held fuel t [v] = some x) :
  ∃ s : ByteArray, v = .string s ∧ x.1 = .lit (.string s.data.toList) := by
 obtain ⟨s', h1, h2, _⟩ := DataW.trod_string ht h
 simp at h1
 exact ⟨s', h1, by rw [h2]⟩
theorem w64m {x : Nat} (h : x < 18446744073709551616) : W64 x := by
 unfold W64
 cases hx : isN x
 ·rw [cn_of_notN hx]; exact h
 ·rw [cn_of_N hx]; decide
theorem cellm_float {t : TypeId} {fuel : Nat} {v : Value} {x : DataW H × List MemPlace} (ht : P.underlying t = some (.float .f64)) (h : DataW.trod enc P w base spare held fuel t [v] = some x) :
  ∃ n, v = .float .f64 n ∧ n < 18446744073709551616 := by
 cases fuel with
 | zero => simp [DataW.trod] at h
 | succ m =>
  simp only [DataW.trod, ht] at h
  cases v with
  | float k' n =>
   cases k' with
   | f64 =>
    refine ⟨n, rfl, ?_⟩
    by_cases hw : (Lit.float .f64 n).wf = true
    ·have : n < 2 ^ 64 := by simpa [Lit.wf] using hw
     omega
    ·simp [hw] at h
   | f32 => simp at h
  | _ => simp at h
theorem cellm_bool {t : TypeId} {fuel : Nat} {v : Value} {x : DataW H × List MemPlace} (ht : P.underlying t = some .bool) (h : DataW.trod enc P w base spare held fuel t [v] = some x) :
  ∃ n, v = .bool n := by
 cases fuel with
 | zero => simp [DataW.trod] at h
 | succ m =>
  simp only [DataW.trod, ht] at h
  cases v with
  | bool n => exact ⟨n, rfl⟩
  | _ => simp at h
end
theorem exists_lbs (n : Nat) (p : Nat → Lb → Prop) (h : ∀ i, i < n → ∃ x, p i x) : ∃ ss : List Lb, ss.length = n ∧ ∀ i, i < n → p i (lbAt ss i) := by
 induction n with
 | zero => exact ⟨[], rfl, fun i hi => by omega⟩
 | succ n ih =>
  obtain ⟨xs, hl, hp⟩ := ih fun i hi => h i (by omega)
  obtain ⟨x, hx⟩ := h n (by omega)
  refine ⟨xs ++ [x], by simp [hl], fun i hi => ?_⟩
  by_cases hin : i < n
  ·have : lbAt (xs ++ [x]) i = lbAt xs i := by simp [lbAt, List.getD, List.getElem?_append_left (show i < xs.length by omega)]
   rw [this]; exact hp i hin
  ·obtain rfl : i = n := by omega
   have : lbAt (xs ++ [x]) i = x := by subst hl; simp [lbAt, List.getD]
   rw [this]; exact hx
theorem exists_ers (n : Nat) (p : Nat → Er → Prop) (h : ∀ i, i < n → ∃ x, p i x) : ∃ ss : List Er, ss.length = n ∧ ∀ i, i < n → p i (erAt ss i) := by
 induction n with
 | zero => exact ⟨[], rfl, fun i hi => by omega⟩
 | succ n ih =>
  obtain ⟨xs, hl, hp⟩ := ih fun i hi => h i (by omega)
  obtain ⟨x, hx⟩ := h n (by omega)
  refine ⟨xs ++ [x], by simp [hl], fun i hi => ?_⟩
  by_cases hin : i < n
  ·have : erAt (xs ++ [x]) i = erAt xs i := by simp [erAt, List.getD, List.getElem?_append_left (show i < xs.length by omega)]
   rw [this]; exact hp i hin
  ·obtain rfl : i = n := by omega
   have : erAt (xs ++ [x]) i = x := by subst hl; simp [erAt, List.getD]
   rw [this]; exact hx
section
variable {H : Type} {enc : TypeId × Value → H} {w : World} {spare : Nat → Bool} {held : Bool}
end
end Go.Proofs.YtmmfjknnbkcniaaGreatDoor
