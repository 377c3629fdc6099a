/- PairMixes: the law. -/
import Derived.Test.YtmmfjknnbkcniaaGreatLawAll
namespace Go.Proofs.YtmmfjknnbkcniaaGreat
open Go.Fl Go.Rel Go.RowKit Go.Sort
set_option linter.unusedSimpArgs false
set_option linter.unusedVariables false

/-- An answer, its length that of its classes. -/
def AnsN (err : Int) (n : Nat) (ks : List Ek) (w : World) (e : Ending) (w' : World) : Prop :=
  ∃ a cap es, e = .returned (.tuple #[.slice a n cap, .int .i64 err]) ∧ ERow w' a n es ∧ es.map (fun x => clK x.key) = ks ∧ Below w.heap.size w w'
theorem AnsRet.n {err : Int} {ks : List Ek} {w w' : World} {e : Ending} (h : AnsRet err ks w e w') : AnsN err ks.length ks w e w' := by
  obtain ⟨a, cap, es, h1, h2, h3, h4, h5⟩ := h
  have hl : es.length = ks.length := by rw [← h4, List.length_map]
  rw [hl] at h1 h3
  exact ⟨a, cap, es, h1, h3, h4, h5⟩
theorem w64_small {x : Nat} (h : cn x < 18446744073709551616) : W64 x := h

def upL : List Lb := [⟨MN, txtUp⟩, ⟨nmA, txt1⟩]
theorem first_mix {W : World} {g c : Nat} {a : Option Addr} (hr : ERow W (some ⟨g, 0, none⟩) 1 [⟨a, 2, c, 4611686018427387904, upL⟩]) :
    Calls Tryz.prog 4 #[.string ⟨#[45]⟩, .slice (some ⟨g, 0, none⟩) 1 1, .float .f64 4621819117588971520, .bool true, .bool false] W (AnsN 0 1 [([⟨nmA, txt1⟩], 4620693217682128896)] W) := by
  refine (mixed_any ⟨#[45]⟩ (some ⟨g, 0, none⟩) 1 1 4621819117588971520 _ true false W hr (by unfold W64; decide +kernel) (fun e he => ?_)).mono fun e w' h => ?_
  · obtain rfl : e = _ := by simpa using he
    show W64 4611686018427387904
    unfold W64; decide +kernel
  · have h1 := h
    rw [show opK (⟨#[45]⟩ : ByteArray).toList = 1 by rw [ByteArray.toList_eq]; exact opK_1] at h1
    have e1 : mixE 1 4621819117588971520 true false ([(⟨a, 2, c, 4611686018427387904, upL⟩ : Er)].map Er.key) = 0 := mix_up.1
    have e2 : mixV 1 4621819117588971520 true false ([(⟨a, 2, c, 4611686018427387904, upL⟩ : Er)].map Er.key) = [([⟨nmA, txt1⟩], 4620693217682128896)] := mix_up.2
    rw [e1, e2] at h1
    exact h1.n
theorem first_neg {W : World} {g c : Nat} {a : Option Addr} (hr : ERow W (some ⟨g, 0, none⟩) 1 [⟨a, 2, c, 0, upL⟩]) :
    Calls Tryz.prog 6 #[.slice (some ⟨g, 0, none⟩) 1 1] W (AnsN 0 1 [([⟨nmA, txt1⟩], 9223372036854775808)] W) := by
  refine (negate_any (some ⟨g, 0, none⟩) 1 1 _ W hr).mono fun e w' h => ?_
  have h1 := h
  have e1 : negE ([(⟨a, 2, c, 0, upL⟩ : Er)].map Er.key) = 0 := neg_up.1
  have e2 : negV ([(⟨a, 2, c, 0, upL⟩ : Er)].map Er.key) = [([⟨nmA, txt1⟩], 9223372036854775808)] := neg_up.2
  rw [e1, e2] at h1
  exact h1.n
theorem small_up : SmallT txtUp ∧ SmallT txt1 := ⟨by unfold SmallT; decide, by unfold SmallT; decide⟩
theorem elem_up (v : Nat) (w : World) : Calls Tryz.prog 5 #[.string ⟨#[117, 112]⟩, .string ⟨#[49]⟩, .float .f64 v] w (fun e w' => ∃ a c, e = .returned (.agg #[.slice a 2 c, .float .f64 v]) ∧ ErOwn w.heap.size w' ⟨a, 2, c, v, upL⟩ ∧ Below w.heap.size w w') :=
  elem_some txtUp txt1 v w small_up.1 small_up.2 (by unfold txtUp; rw [ByteArray.toList_eq]; rfl)
theorem elem_a (v : Nat) (w : World) : Calls Tryz.prog 5 #[.string ⟨#[]⟩, .string ⟨#[49]⟩, .float .f64 v] w (fun e w' => ∃ a c, e = .returned (.agg #[.slice a 1 c, .float .f64 v]) ∧ ErOwn w.heap.size w' ⟨a, 1, c, v, [⟨nmA, txt1⟩]⟩ ∧ Below w.heap.size w w') :=
  elem_none txt1 v w small_up.2

/-- The law's argument as it lies. -/
def Box5 (g : Nat) (u : ByteArray) (v : Value) (x : Nat) (left yes : Bool) (W : World) : Prop :=
  W.cell? ⟨g, 0, none⟩ = some (.string u) ∧ W.cell? ⟨g, 1, none⟩ = some v ∧ W.cell? ⟨g, 2, none⟩ = some (.float .f64 x) ∧ W.cell? ⟨g, 3, none⟩ = some (.bool left) ∧ W.cell? ⟨g, 4, none⟩ = some (.bool yes)
theorem Box5.below {g : Nat} {u : ByteArray} {v : Value} {x : Nat} {left yes : Bool} {W W' : World} (h : Box5 g u v x left yes W) (hb : Below W.heap.size W W') : Box5 g u v x left yes W' :=
  ⟨cell_stayL h.1 hb, cell_stayL h.2.1 hb, cell_stayL h.2.2.1 hb, cell_stayL h.2.2.2.1 hb, cell_stayL h.2.2.2.2 hb⟩

set_option maxHeartbeats 8000000 in
set_option maxRecDepth 100000 in
theorem law_mixes (u : ByteArray) (a : Option Addr) (n cap x : Nat) (es : List Er) (left yes : Bool) (w : World) (hr : ERow w a n es) (hs : SlK a n cap) (hx : W64 x) (hf : ∀ e ∈ es, W64 e.f) :
    Calls Tryz.prog 3 #[.agg #[.string u, .slice a n cap, .float .f64 x, .bool left, .bool yes]] w fun e w' => e = .returned (.bool true) ∧ Below w.heap.size w w' := by
  have HR := Lib.hid hr
  obtain ⟨W0, hW0⟩ : ∃ W0, W0 = w.alloc (.cells #[.string u, .slice a n cap, .float .f64 x, .bool left, .bool yes] 25) := ⟨_, rfl⟩
  have HB0 : Hid (Below w.heap.size w W0) := Lib.hid (by rw [hW0]; exact (Below.refl _ _).alloc (Nat.le_refl _) _)
  have HX0 : Hid (Box5 w.heap.size u (.slice a n cap) x left yes W0) := Lib.hid (by
    rw [hW0]
    exact ⟨by rw [World.cell?_alloc_at _ _ _ _ (by rfl)]; rfl, by rw [World.cell?_alloc_at _ _ _ _ (by rfl)]; rfl, by rw [World.cell?_alloc_at _ _ _ _ (by rfl)]; rfl, by rw [World.cell?_alloc_at _ _ _ _ (by rfl)]; rfl, by rw [World.cell?_alloc_at _ _ _ _ (by rfl)]; rfl⟩)
  have HFO : Hid (∀ O : List Er, O.map Er.key = es.map Er.key → ∀ e ∈ O, W64 e.f) := Lib.hid fun O ho e he => by
    have hm : e.key ∈ es.map Er.key := by rw [← ho]; exact List.mem_map_of_mem he
    obtain ⟨y, hy, hk⟩ := List.mem_map.1 hm
    have : y.f = e.f := congrArg Prod.snd hk
    rw [← this]; exact hf y hy
  obtain ⟨E, hE⟩ : ∃ E, E = mixE (opK u.toList) x left yes (es.map Er.key) := ⟨_, rfl⟩
  obtain ⟨M, hM⟩ : ∃ M, M = mixV (opK u.toList) x left yes (es.map Er.key) := ⟨_, rfl⟩
  obtain ⟨E2, hE2⟩ : ∃ E2, E2 = negE (es.map Er.key) := ⟨_, rfl⟩
  obtain ⟨M2, hM2⟩ : ∃ M2, M2 = negV (es.map Er.key) := ⟨_, rfl⟩
  obtain ⟨m, hm⟩ : ∃ m, m = M.length := ⟨_, rfl⟩
  obtain ⟨m2, hm2⟩ : ∃ m2, m2 = M2.length := ⟨_, rfl⟩
  have HRM : Hid (∀ W, Below w.heap.size w W → Calls Tryz.prog 9 #[.string u, .slice a n cap, .float .f64 x, .bool left, .bool yes] W (AnsN E m M W)) := Lib.hid fun W hW =>
    (rmixed_any u a n cap x es left yes W (hr.below hW) hs hx hf).mono fun e w' h => by rw [hm, hE, hM]; exact h.n
  have HCP : Hid (∀ W, Below w.heap.size w W → Calls Tryz.prog 10 #[.slice a n cap] W (CopyOf es W)) := Lib.hid fun W hW => copied21_any a n cap es W (hr.below hW)
  have HPM : Hid (∀ W a' c' O, ERow W a' O.length O → O.map Er.key = es.map Er.key → Calls Tryz.prog 4 #[.string u, .slice a' O.length c', .float .f64 x, .bool left, .bool yes] W (AnsN E m M W)) := Lib.hid fun W a' c' O ho hk =>
    (mixed_any u a' O.length c' x O left yes W ho hx (HFO.out O hk)).mono fun e w' h => by rw [hm, hE, hM, ← hk]; exact h.n
  have HRN : Hid (∀ W, Below w.heap.size w W → Calls Tryz.prog 11 #[.slice a n cap] W (AnsN E2 m2 M2 W)) := Lib.hid fun W hW =>
    (rnegate_any a n cap es W (hr.below hW) hs).mono fun e w' h => by rw [hm2, hE2, hM2]; exact h.n
  have HPN : Hid (∀ W a' c' O, ERow W a' O.length O → O.map Er.key = es.map Er.key → Calls Tryz.prog 6 #[.slice a' O.length c'] W (AnsN E2 m2 M2 W)) := Lib.hid fun W a' c' O ho hk =>
    (negate_any a' O.length c' O W ho).mono fun e w' h => by rw [hm2, hE2, hM2, ← hk]; exact h.n
  clear hr hs hx hf hE hM hE2 hM2 hm hm2 HFO HR
  go_enter Tryz.func3, Tryz.ntmps3
  go_wp2_with fail
  rw [← hW0]
  clear hW0
  refine (elem_up _ _).mono ?_
  rintro e w1 ⟨a1, c1, rfl, o1, b1⟩
  have R1 := Lib.hid (erow_one o1)
  have g1 : Below w1.heap.size w1 (w1.alloc (.cells #[.slice a1 2 c1, .float .f64 4611686018427387904] 31)) := (Below.refl _ _).alloc (Nat.le_refl _) _
  have K1 := Lib.hid ((HB0.out.trans (b1.mono HB0.out.size)).trans (g1.mono (Nat.le_trans HB0.out.size b1.size)))
  have X1 := Lib.hid ((HX0.out.below b1).below g1)
  clear o1 b1 g1
  go_wp2_with fail
  refine (first_mix R1.out).mono ?_
  rintro e w2 ⟨a2, c2, e2, rfl, r2, k2, b2⟩
  have R2 := Lib.hid r2
  have KE2 := Lib.hid k2
  have K2 := Lib.hid (K1.out.trans (b2.mono K1.out.size))
  have X2 := Lib.hid (X1.out.below b2)
  clear r2 k2 b2 R1 K1 X1
  go_wp2_with fail
  refine (elem_up _ _).mono ?_
  rintro e w3 ⟨a3, c3, rfl, o3, b3⟩
  have R3 := Lib.hid (erow_one o3)
  have g3 : Below w3.heap.size w3 (w3.alloc (.cells #[.slice a3 2 c3, .float .f64 0] 31)) := (Below.refl _ _).alloc (Nat.le_refl _) _
  have K3 := Lib.hid ((K2.out.trans (b3.mono K2.out.size)).trans (g3.mono (Nat.le_trans K2.out.size b3.size)))
  have X3 := Lib.hid ((X2.out.below b3).below g3)
  have R2 := Lib.hid ((R2.out.below b3).below g3)
  clear o3 b3 g3 K2 X2
  go_wp2_with fail
  refine (first_neg R3.out).mono ?_
  rintro e w4 ⟨a4, c4, e4, rfl, r4, k4, b4⟩
  have R4 := Lib.hid r4
  have KE4 := Lib.hid k4
  have K4 := Lib.hid (K3.out.trans (b4.mono K3.out.size))
  have X4 := Lib.hid (X3.out.below b4)
  have R2 := Lib.hid (R2.out.below b4)
  clear r4 k4 b4 R3 K3 X3
  go_wp2_with fail
  refine (elem_a _ _).mono ?_
  rintro e w5 ⟨a5, c5, rfl, o5, b5⟩
  have R5 := Lib.hid (erow_one o5)
  have g5 : Below w5.heap.size w5 (w5.alloc (.cells #[.slice a5 1 c5, .float .f64 4620693217682128896] 31)) := (Below.refl _ _).alloc (Nat.le_refl _) _
  have K5 := Lib.hid ((K4.out.trans (b5.mono K4.out.size)).trans (g5.mono (Nat.le_trans K4.out.size b5.size)))
  have X5 := Lib.hid ((X4.out.below b5).below g5)
  have R2 := Lib.hid ((R2.out.below b5).below g5)
  have R4 := Lib.hid ((R4.out.below b5).below g5)
  clear o5 b5 g5 K4 X4
  go_wp2_with fail
  refine (same_yes a2 (some ⟨w5.heap.size, 0, none⟩) 1 c2 1 e2 _ _ R2.out R5.out (by rw [KE2.out]; show _ = [(([⟨nmA, txt1⟩], cn 4620693217682128896) : Ek)]; rw [show cn 4620693217682128896 = 4620693217682128896 by decide +kernel])).mono ?_
  rintro e w6 ⟨rfl, m6, rfl⟩
  have g6 : Below (w5.alloc (.cells #[.slice a5 1 c5, .float .f64 4620693217682128896] 31)).heap.size (w5.alloc (.cells #[.slice a5 1 c5, .float .f64 4620693217682128896] 31)) ((w5.alloc (.cells #[.slice a5 1 c5, .float .f64 4620693217682128896] 31)).drewN m6) := (Below.refl _ _).drewN' m6
  have K6 := Lib.hid (K5.out.trans (g6.mono K5.out.size))
  have X6 := Lib.hid (X5.out.below g6)
  have R4 := Lib.hid (R4.out.below g6)
  generalize (w5.alloc (.cells #[.slice a5 1 c5, .float .f64 4620693217682128896] 31)).drewN m6 = w6 at K6 X6 R4 ⊢
  clear g6 K5 X5 R2 R5 KE2
  go_wp2_with fail
  refine (copysign_any 0 13830554455654793216 _ (by decide) (by decide)).mono ?_
  rw [show Ieee.double.word (sgn 13830554455654793216) 0 = 9223372036854775808 by decide +kernel]
  rintro e w' ⟨rfl, rfl⟩
  go_wp2_with fail
  refine (elem_a _ _).mono ?_
  rintro e w7 ⟨a7, c7, rfl, o7, b7⟩
  have R7 := Lib.hid (erow_one o7)
  have g7 : Below w7.heap.size w7 (w7.alloc (.cells #[.slice a7 1 c7, .float .f64 9223372036854775808] 31)) := (Below.refl _ _).alloc (Nat.le_refl _) _
  have K7 := Lib.hid ((K6.out.trans (b7.mono K6.out.size)).trans (g7.mono (Nat.le_trans K6.out.size b7.size)))
  have X7 := Lib.hid ((X6.out.below b7).below g7)
  have R4 := Lib.hid ((R4.out.below b7).below g7)
  clear o7 b7 g7 K6 X6
  go_wp2_with fail
  refine (same_yes a4 (some ⟨w7.heap.size, 0, none⟩) 1 c4 1 e4 _ _ R4.out R7.out (by rw [KE4.out]; show _ = [(([⟨nmA, txt1⟩], cn 9223372036854775808) : Ek)]; rw [show cn 9223372036854775808 = 9223372036854775808 by decide +kernel])).mono ?_
  rintro e w8 ⟨rfl, m8, rfl⟩
  have g8 : Below (w7.alloc (.cells #[.slice a7 1 c7, .float .f64 9223372036854775808] 31)).heap.size (w7.alloc (.cells #[.slice a7 1 c7, .float .f64 9223372036854775808] 31)) ((w7.alloc (.cells #[.slice a7 1 c7, .float .f64 9223372036854775808] 31)).drewN m8) := (Below.refl _ _).drewN' m8
  have K8 := Lib.hid (K7.out.trans (g8.mono K7.out.size))
  have X8 := Lib.hid (X7.out.below g8)
  generalize (w7.alloc (.cells #[.slice a7 1 c7, .float .f64 9223372036854775808] 31)).drewN m8 = w8 at K8 X8 ⊢
  clear g8 K7 X7 R4 R7 KE4
  obtain ⟨x0, x1, x2, x3, x4⟩ := X8.out
  go_wp2_with fail
  refine (HRM.out _ K8.out).mono ?_
  rintro e w9 ⟨a9, c9, e9, rfl, r9, k9, b9⟩
  have R9 := Lib.hid r9
  have KE9 := Lib.hid k9
  have K9 := Lib.hid (K8.out.trans (b9.mono K8.out.size))
  have X9 := Lib.hid (X8.out.below b9)
  clear r9 k9 b9 K8 X8 x0 x1 x2 x3 x4
  obtain ⟨x0, x1, x2, x3, x4⟩ := X9.out
  go_wp2_with fail
  have s0 : w9.drew.cell? ⟨w.heap.size, 0, none⟩ = some (.string u) ∧ w9.drew.cell? ⟨w.heap.size, 1, none⟩ = some (.slice a n cap) ∧ w9.drew.cell? ⟨w.heap.size, 2, none⟩ = some (.float .f64 x) ∧ w9.drew.cell? ⟨w.heap.size, 3, none⟩ = some (.bool left) ∧ w9.drew.cell? ⟨w.heap.size, 4, none⟩ = some (.bool yes) := ⟨x0, x1, x2, x3, x4⟩
  have KD := Lib.hid (K9.out.drewN' 1)
  have RD := Lib.hid (R9.out.below ((Below.refl _ w9).drewN' 1))
  go_region_held3 (fun w' => w'.cell? ⟨w.heap.size, 0, none⟩ = some (.string u) ∧ w'.cell? ⟨w.heap.size, 1, none⟩ = some (.slice a n cap) ∧ w'.cell? ⟨w.heap.size, 2, none⟩ = some (.float .f64 x) ∧ w'.cell? ⟨w.heap.size, 3, none⟩ = some (.bool left) ∧ w'.cell? ⟨w.heap.size, 4, none⟩ = some (.bool yes)) (first | assumption) (first | (go_at_call 10; refine (HCP.out _ KD.out).mono ?_; rintro e w10 ⟨a10, c10, O, rfl, _, r10, k10, b10⟩; have s1 := Box5.below (W' := w10) s0 b10; have s1' : w10.cell? ⟨w.heap.size, 0, none⟩ = some (.string u) ∧ w10.cell? ⟨w.heap.size, 1, none⟩ = some (.slice a n cap) ∧ w10.cell? ⟨w.heap.size, 2, none⟩ = some (.float .f64 x) ∧ w10.cell? ⟨w.heap.size, 3, none⟩ = some (.bool left) ∧ w10.cell? ⟨w.heap.size, 4, none⟩ = some (.bool yes) := s1; have RD2 := Lib.hid (RD.out.below b10); have K10 := Lib.hid (KD.out.trans (b10.mono KD.out.size))) | (go_at_call 4; refine (HPM.out _ a10 c10 O r10 k10).mono ?_; rintro e w11 ⟨a11, c11, e11, rfl, r11, k11, b11⟩; have s2 := Box5.below (W' := w11) s1 b11; have s2' : w11.cell? ⟨w.heap.size, 0, none⟩ = some (.string u) ∧ w11.cell? ⟨w.heap.size, 1, none⟩ = some (.slice a n cap) ∧ w11.cell? ⟨w.heap.size, 2, none⟩ = some (.float .f64 x) ∧ w11.cell? ⟨w.heap.size, 3, none⟩ = some (.bool left) ∧ w11.cell? ⟨w.heap.size, 4, none⟩ = some (.bool yes) := s2; have RW := Lib.hid (RD2.out.below b11); have K11 := Lib.hid (K10.out.trans (b11.mono K10.out.size)); have R11 := Lib.hid r11; have KE11 := Lib.hid k11))
  have X11 := Lib.hid s2
  rename_i hHeld
  clear hHeld s0 s1 s1' s2 s2' r10 k10 b10 r11 k11 b11 x0 x1 x2 x3 x4 K9 X9 KD K10 RD RD2 R9
  go_wp2_with fail
  refine (same_yes a11 a9 m c11 c9 e11 e9 _ R11.out RW.out (by rw [KE11.out, KE9.out])).mono ?_
  rintro e w12 ⟨rfl, m12, rfl⟩
  have g12 : Below w11.heap.size w11 (w11.drewN m12) := (Below.refl _ _).drewN' m12
  have K12 := Lib.hid (K11.out.trans (g12.mono K11.out.size))
  have X12 := Lib.hid (Box5.below X11.out g12)
  generalize w11.drewN m12 = w12 at K12 X12 ⊢
  clear g12 K11 X11 R11 RW KE11 KE9
  obtain ⟨x0, x1, x2, x3, x4⟩ := X12.out
  go_wp2_with fail
  refine (HRN.out _ K12.out).mono ?_
  rintro e w13 ⟨a13, c13, e13, rfl, r13, k13, b13⟩
  have R13 := Lib.hid r13
  have KE13 := Lib.hid k13
  have K13 := Lib.hid (K12.out.trans (b13.mono K12.out.size))
  have X13 := Lib.hid (X12.out.below b13)
  clear r13 k13 b13 K12 X12 x0 x1 x2 x3 x4
  obtain ⟨x0, x1, x2, x3, x4⟩ := X13.out
  go_wp2_with fail
  refine (HCP.out _ K13.out).mono ?_
  rintro e w14 ⟨a14, c14, O2, rfl, _, r14, k14, b14⟩
  have R14 := Lib.hid r14
  have KE14 := Lib.hid k14
  have K14 := Lib.hid (K13.out.trans (b14.mono K13.out.size))
  have R13 := Lib.hid (R13.out.below b14)
  clear r14 k14 b14 K13 X13 x0 x1 x2 x3 x4
  go_wp2_with fail
  refine (HPN.out _ a14 c14 O2 R14.out KE14.out).mono ?_
  rintro e w15 ⟨a15, c15, e15, rfl, r15, k15, b15⟩
  have R15 := Lib.hid r15
  have KE15 := Lib.hid k15
  have K15 := Lib.hid (K14.out.trans (b15.mono K14.out.size))
  have R13 := Lib.hid (R13.out.below b15)
  clear r15 k15 b15 K14 R14
  go_wp2_with fail
  refine (same_yes a15 a13 m2 c15 c13 e15 e13 _ R15.out R13.out (by rw [KE15.out, KE13.out])).mono ?_
  rintro e w16 ⟨rfl, m16, rfl⟩
  go_wp2_with fail
  go_ret
  exact ⟨rfl, K15.out.drewN' m16⟩

end Go.Proofs.YtmmfjknnbkcniaaGreat
