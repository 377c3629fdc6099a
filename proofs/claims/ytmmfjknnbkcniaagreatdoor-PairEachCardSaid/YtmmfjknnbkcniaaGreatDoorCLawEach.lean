/- PairEach: the law. (Printed by tools/geneach.py.) -/
import Derived.Test.YtmmfjknnbkcniaaGreatDoorCEachP
namespace Go.Proofs.YtmmfjknnbkcniaaGreatDoor
open Go.Fl Go.Rel Go.RowKit Go.Sort
set_option linter.unusedSimpArgs false
set_option linter.unusedVariables false

/-- What Vector answers. -/
def VecX (ks : List Ek) (w : World) (e : Ending) (w' : World) : Prop :=
  match vecK ks with
  | none => e = .returned (.tuple #[.slice none 0 0, .int .i64 5]) ∧ Below w.heap.size w w'
  | some ms => ∃ a c vs, e = .returned (.tuple #[.slice a vs.length c, .int .i64 0]) ∧ ERow w' a vs.length vs ∧ vs.map Er.key = ms ∧ Below w.heap.size w w'
theorem vecX_any (a : Option Addr) (cap : Nat) (es : List Er) (w : World) (hr : ERow w a es.length es) :
    Calls Tryz.prog 19 #[.slice a es.length cap] w (VecX (es.map Er.key) w) :=
  (vector_any a es.length cap es w hr).mono fun e w' h => by
    unfold VecRet at h
    unfold VecX
    cases hv : vecK (es.map Er.key) <;> rw [hv] at h <;> dsimp only at h ⊢
    · exact h
    · obtain ⟨a2, c2, vs, h1, _, h3, h4, _, h6⟩ := h.row
      exact ⟨a2, c2, vs, h1, h3, h4, h6⟩
theorem vecX_cl {ks ls : List Ek} {es : List Er} {w w' : World} {e : Ending} (h : VecX (es.map Er.key) w e w') (hk : es.map (fun x => clK x.key) = ks) (hv : vecK ks = some ls) :
    ∃ a c vs n, n = ls.length ∧ e = .returned (.tuple #[.slice a n c, .int .i64 0]) ∧ ERow w' a n vs ∧ vs.map (fun x => clK x.key) = ls ∧ Below w.heap.size w w' := by
  have h1 := clK_vec (es.map Er.key)
  rw [List.map_map, show es.map (clK ∘ Er.key) = es.map (fun x => clK x.key) from rfl, hk, hv] at h1
  unfold VecX at h
  cases hv2 : vecK (es.map Er.key) <;> rw [hv2] at h h1 <;> dsimp only at h
  · cases h1
  · obtain ⟨a, c, vs, h2, h3, h4, h5⟩ := h
    have h6 := Option.some.inj h1
    rw [← h4, List.map_map] at h6
    exact ⟨a, c, vs, vs.length, by rw [← h6, List.length_map], h2, h3, h6, h5⟩

def EachRel (vs : List Er) (k x : Nat) (left : Bool) (w : World) (v13 v14 : Value) (wr : World) : Prop :=
  ∃ (j : Nat) (O : List Er), v14 = .int .i64 (j : Int) ∧ j ≤ vs.length ∧ OwnE w.heap.size wr v13 O ∧ (∀ e ∈ O, ErOwn w.heap.size wr e) ∧ O.map (fun x => clK x.key) = ((vs.take j).map Er.key).map (stepY k x left) ∧ O.length = j ∧ Below w.heap.size w wr

set_option maxHeartbeats 16000000 in
set_option maxRecDepth 100000 in
theorem law_each (u : ByteArray) (a : Option Addr) (n cap x : Nat) (es : List Er) (left yes : Bool) (w : World) (hr : ERow w a n es) (hx : W64 x) (hf : ∀ e ∈ es, W64 e.f) (hT : Tab w.heap.size w) :
    Calls Tryz.prog 4 #[.agg #[.string u, .slice a n cap, .float .f64 x, .bool left, .bool yes]] w fun e w' => e = .returned (.bool true) ∧ Below w.heap.size w w' := by
  have HX := Lib.hid hx
  obtain ⟨W0, hW0⟩ : ∃ W0, W0 = w.alloc (.cells #[.string u, .slice a n cap, .float .f64 x, .bool left, .bool yes] 45) := ⟨_, rfl⟩
  have HB0 : Hid (Below w.heap.size w W0) := Lib.hid (by rw [hW0]; exact (Below.refl _ _).alloc (Nat.le_refl _) _)
  have HX0 : Hid (Box5 w.heap.size u (.slice a n cap) x left yes W0) := Lib.hid (by
    rw [hW0]
    exact ⟨by rw [World.cell?_alloc_at _ _ _ _ (by rfl)]; rfl, by rw [World.cell?_alloc_at _ _ _ _ (by rfl)]; rfl, by rw [World.cell?_alloc_at _ _ _ _ (by rfl)]; rfl, by rw [World.cell?_alloc_at _ _ _ _ (by rfl)]; rfl, by rw [World.cell?_alloc_at _ _ _ _ (by rfl)]; rfl⟩)
  have hfk : ∀ k ∈ es.map Er.key, W64 k.2 := fun k hk => by
    obtain ⟨y, hy, rfl⟩ := List.mem_map.1 hk
    exact hf y hy
  have HFO : Hid (∀ O : List Er, O.map Er.key = es.map Er.key → ∀ e ∈ O, W64 e.f) := Lib.hid fun O ho e he => hfk e.key (by rw [← ho]; exact List.mem_map_of_mem he)
  have t42 : opK (⟨#[42]⟩ : ByteArray).toList = 2 := by rw [ByteArray.toList_eq]; decide
  obtain ⟨ks, hks⟩ : ∃ ks, ks = es.map Er.key := ⟨_, rfl⟩
  rw [← hks] at hfk HFO
  obtain ⟨k, hk⟩ : ∃ k, k = opK u.toList := ⟨_, rfl⟩
  obtain ⟨E, hE⟩ : ∃ E, E = mixE k x left true ks := ⟨_, rfl⟩
  obtain ⟨M, hM⟩ : ∃ M, M = mixV k x left true ks := ⟨_, rfl⟩
  obtain ⟨E2, hE2⟩ : ∃ E2, E2 = negE ks := ⟨_, rfl⟩
  obtain ⟨M2, hM2⟩ : ∃ M2, M2 = negV ks := ⟨_, rfl⟩
  obtain ⟨m, hm⟩ : ∃ m, m = M.length := ⟨_, rfl⟩
  obtain ⟨m2, hm2⟩ : ∃ m2, m2 = M2.length := ⟨_, rfl⟩
  obtain ⟨B, hB⟩ : ∃ B, B = errS k := ⟨_, rfl⟩
  have HCP : Hid (∀ W, Below w.heap.size w W → Calls Tryz.prog 11 #[.slice a n cap] W fun e w' => ∃ a' c' O, e = .returned (.slice a' O.length c') ∧ ERow w' a' O.length O ∧ O.map Er.key = ks ∧ Below W.heap.size W w') := Lib.hid fun W hW => (copied21_any a n cap es W (hr.below hW)).mono fun e w' ⟨a', c', O, h1, _, h3, h4, h5⟩ => ⟨a', c', O, h1, h3, h4.trans hks.symm, h5⟩
  have HPM : Hid (∀ W a' c' O, ERow W a' O.length O → O.map Er.key = ks → Calls Tryz.prog 15 #[.string u, .slice a' O.length c', .float .f64 x, .bool left, .bool true] W (AnsN E m M W)) := Lib.hid fun W a' c' O ho ho2 =>
    (mixedO_any u a' O.length c' x O left true W ho hx (HFO.out O ho2)).mono fun e w' h => by rw [hm, hE, hM, hk, ← ho2]; exact h.n
  have HPT : Hid (∀ W a' c' O, ERow W a' O.length O → O.map Er.key = ks → Calls Tryz.prog 15 #[.string ⟨#[42]⟩, .slice a' O.length c', .float .f64 13830554455654793216, .bool left, .bool yes] W (AnsN E2 m2 M2 W)) := Lib.hid fun W a' c' O ho ho2 =>
    (mixedO_any ⟨#[42]⟩ a' O.length c' 13830554455654793216 O left yes W ho (by unfold W64; decide +kernel) (HFO.out O ho2)).mono fun e w' h => by
      have h3 := each_neg left yes ks hfk
      rw [hm2, hE2, hM2, ← h3.1, ← h3.2, ← ho2]
      rw [t42] at h
      exact h.n
  have HPN : Hid (∀ W a' c' O, ERow W a' O.length O → O.map Er.key = ks → Calls Tryz.prog 14 #[.slice a' O.length c'] W (AnsN E2 m2 M2 W)) := Lib.hid fun W a' c' O ho ho2 =>
    (negateO_any a' O.length c' O W ho).mono fun e w' h => by rw [hm2, hE2, hM2, ← ho2]; exact h.n
  have HSC : Hid (∀ W (p q : Nat), W64 p → W64 q → Calls Tryz.prog 18 #[.string u, .float .f64 p, .float .f64 q] W fun e w' => ∃ r n, e = .returned (.tuple #[.float .f64 r, .int .i64 B]) ∧ cn r = scS k p q ∧ w' = W.drewN n) := Lib.hid fun W p q hp hq => (scal_any u p q W hp hq).mono fun e w' h => by rw [hB, hk]; exact h
  have HVC : Hid (∀ W a' c' O, ERow W a' O.length O → O.map Er.key = ks → Calls Tryz.prog 19 #[.slice a' O.length c'] W (VecX ks W)) := Lib.hid fun W a' c' O ho ho2 => by
    rw [← ho2]; exact vecX_any a' c' O W ho
  have HAW : Hid (∀ W, Below w.heap.size w W → Calls Tryz.prog 9 #[] W fun e w' => e = .returned (.bool true) ∧ Below W.heap.size W w') := Lib.hid fun W h => awake_any W (fun w' h2 => hT w' (h.trans (h2.mono h.size)))
  have W1 : Hid (W64 4607182418800017408) := Lib.hid (by unfold W64; decide +kernel)
  have HKF := Lib.hid hfk
  have HE := Lib.hid hE
  have HM := Lib.hid hM
  have HE2 := Lib.hid hE2
  have Hm := Lib.hid hm
  have HB := Lib.hid hB
  clear hr hx hf hT hks hfk t42 HFO hk hE hM hE2 hM2 hm hm2 hB
  go_enter Tryz.func4, Tryz.ntmps4
  go_wp2_with fail
  rw [← hW0]
  clear hW0
  refine (HAW.out _ HB0.out).mono ?_
  rintro e w1 ⟨rfl, b1⟩
  have K1 := Lib.hid (HB0.out.trans (b1.mono HB0.out.size))
  have X1 := Lib.hid (HX0.out.below b1)
  clear b1 HX0 HB0
  obtain ⟨x0, x1, x2, x3, x4⟩ := X1.out
  go_wp2_with fail
  refine (HCP.out _ K1.out).mono ?_
  rintro e w2 ⟨a2, c2, O2, rfl, r2, k2, b2⟩
  have R2 := Lib.hid r2
  have KE2 := Lib.hid k2
  have K2 := Lib.hid (K1.out.trans (b2.mono K1.out.size))
  have X2 := Lib.hid (X1.out.below b2)
  clear r2 k2 b2 K1 X1 x0 x1 x2 x3 x4
  go_wp2_with fail
  refine (HPN.out _ a2 c2 O2 R2.out KE2.out).mono ?_
  rintro e w3 ⟨a3, c3, e3, rfl, r3, k3, b3⟩
  have R3 := Lib.hid r3
  have KE3 := Lib.hid k3
  have K3 := Lib.hid (K2.out.trans (b3.mono K2.out.size))
  have X3 := Lib.hid (X2.out.below b3)
  clear r3 k3 b3 K2 X2 R2 KE2
  obtain ⟨x0, x1, x2, x3, x4⟩ := X3.out
  go_wp2_with fail
  have s0 : w3.drew.cell? ⟨w.heap.size, 0, none⟩ = some (.string u) ∧ w3.drew.cell? ⟨w.heap.size, 1, none⟩ = some (.slice a n cap) ∧ w3.drew.cell? ⟨w.heap.size, 2, none⟩ = some (.float .f64 x) ∧ w3.drew.cell? ⟨w.heap.size, 3, none⟩ = some (.bool left) ∧ w3.drew.cell? ⟨w.heap.size, 4, none⟩ = some (.bool yes) := ⟨x0, x1, x2, x3, x4⟩
  have KD := Lib.hid (K3.out.drewN' 1)
  have R3d := Lib.hid (R3.out.below ((Below.refl _ w3).drewN' 1))
  go_region_held3 (fun w' => w'.cell? ⟨w.heap.size, 0, none⟩ = some (.string u) ∧ w'.cell? ⟨w.heap.size, 1, none⟩ = some (.slice a n cap) ∧ w'.cell? ⟨w.heap.size, 2, none⟩ = some (.float .f64 x) ∧ w'.cell? ⟨w.heap.size, 3, none⟩ = some (.bool left) ∧ w'.cell? ⟨w.heap.size, 4, none⟩ = some (.bool yes)) (first | assumption) (first | (go_at_call 11; refine (HCP.out _ KD.out).mono ?_; rintro e w4 ⟨a4, c4, O4, rfl, r4, k4, b4⟩; have s1 := Box5.below (W' := w4) s0 b4; have s1' : w4.cell? ⟨w.heap.size, 0, none⟩ = some (.string u) ∧ w4.cell? ⟨w.heap.size, 1, none⟩ = some (.slice a n cap) ∧ w4.cell? ⟨w.heap.size, 2, none⟩ = some (.float .f64 x) ∧ w4.cell? ⟨w.heap.size, 3, none⟩ = some (.bool left) ∧ w4.cell? ⟨w.heap.size, 4, none⟩ = some (.bool yes) := s1; have R3p := Lib.hid (R3d.out.below b4); have K4 := Lib.hid (KD.out.trans (b4.mono KD.out.size))) | (go_at_call 15; refine (HPT.out _ a4 c4 O4 r4 k4).mono ?_; rintro e w5 ⟨a5, c5, e5, rfl, r5, k5, b5⟩; have s2 := Box5.below (W' := w5) s1 b5; have s2' : w5.cell? ⟨w.heap.size, 0, none⟩ = some (.string u) ∧ w5.cell? ⟨w.heap.size, 1, none⟩ = some (.slice a n cap) ∧ w5.cell? ⟨w.heap.size, 2, none⟩ = some (.float .f64 x) ∧ w5.cell? ⟨w.heap.size, 3, none⟩ = some (.bool left) ∧ w5.cell? ⟨w.heap.size, 4, none⟩ = some (.bool yes) := s2; have R3q := Lib.hid (R3p.out.below b5); have K5 := Lib.hid (K4.out.trans (b5.mono K4.out.size)); have R5 := Lib.hid r5; have KE5 := Lib.hid k5))
  have X5 := Lib.hid s2
  rename_i hHeld
  clear hHeld s0 s1 s1' s2 s2' r4 k4 b4 r5 k5 b5 x0 x1 x2 x3 x4 K3 X3 KD K4
  clear R3 R3d R3p
  have R3 := R3q
  clear R3q
  go_wp2_with fail
  refine (same_yes a3 a5 m2 c3 c5 e3 e5 _ R3.out R5.out (by rw [KE3.out, KE5.out])).mono ?_
  rintro e w6 ⟨rfl, m6, rfl⟩
  have g6 : Below w5.heap.size w5 (w5.drewN m6) := (Below.refl _ _).drewN' m6
  have K6 := Lib.hid (K5.out.trans (g6.mono K5.out.size))
  have X6 := Lib.hid (Box5.below X5.out g6)
  generalize w5.drewN m6 = w6 at K6 X6 ⊢
  clear g6 K5 X5 R3 R5 KE3 KE5
  obtain ⟨x0, x1, x2, x3, x4⟩ := X6.out
  go_wp2_with fail
  refine (HSC.out _ _ _ W1.out W1.out).mono ?_
  rintro e w7 ⟨r7, n7, rfl, hr7, rfl⟩
  have g7 : Below w6.heap.size w6 (w6.drewN n7) := (Below.refl _ _).drewN' n7
  have K7 := Lib.hid (K6.out.trans (g7.mono K6.out.size))
  have X7 := Lib.hid (Box5.below X6.out g7)
  generalize w6.drewN n7 = w7 at K7 X7 ⊢
  clear g7 K6 X6 hr7 x0 x1 x2 x3 x4
  obtain ⟨x0, x1, x2, x3, x4⟩ := X7.out
  go_wp2_with fail
  have s0 : w7.drew.cell? ⟨w.heap.size, 0, none⟩ = some (.string u) ∧ w7.drew.cell? ⟨w.heap.size, 1, none⟩ = some (.slice a n cap) ∧ w7.drew.cell? ⟨w.heap.size, 2, none⟩ = some (.float .f64 x) ∧ w7.drew.cell? ⟨w.heap.size, 3, none⟩ = some (.bool left) ∧ w7.drew.cell? ⟨w.heap.size, 4, none⟩ = some (.bool yes) := ⟨x0, x1, x2, x3, x4⟩
  have KD := Lib.hid (K7.out.drewN' 1)
  go_region_held3 (fun w' => w'.cell? ⟨w.heap.size, 0, none⟩ = some (.string u) ∧ w'.cell? ⟨w.heap.size, 1, none⟩ = some (.slice a n cap) ∧ w'.cell? ⟨w.heap.size, 2, none⟩ = some (.float .f64 x) ∧ w'.cell? ⟨w.heap.size, 3, none⟩ = some (.bool left) ∧ w'.cell? ⟨w.heap.size, 4, none⟩ = some (.bool yes)) (first | assumption) (first | (go_at_call 11; refine (HCP.out _ KD.out).mono ?_; rintro e w8 ⟨a8, c8, O8, rfl, r8, k8, b8⟩; have s1 := Box5.below (W' := w8) s0 b8; have s1' : w8.cell? ⟨w.heap.size, 0, none⟩ = some (.string u) ∧ w8.cell? ⟨w.heap.size, 1, none⟩ = some (.slice a n cap) ∧ w8.cell? ⟨w.heap.size, 2, none⟩ = some (.float .f64 x) ∧ w8.cell? ⟨w.heap.size, 3, none⟩ = some (.bool left) ∧ w8.cell? ⟨w.heap.size, 4, none⟩ = some (.bool yes) := s1; have K8 := Lib.hid (KD.out.trans (b8.mono KD.out.size))) | (go_at_call 15; refine (HPM.out _ a8 c8 O8 r8 k8).mono ?_; rintro e w9 ⟨a9, c9, e9, rfl, r9, k9, b9⟩; have s2 := Box5.below (W' := w9) s1 b9; have s2' : w9.cell? ⟨w.heap.size, 0, none⟩ = some (.string u) ∧ w9.cell? ⟨w.heap.size, 1, none⟩ = some (.slice a n cap) ∧ w9.cell? ⟨w.heap.size, 2, none⟩ = some (.float .f64 x) ∧ w9.cell? ⟨w.heap.size, 3, none⟩ = some (.bool left) ∧ w9.cell? ⟨w.heap.size, 4, none⟩ = some (.bool yes) := s2; have K9 := Lib.hid (K8.out.trans (b9.mono K8.out.size)); have R9 := Lib.hid r9; have KE9 := Lib.hid k9))
  have X9 := Lib.hid s2
  rename_i hHeld
  clear hHeld s0 s1 s1' s2 s2' r8 k8 b8 r9 k9 b9 x0 x1 x2 x3 x4 K7 X7 KD K8
  obtain ⟨x0, x1, x2, x3, x4⟩ := X9.out
  go_wp2_with fail
  refine (HCP.out _ K9.out).mono ?_
  rintro e w10 ⟨a10, c10, O10, rfl, r10, k10, b10⟩
  have R10 := Lib.hid r10
  have KE10 := Lib.hid k10
  have R9 := Lib.hid (R9.out.below b10)
  have K10 := Lib.hid (K9.out.trans (b10.mono K9.out.size))
  have X10 := Lib.hid (X9.out.below b10)
  clear r10 k10 b10 K9 X9 x0 x1 x2 x3 x4 HCP HAW HPM HPT HPN
  go_wp2_with fail
  have HV := Lib.hid (HVC.out _ a10 c10 O10 R10.out KE10.out)
  clear HVC R10 KE10
  unfold VecX at HV
  cases hv : vecK ks with
  | none =>
    rw [hv] at HV
    obtain ⟨h1, h2⟩ := each_none (k := k) (x := x) (left := left) hv
    obtain rfl : E = 5 := HE.out.trans h1
    obtain rfl : m = 0 := by rw [Hm.out, HM.out, h2]; rfl
    dsimp only at HV
    clear HE HM HE2 Hm HB h1 h2 HKF
    refine HV.out.mono ?_
    rintro e w11 ⟨rfl, b11⟩
    go_wp2_with fail
    go_ret
    exact ⟨rfl, K10.out.trans (b11.mono K10.out.size)⟩
  | some ms =>
    rw [hv] at HV
    dsimp only at HV
    have HMK : Hid (∀ y ∈ ms, W64 y.2) := Lib.hid fun y hy => HKF.out y (vecK_mem hv y hy)
    by_cases hk : k < 12
    · obtain rfl : B = 0 := by rw [HB.out]; unfold errS; rw [if_pos hk]
      obtain ⟨h1, h2⟩ := each_good hk x left hv
      rcases h2 with ⟨h3, h4, h5⟩ | ⟨ls, h3, h4, h5⟩
      · obtain rfl : E = 6 := HE.out.trans (h1.trans h4)
        obtain rfl : E2 = 6 := HE2.out.trans h4
        clear HE HM HE2 Hm HB h1 h3 h4 h5 HKF hk
        refine HV.out.mono ?_
        rintro e w11 ⟨a11, c11, vs, rfl, r11, k11, b11⟩
        clear r11 k11
        go_wp2_with fail
        go_ret
        exact ⟨rfl, K10.out.trans (b11.mono K10.out.size)⟩
      · obtain rfl : E = 0 := HE.out.trans (h1.trans h4)
        obtain rfl : E2 = 0 := HE2.out.trans h4
        have HLS := Lib.hid h3
        have HM9 := Lib.hid (HM.out.trans h5)
        clear HE HM HE2 HB h1 h3 h4 h5 HKF hk
        refine HV.out.mono ?_
        rintro e w11 ⟨a11, c11, vs, rfl, r11, k11, b11⟩
        have HRW := Lib.hid r11
        have HKV := Lib.hid k11
        have HVF : Hid (∀ y ∈ vs, W64 y.f) := Lib.hid fun y hy => HMK.out y.key (by rw [← k11]; exact List.mem_map_of_mem hy)
        have K11 := Lib.hid (K10.out.trans (b11.mono K10.out.size))
        have X11 := Lib.hid (X10.out.below b11)
        have R9 := Lib.hid (R9.out.below b11)
        have hvl : (vs.length : Int) ≤ 4398046511104 := by have := r11.2.1; omega
        clear r11 k11 b11 K10 X10 HV HMK hv
        go_wp2_with fail
        go_loopw [13, 14] (EachRel vs k x left w11) (fun _ v _ => vs.length - (intOf v).toNat)
        case atStart => exact ⟨0, [], rfl, by omega, ownE_nil _ _, fun e he => absurd he List.not_mem_nil, rfl, rfl, Below.refl _ _⟩
        case round =>
          obtain ⟨j, O, rfl, hj, own, hok, hkey, hol, bel⟩ := hrel
          have HO := Lib.hid own
          have HOK := Lib.hid hok
          have HKEY := Lib.hid hkey
          have HOL := Lib.hid hol
          have HBW := Lib.hid bel
          have hrw := HRW.out.below bel
          have XR := Lib.hid (X11.out.below bel)
          clear own hok hkey hol bel
          by_cases hlt : j < vs.length
          · obtain ⟨b, off, rfl, hb, hc⟩ := hrw.2.2.2 (by omega)
            obtain ⟨y0, y1⟩ := hc j hlt
            have k1 : (0 : Int) ≤ (j : Int) := by omega
            have k2 : (j : Int) < (vs.length : Int) := by omega
            have hyo : ErOk w11 (erAt vs j) := by rw [erAt_get (by omega)]; exact HRW.out.2.2.1 _ (List.getElem_mem _)
            have hyf : W64 (erAt vs j).f := by rw [erAt_get hlt]; exact HVF.out _ (List.getElem_mem _)
            have HFS : Hid (((vs.take (j + 1)).map Er.key).map (stepY k x left) = ((vs.take j).map Er.key).map (stepY k x left) ++ [stepY k x left (erAt vs j).key]) := Lib.hid (by
              rw [List.take_add_one, List.getElem?_eq_getElem hlt, erAt_get hlt, List.map_append, List.map_append]; rfl)
            generalize hxx : erAt vs j = y at y0 y1 hyo hyf HFS
            clear hxx
            obtain ⟨xa, xn, xc, xf, xl⟩ := y
            dsimp only at y0 y1 hyf
            have HYO := Lib.hid hyo
            have HYF := Lib.hid hyf
            have HNL : Hid (∀ W, Below w11.heap.size w11 W → Calls Tryz.prog 20 #[.slice xa xn xc, .string MN, .string ⟨#[]⟩] W fun e w' => ∃ a c, e = .returned (.slice a (sansL MN xl).length c) ∧ OwnL W.heap.size w' (.slice a (sansL MN xl).length c) (sansL MN xl) ∧ Below W.heap.size W w') := Lib.hid fun W hW =>
              Calls.mono (with_none xa xn xc xl MN W (HYO.out.1.below hW) HYO.out.2.2) fun e w' h => NewL.own h
            have HSM : Hid (SmallL (sansL MN xl) ∧ (sansL MN xl).length ≤ 4398046511104) := Lib.hid ⟨sansL_small _ HYO.out.1.2.2.1, Nat.le_trans (sansL_length _ _) (by have := HYO.out.1.1; have := HYO.out.2.2; dsimp only at *; omega)⟩
            have hbl : b < w11.heap.size := by
              obtain ⟨b', o', e, h, _⟩ := HRW.out.2.2.2 (by omega)
              cases e; exact h
            obtain ⟨z0, z1, z2, z3, z4⟩ := XR.out
            have s0 : wr.drew.cell? ⟨b, off + j * 2, none⟩ = some (.slice xa xn xc) ∧ wr.drew.cell? ⟨b, off + j * 2 + 1, none⟩ = some (.float .f64 xf) ∧ wr.drew.cell? ⟨w.heap.size, 2, none⟩ = some (.float .f64 x) := ⟨y0, y1, z2⟩
            clear hc hrw hyo hyf
            go_wp2_with fail
            go_region_held3 (fun w' => w'.cell? ⟨b, off + j * 2, none⟩ = some (.slice xa xn xc) ∧ w'.cell? ⟨b, off + j * 2 + 1, none⟩ = some (.float .f64 xf) ∧ w'.cell? ⟨w.heap.size, 2, none⟩ = some (.float .f64 x)) (first | assumption) (fail)
            rename_i hHeld
            clear hHeld
            have d0 : wr.drew.cell? ⟨w.heap.size, 0, none⟩ = some (.string u) := z0
            have d3 : wr.drew.cell? ⟨w.heap.size, 3, none⟩ = some (.bool left) := z3
            have f0 : wr.drew.cell? ⟨b, off + j * 2, none⟩ = some (.slice xa xn xc) := y0
            clear s0 y0 y1 z0 z1 z2 z3 z4 XR
            have HBD : Hid (Below w11.heap.size w11 wr.drew) := Lib.hid (HBW.out.drewN' 1)
            have HDW : Hid (Below wr.heap.size wr wr.drew) := Lib.hid ((Below.refl _ wr).drewN' 1)
            cases left with
            | false =>
              go_wp2_with fail
              refine (HSC.out _ _ _ HYF.out HX.out).mono ?_
              rintro e w2 ⟨r, nd, rfl, hr, rfl⟩
              have HR := Lib.hid hr
              have f1 : (wr.drew.drewN nd).cell? ⟨b, off + j * 2, none⟩ = some (.slice xa xn xc) := f0
              have HB1 := Lib.hid (HBD.out.drewN' nd)
              have HW1 := Lib.hid (HDW.out.drewN' nd)
              generalize wr.drew.drewN nd = W2 at f1 HB1 HW1 ⊢
              clear hr f0 d0 d3
              go_wp2_with fail
              refine (HNL.out W2 HB1.out).mono ?_
              rintro e w5 ⟨a', c', rfl, lr, b5⟩
              have HL := Lib.hid lr
              have HB5 := Lib.hid (HB1.out.trans (b5.mono HB1.out.size))
              have HW5 := Lib.hid (HW1.out.trans (b5.mono HW1.out.size))
              clear lr b5 f1
              go_wp2_with (first | (at_builtin; refine wpList_append_er rfl (.tmp 127) (.tmp 136) rfl w11.heap.size _ O rfl ((HO.out.below HW5.out).alloc _) w5.heap.size _ ⟨a', (sansL MN xl).length, c', r, sansL MN xl⟩ rfl (by rw [World.cell?_alloc_at _ _ _ _ (by rfl)]; rfl) (by rw [World.cell?_alloc_at _ _ _ _ (by rfl)]; rfl) (by have := HOL.out; omega) (Nat.le_trans HB5.out.size (by simp)) ?_; intro v' w' own' gb hv; have HO5 := Lib.hid own'; have HG5 := Lib.hid gb; clear own' gb hv))
              go_roundw
              case rel =>
                refine ⟨j + 1, O ++ [⟨a', (sansL MN xl).length, c', r, sansL MN xl⟩], by first | rfl | (congr 1; omega), by omega, HO5.out, ?_, ?_, by have := HOL.out; simp; omega, (HB5.out.alloc HB5.out.size _).grown HG5.out (Nat.le_trans HB5.out.size (by simp)) (fun b hb => (HO.out.lt b hb).1)⟩
                · intro e he
                  rcases List.mem_append.1 he with he | he
                  · exact (((HOK.out e he).below HW5.out).below ((Below.refl _ _).alloc (Nat.le_refl _) _)).grown ((HO.out.below HW5.out).alloc _) HG5.out
                  · obtain rfl : e = ⟨a', (sansL MN xl).length, c', r, sansL MN xl⟩ := by simpa using he
                    have ho : ErOwn w11.heap.size w5 ⟨a', (sansL MN xl).length, c', r, sansL MN xl⟩ := ⟨HL.out.mono HB1.out.size, HSM.out.1, HSM.out.2, rfl⟩
                    exact (ho.below ((Below.refl _ _).alloc (Nat.le_refl _) _)).grown ((HO.out.below HW5.out).alloc _) HG5.out
                · rw [HFS.out, List.map_append, HKEY.out]; simp [clK, Er.key, stepY, pickA, pickB, HR.out]
              case measure => simp [intOf]; omega
            | true =>
              go_wp2_with fail
              refine (HSC.out _ _ _ HX.out HYF.out).mono ?_
              rintro e w2 ⟨r, nd, rfl, hr, rfl⟩
              have HR := Lib.hid hr
              have f1 : (wr.drew.drewN nd).cell? ⟨b, off + j * 2, none⟩ = some (.slice xa xn xc) := f0
              have HB1 := Lib.hid (HBD.out.drewN' nd)
              have HW1 := Lib.hid (HDW.out.drewN' nd)
              generalize wr.drew.drewN nd = W2 at f1 HB1 HW1 ⊢
              clear hr f0 d0 d3
              go_wp2_with fail
              refine (HNL.out W2 HB1.out).mono ?_
              rintro e w5 ⟨a', c', rfl, lr, b5⟩
              have HL := Lib.hid lr
              have HB5 := Lib.hid (HB1.out.trans (b5.mono HB1.out.size))
              have HW5 := Lib.hid (HW1.out.trans (b5.mono HW1.out.size))
              clear lr b5 f1
              go_wp2_with (first | (at_builtin; refine wpList_append_er rfl (.tmp 127) (.tmp 136) rfl w11.heap.size _ O rfl ((HO.out.below HW5.out).alloc _) w5.heap.size _ ⟨a', (sansL MN xl).length, c', r, sansL MN xl⟩ rfl (by rw [World.cell?_alloc_at _ _ _ _ (by rfl)]; rfl) (by rw [World.cell?_alloc_at _ _ _ _ (by rfl)]; rfl) (by have := HOL.out; omega) (Nat.le_trans HB5.out.size (by simp)) ?_; intro v' w' own' gb hv; have HO5 := Lib.hid own'; have HG5 := Lib.hid gb; clear own' gb hv))
              go_roundw
              case rel =>
                refine ⟨j + 1, O ++ [⟨a', (sansL MN xl).length, c', r, sansL MN xl⟩], by first | rfl | (congr 1; omega), by omega, HO5.out, ?_, ?_, by have := HOL.out; simp; omega, (HB5.out.alloc HB5.out.size _).grown HG5.out (Nat.le_trans HB5.out.size (by simp)) (fun b hb => (HO.out.lt b hb).1)⟩
                · intro e he
                  rcases List.mem_append.1 he with he | he
                  · exact (((HOK.out e he).below HW5.out).below ((Below.refl _ _).alloc (Nat.le_refl _) _)).grown ((HO.out.below HW5.out).alloc _) HG5.out
                  · obtain rfl : e = ⟨a', (sansL MN xl).length, c', r, sansL MN xl⟩ := by simpa using he
                    have ho : ErOwn w11.heap.size w5 ⟨a', (sansL MN xl).length, c', r, sansL MN xl⟩ := ⟨HL.out.mono HB1.out.size, HSM.out.1, HSM.out.2, rfl⟩
                    exact (ho.below ((Below.refl _ _).alloc (Nat.le_refl _) _)).grown ((HO.out.below HW5.out).alloc _) HG5.out
                · rw [HFS.out, List.map_append, HKEY.out]; simp [clK, Er.key, stepY, pickA, pickB, HR.out]
              case measure => simp [intOf]; omega
          · have hkn : ¬ (j : Int) < (vs.length : Int) := by omega
            have HE : Hid (O.map (fun x => clK x.key) = ms.map (stepY k x left)) := Lib.hid (by
              rw [HKEY.out, List.take_of_length_le (by omega), HKV.out])
            obtain ⟨ao, co, hvo, hso, hro⟩ := HO.out.row (fun e he => (HOK.out e he).ok) (by have := HOL.out; omega)
            subst hvo
            have HSET := Lib.hid (vecX_any ao co O wr hro)
            have R9 := Lib.hid (R9.out.below HBW.out)
            clear hso hro hrw
            go_wp2_with fail
            refine HSET.out.mono ?_
            intro e w12 hh
            obtain ⟨a12, c12, xs, n12, hn12, rfl, r12, k12, b12⟩ := vecX_cl hh HE.out HLS.out
            obtain rfl : n12 = m := by rw [hn12, Hm.out, HM9.out]
            have R12 := Lib.hid r12
            have R9 := Lib.hid (R9.out.below b12)
            have K12 := Lib.hid ((K11.out.trans (HBW.out.mono K11.out.size)).trans (b12.mono (Nat.le_trans K11.out.size HBW.out.size)))
            have KE12 := Lib.hid k12
            clear hh r12 k12 b12 hn12
            go_wp2_with fail
            refine (same_yes a9 a12 _ c9 c12 e9 xs _ R9.out R12.out (by rw [KE9.out, KE12.out, HM9.out])).mono ?_
            rintro e w13 ⟨rfl, m13, rfl⟩
            go_wp2_with fail
            go_ret
            exact ⟨rfl, K12.out.drewN' m13⟩
    · obtain ⟨h1, h2⟩ := each_bad hk x left hv
      obtain rfl : E = 7 := HE.out.trans h1
      obtain rfl : m = 0 := by rw [Hm.out, HM.out, h2]; rfl
      obtain rfl : B = 7 := by rw [HB.out]; unfold errS; rw [if_neg hk]
      clear HE HM HE2 Hm HB h1 h2 HKF hk
      refine HV.out.mono ?_
      rintro e w11 ⟨a11, c11, vs, rfl, r11, k11, b11⟩
      clear r11 k11
      go_wp2_with fail
      go_ret
      exact ⟨rfl, K10.out.trans (b11.mono K10.out.size)⟩
end Go.Proofs.YtmmfjknnbkcniaaGreatDoor
