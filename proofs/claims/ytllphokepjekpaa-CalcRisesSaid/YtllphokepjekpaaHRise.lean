/- Of a histogram with whole bounds and counts the quantile does not fall when q rises, and never leaves the bounds. -/
import Derived.Test.YtllphokepjekpaaHBucks
import Derived.Test.YtllphokepjekpaaFlMono
import Derived.Test.YtllphokepjekpaaWholeSum
namespace Go.Fl
open Ieee
open Go.Proofs.Ytllphokepjekpaa (hAt_take)

theorem pl_wz_lt {a b : Int} (ha : a.natAbs ≤ 9007199254740992) (hb : b.natAbs ≤ 9007199254740992) : pl (wz a) < pl (wz b) ↔ a < b := by
  rw [← uv_lt_iff (wz_read ha).1 (wz_read hb).1, (wz_read ha).2.1, (wz_read hb).2.1]
  have hU : (0 : Int) < (U : Int) := by have := U_pos; omega
  constructor
  · intro h
    rcases Int.lt_or_le a b with h1 | h1
    · exact h1
    · have := Int.mul_le_mul_of_nonneg_right h1 (Int.le_of_lt hU); omega
  · intro h; exact Int.mul_lt_mul_of_pos_right h hU
theorem isN_wz {a : Int} (ha : a.natAbs ≤ 9007199254740992) : isN (wz a) = false := isF_notN (wz_read ha).1
theorem fv_wz_lt {a b : Int} (ha : a.natAbs ≤ 9007199254740992) (hb : b.natAbs ≤ 9007199254740992) : fv (wz a) < fv (wz b) ↔ a < b := by
  rw [(fv_wz ha).2, (fv_wz hb).2, Rat.intCast_lt_intCast]
theorem ford_wz {a b : Int} (ha : a.natAbs ≤ 9007199254740992) (hb : b.natAbs ≤ 9007199254740992) : (ford (wz a) (wz b) == some .lt) = decide (a < b) ∧ (ford (wz a) (wz b) == some .gt) = decide (b < a) ∧ (ford (wz a) (wz b) == some .eq) = decide (a = b) := by
  obtain ⟨h1, h2, h3⟩ := ford_fv (wz_read ha).1 (wz_read hb).1
  rw [h1, h2, h3, (fv_wz ha).2, (fv_wz hb).2]
  refine ⟨?_, ?_, ?_⟩
  · simp only [Rat.intCast_lt_intCast]
  · simp only [Rat.intCast_lt_intCast]
  · simp only [Rat.intCast_inj]

/-- A number between two whole ones, rounded, lies between them. -/
theorem rd_between {q : Rat} {r : Nat} {a b : Int} (h : Rd q r) (ha : a.natAbs ≤ 9007199254740992) (hb : b.natAbs ≤ 9007199254740992) (h1 : (a : Rat) ≤ q) (h2 : q ≤ (b : Rat)) : isF r ∧ (a : Rat) ≤ fv r ∧ fv r ≤ (b : Rat) := by
  obtain ⟨f1, e1⟩ := fv_wz ha
  obtain ⟨f2, e2⟩ := fv_wz hb
  rw [← e1] at h1 ⊢
  rw [← e2] at h2 ⊢
  have hr := h.fin _ _ f1 f2 h1 h2
  exact ⟨hr, h.ge _ f1 hr h1, h.le _ f2 hr h2⟩

/-- The value between two bounds. -/
def interp (F U B C r : Nat) : Nat := fadd F (fmul (fsub U F) (fdiv (fsub r B) (fsub C B)))

structure Gap (F U B C : Int) : Prop where
  fu : F ≤ U
  bc : B < C
  sF : F.natAbs ≤ 4294967296
  sU : U.natAbs ≤ 4294967296
  sB : B.natAbs ≤ 4294967296
  sC : C.natAbs ≤ 4294967296

theorem Gap.parts {F U B C : Int} (g : Gap F U B C) {r : Nat} (hr : isF r) (h1 : (B : Rat) ≤ fv r) (h2 : fv r ≤ (C : Rat)) :
    (isF (fsub r (wz B)) ∧ ((0 : Int) : Rat) ≤ fv (fsub r (wz B)) ∧ fv (fsub r (wz B)) ≤ ((C - B : Int) : Rat)) ∧
    (isF (fdiv (fsub r (wz B)) (wz (C - B))) ∧ ((0 : Int) : Rat) ≤ fv (fdiv (fsub r (wz B)) (wz (C - B))) ∧ fv (fdiv (fsub r (wz B)) (wz (C - B))) ≤ ((1 : Int) : Rat)) ∧
    (isF (fmul (wz (U - F)) (fdiv (fsub r (wz B)) (wz (C - B)))) ∧ ((0 : Int) : Rat) ≤ fv (fmul (wz (U - F)) (fdiv (fsub r (wz B)) (wz (C - B)))) ∧ fv (fmul (wz (U - F)) (fdiv (fsub r (wz B)) (wz (C - B)))) ≤ ((U - F : Int) : Rat)) ∧
    (isF (interp (wz F) (wz U) (wz B) (wz C) r) ∧ (F : Rat) ≤ fv (interp (wz F) (wz U) (wz B) (wz C) r) ∧ fv (interp (wz F) (wz U) (wz B) (wz C) r) ≤ (U : Rat)) := by
  obtain ⟨fu, bc, sF, sU, sB, sC⟩ := g
  have eB := fv_wz (z := B) (by omega)
  have eC := fv_wz (z := C) (by omega)
  have eF := fv_wz (z := F) (by omega)
  have eD := fv_wz (z := C - B) (by omega)
  have eG := fv_wz (z := U - F) (by omega)
  have z0 : ((0 : Int) : Rat) = 0 := rfl
  have z1 : ((1 : Int) : Rat) = 1 := rfl
  have p1 := rd_between (a := 0) (b := C - B) (sub_rd hr eB.1) (by omega) (by omega) (by rw [eB.2, z0]; grind) (by rw [eB.2, Rat.intCast_sub]; grind)
  have hD : 0 < fv (wz (C - B)) := by
    rw [eD.2]
    have := Rat.intCast_lt_intCast.2 (show (0 : Int) < C - B by omega)
    exact this
  have hD0 : uv (wz (C - B)) ≠ 0 := fun e => by
    have : fv (wz (C - B)) = 0 := by unfold fv; rw [e]; have := Uq_ne; have e0 : ((0 : Int) : Rat) = 0 := rfl; rw [e0]; grind
    rw [this] at hD
    exact absurd hD Rat.lt_irrefl
  have p2 := rd_between (a := 0) (b := 1) (div_rd p1.1 eD.1 hD0) (by omega) (by omega) (by
    rw [z0]
    refine le_of_mul_le hD ?_
    rw [div_cancel hD]
    have := p1.2.1
    rw [z0] at this
    grind) (by
    rw [z1]
    refine le_of_mul_le hD ?_
    rw [div_cancel hD]
    have := p1.2.2
    rw [eD.2]
    grind)
  have hG : 0 ≤ fv (wz (U - F)) := by
    rw [eG.2]
    have := Rat.intCast_le_intCast.2 (show (0 : Int) ≤ U - F by omega)
    exact this
  have p3 := rd_between (a := 0) (b := U - F) (mul_rd eG.1 p2.1) (by omega) (by omega) (by
    rw [z0]
    have := p2.2.1
    rw [z0] at this
    exact Rat.mul_nonneg hG this) (by
    have := p2.2.2
    rw [z1] at this
    have := Rat.mul_le_mul_of_nonneg_left this hG
    rw [Rat.mul_one] at this
    rw [eG.2] at this ⊢
    exact this)
  have p4 := rd_between (a := F) (b := U) (add_rd eF.1 p3.1) (by omega) (by omega) (by
    have := p3.2.1
    rw [z0] at this
    rw [eF.2]
    grind) (by
    have := p3.2.2
    rw [Rat.intCast_sub] at this
    rw [eF.2]
    grind)
  refine ⟨p1, p2, p3, ?_⟩
  unfold interp
  rw [wz_sub (by omega) (by omega), wz_sub (by omega) (by omega)]
  exact p4

theorem Gap.mono {F U B C : Int} (g : Gap F U B C) {r r' : Nat} (hr : isF r) (h1 : (B : Rat) ≤ fv r) (h2 : fv r ≤ (C : Rat)) (hr' : isF r') (h1' : (B : Rat) ≤ fv r') (h2' : fv r' ≤ (C : Rat)) (hle : fv r ≤ fv r') :
    fv (interp (wz F) (wz U) (wz B) (wz C) r) ≤ fv (interp (wz F) (wz U) (wz B) (wz C) r') := by
  obtain ⟨p1, p2, p3, p4⟩ := g.parts hr h1 h2
  obtain ⟨k1, k2, k3, k4⟩ := g.parts hr' h1' h2'
  obtain ⟨fu, bc, sF, sU, sB, sC⟩ := g
  have eB := fv_wz (z := B) (by omega)
  have eF := fv_wz (z := F) (by omega)
  have eD := fv_wz (z := C - B) (by omega)
  have eG := fv_wz (z := U - F) (by omega)
  have hD : 0 < fv (wz (C - B)) := by
    rw [eD.2]
    have := Rat.intCast_lt_intCast.2 (show (0 : Int) < C - B by omega)
    exact this
  have hG : 0 ≤ fv (wz (U - F)) := by
    rw [eG.2]
    have := Rat.intCast_le_intCast.2 (show (0 : Int) ≤ U - F by omega)
    exact this
  have m1 := sub_mono eB.1 hr hr' hle p1.1 k1.1
  have m2 := div_mono eD.1 hD p1.1 k1.1 m1 p2.1 k2.1
  have m3 := mul_mono eG.1 hG p2.1 k2.1 m2 p3.1 k3.1
  have m4 := p4.1
  have m5 := k4.1
  unfold interp at *
  rw [wz_sub (by omega) (by omega), wz_sub (by omega) (by omega)] at *
  exact add_mono eF.1 p3.1 k3.1 m3 m4 m5

/-- A histogram whose bounds are whole numbers, the last one infinite, its counts whole numbers that do not fall. -/
structure Whole (u c : Nat → Int) (n : Nat) (L : List Hb) : Prop where
  n1 : 1 ≤ n
  len : L.length = n + 1
  up : ∀ i, i < n → uH L i = wz (u i)
  top : uH L n = pinf
  ct : ∀ i, i ≤ n → cH L i = wz (c i)
  rise : ∀ i j, i < j → j < n → u i < u j
  mono : ∀ i j, i ≤ j → j ≤ n → c i ≤ c j
  c0 : 0 < c 0
  su : ∀ i, (u i).natAbs ≤ 2147483648
  sc : ∀ i, (c i).natAbs ≤ 2147483648

theorem isN_pinf : isN pinf = false := by decide +kernel
theorem pl_pinf : pl pinf = 9218868437227405312 := by decide +kernel

theorem Whole.notN {u c : Nat → Int} {n : Nat} {L : List Hb} (h : Whole u c n L) {i : Nat} (hi : i ≤ n) : isN (uH L i) = false := by
  by_cases h1 : i < n
  · rw [h.up i h1]; exact isN_wz (by have := h.su i; omega)
  · rw [show i = n by omega, h.top]; exact isN_pinf
theorem Whole.pl_lt {u c : Nat → Int} {n : Nat} {L : List Hb} (h : Whole u c n L) {i j : Nat} (hij : i < j) (hj : j ≤ n) : pl (uH L i) < pl (uH L j) := by
  have si := h.su i
  have sj := h.su j
  rw [h.up i (by omega)]
  by_cases h1 : j < n
  · rw [h.up j h1, pl_wz_lt (by omega) (by omega)]
    exact h.rise i j hij h1
  · rw [show j = n by omega, h.top, pl_pinf]
    have hf := (wz_read (z := u i) (by omega)).1
    rw [pl_fin hf]
    unfold isF at hf
    split <;> omega
theorem Whole.kept {u c : Nat → Int} {n : Nat} {L : List Hb} (h : Whole u c n L) : kept L = L := by
  unfold Fl.kept
  refine List.filter_eq_self.2 fun b hb => ?_
  obtain ⟨i, hi, rfl⟩ := List.getElem_of_mem hb
  have := h.notN (i := i) (by have := h.len; omega)
  unfold uH at this
  rw [hAt_get hi] at this
  rw [this]; rfl
theorem Whole.sorted {u c : Nat → Int} {n : Nat} {L : List Hb} (h : Whole u c n L) : L.mergeSort leH = L := by
  refine List.mergeSort_of_pairwise ?_
  rw [List.pairwise_iff_getElem]
  intro i j hi hj hij
  have := h.pl_lt hij (by have := h.len; omega)
  unfold uH at this
  rw [hAt_get hi, hAt_get hj] at this
  unfold leH leF
  simp only [decide_eq_true_eq]
  omega
theorem Whole.cls {u c : Nat → Int} {n : Nat} {L : List Hb} (h : Whole u c n L) {i : Nat} (hi : i ≤ n) : clsB (hAt L i) = hAt L i := by
  have e := h.ct i hi
  unfold cH at e
  have s := h.sc i
  unfold clsB
  rw [e, cn_wz (by omega), ← e]
theorem Whole.clsL {u c : Nat → Int} {n : Nat} {L : List Hb} (h : Whole u c n L) : L.map clsB = L := by
  refine List.ext_getElem (by simp) fun i h1 h2 => ?_
  rw [List.getElem_map, ← hAt_get h2]
  exact h.cls (by have := h.len; omega)
theorem Whole.one {u c : Nat → Int} {n : Nat} {L : List Hb} (h : Whole u c n L) : ∀ k, k ≤ n + 1 → hOne (L.take k) = L.take k := by
  intro k
  induction k with
  | zero => intro _; rw [List.take_zero]; rfl
  | succ k ih =>
    intro hk
    have hl := h.len
    rw [hOne_succ (by omega), ih (by omega), take_more (by omega), h.cls (by omega)]
    unfold hPut
    have hs : same1 (L.take k) (hAt L k).u = false := by
      unfold same1
      rw [List.length_take, Nat.min_eq_left (by omega)]
      by_cases h0 : k = 0
      · subst h0; rfl
      · have e : uH (L.take k) (k - 1) = uH L (k - 1) := by unfold uH; rw [hAt_take _ (by omega)]
        rw [e, show (hAt L k).u = uH L k from rfl, ford_pl (h.notN (by omega)) (h.notN (by omega)), Std.compare_eq_lt.2 (h.pl_lt (by omega) (by omega))]
        simp
    rw [if_neg (by rw [hs]; simp)]
theorem Whole.tog {u c : Nat → Int} {n : Nat} {L : List Hb} (h : Whole u c n L) : hTog L = L := by
  unfold hTog
  rw [h.kept, h.sorted]
  have := h.one (n + 1) (by omega)
  rw [← h.len, List.take_length] at this
  exact this
theorem Whole.lvl {u c : Nat → Int} {n : Nat} {L : List Hb} (h : Whole u c n L) : ∀ k i, i + k = n → hLvl (wz (c i)) (L.drop (i + 1)) = L.drop (i + 1) := by
  intro k
  induction k with
  | zero =>
    intro i hi
    have : L.drop (i + 1) = [] := List.drop_of_length_le (by rw [h.len]; omega)
    rw [this]; rfl
  | succ k ih =>
    intro i hi
    have hl := h.len
    rw [drop_head (show i + 1 < L.length by omega)]
    have s1 := h.sc i
    have s2 := h.sc (i + 1)
    have hm := h.mono i (i + 1) (by omega) (by omega)
    obtain ⟨f1, f2, _⟩ := ford_wz (a := c (i + 1)) (b := c i) (by omega) (by omega)
    have ec : (hAt L (i + 1)).c = wz (c (i + 1)) := h.ct (i + 1) (by omega)
    have ihh := ih (i + 1) (by omega)
    unfold hLvl
    rw [ec, f1, f2, if_neg (by simp; omega)]
    by_cases hg : c i < c (i + 1)
    · rw [if_pos (by simp; exact hg), ihh]
    · have : c i = c (i + 1) := by omega
      rw [if_neg (by simp; omega), this, ihh]
theorem Whole.levels {u c : Nat → Int} {n : Nat} {L : List Hb} (h : Whole u c n L) : levels L = L := by
  unfold Fl.levels
  rw [h.ct 0 (by omega), h.lvl n 0 (by omega)]
  exact List.take_append_drop 1 L
theorem Whole.sound {u c : Nat → Int} {n : Nat} {L : List Hb} (h : Whole u c n L) : hSound L = true := by
  unfold hSound
  have := h.n1
  rw [h.len, show n + 1 - 1 = n by omega, h.top]
  have e : (ford pinf fmax64 == some .gt) = true := by decide +kernel
  rw [e]
  simp; omega

/-- The first place where something stands, the last one left out. -/
theorem first_place (P : Nat → Bool) (n : Nat) : ∃ b, b ≤ n ∧ (∀ j, j < b → P j = false) ∧ (b < n → P b = true) := by
  induction n with
  | zero => exact ⟨0, by omega, by omega, by omega⟩
  | succ n ih =>
    obtain ⟨b, h1, h2, h3⟩ := ih
    by_cases hb : b < n
    · exact ⟨b, by omega, h2, fun _ => h3 hb⟩
    · cases hp : P n
      · refine ⟨n + 1, by omega, fun j hj => ?_, by omega⟩
        by_cases hj2 : j = n
        · rw [hj2]; exact hp
        · exact h2 j (by omega)
      · exact ⟨n, by omega, fun j hj => h2 j (by omega), fun _ => hp⟩

theorem geF_fv {x y : Nat} (hx : isF x) (hy : isF y) : geF x y = decide (fv y ≤ fv x) := by
  obtain ⟨_, h2, h3⟩ := ford_fv hx hy
  unfold geF
  rw [h2, h3]
  rw [Bool.eq_iff_iff]
  simp only [Bool.or_eq_true, decide_eq_true_eq]
  rw [Rat.le_iff_lt_or_eq]
  exact ⟨fun h => h.imp id Eq.symm, fun h => h.imp id Eq.symm⟩
theorem leFF_fv {x y : Nat} (hx : isF x) (hy : isF y) : leFF x y = decide (fv x ≤ fv y) := by
  obtain ⟨h1, _, h3⟩ := ford_fv hx hy
  unfold leFF
  rw [h1, h3]
  rw [Bool.eq_iff_iff]
  simp only [Bool.or_eq_true, decide_eq_true_eq]
  rw [Rat.le_iff_lt_or_eq]

def loB (u : Nat → Int) (n b : Nat) : Int := if b = n then u (n - 1) else if b = 0 then min 0 (u 0) else u (b - 1)
def hiB (u : Nat → Int) (n b : Nat) : Int := if b = n then u (n - 1) else u b

/-- What a rank is answered with. -/
theorem Whole.ans {u c : Nat → Int} {n : Nat} {L : List Hb} (h : Whole u c n L) {r b : Nat} (hr : isF r) (h0 : 0 ≤ fv r) (hI : IsIdx L r b) :
    isF (hAns L r b) ∧ ((loB u n b : Int) : Rat) ≤ fv (hAns L r b) ∧ fv (hAns L r b) ≤ ((hiB u n b : Int) : Rat) ∧
      ∀ r', isF r' → fv r ≤ fv r' → IsIdx L r' b → fv (hAns L r b) ≤ fv (hAns L r' b) := by
  obtain ⟨i1, i2, i3⟩ := hI
  have hn := h.n1
  have hl := h.len
  have su := h.su
  have sc := h.sc
  rw [hl] at i1 i3
  by_cases hb : b = n
  · subst hb
    have e : ∀ r, hAns L r b = wz (u (b - 1)) := fun r => by
      unfold hAns
      rw [hl, if_pos (by omega), show b + 1 - 2 = b - 1 by omega, h.up _ (by omega), cn_wz (by have := su (b - 1); omega)]
    have ew := fv_wz (z := u (b - 1)) (by have := su (b - 1); omega)
    unfold loB hiB
    rw [if_pos rfl, if_pos rfl]
    refine ⟨by rw [e]; exact ew.1, by rw [e, ew.2]; exact Rat.le_refl, by rw [e, ew.2]; exact Rat.le_refl, fun r' _ _ _ => by rw [e, e]; exact Rat.le_refl⟩
  · have hbn : b < n := by omega
    have eU : cn (uH L b) = wz (u b) := by rw [h.up b hbn, cn_wz (by have := su b; omega)]
    have ew := fv_wz (z := u b) (by have := su b; omega)
    by_cases hz : b = 0 ∧ u 0 ≤ 0
    · obtain ⟨rfl, hu⟩ := hz
      have hle : leFF (uH L 0) 0 = true := by
        rw [h.up 0 hbn, leFF_fv ew.1 fv_zero.1, ew.2, fv_zero.2]
        simp only [decide_eq_true_eq]
        exact Rat.intCast_le_intCast.2 hu
      have e : ∀ r, hAns L r 0 = wz (u 0) := fun r => by
        unfold hAns
        rw [hl, if_neg (by omega), hle, if_pos (by rfl), eU]
      have e1 : loB u n 0 = u 0 := by unfold loB; rw [if_neg hb, if_pos rfl]; omega
      have e2 : hiB u n 0 = u 0 := by unfold hiB; rw [if_neg hb]
      rw [e1, e2]
      refine ⟨by rw [e]; exact ew.1, by rw [e, ew.2]; exact Rat.le_refl, by rw [e, ew.2]; exact Rat.le_refl, fun r' _ _ _ => by rw [e, e]; exact Rat.le_refl⟩
    · -- between two bounds
      obtain ⟨F, B, hF, hB, hg, hans⟩ : ∃ F B : Int, F = loB u n b ∧ (∀ r, isF r → 0 ≤ fv r → IsIdx L r b → (B : Rat) ≤ fv r) ∧ Gap F (u b) B (c b) ∧ ∀ r, hAns L r b = interp (wz F) (wz (u b)) (wz B) (wz (c b)) r := by
        by_cases hb0 : b = 0
        · subst hb0
          have hu : 0 < u 0 := by omega
          refine ⟨0, 0, ?_, fun r _ hr0 _ => hr0, ⟨by omega, h.c0, by omega, by have := su 0; omega, by omega, by have := sc 0; omega⟩, fun r => ?_⟩
          · unfold loB; rw [if_neg hb, if_pos rfl]; omega
          · have hle : leFF (uH L 0) 0 = false := by
              rw [h.up 0 hbn, leFF_fv ew.1 fv_zero.1, ew.2, fv_zero.2]
              simp only [decide_eq_false_iff_not]
              rw [Rat.not_le]
              exact Rat.intCast_lt_intCast.2 hu
            unfold hAns interp
            rw [hl, if_neg (by omega), hle, if_neg (by simp), if_neg (by omega), eU, h.ct 0 (by omega), wz_zero]
        · refine ⟨u (b - 1), c (b - 1), ?_, fun r hr' _ hI' => ?_, ⟨?_, ?_, by have := su (b - 1); omega, by have := su b; omega, by have := sc (b - 1); omega, by have := sc b; omega⟩, fun r => ?_⟩
          · unfold loB; rw [if_neg hb, if_neg hb0]
          · have h1 := hI'.2.1 (b - 1) (by omega)
            have ec := fv_wz (z := c (b - 1)) (by have := sc (b - 1); omega)
            rw [h.ct _ (by omega), geF_fv ec.1 hr', ec.2] at h1
            simp only [decide_eq_false_iff_not, Rat.not_le] at h1
            exact Rat.le_of_lt h1
          · have := h.rise (b - 1) b (by omega) hbn; omega
          · have h1 := i2 (b - 1) (by omega)
            have h2 := i3 (by omega)
            have ec := fv_wz (z := c (b - 1)) (by have := sc (b - 1); omega)
            have ec2 := fv_wz (z := c b) (by have := sc b; omega)
            rw [h.ct _ (by omega), geF_fv ec.1 hr, ec.2] at h1
            rw [h.ct _ (by omega), geF_fv ec2.1 hr, ec2.2] at h2
            simp only [decide_eq_false_iff_not, decide_eq_true_eq, Rat.not_le] at h1 h2
            exact Rat.intCast_lt_intCast.1 (by grind)
          · unfold hAns interp
            have eF : cn (uH L (b - 1)) = wz (u (b - 1)) := by rw [h.up _ (by omega), cn_wz (by have := su (b - 1); omega)]
            have hb0' : (b == 0) = false := by simp; omega
            rw [hl, if_neg (by omega), hb0', Bool.false_and, if_neg (by simp), if_pos (by omega), eU, eF, h.ct _ (by omega), h.ct _ (by omega)]
      have hC : ∀ r, isF r → IsIdx L r b → fv r ≤ ((c b : Int) : Rat) := fun r hr' hI' => by
        have h2 := hI'.2.2 (by rw [hl]; omega)
        have ec2 := fv_wz (z := c b) (by have := sc b; omega)
        rw [h.ct _ (by omega), geF_fv ec2.1 hr', ec2.2] at h2
        simpa using h2
      have hI : IsIdx L r b := ⟨by rw [hl]; omega, i2, by rw [hl]; exact i3⟩
      have hp := (hg.parts hr (hB r hr h0 hI) (hC r hr hI)).2.2.2
      have hhi : hiB u n b = u b := by unfold hiB; rw [if_neg hb]
      rw [hhi, ← hF]
      refine ⟨by rw [hans]; exact hp.1, by rw [hans]; exact hp.2.1, by rw [hans]; exact hp.2.2, fun r' hr' hle hI' => ?_⟩
      rw [hans, hans]
      exact hg.mono hr (hB r hr h0 hI) (hC r hr hI) hr' (hB r' hr' (Rat.le_trans h0 hle) hI') (hC r' hr' hI') hle

theorem Whole.bounds {u c : Nat → Int} {n : Nat} {L : List Hb} (h : Whole u c n L) {b b' : Nat} (hbb : b < b') (hb : b' ≤ n) : hiB u n b ≤ loB u n b' := by
  have hn := h.n1
  unfold hiB loB
  rw [if_neg (by omega)]
  by_cases h1 : b' = n
  · rw [if_pos h1]
    by_cases h2 : b = n - 1
    · rw [h2]; omega
    · have := h.rise b (n - 1) (by omega) (by omega); omega
  · rw [if_neg h1, if_neg (by omega)]
    by_cases h2 : b = b' - 1
    · rw [h2]; omega
    · have := h.rise b (b' - 1) (by omega) (by omega); omega
theorem Whole.lo {u c : Nat → Int} {n : Nat} {L : List Hb} (h : Whole u c n L) {b : Nat} (hb : b ≤ n) : min 0 (u 0) ≤ loB u n b := by
  have hn := h.n1
  unfold loB
  have key : ∀ j, j < n → u 0 ≤ u j := fun j hj => by
    by_cases h0 : j = 0
    · rw [h0]; omega
    · have := h.rise 0 j (by omega) hj; omega
  split
  · have := key (n - 1) (by omega); omega
  · split
    · omega
    · have := key (b - 1) (by omega); omega
theorem Whole.hi {u c : Nat → Int} {n : Nat} {L : List Hb} (h : Whole u c n L) {b : Nat} (hb : b ≤ n) : hiB u n b ≤ u (n - 1) := by
  have hn := h.n1
  unfold hiB
  split
  · omega
  · by_cases h0 : b = n - 1
    · rw [h0]; omega
    · have := h.rise b (n - 1) (by omega) (by omega); omega

/-- A quantile's rank. -/
theorem Whole.rank {u c : Nat → Int} {n : Nat} {L : List Hb} (h : Whole u c n L) {q : Nat} (hq : unit01 q) : isF (fmul q (wz (c n))) ∧ 0 ≤ fv (fmul q (wz (c n))) ∧ fv (fmul q (wz (c n))) ≤ ((c n : Int) : Rat) := by
  obtain ⟨f1, f2, f3⟩ := unit_fin hq
  have ec := fv_wz (z := c n) (by have := h.sc n; omega)
  have hc : 0 < c n := by have := h.mono 0 n (by omega) (by omega); have := h.c0; omega
  have hc' : (0 : Rat) ≤ ((c n : Int) : Rat) := by have := Rat.intCast_le_intCast.2 (show (0 : Int) ≤ c n by omega); exact this
  exact rd_between (a := 0) (b := c n) (mul_rd f1 ec.1) (by omega) (by have := h.sc n; omega) (by rw [ec.2]; exact Rat.mul_nonneg f2 hc') (by
    rw [ec.2]
    have := Rat.mul_le_mul_of_nonneg_right f3 hc'
    rwa [Rat.one_mul] at this)
theorem Whole.idx {u c : Nat → Int} {n : Nat} {L : List Hb} (h : Whole u c n L) (r : Nat) : ∃ b, b ≤ n ∧ IsIdx L r b := by
  obtain ⟨b, h1, h2, h3⟩ := first_place (fun j => geF (cH L j) r) n
  have hl := h.len
  exact ⟨b, h1, by omega, h2, fun hb => h3 (by omega)⟩
theorem Whole.val {u c : Nat → Int} {n : Nat} {L : List Hb} (h : Whole u c n L) {q : Nat} (hq : unit01 q) {b : Nat} (hI : IsIdx L (fmul q (wz (c n))) b) : bucketsS (cn q) L = hAns L (fmul q (wz (c n))) b := by
  obtain ⟨q1, q2, q3⟩ := hq
  rw [buck_in q1 q2 q3 (by rw [h.tog]; exact h.sound), h.tog, h.levels]
  have hl := h.len
  have hc : 0 < c n := by have := h.mono 0 n (by omega) (by omega); have := h.c0; omega
  have e : (ford (wz (c n)) 0 == some .gt) = true := by
    have := (ford_wz (a := c n) (b := 0) (by have := h.sc n; omega) (by omega)).2.1
    rw [wz_zero] at this
    rw [this]
    simpa using hc
  unfold hVal
  rw [hl, show n + 1 - 1 = n by omega, h.ct n (by omega), e, if_neg (by simp), cn_of_notN q1, hIdx_of hI]

theorem Whole.rises {u c : Nat → Int} {n : Nat} {L : List Hb} (h : Whole u c n L) {p q : Nat} (hp : unit01 p) (hq : unit01 q) (hpq : fv p ≤ fv q) :
    isF (bucketsS (cn p) L) ∧ isF (bucketsS (cn q) L) ∧ ((min 0 (u 0) : Int) : Rat) ≤ fv (bucketsS (cn p) L) ∧ fv (bucketsS (cn p) L) ≤ fv (bucketsS (cn q) L) ∧ fv (bucketsS (cn q) L) ≤ ((u (n - 1) : Int) : Rat) := by
  obtain ⟨p1, p2, p3⟩ := h.rank hp
  obtain ⟨q1, q2, q3⟩ := h.rank hq
  have ec := fv_wz (z := c n) (by have := h.sc n; omega)
  have hc : 0 < c n := by have := h.mono 0 n (by omega) (by omega); have := h.c0; omega
  have hc' : (0 : Rat) ≤ fv (wz (c n)) := by rw [ec.2]; have := Rat.intCast_le_intCast.2 (show (0 : Int) ≤ c n by omega); exact this
  have hle := mul_mono' ec.1 hc' (unit_fin hp).1 (unit_fin hq).1 hpq p1 q1
  obtain ⟨b, hb, hI⟩ := h.idx (fmul p (wz (c n)))
  obtain ⟨b', hb', hI'⟩ := h.idx (fmul q (wz (c n)))
  rw [h.val hp hI, h.val hq hI']
  generalize fmul p (wz (c n)) = r at *
  generalize fmul q (wz (c n)) = r' at *
  have hbb : b ≤ b' := by
    refine Nat.le_of_not_lt fun hlt => ?_
    have h1 := hI.2.1 b' hlt
    have h2 := hI'.2.2 (by have := h.len; omega)
    have ec2 := fv_wz (z := c b') (by have := h.sc b'; omega)
    rw [h.ct _ (by omega), geF_fv ec2.1 p1] at h1
    rw [h.ct _ (by omega), geF_fv ec2.1 q1] at h2
    simp only [decide_eq_false_iff_not, decide_eq_true_eq] at h1 h2
    exact h1 (Rat.le_trans hle h2)
  obtain ⟨a1, a2, a3, a4⟩ := h.ans p1 p2 hI
  obtain ⟨k1, k2, k3, _⟩ := h.ans q1 q2 hI'
  refine ⟨a1, k1, Rat.le_trans (Rat.intCast_le_intCast.2 (h.lo hb)) a2, ?_, Rat.le_trans k3 (Rat.intCast_le_intCast.2 (h.hi hb'))⟩
  by_cases he : b = b'
  · subst he; exact a4 r' q1 hle hI'
  · exact Rat.le_trans a3 (Rat.le_trans (Rat.intCast_le_intCast.2 (h.bounds (by omega) hb')) k2)
end Go.Fl
