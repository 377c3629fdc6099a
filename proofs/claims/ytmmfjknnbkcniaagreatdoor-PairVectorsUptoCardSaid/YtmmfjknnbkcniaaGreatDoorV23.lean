/- The plain theory of a stable sort by symmetric merges: a row of numbers (the places of what is sorted), a strict total order on them. No program. The plain theory of the stable sort's passes over blocks, and what the whole comes to: the list's merge sort. No program. slices.swapRangeCmpFunc and slices.rotateCmpFunc at weir/api.Elem: what the row holds behind them. -/
import Derived.Sort.LotA
import Derived.Test.YtmmfjknnbkcniaaGreatDoorProg
import Derived.Shelf.SlSortCmp.KitK
import Derived.Sort.WalkB2
import Derived.Sort.WalkB12
import Derived.Deep.LoopGhost
set_option maxHeartbeats 64000000
set_option maxRecDepth 100000
namespace Go.Stab
open Go.Sort
def rotF (g : Nat → Nat) (a m b t : Nat) : Nat := if a ≤ t ∧ t < a + (b - m) then g (t - a + m) else if a + (b - m) ≤ t ∧ t < b then g (t - (b - m)) else g t
def swrF (g : Nat → Nat) (a b n t : Nat) : Nat := if a ≤ t ∧ t < a + n then g (t + (b - a)) else if b ≤ t ∧ t < b + n then g (t - (b - a)) else g t
theorem swrF_zero (g : Nat → Nat) (a b t : Nat) : swrF g a b 0 t = g t := by
 unfold swrF
 rw [if_neg (by omega), if_neg (by omega)]
theorem swrF_succ (g : Nat → Nat) {a b k : Nat} (h : a + (k + 1) ≤ b) (t : Nat) :
  (if t = b + k then swrF g a b k (a + k) else if t = a + k then swrF g a b k (b + k) else swrF g a b k t) = swrF g a b (k + 1) t := by
 have e1 : swrF g a b k (a + k) = g (a + k) := by unfold swrF; rw [if_neg (by omega), if_neg (by omega)]
 have e2 : swrF g a b k (b + k) = g (b + k) := by unfold swrF; rw [if_neg (by omega), if_neg (by omega)]
 rw [e1, e2]
 by_cases h1 : t = b + k
 ·rw [if_pos h1]; unfold swrF; rw [if_neg (by omega), if_pos (by omega)]; congr 1; omega
 ·rw [if_neg h1]
  by_cases h2 : t = a + k
  ·rw [if_pos h2]; unfold swrF; rw [if_pos (by omega)]; congr 1; omega
  ·rw [if_neg h2]; unfold swrF
   by_cases h3 : a ≤ t ∧ t < a + k
   ·rw [if_pos h3, if_pos (by omega)]
   ·rw [if_neg h3, if_neg (show ¬ (a ≤ t ∧ t < a + (k + 1)) by omega)]
    by_cases h4 : b ≤ t ∧ t < b + k
    ·rw [if_pos h4, if_pos (show b ≤ t ∧ t < b + (k + 1) by omega)]
    ·rw [if_neg h4, if_neg (show ¬ (b ≤ t ∧ t < b + (k + 1)) by omega)]
theorem rotF_congr {g g' : Nat → Nat} (h : ∀ t, g t = g' t) (a m b t : Nat) : rotF g a m b t = rotF g' a m b t := by
 unfold rotF; simp only [h]
theorem rot_left (g : Nat → Nat) {m i j : Nat} (hi : i ≤ m) (hij : j < i) (t : Nat) : rotF (fun t => swrF g (m - i) m j t) (m - (i - j)) m (m + j) t = rotF g (m - i) m (m + j) t := by
 unfold rotF
 by_cases h1 : m - i ≤ t ∧ t < m - i + (m + j - m)
 ·rw [if_neg (by omega), if_neg (by omega), if_pos h1]
  dsimp only [swrF]; rw [if_pos (by omega)]; congr 1; omega
 ·rw [if_neg h1]
  by_cases h2 : m - i + (m + j - m) ≤ t ∧ t < m + j
  ·rw [if_pos h2]
   by_cases h3 : m - (i - j) ≤ t ∧ t < m - (i - j) + (m + j - m)
   ·rw [if_pos h3]; dsimp only [swrF]; rw [if_neg (by omega), if_pos (by omega)]; congr 1; omega
   ·rw [if_neg h3, if_pos (by omega)]; dsimp only [swrF]; rw [if_neg (by omega), if_neg (by omega)]
  ·rw [if_neg h2, if_neg (by omega), if_neg (by omega)]; dsimp only [swrF]; rw [if_neg (by omega), if_neg (by omega)]
theorem rot_right (g : Nat → Nat) {m i j : Nat} (hi : i ≤ m) (hij : i < j) (t : Nat) : rotF (fun t => swrF g (m - i) (m + j - i) i t) (m - i) m (m + (j - i)) t = rotF g (m - i) m (m + j) t := by
 unfold rotF
 by_cases h1 : m - i ≤ t ∧ t < m - i + (m + j - m)
 ·rw [if_pos h1]
  by_cases h2 : m - i ≤ t ∧ t < m - i + (m + (j - i) - m)
  ·rw [if_pos h2]; dsimp only [swrF]; rw [if_neg (by omega), if_neg (by omega)]
  ·rw [if_neg h2]
   by_cases h3 : m - i + (m + (j - i) - m) ≤ t ∧ t < m + (j - i)
   ·rw [if_pos h3]; dsimp only [swrF]; rw [if_pos (by omega)]; congr 1; omega
   ·omega
 ·rw [if_neg h1]
  by_cases h2 : m - i + (m + j - m) ≤ t ∧ t < m + j
  ·rw [if_pos h2, if_neg (by omega), if_neg (by omega)]; dsimp only [swrF]; rw [if_neg (by omega), if_pos (by omega)]; congr 1; omega
  ·rw [if_neg h2, if_neg (by omega), if_neg (by omega)]; dsimp only [swrF]; rw [if_neg (by omega), if_neg (by omega)]
theorem rot_end (g : Nat → Nat) {m i : Nat} (hi : i ≤ m) (t : Nat) : swrF g (m - i) m i t = rotF g (m - i) m (m + i) t := by
 unfold rotF swrF
 by_cases h1 : m - i ≤ t ∧ t < m - i + i
 ·rw [if_pos h1, if_pos (by omega)]; congr 1; omega
 ·rw [if_neg h1, if_neg (show ¬ (m - i ≤ t ∧ t < m - i + (m + i - m)) by omega)]
  by_cases h2 : m ≤ t ∧ t < m + i
  ·rw [if_pos h2, if_pos (show m - i + (m + i - m) ≤ t ∧ t < m + i by omega)]; congr 1; omega
  ·rw [if_neg h2, if_neg (show ¬ (m - i + (m + i - m) ≤ t ∧ t < m + i) by omega)]
theorem rotF_none1 (g : Nat → Nat) {m b : Nat} (t : Nat) (_h : m ≤ b) : rotF g m m b t = g t := by
 unfold rotF
 by_cases h1 : m ≤ t ∧ t < m + (b - m)
 ·rw [if_pos h1]; congr 1; omega
 ·rw [if_neg h1, if_neg (by omega)]
theorem rotF_none2 (g : Nat → Nat) {a m : Nat} (t : Nat) (_h : a ≤ m) : rotF g a m m t = g t := by
 unfold rotF
 rw [if_neg (by omega)]
 by_cases h1 : a + (m - m) ≤ t ∧ t < m
 ·rw [if_pos h1]; congr 1; omega
 ·rw [if_neg h1]
theorem rot_up (g : Nat → Nat) {a k : Nat} (h : a ≤ k) (t : Nat) :
  (if t = k + 1 then rotF g a (a + 1) (k + 1) k else if t = k then rotF g a (a + 1) (k + 1) (k + 1) else rotF g a (a + 1) (k + 1) t) = rotF g a (a + 1) (k + 2) t := by
 have e1 : rotF g a (a + 1) (k + 1) k = g a := by unfold rotF; rw [if_neg (by omega), if_pos (by omega)]; congr 1; omega
 have e2 : rotF g a (a + 1) (k + 1) (k + 1) = g (k + 1) := by unfold rotF; rw [if_neg (by omega), if_neg (by omega)]
 rw [e1, e2]
 by_cases h1 : t = k + 1
 ·rw [if_pos h1]; unfold rotF; rw [if_neg (by omega), if_pos (by omega)]; congr 1; omega
 ·rw [if_neg h1]
  by_cases h2 : t = k
  ·rw [if_pos h2]; unfold rotF; rw [if_pos (by omega)]; congr 1; omega
  ·rw [if_neg h2]; unfold rotF
   by_cases h3 : a ≤ t ∧ t < a + (k + 1 - (a + 1))
   ·rw [if_pos h3, if_pos (by omega)]
   ·rw [if_neg h3, if_neg (by omega), if_neg (by omega), if_neg (by omega)]
theorem rot_down (g : Nat → Nat) {m k : Nat} (h : k + 1 ≤ m) (t : Nat) :
  (if t = k then rotF g (k + 1) m (m + 1) (k + 1) else if t = k + 1 then rotF g (k + 1) m (m + 1) k else rotF g (k + 1) m (m + 1) t) = rotF g k m (m + 1) t := by
 have e1 : rotF g (k + 1) m (m + 1) (k + 1) = g m := by unfold rotF; rw [if_pos (by omega)]; congr 1; omega
 have e2 : rotF g (k + 1) m (m + 1) k = g k := by unfold rotF; rw [if_neg (by omega), if_neg (by omega)]
 rw [e1, e2]
 by_cases h1 : t = k
 ·rw [if_pos h1]; unfold rotF; rw [if_pos (by omega)]; congr 1; omega
 ·rw [if_neg h1]
  by_cases h2 : t = k + 1
  ·rw [if_pos h2]; unfold rotF; rw [if_neg (by omega), if_pos (by omega)]; congr 1; omega
  ·rw [if_neg h2]; unfold rotF
   by_cases h3 : k + 1 + (m + 1 - m) ≤ t ∧ t < m + 1
   ·rw [if_neg (by omega), if_pos h3, if_neg (by omega), if_pos (by omega)]
   ·rw [if_neg (by omega), if_neg h3, if_neg (by omega), if_neg (by omega)]
/-! ### The order -/
structure Ord (R : Nat → Nat → Prop) : Prop where
 irrefl : ∀ x, ¬ R x x
 trans : ∀ x y z, R x y → R y z → R x z
 total : ∀ x y, x ≠ y → R x y ∨ R y x
def SortedR (R : Nat → Nat → Prop) (lo hi : Nat) (d : Array Nat) : Prop := ∀ i j, lo ≤ i → i < j → j < hi → R d[i]! d[j]!
def Cross (a m b : Nat) (d : Array Nat) : Prop := ∀ i j, a ≤ i → i < m → m ≤ j → j < b → d[i]! < d[j]!
theorem SortedR.le {R : Nat → Nat → Prop} {lo hi : Nat} {d : Array Nat} (h : SortedR R lo hi d) {i j : Nat} (h1 : lo ≤ i) (h2 : i ≤ j) (h3 : j < hi) : d[i]! = d[j]! ∨ R d[i]! d[j]! := by
 rcases Nat.lt_or_ge i j with h' | h'
 ·exact .inr (h i j h1 h' h3)
 ·have : i = j := by omega
  subst this; exact .inl rfl
section
variable {R : Nat → Nat → Prop} (O : Ord R) {a m b : Nat} {d d' : Array Nat}
include O
theorem ins_left (hs : SortedR R (a + 1) b d) (hc : Cross a (a + 1) b d) {i : Nat} (hi1 : a + 1 ≤ i) (hi2 : i ≤ b) (h1 : ∀ t, a + 1 ≤ t → t < i → R d[t]! d[a]!) (h2 : ∀ t, i ≤ t → t < b → ¬ R d[t]! d[a]!)
  (hd : ∀ t, d'[t]! = rotF (fun t => d[t]!) a (a + 1) i t) : SortedR R a b d' := by
 have h2' : ∀ t, i ≤ t → t < b → R d[a]! d[t]! := fun t ht ht' =>
  (O.total d[a]! d[t]! (Nat.ne_of_lt (hc a t (Nat.le_refl _) (by omega) (by omega) ht'))).resolve_right (h2 t ht ht')
 intro x y hx hxy hy
 rw [hd, hd]
 unfold rotF
 by_cases x1 : a ≤ x ∧ x < a + (i - (a + 1))
 ·rw [if_pos x1]
  by_cases y1 : a ≤ y ∧ y < a + (i - (a + 1))
  ·rw [if_pos y1]; exact hs _ _ (by omega) (by omega) (by omega)
  ·rw [if_neg y1]
   by_cases y2 : a + (i - (a + 1)) ≤ y ∧ y < i
   ·rw [if_pos y2]
    have : y - (i - (a + 1)) = a := by omega
    rw [this]; exact h1 _ (by omega) (by omega)
   ·rw [if_neg y2]; exact hs _ _ (by omega) (by omega) (by omega)
 ·rw [if_neg x1]
  by_cases x2 : a + (i - (a + 1)) ≤ x ∧ x < i
  ·rw [if_pos x2, if_neg (by omega), if_neg (by omega)]
   have : x - (i - (a + 1)) = a := by omega
   rw [this]; exact h2' _ (by omega) (by omega)
  ·rw [if_neg x2, if_neg (by omega), if_neg (by omega)]; exact hs _ _ (by omega) (by omega) (by omega)
theorem ins_right (hs : SortedR R a m d) (hc : Cross a m (m + 1) d) {i : Nat} (hi1 : a ≤ i) (hi2 : i ≤ m) (h1 : ∀ t, a ≤ t → t < i → ¬ R d[m]! d[t]!) (h2 : ∀ t, i ≤ t → t < m → R d[m]! d[t]!)
  (hd : ∀ t, d'[t]! = rotF (fun t => d[t]!) i m (m + 1) t) : SortedR R a (m + 1) d' := by
 have h1' : ∀ t, a ≤ t → t < i → R d[t]! d[m]! := fun t ht ht' =>
  (O.total d[t]! d[m]! (Nat.ne_of_lt (hc t m (by omega) (by omega) (Nat.le_refl _) (by omega)))).resolve_right (h1 t ht ht')
 intro x y hx hxy hy
 rw [hd, hd]
 unfold rotF
 by_cases x1 : x < i
 ·rw [if_neg (by omega), if_neg (by omega)]
  by_cases y1 : y < i
  ·rw [if_neg (by omega), if_neg (by omega)]; exact hs _ _ (by omega) (by omega) (by omega)
  ·by_cases y2 : y = i
   ·rw [if_pos (by omega)]
    have : y - i + m = m := by omega
    rw [this]; exact h1' _ (by omega) (by omega)
   ·rw [if_neg (by omega), if_pos (by omega)]; exact hs _ _ (by omega) (by omega) (by omega)
 ·by_cases x2 : x = i
  ·rw [if_pos (by omega), if_neg (by omega), if_pos (by omega)]
   have : x - i + m = m := by omega
   rw [this]; exact h2 _ (by omega) (by omega)
  ·rw [if_neg (by omega), if_pos (by omega), if_neg (by omega), if_pos (by omega)]; exact hs _ _ (by omega) (by omega) (by omega)
theorem parted (ham : a < m) (hmb : m < b) (h1s : SortedR R a m d) (h2s : SortedR R m b d) (hc : Cross a m b d) {mid n s0 r0 s e : Nat} (hmid : mid = (a + b) / 2) (hn : n = mid + m)
  (h0 : (mid < m ∧ s0 = n - b ∧ r0 = mid) ∨ (m ≤ mid ∧ s0 = a ∧ r0 = m)) (hs1 : s0 ≤ s) (hs2 : s ≤ r0) (he : e = n - s)
  (hq1 : ∀ t, s0 ≤ t → t < s → ¬ R d[n - 1 - t]! d[t]!) (hq2 : ∀ t, s ≤ t → t < r0 → R d[n - 1 - t]! d[t]!)
  (hd : ∀ t, d'[t]! = rotF (fun t => d[t]!) s m e t) :
  (Cross a s mid d' ∧ SortedR R a s d' ∧ SortedR R s mid d') ∧ (Cross mid e b d' ∧ SortedR R mid e d' ∧ SortedR R e b d') ∧ (∀ i j, a ≤ i → i < mid → mid ≤ j → j < b → R d'[i]! d'[j]!) ∧
  a ≤ s ∧ s ≤ mid ∧ mid ≤ e ∧ e ≤ b ∧ s ≤ m ∧ m ≤ e := by
 have b1 : a ≤ s := by omega
 have b2 : s ≤ mid := by omega
 have b3 : mid ≤ e := by omega
 have b4 : e ≤ b := by omega
 have b5 : s ≤ m := by omega
 have b6 : m ≤ e := by omega
 have b7 : s + (e - m) = mid := by omega
 have p1 : ∀ t, t < s → d'[t]! = d[t]! := fun t ht => by rw [hd]; unfold rotF; rw [if_neg (by omega), if_neg (by omega)]
 have p2 : ∀ t, s ≤ t → t < mid → d'[t]! = d[t - s + m]! := fun t ht ht' => by rw [hd]; unfold rotF; rw [if_pos (by omega)]
 have p3 : ∀ t, mid ≤ t → t < e → d'[t]! = d[t - (e - m)]! := fun t ht ht' => by rw [hd]; unfold rotF; rw [if_neg (by omega), if_pos (by omega)]
 have p4 : ∀ t, e ≤ t → d'[t]! = d[t]! := fun t ht => by rw [hd]; unfold rotF; rw [if_neg (by omega), if_neg (by omega)]
 -- the left part's last is ahead of the right part's first that stays
 have k1 : ∀ i j, a ≤ i → i < s → e ≤ j → j < b → R d[i]! d[j]! := by
  intro i j hi hi' hj hj'
  have hs0 : s0 < s := by omega
  have hx := hq1 (s - 1) (by omega) (by omega)
  have ee : n - 1 - (s - 1) = e := by omega
  rw [ee] at hx
  have hy : R d[s - 1]! d[e]! := (O.total _ _ (Nat.ne_of_lt (hc (s - 1) e (by omega) (by omega) (by omega) (by omega)))).resolve_right hx
  rcases h1s.le (i := i) (j := s - 1) hi (by omega) (by omega) with e1 | e1 <;> rcases h2s.le (i := e) (j := j) (by omega) hj hj' with e2 | e2
  ·rw [e1, ← e2]; exact hy
  ·rw [e1]; exact O.trans _ _ _ hy e2
  ·rw [← e2]; exact O.trans _ _ _ e1 hy
  ·exact O.trans _ _ _ e1 (O.trans _ _ _ hy e2)
 have k2 : ∀ i j, m ≤ i → i < e → s ≤ j → j < m → R d[i]! d[j]! := by
  intro i j hi hi' hj hj'
  have hs0 : s < r0 := by omega
  have hy := hq2 s (by omega) (by omega)
  have ee : n - 1 - s = e - 1 := by omega
  rw [ee] at hy
  rcases h2s.le (i := i) (j := e - 1) hi (by omega) (by omega) with e1 | e1 <;> rcases h1s.le (i := s) (j := j) (by omega) hj hj' with e2 | e2
  ·rw [e1, ← e2]; exact hy
  ·rw [e1]; exact O.trans _ _ _ hy e2
  ·rw [← e2]; exact O.trans _ _ _ e1 hy
  ·exact O.trans _ _ _ e1 (O.trans _ _ _ hy e2)
 refine ⟨⟨?_, ?_, ?_⟩, ⟨?_, ?_, ?_⟩, ?_, b1, b2, b3, b4, b5, b6⟩
 ·intro i j hi hi' hj hj'
  rw [p1 i hi', p2 j hj hj']; exact hc _ _ hi (by omega) (by omega) (by omega)
 ·intro i j hi hij hj
  rw [p1 i (by omega), p1 j hj]; exact h1s _ _ hi hij (by omega)
 ·intro i j hi hij hj
  rw [p2 i hi (by omega), p2 j (by omega) hj]; exact h2s _ _ (by omega) (by omega) (by omega)
 ·intro i j hi hi' hj hj'
  rw [p3 i hi hi', p4 j hj]; exact hc _ _ (by omega) (by omega) (by omega) hj'
 ·intro i j hi hij hj
  rw [p3 i hi (by omega), p3 j (by omega) hj]; exact h1s _ _ (by omega) (by omega) (by omega)
 ·intro i j hi hij hj
  rw [p4 i hi, p4 j (by omega)]; exact h2s _ _ (by omega) hij hj
 ·intro i j hi hi' hj hj'
  by_cases c1 : i < s
  ·rw [p1 i c1]
   by_cases c2 : j < e
   ·rw [p3 j hj c2]; exact h1s _ _ hi (by omega) (by omega)
   ·rw [p4 j (by omega)]; exact k1 _ _ hi c1 (by omega) hj'
  ·rw [p2 i (by omega) hi']
   by_cases c2 : j < e
   ·rw [p3 j hj c2]; exact k2 _ _ (by omega) (by omega) (by omega) (by omega)
   ·rw [p4 j (by omega)]; exact h2s _ _ (by omega) (by omega) hj'
theorem search_yes (h1s : SortedR R a m d) (h2s : SortedR R m b d) {p c t : Nat} (hc : a ≤ c) (hct : c ≤ t) (ht : t < m) (hp : m ≤ p - t) (hpb : p - c < b) (hy : R d[p - c]! d[c]!) : R d[p - t]! d[t]! := by
 rcases h2s.le (i := p - t) (j := p - c) hp (by omega) hpb with e1 | e1 <;> rcases h1s.le (i := c) (j := t) hc hct ht with e2 | e2
 ·rw [e1, ← e2]; exact hy
 ·rw [e1]; exact O.trans _ _ _ hy e2
 ·rw [← e2]; exact O.trans _ _ _ e1 hy
 ·exact O.trans _ _ _ e1 (O.trans _ _ _ hy e2)
theorem search_no (h1s : SortedR R a m d) (h2s : SortedR R m b d) {p c t : Nat} (ht : a ≤ t) (hct : t ≤ c) (hcm : c < m) (hp : m ≤ p - c) (hpb : p - t < b) (hn : ¬ R d[p - c]! d[c]!) : ¬ R d[p - t]! d[t]! := fun hy =>
 hn (search_yes O h1s h2s ht hct hcm hp hpb hy)
omit O in
theorem none_left {s mid : Nat} (h : ¬ (a < s ∧ s < mid)) (h0 : a ≤ s) (h1 : s ≤ mid) (p1 : SortedR R a s d) (p2 : SortedR R s mid d) : SortedR R a mid d := by
 by_cases c : a = s
 ·subst c; exact p2
 ·have : s = mid := by omega
  subst this; exact p1
omit O in
theorem keep_sorted {d1 d2 : Array Nat} {mid e f : Nat} (hp : PermIn a mid d1 d2) (h : SortedR R e f d1) (hm : mid ≤ e := by omega) : SortedR R e f d2 := fun i j hi hij hj => by
 rw [hp.2.1 i (by omega), hp.2.1 j (by omega)]; exact h i j hi hij hj
omit O in
theorem keep_cross {d1 d2 : Array Nat} {mid e f g : Nat} (hp : PermIn a mid d1 d2) (h : Cross e f g d1) (hm : mid ≤ e := by omega) : Cross e f g d2 := fun i j hi hi' hj hj' => by
 rw [hp.2.1 i (by omega), hp.2.1 j (by omega)]; exact h i j hi hi' hj hj'
omit O in
theorem joined {d0 d1 d2 : Array Nat} {mid : Nat} (h1 : a ≤ mid) (h2 : mid ≤ b) (hb : b ≤ d0.size) (hx : ∀ i j, a ≤ i → i < mid → mid ≤ j → j < b → R d0[i]! d0[j]!)
  (p1 : PermIn a mid d0 d1) (s1 : SortedR R a mid d1) (p2 : PermIn mid b d1 d2) (s2 : SortedR R mid b d2) : PermIn a b d0 d2 ∧ SortedR R a b d2 := by
 have hz1 : d1.size = d0.size := p1.1
 refine ⟨permIn_trans _ _ _ _ _ (permIn_mono _ _ _ _ _ _ (Nat.le_refl _) h2 hb p1) (permIn_mono _ _ _ _ _ _ h1 (Nat.le_refl _) (by omega) p2), ?_⟩
 intro i j hi hij hj
 by_cases c1 : j < mid
 ·rw [p2.2.1 i (by omega), p2.2.1 j (by omega)]; exact s1 _ _ hi hij c1
 ·by_cases c2 : mid ≤ i
  ·exact s2 _ _ c2 hij hj
  ·rw [p2.2.1 i (by omega)]
   have q1 : ∀ i, a ≤ i → i < mid → ∀ j, mid ≤ j → j < b → R d1[i]! d0[j]! :=
    permIn_all d0 d1 a mid (fun x => ∀ j, mid ≤ j → j < b → R x d0[j]!) (by omega) p1 (fun i hi hi' j hj hj' => hx i j hi hi' hj hj')
   have q2 : ∀ j, mid ≤ j → j < b → R d1[i]! d2[j]! :=
    permIn_all d1 d2 mid b (fun y => R d1[i]! y) (by omega) p2 (fun j hj hj' => by rw [p1.2.1 j (by omega)]; exact q1 i hi (by omega) j hj hj')
   exact q2 j (by omega) hj
end
end Go.Stab
namespace Go.Stab
open Go.Sort
def Blocks (R : Nat → Nat → Prop) (s lo hi : Nat) (d : Array Nat) : Prop :=
 (∀ i, lo ≤ i → i < hi → d[i]! / s = i / s) ∧ ∀ i j, lo ≤ i → i < j → j < hi → i / s = j / s → R d[i]! d[j]!
section
variable {R : Nat → Nat → Prop} {s lo hi : Nat} {d d' : Array Nat}
theorem div_eq_of {i q s : Nat} (h1 : q * s ≤ i) (h2 : i < q * s + s) : i / s = q :=
 Nat.div_eq_of_lt_le h1 (by rw [Nat.succ_mul]; exact h2)
theorem div_bounds {i s : Nat} (hs : 0 < s) : i / s * s ≤ i ∧ i < i / s * s + s :=
 ⟨Nat.div_mul_le_self i s, by have := Nat.lt_mul_div_succ i hs; rw [Nat.mul_comm, Nat.add_mul, Nat.one_mul] at this; exact this⟩
theorem perm_class {a b q : Nat} (hb : b ≤ d.size) (hp : PermIn a b d d') (h : ∀ i, a ≤ i → i < b → d[i]! / s = q) : ∀ i, a ≤ i → i < b → d'[i]! / s = q :=
 permIn_all d d' a b (fun x => x / s = q) hb hp h
theorem blocks_ins {q n : Nat} (hs : 0 < s) (hn : n ≤ d.size) (hlo : Blocks R s 0 (q * s) d) (hid : ∀ i, q * s ≤ i → i < n → d[i]! = i) {b : Nat} (hb1 : q * s ≤ b) (hb2 : b ≤ q * s + s) (hb3 : b ≤ n)
  (hp : PermIn (q * s) b d d') (hsr : SortedR R (q * s) b d') : Blocks R s 0 b d' ∧ (∀ i, b ≤ i → i < n → d'[i]! = i) ∧ d'.size = d.size := by
 have hcl : ∀ i, q * s ≤ i → i < b → d'[i]! / s = q := perm_class (s := s) (by omega) hp fun i hi hi' => by rw [hid i hi (by omega)]; exact div_eq_of hi (by omega)
 refine ⟨⟨fun i _ hi => ?_, fun i j _ hij hj he => ?_⟩, fun i hi hi' => by rw [hp.2.1 i (by omega)]; exact hid i (by omega) hi', hp.1⟩
 ·by_cases c : i < q * s
  ·rw [hp.2.1 i (by omega)]; exact hlo.1 i (by omega) c
  ·rw [hcl i (by omega) hi, div_eq_of (show q * s ≤ i by omega) (by omega)]
 ·by_cases c : j < q * s
  ·rw [hp.2.1 i (by omega), hp.2.1 j (by omega)]; exact hlo.2 i j (by omega) hij c he
  ·by_cases c2 : q * s ≤ i
   ·exact hsr i j c2 hij hj
   ·exfalso
    have e1 : j / s = q := div_eq_of (by omega) (by omega)
    have := (div_bounds (i := i) hs).2
    rw [he, e1] at this
    have h3 : i < q * s := by omega
    have := (Nat.div_lt_iff_lt_mul hs).2 h3
    omega
theorem blocks_merge {q n : Nat} (hs : 0 < s) (hn : n ≤ d.size) (hlo : Blocks R (2 * s) 0 (q * (2 * s)) d) (hhi : Blocks R s (q * (2 * s)) n d) {b : Nat} (hb1 : q * (2 * s) + s < b) (hb2 : b ≤ q * (2 * s) + 2 * s) (hb3 : b ≤ n) :
  (SortedR R (q * (2 * s)) (q * (2 * s) + s) d ∧ SortedR R (q * (2 * s) + s) b d ∧ Cross (q * (2 * s)) (q * (2 * s) + s) b d) ∧
  ∀ d', PermIn (q * (2 * s)) b d d' → SortedR R (q * (2 * s)) b d' → Blocks R (2 * s) 0 b d' ∧ Blocks R s b n d' ∧ d'.size = d.size := by
 have eA : q * (2 * s) = (2 * q) * s := by rw [← Nat.mul_assoc, Nat.mul_comm q 2]
 have dl : ∀ i, q * (2 * s) ≤ i → i < q * (2 * s) + s → i / s = 2 * q := fun i h1 h2 => div_eq_of (by omega) (by omega)
 have eB : (2 * q + 1) * s = (2 * q) * s + s := by rw [Nat.add_mul, Nat.one_mul]
 have dr : ∀ i, q * (2 * s) + s ≤ i → i < q * (2 * s) + 2 * s → i / s = 2 * q + 1 := fun i h1 h2 => div_eq_of (by omega) (by omega)
 refine ⟨⟨fun i j hi hij hj => hhi.2 i j hi hij (by omega) (by rw [dl i hi (by omega), dl j (by omega) hj]), fun i j hi hij hj => hhi.2 i j (by omega) hij (by omega) (by rw [dr i hi (by omega), dr j (by omega) (by omega)]), ?_⟩, ?_⟩
 ·intro i j hi hi' hj hj'
  have h1 := hhi.1 i hi (by omega)
  have h2 := hhi.1 j (by omega) (by omega)
  rw [dl i hi hi'] at h1
  rw [dr j hj (by omega)] at h2
  refine Nat.lt_of_not_le fun hle => ?_
  have := Nat.div_le_div_right (c := s) hle
  omega
 ·intro d' hp hsr
  have hcl : ∀ i, q * (2 * s) ≤ i → i < b → d'[i]! / (2 * s) = q := perm_class (s := 2 * s) (by omega) hp fun i hi hi' => by
   have h1 := hhi.1 i hi (by omega)
   have : i / s / 2 = q := by
    by_cases c : i < q * (2 * s) + s
    ·rw [dl i hi c]; omega
    ·rw [dr i (by omega) (by omega)]; omega
   rw [show 2 * s = s * 2 from Nat.mul_comm .., ← Nat.div_div_eq_div_mul, h1, this]
  refine ⟨⟨fun i _ hi => ?_, fun i j _ hij hj he => ?_⟩, ⟨fun i hi hi' => ?_, fun i j hi hij hj he => ?_⟩, hp.1⟩
  ·by_cases c : i < q * (2 * s)
   ·rw [hp.2.1 i (by omega)]; exact hlo.1 i (by omega) c
   ·rw [hcl i (by omega) hi, div_eq_of (show q * (2 * s) ≤ i by omega) (by omega)]
  ·by_cases c : j < q * (2 * s)
   ·rw [hp.2.1 i (by omega), hp.2.1 j (by omega)]; exact hlo.2 i j (by omega) hij c he
   ·by_cases c2 : q * (2 * s) ≤ i
    ·exact hsr i j c2 hij hj
    ·exfalso
     have e1 : j / (2 * s) = q := div_eq_of (by omega) (by omega)
     have h3 : i < q * (2 * s) := by omega
     have := (Nat.div_lt_iff_lt_mul (show 0 < 2 * s by omega)).2 h3
     omega
  ·rw [hp.2.1 i (by omega)]; exact hhi.1 i (by omega) hi'
  ·rw [hp.2.1 i (by omega), hp.2.1 j (by omega)]; exact hhi.2 i j (by omega) hij hj he
theorem blocks_rest {q n : Nat} (hs : 0 < s) (hlo : Blocks R (2 * s) 0 (q * (2 * s)) d) (hhi : Blocks R s (q * (2 * s)) n d) (hn : n ≤ q * (2 * s) + s) : Blocks R (2 * s) 0 n d := by
 have eA : q * (2 * s) = (2 * q) * s := by rw [← Nat.mul_assoc, Nat.mul_comm q 2]
 have dl : ∀ i, q * (2 * s) ≤ i → i < q * (2 * s) + s → i / s = 2 * q := fun i h1 h2 => div_eq_of (by omega) (by omega)
 refine ⟨fun i _ hi => ?_, fun i j _ hij hj he => ?_⟩
 ·by_cases c : i < q * (2 * s)
  ·exact hlo.1 i (by omega) c
  ·rw [show 2 * s = s * 2 from Nat.mul_comm .., ← Nat.div_div_eq_div_mul, ← Nat.div_div_eq_div_mul, hhi.1 i (by omega) hi]
 ·by_cases c : j < q * (2 * s)
  ·exact hlo.2 i j (by omega) hij c he
  ·by_cases c2 : q * (2 * s) ≤ i
   ·exact hhi.2 i j c2 hij hj (by rw [dl i c2 (by omega), dl j (by omega) (by omega)])
   ·exfalso
    have e1 : j / (2 * s) = q := div_eq_of (by omega) (by omega)
    have h3 : i < q * (2 * s) := by omega
    have := (Nat.div_lt_iff_lt_mul (show 0 < 2 * s by omega)).2 h3
    omega
theorem blocks_all {n : Nat} (h : Blocks R s 0 n d) (hn : n ≤ s) : SortedR R 0 n d := fun i j _ hij hj =>
 h.2 i j (by omega) hij hj (by rw [Nat.div_eq_of_lt (by omega), Nat.div_eq_of_lt (by omega)])
end
/-! ### What the whole comes to -/
section
variable {α : Type} [Inhabited α] (lt : α → α → Bool) (d : Array α)
def lexR (s t : Nat) : Prop := lt d[s]! d[t]! = true ∨ (lt d[t]! d[s]! = false ∧ s < t)
theorem lexR_ord (hO : SWO lt) : Ord (lexR lt d) where
 irrefl x h := by
  rcases h with h | h
  ·rw [hO.irrefl] at h; cases h
  ·omega
 trans x y z h1 h2 := by
  unfold lexR at *
  cases hxz : lt d[x]! d[z]! with
  | true => exact .inl rfl
  | false =>
   right
   have key : ∀ p q r : α, lt p q = false → lt q r = false → lt p r = false := hO.ntrans
   rcases h1 with h1 | ⟨h1, h1'⟩ <;> rcases h2 with h2 | ⟨h2, h2'⟩
   ·rw [hO.trans _ _ _ h1 h2] at hxz; cases hxz
   ·have := key _ _ _ hxz h2; rw [h1] at this; cases this
   ·have := key _ _ _ h1 hxz; rw [h2] at this; cases this
   ·exact ⟨key _ _ _ h2 h1, by omega⟩
 total x y hne := by
  unfold lexR
  cases h1 : lt d[x]! d[y]! with
  | true => exact .inl (.inl rfl)
  | false =>
   cases h2 : lt d[y]! d[x]! with
   | true => exact .inr (.inl rfl)
   | false => rcases Nat.lt_or_ge x y with h | h
              ·exact .inl (.inr ⟨rfl, h⟩)
              ·exact .inr (.inr ⟨rfl, by omega⟩)
theorem lexR_later {x y : Nat} (h : x < y) : lexR lt d y x ↔ lt d[y]! d[x]! = true := by
 unfold lexR
 exact ⟨fun h' => h'.resolve_right (fun h'' => by omega), .inl⟩
theorem zip_range : (List.range d.size).map (fun t => (d[t]!, t)) = d.toList.zipIdx := by
 apply List.ext_getElem?
 intro i
 rw [List.getElem?_map, List.getElem?_zipIdx]
 by_cases h : i < d.size
 ·simp [h]
 ·simp [h]
theorem map_fst_range (l : List Nat) : (l.map fun t => (d[t]!, t)).map (·.1) = l.map fun t => d[t]! := by simp
theorem sorted_is (hO : SWO lt) {p : Array Nat} (hp : PermIn 0 d.size (Array.range d.size) p) (hs : SortedR (lexR lt d) 0 d.size p) :
  p.toList.map (fun t => d[t]!) = d.toList.mergeSort (fun x y => !lt y x) := by
 have hsz : p.size = d.size := by rw [hp.1]; simp
 have hperm : p.toList.Perm (List.range d.size) := by
  have := hp.2.2
  have e1 : (p.extract 0 d.size).toList = p.toList := by rw [← hsz]; simp
  have e2 : ((Array.range d.size).extract 0 d.size).toList = List.range d.size := by simp
  rwa [e1, e2] at this
 rw [← List.mergeSort_zipIdx, ← map_fst_range]
 congr 1
 have htr : ∀ (a b c : α), (!lt b a) = true → (!lt c b) = true → (!lt c a) = true := by
  intro a b c h1 h2
  simp only [Bool.not_eq_true'] at *
  exact hO.ntrans _ _ _ h2 h1
 have hto : ∀ (a b : α), ((!lt b a) || (!lt a b)) = true := by
  intro a b
  cases h1 : lt b a with
  | false => rfl
  | true => cases h2 : lt a b with
            | false => rfl
            | true => have := hO.trans _ _ _ h1 h2; rw [hO.irrefl] at this; cases this
 refine List.Perm.eq_of_pairwise (le := fun x y => List.zipIdxLE (fun x y => !lt y x) x y = true) ?_ ?_ ?_ ?_
 ·intro a b ha hb h1 h2
  obtain ⟨s, _, rfl⟩ := List.mem_map.1 ha
  have hb' : b ∈ d.toList.zipIdx := (List.mergeSort_perm _ _).mem_iff.1 hb
  rw [← zip_range] at hb'
  obtain ⟨t, _, rfl⟩ := List.mem_map.1 hb'
  have : s = t := by
   simp only [List.zipIdxLE] at h1 h2
   cases c1 : lt d[t]! d[s]! <;> cases c2 : lt d[s]! d[t]! <;> simp [c1, c2] at h1 h2
   omega
  rw [this]
 ·refine List.pairwise_map.2 ?_
  rw [List.pairwise_iff_getElem]
  intro i j hi hj hij
  have hi' : i < p.size := by simpa using hi
  have hj' : j < p.size := by simpa using hj
  have := hs i j (by omega) hij (by omega)
  rw [getElem!_pos p i hi', getElem!_pos p j hj'] at this
  simp only [Array.getElem_toList]
  unfold lexR at this
  simp only [List.zipIdxLE]
  rcases this with h | ⟨h, h'⟩
  ·have h2 : lt d[p[j]]! d[p[i]]! = false := by
    cases h3 : lt d[p[j]]! d[p[i]]! with
    | false => rfl
    | true => have := hO.trans _ _ _ h h3; rw [hO.irrefl] at this; cases this
   simp [h, h2]
  ·simp [h]; right; omega
 ·exact List.pairwise_mergeSort (fun a b c => List.zipIdxLE_trans htr a b c) (fun a b => List.zipIdxLE_total hto a b) _
 ·refine ((hperm.map _).trans ?_).trans (List.mergeSort_perm _ _).symm
  rw [zip_range]
end
end Go.Stab
namespace Go.Proofs.YtmmfjknnbkcniaaGreatDoor
open Go.Shelf Go.RowKit Go.Lib Go.Sort Go.Stab
set_option linter.unusedVariables false
set_option linter.unusedSimpArgs false
section
variable {enc : Nat → List Value} {k blk off cap : Nat} {d0 : Array Nat} {w0 : World}
def SwapPostE (enc : Nat → List Value) (k : Nat) (w0 : World) (blk off a b n : Nat) (d : Array Nat) (e : Ending) (w' : World) : Prop :=
 e = .returned (.tuple #[]) ∧ ∃ d' : Array Nat, SWK enc k w0 blk off d' w' ∧ d'.size = d.size ∧ (∀ t, d'[t]! = swrF (fun t => d[t]!) a b n t) ∧ PermIn a (b + n) d d'
def RotPostE (enc : Nat → List Value) (k : Nat) (w0 : World) (blk off a m b : Nat) (d : Array Nat) (e : Ending) (w' : World) : Prop :=
 e = .returned (.tuple #[]) ∧ ∃ d' : Array Nat, SWK enc k w0 blk off d' w' ∧ d'.size = d.size ∧ (∀ t, d'[t]! = rotF (fun t => d[t]!) a m b t) ∧ PermIn a b d d'
theorem swapRangeE (aE : ∀ w, (isAgg 34).run Tryz.prog w = .ok true w) (zE : ∀ w, (Go.sizeOf 34).run Tryz.prog w = .ok k w) (g : Nat) (cb : Array Value) (a b n : Nat) (d : Array Nat) (w : World) (R : RowK enc k w0 blk off d0) (hs : d0.size = d.size) (S : SWK enc k w0 blk off d w) (hab : a + n ≤ b) (hb : b + n ≤ d.size) (hsz : d.size < 2305843009213693952) :
  Calls Tryz.prog 143 #[.slice (some ⟨blk, off, none⟩) d.size cap, .int .i64 a, .int .i64 b, .int .i64 n, .func (.func g) #[] cb] w (SwapPostE enc k w0 blk off a b n d) := by
 have S0 : Aside (SWK enc k w0 blk off d w) := S
 clear S
 go_enter Tryz.func143, Tryz.ntmps143
 go_wp2
 go_loopg [10] n (fun kx s10 wr => ∃ (i : Nat) (dk : Array Nat), s10 = .int .i64 i ∧ i ≤ n ∧ n - i ≤ kx ∧ dk.size = d.size ∧ Aside (SWK enc k w0 blk off dk wr) ∧ Hid (∀ t, dk[t]! = swrF (fun t => d[t]!) a b i t) ∧ Hid (PermIn a (b + n) d dk))
 case atStart => exact ⟨0, d, rfl, by omega, by omega, rfl, S0, (fun t => (swrF_zero _ a b t).symm), permIn_refl _ _ _⟩
 case round =>
  clear S0
  obtain ⟨i, dk, rfl, hi, hkx, hds, S1, HD, HP⟩ := hrel
  by_cases hlt : i < n
  ·have hltz : (i : Int) < (n : Int) := by omega
   have ea1 : ((a : Int) + (i : Int)).toNat = a + i := by omega
   have pa1 : (0 : Int) ≤ (a : Int) + (i : Int) := by omega
   have ba1 : (a : Int) + (i : Int) < (d.size : Int) := by omega
   have ra1 : IntKind.i64.wrap ((a : Int) + (i : Int)) = (a : Int) + (i : Int) := by rw [IntKind.wrap_i64]; omega
   have ec1 : ((b : Int) + (i : Int)).toNat = b + i := by omega
   have pc1 : (0 : Int) ≤ (b : Int) + (i : Int) := by omega
   have bc1 : (b : Int) + (i : Int) < (d.size : Int) := by omega
   have rc1 : IntKind.i64.wrap ((b : Int) + (i : Int)) = (b : Int) + (i : Int) := by rw [IntKind.wrap_i64]; omega
   have S2 : Aside (SWK enc k w0 blk off (swp dk (a + i) (b + i)) ((wr.drew.setCells blk (off + (a + i) * k) (enc dk[b + i]!)).setCells blk (off + (b + i) * k) (enc dk[a + i]!))) := S1.out.swapped R (a + i) (b + i) (by omega) (by omega)
   have l1a := S1.out.ld1 R (by omega) Tryz.prog (a + i) (by omega)
   have l1b := S1.out.ld1 R (by omega) Tryz.prog (b + i) (by omega)
   have s1a := S1.out.st1 R (by omega) Tryz.prog (a + i) (by omega) dk[b + i]!
   have s1b := S1.out.st2 R (by omega) Tryz.prog (a + i) (b + i) (by omega) (by omega) dk[b + i]! dk[a + i]!
   have n1a : (enc dk[a + i]!).length = k := R.hk _
   have n1b : (enc dk[b + i]!).length = k := R.hk _
   generalize enc dk[a + i]! = cI1 at S2 l1a s1b n1a
   generalize enc dk[b + i]! = cJ1 at S2 l1b s1a s1b n1b
   clear S1
   go_wp2_with fail
   go_big_region
   clear l1a l1b s1a s1b
   generalize (wr.drew.setCells blk (off + (a + i) * k) cJ1).setCells blk (off + (b + i) * k) cI1 = w2 at S2 ⊢
   go_wp2
   go_roundg (n - (i + 1))
   case measure => omega
   case rel =>
    refine ⟨i + 1, swp dk (a + i) (b + i), by go_num, by omega, Nat.le_refl _, by rw [size_swp]; exact hds, S2, (fun t => ?_), permIn_trans _ _ _ _ _ HP.out (swp_permIn _ _ _ _ _ (by omega) (by omega) (by omega) (by omega) (by omega))⟩
    rw [swp_get dk (by omega) (by omega), HD.out (a + i), HD.out (b + i), HD.out t]
    exact swrF_succ _ (by omega) t
  ·have hltz : ¬ (i : Int) < (n : Int) := by omega
   have hin : i = n := by omega
   subst hin
   go_wp2
   go_end0
   exact ⟨rfl, dk, S1.out, hds, HD.out, HP.out⟩
theorem rotateE (aE : ∀ w, (isAgg 34).run Tryz.prog w = .ok true w) (zE : ∀ w, (Go.sizeOf 34).run Tryz.prog w = .ok k w) (g : Nat) (cb : Array Value) (a m b : Nat) (d : Array Nat) (w : World) (R : RowK enc k w0 blk off d0) (hs : d0.size = d.size) (S : SWK enc k w0 blk off d w) (ham : a < m) (hmb : m < b) (hb : b ≤ d.size) (hsz : d.size < 2305843009213693952) :
  Calls Tryz.prog 122 #[.slice (some ⟨blk, off, none⟩) d.size cap, .int .i64 a, .int .i64 m, .int .i64 b, .func (.func g) #[] cb] w (RotPostE enc k w0 blk off a m b d) := by
 have S0 : Aside (SWK enc k w0 blk off d w) := S
 clear S
 go_enter Tryz.func122, Tryz.ntmps122
 go_wp2
 go_loopg [10, 11] b (fun kx s10 s11 wr => ∃ (i j : Nat) (dk : Array Nat), s10 = .int .i64 i ∧ s11 = .int .i64 j ∧ 0 < i ∧ 0 < j ∧ a + i ≤ m ∧ m + j ≤ b ∧ i + j ≤ kx ∧ dk.size = d.size ∧ Aside (SWK enc k w0 blk off dk wr) ∧ Hid (∀ t, rotF (fun t => dk[t]!) (m - i) m (m + j) t = rotF (fun t => d[t]!) a m b t) ∧ Hid (PermIn a b d dk))
 case atStart => exact ⟨m - a, b - m, d, by go_num, by go_num, by omega, by omega, by omega, by omega, by omega, rfl, S0, (fun t => by rw [show m - (m - a) = a by omega, show m + (b - m) = b by omega]), permIn_refl _ _ _⟩
 case round =>
  clear S0
  obtain ⟨i, j, dk, rfl, rfl, hi, hj, hai, hjb, hkx, hds, S1, HD, HP⟩ := hrel
  have e1 : (m : Int) - (i : Int) = ((m - i : Nat) : Int) := by omega
  have r1 : IntKind.i64.wrap ((m : Int) - (i : Int)) = (m : Int) - (i : Int) := by rw [IntKind.wrap_i64]; omega
  by_cases hij : i = j
  ·subst hij
   go_wp2_with fail
   rw [← hds]
   refine (swapRangeE aE zE g cb (m - i) m i dk _ R (by omega) S1.out (by omega) (by omega) (by omega)).mono ?_
   rintro e w1 ⟨rfl, d1, S2, hd1, HD1, HP1⟩
   go_wp2_with fail
   go_end0
   refine ⟨rfl, d1, S2, by rw [hd1]; exact hds, fun t => ?_, permIn_trans _ _ _ _ _ HP.out (permIn_mono _ _ _ _ _ _ (by omega) (by omega) (by omega) HP1)⟩
   rw [HD1, rot_end _ (by omega)]; exact HD.out t
  ·by_cases hlt : j < i
   ·have hne : ((i : Int) == (j : Int)) = false := by simp; omega
    have hltz : (j : Int) < (i : Int) := by omega
    clear hij
    go_wp2_with fail
    rw [← hds]
    refine (swapRangeE aE zE g cb (m - i) m j dk _ R (by omega) S1.out (by omega) (by omega) (by omega)).mono ?_
    rintro e w1 ⟨rfl, d1, S2, hd1, HD1, HP1⟩
    have S2' : Aside (SWK enc k w0 blk off d1 w1) := S2
    clear S1 S2
    go_wp2_with fail
    go_roundg (i - j + j)
    case measure => omega
    case rel =>
     refine ⟨i - j, j, d1, by go_num, rfl, by omega, hj, by omega, hjb, Nat.le_refl _, by omega, S2', (fun t => ?_), permIn_trans _ _ _ _ _ HP.out (permIn_mono _ _ _ _ _ _ (by omega) (by omega) (by omega) HP1)⟩
     rw [← HD.out t, ← rot_left (fun t => dk[t]!) (m := m) (i := i) (j := j) (by omega) hlt t]
     exact rotF_congr HD1 _ _ _ t
   ·have hne : ((i : Int) == (j : Int)) = false := by simp; omega
    have hltz : ¬ (j : Int) < (i : Int) := by omega
    have e2 : (m : Int) + (j : Int) - (i : Int) = ((m + j - i : Nat) : Int) := by omega
    have hgt : i < j := by omega
    clear hij
    go_wp2_with fail
    rw [← hds]
    refine (swapRangeE aE zE g cb (m - i) (m + j - i) i dk _ R (by omega) S1.out (by omega) (by omega) (by omega)).mono ?_
    rintro e w1 ⟨rfl, d1, S2, hd1, HD1, HP1⟩
    have S2' : Aside (SWK enc k w0 blk off d1 w1) := S2
    clear S1 S2
    go_wp2_with fail
    go_roundg (i + (j - i))
    case measure => omega
    case rel =>
     refine ⟨i, j - i, d1, rfl, by go_num, hi, by omega, hai, by omega, Nat.le_refl _, by omega, S2', (fun t => ?_), permIn_trans _ _ _ _ _ HP.out (permIn_mono _ _ _ _ _ _ (by omega) (by omega) (by omega) HP1)⟩
     rw [← HD.out t, ← rot_right (fun t => dk[t]!) (m := m) (i := i) (j := j) (by omega) hgt t]
     exact rotF_congr HD1 _ _ _ t
end
end Go.Proofs.YtmmfjknnbkcniaaGreatDoor
