/- weirref06.Line: what it answers. -/
import Derived.Test.YtllphokepjekpaaLineS
import Derived.Test.YtllphokepjekpaaMeanR
namespace Go.Proofs.Ytllphokepjekpaa
open Go.Fl Go.Rel Go.RowKit

/-- Two lists under way lie in different blocks. -/
def Apart (u v : Value) : Prop := ∀ k, u.ownBlock = some k → v.ownBlock = some k → False
theorem Apart.symm {u v : Value} (h : Apart u v) : Apart v u := fun k h1 h2 => h k h2 h1

theorem Own.other {B : Nat} {w w' : World} {u v v' : Value} {zs : List Nat} (hu : Own B w u zs) (hap : Apart u v) (hg : w.grownBy w' v.ownBlock) (hb : v'.ownBlock = v.ownBlock ∨ v'.ownBlock = some w.heap.size) : Own B w' u zs ∧ Apart u v' := by
  constructor
  · refine Own.kept hu hg ?_
    cases h : u.ownBlock with
    | none => exact .inl rfl
    | some k => exact .inr fun e => hap k h e.symm
  · intro k h1 h2
    rcases hb with hb | hb
    · exact hap k h1 (hb ▸ h2)
    · rw [hb] at h2
      have := (World.ownsRow.lt hu k h1).2
      cases h2
      omega

/-- Are all values up to k the first one? -/
def lvK (vs : List Nat) : Nat → Bool
  | 0 => true
  | k + 1 => lvK vs k && !(decide (0 < k) && fne (at0 vs k) (at0 vs 0))

theorem lvK_true (vs : List Nat) : ∀ k, lvK vs k = true ↔ ∀ j, 0 < j → j < k → fne (at0 vs j) (at0 vs 0) = false
  | 0 => ⟨fun _ j _ hj => by omega, fun _ => rfl⟩
  | k + 1 => by
    rw [lvK, Bool.and_eq_true, lvK_true vs k, Bool.not_eq_true', Bool.and_eq_false_iff, decide_eq_false_iff_not]
    constructor
    · rintro ⟨h1, h2⟩ j h3 h4
      by_cases hj : j = k
      · subst hj; exact h2.resolve_left (by omega)
      · exact h1 j h3 (by omega)
    · intro h
      refine ⟨fun j h1 h2 => h j h1 (by omega), ?_⟩
      by_cases hk : 0 < k
      · exact .inr (h k hk (by omega))
      · exact .inl hk

theorem lvK_level (vs : List Nat) (h0 : 0 < vs.length) : lvK vs vs.length = levelS vs := by
  rw [Bool.eq_iff_iff, lvK_true]
  unfold levelS
  rw [Bool.or_eq_true, beq_iff_eq, Bool.not_eq_true']
  constructor
  · intro h
    by_cases h1 : vs.length = 1
    · exact .inl h1
    · right
      refine anyNe_false fun j hj => ?_
      by_cases hj0 : j = 0
      · subst hj0
        -- the first one is held against itself: it is no NaN, or the second one would not be equal to it
        have h2 := h 1 (by omega) (by omega)
        cases hN : isN (at0 vs 0)
        · unfold fne; rw [ford_self hN]; rfl
        · unfold fne at h2; rw [ford_N2 _ hN] at h2; cases h2
      · exact h j (by omega) hj
  · rintro (h | h) j h1 h2
    · omega
    · unfold anyNe at h
      rw [List.any_eq_false] at h
      have := h (at0 vs j) (by simp [at0, List.getD, h2])
      simpa using this

theorem map_take_snoc {f : Nat → Nat} {ps ys : List Nat} {k r : Nat} (h : ps.map f = ys.take k) (hk : k < ys.length) (hr : f r = at0 ys k) : (ps ++ [r]).map f = ys.take (k + 1) := by
  rw [take_snoc ys k hk, List.map_append, h]; simp [hr]

def RLineRel (ts vs : List Nat) (n B : Nat) (w : World) (lv v7 v8 v9 v10 i : Value) (wr : World) : Prop :=
  ∃ k l7 l8 l9 l10, k ≤ n ∧ lv = .bool (lvK vs k) ∧ i = .int .i64 (k : Int) ∧ (Own B wr v7 l7 ∧ Own B wr v8 l8 ∧ Own B wr v9 l9 ∧ Own B wr v10 l10) ∧
    (Apart v7 v8 ∧ Apart v7 v9 ∧ Apart v7 v10 ∧ Apart v8 v9 ∧ Apart v8 v10 ∧ Apart v9 v10) ∧
    Hid (l7.map cn = ts.take k ∧ l8.map cn = vs.take k ∧ l9.map cn = (muls ts vs).take k ∧ l10.map cn = (muls ts ts).take k) ∧ Below B w wr

theorem apart_nil (v : Value) : Apart (.slice none 0 0) v := fun k h => by cases h

end Go.Proofs.Ytllphokepjekpaa
