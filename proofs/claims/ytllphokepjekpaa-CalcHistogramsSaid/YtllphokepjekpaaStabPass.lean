/- The plain theory of the stable sort's passes over blocks, and what the whole comes to: the list's merge sort. No program. -/
import Derived.Test.YtllphokepjekpaaStab
namespace Go.Stab
open Go.Sort

/-- Blocks of size s from lo to hi: each number in its own block, each block sorted. -/
def Blocks (R : Nat → Nat → Prop) (s lo hi : Nat) (d : Array Nat) : Prop :=
  (∀ i, lo ≤ i → i < hi → d[i]! / s = i / s) ∧ ∀ i j, lo ≤ i → i < j → j < hi → i / s = j / s → R d[i]! d[j]!

section
variable {R : Nat → Nat → Prop} {s lo hi : Nat} {d d' : Array Nat}

theorem div_eq_of {i q s : Nat} (h1 : q * s ≤ i) (h2 : i < q * s + s) : i / s = q :=
  Nat.div_eq_of_lt_le h1 (by rw [Nat.succ_mul]; exact h2)

theorem div_bounds {i s : Nat} (hs : 0 < s) : i / s * s ≤ i ∧ i < i / s * s + s :=
  ⟨Nat.div_mul_le_self i s, by have := Nat.lt_mul_div_succ i hs; rw [Nat.mul_comm, Nat.add_mul, Nat.one_mul] at this; exact this⟩

/-- The places that a permutation of a part gives stay within a class of the part. -/
theorem perm_class {a b q : Nat} (hb : b ≤ d.size) (hp : PermIn a b d d') (h : ∀ i, a ≤ i → i < b → d[i]! / s = q) : ∀ i, a ≤ i → i < b → d'[i]! / s = q :=
  permIn_all d d' a b (fun x => x / s = q) hb hp h

/-- The blocks of a row that holds just its own places. -/
theorem blocks_start (n : Nat) : Blocks R 1 0 n (Array.range n) := by
  refine ⟨fun i _ hi => by simp [hi], fun i j _ hij hj h => ?_⟩
  rw [Nat.div_one, Nat.div_one] at h; omega

/-- One block sorted: what is ahead of it is one block longer. -/
theorem blocks_ins {q n : Nat} (hs : 0 < s) (hn : n ≤ d.size) (hlo : Blocks R s 0 (q * s) d) (hid : ∀ i, q * s ≤ i → i < n → d[i]! = i) {b : Nat} (hb1 : q * s ≤ b) (hb2 : b ≤ q * s + s) (hb3 : b ≤ n)
    (hp : PermIn (q * s) b d d') (hsr : SortedR R (q * s) b d') : Blocks R s 0 b d' ∧ (∀ i, b ≤ i → i < n → d'[i]! = i) ∧ d'.size = d.size := by
  have hcl : ∀ i, q * s ≤ i → i < b → d'[i]! / s = q := perm_class (s := s) (by omega) hp fun i hi hi' => by rw [hid i hi (by omega)]; exact div_eq_of hi (by omega)
  refine ⟨⟨fun i _ hi => ?_, fun i j _ hij hj he => ?_⟩, fun i hi hi' => by rw [hp.2.1 i (by omega)]; exact hid i (by omega) hi', hp.1⟩
  · by_cases c : i < q * s
    · rw [hp.2.1 i (by omega)]; exact hlo.1 i (by omega) c
    · rw [hcl i (by omega) hi, div_eq_of (show q * s ≤ i by omega) (by omega)]
  · by_cases c : j < q * s
    · rw [hp.2.1 i (by omega), hp.2.1 j (by omega)]; exact hlo.2 i j (by omega) hij c he
    · by_cases c2 : q * s ≤ i
      · exact hsr i j c2 hij hj
      · exfalso
        have e1 : j / s = q := div_eq_of (by omega) (by omega)
        have := (div_bounds (i := i) hs).2
        rw [he, e1] at this
        have h3 : i < q * s := by omega
        have := (Nat.div_lt_iff_lt_mul hs).2 h3
        omega

/-- Two blocks merged. -/
theorem blocks_merge {q n : Nat} (hs : 0 < s) (hn : n ≤ d.size) (hlo : Blocks R (2 * s) 0 (q * (2 * s)) d) (hhi : Blocks R s (q * (2 * s)) n d) {b : Nat} (hb1 : q * (2 * s) + s < b) (hb2 : b ≤ q * (2 * s) + 2 * s) (hb3 : b ≤ n) :
    (SortedR R (q * (2 * s)) (q * (2 * s) + s) d ∧ SortedR R (q * (2 * s) + s) b d ∧ Cross (q * (2 * s)) (q * (2 * s) + s) b d) ∧
    ∀ d', PermIn (q * (2 * s)) b d d' → SortedR R (q * (2 * s)) b d' → Blocks R (2 * s) 0 b d' ∧ Blocks R s b n d' ∧ d'.size = d.size := by
  have eA : q * (2 * s) = (2 * q) * s := by rw [← Nat.mul_assoc, Nat.mul_comm q 2]
  have dl : ∀ i, q * (2 * s) ≤ i → i < q * (2 * s) + s → i / s = 2 * q := fun i h1 h2 => div_eq_of (by omega) (by omega)
  have eB : (2 * q + 1) * s = (2 * q) * s + s := by rw [Nat.add_mul, Nat.one_mul]
  have dr : ∀ i, q * (2 * s) + s ≤ i → i < q * (2 * s) + 2 * s → i / s = 2 * q + 1 := fun i h1 h2 => div_eq_of (by omega) (by omega)
  refine ⟨⟨fun i j hi hij hj => hhi.2 i j hi hij (by omega) (by rw [dl i hi (by omega), dl j (by omega) hj]), fun i j hi hij hj => hhi.2 i j (by omega) hij (by omega) (by rw [dr i hi (by omega), dr j (by omega) (by omega)]), ?_⟩, ?_⟩
  · intro i j hi hi' hj hj'
    have h1 := hhi.1 i hi (by omega)
    have h2 := hhi.1 j (by omega) (by omega)
    rw [dl i hi hi'] at h1
    rw [dr j hj (by omega)] at h2
    refine Nat.lt_of_not_le fun hle => ?_
    have := Nat.div_le_div_right (c := s) hle
    omega
  · intro d' hp hsr
    have hcl : ∀ i, q * (2 * s) ≤ i → i < b → d'[i]! / (2 * s) = q := perm_class (s := 2 * s) (by omega) hp fun i hi hi' => by
      have h1 := hhi.1 i hi (by omega)
      have : i / s / 2 = q := by
        by_cases c : i < q * (2 * s) + s
        · rw [dl i hi c]; omega
        · rw [dr i (by omega) (by omega)]; omega
      rw [show 2 * s = s * 2 from Nat.mul_comm .., ← Nat.div_div_eq_div_mul, h1, this]
    refine ⟨⟨fun i _ hi => ?_, fun i j _ hij hj he => ?_⟩, ⟨fun i hi hi' => ?_, fun i j hi hij hj he => ?_⟩, hp.1⟩
    · by_cases c : i < q * (2 * s)
      · rw [hp.2.1 i (by omega)]; exact hlo.1 i (by omega) c
      · rw [hcl i (by omega) hi, div_eq_of (show q * (2 * s) ≤ i by omega) (by omega)]
    · by_cases c : j < q * (2 * s)
      · rw [hp.2.1 i (by omega), hp.2.1 j (by omega)]; exact hlo.2 i j (by omega) hij c he
      · by_cases c2 : q * (2 * s) ≤ i
        · exact hsr i j c2 hij hj
        · exfalso
          have e1 : j / (2 * s) = q := div_eq_of (by omega) (by omega)
          have h3 : i < q * (2 * s) := by omega
          have := (Nat.div_lt_iff_lt_mul (show 0 < 2 * s by omega)).2 h3
          omega
    · rw [hp.2.1 i (by omega)]; exact hhi.1 i (by omega) hi'
    · rw [hp.2.1 i (by omega), hp.2.1 j (by omega)]; exact hhi.2 i j (by omega) hij hj he

/-- The rest of a pass: a block that has no fellow. -/
theorem blocks_rest {q n : Nat} (hs : 0 < s) (hlo : Blocks R (2 * s) 0 (q * (2 * s)) d) (hhi : Blocks R s (q * (2 * s)) n d) (hn : n ≤ q * (2 * s) + s) : Blocks R (2 * s) 0 n d := by
  have eA : q * (2 * s) = (2 * q) * s := by rw [← Nat.mul_assoc, Nat.mul_comm q 2]
  have dl : ∀ i, q * (2 * s) ≤ i → i < q * (2 * s) + s → i / s = 2 * q := fun i h1 h2 => div_eq_of (by omega) (by omega)
  refine ⟨fun i _ hi => ?_, fun i j _ hij hj he => ?_⟩
  · by_cases c : i < q * (2 * s)
    · exact hlo.1 i (by omega) c
    · rw [show 2 * s = s * 2 from Nat.mul_comm .., ← Nat.div_div_eq_div_mul, ← Nat.div_div_eq_div_mul, hhi.1 i (by omega) hi]
  · by_cases c : j < q * (2 * s)
    · exact hlo.2 i j (by omega) hij c he
    · by_cases c2 : q * (2 * s) ≤ i
      · exact hhi.2 i j c2 hij hj (by rw [dl i c2 (by omega), dl j (by omega) (by omega)])
      · exfalso
        have e1 : j / (2 * s) = q := div_eq_of (by omega) (by omega)
        have h3 : i < q * (2 * s) := by omega
        have := (Nat.div_lt_iff_lt_mul (show 0 < 2 * s by omega)).2 h3
        omega

/-- One block holds all. -/
theorem blocks_all {n : Nat} (h : Blocks R s 0 n d) (hn : n ≤ s) : SortedR R 0 n d := fun i j _ hij hj =>
  h.2 i j (by omega) hij hj (by rw [Nat.div_eq_of_lt (by omega), Nat.div_eq_of_lt (by omega)])
end

/-! ### What the whole comes to -/
section
variable {α : Type} [Inhabited α] (lt : α → α → Bool) (d : Array α)

/-- The order on places: by what stands there, equals by place. -/
def lexR (s t : Nat) : Prop := lt d[s]! d[t]! = true ∨ (lt d[t]! d[s]! = false ∧ s < t)

theorem lexR_ord (hO : SWO lt) : Ord (lexR lt d) where
  irrefl x h := by
    rcases h with h | h
    · rw [hO.irrefl] at h; cases h
    · omega
  trans x y z h1 h2 := by
    unfold lexR at *
    cases hxz : lt d[x]! d[z]! with
    | true => exact .inl rfl
    | false =>
      right
      have key : ∀ p q r : α, lt p q = false → lt q r = false → lt p r = false := hO.ntrans
      rcases h1 with h1 | ⟨h1, h1'⟩ <;> rcases h2 with h2 | ⟨h2, h2'⟩
      · rw [hO.trans _ _ _ h1 h2] at hxz; cases hxz
      · have := key _ _ _ hxz h2; rw [h1] at this; cases this
      · have := key _ _ _ h1 hxz; rw [h2] at this; cases this
      · exact ⟨key _ _ _ h2 h1, by omega⟩
  total x y hne := by
    unfold lexR
    cases h1 : lt d[x]! d[y]! with
    | true => exact .inl (.inl rfl)
    | false =>
      cases h2 : lt d[y]! d[x]! with
      | true => exact .inr (.inl rfl)
      | false => rcases Nat.lt_or_ge x y with h | h
                 · exact .inl (.inr ⟨rfl, h⟩)
                 · exact .inr (.inr ⟨rfl, by omega⟩)

/-- Of two places the later one's is put ahead just where it is less. -/
theorem lexR_later {x y : Nat} (h : x < y) : lexR lt d y x ↔ lt d[y]! d[x]! = true := by
  unfold lexR
  exact ⟨fun h' => h'.resolve_right (fun h'' => by omega), .inl⟩

theorem zip_range : (List.range d.size).map (fun t => (d[t]!, t)) = d.toList.zipIdx := by
  apply List.ext_getElem?
  intro i
  rw [List.getElem?_map, List.getElem?_zipIdx]
  by_cases h : i < d.size
  · simp [h]
  · simp [h]

theorem map_fst_range (l : List Nat) : (l.map fun t => (d[t]!, t)).map (·.1) = l.map fun t => d[t]! := by simp

/-- A sorted permutation of the places: what stands there is the list's merge sort. -/
theorem sorted_is (hO : SWO lt) {p : Array Nat} (hp : PermIn 0 d.size (Array.range d.size) p) (hs : SortedR (lexR lt d) 0 d.size p) :
    p.toList.map (fun t => d[t]!) = d.toList.mergeSort (fun x y => !lt y x) := by
  have hsz : p.size = d.size := by rw [hp.1]; simp
  have hperm : p.toList.Perm (List.range d.size) := by
    have := hp.2.2
    have e1 : (p.extract 0 d.size).toList = p.toList := by rw [← hsz]; simp
    have e2 : ((Array.range d.size).extract 0 d.size).toList = List.range d.size := by simp
    rwa [e1, e2] at this
  rw [← List.mergeSort_zipIdx, ← map_fst_range]
  congr 1
  have htr : ∀ (a b c : α), (!lt b a) = true → (!lt c b) = true → (!lt c a) = true := by
    intro a b c h1 h2
    simp only [Bool.not_eq_true'] at *
    exact hO.ntrans _ _ _ h2 h1
  have hto : ∀ (a b : α), ((!lt b a) || (!lt a b)) = true := by
    intro a b
    cases h1 : lt b a with
    | false => rfl
    | true => cases h2 : lt a b with
              | false => rfl
              | true => have := hO.trans _ _ _ h1 h2; rw [hO.irrefl] at this; cases this
  refine List.Perm.eq_of_pairwise (le := fun x y => List.zipIdxLE (fun x y => !lt y x) x y = true) ?_ ?_ ?_ ?_
  · intro a b ha hb h1 h2
    obtain ⟨s, _, rfl⟩ := List.mem_map.1 ha
    have hb' : b ∈ d.toList.zipIdx := (List.mergeSort_perm _ _).mem_iff.1 hb
    rw [← zip_range] at hb'
    obtain ⟨t, _, rfl⟩ := List.mem_map.1 hb'
    have : s = t := by
      simp only [List.zipIdxLE] at h1 h2
      cases c1 : lt d[t]! d[s]! <;> cases c2 : lt d[s]! d[t]! <;> simp [c1, c2] at h1 h2
      omega
    rw [this]
  · refine List.pairwise_map.2 ?_
    rw [List.pairwise_iff_getElem]
    intro i j hi hj hij
    have hi' : i < p.size := by simpa using hi
    have hj' : j < p.size := by simpa using hj
    have := hs i j (by omega) hij (by omega)
    rw [getElem!_pos p i hi', getElem!_pos p j hj'] at this
    simp only [Array.getElem_toList]
    unfold lexR at this
    simp only [List.zipIdxLE]
    rcases this with h | ⟨h, h'⟩
    · have h2 : lt d[p[j]]! d[p[i]]! = false := by
        cases h3 : lt d[p[j]]! d[p[i]]! with
        | false => rfl
        | true => have := hO.trans _ _ _ h h3; rw [hO.irrefl] at this; cases this
      simp [h, h2]
    · simp [h]; right; omega
  · exact List.pairwise_mergeSort (fun a b c => List.zipIdxLE_trans htr a b c) (fun a b => List.zipIdxLE_total hto a b) _
  · refine ((hperm.map _).trans ?_).trans (List.mergeSort_perm _ _).symm
    rw [zip_range]
end

end Go.Stab
