/- A region that draws its order and whose last operation waits for all others: that one may write. -/
import Derived.Test.YtmmfjknnbkcniaaGreatDoorQ01
namespace Go.Rel

section
variable {P : Program} {ops : Array Oper} {C : World → Prop} {Rc : FuncId → Array Value → Value → Prop}

def leftTo (m : Nat) (listed : Array Bool) : List Nat := (List.range m).filter fun i => !listed.getD i true

theorem wpAny_done_of {Q : Exit → Act → World → Prop} : ∀ (fuel : Nat) (listed : Array Bool) (a : Act) (w : World), Region.ready .any ops listed = [] → Q .normal a w → wpAny P .any ops Q fuel listed a w
  | 0, _, _, _, hr, h => ⟨hr, h⟩
  | _ + 1, _, _, _, hr, h => ⟨fun _ => h, fun i hi => by rw [hr] at hi; cases hi⟩

theorem wpAny_of_rel_tail (hfine : fine ops = true) {Q : Exit → Act → World → Prop} {Q' : Act → Prop} {m : Nat} (hm : ops.size = m + 1) {oL : Oper} (hL : ops[m]? = some oL)
    (hanc : ∀ j, j < m → anc ops ops.size m j = true) (hg : oL.guard = none) (hQ : ∀ a w, C w → Q' a → oL.wp P a w (fun a w => Q .normal a w) Q) :
    ∀ (fuel : Nat) (listed : Array Bool) (a : Act) (w : World), listed.size = ops.size → closed ops listed → listed.getD m true = false → (leftTo m listed).length + 1 ≤ fuel → C w →
      wpRelI P ops C Rc Q' (leftTo m listed) a → wpAny P .any ops Q fuel listed a w := by
  have hsel : ∀ (j : Nat) (o : Oper) cs b, ops[j]? = some o → o.op ≠ .select cs b := fun j o cs b h => (fine_at hfine h).2.1 cs b
  intro fuel
  induction fuel with
  | zero => intro listed a w _ _ _ hlen _ _; omega
  | succ fuel ih =>
    intro listed a w hsz hc hun hlen hw h
    constructor
    · intro hr
      exfalso
      -- the least that is left is ready
      have : ∃ i, i ≤ m ∧ listed.getD i true = false ∧ ∀ j, j < i → listed.getD j true = true := by
        cases hl : leftTo m listed with
        | nil =>
          refine ⟨m, Nat.le_refl _, hun, fun j hj => ?_⟩
          have : j ∉ leftTo m listed := by rw [hl]; simp
          unfold leftTo at this
          rw [List.mem_filter, List.mem_range] at this
          cases hq : listed.getD j true with
          | true => rfl
          | false => exact absurd ⟨hj, by rw [hq]; rfl⟩ this
        | cons i l =>
          have hi : i ∈ leftTo m listed := by rw [hl]; exact List.mem_cons_self ..
          have hp : (leftTo m listed).Pairwise (· < ·) := (List.pairwise_lt_range).filter _
          obtain ⟨h1, h2⟩ := List.mem_filter.1 hi
          refine ⟨i, Nat.le_of_lt (List.mem_range.1 h1), by simpa using h2, fun j hj => ?_⟩
          cases hq : listed.getD j true with
          | true => rfl
          | false =>
            have hjm : j ∈ leftTo m listed := List.mem_filter.2 ⟨List.mem_range.2 (by have := List.mem_range.1 h1; omega), by rw [hq]; rfl⟩
            rw [hl] at hjm hp
            rcases List.mem_cons.1 hjm with rfl | hjm
            · omega
            · have := (List.pairwise_cons.1 hp).1 j hjm; omega
      obtain ⟨i, him, hi, hlo⟩ := this
      have hlt : i < ops.size := by omega
      have ho : ops[i]? = some ops[i] := Array.getElem?_eq_getElem hlt
      have : i ∈ Region.ready .any ops listed := by
        unfold Region.ready
        refine List.mem_filter.2 ⟨List.mem_range.2 hlt, ?_⟩
        simp only [hi, Bool.not_false, Bool.true_and, ho, Option.map_some, Option.getD_some]
        rw [← Array.all_toList, List.all_eq_true]
        intro e he
        cases hb : Region.binds .any e with
        | false => rfl
        | true =>
          have hlte := (fine_at hfine ho).1 e (by simpa using he) hb
          rw [Bool.not_true, Bool.false_or, ← getD_true_of (by omega)]
          exact hlo e.on hlte
      rw [hr] at this
      cases this
    · intro i hi
      unfold Region.ready at hi
      obtain ⟨h1, h2⟩ := List.mem_filter.1 hi
      simp only [Bool.and_eq_true] at h2
      obtain ⟨huni, hpre⟩ := h2
      have hlt := List.mem_range.1 h1
      have ho : ops[i]? = some ops[i] := Array.getElem?_eq_getElem hlt
      generalize ops[i] = oi at ho
      simp only [ho, Option.map_some, Option.getD_some] at hpre
      have hpre' : ∀ e ∈ oi.after, Region.binds .any e = true → listed.getD e.on false = true := by
        intro e he hb
        rw [← Array.all_toList, List.all_eq_true] at hpre
        have := hpre e (by simpa using he)
        simpa [hb] using this
      by_cases him : i = m
      · subst him
        rw [hL] at ho
        cases ho
        have hnil : leftTo i listed = [] := by
          unfold leftTo
          rw [List.filter_eq_nil_iff]
          intro j hj
          have hjm := List.mem_range.1 hj
          have := closed_anc hsz hc _ _ _ (hanc j hjm) (fun o' ho' => by rw [hL] at ho'; cases ho'; exact hpre')
          rw [← getD_true_of (by omega)] at this
          simp [this]
        rw [hnil] at h
        unfold wpOp
        simp only [hL]
        rw [if_pos (by simp [Region.wanted, hg])]
        refine .inl (Oper.wp_mono (fun a' w' hq => ?_) (hQ a w hw h))
        refine wpAny_done_of _ _ _ _ ?_ hq
        -- all is listed
        unfold Region.ready
        rw [List.filter_eq_nil_iff]
        intro j hj
        have hjn := List.mem_range.1 hj
        have : (listed.setIfInBounds i true).getD j true = true := by
          by_cases hji : j = i
          · subst hji
            simp only [Array.getD_eq_getD_getElem?]
            rw [Array.getElem?_setIfInBounds_self_of_lt (by omega)]; rfl
          · simp only [Array.getD_eq_getD_getElem?]
            rw [Array.getElem?_setIfInBounds_ne (Ne.symm hji), ← Array.getD_eq_getD_getElem?]
            have : j ∉ leftTo i listed := by rw [hnil]; simp
            unfold leftTo at this
            rw [List.mem_filter, List.mem_range] at this
            cases hq : listed.getD j true with
            | true => rfl
            | false => exact absurd ⟨by omega, by rw [hq]; rfl⟩ this
        simp [this]
      · have hlm : i < m := by omega
        have hsplit : leftTo m listed = (List.range i).filter (fun j => !listed.getD j true) ++ i :: (List.range' (i + 1) (m - i - 1)).filter (fun j => !listed.getD j true) := by
          unfold leftTo
          rw [range_split hlm, List.filter_append, List.filter_cons, if_pos huni]
        have key : ∀ j, j ≠ i → (listed.setIfInBounds i true).getD j true = listed.getD j true := by
          intro j hj
          simp only [Array.getD_eq_getD_getElem?]
          rw [Array.getElem?_setIfInBounds_ne (Ne.symm hj)]
        have hset : leftTo m (listed.setIfInBounds i true) = (List.range i).filter (fun j => !listed.getD j true) ++ (List.range' (i + 1) (m - i - 1)).filter (fun j => !listed.getD j true) := by
          have hself : (listed.setIfInBounds i true).getD i true = true := by
            simp only [Array.getD_eq_getD_getElem?]
            rw [Array.getElem?_setIfInBounds_self_of_lt (by omega)]
            rfl
          unfold leftTo
          rw [range_split hlm, List.filter_append, List.filter_cons, if_neg (by rw [hself]; simp)]
          congr 1
          · refine List.filter_congr fun j hj => ?_
            rw [key j (by have := List.mem_range.1 hj; omega)]
          · refine List.filter_congr fun j hj => ?_
            rw [key j (by have := List.mem_range'_1.1 hj; omega)]
        rw [hsplit] at h
        have hb := wpRelI_bubble hsel ho _ _ a (fun j hj oj hoj => by
          obtain ⟨hj1, hj2⟩ := List.mem_filter.1 hj
          have hji := List.mem_range.1 hj1
          rcases (fine_at hfine ho).2.2 j oj hji hoj with hap | han
          · exact hap
          · exfalso
            have := closed_anc hsz hc _ _ _ han (fun o' ho' => by rw [ho] at ho'; cases ho'; exact hpre')
            rw [← getD_true_of (by omega)] at this
            rw [this] at hj2; cases hj2) h
        rw [← hset] at hb
        simp only [wpRelI, ho] at hb
        have hsz' : (listed.setIfInBounds i true).size = ops.size := by simpa using hsz
        have hc' : closed ops (listed.setIfInBounds i true) := by
          intro k o hk hl e he hbd
          by_cases hki : k = i
          · subst hki
            rw [ho] at hk; cases hk
            exact getD_set_true (hpre' e he hbd)
          · refine getD_set_true (hc k o hk ?_ e he hbd)
            simp only [Array.getD_eq_getD_getElem?] at hl ⊢
            rwa [Array.getElem?_setIfInBounds_ne (Ne.symm hki)] at hl
        have hun' : (listed.setIfInBounds i true).getD m true = false := by rw [key m (by omega)]; exact hun
        have hlen' : (leftTo m (listed.setIfInBounds i true)).length + 1 ≤ fuel := by
          rw [hset]; rw [hsplit] at hlen
          simp only [List.length_append, List.length_cons] at hlen ⊢
          omega
        unfold wpOp
        simp only [ho]
        unfold relAt at hb
        split
        · rename_i hwt
          rw [if_pos hwt] at hb
          refine .inl ?_
          obtain ⟨hok, hv⟩ := hb w hw
          unfold Oper.wp
          generalize (execOp a.eval oi).run P w = r at hok hv
          cases r with
          | halt x w' => exact hok.elim
          | ok n w' =>
            cases n <;> first | exact hok.elim | skip
            case value u => exact ih _ _ _ hsz' hc' hun' hlen' hok (hv u rfl)
            case skip => exact ih _ _ _ hsz' hc' hun' hlen' hok (hv undef rfl)
            case enter f args =>
              refine Calls.mono hok fun e w2 ⟨v, he, hr, hw2⟩ => ?_
              subst he
              exact ih _ _ _ hsz' hc' hun' hlen' hw2 (hv v hr)
        · rename_i hwt
          rw [if_neg hwt] at hb
          exact ih _ _ _ hsz' hc' hun' hlen' hw hb

/-- The look at such a region: the last operation has no guard and waits for all others. -/
def fineTail (ops : Array Oper) : Bool :=
  fine ops && (List.range (ops.size - 1)).all fun j => anc ops ops.size (ops.size - 1) j

theorem wpRelI_of_wpRel' {Q' : Act → Prop} (l : List Oper) : ∀ k, (∀ j, j < l.length → l[j]? = ops[k + j]?) → ∀ a, wpRel P ops C Rc Q' l a → wpRelI P ops C Rc Q' (List.range' k l.length) a := by
  induction l with
  | nil => intro k _ a h; exact h
  | cons o l ih =>
    intro k h a hh
    have h0 : ops[k]? = some o := by simpa using (h 0 (by simp)).symm
    have ih' := ih (k + 1) (fun j hj => by have := h (j + 1) (by simpa using hj); simpa [Nat.add_assoc, Nat.add_comm 1 j] using this)
    simp only [List.length_cons, List.range'_succ, wpRelI, h0]
    exact relAt_mono ih' hh

/-- THE LAW. -/
theorem wp_region_rel_tail {id : Nat} {l : List Oper} {a : Act} {w : World} {Q : Exit → Act → World → Prop} {oL : Oper} (C : World → Prop) (Rc : FuncId → Array Value → Value → Prop) (hm : P.follows .mixedOrders = true) (hfine : fineTail l.toArray = true)
    (hL : l.getLast? = some oL) (hg : oL.guard = none) (hC : C w.drew)
    (h : wpRel P l.toArray C Rc (fun a' => ∀ w', C w' → oL.wp P a' w' (fun a w => Q .normal a w) Q) l.dropLast a) : (Code.region id l.toArray true).wp P Q a w := by
  have hne : l ≠ [] := by rintro rfl; cases hL
  obtain ⟨l1, rfl⟩ : ∃ l1, l = l1 ++ [oL] := ⟨l.dropLast, by
    rw [List.getLast?_eq_some_getLast hne] at hL
    cases hL
    exact (List.dropLast_concat_getLast hne).symm⟩
  rw [List.dropLast_concat] at h
  simp only [fineTail, Bool.and_eq_true] at hfine
  obtain ⟨hf1, hf2⟩ := hfine
  have hsz : (l1 ++ [oL]).toArray.size = l1.length + 1 := by simp
  have h' := wpRelI_of_wpRel' (P := P) (C := C) (Rc := Rc) l1 0 (ops := (l1 ++ [oL]).toArray) (fun j hj => by simp [List.getElem?_append_left hj]) a h
  have hLat : (l1 ++ [oL]).toArray[l1.length]? = some oL := by simp
  have hanc : ∀ j, j < l1.length → anc (l1 ++ [oL]).toArray (l1 ++ [oL]).toArray.size l1.length j = true := by
    intro j hj
    rw [hsz, Nat.add_sub_cancel] at hf2
    have := List.all_eq_true.1 hf2 j (List.mem_range.2 hj)
    rwa [hsz]
  have hrep : ∀ i, i < l1.length + 1 → (Array.replicate (l1 ++ [oL]).toArray.size false).getD i true = false := by
    intro i hi
    simp [hi]
  have hleft : leftTo l1.length (Array.replicate (l1 ++ [oL]).toArray.size false) = List.range l1.length := by
    unfold leftTo
    rw [List.filter_eq_self]
    intro j hj
    have := List.mem_range.1 hj
    rw [hrep j (by omega)]; rfl
  refine wp_region_any hm ?_
  refine wpAny_of_rel_tail (C := C) (Rc := Rc) (Q' := fun a' => ∀ w', C w' → oL.wp P a' w' (fun a w => Q .normal a w) Q) hf1 hsz hLat hanc hg (fun a w hw hq => hq w hw) _ _ a _ (by simp) ?_ (hrep _ (by omega)) (by rw [hleft, hsz]; simp) hC ?_
  · intro i o hi hl
    exfalso
    have hlt : i < (l1 ++ [oL]).toArray.size := by
      rcases Nat.lt_or_ge i (l1 ++ [oL]).toArray.size with h' | h'
      · exact h'
      · rw [Array.getElem?_eq_none h'] at hi; cases hi
    rw [hsz] at hlt
    rw [hrep i hlt] at hl
    cases hl
  · rw [hleft, List.range_eq_range']
    exact h'

end
end Go.Rel
