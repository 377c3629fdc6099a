/- A region that draws its order and whose last two operations wait for all others, one for the other: those may do anything. weirref21.out: the walk. (Printed by tools/genout.py.) weirref21.out: a sum, at any card. -/
import Derived.Test.YtmmfjknnbkcniaaGreatDoorV10
import Derived.Test.YtmmfjknnbkcniaaGreatDoorV34
import Derived.Deep.RegionWith
import Derived.Deep.Cut
set_option maxHeartbeats 64000000
set_option maxRecDepth 100000
namespace Go.Rel
section
variable {P : Program} {ops : Array Oper} {C : World → Prop} {Rc : FuncId → Array Value → Value → Prop}
theorem wpAny_last (hfine : fine ops = true) {Q : Exit → Act → World → Prop} {m : Nat} (hm : ops.size = m + 2) {oM : Oper} (hM : ops[m + 1]? = some oM) (hgM : oM.guard = none)
  (fuel : Nat) (listed : Array Bool) (a : Act) (w : World) (hall : ∀ j, j < m + 1 → listed.getD j true = true) (hun : listed.getD (m + 1) true = false) (h : wpList P ops Q [oM] a w) : wpAny P .any ops Q (fuel + 1) listed a w := by
 have hlt2 : m + 1 < listed.size := by
  rcases Nat.lt_or_ge (m + 1) listed.size with h | h
  ·exact h
  ·rw [Array.getD_eq_getD_getElem?, Array.getElem?_eq_none h] at hun; cases hun
 unfold wpList at h
 rw [if_pos (by simp [Region.wanted, hgM])] at h
 constructor
 ·intro hr
  exfalso
  have : m + 1 ∈ Region.ready .any ops listed := by
   unfold Region.ready
   refine List.mem_filter.2 ⟨List.mem_range.2 (by omega), ?_⟩
   simp only [hun, Bool.not_false, Bool.true_and, hM, Option.map_some, Option.getD_some]
   rw [← Array.all_toList, List.all_eq_true]
   intro e he
   cases hb : Region.binds .any e with
   | false => rfl
   | true =>
    have hlte := (fine_at hfine hM).1 e (by simpa using he) hb
    rw [Bool.not_true, Bool.false_or, ← getD_true_of (by omega)]
    exact hall e.on hlte
  rw [hr] at this
  cases this
 ·intro i hi
  unfold Region.ready at hi
  obtain ⟨h1, h2⟩ := List.mem_filter.1 hi
  simp only [Bool.and_eq_true] at h2
  obtain ⟨huni, _⟩ := h2
  have hlt := List.mem_range.1 h1
  have him : i = m + 1 := by
   rcases Nat.lt_or_ge i (m + 1) with hj | hj
   ·rw [hall i hj] at huni; cases huni
   ·omega
  subst him
  unfold wpOp
  simp only [hM]
  rw [if_pos (by simp [Region.wanted, hgM])]
  rcases h with h | h
  ·refine .inl (Oper.wp_mono (fun a' w' hq => ?_) h)
   refine wpAny_done_of _ _ _ _ ?_ hq
   unfold Region.ready
   rw [List.filter_eq_nil_iff]
   intro j hj
   have hjn := List.mem_range.1 hj
   have : (listed.setIfInBounds (m + 1) true).getD j true = true := by
    by_cases hji : j = m + 1
    ·subst hji
     simp only [Array.getD_eq_getD_getElem?]
     rw [Array.getElem?_setIfInBounds_self_of_lt hlt2]; rfl
    ·simp only [Array.getD_eq_getD_getElem?]
     rw [Array.getElem?_setIfInBounds_ne (Ne.symm hji), ← Array.getD_eq_getD_getElem?]
     exact hall j (by omega)
   simp [this]
  ·exact .inr h
theorem wpAny_of_rel_tail2 (hfine : fine ops = true) {Q : Exit → Act → World → Prop} {Q' : Act → Prop} {m : Nat} (hm : ops.size = m + 2) {oL oM : Oper} (hL : ops[m]? = some oL) (hM : ops[m + 1]? = some oM)
  (hanc : ∀ j, j < m → anc ops ops.size m j = true) (hancM : anc ops ops.size (m + 1) m = true) (hg : oL.guard = none) (hgM : oM.guard = none) (hQ : ∀ a w, C w → Q' a → wpList P ops Q [oL, oM] a w) :
  ∀ (fuel : Nat) (listed : Array Bool) (a : Act) (w : World), listed.size = ops.size → closed ops listed → listed.getD m true = false → listed.getD (m + 1) true = false → (leftTo m listed).length + 2 ≤ fuel → C w →
   wpRelI P ops C Rc Q' (leftTo m listed) a → wpAny P .any ops Q fuel listed a w := by
 have hsel : ∀ (j : Nat) (o : Oper) cs b, ops[j]? = some o → o.op ≠ .select cs b := fun j o cs b h => (fine_at hfine h).2.1 cs b
 intro fuel
 induction fuel with
 | zero => intro listed a w _ _ _ _ hlen _ _; omega
 | succ fuel ih =>
  intro listed a w hsz hc hun hun2 hlen hw h
  constructor
  ·intro hr
   exfalso
   -- the least that is left is ready
   have : ∃ i, i ≤ m ∧ listed.getD i true = false ∧ ∀ j, j < i → listed.getD j true = true := by
    cases hl : leftTo m listed with
    | nil =>
     refine ⟨m, Nat.le_refl _, hun, fun j hj => ?_⟩
     have : j ∉ leftTo m listed := by rw [hl]; simp
     unfold leftTo at this
     rw [List.mem_filter, List.mem_range] at this
     cases hq : listed.getD j true with
     | true => rfl
     | false => exact absurd ⟨hj, by rw [hq]; rfl⟩ this
    | cons i l =>
     have hi : i ∈ leftTo m listed := by rw [hl]; exact List.mem_cons_self ..
     have hp : (leftTo m listed).Pairwise (· < ·) := (List.pairwise_lt_range).filter _
     obtain ⟨h1, h2⟩ := List.mem_filter.1 hi
     refine ⟨i, Nat.le_of_lt (List.mem_range.1 h1), by simpa using h2, fun j hj => ?_⟩
     cases hq : listed.getD j true with
     | true => rfl
     | false =>
      have hjm : j ∈ leftTo m listed := List.mem_filter.2 ⟨List.mem_range.2 (by have := List.mem_range.1 h1; omega), by rw [hq]; rfl⟩
      rw [hl] at hjm hp
      rcases List.mem_cons.1 hjm with rfl | hjm
      ·omega
      ·have := (List.pairwise_cons.1 hp).1 j hjm; omega
   obtain ⟨i, him, hi, hlo⟩ := this
   have hlt : i < ops.size := by omega
   have ho : ops[i]? = some ops[i] := Array.getElem?_eq_getElem hlt
   have : i ∈ Region.ready .any ops listed := by
    unfold Region.ready
    refine List.mem_filter.2 ⟨List.mem_range.2 hlt, ?_⟩
    simp only [hi, Bool.not_false, Bool.true_and, ho, Option.map_some, Option.getD_some]
    rw [← Array.all_toList, List.all_eq_true]
    intro e he
    cases hb : Region.binds .any e with
    | false => rfl
    | true =>
     have hlte := (fine_at hfine ho).1 e (by simpa using he) hb
     rw [Bool.not_true, Bool.false_or, ← getD_true_of (by omega)]
     exact hlo e.on hlte
   rw [hr] at this
   cases this
  ·intro i hi
   unfold Region.ready at hi
   obtain ⟨h1, h2⟩ := List.mem_filter.1 hi
   simp only [Bool.and_eq_true] at h2
   obtain ⟨huni, hpre⟩ := h2
   have hlt := List.mem_range.1 h1
   have ho : ops[i]? = some ops[i] := Array.getElem?_eq_getElem hlt
   generalize ops[i] = oi at ho
   simp only [ho, Option.map_some, Option.getD_some] at hpre
   have hpre' : ∀ e ∈ oi.after, Region.binds .any e = true → listed.getD e.on false = true := by
    intro e he hb
    rw [← Array.all_toList, List.all_eq_true] at hpre
    have := hpre e (by simpa using he)
    simpa [hb] using this
   by_cases him : i = m
   ·subst him
    rw [hL] at ho
    cases ho
    have hnil : leftTo i listed = [] := by
     unfold leftTo
     rw [List.filter_eq_nil_iff]
     intro j hj
     have hjm := List.mem_range.1 hj
     have := closed_anc hsz hc _ _ _ (hanc j hjm) (fun o' ho' => by rw [hL] at ho'; cases ho'; exact hpre')
     rw [← getD_true_of (by omega)] at this
     simp [this]
    rw [hnil] at h
    unfold wpOp
    simp only [hL]
    rw [if_pos (by simp [Region.wanted, hg])]
    have hql := hQ a w hw h
    unfold wpList at hql
    rw [if_pos (by simp [Region.wanted, hg])] at hql
    have hall : ∀ j, j < i + 1 → (listed.setIfInBounds i true).getD j true = true := by
     intro j hj
     by_cases hji : j = i
     ·subst hji
      simp only [Array.getD_eq_getD_getElem?]
      rw [Array.getElem?_setIfInBounds_self_of_lt (by omega)]; rfl
     ·simp only [Array.getD_eq_getD_getElem?]
      rw [Array.getElem?_setIfInBounds_ne (Ne.symm hji), ← Array.getD_eq_getD_getElem?]
      have : j ∉ leftTo i listed := by rw [hnil]; simp
      unfold leftTo at this
      rw [List.mem_filter, List.mem_range] at this
      cases hq : listed.getD j true with
      | true => rfl
      | false => exact absurd ⟨by omega, by rw [hq]; rfl⟩ this
    have hun3 : (listed.setIfInBounds i true).getD (i + 1) true = false := by
     simp only [Array.getD_eq_getD_getElem?]
     rw [Array.getElem?_setIfInBounds_ne (by omega), ← Array.getD_eq_getD_getElem?]; exact hun2
    obtain ⟨f1, hf1⟩ : ∃ f1, fuel = f1 + 1 := ⟨fuel - 1, by omega⟩
    rcases hql with hql | hql
    ·refine .inl (Oper.wp_mono (fun a' w' hq => ?_) hql)
     rw [hf1]
     exact wpAny_last hfine hm hM hgM f1 _ a' w' hall hun3 hq
    ·exact .inr hql
   ·by_cases him2 : i = m + 1
    ·exfalso
     subst him2
     rw [hM] at ho
     cases ho
     have := closed_anc hsz hc _ _ _ hancM (fun o' ho' => by rw [hM] at ho'; cases ho'; exact hpre')
     rw [← getD_true_of (by omega), hun] at this
     cases this
    have hlm : i < m := by omega
    have hsplit : leftTo m listed = (List.range i).filter (fun j => !listed.getD j true) ++ i :: (List.range' (i + 1) (m - i - 1)).filter (fun j => !listed.getD j true) := by
     unfold leftTo
     rw [range_split hlm, List.filter_append, List.filter_cons, if_pos huni]
    have key : ∀ j, j ≠ i → (listed.setIfInBounds i true).getD j true = listed.getD j true := by
     intro j hj
     simp only [Array.getD_eq_getD_getElem?]
     rw [Array.getElem?_setIfInBounds_ne (Ne.symm hj)]
    have hset : leftTo m (listed.setIfInBounds i true) = (List.range i).filter (fun j => !listed.getD j true) ++ (List.range' (i + 1) (m - i - 1)).filter (fun j => !listed.getD j true) := by
     have hself : (listed.setIfInBounds i true).getD i true = true := by
      simp only [Array.getD_eq_getD_getElem?]
      rw [Array.getElem?_setIfInBounds_self_of_lt (by omega)]
      rfl
     unfold leftTo
     rw [range_split hlm, List.filter_append, List.filter_cons, if_neg (by rw [hself]; simp)]
     congr 1
     ·refine List.filter_congr fun j hj => ?_
      rw [key j (by have := List.mem_range.1 hj; omega)]
     ·refine List.filter_congr fun j hj => ?_
      rw [key j (by have := List.mem_range'_1.1 hj; omega)]
    rw [hsplit] at h
    have hb := wpRelI_bubble hsel ho _ _ a (fun j hj oj hoj => by
     obtain ⟨hj1, hj2⟩ := List.mem_filter.1 hj
     have hji := List.mem_range.1 hj1
     rcases (fine_at hfine ho).2.2 j oj hji hoj with hap | han
     ·exact hap
     ·exfalso
      have := closed_anc hsz hc _ _ _ han (fun o' ho' => by rw [ho] at ho'; cases ho'; exact hpre')
      rw [← getD_true_of (by omega)] at this
      rw [this] at hj2; cases hj2) h
    rw [← hset] at hb
    simp only [wpRelI, ho] at hb
    have hsz' : (listed.setIfInBounds i true).size = ops.size := by simpa using hsz
    have hc' : closed ops (listed.setIfInBounds i true) := by
     intro k o hk hl e he hbd
     by_cases hki : k = i
     ·subst hki
      rw [ho] at hk; cases hk
      exact getD_set_true (hpre' e he hbd)
     ·refine getD_set_true (hc k o hk ?_ e he hbd)
      simp only [Array.getD_eq_getD_getElem?] at hl ⊢
      rwa [Array.getElem?_setIfInBounds_ne (Ne.symm hki)] at hl
    have hun' : (listed.setIfInBounds i true).getD m true = false := by rw [key m (by omega)]; exact hun
    have hun2' : (listed.setIfInBounds i true).getD (m + 1) true = false := by rw [key (m + 1) (by omega)]; exact hun2
    have hlen' : (leftTo m (listed.setIfInBounds i true)).length + 2 ≤ fuel := by
     rw [hset]; rw [hsplit] at hlen
     simp only [List.length_append, List.length_cons] at hlen ⊢
     omega
    unfold wpOp
    simp only [ho]
    unfold relAt at hb
    split
    ·rename_i hwt
     rw [if_pos hwt] at hb
     refine .inl ?_
     obtain ⟨hok, hv⟩ := hb w hw
     unfold Oper.wp
     generalize (execOp a.eval oi).run P w = r at hok hv
     cases r with
     | halt x w' => exact hok.elim
     | ok n w' =>
      cases n <;> first | exact hok.elim | skip
      case value u => exact ih _ _ _ hsz' hc' hun' hun2' hlen' hok (hv u rfl)
      case skip => exact ih _ _ _ hsz' hc' hun' hun2' hlen' hok (hv undef rfl)
      case enter f args =>
       refine Calls.mono hok fun e w2 ⟨v, he, hr, hw2⟩ => ?_
       subst he
       exact ih _ _ _ hsz' hc' hun' hun2' hlen' hw2 (hv v hr)
    ·rename_i hwt
     rw [if_neg hwt] at hb
     exact ih _ _ _ hsz' hc' hun' hun2' hlen' hw hb
def fineTail2 (ops : Array Oper) : Bool :=
 fine ops && ((List.range (ops.size - 2)).all fun j => anc ops ops.size (ops.size - 2) j) && anc ops ops.size (ops.size - 1) (ops.size - 2)
theorem wp_region_rel_tail2 {id : Nat} {l : List Oper} {a : Act} {w : World} {Q : Exit → Act → World → Prop} (l1 : List Oper) (oL oM : Oper) (C : World → Prop) (Rc : FuncId → Array Value → Value → Prop) (hm : P.follows .mixedOrders = true) (hfine : fineTail2 l.toArray = true)
  (hL : l = l1 ++ [oL, oM]) (hg : oL.guard = none) (hgM : oM.guard = none) (hC : C w.drew)
  (h : wpRel P l.toArray C Rc (fun a' => ∀ w', C w' → wpList P l.toArray Q [oL, oM] a' w') l1 a) : (Code.region id l.toArray true).wp P Q a w := by
 subst hL
 simp only [fineTail2, Bool.and_eq_true] at hfine
 obtain ⟨⟨hf1, hf2⟩, hf3⟩ := hfine
 have hsz : (l1 ++ [oL, oM]).toArray.size = l1.length + 2 := by simp
 have h' := wpRelI_of_wpRel' (P := P) (C := C) (Rc := Rc) l1 0 (ops := (l1 ++ [oL, oM]).toArray) (fun j hj => by simp [List.getElem?_append_left hj]) a h
 have hLat : (l1 ++ [oL, oM]).toArray[l1.length]? = some oL := by simp
 have hMat : (l1 ++ [oL, oM]).toArray[l1.length + 1]? = some oM := by simp
 have hanc : ∀ j, j < l1.length → anc (l1 ++ [oL, oM]).toArray (l1 ++ [oL, oM]).toArray.size l1.length j = true := by
  intro j hj
  rw [hsz, Nat.add_sub_cancel] at hf2
  have := List.all_eq_true.1 hf2 j (List.mem_range.2 hj)
  rwa [hsz]
 have hanc2 : anc (l1 ++ [oL, oM]).toArray (l1 ++ [oL, oM]).toArray.size (l1.length + 1) l1.length = true := by
  rw [hsz] at hf3 ⊢
  exact hf3
 have hrep : ∀ i, i < l1.length + 2 → (Array.replicate (l1 ++ [oL, oM]).toArray.size false).getD i true = false := by
  intro i hi
  simp [hi]
 have hleft : leftTo l1.length (Array.replicate (l1 ++ [oL, oM]).toArray.size false) = List.range l1.length := by
  unfold leftTo
  rw [List.filter_eq_self]
  intro j hj
  have := List.mem_range.1 hj
  rw [hrep j (by omega)]; rfl
 refine wp_region_any hm ?_
 refine wpAny_of_rel_tail2 (C := C) (Rc := Rc) (Q' := fun a' => ∀ w', C w' → wpList P (l1 ++ [oL, oM]).toArray Q [oL, oM] a' w') hf1 hsz hLat hMat hanc hanc2 hg hgM (fun a w hw hq => hq w hw) _ _ a _ (by simp) ?_ (hrep _ (by omega)) (hrep _ (by omega)) (by rw [hleft, hsz]; simp) hC ?_
 ·intro i o hi hl
  exfalso
  have hlt : i < (l1 ++ [oL, oM]).toArray.size := by
   rcases Nat.lt_or_ge i (l1 ++ [oL, oM]).toArray.size with h' | h'
   ·exact h'
   ·rw [Array.getElem?_eq_none h'] at hi; cases hi
  rw [hsz] at hlt
  rw [hrep i hlt] at hl
  cases hl
 ·rw [hleft, List.range_eq_range']
  exact h'
theorem wp_region_rel_tail3 {id : Nat} {l : List Oper} {a : Act} {w : World} {Q : Exit → Act → World → Prop} {oL oM : Oper} (C : World → Prop) (Rc : FuncId → Array Value → Value → Prop) (hm : P.follows .mixedOrders = true) (hfine : fineTail2 l.toArray = true)
  (hM : l.getLast? = some oM) (hL : l.dropLast.getLast? = some oL) (hg : oL.guard = none) (hgM : oM.guard = none) (hC : C w.drew)
  (h : wpRel P l.toArray C Rc (fun a' => ∀ w', C w' → wpList P l.toArray Q [oL, oM] a' w') l.dropLast.dropLast a) : (Code.region id l.toArray true).wp P Q a w := by
 have h1 : l.dropLast.dropLast ++ [oL] = l.dropLast := by
  have hne : l.dropLast ≠ [] := by intro e; rw [e] at hL; cases hL
  rw [List.getLast?_eq_some_getLast hne] at hL
  cases hL
  exact List.dropLast_concat_getLast hne
 have h2 : l.dropLast ++ [oM] = l := by
  have hne : l ≠ [] := by rintro rfl; cases hM
  rw [List.getLast?_eq_some_getLast hne] at hM
  cases hM
  exact List.dropLast_concat_getLast hne
 exact wp_region_rel_tail2 l.dropLast.dropLast oL oM C Rc hm hfine (by rw [← List.singleton_append, ← List.append_assoc, h1, h2]) hg hgM hC h
end
end Go.Rel
namespace Go.Proofs.YtmmfjknnbkcniaaGreatDoor
open Go.Fl Go.Rel Go.RowKit Go.Maps Go.WideMaps Go.Sort Go.Shelf
set_option linter.unusedSimpArgs false
set_option linter.unusedVariables false
noncomputable def outP (k : Nat) (on : Bool) (ns inc : List ByteArray) (card : Int) (yes : Bool) (ms bs : List Ek) : List Ek := (ms.zip bs).filterMap fun p => outK k on ns inc card yes p.1 p.2
def OutPR (ms bs : List Er) (f : Ek × Ek → Option Ek) (w : World) (v12 v13 : Value) (wr : World) : Prop :=
 ∃ (j : Nat) (O : List Er), v13 = .int .i64 (j : Int) ∧ j ≤ ms.length ∧ OwnE w.heap.size wr v12 O ∧ (∀ e ∈ O, ErKeep w wr e) ∧
  O.map (fun x => clK x.key) = (((ms.map Er.key).zip (bs.map Er.key)).take j).filterMap f ∧ O.length ≤ j ∧ Below w.heap.size w wr
theorem zip_snoc {ms bs : List Er} {f : Ek × Ek → Option Ek} {j : Nat} (h1 : j < ms.length) (h2 : j < bs.length) : (((ms.map Er.key).zip (bs.map Er.key)).take (j + 1)).filterMap f = (((ms.map Er.key).zip (bs.map Er.key)).take j).filterMap f ++ (match f ((erAt ms j).key, (erAt bs j).key) with | none => [] | some y => [y]) := by
 have hj : j < ((ms.map Er.key).zip (bs.map Er.key)).length := by simp; omega
 rw [List.take_add_one, List.getElem?_eq_getElem hj, List.filterMap_append, List.getElem_zip, List.getElem_map, List.getElem_map, erAt_get h1, erAt_get h2]
 congr 1
 simp only [Option.toList, List.filterMap_cons, List.filterMap_nil]
 cases f (ms[j].key, bs[j].key) <;> rfl
end Go.Proofs.YtmmfjknnbkcniaaGreatDoor
namespace Go.Proofs.YtmmfjknnbkcniaaGreatDoor
open Go.Fl Go.Rel Go.RowKit Go.Maps Go.WideMaps Go.Sort Go.Shelf
set_option linter.unusedSimpArgs false
set_option linter.unusedVariables false
inductive TokB : Bool → Prop
 | mk (b : Bool) : TokB b
theorem cellG {w : World} {a : Addr} {v : Value} (h : w.cell? a = some v) : ∀ n os, (grow (w.drewN n) os).cell? a = some v := fun n os => cell_grown (World.block_lt_of_cell? _ _ h) h n os
theorem out_ar (u : ByteArray) (a b : Option Addr) (n ca cb : Nat) (ms bs : List Er) (m : Mt) (yes : Bool) (w : World) (ha : ERow w a n ms) (hb : ERow w b n bs) (hM : MtOk w m) (hfa : ∀ e ∈ ms, W64 e.f) (hfb : ∀ e ∈ bs, W64 e.f) (him : ∀ e ∈ ms, e.n + m.im ≤ 4398046511000) (hk : opK u.toList < 6) :
  Calls Tryz.prog 46 #[.string u, .slice a n ca, .slice b n cb, m.v, .bool yes] w (AnsRet (setE (outP (opK u.toList) m.on m.ns m.inc m.card yes (ms.map Er.key) (bs.map Er.key))) (setV (outP (opK u.toList) m.on m.ns m.inc m.card yes (ms.map Er.key) (bs.map Er.key))) w) := by
 have HA := qh ha
 have HBR := qh hb
 have HM := qh hM
 have HFA := qh hfa
 have HFB := qh hfb
 have HIM := qh him
 have hk12 : opK u.toList < 12 := by omega
 have HKD : Hid (∀ w, _) := qh fun w => kindY_any u w hk12
 rw [show kindS (opK u.toList) = 1 from if_pos hk] at HKD
 have hal := ha.1
 have hbl := hb.1
 have n1 : (n : Int) ≤ 4398046511104 := by have := ha.2.1; omega
 obtain ⟨given, on, ma, mn, mc, card, ia, im, ic, ns, inc⟩ := m
 dsimp only [Mt.v] at HIM ⊢
 subst hal
 have HLN : Hid (bs.length = ms.length) := qh hbl
 obtain ⟨W0, hW0⟩ : ∃ W0, W0 = w.alloc (.cells #[.bool given, .bool on, .slice ma mn mc, .int .i64 card, .slice ia im ic] 25) := ⟨_, rfl⟩
 have HI0 : Hid (Bk.Is W0 w.heap.size #[.bool given, .bool on, .slice ma mn mc, .int .i64 card, .slice ia im ic] 25) := qh (by rw [hW0]; exact Bk.Is.made w _ _)
 have HB0 : Hid (Below w.heap.size w W0) := qh (by rw [hW0]; exact (Below.refl _ _).alloc (Nat.le_refl _) _)
 have HW0 := qh hW0
 obtain ⟨FL, hFL⟩ : ∃ FL, FL = stepF (opK u.toList) yes := ⟨_, rfl⟩
 obtain ⟨F, hF⟩ : ∃ F : Ek × Ek → Option Ek, F = fun p => outK (opK u.toList) on ns inc card yes p.1 p.2 := ⟨_, rfl⟩
 have HFF : Hid (∀ ks ls, outP (opK u.toList) on ns inc card yes ks ls = (ks.zip ls).filterMap F) := qh fun ks ls => by rw [hF]; rfl
 have HRL : Hid (∀ (xa : Option Addr) (xn xc : Nat) (xl : List Lb) (oa : Option Addr) (on_ oc : Nat) (ol : List Lb) (W : World), Below w.heap.size w W → LRow W xa xn xl → SlK xa xn xc → LRow W oa on_ ol → xn + im ≤ 4398046511000 → Calls Tryz.prog 68 #[.string u, .slice xa xn xc, .slice oa on_ oc, .agg #[.bool given, .bool on, .slice ma mn mc, .int .i64 card, .slice ia im ic], .bool true] W (ToldRet ⟨xa, xn, xc, 0, xl⟩ on ns inc card FL xl ol W)) := qh fun xa xn xc xl oa on_ oc ol W hW h1 h2 h3 h4 => by
  have h := rlabels_any u xa xn xc xl oa on_ oc ol ⟨given, on, ma, mn, mc, card, ia, im, ic, ns, inc⟩ yes W h1 h2 h3 (HM.out.below hW) h4 hk12
  dsimp only [Mt.v] at h
  rw [if_pos hk, ← hFL] at h
  exact h
 have hcb : (card == 2) = true ∨ (card == 2) = false := by cases card == 2 <;> simp
 have HV : Hid (∀ a b w, W64 a → W64 b → _) := qh fun a b w ha hb => rval_any u a b w ha hb hk
 have HY := qh hk
 have HPQ : Hid (∀ xa xn xc xf xl oa on_ oc of ol, F (Er.key ⟨xa, xn, xc, xf, xl⟩, Er.key ⟨oa, on_, oc, of, ol⟩) = some (toldL on ns inc card FL xl ol, valS (opK u.toList) (if card == 2 then of else xf) (if card == 2 then xf else of))) := qh fun xa xn xc xf xl oa on_ oc of ol => by
  have hso : ∀ a b, stepO (opK u.toList) a b yes = true := fun a b => if_pos hk
  have hsv : ∀ a b c, stepV (opK u.toList) a b c yes = valS (opK u.toList) a b := fun a b c => if_pos hk
  rw [hF, hFL]
  show outK _ _ _ _ _ _ (Er.key ⟨xa, xn, xc, xf, xl⟩) (Er.key ⟨oa, on_, oc, of, ol⟩) = _
  unfold outK
  rw [hso, hsv, if_pos rfl]
  by_cases hc : card = 2
  ·have e : (card == 2) = true := by simpa using hc
   rw [e, if_pos hc, if_pos hc]
   all_goals rfl
  ·have e : (card == 2) = false := by simpa using hc
   rw [e, if_neg hc, if_neg hc]
   all_goals rfl
 clear ha hb hM hfa hfb him hW0 hbl hk hk12 hFL hF
 rw [HFF.out]
 have tok : TokB yes := .mk yes
 rcases hcb with hcb | hcb <;> cases yes
 all_goals
  simp only [hcb, if_true, if_false, Bool.false_eq_true] at HPQ
  go_enter Tryz.func46, Tryz.ntmps46
  go_upto_region 2 with fail
  rw [← HW0.out]
  go_wp2_with fail
  go_loopw [12, 13] (OutPR ms bs F W0) (fun _ v _ => ms.length - (intOf v).toNat)
  case atStart => exact ⟨0, [], rfl, by omega, ownE_nil _ _, fun e he => absurd he List.not_mem_nil, rfl, by simp, Below.refl _ _⟩
  case round =>
   obtain ⟨j, O, rfl, hj, own, hok, hkey, hol, bel⟩ := hrel
   have HO := qh own
   have HOK := qh hok
   have HKEY := qh hkey
   have HOL := qh hol
   have HB := qh bel
   have HBT := qh (HB0.out.trans (bel.mono HB0.out.size))
   have hrw := HA.out.below HBT.out
   have hro := HBR.out.below HBT.out
   have hir := HI0.out.below bel HI0.out.lt
   have m0 := hir.cell 0
   have m1 := hir.cell 1
   have m2 := hir.cell 2
   have m3 := hir.cell 3
   have m4 := hir.cell 4
   simp at m0 m1 m2 m3 m4
   clear own hok hkey hol bel hir
   by_cases hlt : j < ms.length
   ·obtain ⟨bb, off, hab, hbb, hc⟩ := hrw.2.2.2 (by omega)
    subst hab
    obtain ⟨x0, x1⟩ := hc j hlt
    obtain ⟨bo, offo, hao, hbo, hco⟩ := hro.2.2.2 (by omega)
    subst hao
    obtain ⟨y0, y1⟩ := hco j hlt
    have j1 : (0 : Int) ≤ (j : Int) := by omega
    have j2 : (j : Int) < (ms.length : Int) := by omega
    have hjb : j < bs.length := by have := HLN.out; omega
    have HFS := qh (zip_snoc (f := F) hlt hjb)
    have hmx : erAt ms j ∈ ms := by rw [erAt_get hlt]; exact List.getElem_mem _
    have hmo : erAt bs j ∈ bs := by rw [erAt_get hjb]; exact List.getElem_mem _
    have HYO : Hid (ErOk W0 (erAt ms j)) := qh ((HA.out.below HB0.out).2.2.1 _ hmx)
    have HZO : Hid (ErOk W0 (erAt bs j)) := qh ((HBR.out.below HB0.out).2.2.1 _ hmo)
    have hxf := HFA.out _ hmx
    have hof := HFB.out _ hmo
    have hxn := HIM.out _ hmx
    clear hmx hmo hjb
    generalize erAt ms j = x at *
    generalize erAt bs j = y at *
    obtain ⟨xa, xn, xc, xf, xl⟩ := x
    obtain ⟨oa, on_, oc, of, ol⟩ := y
    dsimp only at x0 x1 y0 y1 hxf hof hxn
    rw [HPQ.out] at HFS
    have HTD := qh fun W (h : Below W0.heap.size W0 W) =>
     HRL.out xa xn xc xl oa on_ oc ol W (HB0.out.trans (h.mono HB0.out.size)) (HYO.out.1.below h) HYO.out.2.1 (HZO.out.1.below h) hxn
    have HV1 := qh fun w => HV.out xf of w hxf hof
    have HV2 := qh fun w => HV.out of xf w hof hxf
    clear hc hrw hro hco hxf hof hxn
    go_wp2_with fail
    go_quiet (fail)
    have gq : Below wr.heap.size wr (wr.drewN nq) := (Below.refl _ _).drewN' nq
    have x0 := cell_stayL x0 gq
    have y0 := cell_stayL y0 gq
    have m0 := cell_stayL m0 gq
    have m1 := cell_stayL m1 gq
    have m2 := cell_stayL m2 gq
    have m3 := cell_stayL m3 gq
    have m4 := cell_stayL m4 gq
    have HQ := qh gq
    clear gq x1 y1
    generalize wr.drewN nq = W at *
    go_wp2_with (first | (go_at_call 42; refine (HKD.out _).mono ?_; rintro e wk ⟨rfl, rfl⟩) | (go_at_call 65; (first | (with_reducible refine (HV1.out _).mono ?_) | (with_reducible refine (HV2.out _).mono ?_)); rintro e wv ⟨r, nv, rfl, hr, rfl⟩; have HR := qh hr; clear hr))
    have gv : Below W.heap.size W (W.drewN nv) := (Below.refl _ _).drewN' nv
    have x0 := cell_stayL x0 gv
    have y0 := cell_stayL y0 gv
    have m0 := cell_stayL m0 gv
    have m1 := cell_stayL m1 gv
    have m2 := cell_stayL m2 gv
    have m3 := cell_stayL m3 gv
    have m4 := cell_stayL m4 gv
    have HQ := qh (HQ.out.trans (gv.mono HQ.out.size))
    clear gv
    generalize W.drewN nv = W at *
    have s0 := cellG x0
    have s1 := cellG y0
    have s2 := cellG m0
    have s3 := cellG m1
    have s4 := cellG m2
    have s5 := cellG m3
    have s6 := cellG m4
    refine wp_region_rel_tail3 (fun wd => ∃ p : GrownBy, wd = grow (W.drewN p.n) p.os) (fun f _ v => f = 42 ∧ v = .int .i64 1) (by kernel_rfl) (by kernel_rfl) rfl rfl rfl rfl ⟨⟨1, #[]⟩, by rw [grow_empty]; rfl⟩ (LidK.out ?_)
    first
     | (have _t : TokB true := tok
        iterate 15 (refine wpRel_guardK (by rfl) (by kernel_rfl) ?_; intro K hK; have hK2 := LidK.mk hK; clear hK; go_big_quiet_step (fail); refine wpQuiet_nil ?_; refine hK2.out _ ?_; clear hK2 K)
        iterate 1 (refine wpRel_callK 42 Tryz.f42 _ _ #[.string u] (by kernel_rfl) Tryz.func42 (by kernel_rfl) (by kernel_rfl) (by simp only [List.map_toArray, List.map]; rfl) (fun wd hd => (HKD.out wd).mono fun e w2 ⟨g1, g2⟩ => ⟨_, g1, ⟨rfl, rfl⟩, by rw [← g2]; exact hd⟩) ?_; rintro v ⟨_, rfl⟩; intro K hK; have hK2 := LidK.mk hK; clear hK; go_big_quiet_step (fail); refine wpQuiet_nil ?_; refine hK2.out _ ?_; clear hK2 K)
        iterate 4 (refine wpRel_guardK (by rfl) (by kernel_rfl) ?_; intro K hK; have hK2 := LidK.mk hK; clear hK; go_big_quiet_step (fail); refine wpQuiet_nil ?_; refine hK2.out _ ?_; clear hK2 K)
        iterate 1 (refine wpRel_callK 42 Tryz.f42 _ _ #[.string u] (by kernel_rfl) Tryz.func42 (by kernel_rfl) (by kernel_rfl) (by simp only [List.map_toArray, List.map]; rfl) (fun wd hd => (HKD.out wd).mono fun e w2 ⟨g1, g2⟩ => ⟨_, g1, ⟨rfl, rfl⟩, by rw [← g2]; exact hd⟩) ?_; rintro v ⟨_, rfl⟩; intro K hK; have hK2 := LidK.mk hK; clear hK; go_big_quiet_step (fail); refine wpQuiet_nil ?_; refine hK2.out _ ?_; clear hK2 K)
        iterate 2 (refine wpRel_guardK (by rfl) (by kernel_rfl) ?_; intro K hK; have hK2 := LidK.mk hK; clear hK; go_big_quiet_step (fail); refine wpQuiet_nil ?_; refine hK2.out _ ?_; clear hK2 K))
     | (have _t : TokB false := tok
        iterate 14 (refine wpRel_guardK (by rfl) (by kernel_rfl) ?_; intro K hK; have hK2 := LidK.mk hK; clear hK; go_big_quiet_step (fail); refine wpQuiet_nil ?_; refine hK2.out _ ?_; clear hK2 K)
        iterate 3 (refine wpRel_skipK W ⟨⟨0, #[]⟩, by rw [grow_empty]; rfl⟩ (by kernel_rfl) ?_; intro K hK; have hK2 := LidK.mk hK; clear hK; go_big_quiet_step (fail); refine wpQuiet_nil ?_; refine hK2.out _ ?_; clear hK2 K)
        iterate 3 (refine wpRel_guardK (by rfl) (by kernel_rfl) ?_; intro K hK; have hK2 := LidK.mk hK; clear hK; go_big_quiet_step (fail); refine wpQuiet_nil ?_; refine hK2.out _ ?_; clear hK2 K)
        iterate 1 (refine wpRel_callK 42 Tryz.f42 _ _ #[.string u] (by kernel_rfl) Tryz.func42 (by kernel_rfl) (by kernel_rfl) (by simp only [List.map_toArray, List.map]; rfl) (fun wd hd => (HKD.out wd).mono fun e w2 ⟨g1, g2⟩ => ⟨_, g1, ⟨rfl, rfl⟩, by rw [← g2]; exact hd⟩) ?_; rintro v ⟨_, rfl⟩; intro K hK; have hK2 := LidK.mk hK; clear hK; go_big_quiet_step (fail); refine wpQuiet_nil ?_; refine hK2.out _ ?_; clear hK2 K)
        iterate 2 (refine wpRel_guardK (by rfl) (by kernel_rfl) ?_; intro K hK; have hK2 := LidK.mk hK; clear hK; go_big_quiet_step (fail); refine wpQuiet_nil ?_; refine hK2.out _ ?_; clear hK2 K))
    refine LidK.mk (wpRel_nil ?_)
    rintro w3 ⟨⟨nq2, osq⟩, rfl⟩
    have HW := qh (HQ.out.trans ((Grn.below ⟨nq2, osq, rfl⟩ : Below W.heap.size W (grow (W.drewN nq2) osq)).mono HQ.out.size))
    clear s0 s1 s2 s3 s4 s5 s6 x0 y0 m0 m1 m2 m3 m4
    generalize grow (W.drewN nq2) osq = W3 at HW ⊢
    have HBD : Hid (Below W0.heap.size W0 W3) := qh (HB.out.trans (HW.out.mono HB.out.size))
    go_wp2_with (first | (go_at_call 68; refine (HTD.out _ HBD.out).mono ?_; rintro e W7 ⟨ta, tn, tc, rfl, hkm, b7⟩; have HKM := qh hkm; have HO7 := qh ((HO.out.below HW.out).below b7); have HB7 := qh (HBD.out.trans (b7.mono HBD.out.size)); have HOK7 : Hid (∀ e ∈ O, ErKeep W0 W7 e) := qh fun e he => ((HOK.out e he).below HW.out).below b7; clear hkm b7) | (at_builtin; refine wpList_append_er rfl (.tmp 82) (.tmp 86) rfl W0.heap.size _ O rfl (HO7.out.alloc _) W7.heap.size _ ⟨ta, tn, tc, r, toldL on ns inc card FL xl ol⟩ rfl (by rw [World.cell?_alloc_at _ _ _ _ (by rfl)]; rfl) (by rw [World.cell?_alloc_at _ _ _ _ (by rfl)]; rfl) (by have := HOL.out; omega) (Nat.le_trans HB7.out.size (by simp)) ?_; intro v8 w8 own8 gb8 hv8; have HO8 := qh own8; have HG8 := qh gb8; clear own8 gb8 hv8))
    go_roundw
    case rel =>
     refine ⟨j + 1, O ++ [⟨ta, tn, tc, r, toldL on ns inc card FL xl ol⟩], by first | rfl | (congr 1; omega), by omega, HO8.out, ?_, ?_, by have := HOL.out; simp; omega, (HB7.out.alloc HB7.out.size _).grown HG8.out (Nat.le_trans HB7.out.size (by simp)) (fun b hb => (HO.out.lt b hb).1)⟩
     ·intro e he
      rcases List.mem_append.1 he with he | he
      ·exact ((HOK7.out e he).below ((Below.refl _ _).alloc (Nat.le_refl _) _)).grown (HO7.out.alloc _) HG8.out
      ·obtain rfl : e = ⟨ta, tn, tc, r, toldL on ns inc card FL xl ol⟩ := by simpa using he
       rcases HKM.out with hkm | hkm
       ·injection hkm with h1 h2 h3 h4 h5
        rw [h1, h2, h3, h5]
        exact .inl HYO.out
       ·exact .inr (((show ErOwn W0.heap.size W7 ⟨ta, tn, tc, r, toldL on ns inc card FL xl ol⟩ from ⟨hkm.1.mono HBD.out.size, hkm.2⟩).below ((Below.refl _ _).alloc (Nat.le_refl _) _)).grown (HO7.out.alloc _) HG8.out)
     ·rw [HFS.out, List.map_append, HKEY.out]; simp [clK, Er.key, HR.out]
    case measure => simp [intOf]; omega
   ·have hkn : ¬ (j : Int) < (ms.length : Int) := by omega
    have HE : Hid (O.map (fun x => clK x.key) = ((ms.map Er.key).zip (bs.map Er.key)).filterMap F) := qh (by
     rw [HKEY.out, List.take_of_length_le (by simp; omega)]; all_goals rfl)
    obtain ⟨ao, co, hvo, hso, hro2⟩ := HO.out.row (fun e he => (HOK.out e he).ok HB.out) (by have := HOL.out; omega)
    subst hvo
    have HSET := qh (done_any ao O.length co O _ wr hro2 hso HE.out)
    clear hso hro2 hrw hro
    go_wp2_with (go_at_call 63; refine HSET.out.mono ?_; rintro e w5 ⟨a5, c5, es5, rfl, h1, h2, h3, h4⟩; have HH := qh (And.intro h1 (And.intro h2 (And.intro h3 h4))); clear h1 h2 h3 h4)
    go_ret2
    obtain ⟨h1, h2, h3, h4⟩ := HH.out
    exact ⟨a5, c5, es5, rfl, h1, h2, h3, HBT.out.trans (h4.mono HBT.out.size)⟩
end Go.Proofs.YtmmfjknnbkcniaaGreatDoor
