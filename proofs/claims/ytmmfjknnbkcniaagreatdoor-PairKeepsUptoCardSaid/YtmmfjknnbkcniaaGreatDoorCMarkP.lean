/- What writing over elements, and growing their labels, leaves. -/
import Derived.Test.YtmmfjknnbkcniaaGreatDoorQ19
import Derived.Deep.MidRow
namespace Go
/-- append leaves the beginning of the row it was handed. -/
theorem append_keeps {P : Program} (w : World) (base : Nat) (t ty e : TypeId) (i : TypeInfo) (z : Value) (size bytes : Nat) (ht : P.underlying t = some (.slice e)) (hi : P.info? e = some i) (hz : i.zero = some z)
    (hsize : i.size = size) (hby : i.bytes = bytes) (v : Value) (n : Nat) (xs : List Value) (hown : w.ownsRow base e size v n xs)
    (a : Addr) (m c : Nat) (news : List Value) (hl : news.length = m * size) (hnews : ∀ j u, news[j]? = some u → w.cell? (a.add j) = some u) (h1 : ∀ u ∈ news, u.oneCell' = true)
    (h63 : n + m ≤ maxLen) (hbytes : (n + m) * bytes ≤ 140737488355328) {v' : Value} {w' : World} (hrun : (Builtin.append_ #[t, t] ty #[v, .slice (some a) m c]).run P w = .ok v' w') :
    ∀ g cur, v.ownBlock = some g → w.heap[g]? = some (.cells cur e (0, 0)) → ∃ cur', w'.heap[g]? = some (.cells cur' e (0, 0)) ∧ cur'.size = cur.size ∧ cur'.toList.take (n * size) = cur.toList.take (n * size) := by
  subst hsize
  subst hby
  intro g cur hv hg
  rcases hown.2 with ⟨rfl, rfl⟩ | ⟨g', cap, cur', rfl, hbg, hg', hnc, hcm, hcs, htake⟩
  · simp [Value.ownBlock] at hv
  · obtain rfl : g' = g := by simpa [Value.ownBlock] using hv
    rw [hg'] at hg
    injection hg with hg
    injection hg with hg
    subst hg
    by_cases hroom : n + m ≤ cap
    · have hfit : n * i.size + news.length ≤ cur'.size := by rw [hl, hcs, ← Nat.add_mul]; exact Nat.mul_le_mul_right _ hroom
      have hr := run_append_room (P := P) w t ty e i ht hi g' n cap cur' hg' a m c news hl hnews h1 hroom hfit
      rw [hr] at hrun
      injection hrun with _ h2
      subst h2
      refine ⟨_, setRow_heap w g' cur' _ e _ hg', ?_, ?_⟩
      · simp only [List.size_toArray, List.length_append, List.length_take, List.length_drop, Array.length_toList]; omega
      · show (cur'.toList.take (n * i.size) ++ news ++ _).take (n * i.size) = _
        rw [List.append_assoc, List.take_append_of_le_length (by rw [List.length_take, Array.length_toList]; omega), List.take_take, Nat.min_self]
    · have holds : ∀ j u, xs[j]? = some u → w.cell? ((⟨g', 0, none⟩ : Addr).add j) = some u := hown.cells (g := g') rfl
      have hr := run_append_grow (P := P) w t ty e i z ht hi hz ⟨g', 0, none⟩ n cap xs hown.1 holds a m c news hl hnews (by omega) (by simp only [maxLen] at h63; omega) (growslice_fits (by omega) hbytes)
      rw [hr] at hrun
      injection hrun with _ h2
      subst h2
      refine ⟨cur', ?_, rfl, rfl⟩
      exact (heap_alloc_old _ _ (by exact (Array.getElem?_eq_some_iff.1 hg').1)).trans hg'
end Go
namespace Go.Proofs.YtmmfjknnbkcniaaGreatDoor
open Go.Fl Go.Rel Go.RowKit Go.Sort
set_option linter.unusedSimpArgs false
set_option linter.unusedVariables false

/-- One more label; what lay at the beginning of the row stays. -/
theorem wpList_append_lbK {ops : Array Oper} {rest : List Oper} {o : Oper} {a : Act} {Q : Exit → Act → World → Prop} {w : World} (hgd : o.guard = none) (s x : Operand)
    (ho : o.op = .call { callee := .builtin .append, args := #[s, x], argTypes := #[31, 31] })
    (B : Nat) (v : Value) (ss : List Lb) (hs : a.eval s = v) (hown : OwnL B w v ss) (b c : Nat) (y : Lb) (hx : a.eval x = .slice (some ⟨b, 0, none⟩) 1 c)
    (hy0 : w.cell? ⟨b, 0, none⟩ = (lbCells y)[0]?) (hy1 : w.cell? ⟨b, 1, none⟩ = (lbCells y)[1]?)
    (hb : ss.length < 4398046511104) (hB : B ≤ w.heap.size)
    (h : ∀ v' w', OwnL B w' v' (ss ++ [y]) → w.grownBy w' v.ownBlock → (v'.ownBlock = v.ownBlock ∨ v'.ownBlock = some w.heap.size) →
      (∀ C u us, u.ownBlock = v.ownBlock → OwnL C w u us → us.length ≤ ss.length → OwnL C w' u us) → wpList Tryz.prog ops Q rest (a.put o.dst v') w') :
    wpList Tryz.prog ops Q (o :: rest) a w := by
  obtain ⟨i0, hi, hz0, hz1, hz2⟩ := info_parts info_lb
  have hnews : ∀ j u, ([y].flatMap lbCells)[j]? = some u → w.cell? ((⟨b, 0, none⟩ : Addr).add j) = some u := by
    intro j u hj
    match j, hj with
    | 0, hj => simp [lbCells] at hj; subst hj; exact hy0
    | 1, hj => simp [lbCells] at hj; subst hj; exact hy1
  have h1 : ∀ u ∈ [y].flatMap lbCells, u.oneCell' = true := by
    intro u hu
    simp [lbCells] at hu; rcases hu with rfl | rfl <;> rfl
  have h63 : ss.length + 1 ≤ maxLen := by unfold maxLen; omega
  have hby : (ss.length + 1) * 32 ≤ 140737488355328 := by omega
  refine wpList_plain hgd fun K hK => ?_
  obtain ⟨v', w', hr, h2, h3, h4, h5⟩ := run_append_own_at (P := Tryz.prog) w B 31 o.type 54 i0 (.agg #[.string ⟨#[]⟩, .string ⟨#[]⟩]) 2 32 Tryz.underlying31 hi hz0 hz1 hz2 rfl (by decide) v _ _ hown ⟨b, 0, none⟩ 1 c ([y].flatMap lbCells) rfl hnews h1 h63 hby hB
  have hk := append_keeps (P := Tryz.prog) w B 31 o.type 54 i0 (.agg #[.string ⟨#[]⟩, .string ⟨#[]⟩]) 2 32 Tryz.underlying31 hi hz0 hz1 hz2 v _ _ hown ⟨b, 0, none⟩ 1 c ([y].flatMap lbCells) rfl hnews h1 h63 hby hr
  unfold Oper.wp execOp
  simp only [ho, resolve, invoke, builtin, Sem.run_bind, Sem.run_pure, Result.andThen_ok, List.map_toArray, List.map_cons, List.map_nil, hs, hx, hr]
  refine hK _ _ (h v' w' ?_ h3 h5 ?_)
  · unfold OwnL
    rw [List.length_append, List.flatMap_append]
    exact h2
  · intro C u us hub hu hle
    obtain ⟨u1, u2⟩ := hu
    refine ⟨u1, ?_⟩
    rcases u2 with ⟨rfl, hn⟩ | ⟨g, cap, cur, rfl, hg, hbb, hn, hcap, hsz, ht⟩
    · exact .inl ⟨rfl, hn⟩
    · obtain ⟨cur', k1, k2, k3⟩ := hk g cur hub.symm hbb
      refine .inr ⟨g, cap, cur', rfl, hg, k1, hn, hcap, by omega, ?_⟩
      rw [← ht]
      have e : ∀ l : List Value, l.take (us.length * 2) = (l.take (ss.length * 2)).take (us.length * 2) := fun l => by rw [List.take_take, Nat.min_eq_left (by omega)]
      rw [e, k3, ← e]

theorem OwnL.frozenK {B : Nat} {w : World} {g n cap : Nat} {ls : List Lb} (h : OwnL B w (.slice (some ⟨g, 0, none⟩) n cap) ls) (j : Nat) : w.frozen? ⟨g, j, none⟩ = false := by
  have hn : n = ls.length := by
    obtain ⟨_, h2⟩ := h
    rcases h2 with ⟨e, _⟩ | ⟨g', cap', cur, e, _⟩
    · cases e
    · cases e; rfl
  subst hn
  exact World.ownsRow.frozenAt h _
theorem heap_set {w : World} {g i : Nat} {cur : Array Value} {t : TypeId} {f : Nat × Nat} (v : Value) (h : w.heap[g]? = some (.cells cur t f)) : (w.setCell ⟨g, i, none⟩ v).heap[g]? = some (.cells (cur.setIfInBounds i v) t f) := by
  have hlt : g < w.heap.size := (Array.getElem?_eq_some_iff.1 h).1
  have hv : w.heap[g] = .cells cur t f := (Array.getElem?_eq_some_iff.1 h).2
  unfold World.setCell
  rw [Array.getElem?_eq_getElem (by simpa using hlt), Array.getElem_modify]
  simp [hv]
theorem heap_set_ne {w : World} {g i k : Nat} (v : Value) (h : k ≠ g) : (w.setCell ⟨g, i, none⟩ v).heap[k]? = w.heap[k]? := by
  unfold World.setCell
  simp [Array.getElem?_modify, Ne.symm h]
/-- A label written over. -/
theorem OwnL.put {B : Nat} {w : World} {g n c : Nat} {ls : List Lb} (h : OwnL B w (.slice (some ⟨g, 0, none⟩) n c) ls) {k : Nat} (hk : k < ls.length) (y : Lb) :
    OwnL B (w.setCells g (k * 2) (lbCells y)) (.slice (some ⟨g, 0, none⟩) n c) (ls.set k y) := by
  obtain ⟨h1, h2⟩ := h
  rcases h2 with ⟨e, _⟩ | ⟨g', cap, cur, e, hg, hbb, hn, hcap, hs, ht⟩
  · cases e
  · cases e
    have hw : (w.setCells g (k * 2) (lbCells y)).heap[g]? = some (.cells ((cur.setIfInBounds (k * 2) (.string y.n)).setIfInBounds (k * 2 + 1) (.string y.v)) 54 (0, 0)) := heap_set _ (heap_set _ hbb)
    refine ⟨by rw [lbCells_length], .inr ⟨g, c, _, by rw [List.length_set], hg, hw, by rw [List.length_set]; exact hn, hcap, by simp [hs], ?_⟩⟩
    rw [List.length_set]
    refine List.ext_getElem? fun j => ?_
    have hlen : (ls.set k y).length = ls.length := List.length_set
    by_cases hj : j < ls.length * 2
    · obtain ⟨q, r, hq, hr⟩ : ∃ q r, j = q * 2 + r ∧ r < 2 := ⟨j / 2, j % 2, by omega, by omega⟩
      subst hq
      rw [lbCells_get _ q r (by rw [hlen]; omega) hr, List.getElem?_take, if_pos hj, Array.getElem?_toList, Array.getElem?_setIfInBounds, Array.getElem?_setIfInBounds]
      have h0 : (cur.toList.take (ls.length * 2))[q * 2 + r]? = (lbCells (lbAt ls q))[r]? := by rw [ht]; exact lbCells_get ls q r (by omega) hr
      rw [List.getElem?_take, if_pos hj, Array.getElem?_toList] at h0
      have hcs : ls.length * 2 ≤ cur.size := by rw [hs]; exact Nat.mul_le_mul_right _ hn
      have hlb : lbAt (ls.set k y) q = if q = k then y else lbAt ls q := by
        by_cases hqk : q = k
        · subst hqk; simp [lbAt, List.getD, hk]
        · rw [if_neg hqk]; simp [lbAt, List.getD, List.getElem?_set, Ne.symm hqk]
      rw [hlb, h0]
      by_cases hqk : q = k
      · subst hqk
        rw [if_pos rfl]
        rcases (by omega : r = 0 ∨ r = 1) with rfl | rfl
        · rw [if_neg (by omega), if_pos (by omega), if_pos (by omega)]; rfl
        · rw [if_pos (by omega), if_pos (by simp; omega)]; rfl
      · rw [if_neg hqk, if_neg (by omega), if_neg (by omega)]
    · rw [List.getElem?_eq_none (by rw [List.length_take]; omega), List.getElem?_eq_none (by rw [lbCells_length, hlen]; omega)]

/-- What lies below lo and what lay at hi and beyond is as it was. -/
def Mid (lo hi : Nat) (w w' : World) : Prop := Below lo w w' ∧ ∀ b, hi ≤ b → b < w.heap.size → w'.heap[b]? = w.heap[b]?
theorem Mid.refl (lo hi : Nat) (w : World) : Mid lo hi w w := ⟨Below.refl _ _, fun _ _ _ => rfl⟩
theorem Mid.below {lo hi : Nat} {w w' w2 : World} (h : Mid lo hi w w') (hb : Below w'.heap.size w' w2) (hl : lo ≤ w'.heap.size) : Mid lo hi w w2 :=
  ⟨h.1.trans (hb.mono hl), fun b h1 h2 => (hb.block b (Nat.lt_of_lt_of_le h2 h.1.size)).trans (h.2 b h1 h2)⟩
theorem Mid.set {lo hi g i : Nat} {w w' : World} (h : Mid lo hi w w') (h1 : lo ≤ g) (h2 : g < hi) (v : Value) : Mid lo hi w (w'.setCell ⟨g, i, none⟩ v) :=
  ⟨⟨h.1.os, h.1.tape, h.1.output, by simpa [World.setCell] using h.1.size, fun k hk => (heap_set_ne v (by omega)).trans (h.1.block k hk)⟩, fun b h3 h4 => (heap_set_ne v (by omega)).trans (h.2 b h3 h4)⟩
theorem Mid.grown {lo hi : Nat} {w w' w2 : World} {row : Option Nat} (h : Mid lo hi w w') (hg : w'.grownBy w2 row) (hr : ∀ b, row = some b → (lo ≤ b ∧ b < hi) ∨ (lo ≤ b ∧ w.heap.size ≤ b)) (hl : lo ≤ w.heap.size) : Mid lo hi w w2 :=
  ⟨⟨hg.os.trans h.1.os, hg.tape.trans h.1.tape, hg.output.trans h.1.output, Nat.le_trans h.1.size hg.size, fun k hk =>
    (hg.block k (by have := h.1.size; omega) (fun e => by rcases hr k e.symm with h | h <;> omega)).trans (h.1.block k hk)⟩,
   fun b h3 h4 => (hg.block b (Nat.lt_of_lt_of_le h4 h.1.size) (fun e => by rcases hr b e.symm with h | h <;> omega)).trans (h.2 b h3 h4)⟩
end Go.Proofs.YtmmfjknnbkcniaaGreatDoor
namespace Go.Proofs.YtmmfjknnbkcniaaGreatDoor
open Go.Fl Go.Rel Go.RowKit Go.Sort
set_option linter.unusedSimpArgs false
set_option linter.unusedVariables false

/-- The block that an element's labels lie in. -/
def ownE (e : Er) : Option Nat := (Value.slice e.a e.n e.c).ownBlock
/-- Where the elements lie: blocks of their own, from lo up to hi. -/
structure MkF (lo hi g : Nat) (es : List Er) (w0 : World) : Prop where
  g1 : lo ≤ g
  g2 : g < hi
  top : hi ≤ w0.heap.size
  own : ∀ i, i < es.length → ∀ b, ownE (erAt es i) = some b → lo ≤ b ∧ b < hi ∧ b ≠ g
  apart : ∀ i j, i < es.length → j < es.length → i ≠ j → ∀ b, ownE (erAt es i) = some b → ownE (erAt es j) ≠ some b
  small : ∀ i, i < es.length → (erAt es i).n ≤ 4398046511000
/-- What lies there: each element's slice of labels, a value, the labels L. -/
def MkS (lo g : Nat) (es : List Er) (L : Nat → List Lb) (w : World) : Prop :=
  g < w.heap.size ∧ ∀ i, i < es.length → w.cell? ⟨g, i * 2, none⟩ = some (.slice (erAt es i).a (erAt es i).n (erAt es i).c) ∧ w.frozen? ⟨g, i * 2 + 1, none⟩ = false ∧ (∃ f, w.cell? ⟨g, i * 2 + 1, none⟩ = some (.float .f64 f)) ∧ OwnL lo w (.slice (erAt es i).a (erAt es i).n (erAt es i).c) (L i) ∧ (L i).length = (erAt es i).n
theorem frozen_block {w w' : World} {a : Addr} (h : w'.heap[a.block]? = w.heap[a.block]?) : w'.frozen? a = w.frozen? a := World.frozen?_of_block h
theorem cell_block {w w' : World} {a : Addr} (h : w'.heap[a.block]? = w.heap[a.block]?) : w'.cell? a = w.cell? a := World.cell?_of_block h
theorem MkS.below {lo g : Nat} {es : List Er} {L : Nat → List Lb} {w w' : World} (h : MkS lo g es L w) (hb : Below w.heap.size w w') : MkS lo g es L w' :=
  ⟨Nat.lt_of_lt_of_le h.1 hb.size, fun i hi => by
    obtain ⟨h1, h2, ⟨f, h3⟩, h4, h5⟩ := h.2 i hi
    have hg := hb.block g h.1
    exact ⟨by rw [cell_block (a := ⟨g, i * 2, none⟩) hg]; exact h1, by rw [frozen_block (a := ⟨g, i * 2 + 1, none⟩) hg]; exact h2, ⟨f, by rw [cell_block (a := ⟨g, i * 2 + 1, none⟩) hg]; exact h3⟩, h4.below hb, h5⟩⟩
theorem MkS.value {lo top g : Nat} {es : List Er} {L : Nat → List Lb} {w w0 : World} (h : MkS lo g es L w) (hf : MkF lo top g es w0) {i : Nat} (hi : i < es.length) (x : Nat) : MkS lo g es L (w.setCell ⟨g, i * 2 + 1, none⟩ (.float .f64 x)) :=
  ⟨by simpa [World.setCell] using h.1, fun j hj => by
    obtain ⟨h1, h2, ⟨f, h3⟩, h4, h5⟩ := h.2 j hj
    refine ⟨?_, by rw [World.frozen?_setCell]; exact h2, ?_, ?_, h5⟩
    · rw [World.cell?_setCell_other _ _ _ _ (fun e => by injection e with _ e2 _; omega)]; exact h1
    · by_cases hij : j = i
      · subst hij
        exact ⟨x, World.cell?_setCell_same _ _ _ h3⟩
      · exact ⟨f, by rw [World.cell?_setCell_other _ _ _ _ (fun e => by injection e with _ e2 _; omega)]; exact h3⟩
    · exact h4.stay fun b hb => heap_set_ne _ (hf.own j hj b hb).2.2⟩
theorem heap_sets_ne {w : World} {b o k : Nat} (y : Lb) (h : k ≠ b) : (w.setCells b o (lbCells y)).heap[k]? = w.heap[k]? :=
  (heap_set_ne _ h).trans (heap_set_ne _ h)
theorem MkS.label {lo top g : Nat} {es : List Er} {L : Nat → List Lb} {w w0 : World} (h : MkS lo g es L w) (hf : MkF lo top g es w0) {i k b n c : Nat} (hi : i < es.length) (he : (erAt es i).a = some ⟨b, 0, none⟩) (hk : k < (erAt es i).n) (y : Lb) :
    MkS lo g es (fun j => if j = i then (L i).set k y else L j) (w.setCells b (k * 2) (lbCells y)) := by
  have hob : ownE (erAt es i) = some b := by unfold ownE; rw [he]; rfl
  have hbg := (hf.own i hi b hob).2.2
  refine ⟨by simpa [World.setCells, lbCells, World.setCell] using h.1, fun j hj => ?_⟩
  obtain ⟨h1, h2, ⟨f, h3⟩, h4, h5⟩ := h.2 j hj
  have hg : (w.setCells b (k * 2) (lbCells y)).heap[g]? = w.heap[g]? := heap_sets_ne y (Ne.symm hbg)
  refine ⟨by rw [cell_block (a := ⟨g, j * 2, none⟩) hg]; exact h1, by rw [frozen_block (a := ⟨g, j * 2 + 1, none⟩) hg]; exact h2, ⟨f, by rw [cell_block (a := ⟨g, j * 2 + 1, none⟩) hg]; exact h3⟩, ?_, ?_⟩ <;> dsimp only
  · by_cases hij : j = i
    · subst hij
      rw [if_pos rfl]
      rw [he] at h4 ⊢
      exact h4.put (by omega) y
    · rw [if_neg hij]
      exact h4.stay fun b' hb' => heap_sets_ne y (fun e => by subst e; exact hf.apart j i hj hi hij _ hb' hob)
  · by_cases hij : j = i
    · subst hij; rw [if_pos rfl, List.length_set]; exact h5
    · rw [if_neg hij]; exact h5
/-- The labels grow, in a row of their own or in a new one. -/
theorem MkS.grow {lo top g : Nat} {es : List Er} {L : Nat → List Lb} {w w' w0 : World} {v : Value} (h : MkS lo g es L w) (hf : MkF lo top g es w0) {i m : Nat} (hi : i < es.length) (hg : w.grownBy w' v.ownBlock)
    (hv : v.ownBlock = none ∨ v.ownBlock = ownE (erAt es i) ∨ ∃ b, v.ownBlock = some b ∧ w0.heap.size ≤ b) (hm : (erAt es i).n ≤ m)
    (hk : ∀ C u us, u.ownBlock = v.ownBlock → OwnL C w u us → us.length ≤ m → OwnL C w' u us) : MkS lo g es L w' := by
  have hlt := hf.top
  have hgn : some g ≠ v.ownBlock := fun e => by
    rcases hv with h1 | h1 | ⟨b, h1, h2⟩
    · rw [h1] at e; cases e
    · rw [h1] at e; exact (hf.own i hi g e.symm).2.2 rfl
    · rw [h1] at e; injection e with e; have := hf.g2; omega
  have hgg := hg.block g h.1 hgn
  refine ⟨Nat.lt_of_lt_of_le h.1 hg.size, fun j hj => ?_⟩
  obtain ⟨h1, h2, ⟨f, h3⟩, h4, h5⟩ := h.2 j hj
  refine ⟨by rw [cell_block (a := ⟨g, j * 2, none⟩) hgg]; exact h1, by rw [frozen_block (a := ⟨g, j * 2 + 1, none⟩) hgg]; exact h2, ⟨f, by rw [cell_block (a := ⟨g, j * 2 + 1, none⟩) hgg]; exact h3⟩, ?_, h5⟩
  have other : (∀ b, ownE (erAt es j) = some b → some b ≠ v.ownBlock) → OwnL lo w' (.slice (erAt es j).a (erAt es j).n (erAt es j).c) (L j) := fun hne =>
    h4.stay fun b hb => hg.block b (h4.lt b hb).2 (hne b hb)
  rcases hv with h6 | h6 | ⟨b, h6, h7⟩
  · exact other fun b _ e => by rw [h6] at e; cases e
  · by_cases hij : j = i
    · subst hij
      exact hk lo _ _ h6.symm h4 (by rw [h5]; exact hm)
    · exact other fun b hb e => by rw [h6] at e; exact hf.apart j i hj hi hij b hb e.symm
  · exact other fun b' hb e => by rw [h6] at e; injection e with e; have := (hf.own j hj b' hb).2.1; omega
end Go.Proofs.YtmmfjknnbkcniaaGreatDoor
