/- Rows of floats written in place; whole rows appended; sums of ones. -/
import Derived.Test.YtllphokepjekpaaHSteps
import Derived.Test.YtllphokepjekpaaQuant
import Derived.Test.YtllphokepjekpaaWholeSum
import Derived.Test.YtllphokepjekpaaLawWholes
namespace Go.Proofs.Ytllphokepjekpaa
open Go.Fl Go.Rel Go.RowKit
theorem at0_set {l : List Nat} {i j v : Nat} (h : i < l.length) : at0 (l.set i v) j = if i = j then v else at0 l j := by
  unfold at0
  by_cases e : i = j
  · subst e; simp [List.getD, h]
  · simp [List.getD, e, List.getElem?_set_ne]

theorem sI_ones (n : Nat) : ∀ k, k ≤ n → sI (List.replicate n (1 : Int)) k = (k : Int) ∧ aI (List.replicate n (1 : Int)) k = k := by
  intro k
  induction k with
  | zero => intro _; exact ⟨rfl, rfl⟩
  | succ k ih =>
    intro hk
    obtain ⟨h1, h2⟩ := ih (by omega)
    have e : (List.replicate n (1 : Int)).getD k 0 = 1 := by simp [List.getD, show k < n by omega]
    constructor
    · show sI _ k + _ = _
      rw [h1, e]; omega
    · show aI _ k + _ = _
      rw [h2, e]; rfl
theorem ones_map (n : Nat) : List.replicate n w1 = (List.replicate n (1 : Int)).map wz := by
  rw [List.map_replicate]
  rw [show wz 1 = w1 by decide +kernel]
theorem sum_ones {n : Nat} (h : n ≤ 4096) : sumS ((List.replicate n w1).map cn) = wz (n : Int) := by
  have hl : (List.replicate n (1 : Int)).length = n := List.length_replicate
  have ha : aI (List.replicate n (1 : Int)) (List.replicate n (1 : Int)).length ≤ 9007199254740992 := by
    rw [hl, (sI_ones n n (Nat.le_refl _)).2]; omega
  rw [ones_map, map_cn_wz _ ha, sum_whole _ ha, hl, (sI_ones n n (Nat.le_refl _)).1]
theorem div_self {n : Nat} (h0 : 0 < n) (h : n ≤ 4096) {r : Nat} (hr : cn r = fdiv (wz (n : Int)) (nfl n)) : (ford r w1 == some .eq) = true := by
  have hw := wz_read (z := (n : Int)) (by omega)
  have hv := fv_wz (z := (n : Int)) (by omega)
  have hU := U_pos
  have hne : uv (wz (n : Int)) ≠ 0 := by
    rw [hw.2.1]
    intro e
    rcases Int.mul_eq_zero.1 e with e | e <;> omega
  have hd := div_rd hw.1 hw.1 hne
  have hq : fv (wz (n : Int)) / fv (wz (n : Int)) = 1 := by
    rw [hv.2]
    have h2 : (0 : Rat) < ((n : Int) : Rat) := by
      have := Rat.intCast_lt_intCast.2 (show (0 : Int) < (n : Int) by omega)
      simpa using this
    have h3 := div_cancel (a := ((n : Int) : Rat)) h2
    grind
  rw [hq] at hd
  have h1 := fv_one
  have hf := hd.fin w1 w1 h1.1 h1.1 (by rw [h1.2]; exact Rat.le_refl) (by rw [h1.2]; exact Rat.le_refl)
  have g1 := hd.ge w1 h1.1 hf (by rw [h1.2]; exact Rat.le_refl)
  have g2 := hd.le w1 h1.1 hf (by rw [h1.2]; exact Rat.le_refl)
  have he : fv (fdiv (wz (n : Int)) (wz (n : Int))) = fv w1 := Rat.le_antisymm g2 g1
  rw [← ford_cn1, hr]
  show (ford (fdiv (wz (n : Int)) (wz (n : Int))) w1 == some .eq) = true
  rw [(ford_fv hf h1.1).2.2]
  exact decide_eq_true he

/-- A row of floats of the call's own, written in place. -/
def WF (w : World) (g : Nat) (xs : List Nat) : Prop := g < w.heap.size ∧ ∀ i, i < xs.length → w.cell? ⟨g, i, none⟩ = some (.float .f64 (at0 xs i)) ∧ w.frozen? ⟨g, i, none⟩ = false

theorem WF.drewN {w : World} {g : Nat} {l : List Nat} (h : WF w g l) (n : Nat) : WF (w.drewN n) g l := h
theorem WF.below {w w' : World} {g k : Nat} {l : List Nat} (h : WF w g l) (hb : Below k w w') (hk : g < k) : WF w' g l := by
  obtain ⟨h0, h⟩ := h
  refine ⟨by have := hb.size; omega, fun i hi => ?_⟩
  obtain ⟨c0, f0⟩ := h i hi
  rw [hb.cell (p := ⟨g, i, none⟩) hk]
  refine ⟨c0, ?_⟩
  unfold World.frozen? at *; rw [hb.block g hk]; exact f0
theorem WF.on {w w' : World} {g : Nat} {l : List Nat} (h : WF w g l) (hb : Below w.heap.size w w') : WF w' g l := h.below hb h.1
theorem WR.on {w w' : World} {g : Nat} {l : List Hb} (h : WR w g l) (hb : Below w.heap.size w w') : WR w' g l := h.below hb h.1
theorem WF.set {w : World} {g : Nat} {l : List Nat} (h : WF w g l) (i v : Nat) (hi : i < l.length) : WF (w.setCell ⟨g, i, none⟩ (.float .f64 v)) g (l.set i v) := by
  obtain ⟨h0, h⟩ := h
  refine ⟨by simpa using h0, fun j hj => ?_⟩
  rw [List.length_set] at hj
  obtain ⟨c0, f0⟩ := h j hj
  rw [at0_set hi]
  refine ⟨?_, by rw [World.frozen?_setCell]; exact f0⟩
  by_cases e : i = j
  · subst e; rw [if_pos rfl]; exact World.cell?_setCell_same _ _ _ c0
  · rw [if_neg e, World.cell?_setCell_other _ _ _ _ (fun h => by injection h with _ h2 _; omega), c0]
theorem WF.other {w : World} {g : Nat} {l : List Nat} (h : WF w g l) {a : Addr} (ha : a.block ≠ g) (v : Value) : WF (w.setCell a v) g l := by
  obtain ⟨h0, h⟩ := h
  refine ⟨by simpa using h0, fun j hj => ?_⟩
  obtain ⟨c0, f0⟩ := h j hj
  rw [World.cell?_setCell_other _ _ _ _ (fun h => ha (by rw [h])), World.frozen?_setCell]
  exact ⟨c0, f0⟩
theorem WR.other {w : World} {g : Nat} {l : List Hb} (h : WR w g l) {a : Addr} (ha : a.block ≠ g) (v : Value) : WR (w.setCell a v) g l := by
  obtain ⟨h0, h⟩ := h
  refine ⟨by simpa using h0, fun j hj => ?_⟩
  obtain ⟨c0, c1, f0, f1⟩ := h j hj
  rw [World.cell?_setCell_other _ _ _ _ (fun h => ha (by rw [h])), World.cell?_setCell_other _ _ _ _ (fun h => ha (by rw [h])), World.frozen?_setCell, World.frozen?_setCell]
  exact ⟨c0, c1, f0, f1⟩
theorem WF.row {w : World} {g n : Nat} {l : List Nat} (h : WF w g l) (hn : n ≤ l.length) (hb : l.length ≤ 9223372036854775807) : Row w (some ⟨g, 0, none⟩) n (l.take n) :=
  ⟨by rw [List.length_take]; omega, by omega, fun h0 => ⟨g, 0, rfl, fun i hi => by rw [at0_take l hi, Nat.zero_add]; exact (h.2 i (by omega)).1⟩⟩
theorem WR.hrow' {w : World} {g n : Nat} {l : List Hb} (h : WR w g l) (hn : n ≤ l.length) (hb : l.length ≤ 9223372036854775807) : HRow w (some ⟨g, 0, none⟩) n (l.take n) :=
  (h.hrow hb).take hn
theorem Own.wf {B g n c' : Nat} {w : World} {xs : List Nat} (h : Own B w (.slice (some ⟨g, 0, none⟩) n c') xs) : WF w g xs := by
  refine ⟨(World.ownsRow.lt h g rfl).2, fun i hi => ?_⟩
  have hl : xs.length = n := by
    rcases h.2 with ⟨h1, _⟩ | ⟨g', cap', cur, h1, _⟩
    · cases h1
    · injection h1 with _ h2 _; omega
  have hh := own_holds h hl i (by simpa using hi)
  rw [Nat.zero_add] at hh
  refine ⟨?_, hh.2⟩
  rw [hh.1]
  simp [at0, List.getD, hi]
theorem Own.form {B : Nat} {w : World} {v : Value} {xs : List Nat} (h : Own B w v xs) (hn : 0 < xs.length) : ∃ g cap, v = .slice (some ⟨g, 0, none⟩) xs.length cap ∧ B ≤ g ∧ g < w.heap.size ∧ xs.length ≤ cap ∧ WF w g xs := by
  have h0 := h
  rcases h.2 with ⟨rfl, hn'⟩ | ⟨g, cap, cur, rfl, hg, hbb, hn', hcap, hs, ht⟩
  · omega
  · exact ⟨g, cap, rfl, hg, (World.ownsRow.lt h0 g rfl).2, hn', Own.wf h0⟩

theorem ownH_made (w : World) : OwnH w.heap.size (w.alloc (.cells #[] 46)) (.slice (some ⟨w.heap.size, 0, none⟩) 0 0) [] := World.ownsRow_made w #[] 0 (Nat.le_refl _) (by decide) rfl

/-- All of a row's buckets more. -/
theorem wpList_append_hs {ops : Array Oper} {rest : List Oper} {o : Oper} {a : Act} {Q : Exit → Act → World → Prop} {w : World} (hgd : o.guard = none) (s x : Operand)
    (ho : o.op = .call { callee := .builtin .append, args := #[s, x], argTypes := #[43, 43] })
    (B : Nat) (v : Value) (ys : List Hb) (hs : a.eval s = v) (hown : OwnH B w v ys) (ad : Option Addr) (m c : Nat) (zs : List Hb) (hok : SlOk ad m c) (hx : a.eval x = .slice ad m c) (hy : HRow w ad m zs)
    (hb : ys.length + m < 8796093022208) (hB : B ≤ w.heap.size)
    (h : ∀ v' w', OwnH B w' v' (ys ++ zs) → w.grownBy w' v.ownBlock → (v'.ownBlock = v.ownBlock ∨ v'.ownBlock = some w.heap.size) → wpList Try.prog ops Q rest (a.put o.dst v') w') :
    wpList Try.prog ops Q (o :: rest) a w := by
  obtain ⟨i0, hi, hz0, hz1, hz2⟩ := info_parts info_hb
  obtain ⟨hl, hm, hc⟩ := hy
  cases ad with
  | none =>
    have hc0 := hok.2 rfl
    have hm0 : m = 0 := by have := hok.1; omega
    subst hm0 hc0
    obtain rfl : zs = [] := List.eq_nil_of_length_eq_zero hl
    refine wpList_append_own_none hgd s x 43 ho B 46 i0 2 Try.underlying43 hi v _ _ hs hown hx ?_
    exact h v w (by rw [List.append_nil]; exact hown) ⟨rfl, rfl, rfl, Nat.le_refl _, fun _ _ _ => rfl⟩ (.inl rfl)
  | some ad =>
    refine wpList_append_own_at w hgd s x 43 ho B 46 i0 (.agg #[.float .f64 0, .float .f64 0]) 2 16 Try.underlying43 hi hz0 hz1 hz2 rfl (by decide) v _ _ hs hown ad m c (zs.flatMap hbCells) hx (by rw [hbCells_length, hl]) ?_ ?_ ?_ ?_ hB ?_
    · intro j u hj
      have hjm : j < m * 2 := by
        have := (List.getElem?_eq_some_iff.1 hj).1
        rw [hbCells_length] at this; omega
      obtain ⟨b, off, ha, hcc⟩ := hc (by omega)
      cases ha
      obtain ⟨c0, c1⟩ := hcc (j / 2) (by omega)
      have hg := hbCells_get zs (j / 2) (j % 2) (by omega) (by omega)
      rw [show j / 2 * 2 + j % 2 = j by omega, hj] at hg
      rw [Addr.add_lit]
      rcases Nat.mod_two_eq_zero_or_one j with h2 | h2
      · rw [h2] at hg
        have : u = .float .f64 (uH zs (j / 2)) := by simpa [hbCells, uH] using hg
        rw [this, show off + j = off + j / 2 * 2 by omega]; exact c0
      · rw [h2] at hg
        have : u = .float .f64 (cH zs (j / 2)) := by simpa [hbCells, cH] using hg
        rw [this, show off + j = off + j / 2 * 2 + 1 by omega]; exact c1
    · intro u hu; rw [List.mem_flatMap] at hu; obtain ⟨t, _, ht⟩ := hu; simp [hbCells] at ht; rcases ht with rfl | rfl <;> rfl
    · unfold maxLen; omega
    · omega
    · intro v' w' h1 h2 _ h4
      refine h v' w' ?_ h2 h4
      unfold OwnH
      rw [List.length_append, List.flatMap_append, hl]
      exact h1
/-- The laws of append behind a guard that holds. -/
theorem append_none_w {P : Program} {w : World} {ops : Array Oper} {rest : List Oper} {o : Oper} {a : Act} {Q : Exit → Act → World → Prop} (hgd : Region.wanted o (yielded ops a.tmps) = true) (s x : Operand) (t : TypeId)
    (ho : o.op = .call { callee := .builtin .append, args := #[s, x], argTypes := #[t, t] })
    (base : Nat) (e : TypeId) (i : TypeInfo) (size : Nat) (ht : P.underlying t = some (.slice e)) (hi : P.info? e = some i)
    (v : Value) (n : Nat) (xs : List Value) (hs : a.eval s = v) (hown : w.ownsRow base e size v n xs) (hx : a.eval x = .slice none 0 0)
    (h : wpList P ops Q rest (a.put o.dst v) w) : wpList P ops Q (o :: rest) a w := by
  refine wpList_step fun K hK => ?_
  rw [if_pos hgd]
  have hrun := run_append_owned_none (P := P) (w := w) base t o.type e i size ht hi v n xs hown
  unfold Oper.wp
  simp [execOp, ho, resolve, invoke, builtin, hs, hx, hrun, Result.andThen]
  exact hK _ _ h
theorem append_at_w {P : Program} (w : World) {ops : Array Oper} {rest : List Oper} {o : Oper} {a : Act} {Q : Exit → Act → World → Prop} (hgd : Region.wanted o (yielded ops a.tmps) = true) (s x : Operand) (t : TypeId)
    (ho : o.op = .call { callee := .builtin .append, args := #[s, x], argTypes := #[t, t] })
    (base : Nat) (e : TypeId) (i : TypeInfo) (z : Value) (size bytes : Nat) (ht : P.underlying t = some (.slice e)) (hi : P.info? e = some i) (hz : i.zero = some z)
    (hsize : i.size = size) (hby : i.bytes = bytes) (hzs : z.cells.size = size) (hsz : 0 < size)
    (v : Value) (n : Nat) (xs : List Value) (hs : a.eval s = v) (hown : w.ownsRow base e size v n xs)
    (ad : Addr) (m c : Nat) (news : List Value) (hx : a.eval x = .slice (some ad) m c) (hl : news.length = m * size) (hnews : ∀ j u, news[j]? = some u → w.cell? (ad.add j) = some u) (h1 : ∀ u ∈ news, u.oneCell' = true)
    (h63 : n + m ≤ maxLen) (hbytes : (n + m) * bytes ≤ 140737488355328) (hbase : base ≤ w.heap.size)
    (h : ∀ v' w', w'.ownsRow base e size v' (n + m) (xs ++ news) → w.grownBy w' v.ownBlock → (v' = .slice none 0 0 ↔ v = .slice none 0 0 ∧ m = 0) → (v'.ownBlock = v.ownBlock ∨ v'.ownBlock = some w.heap.size) → wpList P ops Q rest (a.put o.dst v') w') :
    wpList P ops Q (o :: rest) a w := by
  refine wpList_step fun K hK => ?_
  rw [if_pos hgd]
  obtain ⟨v', w', hr, h2, h3, h4, h5⟩ := run_append_own_at (P := P) w base t o.type e i z size bytes ht hi hz hsize hby hzs hsz v n xs hown ad m c news hl hnews h1 h63 hbytes hbase
  unfold Oper.wp execOp
  simp only [ho, resolve, invoke, builtin, Sem.run_bind, Sem.run_pure, Result.andThen_ok, List.map_toArray, List.map_cons, List.map_nil, hs, hx, hr]
  exact hK _ _ (h v' w' h2 h3 h4 h5)

/-- .. where the operation stands behind a guard that holds. -/
theorem wpList_append_hs_w {ops : Array Oper} {rest : List Oper} {o : Oper} {a : Act} {Q : Exit → Act → World → Prop} {w : World} (hgd : Region.wanted o (yielded ops a.tmps) = true) (s x : Operand)
    (ho : o.op = .call { callee := .builtin .append, args := #[s, x], argTypes := #[43, 43] })
    (B : Nat) (v : Value) (ys : List Hb) (hs : a.eval s = v) (hown : OwnH B w v ys) (ad : Option Addr) (m c : Nat) (zs : List Hb) (hok : SlOk ad m c) (hx : a.eval x = .slice ad m c) (hy : HRow w ad m zs)
    (hb : ys.length + m < 8796093022208) (hB : B ≤ w.heap.size)
    (h : ∀ v' w', OwnH B w' v' (ys ++ zs) → w.grownBy w' v.ownBlock → (v'.ownBlock = v.ownBlock ∨ v'.ownBlock = some w.heap.size) → wpList Try.prog ops Q rest (a.put o.dst v') w') :
    wpList Try.prog ops Q (o :: rest) a w := by
  obtain ⟨i0, hi, hz0, hz1, hz2⟩ := info_parts info_hb
  obtain ⟨hl, hm, hc⟩ := hy
  cases ad with
  | none =>
    have hc0 := hok.2 rfl
    have hm0 : m = 0 := by have := hok.1; omega
    subst hm0 hc0
    obtain rfl : zs = [] := List.eq_nil_of_length_eq_zero hl
    refine append_none_w hgd s x 43 ho B 46 i0 2 Try.underlying43 hi v _ _ hs hown hx ?_
    exact h v w (by rw [List.append_nil]; exact hown) ⟨rfl, rfl, rfl, Nat.le_refl _, fun _ _ _ => rfl⟩ (.inl rfl)
  | some ad =>
    refine append_at_w w hgd s x 43 ho B 46 i0 (.agg #[.float .f64 0, .float .f64 0]) 2 16 Try.underlying43 hi hz0 hz1 hz2 rfl (by decide) v _ _ hs hown ad m c (zs.flatMap hbCells) hx (by rw [hbCells_length, hl]) ?_ ?_ ?_ ?_ hB ?_
    · intro j u hj
      have hjm : j < m * 2 := by
        have := (List.getElem?_eq_some_iff.1 hj).1
        rw [hbCells_length] at this; omega
      obtain ⟨b, off, ha, hcc⟩ := hc (by omega)
      cases ha
      obtain ⟨c0, c1⟩ := hcc (j / 2) (by omega)
      have hg := hbCells_get zs (j / 2) (j % 2) (by omega) (by omega)
      rw [show j / 2 * 2 + j % 2 = j by omega, hj] at hg
      rw [Addr.add_lit]
      rcases Nat.mod_two_eq_zero_or_one j with h2 | h2
      · rw [h2] at hg
        have : u = .float .f64 (uH zs (j / 2)) := by simpa [hbCells, uH] using hg
        rw [this, show off + j = off + j / 2 * 2 by omega]; exact c0
      · rw [h2] at hg
        have : u = .float .f64 (cH zs (j / 2)) := by simpa [hbCells, cH] using hg
        rw [this, show off + j = off + j / 2 * 2 + 1 by omega]; exact c1
    · intro u hu; rw [List.mem_flatMap] at hu; obtain ⟨t, _, ht⟩ := hu; simp [hbCells] at ht; rcases ht with rfl | rfl <;> rfl
    · unfold maxLen; omega
    · omega
    · intro v' w' h1 h2 _ h4
      refine h v' w' ?_ h2 h4
      unfold OwnH
      rw [List.length_append, List.flatMap_append, hl]
      exact h1
end Go.Proofs.Ytllphokepjekpaa
