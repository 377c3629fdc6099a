/- PairSets, the plain law; an append of one list of elements to another. -/
import Derived.Test.YtmmfjknnbkcniaaGreatDoorCLooseP
namespace Go.Proofs.YtmmfjknnbkcniaaGreatDoor
open Go.Fl Go.Rel Go.RowKit Go.Sort
set_option linter.unusedSimpArgs false
set_option linter.unusedVariables false

def farK (on : Bool) (ns : List ByteArray) (ml mr : List Ek) : List Ek := ml.filter fun x => !meetsE on ns mr x
theorem setL_unless (on : Bool) (ns : List ByteArray) (ml mr : List Ek) : setL [117, 110, 108, 101, 115, 115] on ns ml mr = farK on ns ml mr := by
  unfold setL farK
  rw [if_neg (by decide)]
  congr 1
  funext x
  cases meetsE on ns mr x <;> rfl
theorem setL_or (on : Bool) (ns : List ByteArray) (ml mr : List Ek) : setL [111, 114] on ns ml mr = ml ++ farK on ns mr ml := by
  unfold setL farK
  rw [if_pos (by decide)]
theorem near_far_perm (on : Bool) (ns : List ByteArray) (ml mr : List Ek) : (nearK on ns ml mr ++ farK on ns ml mr).Perm ml := List.filter_append_perm _ _
theorem near_far_len (on : Bool) (ns : List ByteArray) (ml mr : List Ek) : (nearK on ns ml mr).length + (farK on ns ml mr).length = ml.length := by
  rw [← List.length_append]; exact (near_far_perm on ns ml mr).length_eq
/-- elements with labels of their own, each sound, make a vector -/
theorem vecK_distinct {ks : List Ek} (hd : ks.Pairwise fun x y => ¬ lcmp x.1 y.1 = 0) (hv : ∀ k ∈ ks, validK k = true) : vecK ks = some (sortK ks) ∧ Canon (sortK ks) := by
  have hp : (sortK ks).Perm ks := List.mergeSort_perm ks leK
  have hd2 : (sortK ks).Pairwise fun x y => ¬ lcmp x.1 y.1 = 0 := (hp.pairwise_iff (fun {x y} h e => h (by rw [lcmp_swap y.1 x.1, e]; rfl))).2 hd
  have hc : Canon (sortK ks) := by
    refine ⟨List.Pairwise.imp₂ (fun x y h1 h2 => ?_) (sortK_le ks) hd2, fun k hk => hv k (hp.subset hk)⟩
    have := (leK_iff x y).1 h1
    unfold Less; omega
  exact ⟨vecK_perm hc hp.symm, hc⟩
theorem or_vec {on : Bool} {ns : List ByteArray} {ml mr : List Ek} (hl : Canon ml) (hr : Canon mr) : vecK (ml ++ farK on ns mr ml) = some (sortK (ml ++ farK on ns mr ml)) := by
  refine (vecK_distinct ?_ ?_).1
  · rw [List.pairwise_append]
    refine ⟨hl.1.imp fun {x y} h => by unfold Less at h; omega, (hr.1.filter _).imp fun {x y} h => by unfold Less at h; omega, fun x hx y hy e => ?_⟩
    unfold farK at hy
    obtain ⟨_, h2⟩ := List.mem_filter.1 hy
    have hxy := lcmp_zero.1 e
    have : meetsE on ns ml y = true := by
      unfold meetsE meetsK
      rw [List.any_eq_true]
      exact ⟨x.1, List.mem_map_of_mem hx, by rw [hxy]; exact meet_refl _ _ _⟩
    rw [this] at h2; cases h2
  · intro k hk
    rcases List.mem_append.1 hk with h | h
    · exact hl.2 k h
    · exact hr.2 k (List.mem_filter.1 h).1

/-- One list of elements behind another, each a block of its own or none. -/
theorem wpList_append_er0 {ops : Array Oper} {rest : List Oper} {o : Oper} {a : Act} {Q : Exit → Act → World → Prop} {w : World} (hgd : o.guard = none) (s x : Operand)
    (ho : o.op = .call { callee := .builtin .append, args := #[s, x], argTypes := #[22, 22] })
    (B : Nat) (v : Value) (ss : List Er) (hs : a.eval s = v) (hown : OwnE B w v ss) (hx : a.eval x = .slice none 0 0)
    (h : wpList Tryz.prog ops Q rest (a.put o.dst v) w) : wpList Tryz.prog ops Q (o :: rest) a w := by
  have hw : Region.wanted o (yielded ops a.tmps) = true := by simp [Region.wanted, hgd]
  unfold wpList
  rw [if_pos hw]
  obtain ⟨i0, hi, hz0, hz1, hz2⟩ := info_parts info_er
  have hr := run_append_owned_none (P := Tryz.prog) w B 22 o.type 34 i0 2 Tryz.underlying22 hi v _ _ hown
  refine .inl ?_
  unfold Oper.wp execOp
  simp only [ho, resolve, invoke, builtin, Sem.run_bind, Sem.run_pure, Result.andThen_ok, List.map_toArray, List.map_cons, List.map_nil, hs, hx, hr]
  exact h
theorem wpList_append_own2 {ops : Array Oper} {rest : List Oper} {o : Oper} {a : Act} {Q : Exit → Act → World → Prop} {w : World} (hgd : o.guard = none) (s x : Operand)
    (ho : o.op = .call { callee := .builtin .append, args := #[s, x], argTypes := #[22, 22] })
    (B : Nat) (v : Value) (ss : List Er) (hs : a.eval s = v) (hown : OwnE B w v ss) (C : Nat) (v2 : Value) (ys : List Er) (hx : a.eval x = v2) (hown2 : OwnE C w v2 ys)
    (hb : ss.length + ys.length ≤ 4398046511104) (hB : B ≤ w.heap.size)
    (h : ∀ v' w', OwnE B w' v' (ss ++ ys) → w.grownBy w' v.ownBlock → wpList Tryz.prog ops Q rest (a.put o.dst v') w') :
    wpList Tryz.prog ops Q (o :: rest) a w := by
  rcases hown2.form with ⟨rfl, rfl⟩ | ⟨g, cap, rfl, _, hlt, _, _⟩
  · refine wpList_append_er0 hgd s x ho B v ss hs hown hx ?_
    exact h v w (by rw [List.append_nil]; exact hown) (World.grownBy.refl _ _)
  · refine wpList_append_ers hgd s x ho B v ss hs hown ⟨g, 0, none⟩ ys.length cap ys rfl hx (fun j u hj => ?_) hb hB (fun v' w' h1 h2 _ => h v' w' h1 h2)
    have hl : j < ys.length * 2 := by
      rcases Nat.lt_or_ge j (ys.length * 2) with h | h
      · exact h
      · rw [List.getElem?_eq_none (by rw [erCells_length]; omega)] at hj; cases hj
    have hcell := hown2.cell (i := j / 2) (c := j % 2) (by omega) (by omega)
    rw [show j = j / 2 * 2 + j % 2 by omega, erCells_get ys (j / 2) (j % 2) (by omega) (by omega)] at hj
    rw [← hj, ← hcell]
    have ha : (⟨g, 0, none⟩ : Addr).add j = ⟨g, 0 + j / 2 * 2 + j % 2, none⟩ := by
      rw [Addr.add_lit]
      congr 1
      omega
    rw [ha]
end Go.Proofs.YtmmfjknnbkcniaaGreatDoor
