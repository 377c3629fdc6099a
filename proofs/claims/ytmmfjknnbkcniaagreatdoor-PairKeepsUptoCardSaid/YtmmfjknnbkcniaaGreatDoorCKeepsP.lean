/- PairKeeps: where answers lie, and what stays of them; how many labels an answer's element can have. -/
import Derived.Test.YtmmfjknnbkcniaaGreatDoorCMark
import Derived.Test.YtmmfjknnbkcniaaGreatDoorCCopyA
import Derived.Test.YtmmfjknnbkcniaaGreatDoorQ31
namespace Go.Fl
theorem incL_len (inc : List ByteArray) (one : List Lb) : ∀ ls : List Lb, (incL inc one ls).length ≤ ls.length + inc.length := by
  unfold incL
  induction inc with
  | nil => intro ls; simp
  | cons a t ih =>
    intro ls
    rw [List.foldl_cons, List.length_cons]
    have h1 := ih (withL a (getL a one) ls)
    have h2 := withL_len a (getL a one) ls
    omega
end Go.Fl
namespace Go.Proofs.YtmmfjknnbkcniaaGreatDoor
open Go.Fl Go.Rel Go.RowKit Go.Sort
set_option linter.unusedSimpArgs false
set_option linter.unusedVariables false

theorem told_len (on : Bool) (ns inc : List ByteArray) (card : Int) (fil : Bool) (many one : List Lb) : (toldL on ns inc card fil many one).length ≤ many.length + inc.length := by
  have h0 : (if fil then many else sansL MN many).length ≤ many.length := by
    cases fil
    · exact sansL_length _ _
    · exact Nat.le_refl _
  unfold toldL
  split
  · exact Nat.le_trans (outL_len _ _ _) (by omega)
  · exact Nat.le_trans (incL_len _ _ _) (by omega)
theorem setV_len {ks : List Ek} {M : Nat} (h : ∀ k ∈ ks, k.1.length ≤ M) : ∀ k ∈ setV ks, k.1.length ≤ M := by
  unfold setV
  cases hv : vecK ks with
  | none => intro k hk; cases hk
  | some ms => exact fun k hk => h k (vecK_mem hv k hk)
/-- The labels of what Vectors answers. -/
theorem vecs_len {u : List UInt8} {on : Bool} {ns inc : List ByteArray} {card : Int} {yes : Bool} {kl kr : List Ek} {M : Nat} (hl : ∀ k ∈ kl, k.1.length + inc.length ≤ M) (hr : ∀ k ∈ kr, k.1.length + inc.length ≤ M) :
    ∀ k ∈ vecsV u on ns inc card yes kl kr, k.1.length ≤ M := by
  have hmet : ∀ many single : List Ek, (∀ k ∈ many, k.1.length + inc.length ≤ M) → ∀ k ∈ metV (opK u) on ns inc card yes many single, k.1.length ≤ M := fun many single hm => by
    unfold metV
    split
    · intro k hk; cases hk
    · split
      · intro k hk; cases hk
      · refine setV_len fun k hk => ?_
        unfold metL at hk
        obtain ⟨x, hx, hk⟩ := List.mem_filterMap.1 hk
        unfold roundK at hk
        obtain ⟨y, _, hk⟩ := Option.bind_eq_some_iff.1 hk
        unfold outK at hk
        rw [Option.ite_none_right_eq_some] at hk
        injection hk.2 with hk
        rw [← hk]
        exact Nat.le_trans (told_len _ _ _ _ _ _ _) (hm x hx)
  unfold vecsV
  cases hva : vecK kl with
  | none => intro k hk; cases hk
  | some ml =>
    cases hvb : vecK kr with
    | none => intro k hk; cases hk
    | some mr =>
      have h1 : ∀ k ∈ ml, k.1.length + inc.length ≤ M := fun k hk => hl k (vecK_mem hva k hk)
      have h2 : ∀ k ∈ mr, k.1.length + inc.length ≤ M := fun k hk => hr k (vecK_mem hvb k hk)
      dsimp only
      split
      · intro k hk; cases hk
      · split
        · intro k hk; cases hk
        · split
          · refine setV_len fun k hk => ?_
            obtain ⟨y, hy, rfl⟩ := List.mem_map.1 hk
            show y.1.length ≤ M
            unfold setL at hy
            split at hy
            · rcases List.mem_append.1 hy with h | h
              · have := h1 y h; omega
              · have := h2 y (List.mem_filter.1 h).1; omega
            · have := h1 y (List.mem_filter.1 hy).1; omega
          · split
            · exact hmet _ _ h2
            · exact hmet _ _ h1
theorem neg_len {ks : List Ek} {M : Nat} (h : ∀ k ∈ ks, k.1.length ≤ M) : ∀ k ∈ negV ks, k.1.length ≤ M := by
  unfold negV
  cases hv : vecK ks with
  | none => intro k hk; cases hk
  | some ms =>
    refine setV_len fun k hk => ?_
    obtain ⟨y, hy, rfl⟩ := List.mem_map.1 hk
    exact Nat.le_trans (sansL_length _ _) (h y (vecK_mem hv y hy))
theorem mix_len {op x : Nat} {left yes : Bool} {ks : List Ek} {M : Nat} (h : ∀ k ∈ ks, k.1.length ≤ M) : ∀ k ∈ mixV op x left yes ks, k.1.length ≤ M := by
  unfold mixV
  cases hv : vecK ks with
  | none => intro k hk; cases hk
  | some ms =>
    dsimp only
    split
    · refine setV_len fun k hk => ?_
      obtain ⟨y, hy, hk⟩ := List.mem_filterMap.1 hk
      have hy2 := h y (vecK_mem hv y hy)
      unfold stepM at hk
      split at hk
      · injection hk with hk
        rw [← hk]
        split
        · exact hy2
        · exact Nat.le_trans (sansL_length _ _) hy2
      · cases hk
    · intro k hk; cases hk

/-- Where a list of elements lies: blocks of its own, from lo up to hi. -/
def Loc (lo hi : Nat) (w : World) (a : Option Addr) (es : List Er) : Prop :=
  FreshE lo w a es ∧ (∀ g, es ≠ [] → a = some ⟨g, 0, none⟩ → g < hi) ∧ ∀ e ∈ es, ∀ b, ownE e = some b → b < hi
theorem WRE.stay {w w' : World} {g : Nat} {es : List Er} (h : WRE w g es) (hb : w'.heap[g]? = w.heap[g]?) (hs : w.heap.size ≤ w'.heap.size) : WRE w' g es :=
  ⟨Nat.lt_of_lt_of_le h.1 hs, fun i hi c hc => by
    rw [cell_block (a := ⟨g, 0 + i * 2 + c, none⟩) hb, frozen_block (a := ⟨g, 0 + i * 2 + c, none⟩) hb]; exact h.2 i hi c hc⟩
theorem FreshE.stay {lo : Nat} {w w' : World} {a : Option Addr} {es : List Er} (h : FreshE lo w a es) (hs : w.heap.size ≤ w'.heap.size) (hg : ∀ g, es ≠ [] → a = some ⟨g, 0, none⟩ → w'.heap[g]? = w.heap[g]?) (hb : ∀ e ∈ es, ∀ b, ownE e = some b → w'.heap[b]? = w.heap[b]?) : FreshE lo w' a es := by
  obtain ⟨h1, h2⟩ := h
  refine ⟨?_, h2⟩
  rcases h1 with h1 | ⟨g, ha, hl, hw, he⟩
  · exact .inl h1
  · by_cases hne : es = []
    · exact .inl hne
    · exact .inr ⟨g, ha, hl, hw.stay (hg g hne ha) hs, fun e hm => ⟨⟨(he e hm).1.1.stay (hb e hm), (he e hm).1.2⟩, (he e hm).2⟩⟩
/-- The blocks lie there. -/
theorem FreshE.in {lo : Nat} {w : World} {a : Option Addr} {es : List Er} (h : FreshE lo w a es) : (∀ g, es ≠ [] → a = some ⟨g, 0, none⟩ → lo ≤ g ∧ g < w.heap.size) ∧ ∀ e ∈ es, ∀ b, ownE e = some b → lo ≤ b ∧ b < w.heap.size := by
  obtain ⟨h1, h2⟩ := h
  rcases h1 with h1 | ⟨g, ha, hl, hw, he⟩
  · subst h1
    exact ⟨fun g h => absurd rfl h, fun e he => absurd he List.not_mem_nil⟩
  · refine ⟨fun g' _ hg => ?_, fun e hm b hb => (he e hm).1.1.lt b hb⟩
    rw [ha] at hg; injection hg with hg; injection hg with hg; subst hg
    exact ⟨hl, hw.1⟩
theorem Loc.of {lo : Nat} {w : World} {a : Option Addr} {es : List Er} (h : FreshE lo w a es) : Loc lo w.heap.size w a es := ⟨h, fun g h1 h2 => (h.in.1 g h1 h2).2, fun e he b hb => (h.in.2 e he b hb).2⟩
theorem Loc.below {lo hi : Nat} {w w' : World} {a : Option Addr} {es : List Er} (h : Loc lo hi w a es) (hb : Below w.heap.size w w') : Loc lo hi w' a es :=
  ⟨h.1.stay hb.size (fun g h1 h2 => hb.block g (h.1.in.1 g h1 h2).2) (fun e he b hb2 => hb.block b (h.1.in.2 e he b hb2).2), h.2⟩
/-- What is written elsewhere leaves it. -/
theorem Loc.mid {lo hi l2 h2 : Nat} {w w' : World} {a : Option Addr} {es : List Er} (h : Loc lo hi w a es) (hm : Mid l2 h2 w w') (hx : h2 ≤ lo ∨ hi ≤ l2) : Loc lo hi w' a es := by
  have key : ∀ b, lo ≤ b → b < hi → b < w.heap.size → w'.heap[b]? = w.heap[b]? := fun b h3 h4 h5 => by
    rcases hx with hx | hx
    · exact hm.2 b (by omega) h5
    · exact hm.1.block b (by omega)
  exact ⟨h.1.stay hm.1.size (fun g h3 h4 => key g (h.1.in.1 g h3 h4).1 (h.2.1 g h3 h4) (h.1.in.1 g h3 h4).2) (fun e he b hb => key b (h.1.in.2 e he b hb).1 (h.2.2 e he b hb) (h.1.in.2 e he b hb).2), h.2⟩
theorem Loc.erow {lo hi : Nat} {w : World} {a : Option Addr} {es : List Er} (h : Loc lo hi w a es) (hn : es.length ≤ 4398046511104) : ERow w a es.length es := by
  obtain ⟨⟨h1, _⟩, _⟩ := h
  rcases h1 with h1 | ⟨g, ha, hl, hw, he⟩
  · subst h1; exact ERow.nothing _
  · refine ⟨rfl, hn, fun x hx => (he x hx).1.ok, fun _ => ⟨g, 0, ha, hw.1, fun i hi => ⟨?_, ?_⟩⟩⟩
    · have := (hw.2 i hi 0 (by omega)).1; rw [Nat.add_zero] at this; exact this
    · exact (hw.2 i hi 1 (by omega)).1
/-- Nothing to mark. -/
def MarkN (w : World) (v : Value) (wr : World) : Prop := ∃ r : Nat, v = .int .i64 (r : Int) ∧ r ≤ 2 ∧ wr = w
set_option maxHeartbeats 8000000 in
set_option maxRecDepth 100000 in
theorem mark_nil (a : Option Addr) (cap : Nat) (w : World) : Calls Tryz.prog 17 #[.slice a 0 cap] w fun e w' => e = .returned (.bool true) ∧ w' = w := by
  go_enter Tryz.func17, Tryz.ntmps17
  go_wp2_with fail
  go_loopw [3] (MarkN w) (fun _ _ => 0)
  case atStart => exact ⟨0, rfl, by omega, rfl⟩
  case round =>
    obtain ⟨i, rfl, _, hw⟩ := hrel
    have HW := Lib.hid hw
    have hkn : ¬ (i : Int) < ((0 : Nat) : Int) := by omega
    clear hw
    go_wp2_with fail
    go_loopw [5] (MarkN w) (fun v _ => 2 - (intOf v).toNat)
    case atStart => exact ⟨0, rfl, by omega, HW.out⟩
    case round =>
      obtain ⟨r, rfl, hr, hw⟩ := hrel
      have HW2 := Lib.hid hw
      clear hw
      by_cases hlt : r < 2
      · have r1 : (r : Int) < 2 := by omega
        have r2 : (0 : Int) ≤ (r : Int) := by omega
        go_wp2_with fail
        go_loopw [6] (MarkN w) (fun _ _ => 0)
        case atStart => exact ⟨0, rfl, by omega, HW2.out⟩
        case round =>
          obtain ⟨p, rfl, _, hw⟩ := hrel
          have HW3 := Lib.hid hw
          have hkn : ¬ (p : Int) < ((0 : Nat) : Int) := by omega
          clear hw
          go_wp2_with fail
          go_roundw
          case rel => exact ⟨r + 1, by first | rfl | (congr 1), by omega, HW3.out⟩
          case measure => simp [intOf]; omega
      · have r1 : ¬ (r : Int) < 2 := by omega
        go_wp2_with fail
        go_ret
        exact ⟨rfl, HW2.out⟩
theorem ne_of_mem_at {es : List Er} {i : Nat} (hi : i < es.length) : erAt es i ∈ es := by rw [erAt_get hi]; exact List.getElem_mem _
/-- mark, where the elements lie apart. -/
theorem mark_loc {lo hi : Nat} {w : World} {a : Option Addr} {es : List Er} (cap : Nat) (h : Loc lo hi w a es) (hl : lo ≤ w.heap.size) (hh : hi ≤ w.heap.size) (hn : es.length ≤ 4398046511104) (hs : ∀ e ∈ es, e.ls.length ≤ 4398046511000) :
    Calls Tryz.prog 17 #[.slice a es.length cap] w fun e w' => e = .returned (.bool true) ∧ Mid lo hi w w' := by
  obtain ⟨hf, h2, h3⟩ := h
  have hin := hf.in
  obtain ⟨h1, hap⟩ := hf
  rcases h1 with rfl | ⟨g, rfl, hg, hw, he⟩
  · refine (mark_nil a cap w).mono fun e w' h => ⟨h.1, ?_⟩
    rw [h.2]; exact Mid.refl _ _ _
  · by_cases hne : es = []
    · subst hne
      refine (mark_nil _ cap w).mono fun e w' h => ⟨h.1, ?_⟩
      rw [h.2]; exact Mid.refl _ _ _
    · refine mark_any lo hi g cap es (fun i => (erAt es i).ls) w ⟨hg, h2 g hne rfl, hh, fun i hi b hb => ?_, fun i j hi hj hij b hb hb2 => ?_, fun i hi => ?_⟩ ⟨hw.1, fun i hi => ?_⟩ hn
      · have hm := ne_of_mem_at hi
        exact ⟨(hin.2 _ hm b hb).1, h3 _ hm b hb, fun e => by subst e; exact (he _ hm).2 hb⟩
      · unfold ApartE at hap
        rw [erAt_get hi] at hb
        rw [erAt_get hj] at hb2
        rcases Nat.lt_or_gt_of_ne hij with h | h
        · exact List.pairwise_iff_getElem.1 hap i j hi hj h b hb hb2
        · exact List.pairwise_iff_getElem.1 hap j i hj hi h b hb2 hb
      · have hm := ne_of_mem_at hi
        rw [← (he _ hm).1.2.2.2]; exact hs _ hm
      · have hm := ne_of_mem_at hi
        have c0 := hw.2 i hi 0 (by omega)
        have c1 := hw.2 i hi 1 (by omega)
        rw [Nat.zero_add, Nat.add_zero] at c0
        rw [Nat.zero_add] at c1
        exact ⟨c0.1, c1.2, ⟨_, c1.1⟩, (he _ hm).1.1, (he _ hm).1.2.2.2⟩
end Go.Proofs.YtmmfjknnbkcniaaGreatDoor
