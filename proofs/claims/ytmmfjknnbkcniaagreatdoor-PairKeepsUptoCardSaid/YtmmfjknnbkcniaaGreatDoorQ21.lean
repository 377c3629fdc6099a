/- labels.With, weirref16.With, for any value. slices.IndexFunc, slices.DeleteFunc with the closure of pair.told. slices.DeleteFunc with the closure of pair.told; pair.told. -/
import Derived.Test.YtmmfjknnbkcniaaGreatDoorQ20
import Derived.Lib.SliceRun
import Derived.Laws.IdiomCopy
namespace Go.Fl
/-- One label more on the way through a list that a label is put into: what is there, and whether it is put. -/
def withS (N V : ByteArray) (s : List Lb × Bool) (l : Lb) : List Lb × Bool :=
  if l.n.toList == N.toList then s else if !s.2 && !(Op.bytesLess l.n.toList N.toList) then (s.1 ++ [⟨N, V⟩] ++ [l], true) else (s.1 ++ [l], s.2)
def withP (N V : ByteArray) (ls : List Lb) : List Lb × Bool := ls.foldl (withS N V) ([], V.toList.isEmpty)
def withL (N V : ByteArray) (ls : List Lb) : List Lb := if (withP N V ls).2 then (withP N V ls).1 else (withP N V ls).1 ++ [⟨N, V⟩]
theorem withP_snoc (N V : ByteArray) (ls : List Lb) {k : Nat} (h : k < ls.length) : withP N V (ls.take (k + 1)) = withS N V (withP N V (ls.take k)) ⟨nL ls k, vL ls k⟩ := by
  unfold withP nL vL
  rw [List.take_add_one, List.getElem?_eq_getElem h, List.foldl_append, lbAt_get h]
  rfl
theorem withS_inv (N V : ByteArray) (ls : List Lb) : ∀ s : List Lb × Bool, (ls.foldl (withS N V) s).1.length + (if (ls.foldl (withS N V) s).2 then 0 else 1) ≤ s.1.length + (if s.2 then 0 else 1) + ls.length ∧ ∀ l ∈ (ls.foldl (withS N V) s).1, l ∈ s.1 ∨ l ∈ ls ∨ l = ⟨N, V⟩ := by
  induction ls with
  | nil => intro s; exact ⟨Nat.le_refl _, fun l hl => .inl hl⟩
  | cons x xs ih =>
    intro s
    rw [List.foldl_cons]
    obtain ⟨h1, h2⟩ := ih (withS N V s x)
    have h3 : (withS N V s x).1.length + (if (withS N V s x).2 then 0 else 1) ≤ s.1.length + (if s.2 then 0 else 1) + 1 := by
      unfold withS
      split
      · omega
      · split
        · rename_i h; have : s.2 = false := by revert h; cases s.2 <;> simp
          simp [this]
        · simp; omega
    have h4 : ∀ l ∈ (withS N V s x).1, l ∈ s.1 ∨ l = x ∨ l = ⟨N, V⟩ := by
      intro l
      unfold withS
      split
      · exact fun h => .inl h
      · split
        · intro h; simp at h; rcases h with h | h | h
          · exact .inl h
          · exact .inr (.inr h)
          · exact .inr (.inl h)
        · intro h; simp at h; rcases h with h | h
          · exact .inl h
          · exact .inr (.inl h)
    refine ⟨by rw [List.length_cons]; omega, fun l hl => ?_⟩
    rcases h2 l hl with h | h | h
    · rcases h4 l h with h | h | h
      · exact .inl h
      · exact .inr (.inl (by rw [h]; exact List.mem_cons_self))
      · exact .inr (.inr h)
    · exact .inr (.inl (List.mem_cons_of_mem _ h))
    · exact .inr (.inr h)
theorem withP_len (N V : ByteArray) (ls : List Lb) : (withP N V ls).1.length ≤ ls.length + 1 := by
  have := (withS_inv N V ls ([], V.toList.isEmpty)).1
  unfold withP
  simp only [List.length_nil] at this
  split at this <;> split at this <;> omega
theorem withL_len (N V : ByteArray) (ls : List Lb) : (withL N V ls).length ≤ ls.length + 1 := by
  have := (withS_inv N V ls ([], V.toList.isEmpty)).1
  unfold withL withP
  simp only [List.length_nil] at this
  split
  · split at this <;> split at this <;> omega
  · rw [List.length_append]
    split at this <;> split at this <;> simp_all <;> omega
theorem withL_mem (N V : ByteArray) (ls : List Lb) : ∀ l ∈ withL N V ls, l ∈ ls ∨ l = ⟨N, V⟩ := by
  intro l hl
  have := (withS_inv N V ls ([], V.toList.isEmpty)).2
  unfold withL at hl
  have h : l ∈ (withP N V ls).1 ∨ l = ⟨N, V⟩ := by
    split at hl
    · exact .inl hl
    · simp at hl; exact hl
  rcases h with h | h
  · rcases this l h with h | h | h
    · cases h
    · exact .inl h
    · exact .inr h
  · exact .inr h
theorem small_mem {ms : List Lb} (h : ∀ l ∈ ms, SmallT l.n ∧ SmallT l.v) : SmallL ms := by
  intro i
  unfold nL vL
  by_cases hi : i < ms.length
  · rw [lbAt_get hi]; exact h _ (List.getElem_mem hi)
  · have e : lbAt ms i = default := by simp [lbAt, List.getD, List.getElem?_eq_none (by omega : ms.length ≤ i)]
    rw [e]; exact ⟨by unfold SmallT; decide, by unfold SmallT; decide⟩
theorem small_of {ls : List Lb} (h : SmallL ls) : ∀ l ∈ ls, SmallT l.n ∧ SmallT l.v := by
  intro l hl
  obtain ⟨j, hj, e⟩ := List.getElem_of_mem hl
  have := h j
  unfold nL vL at this
  rw [lbAt_get hj, e] at this; exact this
theorem withL_small (N V : ByteArray) {ls : List Lb} (h : SmallL ls) (hN : SmallT N) (hV : SmallT V) : SmallL (withL N V ls) := by
  refine small_mem fun l hl => ?_
  rcases withL_mem N V ls l hl with h1 | h1
  · exact small_of h l h1
  · subst h1; exact ⟨hN, hV⟩
theorem getL_small (N : ByteArray) {ls : List Lb} (h : SmallL ls) : SmallT (getL N ls) := by
  unfold getL
  split
  · rename_i l hl; exact (small_of h l (List.mem_of_find?_eq_some hl)).2
  · unfold SmallT; decide
end Go.Fl
namespace Go.Proofs.YtmmfjknnbkcniaaGreatDoor
open Go.Fl Go.Rel Go.RowKit Go.Maps Go.WideMaps
set_option linter.unusedSimpArgs false
set_option linter.unusedVariables false

def WithRelG (N V : ByteArray) (ls : List Lb) (w : World) (v7 v8 v19 : Value) (wr : World) : Prop :=
  ∃ (k : Nat) (P : List Lb × Bool), v19 = .int .i64 (k : Int) ∧ k ≤ ls.length ∧ withP N V (ls.take k) = P ∧ v8 = .bool P.2 ∧ OwnL w.heap.size wr v7 P.1 ∧ Below w.heap.size w wr

set_option maxHeartbeats 8000000 in
set_option maxRecDepth 100000 in
theorem with_any (a : Option Addr) (n cap : Nat) (ls : List Lb) (N V : ByteArray) (w : World) (hr : LRow w a n ls) (hn : n ≤ 4398046511000) :
    Calls Tryz.prog 20 #[.slice a n cap, .string N, .string V] w (NewL (withL N V ls) w) := by
  have HR := Lib.hid hr
  have hl := hr.1
  have n1 : (n : Int) ≤ 4398046511000 := by omega
  have n0 : (0 : Int) ≤ (n : Int) := by omega
  have kw : IntKind.i64.wrap ((n : Int) + 1) = (n : Int) + 1 := by rw [IntKind.wrap_i64]; omega
  obtain ⟨W0, hmk, own0, bel0⟩ := make_lb w.heap.size w (n + 1) (by omega) (Nat.le_refl _)
  rw [Int.natCast_add, Int.natCast_one] at hmk
  have OW := Lib.hid own0
  have BW := Lib.hid bel0
  clear own0 bel0
  have HLB : Hid (∀ b off, 0 < n → a = some ⟨b, off, none⟩ → b < w.heap.size) := Lib.hid (fun b off h e => by obtain ⟨b', o', e', hh, _⟩ := hr.2.2.2 h; rw [e] at e'; cases e'; exact hh)
  clear hr
  go_enter Tryz.func20, Tryz.ntmps20
  go_wp2_with fail
  go_loopw [7, 8, 19] (WithRelG N V ls w) (fun _ _ v _ => n - (intOf v).toNat)
  case atStart => exact ⟨0, ([], _), rfl, by omega, rfl, rfl, OW.out, BW.out⟩
  case round =>
    obtain ⟨k, ⟨O, p⟩, rfl, hk, hP, rfl, own, bel⟩ := hrel
    have hrw := HR.out.below bel
    have HO := Lib.hid own
    have HB := Lib.hid bel
    have HP := Lib.hid hP
    have HL : Hid (O.length ≤ k + 1) := Lib.hid (by have := withP_len N V (ls.take k); rw [hP] at this; simp at this; omega)
    clear own bel
    dsimp only at HO ⊢
    by_cases hlt : k < n
    · have dl : decide ((k : Int) < (n : Int)) = true := decide_eq_true (by omega)
      obtain ⟨b, off, rfl, hb, hc⟩ := hrw.2.2.2 (by omega)
      obtain ⟨x0, x1⟩ := hc k hlt
      have k1 : (0 : Int) ≤ (k : Int) := by omega
      have k2 : (k : Int) < (n : Int) := by omega
      have HE := Lib.hid (withP_snoc N V ls (by omega : k < ls.length))
      rw [hP] at HE
      unfold withS at HE
      clear hc hrw hP
      generalize nL ls k = xn at *
      generalize vL ls k = xv at *
      dsimp only at HE
      have HOA : Hid (OwnL w.heap.size (wr.alloc (.cells #[.string xn, .string xv] 54)) u7 O) := Lib.hid (HO.out.alloc _)
      have HBA : Hid (Below w.heap.size w (wr.alloc (.cells #[.string xn, .string xv] 54))) := Lib.hid (HB.out.alloc HB.out.size _)
      have z0 : (wr.alloc (.cells #[.string xn, .string xv] 54)).cell? ⟨wr.heap.size, 0, none⟩ = some (.string xn) := by rw [World.cell?_alloc_at _ _ _ _ (by rfl)]; rfl
      have z1 : (wr.alloc (.cells #[.string xn, .string xv] 54)).cell? ⟨wr.heap.size, 1, none⟩ = some (.string xv) := by rw [World.cell?_alloc_at _ _ _ _ (by rfl)]; rfl
      have HNE : Hid (some wr.heap.size ≠ u7.ownBlock) := Lib.hid (fun h => by have := (HO.out.lt _ h.symm).2; omega)
      cases he : (xn.toList == N.toList)
      · cases hb : Op.bytesLess xn.toList N.toList
        · cases p
          · rw [he, hb] at HE
            have HE := Lib.hid (HE.out.trans (show _ = (O ++ [⟨N, V⟩] ++ [⟨xn, xv⟩], true) from by simp))
            go_wp2_with (first | (at_builtin; refine wpList_append_lb rfl (.tmp 35) (.tmp 39) rfl w.heap.size _ _ rfl (HOA.out.alloc _) (wr.heap.size + 1) _ ⟨N, V⟩ rfl (by rw [World.cell?_alloc_at _ _ _ _ (by simp)]; rfl) (by rw [World.cell?_alloc_at _ _ _ _ (by simp)]; rfl) (by have := HL.out; first | omega | (simp only [List.length_append, List.length_cons, List.length_nil]; omega)) (by have := HBA.out.size; (try simp at this); (try simp); omega) ?_; intro v5 w5 own5 gb5 hv5; have HO5 := Lib.hid own5; have HB5 := Lib.hid ((HOA.out.alloc _).grown (HBA.out.alloc HBA.out.size _) gb5 (by have := HBA.out.size; (try simp at this); (try simp); omega)); have y0 := gb5.cell (cell_oldL z0 _) HNE.out; have y1 := gb5.cell (cell_oldL z1 _) HNE.out) | (at_builtin; refine wpList_append_lb rfl (.tmp 41) (.tmp 43) rfl w.heap.size _ _ rfl (HO5.out.alloc _) w5.heap.size _ ⟨xn, xv⟩ rfl (by rw [World.cell?_alloc_at _ _ _ _ (by simp)]; rfl) (by rw [World.cell?_alloc_at _ _ _ _ (by simp)]; rfl) (by have := HL.out; first | omega | (simp only [List.length_append, List.length_cons, List.length_nil]; omega)) (by have := HB5.out.size; (try simp at this); (try simp); omega) ?_; intro v6 w6 own6 gb6 hv6; have HO6 := Lib.hid own6; have HB6 := Lib.hid ((HO5.out.alloc _).grown (HB5.out.alloc HB5.out.size _) gb6 (by have := HB5.out.size; (try simp at this); (try simp); omega)); clear own6 gb6 hv6))
            go_roundw
            case rel => exact ⟨k + 1, _, by first | rfl | (congr 1; omega), by omega, rfl, by rw [HE.out], by rw [HE.out]; exact HO6.out, HB6.out⟩
            case measure => simp [intOf]; omega
          · rw [he, hb] at HE
            have HE := Lib.hid (HE.out.trans (show _ = (O ++ [⟨xn, xv⟩], true) from by simp))
            go_wp2_with (first | (at_builtin; refine wpList_append_lb rfl (.tmp 41) (.tmp 43) rfl w.heap.size _ _ rfl (HOA.out.alloc _) (wr.heap.size + 1) _ ⟨xn, xv⟩ rfl (by rw [World.cell?_alloc_at _ _ _ _ (by simp)]; rfl) (by rw [World.cell?_alloc_at _ _ _ _ (by simp)]; rfl) (by have := HL.out; first | omega | (simp only [List.length_append, List.length_cons, List.length_nil]; omega)) (by have := HBA.out.size; (try simp at this); (try simp); omega) ?_; intro v6 w6 own6 gb6 hv6; have HO6 := Lib.hid own6; have HB6 := Lib.hid ((HOA.out.alloc _).grown (HBA.out.alloc HBA.out.size _) gb6 (by have := HBA.out.size; (try simp at this); (try simp); omega)); clear own6 gb6 hv6))
            go_roundw
            case rel => exact ⟨k + 1, _, by first | rfl | (congr 1; omega), by omega, rfl, by rw [HE.out], by rw [HE.out]; exact HO6.out, HB6.out⟩
            case measure => simp [intOf]; omega
        · rw [he, hb] at HE
          have HE := Lib.hid (HE.out.trans (show _ = (O ++ [⟨xn, xv⟩], p) from by simp))
          cases p
          all_goals
            go_wp2_with (first | (at_builtin; refine wpList_append_lb rfl (.tmp 41) (.tmp 43) rfl w.heap.size _ _ rfl (HOA.out.alloc _) (wr.heap.size + 1) _ ⟨xn, xv⟩ rfl (by rw [World.cell?_alloc_at _ _ _ _ (by simp)]; rfl) (by rw [World.cell?_alloc_at _ _ _ _ (by simp)]; rfl) (by have := HL.out; first | omega | (simp only [List.length_append, List.length_cons, List.length_nil]; omega)) (by have := HBA.out.size; (try simp at this); (try simp); omega) ?_; intro v6 w6 own6 gb6 hv6; have HO6 := Lib.hid own6; have HB6 := Lib.hid ((HOA.out.alloc _).grown (HBA.out.alloc HBA.out.size _) gb6 (by have := HBA.out.size; (try simp at this); (try simp); omega)); clear own6 gb6 hv6))
            go_roundw
            case rel => exact ⟨k + 1, _, by first | rfl | (congr 1; omega), by omega, rfl, by rw [HE.out], by rw [HE.out]; exact HO6.out, HB6.out⟩
            case measure => simp [intOf]; omega
      · rw [he] at HE
        have HE := Lib.hid (HE.out.trans (show _ = (O, p) from by simp))
        go_wp2_with fail
        go_roundw
        case rel => exact ⟨k + 1, _, by first | rfl | (congr 1; omega), by omega, rfl, by rw [HE.out], by rw [HE.out]; exact HOA.out, HBA.out⟩
        case measure => simp [intOf]; omega
    · have hkn : ¬ (k : Int) < (n : Int) := by omega
      have HE : Hid (withP N V ls = (O, p)) := Lib.hid (by rw [← HP.out, List.take_of_length_le (by omega)])
      clear hrw hP
      cases p
      · go_wp2_with (at_builtin; refine wpList_append_lb rfl (.tmp 48) (.tmp 52) rfl w.heap.size _ _ rfl (HO.out.alloc _) wr.heap.size _ ⟨N, V⟩ rfl (by rw [World.cell?_alloc_at _ _ _ _ (by simp)]; rfl) (by rw [World.cell?_alloc_at _ _ _ _ (by simp)]; rfl) (by have := HL.out; first | omega | (simp only [List.length_append, List.length_cons, List.length_nil]; omega)) (by have := HB.out.size; (try simp at this); (try simp); omega) ?_; intro v5 w5 own5 gb5 hv5; have HO5 := Lib.hid own5; have HB5 := Lib.hid ((HO.out.alloc _).grown (HB.out.alloc HB.out.size _) gb5 (by have := HB.out.size; (try simp at this); (try simp); omega)); clear own5 gb5 hv5)
        go_ret
        exact ⟨_, rfl, by unfold withL; rw [HE.out]; exact HO5.out, HB5.out⟩
      · go_wp2_with fail
        go_ret
        exact ⟨_, rfl, by unfold withL; rw [HE.out]; exact HO.out, HB.out⟩

end Go.Proofs.YtmmfjknnbkcniaaGreatDoor

namespace Go.Fl
/-- Is the label struck? -/
def delB (ns : List ByteArray) (on : Bool) (l : Lb) : Bool := inN ns l.n != on
end Go.Fl
namespace Go.Proofs.YtmmfjknnbkcniaaGreatDoor
open Go.Fl Go.Rel Go.RowKit Go.Maps Go.WideMaps
set_option linter.unusedSimpArgs false
set_option linter.unusedVariables false

/-- Block g's first cells. -/
def LBc (w : World) (g c m : Nat) (xs : List Value) : Prop := ∃ cur : Array Value, w.heap[g]? = some (.cells cur 54 (0, 0)) ∧ cur.size = c ∧ cur.toList.take m = xs
theorem LBc.set {w : World} {g c m i : Nat} {xs : List Value} (h : LBc w g c m xs) (v : Value) : LBc (w.setCell ⟨g, i, none⟩ v) g c m (xs.set i v) := by
  obtain ⟨cur, h1, h2, h3⟩ := h
  refine ⟨_, heap_setCell_same w g i cur _ v h1, by simpa using h2, ?_⟩
  rw [Array.toList_setIfInBounds, List.take_set, h3]
theorem LBc.stay {w w' : World} {g c m : Nat} {xs : List Value} (h : LBc w g c m xs) (hb : w'.heap[g]? = w.heap[g]?) : LBc w' g c m xs := by
  obtain ⟨cur, h1, h2, h3⟩ := h
  exact ⟨cur, by rw [hb]; exact h1, h2, h3⟩
theorem LBc.sets {g c m : Nat} {xs : List Value} (hx : xs.length ≤ m) : ∀ (vs : List Value) (i : Nat) (w : World), m ≤ i → LBc w g c m xs → LBc (w.setCells g i vs) g c m xs
  | [], _, _, _, h => h
  | v :: r, i, w, hi, h => by
    rw [World.setCells]
    refine LBc.sets hx r (i + 1) _ (by omega) ?_
    have := h.set (i := i) v
    rwa [List.set_eq_of_length_le (by omega)] at this
theorem LBc.less {w : World} {g c m k : Nat} {xs : List Value} (h : LBc w g c m xs) (hk : k ≤ m) : LBc w g c k (xs.take k) := by
  obtain ⟨cur, h1, h2, h3⟩ := h
  exact ⟨cur, h1, h2, by rw [← h3, List.take_take, Nat.min_eq_left hk]⟩
theorem OwnL.lbc {B : Nat} {w : World} {g n cap : Nat} {ls : List Lb} (h : OwnL B w (.slice (some ⟨g, 0, none⟩) n cap) ls) : B ≤ g ∧ n = ls.length ∧ n ≤ cap ∧ cap ≤ maxLen ∧ LBc w g (cap * 2) (n * 2) (ls.flatMap lbCells) := by
  rcases h.2 with ⟨h1, _⟩ | ⟨g', cap', cur, h1, h2, h3, h4, h5, h6, h7⟩
  · cases h1
  · cases h1
    exact ⟨h2, rfl, h4, h5, cur, h3, h6, h7⟩
theorem LBc.own {B : Nat} {w : World} {g n cap : Nat} {ls : List Lb} (h : LBc w g (cap * 2) (n * 2) (ls.flatMap lbCells)) (hB : B ≤ g) (hn : n = ls.length) (hc : n ≤ cap) (hm : cap ≤ maxLen) : OwnL B w (.slice (some ⟨g, 0, none⟩) n cap) ls := by
  subst hn
  obtain ⟨cur, h1, h2, h3⟩ := h
  exact ⟨lbCells_length ls, .inr ⟨g, cap, cur, rfl, hB, h1, hc, hm, h2, h3⟩⟩
theorem LBc.cell {w : World} {g c n : Nat} {ls : List Lb} (h : LBc w g c (n * 2) (ls.flatMap lbCells)) {i : Nat} (hi : i < ls.length) (hn : n = ls.length) : w.cell? ⟨g, i * 2, none⟩ = some (.string (nL ls i)) ∧ w.cell? ⟨g, i * 2 + 1, none⟩ = some (.string (vL ls i)) := by
  obtain ⟨cur, h1, h2, h3⟩ := h
  have key : ∀ c, c < 2 → cur.toList[i * 2 + c]? = (lbCells (lbAt ls i))[c]? := fun c hc => by
    rw [← lbCells_get ls i c hi hc, ← h3, List.getElem?_take]
    rw [if_pos (by omega)]
  have k0 := key 0 (by omega)
  have k1 := key 1 (by omega)
  rw [Nat.add_zero] at k0
  rw [Array.getElem?_toList] at k0 k1
  unfold World.cell?
  simp only [h1]
  exact ⟨by simpa [lbCells, nL] using k0, by simpa [lbCells, vL] using k1⟩
theorem LBc.frozen {w : World} {g c m : Nat} {xs : List Value} (h : LBc w g c m xs) (i : Nat) : w.frozen? ⟨g, i, none⟩ = false := by
  obtain ⟨cur, h1, _⟩ := h
  exact frozen_of_row w g i cur _ h1
theorem flat_set (ls : List Lb) (i : Nat) (x : Lb) : ((ls.flatMap lbCells).set (i * 2) (.string x.n)).set (i * 2 + 1) (.string x.v) = (ls.set i x).flatMap lbCells := by
  induction ls generalizing i with
  | nil => simp
  | cons y ys ih =>
    cases i with
    | zero => simp [lbCells]
    | succ i =>
      rw [List.set_cons_succ, List.flatMap_cons, List.flatMap_cons, ← ih i]
      rw [show (i + 1) * 2 = (lbCells y).length + i * 2 from by simp [lbCells]; omega, show (lbCells y).length + i * 2 + 1 = (lbCells y).length + (i * 2 + 1) from by omega]
      rw [List.set_append_right _ _ (by omega), List.set_append_right _ _ (by omega)]
      simp
theorem flat_take (ls : List Lb) (i : Nat) : (ls.flatMap lbCells).take (i * 2) = (ls.take i).flatMap lbCells := by
  induction ls generalizing i with
  | nil => simp
  | cons y ys ih =>
    cases i with
    | zero => simp
    | succ i =>
      rw [List.take_succ_cons, List.flatMap_cons, List.flatMap_cons, ← ih i, show (i + 1) * 2 = (lbCells y).length + i * 2 from by simp [lbCells]; omega]
      rw [List.take_append, List.take_of_length_le (by omega)]
      simp

/-- How elements meet lies in block B, unturned, with all its names. -/
def Cap (w0 : World) (B : Nat) (m : Mt) : Prop := B < w0.heap.size ∧ w0.cell? ⟨B, 1, none⟩ = some (.bool m.on) ∧ w0.cell? ⟨B, 2, none⟩ = some (.slice m.la m.ln m.lc) ∧ NRow w0 m.la m.ln m.ns
theorem Cap.below {w w' : World} {B : Nat} {m : Mt} (h : Cap w B m) (hb : Below w.heap.size w w') : Cap w' B m := by
  obtain ⟨h1, h2, h3, h4⟩ := h
  exact ⟨Nat.lt_of_lt_of_le h1 hb.size, by rw [hb.cell (p := ⟨B, 1, none⟩) h1]; exact h2, by rw [hb.cell (p := ⟨B, 2, none⟩) h1]; exact h3, h4.below hb⟩

theorem quiet_of_eqR {P : Program} {f : FuncId} {args : Array Value} {w : World} {n : Nat} {v : Value}
    (h : Calls P f args (w.drewN n) fun e w' => e = .returned v ∧ w' = w.drewN n) : Calls P f args (w.drewN n) fun e w'' => e = .returned v ∧ ∃ m, w'' = w.drewN m :=
  h.mono fun _ _ ⟨he, hw⟩ => ⟨he, n, hw⟩
set_option maxHeartbeats 4000000 in
set_option maxRecDepth 100000 in
theorem struck_any (B : Nat) (m : Mt) (x : Lb) (w : World) (hc : Cap w B m) :
    Calls Tryz.prog 71 #[.agg #[.string x.n, .string x.v], .pointer (some ⟨B, 0, none⟩)] w fun e w' => e = .returned (.bool (delB m.ns m.on x)) ∧ Grn w w' := by
  obtain ⟨given, on, la, ln, lc, card, ia, im, ic, ns, inc⟩ := m
  obtain ⟨xn, xv⟩ := x
  unfold delB
  dsimp only
  have hc2 := hc.below ((Below.refl _ w).alloc (Nat.le_refl _) (.cells #[.string xn, .string xv] 54))
  obtain ⟨hB, s1, s2, hn⟩ := hc2
  dsimp only at s1 s2 hn
  have G0 : Hid (Grn w (w.alloc (.cells #[.string xn, .string xv] 54))) := Lib.hid ((Grn.refl w).alloc _)
  have HC : Hid (∀ n, Calls Tryz.prog 72 #[.slice la ln lc, .string xn] ((w.alloc (.cells #[.string xn, .string xv] 54)).drewN n) fun e w' => e = .returned (.bool (inN ns xn)) ∧ w' = (w.alloc (.cells #[.string xn, .string xv] 54)).drewN n) := Lib.hid fun n => contains_any la ln lc ns xn _ (hn.below ((Below.refl _ _).drewN' n))
  have s0 : (w.alloc (.cells #[.string xn, .string xv] 54)).cell? ⟨w.heap.size, 0, none⟩ = some (.string xn) := by rw [World.cell?_alloc_at _ _ _ _ (by rfl)]; rfl
  generalize hi : inN ns xn = i at *
  clear hc hn hB
  have hst : ∀ W : World, W.heap.size = W.heap.size := fun _ => rfl
  go_enter Tryz.func71, Tryz.ntmps71
  go_wp2_with fail
  generalize w.alloc (.cells #[.string xn, .string xv] 54) = W at *
  cases i
  all_goals cases on
  all_goals
    go_quiet (first | (go_at_call 72; exact quiet_of_eqR (HC.out _)))
    go_wp2_with fail
    go_ret
    exact ⟨rfl, G0.out.drewN _⟩

def IdxFRel (ns : List ByteArray) (on : Bool) (ls : List Lb) (w : World) (v8 : Value) (wr : World) : Prop :=
  ∃ k : Nat, v8 = .int .i64 (k : Int) ∧ k ≤ ls.length ∧ (∀ l ∈ ls.take k, delB ns on l = false) ∧ Grn w wr
def IdxFRet (ns : List ByteArray) (on : Bool) (ls : List Lb) (w : World) (e : Ending) (w' : World) : Prop :=
  Grn w w' ∧ ((e = .returned (.int .i64 (-1)) ∧ ∀ l ∈ ls, delB ns on l = false) ∨ ∃ k : Nat, k < ls.length ∧ e = .returned (.int .i64 (k : Int)) ∧ (∀ l ∈ ls.take k, delB ns on l = false) ∧ delB ns on ⟨nL ls k, vL ls k⟩ = true)

set_option maxHeartbeats 4000000 in
set_option maxRecDepth 100000 in
theorem indexF_any (a : Option Addr) (n cap : Nat) (ls : List Lb) (B : Nat) (m : Mt) (w : World) (hr : LRow w a n ls) (hc : Cap w B m) :
    Calls Tryz.prog 104 #[.slice a n cap, .func (.func 71) #[] #[.pointer (some ⟨B, 0, none⟩)]] w (IdxFRet m.ns m.on ls w) := by
  have HR := Lib.hid hr
  have HC := Lib.hid hc
  have hl := hr.1
  have n1 : (n : Int) ≤ 9223372036854775807 := by have := hr.2.1; omega
  clear hr hc
  go_enter Tryz.func104, Tryz.ntmps104
  go_wp2_with fail
  go_loopw [8] (IdxFRel m.ns m.on ls w) (fun v _ => n - (intOf v).toNat)
  case atStart => exact ⟨0, rfl, by omega, fun l hl => absurd hl List.not_mem_nil, Grn.refl _⟩
  case round =>
    obtain ⟨k, rfl, hk, hno, bel⟩ := hrel
    have hrw := HR.out.below bel.below
    have HG := Lib.hid bel
    have HNO := Lib.hid hno
    clear hno bel
    by_cases hlt : k < n
    · have dl : decide ((k : Int) < (n : Int)) = true := decide_eq_true (by omega)
      obtain ⟨b, off, rfl, hb, hcc⟩ := hrw.2.2.2 (by omega)
      obtain ⟨x0, x1⟩ := hcc k hlt
      have k1 : (0 : Int) ≤ (k : Int) := by omega
      have k2 : (k : Int) < (n : Int) := by omega
      have HS := Lib.hid (struck_any B m ⟨nL ls k, vL ls k⟩ wr (HC.out.below HG.out.below))
      have HT : Hid (delB m.ns m.on ⟨nL ls k, vL ls k⟩ = false → ∀ l ∈ ls.take (k + 1), delB m.ns m.on l = false) := Lib.hid (fun h l hl2 => by
        rw [List.take_add_one, List.getElem?_eq_getElem (by omega : k < ls.length), List.mem_append] at hl2
        rcases hl2 with h2 | h2
        · exact HNO.out l h2
        · simp at h2; subst h2; unfold nL vL at h; rw [lbAt_get (by omega)] at h; exact h)
      have HX : Hid (delB m.ns m.on ⟨nL ls k, vL ls k⟩ = true → IdxFRet m.ns m.on ls w (.returned (.int .i64 (k : Int))) wr) := Lib.hid (fun h => ⟨HG.out, .inr ⟨k, by omega, rfl, HNO.out, h⟩⟩)
      generalize delB m.ns m.on ⟨nL ls k, vL ls k⟩ = d at *
      generalize nL ls k = xn at *
      generalize vL ls k = xv at *
      clear hcc hrw
      cases d
      · go_wp2_with (go_at_call 71; refine HS.out.mono ?_; rintro e w2 ⟨rfl, gr⟩; have GR := Lib.hid gr; clear gr)
        go_roundw
        case rel => exact ⟨k + 1, by first | rfl | (congr 1; omega), by omega, HT.out (by first | rfl | trivial), HG.out.trans GR.out⟩
        case measure => simp [intOf]; omega
      · go_wp2_with (go_at_call 71; refine HS.out.mono ?_; rintro e w2 ⟨rfl, gr⟩; have GR := Lib.hid gr; clear gr)
        go_ret
        obtain ⟨h1, h2⟩ := HX.out (by first | rfl | trivial)
        exact ⟨h1.trans GR.out, h2⟩
    · have hkn : ¬ (k : Int) < (n : Int) := by omega
      have HE : Hid (∀ l ∈ ls, delB m.ns m.on l = false) := Lib.hid (by have := HNO.out; rwa [List.take_of_length_le (by omega)] at this)
      clear hrw
      go_wp2_with fail
      go_ret
      exact ⟨HG.out, .inl ⟨rfl, HE.out⟩⟩

end Go.Proofs.YtmmfjknnbkcniaaGreatDoor

namespace Go.Fl
def outL (ns : List ByteArray) (on : Bool) (ls : List Lb) : List Lb := ls.filter fun l => !delB ns on l
theorem outL_snoc (ns : List ByteArray) (on : Bool) (ls : List Lb) {k : Nat} (h : k < ls.length) : outL ns on (ls.take (k + 1)) = outL ns on (ls.take k) ++ (if delB ns on ⟨nL ls k, vL ls k⟩ then [] else [⟨nL ls k, vL ls k⟩]) := by
  unfold outL nL vL
  rw [List.take_add_one, List.getElem?_eq_getElem h, List.filter_append, lbAt_get h]
  congr 1
  by_cases e : delB ns on ls[k]
  · rw [if_pos e]; simp [e]
  · rw [if_neg e]; simp [e]
theorem outL_all {ns : List ByteArray} {on : Bool} {ls : List Lb} (h : ∀ l ∈ ls, delB ns on l = false) : outL ns on ls = ls := by
  unfold outL
  exact List.filter_eq_self.2 fun l hl => by rw [h l hl]; rfl
theorem outL_len (ns : List ByteArray) (on : Bool) (ls : List Lb) : (outL ns on ls).length ≤ ls.length := List.length_filter_le ..
theorem outL_small (ns : List ByteArray) (on : Bool) {ls : List Lb} (h : SmallL ls) : SmallL (outL ns on ls) := small_sub h fun _ hl => (List.mem_filter.1 hl).1
theorem lbAt_set {l : List Lb} {i j : Nat} {b : Lb} (h : i < l.length) : lbAt (l.set i b) j = if i = j then b else lbAt l j := by
  unfold lbAt
  by_cases e : i = j
  · subst e; simp [List.getD, h]
  · simp [List.getD, e, List.getElem?_set_ne]
end Go.Fl
namespace Go.Proofs.YtmmfjknnbkcniaaGreatDoor
open Go.Fl Go.Rel Go.RowKit Go.Maps Go.WideMaps
set_option linter.unusedSimpArgs false
set_option linter.unusedVariables false

theorem slice_hiL (b off n cap k : Nat) (z : Int) (hz : z = (k : Int)) (hk : k ≤ cap) (w : World) : (Instr.slice 31 (.slice (some ⟨b, off, none⟩) n cap) none (some (.int .i64 z)) none).run Tryz.prog w = .ok (.slice (some ⟨b, off, none⟩) k cap) w := by
  have hs : ∀ w, (Go.sizeOf (Tryz.prog.elem 31)).run Tryz.prog w = .ok 2 w := fun w => by kernel_rfl
  have ht : Tryz.prog.underlying 31 = some (.slice (Tryz.prog.elem 31)) := by kernel_rfl
  subst hz
  rw [run_slice_h _ _ _ _ _ ht .i64 (k : Int) (by omega) (by omega), hs]
  simp [sliced]
  by_cases h : cap = 0
  · simp [h]
  · simp [Addr.add_lit]
theorem slice_loL (b off n cap k : Nat) (z : Int) (hz : z = (k : Int)) (hk : k ≤ n) (hc : k ≠ cap) (w : World) : (Instr.slice 31 (.slice (some ⟨b, off, none⟩) n cap) (some (.int .i64 z)) none none).run Tryz.prog w = .ok (.slice (some ⟨b, off + k * 2, none⟩) (n - k) (cap - k)) w := by
  have hs : ∀ w, (Go.sizeOf (Tryz.prog.elem 31)).run Tryz.prog w = .ok 2 w := fun w => by kernel_rfl
  have ht : Tryz.prog.underlying 31 = some (.slice (Tryz.prog.elem 31)) := by kernel_rfl
  subst hz
  rw [run_slice_l _ _ _ _ _ ht .i64 (k : Int) (by omega) (by omega), hs]
  have : ¬ cap = k := fun h => hc h.symm
  simp [sliced, Addr.add_lit]
  omega
theorem setCells_heap (g : Nat) : ∀ (vs : List Value) (i : Nat) (w : World) (k : Nat), k ≠ g → (w.setCells g i vs).heap[k]? = w.heap[k]?
  | [], _, _, _, _ => rfl
  | v :: r, i, w, k, h => by
    rw [World.setCells, setCells_heap g r (i + 1) _ k h]
    exact heap_setCell_other w ⟨g, i, none⟩ k v h
theorem setCells_size (g : Nat) : ∀ (vs : List Value) (i : Nat) (w : World), (w.setCells g i vs).heap.size = w.heap.size ∧ (w.setCells g i vs).os = w.os ∧ (w.setCells g i vs).tape = w.tape ∧ (w.setCells g i vs).output = w.output
  | [], _, _ => ⟨rfl, rfl, rfl, rfl⟩
  | v :: r, i, w => by
    rw [World.setCells]
    obtain ⟨h1, h2, h3, h4⟩ := setCells_size g r (i + 1) (w.setCell ⟨g, i, none⟩ v)
    exact ⟨by rw [h1]; simp, h2, h3, h4⟩
theorem below_setCells {B g : Nat} {z w : World} (h : Below B z w) (hg : B ≤ g) (vs : List Value) (i : Nat) : Below B z (w.setCells g i vs) := by
  obtain ⟨h1, h2, h3, h4⟩ := setCells_size g vs i w
  exact ⟨h2.trans h.os, h3.trans h.tape, h4.trans h.output, by rw [h1]; exact h.size, fun k hk => (setCells_heap g vs i w k (by omega)).trans (h.block k hk)⟩
/-- clear of a row of labels writes from its first cell on. -/
theorem clear_lbs (w : World) (ty : TypeId) (b o n c : Nat) (hc : ∀ j, j < n * 2 → (w.cell? ⟨b, o + j, none⟩).isSome = true) (hf : ∀ j, w.frozen? ⟨b, j, none⟩ = false) (hn : 0 < n) :
    ∃ vs, (Builtin.clear_ #[31] ty #[.slice (some ⟨b, o, none⟩) n c]).run Tryz.prog w = .ok (.tuple #[]) (w.setCells b o vs) := by
  have hz : ∀ w, (zeroValue 54).run Tryz.prog w = .ok (.agg #[.string ⟨#[]⟩, .string ⟨#[]⟩]) w := fun w => by kernel_rfl
  have hzc : (Value.agg #[.string ⟨#[]⟩, .string ⟨#[]⟩]).cells = #[.string ⟨#[]⟩, .string ⟨#[]⟩] := by kernel_rfl
  refine ⟨(Builtin.zeroCells (Value.agg #[.string ⟨#[]⟩, .string ⟨#[]⟩]).cells n).toList, ?_⟩
  have hlen : (Builtin.zeroCells (Value.agg #[.string ⟨#[]⟩, .string ⟨#[]⟩]).cells n).toList.length = n * 2 := by
    rw [hzc]; simp [Builtin.zeroCells]
  have hone : ∀ v ∈ (Builtin.zeroCells (Value.agg #[.string ⟨#[]⟩, .string ⟨#[]⟩]).cells n).toList, v.oneCell' = true := by
    intro v hv
    rw [hzc] at hv
    simp only [Builtin.zeroCells, Array.toList_map, List.mem_map] at hv
    obtain ⟨i0, _, hi⟩ := hv
    have : v = .string ⟨#[]⟩ := by
      rw [← hi]
      show (#[Value.string ⟨#[]⟩, Value.string ⟨#[]⟩])[i0 % 2]! = _
      rcases (by omega : i0 % 2 = 0 ∨ i0 % 2 = 1) with h | h <;> rw [h] <;> rfl
    rw [this]; rfl
  have hst := run_storeCells_cells (P := Tryz.prog) b o (Builtin.zeroCells (Value.agg #[.string ⟨#[]⟩, .string ⟨#[]⟩]).cells n).toList 0 w (by rw [hlen]; simpa using hc) (by intro j hj; exact hf _) hone
  simp only [Nat.add_zero] at hst
  obtain ⟨m, rfl⟩ : ∃ m, n = m + 1 := ⟨n - 1, by omega⟩
  simp [Builtin.clear_, run_underlying Tryz.underlying31, hz, hst]

def DelRel (ns : List ByteArray) (on : Bool) (ls : List Lb) (g cap : Nat) (w0 : World) (v5 v6 : Value) (wr : World) : Prop :=
  ∃ (i j : Nat) (l : List Lb), v5 = .int .i64 (i : Int) ∧ v6 = .int .i64 (j : Int) ∧ i < j ∧ j ≤ ls.length ∧ l.length = ls.length ∧ l.take i = outL ns on (ls.take j) ∧ (∀ t, j ≤ t → lbAt l t = lbAt ls t) ∧ LBc wr g (cap * 2) (ls.length * 2) (l.flatMap lbCells) ∧ Below w0.heap.size w0 wr

set_option maxHeartbeats 8000000 in
set_option maxRecDepth 100000 in
theorem deleteF_any (g n cap : Nat) (ls : List Lb) (B : Nat) (m : Mt) (w0 w : World) (hc : Cap w0 B m) (hb : Below w0.heap.size w0 w) (ho : OwnL w0.heap.size w (.slice (some ⟨g, 0, none⟩) n cap) ls) (hs : SmallL ls) (hn : n ≤ 4398046511104) :
    Calls Tryz.prog 70 #[.slice (some ⟨g, 0, none⟩) n cap, .func (.func 71) #[] #[.pointer (some ⟨B, 0, none⟩)]] w fun e w' => ∃ k, e = .returned (.slice (some ⟨g, 0, none⟩) k cap) ∧ OwnL w0.heap.size w' (.slice (some ⟨g, 0, none⟩) k cap) (outL m.ns m.on ls) ∧ Below w0.heap.size w0 w' := by
  obtain ⟨hBg, hln, hnc, hcm, hlb⟩ := ho.lbc
  subst hln
  have hlt : g < w.heap.size := (ho.lt g rfl).2
  have hrow : LRow w (some ⟨g, 0, none⟩) ls.length ls := ⟨rfl, by omega, hs, fun h => ⟨g, 0, rfl, hlt, fun i hi => by
    have := hlb.cell (i := i) hi rfl
    rw [Nat.zero_add]; exact this⟩⟩
  have HC := Lib.hid hc
  have HB := Lib.hid hb
  have HO := Lib.hid ho
  have HLB := Lib.hid hlb
  have HG := Lib.hid hBg
  have HI := Lib.hid (indexF_any _ ls.length cap ls B m w hrow (hc.below hb))
  have n1 : (ls.length : Int) ≤ 4398046511104 := by omega
  have HM := Lib.hid hcm
  have HNC := Lib.hid hnc
  clear hc hb ho hlb hs hrow hBg hcm hnc
  by_cases hall : ∀ l ∈ ls, delB m.ns m.on l = false
  · have HI2 := Lib.hid (HI.out.mono (R' := fun e w' => e = .returned (.int .i64 (-1)) ∧ Grn w w') fun e w' h => by
      rcases h with ⟨gr, ⟨he, _⟩ | ⟨k, hk, _, _, hy⟩⟩
      · exact ⟨he, gr⟩
      · have := hall (lbAt ls k) (by rw [lbAt_get hk]; exact List.getElem_mem _)
        have h2 : delB m.ns m.on (lbAt ls k) = true := hy
        rw [this] at h2; cases h2)
    have HE := Lib.hid (outL_all hall)
    clear hall HI
    go_enter Tryz.func70, Tryz.ntmps70
    go_wp2_with (go_at_call 104; refine HI2.out.mono ?_; rintro e w2 ⟨rfl, gr⟩; have GR := Lib.hid gr; clear gr)
    go_ret
    exact ⟨_, rfl, by rw [HE.out]; exact HO.out.below GR.out.below, HB.out.trans (GR.out.below.mono HB.out.size)⟩
  · have HI2 := Lib.hid (HI.out.mono (R' := fun e w' => ∃ k : Nat, e = .returned (.int .i64 (k : Int)) ∧ k < ls.length ∧ DelRel m.ns m.on ls g cap w0 (.int .i64 (k : Int)) (.int .i64 ((k : Int) + 1)) w') fun e w' h => by
      rcases h with ⟨gr, ⟨he, hn⟩ | ⟨k0, hk0, he, hno, hyes⟩⟩
      · exact absurd hn hall
      · refine ⟨k0, he, hk0, k0, k0 + 1, ls, rfl, by first | rfl | (congr 1; omega), by omega, by omega, rfl, ?_, fun t _ => rfl, HLB.out.stay (gr.below.block g hlt), HB.out.trans (gr.below.mono HB.out.size)⟩
        rw [outL_snoc m.ns m.on ls hk0, if_pos hyes, List.append_nil, outL_all hno])
    clear HI hall hlt
    go_enter Tryz.func70, Tryz.ntmps70
    go_wp2_with (go_at_call 104; refine HI2.out.mono ?_; rintro e w2 ⟨k0, rfl, hk0, hst⟩; have HST := Lib.hid hst; clear hst; have k01 : ((k0 : Int) == -1) = false := beq_eq_false_iff_ne.2 (by omega); have k02 : IntKind.i64.wrap ((k0 : Int) + 1) = (k0 : Int) + 1 := (by rw [IntKind.wrap_i64]; omega))
    go_loopw [5, 6] (DelRel m.ns m.on ls g cap w0) (fun _ v _ => ls.length - (intOf v).toNat)
    case atStart => exact HST.out
    case round =>
      obtain ⟨i, j, l, rfl, rfl, hij, hj, hll, hdo, hto, hlb, bel⟩ := hrel
      have HL := Lib.hid hlb
      have HBW := Lib.hid bel
      have HDO := Lib.hid hdo
      have HTO := Lib.hid hto
      have HLL := Lib.hid hll
      clear hlb bel hdo hto hll
      have hgw : g < wr.heap.size := by
        obtain ⟨cur, h1, _⟩ := HL.out
        by_cases h : g < wr.heap.size
        · exact h
        · rw [Array.getElem?_eq_none (by omega)] at h1; cases h1
      by_cases hlt : j < ls.length
      · have k1 : (0 : Int) ≤ (j : Int) := by omega
        have k2 : (j : Int) < (ls.length : Int) := by omega
        have k3 : (0 : Int) ≤ (i : Int) := by omega
        have k4 : (i : Int) < (ls.length : Int) := by omega
        have hjl : j < l.length := by have := HLL.out; omega
        have hil : i < l.length := by have := HLL.out; omega
        obtain ⟨x0, x1⟩ := HL.out.cell hjl HLL.out.symm
        have hxn : nL l j = nL ls j := by unfold nL; rw [HTO.out j (Nat.le_refl _)]
        have hxv : vL l j = vL ls j := by unfold vL; rw [HTO.out j (Nat.le_refl _)]
        rw [hxn] at x0
        rw [hxv] at x1
        have HE := Lib.hid (outL_snoc m.ns m.on ls hlt)
        have HGW := Lib.hid hgw
        have HIL := Lib.hid hil
        generalize hX : nL ls j = xn at *
        generalize hV : vL ls j = xv at *
        have HXX : Hid (lbAt ls j = ⟨xn, xv⟩) := Lib.hid (by rw [← hX, ← hV]; rfl)
        obtain ⟨W1, hW1⟩ : ∃ W1, W1 = wr.alloc (.cells #[.string xn, .string xv] 54) := ⟨_, rfl⟩
        have b1 : Below wr.heap.size wr W1 := by rw [hW1]; exact (Below.refl _ _).alloc (Nat.le_refl _) _
        have y0 : W1.cell? ⟨wr.heap.size, 0, none⟩ = some (.string xn) := by rw [hW1, World.cell?_alloc_at _ _ _ _ (by rfl)]; rfl
        have y1 : W1.cell? ⟨wr.heap.size, 1, none⟩ = some (.string xv) := by rw [hW1, World.cell?_alloc_at _ _ _ _ (by rfl)]; rfl
        have HB1 := Lib.hid b1
        have HY := Lib.hid (And.intro y0 y1)
        have HBG : Hid (Below w0.heap.size w0 W1) := Lib.hid (HBW.out.trans (b1.mono HBW.out.size))
        have HL1 : Hid (LBc W1 g (cap * 2) (ls.length * 2) (l.flatMap lbCells)) := Lib.hid (HL.out.stay (b1.block g hgw))
        have HG1 : Hid (g < W1.heap.size) := Lib.hid (Nat.lt_of_lt_of_le hgw b1.size)
        have HS := Lib.hid (struck_any B m ⟨xn, xv⟩ W1 (HC.out.below HBG.out))
        rw [hW1] at HS
        generalize delB m.ns m.on ⟨xn, xv⟩ = d at *
        clear b1 y0 y1 hX hV hxn hxv hjl hil hgw
        cases d
        · go_wp2_with (go_at_call 71; refine HS.out.mono ?_; rintro e w3 ⟨rfl, gr⟩; rw [← hW1] at gr; have z0 := cell_stayL HY.out.1 gr.below; have z1 := cell_stayL HY.out.2 gr.below; have HL3 := Lib.hid (HL1.out.stay (gr.below.block g HG1.out)); obtain ⟨c0, c1⟩ := HL3.out.cell HIL.out HLL.out.symm; have f0 := HL3.out.frozen (i * 2); have f1 := HL3.out.frozen (i * 2 + 1); have HB3 := Lib.hid (HBG.out.trans (gr.below.mono HBG.out.size)); clear gr)
          have HN : Hid (DelRel m.ns m.on ls g cap w0 (.int .i64 ((i : Int) + 1)) (.int .i64 ((j : Int) + 1)) ((w3.setCell ⟨g, i * 2, none⟩ (.string xn)).setCell ⟨g, i * 2 + 1, none⟩ (.string xv))) := Lib.hid (by
            refine ⟨i + 1, j + 1, l.set i ⟨xn, xv⟩, by first | rfl | (congr 1; omega), by first | rfl | (congr 1; omega), by omega, by omega, by rw [List.length_set]; exact HLL.out, ?_, ?_, ?_, (HB3.out.setCell (p := ⟨g, i * 2, none⟩) HG.out _).setCell (p := ⟨g, i * 2 + 1, none⟩) HG.out _⟩
            · rw [HE.out, List.take_add_one, List.take_set_of_le (Nat.le_refl _), HDO.out]
              simp [HIL.out]
            · intro t ht
              rw [lbAt_set HIL.out, if_neg (by omega)]; exact HTO.out t (by omega)
            · have := (HL3.out.set (i := i * 2) (.string xn)).set (i := i * 2 + 1) (.string xv)
              rw [← flat_set l i ⟨xn, xv⟩]; exact this)
          go_roundw
          case rel => exact HN.out
          case measure => simp [intOf]; omega
        · go_wp2_with (go_at_call 71; refine HS.out.mono ?_; rintro e w3 ⟨rfl, gr⟩; rw [← hW1] at gr; have HL3 := Lib.hid (HL1.out.stay (gr.below.block g HG1.out)); have HB3 := Lib.hid (HBG.out.trans (gr.below.mono HBG.out.size)); clear gr)
          go_roundw
          case rel => exact ⟨i, j + 1, l, rfl, by first | rfl | (congr 1; omega), by omega, by omega, HLL.out, by rw [HE.out]; simp; exact HDO.out, fun t ht => HTO.out t (by omega), HL3.out, HB3.out⟩
          case measure => simp [intOf]; omega
      · have hkn : ¬ (j : Int) < (ls.length : Int) := by omega
        have hs1 := slice_loL g 0 ls.length cap i (i : Int) rfl (by omega) (by have := HNC.out; omega)
        rw [Nat.zero_add] at hs1
        have hs2 := slice_hiL g 0 ls.length cap i (i : Int) rfl (by have := HNC.out; omega)
        have hcl : ∀ ty, ∃ vs, (Builtin.clear_ #[31] ty #[.slice (some ⟨g, i * 2, none⟩) (ls.length - i) (cap - i)]).run Tryz.prog wr = .ok (.tuple #[]) (wr.setCells g (i * 2) vs) := fun ty => clear_lbs wr ty g (i * 2) (ls.length - i) (cap - i) (by
          intro t ht
          obtain ⟨cur, h1, h2, h3⟩ := HL.out
          have hc2 := HNC.out
          unfold World.cell?
          simp only [h1]
          have hlt2 : i * 2 + t < cur.size := by omega
          simp [hlt2]) (fun t => HL.out.frozen t) (by omega)
        have HFIN : Hid (∀ vs, OwnL w0.heap.size (wr.setCells g (i * 2) vs) (.slice (some ⟨g, 0, none⟩) i cap) (outL m.ns m.on ls) ∧ Below w0.heap.size w0 (wr.setCells g (i * 2) vs)) := Lib.hid fun vs => by
          have hfl : outL m.ns m.on ls = l.take i := by rw [HDO.out, List.take_of_length_le (by omega)]
          refine ⟨?_, below_setCells HBW.out HG.out vs _⟩
          have h1 := HL.out.less (k := i * 2) (by omega)
          rw [flat_take] at h1
          have h2 := LBc.sets (by rw [lbCells_length]; simp; omega) vs (i * 2) wr (by omega) h1
          rw [hfl]
          exact h2.own HG.out (by have := HLL.out; simp; omega) (by have := HNC.out; omega) HM.out
        clear hgw
        obtain ⟨vs, hcl0⟩ : ∃ vs : TypeId → List Value, ∀ ty, (Builtin.clear_ #[31] ty #[.slice (some ⟨g, i * 2, none⟩) (ls.length - i) (cap - i)]).run Tryz.prog wr = .ok (.tuple #[]) (wr.setCells g (i * 2) (vs ty)) := ⟨fun ty => (hcl ty).choose, fun ty => (hcl ty).choose_spec⟩
        clear hcl
        go_wp2_with fail
        go_ret
        exact ⟨i, rfl, (HFIN.out _).1, (HFIN.out _).2⟩

end Go.Proofs.YtmmfjknnbkcniaaGreatDoor
