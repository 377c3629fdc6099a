/- labels.With, weirref16.With, for any value. slices.IndexFunc, slices.DeleteFunc with the closure of pair.told. -/
import Derived.Test.YtmmfjknnbkcniaaGreatDoorV07
import Derived.Lib.SliceRun
import Derived.Laws.IdiomCopy
set_option maxHeartbeats 64000000
set_option maxRecDepth 100000
namespace Go.Fl
def withS (N V : ByteArray) (s : List Lb × Bool) (l : Lb) : List Lb × Bool :=
 if l.n.toList == N.toList then s else if !s.2 && !(Op.bytesLess l.n.toList N.toList) then (s.1 ++ [⟨N, V⟩] ++ [l], true) else (s.1 ++ [l], s.2)
def withP (N V : ByteArray) (ls : List Lb) : List Lb × Bool := ls.foldl (withS N V) ([], V.toList.isEmpty)
def withL (N V : ByteArray) (ls : List Lb) : List Lb := if (withP N V ls).2 then (withP N V ls).1 else (withP N V ls).1 ++ [⟨N, V⟩]
theorem withP_snoc (N V : ByteArray) (ls : List Lb) {k : Nat} (h : k < ls.length) : withP N V (ls.take (k + 1)) = withS N V (withP N V (ls.take k)) ⟨nL ls k, vL ls k⟩ := by
 unfold withP nL vL
 rw [List.take_add_one, List.getElem?_eq_getElem h, List.foldl_append, lbAt_get h]
 rfl
theorem withS_inv (N V : ByteArray) (ls : List Lb) : ∀ s : List Lb × Bool, (ls.foldl (withS N V) s).1.length + (if (ls.foldl (withS N V) s).2 then 0 else 1) ≤ s.1.length + (if s.2 then 0 else 1) + ls.length ∧ ∀ l ∈ (ls.foldl (withS N V) s).1, l ∈ s.1 ∨ l ∈ ls ∨ l = ⟨N, V⟩ := by
 induction ls with
 | nil => intro s; exact ⟨Nat.le_refl _, fun l hl => .inl hl⟩
 | cons x xs ih =>
  intro s
  rw [List.foldl_cons]
  obtain ⟨h1, h2⟩ := ih (withS N V s x)
  have h3 : (withS N V s x).1.length + (if (withS N V s x).2 then 0 else 1) ≤ s.1.length + (if s.2 then 0 else 1) + 1 := by
   unfold withS
   split
   ·omega
   ·split
    ·rename_i h; have : s.2 = false := by revert h; cases s.2 <;> simp
     simp [this]
    ·simp; omega
  have h4 : ∀ l ∈ (withS N V s x).1, l ∈ s.1 ∨ l = x ∨ l = ⟨N, V⟩ := by
   intro l
   unfold withS
   split
   ·exact fun h => .inl h
   ·split
    ·intro h; simp at h; rcases h with h | h | h
     ·exact .inl h
     ·exact .inr (.inr h)
     ·exact .inr (.inl h)
    ·intro h; simp at h; rcases h with h | h
     ·exact .inl h
     ·exact .inr (.inl h)
  refine ⟨by rw [List.length_cons]; omega, fun l hl => ?_⟩
  rcases h2 l hl with h | h | h
  ·rcases h4 l h with h | h | h
   ·exact .inl h
   ·exact .inr (.inl (by rw [h]; exact List.mem_cons_self))
   ·exact .inr (.inr h)
  ·exact .inr (.inl (List.mem_cons_of_mem _ h))
  ·exact .inr (.inr h)
theorem withP_len (N V : ByteArray) (ls : List Lb) : (withP N V ls).1.length ≤ ls.length + 1 := by
 have := (withS_inv N V ls ([], V.toList.isEmpty)).1
 unfold withP
 simp only [List.length_nil] at this
 split at this <;> split at this <;> omega
theorem withL_len (N V : ByteArray) (ls : List Lb) : (withL N V ls).length ≤ ls.length + 1 := by
 have := (withS_inv N V ls ([], V.toList.isEmpty)).1
 unfold withL withP
 simp only [List.length_nil] at this
 split
 ·split at this <;> split at this <;> omega
 ·rw [List.length_append]
  split at this <;> split at this <;> simp_all <;> omega
theorem withL_mem (N V : ByteArray) (ls : List Lb) : ∀ l ∈ withL N V ls, l ∈ ls ∨ l = ⟨N, V⟩ := by
 intro l hl
 have := (withS_inv N V ls ([], V.toList.isEmpty)).2
 unfold withL at hl
 have h : l ∈ (withP N V ls).1 ∨ l = ⟨N, V⟩ := by
  split at hl
  ·exact .inl hl
  ·simp at hl; exact hl
 rcases h with h | h
 ·rcases this l h with h | h | h
  ·cases h
  ·exact .inl h
  ·exact .inr h
 ·exact .inr h
theorem small_mem {ms : List Lb} (h : ∀ l ∈ ms, SmallT l.n ∧ SmallT l.v) : SmallL ms := by
 intro i
 unfold nL vL
 by_cases hi : i < ms.length
 ·rw [lbAt_get hi]; exact h _ (List.getElem_mem hi)
 ·have e : lbAt ms i = default := by simp [lbAt, List.getD, List.getElem?_eq_none (by omega : ms.length ≤ i)]
  rw [e]; exact ⟨by unfold SmallT; decide, by unfold SmallT; decide⟩
theorem small_of {ls : List Lb} (h : SmallL ls) : ∀ l ∈ ls, SmallT l.n ∧ SmallT l.v := by
 intro l hl
 obtain ⟨j, hj, e⟩ := List.getElem_of_mem hl
 have := h j
 unfold nL vL at this
 rw [lbAt_get hj, e] at this; exact this
theorem withL_small (N V : ByteArray) {ls : List Lb} (h : SmallL ls) (hN : SmallT N) (hV : SmallT V) : SmallL (withL N V ls) := by
 refine small_mem fun l hl => ?_
 rcases withL_mem N V ls l hl with h1 | h1
 ·exact small_of h l h1
 ·subst h1; exact ⟨hN, hV⟩
theorem getL_small (N : ByteArray) {ls : List Lb} (h : SmallL ls) : SmallT (getL N ls) := by
 unfold getL
 split
 ·rename_i l hl; exact (small_of h l (List.mem_of_find?_eq_some hl)).2
 ·unfold SmallT; decide
end Go.Fl
namespace Go.Proofs.YtmmfjknnbkcniaaGreatDoor
open Go.Fl Go.Rel Go.RowKit Go.Maps Go.WideMaps
set_option linter.unusedSimpArgs false
set_option linter.unusedVariables false
def WithRelG (N V : ByteArray) (ls : List Lb) (w : World) (v7 v8 v19 : Value) (wr : World) : Prop :=
 ∃ (k : Nat) (P : List Lb × Bool), v19 = .int .i64 (k : Int) ∧ k ≤ ls.length ∧ withP N V (ls.take k) = P ∧ v8 = .bool P.2 ∧ OwnL w.heap.size wr v7 P.1 ∧ Below w.heap.size w wr
theorem with_any (a : Option Addr) (n cap : Nat) (ls : List Lb) (N V : ByteArray) (w : World) (hr : LRow w a n ls) (hn : n ≤ 4398046511000) :
  Calls Tryz.prog 20 #[.slice a n cap, .string N, .string V] w (NewL (withL N V ls) w) := by
 have HR := qh hr
 have hl := hr.1
 have n1 : (n : Int) ≤ 4398046511000 := by omega
 have n0 : (0 : Int) ≤ (n : Int) := by omega
 have kw : IntKind.i64.wrap ((n : Int) + 1) = (n : Int) + 1 := by rw [IntKind.wrap_i64]; omega
 obtain ⟨W0, hmk, own0, bel0⟩ := make_lb w.heap.size w (n + 1) (by omega) (Nat.le_refl _)
 rw [Int.natCast_add, Int.natCast_one] at hmk
 have OW := qh own0
 have BW := qh bel0
 clear own0 bel0
 have HLB : Hid (∀ b off, 0 < n → a = some ⟨b, off, none⟩ → b < w.heap.size) := qh (fun b off h e => by obtain ⟨b', o', e', hh, _⟩ := hr.2.2.2 h; rw [e] at e'; cases e'; exact hh)
 clear hr
 go_enter Tryz.func20, Tryz.ntmps20
 go_wp2_with fail
 go_loopw [7, 8, 19] (WithRelG N V ls w) (fun _ _ v _ => n - (intOf v).toNat)
 case atStart => exact ⟨0, ([], _), rfl, by omega, rfl, rfl, OW.out, BW.out⟩
 case round =>
  obtain ⟨k, ⟨O, p⟩, rfl, hk, hP, rfl, own, bel⟩ := hrel
  have hrw := HR.out.below bel
  have HO := qh own
  have HB := qh bel
  have HP := qh hP
  have HL : Hid (O.length ≤ k + 1) := qh (by have := withP_len N V (ls.take k); rw [hP] at this; simp at this; omega)
  clear own bel
  dsimp only at HO ⊢
  by_cases hlt : k < n
  ·have dl : decide ((k : Int) < (n : Int)) = true := decide_eq_true (by omega)
   obtain ⟨b, off, rfl, hb, hc⟩ := hrw.2.2.2 (by omega)
   obtain ⟨x0, x1⟩ := hc k hlt
   have k1 : (0 : Int) ≤ (k : Int) := by omega
   have k2 : (k : Int) < (n : Int) := by omega
   have HE := qh (withP_snoc N V ls (by omega : k < ls.length))
   rw [hP] at HE
   unfold withS at HE
   clear hc hrw hP
   generalize nL ls k = xn at *
   generalize vL ls k = xv at *
   dsimp only at HE
   have HOA : Hid (OwnL w.heap.size (wr.alloc (.cells #[.string xn, .string xv] 54)) u7 O) := qh (HO.out.alloc _)
   have HBA : Hid (Below w.heap.size w (wr.alloc (.cells #[.string xn, .string xv] 54))) := qh (HB.out.alloc HB.out.size _)
   have z0 : (wr.alloc (.cells #[.string xn, .string xv] 54)).cell? ⟨wr.heap.size, 0, none⟩ = some (.string xn) := by rw [World.cell?_alloc_at _ _ _ _ (by rfl)]; rfl
   have z1 : (wr.alloc (.cells #[.string xn, .string xv] 54)).cell? ⟨wr.heap.size, 1, none⟩ = some (.string xv) := by rw [World.cell?_alloc_at _ _ _ _ (by rfl)]; rfl
   have HNE : Hid (some wr.heap.size ≠ u7.ownBlock) := qh (fun h => by have := (HO.out.lt _ h.symm).2; omega)
   cases he : (xn.toList == N.toList)
   ·cases hb : Op.bytesLess xn.toList N.toList
    ·cases p
     ·rw [he, hb] at HE
      have HE := qh (HE.out.trans (show _ = (O ++ [⟨N, V⟩] ++ [⟨xn, xv⟩], true) from by simp))
      go_wp2_with (first | (at_builtin; refine wpList_append_lb rfl (.tmp 35) (.tmp 39) rfl w.heap.size _ _ rfl (HOA.out.alloc _) (wr.heap.size + 1) _ ⟨N, V⟩ rfl (by rw [World.cell?_alloc_at _ _ _ _ (by simp)]; rfl) (by rw [World.cell?_alloc_at _ _ _ _ (by simp)]; rfl) (by have := HL.out; first | omega | (simp only [List.length_append, List.length_cons, List.length_nil]; omega)) (by have := HBA.out.size; (try simp at this); (try simp); omega) ?_; intro v5 w5 own5 gb5 hv5; have HO5 := qh own5; have HB5 := qh ((HOA.out.alloc _).grown (HBA.out.alloc HBA.out.size _) gb5 (by have := HBA.out.size; (try simp at this); (try simp); omega)); have y0 := gb5.cell (cell_oldL z0 _) HNE.out; have y1 := gb5.cell (cell_oldL z1 _) HNE.out) | (at_builtin; refine wpList_append_lb rfl (.tmp 41) (.tmp 43) rfl w.heap.size _ _ rfl (HO5.out.alloc _) w5.heap.size _ ⟨xn, xv⟩ rfl (by rw [World.cell?_alloc_at _ _ _ _ (by simp)]; rfl) (by rw [World.cell?_alloc_at _ _ _ _ (by simp)]; rfl) (by have := HL.out; first | omega | (simp only [List.length_append, List.length_cons, List.length_nil]; omega)) (by have := HB5.out.size; (try simp at this); (try simp); omega) ?_; intro v6 w6 own6 gb6 hv6; have HO6 := qh own6; have HB6 := qh ((HO5.out.alloc _).grown (HB5.out.alloc HB5.out.size _) gb6 (by have := HB5.out.size; (try simp at this); (try simp); omega)); clear own6 gb6 hv6))
      go_roundw
      case rel => exact ⟨k + 1, _, by first | rfl | (congr 1; omega), by omega, rfl, by rw [HE.out], by rw [HE.out]; exact HO6.out, HB6.out⟩
      case measure => simp [intOf]; omega
     ·rw [he, hb] at HE
      have HE := qh (HE.out.trans (show _ = (O ++ [⟨xn, xv⟩], true) from by simp))
      go_wp2_with (first | (at_builtin; refine wpList_append_lb rfl (.tmp 41) (.tmp 43) rfl w.heap.size _ _ rfl (HOA.out.alloc _) (wr.heap.size + 1) _ ⟨xn, xv⟩ rfl (by rw [World.cell?_alloc_at _ _ _ _ (by simp)]; rfl) (by rw [World.cell?_alloc_at _ _ _ _ (by simp)]; rfl) (by have := HL.out; first | omega | (simp only [List.length_append, List.length_cons, List.length_nil]; omega)) (by have := HBA.out.size; (try simp at this); (try simp); omega) ?_; intro v6 w6 own6 gb6 hv6; have HO6 := qh own6; have HB6 := qh ((HOA.out.alloc _).grown (HBA.out.alloc HBA.out.size _) gb6 (by have := HBA.out.size; (try simp at this); (try simp); omega)); clear own6 gb6 hv6))
      go_roundw
      case rel => exact ⟨k + 1, _, by first | rfl | (congr 1; omega), by omega, rfl, by rw [HE.out], by rw [HE.out]; exact HO6.out, HB6.out⟩
      case measure => simp [intOf]; omega
    ·rw [he, hb] at HE
     have HE := qh (HE.out.trans (show _ = (O ++ [⟨xn, xv⟩], p) from by simp))
     cases p
     all_goals
      go_wp2_with (first | (at_builtin; refine wpList_append_lb rfl (.tmp 41) (.tmp 43) rfl w.heap.size _ _ rfl (HOA.out.alloc _) (wr.heap.size + 1) _ ⟨xn, xv⟩ rfl (by rw [World.cell?_alloc_at _ _ _ _ (by simp)]; rfl) (by rw [World.cell?_alloc_at _ _ _ _ (by simp)]; rfl) (by have := HL.out; first | omega | (simp only [List.length_append, List.length_cons, List.length_nil]; omega)) (by have := HBA.out.size; (try simp at this); (try simp); omega) ?_; intro v6 w6 own6 gb6 hv6; have HO6 := qh own6; have HB6 := qh ((HOA.out.alloc _).grown (HBA.out.alloc HBA.out.size _) gb6 (by have := HBA.out.size; (try simp at this); (try simp); omega)); clear own6 gb6 hv6))
      go_roundw
      case rel => exact ⟨k + 1, _, by first | rfl | (congr 1; omega), by omega, rfl, by rw [HE.out], by rw [HE.out]; exact HO6.out, HB6.out⟩
      case measure => simp [intOf]; omega
   ·rw [he] at HE
    have HE := qh (HE.out.trans (show _ = (O, p) from by simp))
    go_wp2_with fail
    go_roundw
    case rel => exact ⟨k + 1, _, by first | rfl | (congr 1; omega), by omega, rfl, by rw [HE.out], by rw [HE.out]; exact HOA.out, HBA.out⟩
    case measure => simp [intOf]; omega
  ·have hkn : ¬ (k : Int) < (n : Int) := by omega
   have HE : Hid (withP N V ls = (O, p)) := qh (by rw [← HP.out, List.take_of_length_le (by omega)])
   clear hrw hP
   cases p
   ·go_wp2_with (at_builtin; refine wpList_append_lb rfl (.tmp 48) (.tmp 52) rfl w.heap.size _ _ rfl (HO.out.alloc _) wr.heap.size _ ⟨N, V⟩ rfl (by rw [World.cell?_alloc_at _ _ _ _ (by simp)]; rfl) (by rw [World.cell?_alloc_at _ _ _ _ (by simp)]; rfl) (by have := HL.out; first | omega | (simp only [List.length_append, List.length_cons, List.length_nil]; omega)) (by have := HB.out.size; (try simp at this); (try simp); omega) ?_; intro v5 w5 own5 gb5 hv5; have HO5 := qh own5; have HB5 := qh ((HO.out.alloc _).grown (HB.out.alloc HB.out.size _) gb5 (by have := HB.out.size; (try simp at this); (try simp); omega)); clear own5 gb5 hv5)
    go_ret
    exact ⟨_, rfl, by unfold withL; rw [HE.out]; exact HO5.out, HB5.out⟩
   ·go_wp2_with fail
    go_ret
    exact ⟨_, rfl, by unfold withL; rw [HE.out]; exact HO.out, HB.out⟩
theorem rwith_any (a : Option Addr) (n cap : Nat) (ls : List Lb) (N V : ByteArray) (w : World) (hr : LRow w a n ls) (hn : n ≤ 4398046511000) :
  Calls Tryz.prog 100 #[.slice a n cap, .string N, .string V] w (NewL (withL N V ls) w) := by
 have HR := qh hr
 have hl := hr.1
 have n1 : (n : Int) ≤ 4398046511000 := by omega
 have HLB : Hid (∀ b off, 0 < n → a = some ⟨b, off, none⟩ → b < w.heap.size) := qh (fun b off h e => by obtain ⟨b', o', e', hh, _⟩ := hr.2.2.2 h; rw [e] at e'; cases e'; exact hh)
 clear hr
 go_enter Tryz.func100, Tryz.ntmps100
 go_wp2_with fail
 go_loopw [7, 8, 9] (WithRelG N V ls w) (fun _ _ v _ => n - (intOf v).toNat)
 case atStart => exact ⟨0, ([], _), rfl, by omega, rfl, rfl, ownL_nil _ _, Below.refl _ _⟩
 case round =>
  obtain ⟨k, ⟨O, p⟩, rfl, hk, hP, rfl, own, bel⟩ := hrel
  have hrw := HR.out.below bel
  have HO := qh own
  have HB := qh bel
  have HP := qh hP
  have HL : Hid (O.length ≤ k + 1) := qh (by have := withP_len N V (ls.take k); rw [hP] at this; simp at this; omega)
  clear own bel
  dsimp only at HO ⊢
  by_cases hlt : k < n
  ·have dl : decide ((k : Int) < (n : Int)) = true := decide_eq_true (by omega)
   obtain ⟨b, off, rfl, hb, hc⟩ := hrw.2.2.2 (by omega)
   obtain ⟨x0, x1⟩ := hc k hlt
   have k1 : (0 : Int) ≤ (k : Int) := by omega
   have k2 : (k : Int) < (n : Int) := by omega
   have HE := qh (withP_snoc N V ls (by omega : k < ls.length))
   rw [hP] at HE
   unfold withS at HE
   clear hc hrw hP
   generalize nL ls k = xn at *
   generalize vL ls k = xv at *
   dsimp only at HE
   have HOA := HO
   have HBA := HB
   have HNX : Hid (some b ≠ u7.ownBlock) := qh (fun h => by have h1 := (HO.out.lt _ h.symm).1; have h2 := HLB.out b off (by omega) rfl; omega)
   cases he : (xn.toList == N.toList)
   ·cases hb : Op.bytesLess xn.toList N.toList
    ·cases p
     ·rw [he, hb] at HE
      have HE := qh (HE.out.trans (show _ = (O ++ [⟨N, V⟩] ++ [⟨xn, xv⟩], true) from by simp))
      go_wp2_with (first | (at_builtin; refine wpList_append_lb rfl (.tmp 36) (.tmp 40) rfl w.heap.size _ _ rfl (HOA.out.alloc _) wr.heap.size _ ⟨N, V⟩ rfl (by rw [World.cell?_alloc_at _ _ _ _ (by simp)]; rfl) (by rw [World.cell?_alloc_at _ _ _ _ (by simp)]; rfl) (by have := HL.out; first | omega | (simp only [List.length_append, List.length_cons, List.length_nil]; omega)) (by have := HBA.out.size; (try simp at this); (try simp); omega) ?_; intro v5 w5 own5 gb5 hv5; have HO5 := qh own5; have HB5 := qh ((HOA.out.alloc _).grown (HBA.out.alloc HBA.out.size _) gb5 (by have := HBA.out.size; (try simp at this); (try simp); omega)); have y0 := gb5.cell (cell_oldL x0 _) HNX.out; have y1 := gb5.cell (cell_oldL x1 _) HNX.out) | (at_builtin; refine wpList_append_lb rfl (.tmp 42) (.tmp 47) rfl w.heap.size _ _ rfl (HO5.out.alloc _) w5.heap.size _ ⟨xn, xv⟩ rfl (by rw [World.cell?_alloc_at _ _ _ _ (by simp)]; rfl) (by rw [World.cell?_alloc_at _ _ _ _ (by simp)]; rfl) (by have := HL.out; first | omega | (simp only [List.length_append, List.length_cons, List.length_nil]; omega)) (by have := HB5.out.size; (try simp at this); (try simp); omega) ?_; intro v6 w6 own6 gb6 hv6; have HO6 := qh own6; have HB6 := qh ((HO5.out.alloc _).grown (HB5.out.alloc HB5.out.size _) gb6 (by have := HB5.out.size; (try simp at this); (try simp); omega)); clear own6 gb6 hv6))
      go_roundw
      case rel => exact ⟨k + 1, _, by first | rfl | (congr 1; omega), by omega, rfl, by rw [HE.out], by rw [HE.out]; exact HO6.out, HB6.out⟩
      case measure => simp [intOf]; omega
     ·rw [he, hb] at HE
      have HE := qh (HE.out.trans (show _ = (O ++ [⟨xn, xv⟩], true) from by simp))
      go_wp2_with (first | (at_builtin; refine wpList_append_lb rfl (.tmp 42) (.tmp 47) rfl w.heap.size _ _ rfl (HOA.out.alloc _) wr.heap.size _ ⟨xn, xv⟩ rfl (by rw [World.cell?_alloc_at _ _ _ _ (by simp)]; rfl) (by rw [World.cell?_alloc_at _ _ _ _ (by simp)]; rfl) (by have := HL.out; first | omega | (simp only [List.length_append, List.length_cons, List.length_nil]; omega)) (by have := HBA.out.size; (try simp at this); (try simp); omega) ?_; intro v6 w6 own6 gb6 hv6; have HO6 := qh own6; have HB6 := qh ((HOA.out.alloc _).grown (HBA.out.alloc HBA.out.size _) gb6 (by have := HBA.out.size; (try simp at this); (try simp); omega)); clear own6 gb6 hv6))
      go_roundw
      case rel => exact ⟨k + 1, _, by first | rfl | (congr 1; omega), by omega, rfl, by rw [HE.out], by rw [HE.out]; exact HO6.out, HB6.out⟩
      case measure => simp [intOf]; omega
    ·rw [he, hb] at HE
     have HE := qh (HE.out.trans (show _ = (O ++ [⟨xn, xv⟩], p) from by simp))
     cases p
     all_goals
      go_wp2_with (first | (at_builtin; refine wpList_append_lb rfl (.tmp 42) (.tmp 47) rfl w.heap.size _ _ rfl (HOA.out.alloc _) wr.heap.size _ ⟨xn, xv⟩ rfl (by rw [World.cell?_alloc_at _ _ _ _ (by simp)]; rfl) (by rw [World.cell?_alloc_at _ _ _ _ (by simp)]; rfl) (by have := HL.out; first | omega | (simp only [List.length_append, List.length_cons, List.length_nil]; omega)) (by have := HBA.out.size; (try simp at this); (try simp); omega) ?_; intro v6 w6 own6 gb6 hv6; have HO6 := qh own6; have HB6 := qh ((HOA.out.alloc _).grown (HBA.out.alloc HBA.out.size _) gb6 (by have := HBA.out.size; (try simp at this); (try simp); omega)); clear own6 gb6 hv6))
      go_roundw
      case rel => exact ⟨k + 1, _, by first | rfl | (congr 1; omega), by omega, rfl, by rw [HE.out], by rw [HE.out]; exact HO6.out, HB6.out⟩
      case measure => simp [intOf]; omega
   ·rw [he] at HE
    have HE := qh (HE.out.trans (show _ = (O, p) from by simp))
    go_wp2_with fail
    go_roundw
    case rel => exact ⟨k + 1, _, by first | rfl | (congr 1; omega), by omega, rfl, by rw [HE.out], by rw [HE.out]; exact HOA.out, HBA.out⟩
    case measure => simp [intOf]; omega
  ·have hkn : ¬ (k : Int) < (n : Int) := by omega
   have HE : Hid (withP N V ls = (O, p)) := qh (by rw [← HP.out, List.take_of_length_le (by omega)])
   clear hrw hP
   cases p
   ·go_wp2_with (at_builtin; refine wpList_append_lb rfl (.tmp 51) (.tmp 55) rfl w.heap.size _ _ rfl (HO.out.alloc _) wr.heap.size _ ⟨N, V⟩ rfl (by rw [World.cell?_alloc_at _ _ _ _ (by simp)]; rfl) (by rw [World.cell?_alloc_at _ _ _ _ (by simp)]; rfl) (by have := HL.out; first | omega | (simp only [List.length_append, List.length_cons, List.length_nil]; omega)) (by have := HB.out.size; (try simp at this); (try simp); omega) ?_; intro v5 w5 own5 gb5 hv5; have HO5 := qh own5; have HB5 := qh ((HO.out.alloc _).grown (HB.out.alloc HB.out.size _) gb5 (by have := HB.out.size; (try simp at this); (try simp); omega)); clear own5 gb5 hv5)
    go_ret
    exact ⟨_, rfl, by unfold withL; rw [HE.out]; exact HO5.out, HB5.out⟩
   ·go_wp2_with fail
    go_ret
    exact ⟨_, rfl, by unfold withL; rw [HE.out]; exact HO.out, HB.out⟩
end Go.Proofs.YtmmfjknnbkcniaaGreatDoor
namespace Go.Fl
def delB (ns : List ByteArray) (on : Bool) (l : Lb) : Bool := inN ns l.n != on
end Go.Fl
namespace Go.Proofs.YtmmfjknnbkcniaaGreatDoor
open Go.Fl Go.Rel Go.RowKit Go.Maps Go.WideMaps
set_option linter.unusedSimpArgs false
set_option linter.unusedVariables false
def LBc (w : World) (g c m : Nat) (xs : List Value) : Prop := ∃ cur : Array Value, w.heap[g]? = some (.cells cur 54 (0, 0)) ∧ cur.size = c ∧ cur.toList.take m = xs
theorem LBc.set {w : World} {g c m i : Nat} {xs : List Value} (h : LBc w g c m xs) (v : Value) : LBc (w.setCell ⟨g, i, none⟩ v) g c m (xs.set i v) := by
 obtain ⟨cur, h1, h2, h3⟩ := h
 refine ⟨_, heap_setCell_same w g i cur _ v h1, by simpa using h2, ?_⟩
 rw [Array.toList_setIfInBounds, List.take_set, h3]
theorem LBc.stay {w w' : World} {g c m : Nat} {xs : List Value} (h : LBc w g c m xs) (hb : w'.heap[g]? = w.heap[g]?) : LBc w' g c m xs := by
 obtain ⟨cur, h1, h2, h3⟩ := h
 exact ⟨cur, by rw [hb]; exact h1, h2, h3⟩
theorem LBc.sets {g c m : Nat} {xs : List Value} (hx : xs.length ≤ m) : ∀ (vs : List Value) (i : Nat) (w : World), m ≤ i → LBc w g c m xs → LBc (w.setCells g i vs) g c m xs
 | [], _, _, _, h => h
 | v :: r, i, w, hi, h => by
  rw [World.setCells]
  refine LBc.sets hx r (i + 1) _ (by omega) ?_
  have := h.set (i := i) v
  rwa [List.set_eq_of_length_le (by omega)] at this
theorem LBc.less {w : World} {g c m k : Nat} {xs : List Value} (h : LBc w g c m xs) (hk : k ≤ m) : LBc w g c k (xs.take k) := by
 obtain ⟨cur, h1, h2, h3⟩ := h
 exact ⟨cur, h1, h2, by rw [← h3, List.take_take, Nat.min_eq_left hk]⟩
theorem OwnL.lbc {B : Nat} {w : World} {g n cap : Nat} {ls : List Lb} (h : OwnL B w (.slice (some ⟨g, 0, none⟩) n cap) ls) : B ≤ g ∧ n = ls.length ∧ n ≤ cap ∧ cap ≤ maxLen ∧ LBc w g (cap * 2) (n * 2) (ls.flatMap lbCells) := by
 rcases h.2 with ⟨h1, _⟩ | ⟨g', cap', cur, h1, h2, h3, h4, h5, h6, h7⟩
 ·cases h1
 ·cases h1
  exact ⟨h2, rfl, h4, h5, cur, h3, h6, h7⟩
theorem LBc.own {B : Nat} {w : World} {g n cap : Nat} {ls : List Lb} (h : LBc w g (cap * 2) (n * 2) (ls.flatMap lbCells)) (hB : B ≤ g) (hn : n = ls.length) (hc : n ≤ cap) (hm : cap ≤ maxLen) : OwnL B w (.slice (some ⟨g, 0, none⟩) n cap) ls := by
 subst hn
 obtain ⟨cur, h1, h2, h3⟩ := h
 exact ⟨lbCells_length ls, .inr ⟨g, cap, cur, rfl, hB, h1, hc, hm, h2, h3⟩⟩
theorem LBc.cell {w : World} {g c n : Nat} {ls : List Lb} (h : LBc w g c (n * 2) (ls.flatMap lbCells)) {i : Nat} (hi : i < ls.length) (hn : n = ls.length) : w.cell? ⟨g, i * 2, none⟩ = some (.string (nL ls i)) ∧ w.cell? ⟨g, i * 2 + 1, none⟩ = some (.string (vL ls i)) := by
 obtain ⟨cur, h1, h2, h3⟩ := h
 have key : ∀ c, c < 2 → cur.toList[i * 2 + c]? = (lbCells (lbAt ls i))[c]? := fun c hc => by
  rw [← lbCells_get ls i c hi hc, ← h3, List.getElem?_take]
  rw [if_pos (by omega)]
 have k0 := key 0 (by omega)
 have k1 := key 1 (by omega)
 rw [Nat.add_zero] at k0
 rw [Array.getElem?_toList] at k0 k1
 unfold World.cell?
 simp only [h1]
 exact ⟨by simpa [lbCells, nL] using k0, by simpa [lbCells, vL] using k1⟩
theorem LBc.frozen {w : World} {g c m : Nat} {xs : List Value} (h : LBc w g c m xs) (i : Nat) : w.frozen? ⟨g, i, none⟩ = false := by
 obtain ⟨cur, h1, _⟩ := h
 exact frozen_of_row w g i cur _ h1
theorem flat_set (ls : List Lb) (i : Nat) (x : Lb) : ((ls.flatMap lbCells).set (i * 2) (.string x.n)).set (i * 2 + 1) (.string x.v) = (ls.set i x).flatMap lbCells := by
 induction ls generalizing i with
 | nil => simp
 | cons y ys ih =>
  cases i with
  | zero => simp [lbCells]
  | succ i =>
   rw [List.set_cons_succ, List.flatMap_cons, List.flatMap_cons, ← ih i]
   rw [show (i + 1) * 2 = (lbCells y).length + i * 2 from by simp [lbCells]; omega, show (lbCells y).length + i * 2 + 1 = (lbCells y).length + (i * 2 + 1) from by omega]
   rw [List.set_append_right _ _ (by omega), List.set_append_right _ _ (by omega)]
   simp
theorem flat_take (ls : List Lb) (i : Nat) : (ls.flatMap lbCells).take (i * 2) = (ls.take i).flatMap lbCells := by
 induction ls generalizing i with
 | nil => simp
 | cons y ys ih =>
  cases i with
  | zero => simp
  | succ i =>
   rw [List.take_succ_cons, List.flatMap_cons, List.flatMap_cons, ← ih i, show (i + 1) * 2 = (lbCells y).length + i * 2 from by simp [lbCells]; omega]
   rw [List.take_append, List.take_of_length_le (by omega)]
   simp
def Cap (w0 : World) (B : Nat) (m : Mt) : Prop := B < w0.heap.size ∧ w0.cell? ⟨B, 1, none⟩ = some (.bool m.on) ∧ w0.cell? ⟨B, 2, none⟩ = some (.slice m.la m.ln m.lc) ∧ NRow w0 m.la m.ln m.ns
theorem Cap.below {w w' : World} {B : Nat} {m : Mt} (h : Cap w B m) (hb : Below w.heap.size w w') : Cap w' B m := by
 obtain ⟨h1, h2, h3, h4⟩ := h
 exact ⟨Nat.lt_of_lt_of_le h1 hb.size, by rw [hb.cell (p := ⟨B, 1, none⟩) h1]; exact h2, by rw [hb.cell (p := ⟨B, 2, none⟩) h1]; exact h3, h4.below hb⟩
theorem quiet_of_eqR {P : Program} {f : FuncId} {args : Array Value} {w : World} {n : Nat} {v : Value}
  (h : Calls P f args (w.drewN n) fun e w' => e = .returned v ∧ w' = w.drewN n) : Calls P f args (w.drewN n) fun e w'' => e = .returned v ∧ ∃ m, w'' = w.drewN m :=
 h.mono fun _ _ ⟨he, hw⟩ => ⟨he, n, hw⟩
theorem struck_any (B : Nat) (m : Mt) (x : Lb) (w : World) (hc : Cap w B m) :
  Calls Tryz.prog 71 #[.agg #[.string x.n, .string x.v], .pointer (some ⟨B, 0, none⟩)] w fun e w' => e = .returned (.bool (delB m.ns m.on x)) ∧ Grn w w' := by
 obtain ⟨given, on, la, ln, lc, card, ia, im, ic, ns, inc⟩ := m
 obtain ⟨xn, xv⟩ := x
 unfold delB
 dsimp only
 have hc2 := hc.below ((Below.refl _ w).alloc (Nat.le_refl _) (.cells #[.string xn, .string xv] 54))
 obtain ⟨hB, s1, s2, hn⟩ := hc2
 dsimp only at s1 s2 hn
 have G0 : Hid (Grn w (w.alloc (.cells #[.string xn, .string xv] 54))) := qh ((Grn.refl w).alloc _)
 have HC : Hid (∀ n, Calls Tryz.prog 72 #[.slice la ln lc, .string xn] ((w.alloc (.cells #[.string xn, .string xv] 54)).drewN n) fun e w' => e = .returned (.bool (inN ns xn)) ∧ w' = (w.alloc (.cells #[.string xn, .string xv] 54)).drewN n) := qh fun n => contains_any la ln lc ns xn _ (hn.below ((Below.refl _ _).drewN' n))
 have s0 : (w.alloc (.cells #[.string xn, .string xv] 54)).cell? ⟨w.heap.size, 0, none⟩ = some (.string xn) := by rw [World.cell?_alloc_at _ _ _ _ (by rfl)]; rfl
 generalize hi : inN ns xn = i at *
 clear hc hn hB
 have hst : ∀ W : World, W.heap.size = W.heap.size := fun _ => rfl
 go_enter Tryz.func71, Tryz.ntmps71
 go_wp2_with fail
 generalize w.alloc (.cells #[.string xn, .string xv] 54) = W at *
 cases i
 all_goals cases on
 all_goals
  go_quiet (first | (go_at_call 72; exact quiet_of_eqR (HC.out _)))
  go_wp2_with fail
  go_ret
  exact ⟨rfl, G0.out.drewN _⟩
def IdxFRel (ns : List ByteArray) (on : Bool) (ls : List Lb) (w : World) (v8 : Value) (wr : World) : Prop :=
 ∃ k : Nat, v8 = .int .i64 (k : Int) ∧ k ≤ ls.length ∧ (∀ l ∈ ls.take k, delB ns on l = false) ∧ Grn w wr
def IdxFRet (ns : List ByteArray) (on : Bool) (ls : List Lb) (w : World) (e : Ending) (w' : World) : Prop :=
 Grn w w' ∧ ((e = .returned (.int .i64 (-1)) ∧ ∀ l ∈ ls, delB ns on l = false) ∨ ∃ k : Nat, k < ls.length ∧ e = .returned (.int .i64 (k : Int)) ∧ (∀ l ∈ ls.take k, delB ns on l = false) ∧ delB ns on ⟨nL ls k, vL ls k⟩ = true)
theorem indexF_any (a : Option Addr) (n cap : Nat) (ls : List Lb) (B : Nat) (m : Mt) (w : World) (hr : LRow w a n ls) (hc : Cap w B m) :
  Calls Tryz.prog 104 #[.slice a n cap, .func (.func 71) #[] #[.pointer (some ⟨B, 0, none⟩)]] w (IdxFRet m.ns m.on ls w) := by
 have HR := qh hr
 have HC := qh hc
 have hl := hr.1
 have n1 : (n : Int) ≤ 9223372036854775807 := by have := hr.2.1; omega
 clear hr hc
 go_enter Tryz.func104, Tryz.ntmps104
 go_wp2_with fail
 go_loopw [8] (IdxFRel m.ns m.on ls w) (fun v _ => n - (intOf v).toNat)
 case atStart => exact ⟨0, rfl, by omega, fun l hl => absurd hl List.not_mem_nil, Grn.refl _⟩
 case round =>
  obtain ⟨k, rfl, hk, hno, bel⟩ := hrel
  have hrw := HR.out.below bel.below
  have HG := qh bel
  have HNO := qh hno
  clear hno bel
  by_cases hlt : k < n
  ·have dl : decide ((k : Int) < (n : Int)) = true := decide_eq_true (by omega)
   obtain ⟨b, off, rfl, hb, hcc⟩ := hrw.2.2.2 (by omega)
   obtain ⟨x0, x1⟩ := hcc k hlt
   have k1 : (0 : Int) ≤ (k : Int) := by omega
   have k2 : (k : Int) < (n : Int) := by omega
   have HS := qh (struck_any B m ⟨nL ls k, vL ls k⟩ wr (HC.out.below HG.out.below))
   have HT : Hid (delB m.ns m.on ⟨nL ls k, vL ls k⟩ = false → ∀ l ∈ ls.take (k + 1), delB m.ns m.on l = false) := qh (fun h l hl2 => by
    rw [List.take_add_one, List.getElem?_eq_getElem (by omega : k < ls.length), List.mem_append] at hl2
    rcases hl2 with h2 | h2
    ·exact HNO.out l h2
    ·simp at h2; subst h2; unfold nL vL at h; rw [lbAt_get (by omega)] at h; exact h)
   have HX : Hid (delB m.ns m.on ⟨nL ls k, vL ls k⟩ = true → IdxFRet m.ns m.on ls w (.returned (.int .i64 (k : Int))) wr) := qh (fun h => ⟨HG.out, .inr ⟨k, by omega, rfl, HNO.out, h⟩⟩)
   generalize delB m.ns m.on ⟨nL ls k, vL ls k⟩ = d at *
   generalize nL ls k = xn at *
   generalize vL ls k = xv at *
   clear hcc hrw
   cases d
   ·go_wp2_with (go_at_call 71; refine HS.out.mono ?_; rintro e w2 ⟨rfl, gr⟩; have GR := qh gr; clear gr)
    go_roundw
    case rel => exact ⟨k + 1, by first | rfl | (congr 1; omega), by omega, HT.out (by first | rfl | trivial), HG.out.trans GR.out⟩
    case measure => simp [intOf]; omega
   ·go_wp2_with (go_at_call 71; refine HS.out.mono ?_; rintro e w2 ⟨rfl, gr⟩; have GR := qh gr; clear gr)
    go_ret
    obtain ⟨h1, h2⟩ := HX.out (by first | rfl | trivial)
    exact ⟨h1.trans GR.out, h2⟩
  ·have hkn : ¬ (k : Int) < (n : Int) := by omega
   have HE : Hid (∀ l ∈ ls, delB m.ns m.on l = false) := qh (by have := HNO.out; rwa [List.take_of_length_le (by omega)] at this)
   clear hrw
   go_wp2_with fail
   go_ret
   exact ⟨HG.out, .inl ⟨rfl, HE.out⟩⟩
end Go.Proofs.YtmmfjknnbkcniaaGreatDoor
