/- The order of texts, of labels and of lists of them. weirref16.Compare. Lists of labels and of elements that a call appends to: what they hold. (Its like parts were printed by tools/genlbe.py.) labels.With and weirref16.With where the value is empty: the labels of other names. -/
import Derived.Test.YtmmfjknnbkcniaaGreatDoorV05
import Derived.Shelf.SlSortCmp.QuietGrown
import Derived.Sort.Walk0
import Derived.Deep.QuietTactic
import Derived.BigQuiet
import Derived.Test.YtmmfjknnbkcniaaGreatDoorV02
import Derived.Maps.AppendAt
import Derived.Deep.AppendLies
import Derived.Deep.Onto
import Derived.Laws.OwnMore
import Derived.Laws.MakeOwn
import Derived.OwnWalk
set_option maxHeartbeats 64000000
set_option maxRecDepth 100000
namespace Go.Fl
def tcmp (a b : ByteArray) : Int := bif Op.bytesLess a.toList b.toList then -1 else bif a.toList == b.toList then 0 else 1
def bcmp (x y : Lb) : Int := bif tcmp x.n y.n != 0 then tcmp x.n y.n else tcmp x.v y.v
def lcmp : List Lb → List Lb → Int
 | [], [] => 0
 | [], _ :: _ => -1
 | _ :: _, [] => 1
 | x :: xs, y :: ys => bif bcmp x y != 0 then bcmp x y else lcmp xs ys
theorem toList_inj {a b : ByteArray} (h : a.toList = b.toList) : a = b := by
 rw [Lib.toList_data, Lib.toList_data] at h
 cases a; cases b; simp at h; rw [h]
theorem tcmp_val (a b : ByteArray) : tcmp a b = if a.toList < b.toList then -1 else if a.toList = b.toList then 0 else 1 := by
 unfold tcmp; rw [Proofs.bytesLess_eq]
 by_cases h : a.toList < b.toList
 ·rw [decide_eq_true h, if_pos h]; rfl
 ·rw [decide_eq_false h, if_neg h]
  by_cases h2 : a.toList = b.toList
  ·rw [beq_iff_eq.2 h2, if_pos h2]; rfl
  ·rw [beq_eq_false_iff_ne.2 h2, if_neg h2]; rfl
theorem u8_trichotomy (a b : List UInt8) : a < b ∨ a = b ∨ b < a := by
 by_cases h : a < b
 ·exact .inl h
 by_cases h2 : a = b
 ·exact .inr (.inl h2)
 ·right; right
  by_cases h3 : b < a
  ·exact h3
  ·exact absurd (List.le_antisymm (show a ≤ b from h3) (show b ≤ a from h)) h2
theorem tcmp_swap (a b : ByteArray) : tcmp b a = - tcmp a b := by
 rw [tcmp_val, tcmp_val]
 have irr : ∀ x : List UInt8, ¬ x < x := fun x => List.lt_irrefl x
 have asym : ∀ x y : List UInt8, x < y → ¬ y < x := fun x y h g => irr x (List.lt_trans h g)
 rcases u8_trichotomy a.toList b.toList with h | h | h
 ·rw [if_pos h, if_neg (asym _ _ h), if_neg (fun e => by rw [e] at h; exact irr _ h)]; rfl
 ·rw [h, if_neg (irr _), if_pos rfl]; simp
 ·rw [if_pos h, if_neg (asym _ _ h), if_neg (fun e => by rw [e] at h; exact irr _ h)]
theorem tcmp_zero {a b : ByteArray} : tcmp a b = 0 ↔ a = b := by
 rw [tcmp_val]
 have irr : ∀ x : List UInt8, ¬ x < x := fun x => List.lt_irrefl x
 constructor
 ·intro h
  by_cases h1 : a.toList < b.toList
  ·rw [if_pos h1] at h; exact absurd h (by decide)
  ·rw [if_neg h1] at h
   by_cases h2 : a.toList = b.toList
   ·exact toList_inj h2
   ·rw [if_neg h2] at h; exact absurd h (by decide)
 ·rintro rfl
  rw [if_neg (irr _), if_pos rfl]
theorem tcmp_neg {a b : ByteArray} : tcmp a b < 0 ↔ a.toList < b.toList := by
 rw [tcmp_val]
 by_cases h : a.toList < b.toList
 ·rw [if_pos h]; exact ⟨fun _ => h, fun _ => by decide⟩
 ·rw [if_neg h]
  refine ⟨fun g => ?_, fun g => absurd g h⟩
  split at g <;> exact absurd g (by decide)
theorem tcmp_trans {a b c : ByteArray} (h1 : tcmp a b < 0) (h2 : tcmp b c < 0) : tcmp a c < 0 :=
 tcmp_neg.2 (List.lt_trans (tcmp_neg.1 h1) (tcmp_neg.1 h2))
theorem bcmp_val (x y : Lb) : bcmp x y = if tcmp x.n y.n = 0 then tcmp x.v y.v else tcmp x.n y.n := by
 unfold bcmp
 by_cases h : tcmp x.n y.n = 0
 ·rw [h]; rfl
 ·rw [bne_iff_ne.2 h, if_neg h]; rfl
theorem bcmp_swap (x y : Lb) : bcmp y x = - bcmp x y := by
 rw [bcmp_val, bcmp_val, tcmp_swap x.n y.n, tcmp_swap x.v y.v]
 by_cases h : tcmp x.n y.n = 0
 ·rw [h, if_pos rfl, if_pos (by rfl)]
 ·rw [if_neg h, if_neg (by omega)]
theorem bcmp_zero {x y : Lb} : bcmp x y = 0 ↔ x = y := by
 rw [bcmp_val]
 constructor
 ·intro h
  by_cases h1 : tcmp x.n y.n = 0
  ·rw [if_pos h1] at h
   cases x; cases y
   have := tcmp_zero.1 h1; have := tcmp_zero.1 h
   simp_all
  ·rw [if_neg h1] at h; exact absurd h h1
 ·rintro rfl
  rw [if_pos (tcmp_zero.2 rfl), tcmp_zero.2 rfl]
theorem bcmp_trans {x y z : Lb} (h1 : bcmp x y < 0) (h2 : bcmp y z < 0) : bcmp x z < 0 := by
 rw [bcmp_val] at h1 h2 ⊢
 by_cases g1 : tcmp x.n y.n = 0
 ·rw [if_pos g1] at h1
  have e1 := tcmp_zero.1 g1
  by_cases g2 : tcmp y.n z.n = 0
  ·rw [if_pos g2] at h2
   rw [if_pos (by rw [e1]; exact g2)]
   exact tcmp_trans h1 h2
  ·rw [if_neg g2] at h2
   rw [e1, if_neg g2]; exact h2
 ·rw [if_neg g1] at h1
  by_cases g2 : tcmp y.n z.n = 0
  ·rw [← tcmp_zero.1 g2, if_neg g1]; exact h1
  ·rw [if_neg g2] at h2
   have := tcmp_trans h1 h2
   rw [if_neg (by omega)]; exact this
theorem lcmp_cons (x y : Lb) (xs ys : List Lb) : lcmp (x :: xs) (y :: ys) = if bcmp x y = 0 then lcmp xs ys else bcmp x y := by
 rw [lcmp]
 by_cases h : bcmp x y = 0
 ·rw [h]; rfl
 ·rw [bne_iff_ne.2 h, if_neg h]; rfl
theorem lcmp_swap : ∀ a b : List Lb, lcmp b a = - lcmp a b
 | [], [] => rfl
 | [], _ :: _ => rfl
 | _ :: _, [] => rfl
 | x :: xs, y :: ys => by
  rw [lcmp_cons, lcmp_cons, bcmp_swap x y, lcmp_swap xs ys]
  by_cases h : bcmp x y = 0
  ·rw [h, if_pos rfl, if_pos (by rfl)]
  ·rw [if_neg h, if_neg (by omega)]
theorem lcmp_zero : ∀ {a b : List Lb}, lcmp a b = 0 ↔ a = b
 | [], [] => by simp [lcmp]
 | [], _ :: _ => by simp [lcmp]
 | _ :: _, [] => by simp [lcmp]
 | x :: xs, y :: ys => by
  rw [lcmp_cons]
  constructor
  ·intro h
   by_cases g : bcmp x y = 0
   ·rw [if_pos g] at h; rw [bcmp_zero.1 g, lcmp_zero.1 h]
   ·rw [if_neg g] at h; exact absurd h g
  ·intro h
   injection h with h1 h2
   subst h1 h2
   rw [if_pos (bcmp_zero.2 rfl), lcmp_zero.2 rfl]
theorem lcmp_trans : ∀ {a b c : List Lb}, lcmp a b < 0 → lcmp b c < 0 → lcmp a c < 0
 | [], [], _ => fun h _ => absurd h (by simp [lcmp])
 | _ :: _, [], _ => fun h _ => absurd h (by simp [lcmp])
 | _, _ :: _, [] => fun _ h => absurd h (by simp [lcmp])
 | [], _ :: _, _ :: _ => fun _ _ => by simp [lcmp]
 | x :: xs, y :: ys, z :: zs => by
  rw [lcmp_cons, lcmp_cons, lcmp_cons]
  intro h1 h2
  by_cases g1 : bcmp x y = 0
  ·rw [if_pos g1] at h1
   have e1 := bcmp_zero.1 g1
   by_cases g2 : bcmp y z = 0
   ·rw [if_pos g2] at h2
    rw [if_pos (by rw [e1]; exact g2)]
    exact lcmp_trans h1 h2
   ·rw [if_neg g2] at h2
    rw [e1, if_neg g2]; exact h2
  ·rw [if_neg g1] at h1
   by_cases g2 : bcmp y z = 0
   ·rw [← bcmp_zero.1 g2, if_neg g1]; exact h1
   ·rw [if_neg g2] at h2
    have := bcmp_trans h1 h2
    rw [if_neg (by omega)]; exact this
def leL (a b : List Lb) : Bool := decide (lcmp a b ≤ 0)
theorem leL_trans (a b c : List Lb) (h1 : leL a b = true) (h2 : leL b c = true) : leL a c = true := by
 unfold leL at *
 have h1 := of_decide_eq_true h1; have h2 := of_decide_eq_true h2
 refine decide_eq_true ?_
 rcases Int.lt_or_eq_of_le h1 with g1 | g1
 ·rcases Int.lt_or_eq_of_le h2 with g2 | g2
  ·have := lcmp_trans g1 g2; omega
  ·rw [← lcmp_zero.1 g2]; exact h1
 ·rw [lcmp_zero.1 g1]; exact h2
theorem leL_total (a b : List Lb) : (leL a b || leL b a) = true := by
 unfold leL; rw [lcmp_swap a b]
 rcases Int.lt_or_le (lcmp a b) 0 with h | h
 ·rw [decide_eq_true (by omega : lcmp a b ≤ 0)]; rfl
 ·rw [decide_eq_true (by omega : - lcmp a b ≤ 0), Bool.or_true]
end Go.Fl
namespace Go.Proofs.YtmmfjknnbkcniaaGreatDoor
open Go.Fl Go.Rel Go.RowKit Go.Sort
set_option linter.unusedSimpArgs false
set_option linter.unusedVariables false
theorem sisnan_any (s : ByteArray) (w : World) : Calls Tryz.prog 92 #[.string s] w fun e w' => e = .returned (.bool false) ∧ w = w' := by
 go_enter Tryz.func92, Tryz.ntmps92
 go_wp2_with fail
 go_ret
 exact ⟨rfl, rfl⟩
theorem tcmp_any (a b : ByteArray) (w : World) : Calls Tryz.prog 59 #[.string a, .string b] w fun e w' => e = .returned (.int .i64 (tcmp a b)) ∧ w = w' := by
 unfold tcmp
 cases h : Op.bytesLess a.toList b.toList <;> cases h2 : (a.toList == b.toList)
 all_goals
  go_enter Tryz.func59, Tryz.ntmps59
  go_wp2_with (go_at_call 92; refine (sisnan_any _ _).mono ?_; rintro e w' ⟨rfl, rfl⟩)
  go_ret
  exact ⟨rfl, rfl⟩
theorem order_any (a b : ByteArray) (w : World) : Calls Tryz.prog 95 #[.string a, .string b] w fun e w' => e = .returned (.int .i64 (tcmp a b)) ∧ w = w' := by
 unfold tcmp
 cases h : Op.bytesLess a.toList b.toList <;> cases h2 : (a.toList == b.toList)
 all_goals
  go_enter Tryz.func95, Tryz.ntmps95
  go_wp2_with fail
  go_ret
  exact ⟨rfl, rfl⟩
def OrRel (y : Int) (w : World) (v : Value) (wr : World) : Prop := wr = w ∧ ((v = .int .i64 0) ∨ (y = 0 ∧ v = .int .i64 2) ∨ (v = .int .i64 1))
def OrRel1 (w : World) (v : Value) (wr : World) : Prop := wr = w ∧ v = .int .i64 0
theorem or2_any (x y : Int) (b cap : Nat) (w : World) (h0 : w.cell? ⟨b, 0, none⟩ = some (.int .i64 x)) (h1 : w.cell? ⟨b, 1, none⟩ = some (.int .i64 y)) :
  Calls Tryz.prog 58 #[.slice (some ⟨b, 0, none⟩) 2 cap] w fun e w' => e = .returned (.int .i64 (bif x != 0 then x else y)) ∧ w = w' := by
 by_cases hx : x = 0
 ·subst hx
  rw [show (bif (0 : Int) != 0 then 0 else y) = y from rfl]
  go_enter Tryz.func58, Tryz.ntmps58
  go_wp2_with fail
  go_loopw [8] (OrRel y w) (fun v _ => 2 - (intOf v).toNat)
  case atStart => exact ⟨rfl, .inl rfl⟩
  case round =>
   obtain ⟨rfl, rfl | ⟨rfl, rfl⟩ | rfl⟩ := hrel
   ·go_wp2_with fail
    go_roundw
    case rel => exact ⟨rfl, .inr (.inr rfl)⟩
    case measure => simp [intOf]
   ·go_wp2_with fail
    go_ret
    exact ⟨rfl, rfl⟩
   ·by_cases hy : y = 0
    ·subst hy
     go_wp2_with fail
     go_roundw
     case rel => exact ⟨rfl, .inr (.inl ⟨rfl, rfl⟩)⟩
     case measure => simp [intOf]
    ·have hy2 : (y == 0) = false := by simpa using hy
     go_wp2_with fail
     go_ret
     exact ⟨rfl, rfl⟩
 ·have hx2 : (x == 0) = false := by simpa using hx
  rw [show (bif x != 0 then x else y) = x by rw [bne_iff_ne.2 hx]; rfl]
  go_enter Tryz.func58, Tryz.ntmps58
  go_wp2_with fail
  go_loopw [8] (OrRel1 w) (fun v _ => 2 - (intOf v).toNat)
  case atStart => exact ⟨rfl, rfl⟩
  case round =>
   obtain ⟨rfl, rfl⟩ := hrel
   go_wp2_with fail
   go_ret
   exact ⟨rfl, rfl⟩
def Grn (w w' : World) : Prop := ∃ q os, w' = grow (w.drewN q) os
theorem Grn.refl (w : World) : Grn w w := ⟨0, #[], by rw [grow_empty]; rfl⟩
theorem Grn.drew {z w : World} (h : Grn z w) : Grn z w.drew := by
 obtain ⟨q, os, rfl⟩ := h
 exact ⟨q + 1, os, by rw [drew_grow]; rfl⟩
theorem Grn.trans {z w w' : World} (h : Grn z w) (h2 : Grn w w') : Grn z w' := by
 obtain ⟨q, os, rfl⟩ := h
 obtain ⟨q2, os2, rfl⟩ := h2
 refine ⟨q + q2, os ++ os2, ?_⟩
 show grow (grow ((z.drewN q).drewN q2) os) os2 = _
 rw [grow_grow, World.drewN_drewN]
theorem Grn.alloc {z w : World} (h : Grn z w) (o : Obj) : Grn z (w.alloc o) :=
 h.trans ⟨0, #[o], by rw [alloc_eq_grow]; rfl⟩
theorem Grn.below {w w' : World} (h : Grn w w') : Below w.heap.size w w' := by
 obtain ⟨q, os, rfl⟩ := h
 exact ⟨rfl, rfl, rfl, by rw [size_grow]; exact Nat.le_add_right _ _, fun k hk => heap_grow_old _ _ hk⟩
theorem keepG4 {z w w' : World} {q0 q1 q2 q3 : Addr} {v0 v1 v2 v3 : Value} (h : w.cell? q0 = some v0 ∧ w.cell? q1 = some v1 ∧ w.cell? q2 = some v2 ∧ w.cell? q3 = some v3 ∧ Grn z w) (hb : Grn w w') : w'.cell? q0 = some v0 ∧ w'.cell? q1 = some v1 ∧ w'.cell? q2 = some v2 ∧ w'.cell? q3 = some v3 ∧ Grn z w' := by
 obtain ⟨h0, h1, h2, h3, hz⟩ := h
 exact ⟨cell_stayL h0 hb.below, cell_stayL h1 hb.below, cell_stayL h2 hb.below, cell_stayL h3 hb.below, hz.trans hb⟩
theorem bcmp_any (x y : Lb) (w : World) : Calls Tryz.prog 57 #[.agg #[.string x.n, .string x.v], .agg #[.string y.n, .string y.v]] w fun e w' => e = .returned (.int .i64 (bcmp x y)) ∧ Grn w w' := by
 obtain ⟨xn, xv⟩ := x
 obtain ⟨yn, yv⟩ := y
 have HT := qh (tcmp_any)
 unfold bcmp
 go_enter Tryz.func57, Tryz.ntmps57
 go_wp2_with fail
 have S0 : ((w.alloc (.cells #[.string xn, .string xv] 54)).alloc (.cells #[.string yn, .string yv] 54)).cell? ⟨w.heap.size, 0, none⟩ = some (.string xn) ∧ ((w.alloc (.cells #[.string xn, .string xv] 54)).alloc (.cells #[.string yn, .string yv] 54)).cell? ⟨w.heap.size, 1, none⟩ = some (.string xv) ∧ ((w.alloc (.cells #[.string xn, .string xv] 54)).alloc (.cells #[.string yn, .string yv] 54)).cell? ⟨w.heap.size + 1, 0, none⟩ = some (.string yn) ∧ ((w.alloc (.cells #[.string xn, .string xv] 54)).alloc (.cells #[.string yn, .string yv] 54)).cell? ⟨w.heap.size + 1, 1, none⟩ = some (.string yv) ∧ Grn w ((w.alloc (.cells #[.string xn, .string xv] 54)).alloc (.cells #[.string yn, .string yv] 54)) := by
  refine ⟨?_, ?_, ?_, ?_, ((Grn.refl w).alloc _).alloc _⟩
  ·exact cell_oldL (by rw [World.cell?_alloc_at _ _ _ _ rfl]; rfl) _
  ·exact cell_oldL (by rw [World.cell?_alloc_at _ _ _ _ rfl]; rfl) _
  ·rw [World.cell?_alloc_at _ _ _ _ (by simp)]; rfl
  ·rw [World.cell?_alloc_at _ _ _ _ (by simp)]; rfl
 generalize (w.alloc (.cells #[.string xn, .string xv] 54)).alloc (.cells #[.string yn, .string yv] 54) = W at S0 ⊢
 have S1 := keepG4 S0 (Grn.refl W).drew
 go_region_held3 (fun w' => w'.cell? ⟨w.heap.size, 0, none⟩ = some (.string xn) ∧ w'.cell? ⟨w.heap.size, 1, none⟩ = some (.string xv) ∧ w'.cell? ⟨w.heap.size + 1, 0, none⟩ = some (.string yn) ∧ w'.cell? ⟨w.heap.size + 1, 1, none⟩ = some (.string yv) ∧ Grn w w') (first | assumption | exact keepG4 (by assumption) ((Grn.refl _).alloc _)) (first | (go_at_call 59; refine (HT.out _ _ _).mono ?_; rintro e w' ⟨rfl, rfl⟩) | (go_at_call 58; refine (or2_any _ _ _ _ _ (by show (W.alloc _).cell? _ = _; rw [World.cell?_alloc_at _ _ _ _ (by rfl)]; rfl) (by show (W.alloc _).cell? _ = _; rw [World.cell?_alloc_at _ _ _ _ (by rfl)]; rfl)).mono ?_; rintro e w' ⟨rfl, rfl⟩))
 rename_i hHeld
 have G := qh hHeld.2.2.2.2
 clear hHeld S0 S1
 go_wp2_with fail
 go_ret
 exact ⟨rfl, G.out⟩
theorem drop_lb {l : List Lb} {k : Nat} (h : k < l.length) : l.drop k = ⟨nL l k, vL l k⟩ :: l.drop (k + 1) := by
 rw [List.drop_eq_getElem_cons h]
 unfold nL vL; rw [lbAt_get h]
def CmpRel (la lb : List Lb) (w : World) (v : Value) (wr : World) : Prop :=
 ∃ k : Nat, v = .int .i64 (k : Int) ∧ k ≤ la.length ∧ k ≤ lb.length ∧ lcmp la lb = lcmp (la.drop k) (lb.drop k) ∧ Grn w wr
theorem lcmp_any (a b : Option Addr) (na ca nb cb : Nat) (la lb : List Lb) (w : World) (ha : LRow w a na la) (hb : LRow w b nb lb) :
  Calls Tryz.prog 56 #[.slice a na ca, .slice b nb cb, .func (.func 57) #[] #[]] w fun e w' => e = .returned (.int .i64 (lcmp la lb)) ∧ Grn w w' := by
 have HA := qh ha
 have HB := qh hb
 have hla := ha.1
 have hlb := hb.1
 have n1 : (na : Int) ≤ 9223372036854775807 := by have := ha.2.1; omega
 have n2 : (nb : Int) ≤ 9223372036854775807 := by have := hb.2.1; omega
 clear ha hb
 go_enter Tryz.func56, Tryz.ntmps56
 go_wp2_with fail
 go_loopw [13] (CmpRel la lb w) (fun v _ => na - (intOf v).toNat)
 case atStart => exact ⟨0, rfl, by omega, by omega, rfl, Grn.refl _⟩
 case round =>
  obtain ⟨k, rfl, hka, hkb, heq, bel⟩ := hrel
  have hra := HA.out.below bel.below
  have hrb := HB.out.below bel.below
  by_cases hlt : k < na
  ·have dl : decide ((k : Int) < (na : Int)) = true := decide_eq_true (by omega)
   obtain ⟨ba, oa, rfl, hba, hca⟩ := hra.2.2.2 (by omega)
   obtain ⟨x0, x1⟩ := hca k hlt
   have k1 : (0 : Int) ≤ (k : Int) := by omega
   have k2 : (k : Int) < (na : Int) := by omega
   by_cases hlb2 : k < nb
   ·obtain ⟨bb, ob, rfl, hbb, hcb⟩ := hrb.2.2.2 (by omega)
    obtain ⟨y0, y1⟩ := hcb k hlb2
    have k3 : (k : Int) < (nb : Int) := by omega
    have HE : Hid (lcmp la lb = if bcmp ⟨nL la k, vL la k⟩ ⟨nL lb k, vL lb k⟩ = 0 then lcmp (la.drop (k + 1)) (lb.drop (k + 1)) else bcmp ⟨nL la k, vL la k⟩ ⟨nL lb k, vL lb k⟩) := qh (by
     rw [heq, drop_lb (by omega), drop_lb (l := lb) (by omega), lcmp_cons])
    have HC := qh (fun W => bcmp_any ⟨nL la k, vL la k⟩ ⟨nL lb k, vL lb k⟩ W)
    generalize nL la k = xn at *
    generalize vL la k = xv at *
    generalize nL lb k = yn at *
    generalize vL lb k = yv at *
    clear heq hca hcb hra hrb
    generalize bcmp ⟨xn, xv⟩ ⟨yn, yv⟩ = c at *
    have HG := qh bel
    clear bel
    by_cases hz : c = 0
    ·subst hz
     rw [if_pos rfl] at HE
     go_wp2_with (go_at_call 57; refine (HC.out _).mono ?_; rintro e w2 ⟨rfl, gr⟩; have GR := qh gr; clear gr)
     go_roundw
     case rel => exact ⟨k + 1, by first | rfl | (congr 1; omega), by omega, by omega, HE.out, ((HG.out.alloc _).alloc _).trans GR.out⟩
     case measure => simp [intOf]; omega
    ·rw [if_neg hz] at HE
     have hz2 : (c == 0) = false := by simpa using hz
     go_wp2_with (go_at_call 57; refine (HC.out _).mono ?_; rintro e w2 ⟨rfl, gr⟩; have GR := qh gr; clear gr)
     go_ret
     exact ⟨by rw [HE.out]; rfl, ((HG.out.alloc _).alloc _).trans GR.out⟩
   ·have k3 : (nb : Int) ≤ (k : Int) := by omega
    have HE : Hid (lcmp la lb = 1) := qh (by
     rw [heq, drop_lb (by omega), show lb.drop k = [] from List.drop_eq_nil_of_le (by omega)]; rfl)
    clear heq hca hra hrb
    go_wp2_with fail
    go_ret
    exact ⟨by rw [HE.out]; rfl, bel.alloc _⟩
  ·have hkn : ¬ (k : Int) < (na : Int) := by omega
   obtain rfl : k = na := by omega
   by_cases hn : k < nb
   ·have k3 : (k : Int) < (nb : Int) := by omega
    have HE : Hid (lcmp la lb = -1) := qh (by
     rw [heq, show la.drop k = [] from List.drop_eq_nil_of_le (by omega), drop_lb (by omega)]; rfl)
    clear heq hra hrb
    go_wp2_with fail
    go_ret
    exact ⟨by rw [HE.out]; rfl, bel⟩
   ·have k3 : ¬ (k : Int) < (nb : Int) := by omega
    have HE : Hid (lcmp la lb = 0) := qh (by
     rw [heq, show la.drop k = [] from List.drop_eq_nil_of_le (by omega), show lb.drop k = [] from List.drop_eq_nil_of_le (by omega)]; rfl)
    clear heq hra hrb
    go_wp2_with fail
    go_ret
    exact ⟨by rw [HE.out]; rfl, bel⟩
theorem lcompare_any (a b : Option Addr) (na ca nb cb : Nat) (la lb : List Lb) (w : World) (ha : LRow w a na la) (hb : LRow w b nb lb) :
  Calls Tryz.prog 40 #[.slice a na ca, .slice b nb cb] w fun e w' => e = .returned (.int .i64 (lcmp la lb)) ∧ Grn w w' := by
 have H := qh (lcmp_any a b na ca nb cb la lb w ha hb)
 clear ha hb
 go_enter Tryz.func40, Tryz.ntmps40
 go_wp2_with (go_at_call 56; refine H.out.mono ?_; rintro e w2 ⟨rfl, gr⟩)
 go_ret
 exact ⟨rfl, gr⟩
end Go.Proofs.YtmmfjknnbkcniaaGreatDoor
namespace Go.Proofs.YtmmfjknnbkcniaaGreatDoor
open Go.Fl Go.Rel Go.RowKit Go.Sort
set_option linter.unusedSimpArgs false
set_option linter.unusedVariables false
theorem Grn.drewN {z w : World} (h : Grn z w) (m : Nat) : Grn z (w.drewN m) := h.trans ⟨m, #[], by rw [grow_empty]⟩
theorem quiet_of_eqL {P : Program} {f : FuncId} {args : Array Value} {w : World} {n : Nat} {v : Value}
  (h : Calls P f args (w.drewN n) fun e w' => e = .returned v ∧ w.drewN n = w') : Calls P f args (w.drewN n) fun e w'' => e = .returned v ∧ ∃ m, w'' = w.drewN m :=
 h.mono fun _ _ ⟨he, hw⟩ => ⟨he, n, hw.symm⟩
theorem rlcompare_any (a b : Option Addr) (na ca nb cb : Nat) (la lb : List Lb) (w : World) (ha : LRow w a na la) (hb : LRow w b nb lb) :
  Calls Tryz.prog 62 #[.slice a na ca, .slice b nb cb] w fun e w' => e = .returned (.int .i64 (lcmp la lb)) ∧ Grn w w' := by
 have HA := qh ha
 have HB := qh hb
 have hla := ha.1
 have hlb := hb.1
 have n1 : (na : Int) ≤ 9223372036854775807 := by have := ha.2.1; omega
 have n2 : (nb : Int) ≤ 9223372036854775807 := by have := hb.2.1; omega
 clear ha hb
 go_enter Tryz.func62, Tryz.ntmps62
 go_wp2_with fail
 go_loopw [5] (CmpRel la lb w) (fun v _ => na - (intOf v).toNat)
 case atStart => exact ⟨0, rfl, by omega, by omega, rfl, Grn.refl _⟩
 case round =>
  obtain ⟨k, rfl, hka, hkb, heq, bel⟩ := hrel
  have hra := HA.out.below bel.below
  have hrb := HB.out.below bel.below
  by_cases hlt : k < na
  ·have k1 : (0 : Int) ≤ (k : Int) := by omega
   have k2 : (k : Int) < (na : Int) := by omega
   by_cases hlb2 : k < nb
   ·obtain ⟨ba, oa, rfl, hba, hca⟩ := hra.2.2.2 (by omega)
    obtain ⟨x0, x1⟩ := hca k hlt
    obtain ⟨bb, ob, rfl, hbb, hcb⟩ := hrb.2.2.2 (by omega)
    obtain ⟨y0, y1⟩ := hcb k hlb2
    have k3 : (k : Int) < (nb : Int) := by omega
    have HE : Hid (lcmp la lb = if bcmp ⟨nL la k, vL la k⟩ ⟨nL lb k, vL lb k⟩ = 0 then lcmp (la.drop (k + 1)) (lb.drop (k + 1)) else bcmp ⟨nL la k, vL la k⟩ ⟨nL lb k, vL lb k⟩) := qh (by
     rw [heq, drop_lb (by omega), drop_lb (l := lb) (by omega), lcmp_cons])
    rw [bcmp_val] at HE
    dsimp only at HE
    generalize nL la k = xn at *
    generalize vL la k = xv at *
    generalize nL lb k = yn at *
    generalize vL lb k = yv at *
    have HTN := qh (fun W => order_any xn yn W)
    have HTV := qh (fun W => order_any xv yv W)
    have HG := qh bel
    clear heq hca hcb hra hrb bel
    generalize tcmp xn yn = c at *
    generalize tcmp xv yv = d at *
    by_cases hz : c = 0
    ·subst hz
     rw [if_pos rfl] at HE
     by_cases hd : d = 0
     ·subst hd
      rw [if_pos rfl] at HE
      go_wp2_with fail
      go_quiet (first | (go_at_call 95; exact quiet_of_eqL (HTN.out _)))
      go_wp2_with fail
      go_quiet (first | (go_at_call 95; first | exact quiet_of_eq2 (HTV.out _) | exact quiet_of_eqL (HTV.out _)))
      go_wp2_with fail
      go_roundw
      case rel => exact ⟨k + 1, by first | rfl | (congr 1; omega), by omega, by omega, HE.out, HG.out.drewN _⟩
      case measure => simp [intOf]; omega
     ·rw [if_neg hd] at HE
      have hd2 : (d == 0) = false := by simpa using hd
      go_wp2_with fail
      go_quiet (first | (go_at_call 95; exact quiet_of_eqL (HTN.out _)))
      go_wp2_with fail
      go_quiet (first | (go_at_call 95; first | exact quiet_of_eq2 (HTV.out _) | exact quiet_of_eqL (HTV.out _)))
      go_wp2_with fail
      go_ret
      exact ⟨by rw [HE.out]; rfl, HG.out.drewN _⟩
    ·rw [if_neg hz, if_neg hz] at HE
     have hz2 : (c == 0) = false := by simpa using hz
     go_wp2_with fail
     go_quiet (first | (go_at_call 95; exact quiet_of_eqL (HTN.out _)))
     go_wp2_with fail
     go_ret
     exact ⟨by rw [HE.out]; rfl, HG.out.drewN nq⟩
   ·have k3 : ¬ (k : Int) < (nb : Int) := by omega
    have k4 : (nb : Int) < (na : Int) := by omega
    have k5 : ¬ (na : Int) < (nb : Int) := by omega
    have HE : Hid (lcmp la lb = 1) := qh (by
     rw [heq, drop_lb (by omega), show lb.drop k = [] from List.drop_eq_nil_of_le (by omega)]; rfl)
    clear heq hra hrb
    go_wp2_with fail
    go_ret
    exact ⟨by rw [HE.out]; rfl, bel⟩
  ·have hkn : ¬ (k : Int) < (na : Int) := by omega
   by_cases hn : k < nb
   ·have k3 : (na : Int) < (nb : Int) := by omega
    have HE : Hid (lcmp la lb = -1) := qh (by
     rw [heq, show la.drop k = [] from List.drop_eq_nil_of_le (by omega), drop_lb (by omega)]; rfl)
    clear heq hra hrb
    go_wp2_with fail
    go_ret
    exact ⟨by rw [HE.out]; rfl, bel⟩
   ·have k3 : ¬ (na : Int) < (nb : Int) := by omega
    have k4 : ¬ (nb : Int) < (na : Int) := by omega
    have HE : Hid (lcmp la lb = 0) := qh (by
     rw [heq, show la.drop k = [] from List.drop_eq_nil_of_le (by omega), show lb.drop k = [] from List.drop_eq_nil_of_le (by omega)]; rfl)
    clear heq hra hrb
    go_wp2_with fail
    go_ret
    exact ⟨by rw [HE.out]; rfl, bel⟩
end Go.Proofs.YtmmfjknnbkcniaaGreatDoor
namespace Go.Fl
structure Er where
 a : Option Addr
 n : Nat
 c : Nat
 f : Nat
 ls : List Lb
instance : Inhabited Er := ⟨⟨none, 0, 0, 0, []⟩⟩
def erAt (l : List Er) (i : Nat) : Er := l.getD i default
theorem erAt_get {l : List Er} {i : Nat} (h : i < l.length) : erAt l i = l[i] := by simp [erAt, List.getD, h]
def erCells (e : Er) : List Value := [.slice e.a e.n e.c, .float .f64 e.f]
theorem erCells_length (ls : List Er) : (ls.flatMap erCells).length = ls.length * 2 := by
 induction ls with
 | nil => rfl
 | cons x xs ih => rw [List.flatMap_cons, List.length_append, ih]; simp [erCells]; omega
end Go.Fl
namespace Go.Proofs.YtmmfjknnbkcniaaGreatDoor
open Go.Fl Go.Rel Go.RowKit Go.ChangeShapes Go.WideShapes Go.Deep
set_option linter.unusedSimpArgs false
set_option linter.unusedVariables false
def SlK (a : Option Addr) (n cap : Nat) : Prop := n ≤ cap ∧ (a = none → cap = 0)
theorem lbCells_get (ls : List Lb) (i c : Nat) (hi : i < ls.length) (hc : c < 2) : (ls.flatMap lbCells)[i * 2 + c]? = (lbCells (lbAt ls i))[c]? := by
 induction ls generalizing i with
 | nil => simp at hi
 | cons s ss ih =>
  rw [List.flatMap_cons]
  cases i with
  | zero =>
   rw [List.getElem?_append_left (by simp [lbCells]; omega)]
   simp [lbAt]
  | succ i =>
   rw [List.getElem?_append_right (by simp [lbCells]; omega)]
   have e : (i + 1) * 2 + c - (lbCells s).length = i * 2 + c := by simp [lbCells]; omega
   rw [e, ih i (by simpa using hi)]
   rfl
def OwnL (B : Nat) (w : World) (v : Value) (ls : List Lb) : Prop := w.ownsRow B 54 2 v ls.length (ls.flatMap lbCells)
theorem ownL_nil (B : Nat) (w : World) : OwnL B w (.slice none 0 0) [] := World.ownsRow_nil _ _ _ _
theorem OwnL.drewN {B : Nat} {w : World} {v : Value} {ls : List Lb} (h : OwnL B w v ls) (n : Nat) : OwnL B (w.drewN n) v ls := h
theorem OwnL.drew {B : Nat} {w : World} {v : Value} {ls : List Lb} (h : OwnL B w v ls) : OwnL B w.drew v ls := h
theorem OwnL.alloc {B : Nat} {w : World} {v : Value} {ls : List Lb} (h : OwnL B w v ls) (o : Obj) : OwnL B (w.alloc o) v ls := World.ownsRow.alloc h o
theorem OwnL.lt {B : Nat} {w : World} {v : Value} {ls : List Lb} (h : OwnL B w v ls) : ∀ k, v.ownBlock = some k → B ≤ k ∧ k < w.heap.size := World.ownsRow.lt h
theorem OwnL.grown {B : Nat} {w0 w w' : World} {v : Value} {ss : List Lb} (h : OwnL B w v ss) (hb : Below B w0 w) (hg : w.grownBy w' v.ownBlock) (hB : B ≤ w.heap.size) : Below B w0 w' :=
 hb.grown hg hB fun k hk => (World.ownsRow.lt h k hk).1
theorem OwnL.mono {B C : Nat} {w : World} {v : Value} {ls : List Lb} (h : OwnL B w v ls) (hc : C ≤ B) : OwnL C w v ls := World.ownsRow.mono h hc
theorem OwnL.stay {B : Nat} {w w' : World} {v : Value} {ls : List Lb} (h : OwnL B w v ls) (hb : ∀ g, v.ownBlock = some g → w'.heap[g]? = w.heap[g]?) : OwnL B w' v ls := by
 obtain ⟨h1, h2⟩ := h
 refine ⟨h1, ?_⟩
 rcases h2 with ⟨rfl, hn⟩ | ⟨g, cap, cur, rfl, hg, hbb, hn, hcap, hs, ht⟩
 ·exact .inl ⟨rfl, hn⟩
 ·exact .inr ⟨g, cap, cur, rfl, hg, by rw [hb g rfl]; exact hbb, hn, hcap, hs, ht⟩
theorem OwnL.below {B : Nat} {w w' : World} {v : Value} {ls : List Lb} (h : OwnL B w v ls) (hb : Below w.heap.size w w') : OwnL B w' v ls :=
 h.stay fun g hg => hb.block g (h.lt g hg).2
theorem OwnL.cell {B : Nat} {w : World} {g n cap : Nat} {ls : List Lb} (h : OwnL B w (.slice (some ⟨g, 0, none⟩) n cap) ls) {i c : Nat} (hi : i < ls.length) (hc : c < 2) : w.cell? ⟨g, 0 + i * 2 + c, none⟩ = (lbCells (lbAt ls i))[c]? := by
 have hn : n = ls.length := by
  obtain ⟨_, h2⟩ := h
  rcases h2 with ⟨e, _⟩ | ⟨g', cap', cur, e, _⟩
  ·cases e
  ·cases e; rfl
 subst hn
 have k0 := World.ownsRow.cellAt h (i * 2 + c) (by omega)
 rw [Nat.zero_add, k0, lbCells_get ls i c hi hc]
theorem OwnL.frozen {B : Nat} {w : World} {g n cap : Nat} {ls : List Lb} (h : OwnL B w (.slice (some ⟨g, 0, none⟩) n cap) ls) (j : Nat) : w.frozen? ⟨g, j, none⟩ = false := by
 have hn : n = ls.length := by
  obtain ⟨_, h2⟩ := h
  rcases h2 with ⟨e, _⟩ | ⟨g', cap', cur, e, _⟩
  ·cases e
  ·cases e; rfl
 subst hn
 exact World.ownsRow.frozenAt h _
theorem OwnL.form {B : Nat} {w : World} {v : Value} {ls : List Lb} (h : OwnL B w v ls) : (v = .slice none 0 0 ∧ ls = []) ∨ ∃ g cap, v = .slice (some ⟨g, 0, none⟩) ls.length cap ∧ B ≤ g ∧ g < w.heap.size ∧ ls.length ≤ cap ∧ v.ownBlock = some g := by
 have h0 := h
 obtain ⟨h1, h2⟩ := h
 rcases h2 with ⟨rfl, hn⟩ | ⟨g, cap, cur, rfl, hg, hbb, hn, hcap, hs, ht⟩
 ·exact .inl ⟨rfl, by simpa using hn⟩
 ·exact .inr ⟨g, cap, rfl, hg, (World.ownsRow.lt h0 g rfl).2, hn, rfl⟩
theorem OwnL.kind {B : Nat} {w : World} {v : Value} {ls : List Lb} (h : OwnL B w v ls) : ∀ g, v.ownBlock = some g → ∃ c fz, w.heap[g]? = some (.cells c 54 fz) := by
 obtain ⟨h1, h2⟩ := h
 rcases h2 with ⟨rfl, hn⟩ | ⟨g, cap, cur, rfl, hg, hbb, hn, hcap, hs, ht⟩
 ·intro g hg; simp [Value.ownBlock] at hg
 ·intro k hk; have : g = k := by simpa [Value.ownBlock] using hk
  subst this; exact ⟨_, _, hbb⟩
theorem info_lb : (Tryz.prog.info? 54).map (fun i => (i.zero, i.size, i.bytes)) = some (some (.agg #[.string ⟨#[]⟩, .string ⟨#[]⟩]), 2, 32) := by kernel_rfl
theorem wpList_append_lbs {ops : Array Oper} {rest : List Oper} {o : Oper} {a : Act} {Q : Exit → Act → World → Prop} {w : World} (hgd : o.guard = none) (s x : Operand)
  (ho : o.op = .call { callee := .builtin .append, args := #[s, x], argTypes := #[31, 31] })
  (B : Nat) (v : Value) (ss : List Lb) (hs : a.eval s = v) (hown : OwnL B w v ss) (ad : Addr) (m c : Nat) (ys : List Lb) (hm : ys.length = m) (hx : a.eval x = .slice (some ad) m c)
  (hy : ∀ j u, (ys.flatMap lbCells)[j]? = some u → w.cell? (ad.add j) = some u)
  (hb : ss.length + m ≤ 4398046511104) (hB : B ≤ w.heap.size)
  (h : ∀ v' w', OwnL B w' v' (ss ++ ys) → w.grownBy w' v.ownBlock → (v'.ownBlock = v.ownBlock ∨ v'.ownBlock = some w.heap.size) → wpList Tryz.prog ops Q rest (a.put o.dst v') w') :
  wpList Tryz.prog ops Q (o :: rest) a w := by
 obtain ⟨i0, hi, hz0, hz1, hz2⟩ := info_parts info_lb
 refine wpList_append_own_at w hgd s x 31 ho B 54 i0 (.agg #[.string ⟨#[]⟩, .string ⟨#[]⟩]) 2 32 Tryz.underlying31 hi hz0 hz1 hz2 rfl (by decide) v _ _ hs hown ad m c (ys.flatMap lbCells) hx (by rw [lbCells_length, hm]) hy ?_ ?_ ?_ hB ?_
 ·intro u hu
  obtain ⟨y, _, hu⟩ := List.mem_flatMap.1 hu
  simp [lbCells] at hu; rcases hu with rfl | rfl <;> rfl
 ·unfold maxLen; omega
 ·omega
 ·intro v' w' h1 h2 _ h4
  refine h v' w' ?_ h2 h4
  unfold OwnL
  rw [List.length_append, List.flatMap_append, hm]
  exact h1
theorem wpList_append_lb {ops : Array Oper} {rest : List Oper} {o : Oper} {a : Act} {Q : Exit → Act → World → Prop} {w : World} (hgd : o.guard = none) (s x : Operand)
  (ho : o.op = .call { callee := .builtin .append, args := #[s, x], argTypes := #[31, 31] })
  (B : Nat) (v : Value) (ss : List Lb) (hs : a.eval s = v) (hown : OwnL B w v ss) (b c : Nat) (y : Lb) (hx : a.eval x = .slice (some ⟨b, 0, none⟩) 1 c)
  (hy0 : w.cell? ⟨b, 0, none⟩ = (lbCells y)[0]?) (hy1 : w.cell? ⟨b, 1, none⟩ = (lbCells y)[1]?)
  (hb : ss.length < 4398046511104) (hB : B ≤ w.heap.size)
  (h : ∀ v' w', OwnL B w' v' (ss ++ [y]) → w.grownBy w' v.ownBlock → (v'.ownBlock = v.ownBlock ∨ v'.ownBlock = some w.heap.size) → wpList Tryz.prog ops Q rest (a.put o.dst v') w') :
  wpList Tryz.prog ops Q (o :: rest) a w := by
 refine wpList_append_lbs hgd s x ho B v ss hs hown ⟨b, 0, none⟩ 1 c [y] rfl hx ?_ (by omega) hB h
 intro j u hj
 match j, hj with
 | 0, hj => simp [lbCells] at hj; subst hj; exact hy0
 | 1, hj => simp [lbCells] at hj; subst hj; exact hy1
theorem make_lb (B : Nat) (w : World) (n : Nat) (hn : n ≤ 8796093022208) (hB : B ≤ w.heap.size) : ∃ w', (Instr.makeSlice 31 (.int .i64 0) (.int .i64 (n : Int))).run Tryz.prog w = .ok (.slice (some ⟨w.heap.size, 0, none⟩) 0 n) w' ∧ OwnL B w' (.slice (some ⟨w.heap.size, 0, none⟩) 0 n) [] ∧ Below w.heap.size w w' := by
 obtain ⟨i0, hi, hz0, hz1, hz2⟩ := info_parts info_lb
 obtain ⟨w', h1, h2, h3⟩ := run_make_own (P := Tryz.prog) w B 31 54 i0 (.agg #[.string ⟨#[]⟩, .string ⟨#[]⟩]) 2 Tryz.underlying31 hi hz0 hz1 .i64 .i64 n (by rw [hz2]; omega) (by unfold maxLen; omega) hB
 exact ⟨w', h1, h2, (Below.refl _ _).grown h3 (Nat.le_refl _) fun k hk => by cases hk⟩
theorem erCells_get (ls : List Er) (i c : Nat) (hi : i < ls.length) (hc : c < 2) : (ls.flatMap erCells)[i * 2 + c]? = (erCells (erAt ls i))[c]? := by
 induction ls generalizing i with
 | nil => simp at hi
 | cons s ss ih =>
  rw [List.flatMap_cons]
  cases i with
  | zero =>
   rw [List.getElem?_append_left (by simp [erCells]; omega)]
   simp [erAt]
  | succ i =>
   rw [List.getElem?_append_right (by simp [erCells]; omega)]
   have e : (i + 1) * 2 + c - (erCells s).length = i * 2 + c := by simp [erCells]; omega
   rw [e, ih i (by simpa using hi)]
   rfl
def OwnE (B : Nat) (w : World) (v : Value) (ls : List Er) : Prop := w.ownsRow B 34 2 v ls.length (ls.flatMap erCells)
theorem ownE_nil (B : Nat) (w : World) : OwnE B w (.slice none 0 0) [] := World.ownsRow_nil _ _ _ _
theorem OwnE.drewN {B : Nat} {w : World} {v : Value} {ls : List Er} (h : OwnE B w v ls) (n : Nat) : OwnE B (w.drewN n) v ls := h
theorem OwnE.drew {B : Nat} {w : World} {v : Value} {ls : List Er} (h : OwnE B w v ls) : OwnE B w.drew v ls := h
theorem OwnE.alloc {B : Nat} {w : World} {v : Value} {ls : List Er} (h : OwnE B w v ls) (o : Obj) : OwnE B (w.alloc o) v ls := World.ownsRow.alloc h o
theorem OwnE.lt {B : Nat} {w : World} {v : Value} {ls : List Er} (h : OwnE B w v ls) : ∀ k, v.ownBlock = some k → B ≤ k ∧ k < w.heap.size := World.ownsRow.lt h
theorem OwnE.grown {B : Nat} {w0 w w' : World} {v : Value} {ss : List Er} (h : OwnE B w v ss) (hb : Below B w0 w) (hg : w.grownBy w' v.ownBlock) (hB : B ≤ w.heap.size) : Below B w0 w' :=
 hb.grown hg hB fun k hk => (World.ownsRow.lt h k hk).1
theorem OwnE.mono {B C : Nat} {w : World} {v : Value} {ls : List Er} (h : OwnE B w v ls) (hc : C ≤ B) : OwnE C w v ls := World.ownsRow.mono h hc
theorem OwnE.stay {B : Nat} {w w' : World} {v : Value} {ls : List Er} (h : OwnE B w v ls) (hb : ∀ g, v.ownBlock = some g → w'.heap[g]? = w.heap[g]?) : OwnE B w' v ls := by
 obtain ⟨h1, h2⟩ := h
 refine ⟨h1, ?_⟩
 rcases h2 with ⟨rfl, hn⟩ | ⟨g, cap, cur, rfl, hg, hbb, hn, hcap, hs, ht⟩
 ·exact .inl ⟨rfl, hn⟩
 ·exact .inr ⟨g, cap, cur, rfl, hg, by rw [hb g rfl]; exact hbb, hn, hcap, hs, ht⟩
theorem OwnE.below {B : Nat} {w w' : World} {v : Value} {ls : List Er} (h : OwnE B w v ls) (hb : Below w.heap.size w w') : OwnE B w' v ls :=
 h.stay fun g hg => hb.block g (h.lt g hg).2
theorem OwnE.cell {B : Nat} {w : World} {g n cap : Nat} {ls : List Er} (h : OwnE B w (.slice (some ⟨g, 0, none⟩) n cap) ls) {i c : Nat} (hi : i < ls.length) (hc : c < 2) : w.cell? ⟨g, 0 + i * 2 + c, none⟩ = (erCells (erAt ls i))[c]? := by
 have hn : n = ls.length := by
  obtain ⟨_, h2⟩ := h
  rcases h2 with ⟨e, _⟩ | ⟨g', cap', cur, e, _⟩
  ·cases e
  ·cases e; rfl
 subst hn
 have k0 := World.ownsRow.cellAt h (i * 2 + c) (by omega)
 rw [Nat.zero_add, k0, erCells_get ls i c hi hc]
theorem OwnE.frozen {B : Nat} {w : World} {g n cap : Nat} {ls : List Er} (h : OwnE B w (.slice (some ⟨g, 0, none⟩) n cap) ls) (j : Nat) : w.frozen? ⟨g, j, none⟩ = false := by
 have hn : n = ls.length := by
  obtain ⟨_, h2⟩ := h
  rcases h2 with ⟨e, _⟩ | ⟨g', cap', cur, e, _⟩
  ·cases e
  ·cases e; rfl
 subst hn
 exact World.ownsRow.frozenAt h _
theorem OwnE.form {B : Nat} {w : World} {v : Value} {ls : List Er} (h : OwnE B w v ls) : (v = .slice none 0 0 ∧ ls = []) ∨ ∃ g cap, v = .slice (some ⟨g, 0, none⟩) ls.length cap ∧ B ≤ g ∧ g < w.heap.size ∧ ls.length ≤ cap ∧ v.ownBlock = some g := by
 have h0 := h
 obtain ⟨h1, h2⟩ := h
 rcases h2 with ⟨rfl, hn⟩ | ⟨g, cap, cur, rfl, hg, hbb, hn, hcap, hs, ht⟩
 ·exact .inl ⟨rfl, by simpa using hn⟩
 ·exact .inr ⟨g, cap, rfl, hg, (World.ownsRow.lt h0 g rfl).2, hn, rfl⟩
theorem OwnE.kind {B : Nat} {w : World} {v : Value} {ls : List Er} (h : OwnE B w v ls) : ∀ g, v.ownBlock = some g → ∃ c fz, w.heap[g]? = some (.cells c 34 fz) := by
 obtain ⟨h1, h2⟩ := h
 rcases h2 with ⟨rfl, hn⟩ | ⟨g, cap, cur, rfl, hg, hbb, hn, hcap, hs, ht⟩
 ·intro g hg; simp [Value.ownBlock] at hg
 ·intro k hk; have : g = k := by simpa [Value.ownBlock] using hk
  subst this; exact ⟨_, _, hbb⟩
theorem info_er : (Tryz.prog.info? 34).map (fun i => (i.zero, i.size, i.bytes)) = some (some (.agg #[.slice none 0 0, .float .f64 0]), 2, 32) := by kernel_rfl
theorem wpList_append_ers {ops : Array Oper} {rest : List Oper} {o : Oper} {a : Act} {Q : Exit → Act → World → Prop} {w : World} (hgd : o.guard = none) (s x : Operand)
  (ho : o.op = .call { callee := .builtin .append, args := #[s, x], argTypes := #[22, 22] })
  (B : Nat) (v : Value) (ss : List Er) (hs : a.eval s = v) (hown : OwnE B w v ss) (ad : Addr) (m c : Nat) (ys : List Er) (hm : ys.length = m) (hx : a.eval x = .slice (some ad) m c)
  (hy : ∀ j u, (ys.flatMap erCells)[j]? = some u → w.cell? (ad.add j) = some u)
  (hb : ss.length + m ≤ 4398046511104) (hB : B ≤ w.heap.size)
  (h : ∀ v' w', OwnE B w' v' (ss ++ ys) → w.grownBy w' v.ownBlock → (v'.ownBlock = v.ownBlock ∨ v'.ownBlock = some w.heap.size) → wpList Tryz.prog ops Q rest (a.put o.dst v') w') :
  wpList Tryz.prog ops Q (o :: rest) a w := by
 obtain ⟨i0, hi, hz0, hz1, hz2⟩ := info_parts info_er
 refine wpList_append_own_at w hgd s x 22 ho B 34 i0 (.agg #[.slice none 0 0, .float .f64 0]) 2 32 Tryz.underlying22 hi hz0 hz1 hz2 rfl (by decide) v _ _ hs hown ad m c (ys.flatMap erCells) hx (by rw [erCells_length, hm]) hy ?_ ?_ ?_ hB ?_
 ·intro u hu
  obtain ⟨y, _, hu⟩ := List.mem_flatMap.1 hu
  simp [erCells] at hu; rcases hu with rfl | rfl <;> rfl
 ·unfold maxLen; omega
 ·omega
 ·intro v' w' h1 h2 _ h4
  refine h v' w' ?_ h2 h4
  unfold OwnE
  rw [List.length_append, List.flatMap_append, hm]
  exact h1
theorem wpList_append_er {ops : Array Oper} {rest : List Oper} {o : Oper} {a : Act} {Q : Exit → Act → World → Prop} {w : World} (hgd : o.guard = none) (s x : Operand)
  (ho : o.op = .call { callee := .builtin .append, args := #[s, x], argTypes := #[22, 22] })
  (B : Nat) (v : Value) (ss : List Er) (hs : a.eval s = v) (hown : OwnE B w v ss) (b c : Nat) (y : Er) (hx : a.eval x = .slice (some ⟨b, 0, none⟩) 1 c)
  (hy0 : w.cell? ⟨b, 0, none⟩ = (erCells y)[0]?) (hy1 : w.cell? ⟨b, 1, none⟩ = (erCells y)[1]?)
  (hb : ss.length < 4398046511104) (hB : B ≤ w.heap.size)
  (h : ∀ v' w', OwnE B w' v' (ss ++ [y]) → w.grownBy w' v.ownBlock → (v'.ownBlock = v.ownBlock ∨ v'.ownBlock = some w.heap.size) → wpList Tryz.prog ops Q rest (a.put o.dst v') w') :
  wpList Tryz.prog ops Q (o :: rest) a w := by
 refine wpList_append_ers hgd s x ho B v ss hs hown ⟨b, 0, none⟩ 1 c [y] rfl hx ?_ (by omega) hB h
 intro j u hj
 match j, hj with
 | 0, hj => simp [erCells] at hj; subst hj; exact hy0
 | 1, hj => simp [erCells] at hj; subst hj; exact hy1
theorem step_append_er {ops : Array Oper} {o : Oper} {a : Act} {w : World} {K : Act → World → Prop} {Q : Exit → Act → World → Prop} {F : Prop} (hgd : o.guard = none) (s x : Operand)
  (ho : o.op = .call { callee := .builtin .append, args := #[s, x], argTypes := #[22, 22] })
  (B : Nat) (v : Value) (ss : List Er) (hs : a.eval s = v) (hown : OwnE B w v ss) (b c : Nat) (y : Er) (hx : a.eval x = .slice (some ⟨b, 0, none⟩) 1 c)
  (hy0 : w.cell? ⟨b, 0, none⟩ = (erCells y)[0]?) (hy1 : w.cell? ⟨b, 1, none⟩ = (erCells y)[1]?)
  (hb : ss.length < 4398046511104) (hB : B ≤ w.heap.size)
  (h : ∀ g cap w', OwnE B w' (.slice (some ⟨g, 0, none⟩) (ss.length + 1) cap) (ss ++ [y]) → w.grownBy w' v.ownBlock → K (a.put o.dst (.slice (some ⟨g, 0, none⟩) (ss.length + 1) cap)) w') :
  if Region.wanted o (yielded ops a.tmps) = true then Oper.wp Tryz.prog o a w K Q else F := by
 obtain ⟨i0, hi, hz0, hz1, hz2⟩ := info_parts info_er
 refine step_append_lies w hgd s x 22 ho B 34 i0 (.agg #[.slice none 0 0, .float .f64 0]) 2 32 Tryz.underlying22 hi hz0 hz1 hz2 rfl (by decide) v _ _ hs hown ⟨b, 0, none⟩ 1 c (erCells y) hx rfl ?_ ?_ (by decide) ?_ ?_ hB w.heap.size rfl ?_
 ·intro j u hj
  match j, hj with
  | 0, hj => simp [erCells] at hj; subst hj; exact hy0
  | 1, hj => simp [erCells] at hj; subst hj; exact hy1
 ·intro u hu; simp [erCells] at hu; rcases hu with rfl | rfl <;> rfl
 ·unfold maxLen; omega
 ·omega
 ·intro g cap w' h1 h2 _ h4
  refine h g cap w' ?_ h2
  unfold OwnE
  rw [List.length_append, List.flatMap_append]
  simpa using h1
theorem make_er (B : Nat) (w : World) (n : Nat) (hn : n ≤ 8796093022208) (hB : B ≤ w.heap.size) : ∃ w', (Instr.makeSlice 22 (.int .i64 0) (.int .i64 (n : Int))).run Tryz.prog w = .ok (.slice (some ⟨w.heap.size, 0, none⟩) 0 n) w' ∧ OwnE B w' (.slice (some ⟨w.heap.size, 0, none⟩) 0 n) [] ∧ Below w.heap.size w w' := by
 obtain ⟨i0, hi, hz0, hz1, hz2⟩ := info_parts info_er
 obtain ⟨w', h1, h2, h3⟩ := run_make_own (P := Tryz.prog) w B 22 34 i0 (.agg #[.slice none 0 0, .float .f64 0]) 2 Tryz.underlying22 hi hz0 hz1 .i64 .i64 n (by rw [hz2]; omega) (by unfold maxLen; omega) hB
 exact ⟨w', h1, h2, (Below.refl _ _).grown h3 (Nat.le_refl _) fun k hk => by cases hk⟩
theorem OwnL.row {B : Nat} {w : World} {v : Value} {ls : List Lb} (h : OwnL B w v ls) (hs : SmallL ls) (hn : ls.length ≤ 4398046511104) : ∃ a cap, v = .slice a ls.length cap ∧ SlK a ls.length cap ∧ LRow w a ls.length ls := by
 rcases h.form with ⟨rfl, rfl⟩ | ⟨g, cap, rfl, hg, hlt, hc, _⟩
 ·exact ⟨none, 0, rfl, ⟨by simp, fun _ => rfl⟩, LRow.nothing _⟩
 ·refine ⟨_, _, rfl, ⟨hc, fun h => by cases h⟩, rfl, by omega, hs, fun _ => ⟨g, 0, rfl, hlt, fun i hi => ⟨?_, ?_⟩⟩⟩
  ·have := h.cell hi (c := 0) (by omega); rw [Nat.add_zero] at this; exact this
  ·exact h.cell hi (c := 1) (by omega)
def ErOk (w : World) (e : Er) : Prop := LRow w e.a e.n e.ls ∧ SlK e.a e.n e.c ∧ e.n ≤ 4398046511104
theorem ErOk.below {w w' : World} {e : Er} (h : ErOk w e) (hb : Below w.heap.size w w') : ErOk w' e := ⟨h.1.below hb, h.2⟩
def ErOwn (B : Nat) (w : World) (e : Er) : Prop := OwnL B w (.slice e.a e.n e.c) e.ls ∧ SmallL e.ls ∧ e.ls.length ≤ 4398046511104 ∧ e.ls.length = e.n
theorem ErOwn.ok {B : Nat} {w : World} {e : Er} (h : ErOwn B w e) : ErOk w e := by
 obtain ⟨h1, h2, h3, h4⟩ := h
 obtain ⟨a, cap, hv, hs, hr⟩ := h1.row h2 h3
 injection hv with e1 e2 e3
 refine ⟨?_, ?_, by omega⟩
 ·rw [e1, ← h4]; exact hr
 ·rw [e1, e3, ← h4]; exact hs
def ERow (w : World) (a : Option Addr) (n : Nat) (es : List Er) : Prop :=
 es.length = n ∧ n ≤ 4398046511104 ∧ (∀ e ∈ es, ErOk w e) ∧
 (0 < n → ∃ b off, a = some ⟨b, off, none⟩ ∧ b < w.heap.size ∧ ∀ i, i < n → w.cell? ⟨b, off + i * 2, none⟩ = some (.slice (erAt es i).a (erAt es i).n (erAt es i).c) ∧ w.cell? ⟨b, off + i * 2 + 1, none⟩ = some (.float .f64 (erAt es i).f))
theorem ERow.below {w w' : World} {a : Option Addr} {n : Nat} {es : List Er} (h : ERow w a n es) (hb : Below w.heap.size w w') : ERow w' a n es := by
 obtain ⟨h1, h2, h3, h4⟩ := h
 refine ⟨h1, h2, fun e he => (h3 e he).below hb, fun hn => ?_⟩
 obtain ⟨b, off, ha, hlt, hc⟩ := h4 hn
 refine ⟨b, off, ha, Nat.lt_of_lt_of_le hlt hb.size, fun i hi => ?_⟩
 obtain ⟨c0, c1⟩ := hc i hi
 rw [hb.cell (p := ⟨b, off + i * 2, none⟩) hlt, hb.cell (p := ⟨b, off + i * 2 + 1, none⟩) hlt]
 exact ⟨c0, c1⟩
theorem ERow.nothing {w : World} (a : Option Addr) : ERow w a 0 [] := ⟨rfl, by omega, (fun e he => absurd he List.not_mem_nil), fun h => absurd h (by omega)⟩
theorem erAt_drop (xs : List Er) (k i : Nat) : erAt (xs.drop k) i = erAt xs (k + i) := by simp [erAt, List.getD]
theorem erAt_take (xs : List Er) {k i : Nat} (h : i < k) : erAt (xs.take k) i = erAt xs i := by simp [erAt, List.getD, h]
theorem ERow.take {w : World} {a : Option Addr} {n : Nat} {xs : List Er} (h : ERow w a n xs) {k : Nat} (hk : k ≤ n) : ERow w a k (xs.take k) := by
 obtain ⟨h1, h2, h3, h4⟩ := h
 refine ⟨by simp; omega, by omega, fun e he => h3 e (List.mem_of_mem_take he), fun h0 => ?_⟩
 obtain ⟨b, off, ha, hlt, hc⟩ := h4 (by omega)
 exact ⟨b, off, ha, hlt, fun i hi => by rw [erAt_take xs hi]; exact hc i (by omega)⟩
theorem ERow.drop {w : World} {b off n : Nat} {xs : List Er} (h : ERow w (some ⟨b, off, none⟩) n xs) {k : Nat} (hk : k ≤ n) : ERow w (some ⟨b, off + k * 2, none⟩) (n - k) (xs.drop k) := by
 obtain ⟨h1, h2, h3, h4⟩ := h
 refine ⟨by simp; omega, by omega, fun e he => h3 e (List.mem_of_mem_drop he), fun h0 => ?_⟩
 obtain ⟨b', off', ha, hlt, hc⟩ := h4 (by omega)
 cases ha
 refine ⟨_, _, rfl, hlt, fun i hi => ?_⟩
 rw [erAt_drop]
 have := hc (k + i) (by omega)
 rw [show off + k * 2 + i * 2 = off + (k + i) * 2 by omega]
 exact this
theorem ERow.flat {w : World} {b off n : Nat} {es : List Er} (h : ERow w (some ⟨b, off, none⟩) n es) (hn : 0 < n) : ∀ j u, (es.flatMap erCells)[j]? = some u → w.cell? ((⟨b, off, none⟩ : Addr).add j) = some u := by
 obtain ⟨h1, h2, h3, h4⟩ := h
 obtain ⟨b', off', ha, hlt, hc⟩ := h4 hn
 cases ha
 intro j u hu
 have hj : j < es.length * 2 := by
  rw [← erCells_length]
  rcases Nat.lt_or_ge j (es.flatMap erCells).length with g | g
  ·exact g
  ·rw [List.getElem?_eq_none g] at hu; cases hu
 have hd : j = (j / 2) * 2 + j % 2 := by omega
 rw [hd, erCells_get es (j / 2) (j % 2) (by omega) (by omega)] at hu
 rw [hd]
 obtain ⟨c0, c1⟩ := hc (j / 2) (by omega)
 have hadd : ∀ x, (⟨b, off, none⟩ : Addr).add x = ⟨b, off + x, none⟩ := fun x => Addr.add_lit ..
 rw [hadd]
 rcases (by omega : j % 2 = 0 ∨ j % 2 = 1) with g | g
 ·rw [g] at hu ⊢
  simp [erCells] at hu; subst hu
  rw [Nat.add_zero]; exact c0
 ·rw [g] at hu ⊢
  simp [erCells] at hu; subst hu
  rw [← Nat.add_assoc]; exact c1
theorem LRow.flat {w : World} {b off n : Nat} {ls : List Lb} (h : LRow w (some ⟨b, off, none⟩) n ls) (hn : 0 < n) : ∀ j u, (ls.flatMap lbCells)[j]? = some u → w.cell? ((⟨b, off, none⟩ : Addr).add j) = some u := by
 obtain ⟨h1, h2, h3, h4⟩ := h
 obtain ⟨b', off', ha, hlt, hc⟩ := h4 hn
 cases ha
 intro j u hu
 have hj : j < ls.length * 2 := by
  rw [← lbCells_length]
  rcases Nat.lt_or_ge j (ls.flatMap lbCells).length with g | g
  ·exact g
  ·rw [List.getElem?_eq_none g] at hu; cases hu
 have hd : j = (j / 2) * 2 + j % 2 := by omega
 rw [hd, lbCells_get ls (j / 2) (j % 2) (by omega) (by omega)] at hu
 rw [hd]
 obtain ⟨c0, c1⟩ := hc (j / 2) (by omega)
 have hadd : ∀ x, (⟨b, off, none⟩ : Addr).add x = ⟨b, off + x, none⟩ := fun x => Addr.add_lit ..
 rw [hadd]
 rcases (by omega : j % 2 = 0 ∨ j % 2 = 1) with g | g
 ·rw [g] at hu ⊢
  simp [lbCells] at hu; subst hu
  rw [Nat.add_zero]; exact c0
 ·rw [g] at hu ⊢
  simp [lbCells] at hu; subst hu
  rw [← Nat.add_assoc]; exact c1
theorem OwnE.row {B : Nat} {w : World} {v : Value} {es : List Er} (h : OwnE B w v es) (hs : ∀ e ∈ es, ErOk w e) (hn : es.length ≤ 4398046511104) : ∃ a cap, v = .slice a es.length cap ∧ SlK a es.length cap ∧ ERow w a es.length es := by
 rcases h.form with ⟨rfl, rfl⟩ | ⟨g, cap, rfl, hg, hlt, hc, _⟩
 ·exact ⟨none, 0, rfl, ⟨by simp, fun _ => rfl⟩, ERow.nothing _⟩
 ·refine ⟨_, _, rfl, ⟨hc, fun h => by cases h⟩, rfl, hn, hs, fun _ => ⟨g, 0, rfl, hlt, fun i hi => ⟨?_, ?_⟩⟩⟩
  ·have := h.cell hi (c := 0) (by omega); rw [Nat.add_zero] at this; exact this
  ·exact h.cell hi (c := 1) (by omega)
theorem own_apart {B C : Nat} {w : World} {v u : Value} {es : List Er} {ls : List Lb} (h : OwnE B w v es) (h2 : OwnL C w u ls) : ∀ g, v.ownBlock = some g → u.ownBlock ≠ some g := by
 intro g hg hu
 obtain ⟨c, fz, e1⟩ := h.kind g hg
 obtain ⟨c2, fz2, e2⟩ := h2.kind g hu
 rw [e1] at e2
 injection e2 with e2
 injection e2 with _ e2 _
 exact absurd e2 (by decide)
theorem ErOwn.grown {B C : Nat} {w w' : World} {v : Value} {es : List Er} {e : Er} (h : ErOwn C w e) (hv : OwnE B w v es) (hg : w.grownBy w' v.ownBlock) : ErOwn C w' e :=
 ⟨World.ownsRow.kept h.1 hg (by
  cases hb : v.ownBlock with
  | none =>
   cases hu : (Value.slice e.a e.n e.c).ownBlock with
   | none => exact .inl rfl
   | some k => exact .inr (fun g => by cases g)
  | some g => exact .inr (own_apart hv h.1 g hb)), h.2⟩
theorem ErOwn.below {C : Nat} {w w' : World} {e : Er} (h : ErOwn C w e) (hb : Below w.heap.size w w') : ErOwn C w' e := ⟨h.1.below hb, h.2⟩
theorem ErOwn.kept {B C : Nat} {w w' : World} {g n cap : Nat} {es : List Er} {e : Er} (h : ErOwn C w e) (hv : OwnE B w (.slice (some ⟨g, 0, none⟩) n cap) es) (hk : Go.Stab.KeptButF g w w') : ErOwn C w' e :=
 ⟨h.1.stay fun b hb => hk.block b (fun e' => own_apart hv h.1 g rfl (by rw [hb, e'])) (h.1.lt b hb).2, h.2⟩
end Go.Proofs.YtmmfjknnbkcniaaGreatDoor
namespace Go.Fl
def sansL (N : ByteArray) (ls : List Lb) : List Lb := ls.filter fun l => !(l.n.toList == N.toList)
theorem sansL_snoc (N : ByteArray) (ls : List Lb) {k : Nat} (h : k < ls.length) : sansL N (ls.take (k + 1)) = if (nL ls k).toList == N.toList then sansL N (ls.take k) else sansL N (ls.take k) ++ [⟨nL ls k, vL ls k⟩] := by
 unfold sansL nL vL
 rw [List.take_add_one, List.getElem?_eq_getElem h, List.filter_append, lbAt_get h]
 by_cases e : ls[k].n.toList == N.toList
 ·rw [if_pos e]; simp [e]
 ·rw [if_neg e]; simp [e]
theorem small_sub {ls ms : List Lb} (h : SmallL ls) (hs : ∀ l ∈ ms, l ∈ ls) : SmallL ms := by
 intro i
 by_cases hi : i < ms.length
 ·have hm := hs _ (List.getElem_mem hi)
  obtain ⟨j, hj, e⟩ := List.getElem_of_mem hm
  have := h j
  unfold nL vL at this ⊢
  rw [lbAt_get hi, ← e, ← lbAt_get hj]; exact this
 ·have e : lbAt ms i = default := by simp [lbAt, List.getD, List.getElem?_eq_none (by omega : ms.length ≤ i)]
  unfold nL vL; rw [e]
  exact ⟨by unfold SmallT; decide, by unfold SmallT; decide⟩
theorem sansL_small (N : ByteArray) {ls : List Lb} (h : SmallL ls) : SmallL (sansL N ls) := small_sub h fun _ hl => (List.mem_filter.1 hl).1
theorem sansL_length (N : ByteArray) (ls : List Lb) : (sansL N ls).length ≤ ls.length := List.length_filter_le ..
end Go.Fl
namespace Go.Proofs.YtmmfjknnbkcniaaGreatDoor
open Go.Fl Go.Rel Go.RowKit Go.Sort
set_option linter.unusedSimpArgs false
set_option linter.unusedVariables false
def NewL (ls : List Lb) (w : World) (e : Ending) (w' : World) : Prop := ∃ v, e = .returned v ∧ OwnL w.heap.size w' v ls ∧ Below w.heap.size w w'
def WithRel (N : ByteArray) (ls : List Lb) (w : World) (v7 v8 v19 : Value) (wr : World) : Prop :=
 ∃ k : Nat, v19 = .int .i64 (k : Int) ∧ v8 = .bool true ∧ k ≤ ls.length ∧ OwnL w.heap.size wr v7 (sansL N (ls.take k)) ∧ Below w.heap.size w wr
theorem with_none (a : Option Addr) (n cap : Nat) (ls : List Lb) (N : ByteArray) (w : World) (hr : LRow w a n ls) (hn : n ≤ 4398046511104) :
  Calls Tryz.prog 20 #[.slice a n cap, .string N, .string ⟨#[]⟩] w (NewL (sansL N ls) w) := by
 have HR := qh hr
 have hl := hr.1
 have n0 : (0 : Int) ≤ (n : Int) := by omega
 have n1 : (n : Int) ≤ 4398046511104 := by omega
 have kw : IntKind.i64.wrap ((n : Int) + 1) = (n : Int) + 1 := by rw [IntKind.wrap_i64]; omega
 obtain ⟨W0, hmk, own0, bel0⟩ := make_lb w.heap.size w (n + 1) (by omega) (Nat.le_refl _)
 rw [Int.natCast_add, Int.natCast_one] at hmk
 have OW := qh own0
 have BW := qh bel0
 clear hr own0 bel0
 go_enter Tryz.func20, Tryz.ntmps20
 go_wp2_with fail
 go_loopw [7, 8, 19] (WithRel N ls w) (fun _ _ v _ => n - (intOf v).toNat)
 case atStart => exact ⟨0, rfl, rfl, by omega, OW.out, BW.out⟩
 case round =>
  obtain ⟨k, rfl, rfl, hk, own, bel⟩ := hrel
  have hrw := HR.out.below bel
  have HO := qh own
  have HB := qh bel
  clear own bel
  by_cases hlt : k < n
  ·have dl : decide ((k : Int) < (n : Int)) = true := decide_eq_true (by omega)
   obtain ⟨b, off, rfl, hb, hc⟩ := hrw.2.2.2 (by omega)
   obtain ⟨x0, x1⟩ := hc k hlt
   have k1 : (0 : Int) ≤ (k : Int) := by omega
   have k2 : (k : Int) < (n : Int) := by omega
   have HE := qh (sansL_snoc N ls (by omega : k < ls.length))
   have HL : Hid ((sansL N (ls.take k)).length ≤ k) := qh (Nat.le_trans (sansL_length _ _) (by simp; omega))
   clear hc hrw
   generalize nL ls k = xn at *
   generalize vL ls k = xv at *
   cases he : (xn.toList == N.toList)
   ·rw [he] at HE
    go_wp2_with (at_builtin; refine wpList_append_lb rfl (.tmp 41) (.tmp 43) rfl w.heap.size _ _ rfl ((HO.out.alloc _).alloc _) (wr.heap.size + 1) _ ⟨xn, xv⟩ rfl (by rw [World.cell?_alloc_at _ _ _ _ (by simp)]; rfl) (by rw [World.cell?_alloc_at _ _ _ _ (by simp)]; rfl) (by have := HL.out; omega) (by have := HB.out.size; simp; omega) ?_; intro v' w' own' gb hv; have HO2 := qh own'; have HB2 := qh (((HO.out.alloc _).alloc _).grown ((HB.out.alloc HB.out.size _).alloc (by have := HB.out.size; simp; omega) _) gb (by have := HB.out.size; simp; omega)); clear own' gb hv)
    go_roundw
    case rel => exact ⟨k + 1, by first | rfl | (congr 1; omega), rfl, by omega, by rw [HE.out]; exact HO2.out, HB2.out⟩
    case measure => simp [intOf]; omega
   ·rw [he] at HE
    go_wp2_with fail
    go_roundw
    case rel => exact ⟨k + 1, by first | rfl | (congr 1; omega), rfl, by omega, by rw [HE.out]; exact HO.out.alloc _, HB.out.alloc (HB.out.size) _⟩
    case measure => simp [intOf]; omega
  ·have hkn : ¬ (k : Int) < (n : Int) := by omega
   have HE : Hid (sansL N (ls.take k) = sansL N ls) := qh (by rw [List.take_of_length_le (by omega)])
   clear hrw
   go_wp2_with fail
   go_ret
   exact ⟨_, rfl, by rw [← HE.out]; exact HO.out, HB.out⟩
theorem rwith_none (a : Option Addr) (n cap : Nat) (ls : List Lb) (N : ByteArray) (w : World) (hr : LRow w a n ls) (hn : n ≤ 4398046511104) :
  Calls Tryz.prog 100 #[.slice a n cap, .string N, .string ⟨#[]⟩] w (NewL (sansL N ls) w) := by
 have HR := qh hr
 have hl := hr.1
 have n0 : (0 : Int) ≤ (n : Int) := by omega
 have n1 : (n : Int) ≤ 4398046511104 := by omega
 clear hr
 go_enter Tryz.func100, Tryz.ntmps100
 go_wp2_with fail
 go_loopw [7, 8, 9] (WithRel N ls w) (fun _ _ v _ => n - (intOf v).toNat)
 case atStart => exact ⟨0, rfl, rfl, by omega, ownL_nil _ _, Below.refl _ _⟩
 case round =>
  obtain ⟨k, rfl, rfl, hk, own, bel⟩ := hrel
  have hrw := HR.out.below bel
  have HO := qh own
  have HB := qh bel
  clear own bel
  by_cases hlt : k < n
  ·obtain ⟨b, off, rfl, hb, hc⟩ := hrw.2.2.2 (by omega)
   obtain ⟨x0, x1⟩ := hc k hlt
   have k1 : (0 : Int) ≤ (k : Int) := by omega
   have k2 : (k : Int) < (n : Int) := by omega
   have HE := qh (sansL_snoc N ls (by omega : k < ls.length))
   have HL : Hid ((sansL N (ls.take k)).length ≤ k) := qh (Nat.le_trans (sansL_length _ _) (by simp; omega))
   clear hc hrw
   generalize nL ls k = xn at *
   generalize vL ls k = xv at *
   cases he : (xn.toList == N.toList)
   ·rw [he] at HE
    go_wp2_with (at_builtin; refine wpList_append_lb rfl (.tmp 42) (.tmp 47) rfl w.heap.size _ _ rfl (HO.out.alloc _) wr.heap.size _ ⟨xn, xv⟩ rfl (by rw [World.cell?_alloc_at _ _ _ _ (by simp)]; rfl) (by rw [World.cell?_alloc_at _ _ _ _ (by simp)]; rfl) (by have := HL.out; omega) (by have := HB.out.size; simp; omega) ?_; intro v' w' own' gb hv; have HO2 := qh own'; have HB2 := qh ((HO.out.alloc _).grown (HB.out.alloc HB.out.size _) gb (by have := HB.out.size; simp; omega)); clear own' gb hv)
    go_roundw
    case rel => exact ⟨k + 1, by first | rfl | (congr 1; omega), rfl, by omega, by rw [HE.out]; exact HO2.out, HB2.out⟩
    case measure => simp [intOf]; omega
   ·rw [he] at HE
    go_wp2_with fail
    go_roundw
    case rel => exact ⟨k + 1, by first | rfl | (congr 1; omega), rfl, by omega, by rw [HE.out]; exact HO.out, HB.out⟩
    case measure => simp [intOf]; omega
  ·have hkn : ¬ (k : Int) < (n : Int) := by omega
   have HE : Hid (sansL N (ls.take k) = sansL N ls) := qh (by rw [List.take_of_length_le (by omega)])
   clear hrw
   go_wp2_with fail
   go_ret
   exact ⟨_, rfl, by rw [← HE.out]; exact HO.out, HB.out⟩
theorem empty_lb (w : World) (B : Nat) (hB : B ≤ w.heap.size) : OwnL B (w.alloc (.cells #[] 54)) (.slice (some ⟨w.heap.size, 0, none⟩) 0 0) [] := by
 exact World.ownsRow_made w #[] 0 hB (by unfold maxLen; omega) rfl
theorem clone_any (a : Option Addr) (n cap : Nat) (ls : List Lb) (w : World) (hr : LRow w a n ls) (hk : SlK a n cap) (hn : n ≤ 4398046511104) :
  Calls Tryz.prog 37 #[.slice a n cap] w (NewL ls w) := by
 have hl := hr.1
 cases a with
 | none =>
  have hc := hk.2 rfl
  have hn0 : n = 0 := by have := hk.1; omega
  subst hn0
  obtain rfl : ls = [] := by simpa using hl
  subst hc
  have he : ∀ w : World, (binOp .eql 31 (.slice none 0 0) (.slice none 0 0)).run Tryz.prog w = .ok (.bool true) w := fun _ => rfl
  clear hr hk
  go_enter Tryz.func37, Tryz.ntmps37
  go_wp2_with fail
  go_ret
  exact ⟨_, rfl, ownL_nil _ _, Below.refl _ _⟩
 | some ad =>
  have HR := qh hr
  clear hr hk
  have he : ∀ w : World, (binOp .eql 31 (.slice (some ad) n cap) (.slice none 0 0)).run Tryz.prog w = .ok (.bool false) w := fun _ => rfl
  have HO := qh (empty_lb w w.heap.size (Nat.le_refl _))
  have HF : Hid (∀ j u, (ls.flatMap lbCells)[j]? = some u → (w.alloc (.cells #[] 54)).cell? (ad.add j) = some u) := qh fun j u hu => by
   by_cases h0 : 0 < n
   ·have hr2 := HR.out.below ((Below.refl _ w).alloc (Nat.le_refl _) (.cells #[] 54))
    obtain ⟨b, off, ha, _⟩ := hr2.2.2.2 h0
    cases ha
    exact hr2.flat h0 j u hu
   ·have : ls = [] := List.length_eq_zero_iff.1 (by omega)
    subst this; simp at hu
  go_enter Tryz.func37, Tryz.ntmps37
  go_wp2_with (at_builtin; refine wpList_append_lbs rfl (.tmp 5) (.tmp 6) rfl w.heap.size _ _ rfl HO.out ad n cap ls hl rfl HF.out (by simp; omega) (by simp) ?_; intro v' w' own' gb hv; have HO2 := qh own'; have HB2 := qh (HO.out.grown ((Below.refl _ _).alloc (Nat.le_refl _) _) gb (by simp)); clear own' gb hv)
  go_ret
  exact ⟨_, rfl, HO2.out, HB2.out⟩
end Go.Proofs.YtmmfjknnbkcniaaGreatDoor
