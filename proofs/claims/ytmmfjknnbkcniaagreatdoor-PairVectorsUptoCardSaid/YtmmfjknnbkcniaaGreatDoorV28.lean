/- What pair's and weirref21's small functions answer, for any operator. (Printed by tools/genlbk.py.) pair.worked and weirref21.one: what becomes of one element. -/
import Derived.Test.YtmmfjknnbkcniaaGreatDoorV22
import Derived.Test.YtmmfjknnbkcniaaGreatDoorV27
import Derived.Laws.ResultCell
import Derived.Test.YtmmfjknnbkcniaaGreatDoorV10
set_option maxHeartbeats 64000000
set_option maxRecDepth 100000
namespace Go.Fl
def MN : ByteArray := ⟨#[95, 95, 110, 97, 109, 101, 95, 95]⟩
def clK (k : Ek) : Ek := (k.1, cn k.2)
theorem clK_sort (ks : List Ek) : (sortK ks).map clK = sortK (ks.map clK) := by
 unfold sortK
 exact List.map_mergeSort fun a _ b _ => rfl
theorem clK_dup (ks : List Ek) : noDup (ks.map clK) = noDup ks := by
 unfold noDup
 rw [List.length_map]
 congr 1
 funext i
 have h : ∀ i, (kAt (ks.map clK) i).1 = (kAt ks i).1 := fun i => by
  unfold kAt
  simp only [List.getD, List.getElem?_map]
  cases ks[i]? <;> rfl
 rw [h, h]
end Go.Fl
namespace Go.Proofs.YtmmfjknnbkcniaaGreatDoor
open Go.Fl Go.Rel Go.RowKit
set_option linter.unusedSimpArgs false
set_option linter.unusedVariables false
theorem clK_vec (ks : List Ek) : (vecK ks).map (List.map clK) = vecK (ks.map clK) := by
 unfold vecK
 rw [← clK_sort, clK_dup, List.all_map, show (validK ∘ clK) = validK from rfl]
 split <;> rfl
theorem reck_any (u : ByteArray) (a b : Nat) (w : World) (ha : W64 a) (hb : W64 b) (hk : opK u.toList < 6) : Calls Tryz.prog 33 #[.string u, .float .f64 a, .float .f64 b] w fun e w' => ∃ r n, e = .returned (.tuple #[.float .f64 r, .bool true]) ∧ cn r = valS (opK u.toList) a b ∧ w' = w.drewN n := by
 cases t0 : (u.toList == [43])
 case true => have hu := beq_iff_eq.1 t0; have ho : opK u.toList = 0 := by rw [hu, opK_0]
              try rw [ho] at hk
              try rw [ho] at hk2
              try rw [ho]
              exact reck_0 u a b w ha hb hu
 cases t1 : (u.toList == [45])
 case true => have hu := beq_iff_eq.1 t1; have ho : opK u.toList = 1 := by rw [hu, opK_1]
              try rw [ho] at hk
              try rw [ho] at hk2
              try rw [ho]
              exact reck_1 u a b w ha hb hu
 cases t2 : (u.toList == [42])
 case true => have hu := beq_iff_eq.1 t2; have ho : opK u.toList = 2 := by rw [hu, opK_2]
              try rw [ho] at hk
              try rw [ho] at hk2
              try rw [ho]
              exact reck_2 u a b w ha hb hu
 cases t3 : (u.toList == [47])
 case true => have hu := beq_iff_eq.1 t3; have ho : opK u.toList = 3 := by rw [hu, opK_3]
              try rw [ho] at hk
              try rw [ho] at hk2
              try rw [ho]
              exact reck_3 u a b w ha hb hu
 cases t4 : (u.toList == [37])
 case true => have hu := beq_iff_eq.1 t4; have ho : opK u.toList = 4 := by rw [hu, opK_4]
              try rw [ho] at hk
              try rw [ho] at hk2
              try rw [ho]
              exact reck_4 u a b w ha hb hu
 cases t5 : (u.toList == [94])
 case true => have hu := beq_iff_eq.1 t5; have ho : opK u.toList = 5 := by rw [hu, opK_5]
              try rw [ho] at hk
              try rw [ho] at hk2
              try rw [ho]
              exact reck_5 u a b w ha hb hu
 cases t6 : (u.toList == [61, 61])
 case true => have hu := beq_iff_eq.1 t6; have ho : opK u.toList = 6 := by rw [hu, opK_6]
              try rw [ho] at hk
              try rw [ho] at hk2
              try rw [ho]
              omega
 cases t7 : (u.toList == [33, 61])
 case true => have hu := beq_iff_eq.1 t7; have ho : opK u.toList = 7 := by rw [hu, opK_7]
              try rw [ho] at hk
              try rw [ho] at hk2
              try rw [ho]
              omega
 cases t8 : (u.toList == [60])
 case true => have hu := beq_iff_eq.1 t8; have ho : opK u.toList = 8 := by rw [hu, opK_8]
              try rw [ho] at hk
              try rw [ho] at hk2
              try rw [ho]
              omega
 cases t9 : (u.toList == [60, 61])
 case true => have hu := beq_iff_eq.1 t9; have ho : opK u.toList = 9 := by rw [hu, opK_9]
              try rw [ho] at hk
              try rw [ho] at hk2
              try rw [ho]
              omega
 cases t10 : (u.toList == [62])
 case true => have hu := beq_iff_eq.1 t10; have ho : opK u.toList = 10 := by rw [hu, opK_10]
              try rw [ho] at hk
              try rw [ho] at hk2
              try rw [ho]
              omega
 cases t11 : (u.toList == [62, 61])
 case true => have hu := beq_iff_eq.1 t11; have ho : opK u.toList = 11 := by rw [hu, opK_11]
              try rw [ho] at hk
              try rw [ho] at hk2
              try rw [ho]
              omega
 have ho := opK_none t0 t1 t2 t3 t4 t5 t6 t7 t8 t9 t10 t11
 try rw [ho] at hk
 try rw [ho] at hk2
 try rw [ho]
 omega
theorem reckN_any (u : ByteArray) (a b : Nat) (w : World) (hk : ¬ opK u.toList < 6) : Calls Tryz.prog 33 #[.string u, .float .f64 a, .float .f64 b] w fun e w' => e = .returned (.tuple #[.float .f64 0, .bool false]) ∧ w = w' := by
 cases t0 : (u.toList == [43])
 case true => have hu := beq_iff_eq.1 t0; have ho : opK u.toList = 0 := by rw [hu, opK_0]
              try rw [ho] at hk
              try rw [ho] at hk2
              try rw [ho]
              omega
 cases t1 : (u.toList == [45])
 case true => have hu := beq_iff_eq.1 t1; have ho : opK u.toList = 1 := by rw [hu, opK_1]
              try rw [ho] at hk
              try rw [ho] at hk2
              try rw [ho]
              omega
 cases t2 : (u.toList == [42])
 case true => have hu := beq_iff_eq.1 t2; have ho : opK u.toList = 2 := by rw [hu, opK_2]
              try rw [ho] at hk
              try rw [ho] at hk2
              try rw [ho]
              omega
 cases t3 : (u.toList == [47])
 case true => have hu := beq_iff_eq.1 t3; have ho : opK u.toList = 3 := by rw [hu, opK_3]
              try rw [ho] at hk
              try rw [ho] at hk2
              try rw [ho]
              omega
 cases t4 : (u.toList == [37])
 case true => have hu := beq_iff_eq.1 t4; have ho : opK u.toList = 4 := by rw [hu, opK_4]
              try rw [ho] at hk
              try rw [ho] at hk2
              try rw [ho]
              omega
 cases t5 : (u.toList == [94])
 case true => have hu := beq_iff_eq.1 t5; have ho : opK u.toList = 5 := by rw [hu, opK_5]
              try rw [ho] at hk
              try rw [ho] at hk2
              try rw [ho]
              omega
 cases t6 : (u.toList == [61, 61])
 case true => have hu := beq_iff_eq.1 t6; have ho : opK u.toList = 6 := by rw [hu, opK_6]
              try rw [ho] at hk
              try rw [ho] at hk2
              try rw [ho]
              exact reck_none u a b w t0 t1 t2 t3 t4 t5
 cases t7 : (u.toList == [33, 61])
 case true => have hu := beq_iff_eq.1 t7; have ho : opK u.toList = 7 := by rw [hu, opK_7]
              try rw [ho] at hk
              try rw [ho] at hk2
              try rw [ho]
              exact reck_none u a b w t0 t1 t2 t3 t4 t5
 cases t8 : (u.toList == [60])
 case true => have hu := beq_iff_eq.1 t8; have ho : opK u.toList = 8 := by rw [hu, opK_8]
              try rw [ho] at hk
              try rw [ho] at hk2
              try rw [ho]
              exact reck_none u a b w t0 t1 t2 t3 t4 t5
 cases t9 : (u.toList == [60, 61])
 case true => have hu := beq_iff_eq.1 t9; have ho : opK u.toList = 9 := by rw [hu, opK_9]
              try rw [ho] at hk
              try rw [ho] at hk2
              try rw [ho]
              exact reck_none u a b w t0 t1 t2 t3 t4 t5
 cases t10 : (u.toList == [62])
 case true => have hu := beq_iff_eq.1 t10; have ho : opK u.toList = 10 := by rw [hu, opK_10]
              try rw [ho] at hk
              try rw [ho] at hk2
              try rw [ho]
              exact reck_none u a b w t0 t1 t2 t3 t4 t5
 cases t11 : (u.toList == [62, 61])
 case true => have hu := beq_iff_eq.1 t11; have ho : opK u.toList = 11 := by rw [hu, opK_11]
              try rw [ho] at hk
              try rw [ho] at hk2
              try rw [ho]
              exact reck_none u a b w t0 t1 t2 t3 t4 t5
 have ho := opK_none t0 t1 t2 t3 t4 t5 t6 t7 t8 t9 t10 t11
 try rw [ho] at hk
 try rw [ho] at hk2
 try rw [ho]
 exact reck_none u a b w t0 t1 t2 t3 t4 t5
theorem hold_any (u : ByteArray) (a b : Nat) (w : World) (hk : ¬ opK u.toList < 6) (hk2 : opK u.toList < 12) : Calls Tryz.prog 34 #[.string u, .float .f64 a, .float .f64 b] w fun e w' => e = .returned (.tuple #[.bool (holdsS (opK u.toList) a b), .bool true]) ∧ w = w' := by
 cases t0 : (u.toList == [43])
 case true => have hu := beq_iff_eq.1 t0; have ho : opK u.toList = 0 := by rw [hu, opK_0]
              try rw [ho] at hk
              try rw [ho] at hk2
              try rw [ho]
              omega
 cases t1 : (u.toList == [45])
 case true => have hu := beq_iff_eq.1 t1; have ho : opK u.toList = 1 := by rw [hu, opK_1]
              try rw [ho] at hk
              try rw [ho] at hk2
              try rw [ho]
              omega
 cases t2 : (u.toList == [42])
 case true => have hu := beq_iff_eq.1 t2; have ho : opK u.toList = 2 := by rw [hu, opK_2]
              try rw [ho] at hk
              try rw [ho] at hk2
              try rw [ho]
              omega
 cases t3 : (u.toList == [47])
 case true => have hu := beq_iff_eq.1 t3; have ho : opK u.toList = 3 := by rw [hu, opK_3]
              try rw [ho] at hk
              try rw [ho] at hk2
              try rw [ho]
              omega
 cases t4 : (u.toList == [37])
 case true => have hu := beq_iff_eq.1 t4; have ho : opK u.toList = 4 := by rw [hu, opK_4]
              try rw [ho] at hk
              try rw [ho] at hk2
              try rw [ho]
              omega
 cases t5 : (u.toList == [94])
 case true => have hu := beq_iff_eq.1 t5; have ho : opK u.toList = 5 := by rw [hu, opK_5]
              try rw [ho] at hk
              try rw [ho] at hk2
              try rw [ho]
              omega
 cases t6 : (u.toList == [61, 61])
 case true => have hu := beq_iff_eq.1 t6; have ho : opK u.toList = 6 := by rw [hu, opK_6]
              try rw [ho] at hk
              try rw [ho] at hk2
              try rw [ho]
              exact hold_6 u a b w hu
 cases t7 : (u.toList == [33, 61])
 case true => have hu := beq_iff_eq.1 t7; have ho : opK u.toList = 7 := by rw [hu, opK_7]
              try rw [ho] at hk
              try rw [ho] at hk2
              try rw [ho]
              exact hold_7 u a b w hu
 cases t8 : (u.toList == [60])
 case true => have hu := beq_iff_eq.1 t8; have ho : opK u.toList = 8 := by rw [hu, opK_8]
              try rw [ho] at hk
              try rw [ho] at hk2
              try rw [ho]
              exact hold_8 u a b w hu
 cases t9 : (u.toList == [60, 61])
 case true => have hu := beq_iff_eq.1 t9; have ho : opK u.toList = 9 := by rw [hu, opK_9]
              try rw [ho] at hk
              try rw [ho] at hk2
              try rw [ho]
              exact hold_9 u a b w hu
 cases t10 : (u.toList == [62])
 case true => have hu := beq_iff_eq.1 t10; have ho : opK u.toList = 10 := by rw [hu, opK_10]
              try rw [ho] at hk
              try rw [ho] at hk2
              try rw [ho]
              exact hold_10 u a b w hu
 cases t11 : (u.toList == [62, 61])
 case true => have hu := beq_iff_eq.1 t11; have ho : opK u.toList = 11 := by rw [hu, opK_11]
              try rw [ho] at hk
              try rw [ho] at hk2
              try rw [ho]
              exact hold_11 u a b w hu
 have ho := opK_none t0 t1 t2 t3 t4 t5 t6 t7 t8 t9 t10 t11
 try rw [ho] at hk
 try rw [ho] at hk2
 try rw [ho]
 omega
theorem holdN_any (u : ByteArray) (a b : Nat) (w : World) (hk : ¬ opK u.toList < 12) : Calls Tryz.prog 34 #[.string u, .float .f64 a, .float .f64 b] w fun e w' => e = .returned (.tuple #[.bool false, .bool false]) ∧ w = w' := by
 cases t0 : (u.toList == [43])
 case true => have hu := beq_iff_eq.1 t0; have ho : opK u.toList = 0 := by rw [hu, opK_0]
              try rw [ho] at hk
              try rw [ho] at hk2
              try rw [ho]
              omega
 cases t1 : (u.toList == [45])
 case true => have hu := beq_iff_eq.1 t1; have ho : opK u.toList = 1 := by rw [hu, opK_1]
              try rw [ho] at hk
              try rw [ho] at hk2
              try rw [ho]
              omega
 cases t2 : (u.toList == [42])
 case true => have hu := beq_iff_eq.1 t2; have ho : opK u.toList = 2 := by rw [hu, opK_2]
              try rw [ho] at hk
              try rw [ho] at hk2
              try rw [ho]
              omega
 cases t3 : (u.toList == [47])
 case true => have hu := beq_iff_eq.1 t3; have ho : opK u.toList = 3 := by rw [hu, opK_3]
              try rw [ho] at hk
              try rw [ho] at hk2
              try rw [ho]
              omega
 cases t4 : (u.toList == [37])
 case true => have hu := beq_iff_eq.1 t4; have ho : opK u.toList = 4 := by rw [hu, opK_4]
              try rw [ho] at hk
              try rw [ho] at hk2
              try rw [ho]
              omega
 cases t5 : (u.toList == [94])
 case true => have hu := beq_iff_eq.1 t5; have ho : opK u.toList = 5 := by rw [hu, opK_5]
              try rw [ho] at hk
              try rw [ho] at hk2
              try rw [ho]
              omega
 cases t6 : (u.toList == [61, 61])
 case true => have hu := beq_iff_eq.1 t6; have ho : opK u.toList = 6 := by rw [hu, opK_6]
              try rw [ho] at hk
              try rw [ho] at hk2
              try rw [ho]
              omega
 cases t7 : (u.toList == [33, 61])
 case true => have hu := beq_iff_eq.1 t7; have ho : opK u.toList = 7 := by rw [hu, opK_7]
              try rw [ho] at hk
              try rw [ho] at hk2
              try rw [ho]
              omega
 cases t8 : (u.toList == [60])
 case true => have hu := beq_iff_eq.1 t8; have ho : opK u.toList = 8 := by rw [hu, opK_8]
              try rw [ho] at hk
              try rw [ho] at hk2
              try rw [ho]
              omega
 cases t9 : (u.toList == [60, 61])
 case true => have hu := beq_iff_eq.1 t9; have ho : opK u.toList = 9 := by rw [hu, opK_9]
              try rw [ho] at hk
              try rw [ho] at hk2
              try rw [ho]
              omega
 cases t10 : (u.toList == [62])
 case true => have hu := beq_iff_eq.1 t10; have ho : opK u.toList = 10 := by rw [hu, opK_10]
              try rw [ho] at hk
              try rw [ho] at hk2
              try rw [ho]
              omega
 cases t11 : (u.toList == [62, 61])
 case true => have hu := beq_iff_eq.1 t11; have ho : opK u.toList = 11 := by rw [hu, opK_11]
              try rw [ho] at hk
              try rw [ho] at hk2
              try rw [ho]
              omega
 have ho := opK_none t0 t1 t2 t3 t4 t5 t6 t7 t8 t9 t10 t11
 try rw [ho] at hk
 try rw [ho] at hk2
 try rw [ho]
 exact hold_none u a b w t6 t7 t8 t9 t10 t11
def kindS (k : Nat) : Int := if k < 6 then 1 else 2
theorem kindY_any (u : ByteArray) (w : World) (hk : opK u.toList < 12) : Calls Tryz.prog 42 #[.string u] w fun e w' => e = .returned (.int .i64 (kindS (opK u.toList))) ∧ w = w' := by
 cases t0 : (u.toList == [43])
 case true => have hu := beq_iff_eq.1 t0; have ho : opK u.toList = 0 := by rw [hu, opK_0]
              try rw [ho] at hk
              try rw [ho] at hk2
              try rw [ho]
              exact kind_0 u w hu
 cases t1 : (u.toList == [45])
 case true => have hu := beq_iff_eq.1 t1; have ho : opK u.toList = 1 := by rw [hu, opK_1]
              try rw [ho] at hk
              try rw [ho] at hk2
              try rw [ho]
              exact kind_1 u w hu
 cases t2 : (u.toList == [42])
 case true => have hu := beq_iff_eq.1 t2; have ho : opK u.toList = 2 := by rw [hu, opK_2]
              try rw [ho] at hk
              try rw [ho] at hk2
              try rw [ho]
              exact kind_2 u w hu
 cases t3 : (u.toList == [47])
 case true => have hu := beq_iff_eq.1 t3; have ho : opK u.toList = 3 := by rw [hu, opK_3]
              try rw [ho] at hk
              try rw [ho] at hk2
              try rw [ho]
              exact kind_3 u w hu
 cases t4 : (u.toList == [37])
 case true => have hu := beq_iff_eq.1 t4; have ho : opK u.toList = 4 := by rw [hu, opK_4]
              try rw [ho] at hk
              try rw [ho] at hk2
              try rw [ho]
              exact kind_4 u w hu
 cases t5 : (u.toList == [94])
 case true => have hu := beq_iff_eq.1 t5; have ho : opK u.toList = 5 := by rw [hu, opK_5]
              try rw [ho] at hk
              try rw [ho] at hk2
              try rw [ho]
              exact kind_5 u w hu
 cases t6 : (u.toList == [61, 61])
 case true => have hu := beq_iff_eq.1 t6; have ho : opK u.toList = 6 := by rw [hu, opK_6]
              try rw [ho] at hk
              try rw [ho] at hk2
              try rw [ho]
              exact kind_6 u w hu
 cases t7 : (u.toList == [33, 61])
 case true => have hu := beq_iff_eq.1 t7; have ho : opK u.toList = 7 := by rw [hu, opK_7]
              try rw [ho] at hk
              try rw [ho] at hk2
              try rw [ho]
              exact kind_7 u w hu
 cases t8 : (u.toList == [60])
 case true => have hu := beq_iff_eq.1 t8; have ho : opK u.toList = 8 := by rw [hu, opK_8]
              try rw [ho] at hk
              try rw [ho] at hk2
              try rw [ho]
              exact kind_8 u w hu
 cases t9 : (u.toList == [60, 61])
 case true => have hu := beq_iff_eq.1 t9; have ho : opK u.toList = 9 := by rw [hu, opK_9]
              try rw [ho] at hk
              try rw [ho] at hk2
              try rw [ho]
              exact kind_9 u w hu
 cases t10 : (u.toList == [62])
 case true => have hu := beq_iff_eq.1 t10; have ho : opK u.toList = 10 := by rw [hu, opK_10]
              try rw [ho] at hk
              try rw [ho] at hk2
              try rw [ho]
              exact kind_10 u w hu
 cases t11 : (u.toList == [62, 61])
 case true => have hu := beq_iff_eq.1 t11; have ho : opK u.toList = 11 := by rw [hu, opK_11]
              try rw [ho] at hk
              try rw [ho] at hk2
              try rw [ho]
              exact kind_11 u w hu
 have ho := opK_none t0 t1 t2 t3 t4 t5 t6 t7 t8 t9 t10 t11
 try rw [ho] at hk
 try rw [ho] at hk2
 try rw [ho]
 omega
theorem rval_any (u : ByteArray) (a b : Nat) (w : World) (ha : W64 a) (hb : W64 b) (hk : opK u.toList < 6) : Calls Tryz.prog 65 #[.string u, .float .f64 a, .float .f64 b] w (FRet (valS (opK u.toList) a b) w) := by
 cases t0 : (u.toList == [43])
 case true => have hu := beq_iff_eq.1 t0; have ho : opK u.toList = 0 := by rw [hu, opK_0]
              try rw [ho] at hk
              try rw [ho] at hk2
              try rw [ho]
              exact rval_0 u a b w ha hb hu
 cases t1 : (u.toList == [45])
 case true => have hu := beq_iff_eq.1 t1; have ho : opK u.toList = 1 := by rw [hu, opK_1]
              try rw [ho] at hk
              try rw [ho] at hk2
              try rw [ho]
              exact rval_1 u a b w ha hb hu
 cases t2 : (u.toList == [42])
 case true => have hu := beq_iff_eq.1 t2; have ho : opK u.toList = 2 := by rw [hu, opK_2]
              try rw [ho] at hk
              try rw [ho] at hk2
              try rw [ho]
              exact rval_2 u a b w ha hb hu
 cases t3 : (u.toList == [47])
 case true => have hu := beq_iff_eq.1 t3; have ho : opK u.toList = 3 := by rw [hu, opK_3]
              try rw [ho] at hk
              try rw [ho] at hk2
              try rw [ho]
              exact rval_3 u a b w ha hb hu
 cases t4 : (u.toList == [37])
 case true => have hu := beq_iff_eq.1 t4; have ho : opK u.toList = 4 := by rw [hu, opK_4]
              try rw [ho] at hk
              try rw [ho] at hk2
              try rw [ho]
              exact rval_4 u a b w ha hb hu
 cases t5 : (u.toList == [94])
 case true => have hu := beq_iff_eq.1 t5; have ho : opK u.toList = 5 := by rw [hu, opK_5]
              try rw [ho] at hk
              try rw [ho] at hk2
              try rw [ho]
              exact rval_5 u a b w ha hb hu
 cases t6 : (u.toList == [61, 61])
 case true => have hu := beq_iff_eq.1 t6; have ho : opK u.toList = 6 := by rw [hu, opK_6]
              try rw [ho] at hk
              try rw [ho] at hk2
              try rw [ho]
              omega
 cases t7 : (u.toList == [33, 61])
 case true => have hu := beq_iff_eq.1 t7; have ho : opK u.toList = 7 := by rw [hu, opK_7]
              try rw [ho] at hk
              try rw [ho] at hk2
              try rw [ho]
              omega
 cases t8 : (u.toList == [60])
 case true => have hu := beq_iff_eq.1 t8; have ho : opK u.toList = 8 := by rw [hu, opK_8]
              try rw [ho] at hk
              try rw [ho] at hk2
              try rw [ho]
              omega
 cases t9 : (u.toList == [60, 61])
 case true => have hu := beq_iff_eq.1 t9; have ho : opK u.toList = 9 := by rw [hu, opK_9]
              try rw [ho] at hk
              try rw [ho] at hk2
              try rw [ho]
              omega
 cases t10 : (u.toList == [62])
 case true => have hu := beq_iff_eq.1 t10; have ho : opK u.toList = 10 := by rw [hu, opK_10]
              try rw [ho] at hk
              try rw [ho] at hk2
              try rw [ho]
              omega
 cases t11 : (u.toList == [62, 61])
 case true => have hu := beq_iff_eq.1 t11; have ho : opK u.toList = 11 := by rw [hu, opK_11]
              try rw [ho] at hk
              try rw [ho] at hk2
              try rw [ho]
              omega
 have ho := opK_none t0 t1 t2 t3 t4 t5 t6 t7 t8 t9 t10 t11
 try rw [ho] at hk
 try rw [ho] at hk2
 try rw [ho]
 omega
theorem rhold_any (u : ByteArray) (a b : Nat) (w : World) (hk : ¬ opK u.toList < 6) (hk2 : opK u.toList < 12) : Calls Tryz.prog 67 #[.string u, .float .f64 a, .float .f64 b] w fun e w' => e = .returned (.bool (holdsS (opK u.toList) a b)) ∧ w = w' := by
 cases t0 : (u.toList == [43])
 case true => have hu := beq_iff_eq.1 t0; have ho : opK u.toList = 0 := by rw [hu, opK_0]
              try rw [ho] at hk
              try rw [ho] at hk2
              try rw [ho]
              omega
 cases t1 : (u.toList == [45])
 case true => have hu := beq_iff_eq.1 t1; have ho : opK u.toList = 1 := by rw [hu, opK_1]
              try rw [ho] at hk
              try rw [ho] at hk2
              try rw [ho]
              omega
 cases t2 : (u.toList == [42])
 case true => have hu := beq_iff_eq.1 t2; have ho : opK u.toList = 2 := by rw [hu, opK_2]
              try rw [ho] at hk
              try rw [ho] at hk2
              try rw [ho]
              omega
 cases t3 : (u.toList == [47])
 case true => have hu := beq_iff_eq.1 t3; have ho : opK u.toList = 3 := by rw [hu, opK_3]
              try rw [ho] at hk
              try rw [ho] at hk2
              try rw [ho]
              omega
 cases t4 : (u.toList == [37])
 case true => have hu := beq_iff_eq.1 t4; have ho : opK u.toList = 4 := by rw [hu, opK_4]
              try rw [ho] at hk
              try rw [ho] at hk2
              try rw [ho]
              omega
 cases t5 : (u.toList == [94])
 case true => have hu := beq_iff_eq.1 t5; have ho : opK u.toList = 5 := by rw [hu, opK_5]
              try rw [ho] at hk
              try rw [ho] at hk2
              try rw [ho]
              omega
 cases t6 : (u.toList == [61, 61])
 case true => have hu := beq_iff_eq.1 t6; have ho : opK u.toList = 6 := by rw [hu, opK_6]
              try rw [ho] at hk
              try rw [ho] at hk2
              try rw [ho]
              exact rhold_6 u a b w hu
 cases t7 : (u.toList == [33, 61])
 case true => have hu := beq_iff_eq.1 t7; have ho : opK u.toList = 7 := by rw [hu, opK_7]
              try rw [ho] at hk
              try rw [ho] at hk2
              try rw [ho]
              exact rhold_7 u a b w hu
 cases t8 : (u.toList == [60])
 case true => have hu := beq_iff_eq.1 t8; have ho : opK u.toList = 8 := by rw [hu, opK_8]
              try rw [ho] at hk
              try rw [ho] at hk2
              try rw [ho]
              exact rhold_8 u a b w hu
 cases t9 : (u.toList == [60, 61])
 case true => have hu := beq_iff_eq.1 t9; have ho : opK u.toList = 9 := by rw [hu, opK_9]
              try rw [ho] at hk
              try rw [ho] at hk2
              try rw [ho]
              exact rhold_9 u a b w hu
 cases t10 : (u.toList == [62])
 case true => have hu := beq_iff_eq.1 t10; have ho : opK u.toList = 10 := by rw [hu, opK_10]
              try rw [ho] at hk
              try rw [ho] at hk2
              try rw [ho]
              exact rhold_10 u a b w hu
 cases t11 : (u.toList == [62, 61])
 case true => have hu := beq_iff_eq.1 t11; have ho : opK u.toList = 11 := by rw [hu, opK_11]
              try rw [ho] at hk
              try rw [ho] at hk2
              try rw [ho]
              exact rhold_11 u a b w hu
 have ho := opK_none t0 t1 t2 t3 t4 t5 t6 t7 t8 t9 t10 t11
 try rw [ho] at hk
 try rw [ho] at hk2
 try rw [ho]
 omega
theorem w64_one : W64 4607182418800017408 := by unfold W64; decide +kernel
theorem arith_any (u : ByteArray) (w : World) : Calls Tryz.prog 22 #[.string u] w fun e w' => e = .returned (.bool (decide (opK u.toList < 6))) ∧ ∃ n, w' = w.drewN n := by
 by_cases hk : opK u.toList < 6
 ·rw [decide_eq_true hk]
  have HC := qh (reck_any u _ _ w w64_one w64_one hk)
  clear hk
  go_enter Tryz.func22, Tryz.ntmps22
  go_wp2_with (go_at_call 33; refine HC.out.mono ?_; rintro e w1 ⟨r, n, rfl, _, rfl⟩)
  go_ret
  exact ⟨rfl, n, rfl⟩
 ·rw [decide_eq_false hk]
  have HC := qh (reckN_any u 4607182418800017408 4607182418800017408 w hk)
  clear hk
  go_enter Tryz.func22, Tryz.ntmps22
  go_wp2_with (go_at_call 33; refine HC.out.mono ?_; rintro e w1 ⟨rfl, rfl⟩)
  go_ret
  exact ⟨rfl, 0, rfl⟩
theorem compar_any (u : ByteArray) (w : World) (hk : ¬ opK u.toList < 6) : Calls Tryz.prog 23 #[.string u] w fun e w' => e = .returned (.bool (decide (opK u.toList < 12))) ∧ w = w' := by
 by_cases hk2 : opK u.toList < 12
 ·rw [decide_eq_true hk2]
  have HC := qh (hold_any u 4607182418800017408 4607182418800017408 w hk hk2)
  clear hk hk2
  go_enter Tryz.func23, Tryz.ntmps23
  go_wp2_with (go_at_call 34; refine HC.out.mono ?_; rintro e w1 ⟨rfl, rfl⟩)
  go_ret
  exact ⟨rfl, rfl⟩
 ·rw [decide_eq_false hk2]
  have HC := qh (holdN_any u 4607182418800017408 4607182418800017408 w hk2)
  clear hk hk2
  go_enter Tryz.func23, Tryz.ntmps23
  go_wp2_with (go_at_call 34; refine HC.out.mono ?_; rintro e w1 ⟨rfl, rfl⟩)
  go_ret
  exact ⟨rfl, rfl⟩
theorem nameless_any (a : Option Addr) (n cap : Nat) (ls : List Lb) (w : World) (hr : LRow w a n ls) (hn : n ≤ 4398046511104) :
  Calls Tryz.prog 27 #[.slice a n cap] w (NewL (sansL MN ls) w) := by
 have HC := qh (with_none a n cap ls MN w hr hn)
 clear hr
 go_enter Tryz.func27, Tryz.ntmps27
 go_wp2_with (go_at_call 20; refine HC.out.mono ?_; rintro e w1 ⟨v, rfl, ow, bl⟩)
 go_ret
 exact ⟨v, rfl, ow, bl⟩
theorem bare_any (a : Option Addr) (n cap : Nat) (ls : List Lb) (w : World) (hr : LRow w a n ls) (hn : n ≤ 4398046511104) :
  Calls Tryz.prog 98 #[.slice a n cap] w (NewL (sansL MN ls) w) := by
 have HC := qh (rwith_none a n cap ls MN w hr hn)
 clear hr
 go_enter Tryz.func98, Tryz.ntmps98
 go_wp2_with (go_at_call 100; refine HC.out.mono ?_; rintro e w1 ⟨v, rfl, ow, bl⟩)
 go_ret
 exact ⟨v, rfl, ow, bl⟩
def AnsRet (err : Int) (ks : List Ek) (w : World) (e : Ending) (w' : World) : Prop :=
 ∃ a cap es, e = .returned (.tuple #[.slice a es.length cap, .int .i64 err]) ∧ SlK a es.length cap ∧ ERow w' a es.length es ∧ es.map (fun x => clK x.key) = ks ∧ Below w.heap.size w w'
def setE (ks : List Ek) : Int := match vecK ks with | none => 6 | some _ => 0
def setV (ks : List Ek) : List Ek := match vecK ks with | none => [] | some ms => ms
theorem vec_cl {ks : List Ek} {es : List Er} (h : es.map (fun x => clK x.key) = ks) : (vecK (es.map Er.key)).map (List.map clK) = vecK ks := by
 rw [clK_vec, List.map_map, ← h]; rfl
theorem VecGood.row {es0 : List Er} {ms : List Ek} {w w' : World} {e : Ending} (h : VecGood es0 ms w e w') : ∃ a cap es, e = .returned (.tuple #[.slice a es.length cap, .int .i64 0]) ∧ SlK a es.length cap ∧ ERow w' a es.length es ∧ es.map Er.key = ms ∧ (∀ x ∈ es, ∃ y ∈ es0, x.f = y.f) ∧ Below w.heap.size w w' := by
 obtain ⟨g, cap, es, h1, h2, h3, h4, h5, h6, h7, ⟨h8, _⟩, h9⟩ := h
 refine ⟨some ⟨g, 0, none⟩, cap, es, h1, ⟨h2, fun h => by cases h⟩, ⟨rfl, h3, fun x hx => (h6 x hx).1.ok, fun _ => ⟨g, 0, rfl, h5.1, fun i hi => ⟨?_, ?_⟩⟩⟩, h7, h8, h9⟩
 ·have := (h5.2 i hi 0 (by omega)).1; rw [Nat.add_zero] at this; exact this
 ·exact (h5.2 i hi 1 (by omega)).1
def FreshE (B : Nat) (w : World) (a : Option Addr) (es : List Er) : Prop :=
 (es = [] ∨ ∃ g, a = some ⟨g, 0, none⟩ ∧ B ≤ g ∧ WRE w g es ∧ ∀ e ∈ es, ErOwn B w e ∧ (Value.slice e.a e.n e.c).ownBlock ≠ some g) ∧ ApartE es
theorem FreshE.mono {B C : Nat} {w : World} {a : Option Addr} {es : List Er} (h : FreshE B w a es) (hc : C ≤ B) : FreshE C w a es := by
 obtain ⟨h1, h2⟩ := h
 refine ⟨?_, h2⟩
 rcases h1 with h1 | ⟨g, e, h3, h4, h5⟩
 ·exact .inl h1
 ·exact .inr ⟨g, e, Nat.le_trans hc h3, h4, fun e he => ⟨⟨(h5 e he).1.1.mono hc, (h5 e he).1.2⟩, (h5 e he).2⟩⟩
def AnsX (err : Int) (xs : List Ek) (w : World) (e : Ending) (w' : World) : Prop :=
 ∃ a cap es, e = .returned (.tuple #[.slice a es.length cap, .int .i64 err]) ∧ SlK a es.length cap ∧ ERow w' a es.length es ∧ es.map Er.key = xs ∧ FreshE w.heap.size w' a es ∧ Below w.heap.size w w'
def AnsO (err : Int) (ks : List Ek) (w : World) (e : Ending) (w' : World) : Prop := ∃ xs, xs.map clK = ks ∧ AnsX err xs w e w'
theorem AnsO.ret {err : Int} {ks : List Ek} {w w' : World} {e : Ending} (h : AnsO err ks w e w') : AnsRet err ks w e w' := by
 obtain ⟨xs, h0, a, cap, es, h1, h2, h3, h4, h5, h6⟩ := h
 exact ⟨a, cap, es, h1, h2, h3, by rw [← h0, ← h4, List.map_map]; rfl, h6⟩
theorem AnsO.nil (err : Int) {w w' : World} (cap : Nat) (h : Below w.heap.size w w') (hc : cap = 0) : AnsO err [] w (.returned (.tuple #[.slice none 0 cap, .int .i64 err])) w' := by
 subst hc
 exact ⟨[], rfl, none, 0, [], rfl, ⟨Nat.le_refl _, fun _ => rfl⟩, ERow.nothing _, rfl, ⟨.inl rfl, List.Pairwise.nil⟩, h⟩
theorem AnsO.from {err : Int} {ks : List Ek} {z w w' : World} {e : Ending} (h : AnsO err ks w e w') (hb : Below z.heap.size z w) : AnsO err ks z e w' := by
 obtain ⟨xs, h0, a, cap, es, h1, h2, h3, h4, h5, h6⟩ := h
 exact ⟨xs, h0, a, cap, es, h1, h2, h3, h4, h5.mono hb.size, hb.trans (h6.mono hb.size)⟩
theorem AnsX.from {err : Int} {ks : List Ek} {z w w' : World} {e : Ending} (h : AnsX err ks w e w') (hb : Below z.heap.size z w) : AnsX err ks z e w' := by
 obtain ⟨a, cap, es, h1, h2, h3, h4, h5, h6⟩ := h
 exact ⟨a, cap, es, h1, h2, h3, h4, h5.mono hb.size, hb.trans (h6.mono hb.size)⟩
theorem setE_cl (ks : List Ek) : setE (ks.map clK) = setE ks := by
 unfold setE; rw [← clK_vec]; cases vecK ks <;> rfl
theorem setV_cl (ks : List Ek) : setV (ks.map clK) = (setV ks).map clK := by
 unfold setV; rw [← clK_vec]; cases vecK ks <;> rfl
theorem settledX_any (a : Option Addr) (n cap : Nat) (es : List Er) (w : World) (hr : ERow w a n es) :
  Calls Tryz.prog 28 #[.slice a n cap] w (AnsX (setE (es.map Er.key)) (setV (es.map Er.key)) w) := by
 have HC := qh (vector_any a n cap es w hr)
 clear hr
 unfold setE setV
 cases hv : vecK (es.map Er.key) with
 | none =>
  unfold VecRet at HC
  rw [hv] at HC
  dsimp only at HC
  clear hv
  go_enter Tryz.func28, Tryz.ntmps28
  go_wp2_with (go_at_call 19; refine HC.out.mono ?_; rintro e w1 ⟨rfl, bl⟩)
  go_ret2
  exact ⟨none, 0, [], rfl, ⟨Nat.le_refl _, fun _ => rfl⟩, ERow.nothing _, rfl, ⟨.inl rfl, List.Pairwise.nil⟩, bl⟩
 | some ms =>
  unfold VecRet at HC
  rw [hv] at HC
  dsimp only at HC
  clear hv
  go_enter Tryz.func28, Tryz.ntmps28
  go_wp2_with (go_at_call 19; refine HC.out.mono ?_; intro e w1 hg; have hg0 := hg; obtain ⟨g, c2, es2, rfl, h1, h2, h3, h4, h5, h6, h7, h8⟩ := hg; have HH := qh (And.intro h1 (And.intro h2 (And.intro h3 (And.intro h4 (And.intro h5 (And.intro h6 (And.intro h7.2 h8))))))); clear h1 h2 h3 h4 h5 h6 h7 h8 hg0)
  go_ret2
  obtain ⟨h1, h2, h3, h4, h5, h6, h7, h8⟩ := HH.out
  refine ⟨some ⟨g, 0, none⟩, c2, es2, rfl, ⟨h1, fun h => by cases h⟩, ⟨rfl, h2, fun x hx => (h5 x hx).1.ok, fun _ => ⟨g, 0, rfl, h4.1, fun i hi => ⟨?_, ?_⟩⟩⟩, h6, ⟨.inr ⟨g, rfl, h3, h4, h5⟩, h7⟩, h8⟩
  ·have := (h4.2 i hi 0 (by omega)).1; rw [Nat.add_zero] at this; exact this
  ·exact (h4.2 i hi 1 (by omega)).1
theorem settledO_any (a : Option Addr) (n cap : Nat) (es : List Er) (ks : List Ek) (w : World) (hr : ERow w a n es) (hks : es.map (fun x => clK x.key) = ks) :
  Calls Tryz.prog 28 #[.slice a n cap] w (AnsO (setE ks) (setV ks) w) := by
 refine (settledX_any a n cap es w hr).mono fun e w' h => ?_
 have hk : (es.map Er.key).map clK = ks := by rw [List.map_map, ← hks]; rfl
 refine ⟨setV (es.map Er.key), by rw [← setV_cl, hk], ?_⟩
 rw [← hk, setE_cl]; exact h
theorem done_any (a : Option Addr) (n cap : Nat) (es : List Er) (ks : List Ek) (w : World) (hr : ERow w a n es) (hs : SlK a n cap) (hks : es.map (fun x => clK x.key) = ks) :
  Calls Tryz.prog 63 #[.slice a n cap] w (AnsRet (setE ks) (setV ks) w) := by
 have HC := qh (rvector_any a n cap es w hr hs)
 have HV := qh (vec_cl hks)
 clear hr hks hs
 unfold setE setV
 cases hv : vecK ks with
 | none =>
  have hv2 : vecK (es.map Er.key) = none := by have := HV.out; rw [hv] at this; simpa using this
  unfold RVecRet at HC
  rw [hv2] at HC
  dsimp only at HC
  clear hv HV hv2
  go_enter Tryz.func63, Tryz.ntmps63
  go_wp2_with (go_at_call 41; refine HC.out.mono ?_; rintro e w1 ⟨rfl, bl⟩)
  go_ret2
  exact ⟨none, 0, [], rfl, ⟨Nat.le_refl _, fun _ => rfl⟩, ERow.nothing _, rfl, bl⟩
 | some ms =>
  obtain ⟨rs, hv2, hrs⟩ : ∃ rs, vecK (es.map Er.key) = some rs ∧ rs.map clK = ms := by
   have := HV.out
   rw [hv] at this
   cases h : vecK (es.map Er.key) with
   | none => rw [h] at this; cases this
   | some rs => rw [h] at this; exact ⟨rs, rfl, by simpa using this⟩
  have HRS := qh hrs
  unfold RVecRet at HC
  rw [hv2] at HC
  dsimp only at HC
  clear hv HV hv2 hrs
  go_enter Tryz.func63, Tryz.ntmps63
  go_wp2_with (go_at_call 41; refine HC.out.mono ?_; rintro e w1 ⟨a2, c2, es2, rfl, h1, h2, h3, h4, h5⟩; have HH := qh (And.intro h1 (And.intro h2 (And.intro h3 h5))); clear h1 h2 h3 h4 h5)
  go_ret2
  obtain ⟨h1, h2, h3, h5⟩ := HH.out
  exact ⟨a2, c2, es2, rfl, h1, h2, by rw [← HRS.out, ← h3, List.map_map]; rfl, h5⟩
end Go.Proofs.YtmmfjknnbkcniaaGreatDoor
namespace Go.Proofs.YtmmfjknnbkcniaaGreatDoor
open Go.Fl Go.Rel Go.RowKit Go.Sort
set_option linter.unusedSimpArgs false
set_option linter.unusedVariables false
noncomputable def stepO (k a b : Nat) (yes : Bool) : Bool := if k < 6 then true else if yes then true else holdsS k a b
def stepF (k : Nat) (yes : Bool) : Bool := if k < 6 then false else !yes
noncomputable def stepV (k a b keep : Nat) (yes : Bool) : Nat := if k < 6 then valS k a b else if yes then (if holdsS k a b then w1 else 0) else cn keep
def WorkRet (k a b keep : Nat) (yes : Bool) (w : World) (e : Ending) (w' : World) : Prop :=
 ∃ r, e = .returned (.agg #[.float .f64 r, .bool (stepO k a b yes), .bool (stepF k yes)]) ∧ cn r = stepV k a b keep yes ∧ Below w.heap.size w w'
theorem worked_any (u : ByteArray) (a b keep : Nat) (yes : Bool) (w : World) (ha : W64 a) (hb : W64 b) (hk : opK u.toList < 12) :
  Calls Tryz.prog 29 #[.string u, .float .f64 a, .float .f64 b, .float .f64 keep, .bool yes] w (WorkRet (opK u.toList) a b keep yes w) := by
 have HT0 := qh (Bk.Is.made w #[.float .f64 0, .bool false, .bool false] 59)
 have BL0 := qh ((Below.refl w.heap.size w).alloc (Nat.le_refl _) (.cells #[.float .f64 0, .bool false, .bool false] 59))
 by_cases hk6 : opK u.toList < 6
 ·have HC : Hid (∀ w, _) := qh fun w => reck_any u a b w ha hb hk6
  have HO : Hid (stepO (opK u.toList) a b yes = true) := qh (if_pos hk6)
  have HF : Hid (stepF (opK u.toList) yes = false) := qh (if_pos hk6)
  have HV : Hid (stepV (opK u.toList) a b keep yes = valS (opK u.toList) a b) := qh (if_pos hk6)
  clear ha hb hk hk6
  go_enter Tryz.func29, Tryz.ntmps29
  go_wp2_with (first | (go_at_call 33; refine (HC.out _).mono ?_; rintro e w1 ⟨r, n, rfl, hr, rfl⟩; have HR := qh hr; have HI := qh (HT0.out.drewN n); have HB := qh (BL0.out.drewN' n); clear hr) | (refine Bk.is_store 59 rfl ?_; refine wpList_store_row rfl 59 _ _ rfl w.heap.size #[.float .f64 r, .bool true, .bool false] rfl rfl 59 _ HI.out (by kernel_rfl) rfl (by kernel_rfl) ?_))
  (try simp only [Exit.inBlock, Exit.then])
  refine Bk.ret_block (HI.out.setRow _) rfl rfl Tryz.underlying59 rfl (by kernel_rfl) rfl ?_
  exact ⟨r, by rw [HO.out, HF.out], by rw [HV.out]; exact HR.out, Bk.below_setRow HB.out (Nat.le_refl _) _⟩
 ·have HC : Hid (∀ w, _) := qh fun w => reckN_any u a b w hk6
  have HH : Hid (∀ w, _) := qh fun w => hold_any u a b w hk6 hk
  have HTr := qh (truth_any)
  have HO : Hid (stepO (opK u.toList) a b yes = if yes then true else holdsS (opK u.toList) a b) := qh (if_neg hk6)
  have HF : Hid (stepF (opK u.toList) yes = !yes) := qh (if_neg hk6)
  have HV : Hid (stepV (opK u.toList) a b keep yes = if yes then (if holdsS (opK u.toList) a b then w1 else 0) else cn keep) := qh (if_neg hk6)
  generalize holdsS (opK u.toList) a b = h at *
  clear ha hb hk hk6
  cases yes with
  | true =>
   go_enter Tryz.func29, Tryz.ntmps29
   go_wp2_with (first | (go_at_call 33; refine (HC.out _).mono ?_; rintro e w1 ⟨rfl, rfl⟩) | (go_at_call 34; refine (HH.out _).mono ?_; rintro e w1 ⟨rfl, rfl⟩) | (go_at_call 35; refine (HTr.out _ _).mono ?_; rintro e w1 ⟨rfl, rfl⟩) | (refine Bk.is_store 59 rfl ?_; refine wpList_store_row rfl 59 _ _ rfl w.heap.size #[.float .f64 (tru h), .bool true, .bool false] rfl rfl 59 _ HT0.out (by kernel_rfl) rfl (by kernel_rfl) ?_))
   (try simp only [Exit.inBlock, Exit.then])
   refine Bk.ret_block (HT0.out.setRow _) rfl rfl Tryz.underlying59 rfl (by kernel_rfl) rfl ?_
   exact ⟨_, by rw [HO.out, HF.out]; rfl, by rw [HV.out, cn_tru]; rfl, Bk.below_setRow BL0.out (Nat.le_refl _) _⟩
  | false =>
   go_enter Tryz.func29, Tryz.ntmps29
   go_wp2_with (first | (go_at_call 33; refine (HC.out _).mono ?_; rintro e w1 ⟨rfl, rfl⟩) | (go_at_call 34; refine (HH.out _).mono ?_; rintro e w1 ⟨rfl, rfl⟩) | (refine Bk.is_store 59 rfl ?_; refine wpList_store_row rfl 59 _ _ rfl w.heap.size #[.float .f64 keep, .bool h, .bool true] rfl rfl 59 _ HT0.out (by kernel_rfl) rfl (by kernel_rfl) ?_))
   (try simp only [Exit.inBlock, Exit.then])
   refine Bk.ret_block (HT0.out.setRow _) rfl rfl Tryz.underlying59 rfl (by kernel_rfl) rfl ?_
   exact ⟨_, by rw [HO.out, HF.out]; rfl, by rw [HV.out]; rfl, Bk.below_setRow BL0.out (Nat.le_refl _) _⟩
theorem NewL.own {ls : List Lb} {w : World} {e : Ending} {w' : World} (h : NewL ls w e w') :
  ∃ a c, e = .returned (.slice a ls.length c) ∧ OwnL w.heap.size w' (.slice a ls.length c) ls ∧ Below w.heap.size w w' := by
 obtain ⟨v, h1, h2, h3⟩ := h
 rcases h2.form with ⟨rfl, rfl⟩ | ⟨g, cap, rfl, _⟩
 ·exact ⟨none, 0, h1, h2, h3⟩
 ·exact ⟨_, _, h1, h2, h3⟩
theorem OwnL.setRow {B g : Nat} {w : World} {v : Value} {ls : List Lb} (h : OwnL B w v ls) (hg : g < B) (vs : Array Value) : OwnL B (w.setRow g vs) v ls :=
 h.stay fun k hk => by
  have := (h.lt k hk).1
  unfold World.setRow
  simp [Array.getElem?_modify]
  intro e; omega
theorem OwnL.setCell {B g i : Nat} {w : World} {v u : Value} {ls : List Lb} (h : OwnL B w v ls) (hg : g < B) : OwnL B (w.setCell ⟨g, i, none⟩ u) v ls :=
 h.stay fun k hk => by
  have := (h.lt k hk).1
  unfold World.setCell
  simp [Array.getElem?_modify]
  intro e; omega
end Go.Proofs.YtmmfjknnbkcniaaGreatDoor
