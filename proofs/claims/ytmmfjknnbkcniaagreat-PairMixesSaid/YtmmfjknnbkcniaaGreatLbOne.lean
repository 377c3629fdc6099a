/- What pair's and weirref21's small functions answer, for any operator. (Printed by tools/genlbk.py.) pair.worked and weirref21.one: what becomes of one element. -/
import Derived.Test.YtmmfjknnbkcniaaGreatLawScal
import Derived.Test.YtmmfjknnbkcniaaGreatLbVec
import Derived.Laws.ResultCell
import Derived.Test.YtmmfjknnbkcniaaGreatFlStore
namespace Go.Fl
/-- The name's label. -/
def MN : ByteArray := ⟨#[95, 95, 110, 97, 109, 101, 95, 95]⟩
/-- Values by class. -/
def clK (k : Ek) : Ek := (k.1, cn k.2)
theorem clK_sort (ks : List Ek) : (sortK ks).map clK = sortK (ks.map clK) := by
  unfold sortK
  exact List.map_mergeSort fun a _ b _ => rfl
theorem clK_dup (ks : List Ek) : noDup (ks.map clK) = noDup ks := by
  unfold noDup
  rw [List.length_map]
  congr 1
  funext i
  have h : ∀ i, (kAt (ks.map clK) i).1 = (kAt ks i).1 := fun i => by
    unfold kAt
    simp only [List.getD, List.getElem?_map]
    cases ks[i]? <;> rfl
  rw [h, h]
end Go.Fl
namespace Go.Proofs.YtmmfjknnbkcniaaGreat
open Go.Fl Go.Rel Go.RowKit
set_option linter.unusedSimpArgs false
set_option linter.unusedVariables false

theorem clK_vec (ks : List Ek) : (vecK ks).map (List.map clK) = vecK (ks.map clK) := by
  unfold vecK
  rw [← clK_sort, clK_dup, List.all_map, show (validK ∘ clK) = validK from rfl]
  split <;> rfl

theorem reck_any (u : ByteArray) (a b : Nat) (w : World) (ha : W64 a) (hb : W64 b) (hk : opK u.toList < 6) : Calls Tryz.prog 32 #[.string u, .float .f64 a, .float .f64 b] w fun e w' => ∃ r n, e = .returned (.tuple #[.float .f64 r, .bool true]) ∧ cn r = valS (opK u.toList) a b ∧ w' = w.drewN n := by
  cases t0 : (u.toList == [43])
  case true => have hu := beq_iff_eq.1 t0; have ho : opK u.toList = 0 := by rw [hu, opK_0]
               try rw [ho] at hk
               try rw [ho] at hk2
               try rw [ho]
               exact reck_0 u a b w ha hb hu
  cases t1 : (u.toList == [45])
  case true => have hu := beq_iff_eq.1 t1; have ho : opK u.toList = 1 := by rw [hu, opK_1]
               try rw [ho] at hk
               try rw [ho] at hk2
               try rw [ho]
               exact reck_1 u a b w ha hb hu
  cases t2 : (u.toList == [42])
  case true => have hu := beq_iff_eq.1 t2; have ho : opK u.toList = 2 := by rw [hu, opK_2]
               try rw [ho] at hk
               try rw [ho] at hk2
               try rw [ho]
               exact reck_2 u a b w ha hb hu
  cases t3 : (u.toList == [47])
  case true => have hu := beq_iff_eq.1 t3; have ho : opK u.toList = 3 := by rw [hu, opK_3]
               try rw [ho] at hk
               try rw [ho] at hk2
               try rw [ho]
               exact reck_3 u a b w ha hb hu
  cases t4 : (u.toList == [37])
  case true => have hu := beq_iff_eq.1 t4; have ho : opK u.toList = 4 := by rw [hu, opK_4]
               try rw [ho] at hk
               try rw [ho] at hk2
               try rw [ho]
               exact reck_4 u a b w ha hb hu
  cases t5 : (u.toList == [94])
  case true => have hu := beq_iff_eq.1 t5; have ho : opK u.toList = 5 := by rw [hu, opK_5]
               try rw [ho] at hk
               try rw [ho] at hk2
               try rw [ho]
               exact reck_5 u a b w ha hb hu
  cases t6 : (u.toList == [61, 61])
  case true => have hu := beq_iff_eq.1 t6; have ho : opK u.toList = 6 := by rw [hu, opK_6]
               try rw [ho] at hk
               try rw [ho] at hk2
               try rw [ho]
               omega
  cases t7 : (u.toList == [33, 61])
  case true => have hu := beq_iff_eq.1 t7; have ho : opK u.toList = 7 := by rw [hu, opK_7]
               try rw [ho] at hk
               try rw [ho] at hk2
               try rw [ho]
               omega
  cases t8 : (u.toList == [60])
  case true => have hu := beq_iff_eq.1 t8; have ho : opK u.toList = 8 := by rw [hu, opK_8]
               try rw [ho] at hk
               try rw [ho] at hk2
               try rw [ho]
               omega
  cases t9 : (u.toList == [60, 61])
  case true => have hu := beq_iff_eq.1 t9; have ho : opK u.toList = 9 := by rw [hu, opK_9]
               try rw [ho] at hk
               try rw [ho] at hk2
               try rw [ho]
               omega
  cases t10 : (u.toList == [62])
  case true => have hu := beq_iff_eq.1 t10; have ho : opK u.toList = 10 := by rw [hu, opK_10]
               try rw [ho] at hk
               try rw [ho] at hk2
               try rw [ho]
               omega
  cases t11 : (u.toList == [62, 61])
  case true => have hu := beq_iff_eq.1 t11; have ho : opK u.toList = 11 := by rw [hu, opK_11]
               try rw [ho] at hk
               try rw [ho] at hk2
               try rw [ho]
               omega
  have ho := opK_none t0 t1 t2 t3 t4 t5 t6 t7 t8 t9 t10 t11
  try rw [ho] at hk
  try rw [ho] at hk2
  try rw [ho]
  omega

theorem reckN_any (u : ByteArray) (a b : Nat) (w : World) (hk : ¬ opK u.toList < 6) : Calls Tryz.prog 32 #[.string u, .float .f64 a, .float .f64 b] w fun e w' => e = .returned (.tuple #[.float .f64 0, .bool false]) ∧ w = w' := by
  cases t0 : (u.toList == [43])
  case true => have hu := beq_iff_eq.1 t0; have ho : opK u.toList = 0 := by rw [hu, opK_0]
               try rw [ho] at hk
               try rw [ho] at hk2
               try rw [ho]
               omega
  cases t1 : (u.toList == [45])
  case true => have hu := beq_iff_eq.1 t1; have ho : opK u.toList = 1 := by rw [hu, opK_1]
               try rw [ho] at hk
               try rw [ho] at hk2
               try rw [ho]
               omega
  cases t2 : (u.toList == [42])
  case true => have hu := beq_iff_eq.1 t2; have ho : opK u.toList = 2 := by rw [hu, opK_2]
               try rw [ho] at hk
               try rw [ho] at hk2
               try rw [ho]
               omega
  cases t3 : (u.toList == [47])
  case true => have hu := beq_iff_eq.1 t3; have ho : opK u.toList = 3 := by rw [hu, opK_3]
               try rw [ho] at hk
               try rw [ho] at hk2
               try rw [ho]
               omega
  cases t4 : (u.toList == [37])
  case true => have hu := beq_iff_eq.1 t4; have ho : opK u.toList = 4 := by rw [hu, opK_4]
               try rw [ho] at hk
               try rw [ho] at hk2
               try rw [ho]
               omega
  cases t5 : (u.toList == [94])
  case true => have hu := beq_iff_eq.1 t5; have ho : opK u.toList = 5 := by rw [hu, opK_5]
               try rw [ho] at hk
               try rw [ho] at hk2
               try rw [ho]
               omega
  cases t6 : (u.toList == [61, 61])
  case true => have hu := beq_iff_eq.1 t6; have ho : opK u.toList = 6 := by rw [hu, opK_6]
               try rw [ho] at hk
               try rw [ho] at hk2
               try rw [ho]
               exact reck_none u a b w t0 t1 t2 t3 t4 t5
  cases t7 : (u.toList == [33, 61])
  case true => have hu := beq_iff_eq.1 t7; have ho : opK u.toList = 7 := by rw [hu, opK_7]
               try rw [ho] at hk
               try rw [ho] at hk2
               try rw [ho]
               exact reck_none u a b w t0 t1 t2 t3 t4 t5
  cases t8 : (u.toList == [60])
  case true => have hu := beq_iff_eq.1 t8; have ho : opK u.toList = 8 := by rw [hu, opK_8]
               try rw [ho] at hk
               try rw [ho] at hk2
               try rw [ho]
               exact reck_none u a b w t0 t1 t2 t3 t4 t5
  cases t9 : (u.toList == [60, 61])
  case true => have hu := beq_iff_eq.1 t9; have ho : opK u.toList = 9 := by rw [hu, opK_9]
               try rw [ho] at hk
               try rw [ho] at hk2
               try rw [ho]
               exact reck_none u a b w t0 t1 t2 t3 t4 t5
  cases t10 : (u.toList == [62])
  case true => have hu := beq_iff_eq.1 t10; have ho : opK u.toList = 10 := by rw [hu, opK_10]
               try rw [ho] at hk
               try rw [ho] at hk2
               try rw [ho]
               exact reck_none u a b w t0 t1 t2 t3 t4 t5
  cases t11 : (u.toList == [62, 61])
  case true => have hu := beq_iff_eq.1 t11; have ho : opK u.toList = 11 := by rw [hu, opK_11]
               try rw [ho] at hk
               try rw [ho] at hk2
               try rw [ho]
               exact reck_none u a b w t0 t1 t2 t3 t4 t5
  have ho := opK_none t0 t1 t2 t3 t4 t5 t6 t7 t8 t9 t10 t11
  try rw [ho] at hk
  try rw [ho] at hk2
  try rw [ho]
  exact reck_none u a b w t0 t1 t2 t3 t4 t5

theorem hold_any (u : ByteArray) (a b : Nat) (w : World) (hk : ¬ opK u.toList < 6) (hk2 : opK u.toList < 12) : Calls Tryz.prog 33 #[.string u, .float .f64 a, .float .f64 b] w fun e w' => e = .returned (.tuple #[.bool (holdsS (opK u.toList) a b), .bool true]) ∧ w = w' := by
  cases t0 : (u.toList == [43])
  case true => have hu := beq_iff_eq.1 t0; have ho : opK u.toList = 0 := by rw [hu, opK_0]
               try rw [ho] at hk
               try rw [ho] at hk2
               try rw [ho]
               omega
  cases t1 : (u.toList == [45])
  case true => have hu := beq_iff_eq.1 t1; have ho : opK u.toList = 1 := by rw [hu, opK_1]
               try rw [ho] at hk
               try rw [ho] at hk2
               try rw [ho]
               omega
  cases t2 : (u.toList == [42])
  case true => have hu := beq_iff_eq.1 t2; have ho : opK u.toList = 2 := by rw [hu, opK_2]
               try rw [ho] at hk
               try rw [ho] at hk2
               try rw [ho]
               omega
  cases t3 : (u.toList == [47])
  case true => have hu := beq_iff_eq.1 t3; have ho : opK u.toList = 3 := by rw [hu, opK_3]
               try rw [ho] at hk
               try rw [ho] at hk2
               try rw [ho]
               omega
  cases t4 : (u.toList == [37])
  case true => have hu := beq_iff_eq.1 t4; have ho : opK u.toList = 4 := by rw [hu, opK_4]
               try rw [ho] at hk
               try rw [ho] at hk2
               try rw [ho]
               omega
  cases t5 : (u.toList == [94])
  case true => have hu := beq_iff_eq.1 t5; have ho : opK u.toList = 5 := by rw [hu, opK_5]
               try rw [ho] at hk
               try rw [ho] at hk2
               try rw [ho]
               omega
  cases t6 : (u.toList == [61, 61])
  case true => have hu := beq_iff_eq.1 t6; have ho : opK u.toList = 6 := by rw [hu, opK_6]
               try rw [ho] at hk
               try rw [ho] at hk2
               try rw [ho]
               exact hold_6 u a b w hu
  cases t7 : (u.toList == [33, 61])
  case true => have hu := beq_iff_eq.1 t7; have ho : opK u.toList = 7 := by rw [hu, opK_7]
               try rw [ho] at hk
               try rw [ho] at hk2
               try rw [ho]
               exact hold_7 u a b w hu
  cases t8 : (u.toList == [60])
  case true => have hu := beq_iff_eq.1 t8; have ho : opK u.toList = 8 := by rw [hu, opK_8]
               try rw [ho] at hk
               try rw [ho] at hk2
               try rw [ho]
               exact hold_8 u a b w hu
  cases t9 : (u.toList == [60, 61])
  case true => have hu := beq_iff_eq.1 t9; have ho : opK u.toList = 9 := by rw [hu, opK_9]
               try rw [ho] at hk
               try rw [ho] at hk2
               try rw [ho]
               exact hold_9 u a b w hu
  cases t10 : (u.toList == [62])
  case true => have hu := beq_iff_eq.1 t10; have ho : opK u.toList = 10 := by rw [hu, opK_10]
               try rw [ho] at hk
               try rw [ho] at hk2
               try rw [ho]
               exact hold_10 u a b w hu
  cases t11 : (u.toList == [62, 61])
  case true => have hu := beq_iff_eq.1 t11; have ho : opK u.toList = 11 := by rw [hu, opK_11]
               try rw [ho] at hk
               try rw [ho] at hk2
               try rw [ho]
               exact hold_11 u a b w hu
  have ho := opK_none t0 t1 t2 t3 t4 t5 t6 t7 t8 t9 t10 t11
  try rw [ho] at hk
  try rw [ho] at hk2
  try rw [ho]
  omega

theorem holdN_any (u : ByteArray) (a b : Nat) (w : World) (hk : ¬ opK u.toList < 12) : Calls Tryz.prog 33 #[.string u, .float .f64 a, .float .f64 b] w fun e w' => e = .returned (.tuple #[.bool false, .bool false]) ∧ w = w' := by
  cases t0 : (u.toList == [43])
  case true => have hu := beq_iff_eq.1 t0; have ho : opK u.toList = 0 := by rw [hu, opK_0]
               try rw [ho] at hk
               try rw [ho] at hk2
               try rw [ho]
               omega
  cases t1 : (u.toList == [45])
  case true => have hu := beq_iff_eq.1 t1; have ho : opK u.toList = 1 := by rw [hu, opK_1]
               try rw [ho] at hk
               try rw [ho] at hk2
               try rw [ho]
               omega
  cases t2 : (u.toList == [42])
  case true => have hu := beq_iff_eq.1 t2; have ho : opK u.toList = 2 := by rw [hu, opK_2]
               try rw [ho] at hk
               try rw [ho] at hk2
               try rw [ho]
               omega
  cases t3 : (u.toList == [47])
  case true => have hu := beq_iff_eq.1 t3; have ho : opK u.toList = 3 := by rw [hu, opK_3]
               try rw [ho] at hk
               try rw [ho] at hk2
               try rw [ho]
               omega
  cases t4 : (u.toList == [37])
  case true => have hu := beq_iff_eq.1 t4; have ho : opK u.toList = 4 := by rw [hu, opK_4]
               try rw [ho] at hk
               try rw [ho] at hk2
               try rw [ho]
               omega
  cases t5 : (u.toList == [94])
  case true => have hu := beq_iff_eq.1 t5; have ho : opK u.toList = 5 := by rw [hu, opK_5]
               try rw [ho] at hk
               try rw [ho] at hk2
               try rw [ho]
               omega
  cases t6 : (u.toList == [61, 61])
  case true => have hu := beq_iff_eq.1 t6; have ho : opK u.toList = 6 := by rw [hu, opK_6]
               try rw [ho] at hk
               try rw [ho] at hk2
               try rw [ho]
               omega
  cases t7 : (u.toList == [33, 61])
  case true => have hu := beq_iff_eq.1 t7; have ho : opK u.toList = 7 := by rw [hu, opK_7]
               try rw [ho] at hk
               try rw [ho] at hk2
               try rw [ho]
               omega
  cases t8 : (u.toList == [60])
  case true => have hu := beq_iff_eq.1 t8; have ho : opK u.toList = 8 := by rw [hu, opK_8]
               try rw [ho] at hk
               try rw [ho] at hk2
               try rw [ho]
               omega
  cases t9 : (u.toList == [60, 61])
  case true => have hu := beq_iff_eq.1 t9; have ho : opK u.toList = 9 := by rw [hu, opK_9]
               try rw [ho] at hk
               try rw [ho] at hk2
               try rw [ho]
               omega
  cases t10 : (u.toList == [62])
  case true => have hu := beq_iff_eq.1 t10; have ho : opK u.toList = 10 := by rw [hu, opK_10]
               try rw [ho] at hk
               try rw [ho] at hk2
               try rw [ho]
               omega
  cases t11 : (u.toList == [62, 61])
  case true => have hu := beq_iff_eq.1 t11; have ho : opK u.toList = 11 := by rw [hu, opK_11]
               try rw [ho] at hk
               try rw [ho] at hk2
               try rw [ho]
               omega
  have ho := opK_none t0 t1 t2 t3 t4 t5 t6 t7 t8 t9 t10 t11
  try rw [ho] at hk
  try rw [ho] at hk2
  try rw [ho]
  exact hold_none u a b w t6 t7 t8 t9 t10 t11

def kindS (k : Nat) : Int := if k < 6 then 1 else 2
theorem kindY_any (u : ByteArray) (w : World) (hk : opK u.toList < 12) : Calls Tryz.prog 23 #[.string u] w fun e w' => e = .returned (.int .i64 (kindS (opK u.toList))) ∧ w = w' := by
  cases t0 : (u.toList == [43])
  case true => have hu := beq_iff_eq.1 t0; have ho : opK u.toList = 0 := by rw [hu, opK_0]
               try rw [ho] at hk
               try rw [ho] at hk2
               try rw [ho]
               exact kind_0 u w hu
  cases t1 : (u.toList == [45])
  case true => have hu := beq_iff_eq.1 t1; have ho : opK u.toList = 1 := by rw [hu, opK_1]
               try rw [ho] at hk
               try rw [ho] at hk2
               try rw [ho]
               exact kind_1 u w hu
  cases t2 : (u.toList == [42])
  case true => have hu := beq_iff_eq.1 t2; have ho : opK u.toList = 2 := by rw [hu, opK_2]
               try rw [ho] at hk
               try rw [ho] at hk2
               try rw [ho]
               exact kind_2 u w hu
  cases t3 : (u.toList == [47])
  case true => have hu := beq_iff_eq.1 t3; have ho : opK u.toList = 3 := by rw [hu, opK_3]
               try rw [ho] at hk
               try rw [ho] at hk2
               try rw [ho]
               exact kind_3 u w hu
  cases t4 : (u.toList == [37])
  case true => have hu := beq_iff_eq.1 t4; have ho : opK u.toList = 4 := by rw [hu, opK_4]
               try rw [ho] at hk
               try rw [ho] at hk2
               try rw [ho]
               exact kind_4 u w hu
  cases t5 : (u.toList == [94])
  case true => have hu := beq_iff_eq.1 t5; have ho : opK u.toList = 5 := by rw [hu, opK_5]
               try rw [ho] at hk
               try rw [ho] at hk2
               try rw [ho]
               exact kind_5 u w hu
  cases t6 : (u.toList == [61, 61])
  case true => have hu := beq_iff_eq.1 t6; have ho : opK u.toList = 6 := by rw [hu, opK_6]
               try rw [ho] at hk
               try rw [ho] at hk2
               try rw [ho]
               exact kind_6 u w hu
  cases t7 : (u.toList == [33, 61])
  case true => have hu := beq_iff_eq.1 t7; have ho : opK u.toList = 7 := by rw [hu, opK_7]
               try rw [ho] at hk
               try rw [ho] at hk2
               try rw [ho]
               exact kind_7 u w hu
  cases t8 : (u.toList == [60])
  case true => have hu := beq_iff_eq.1 t8; have ho : opK u.toList = 8 := by rw [hu, opK_8]
               try rw [ho] at hk
               try rw [ho] at hk2
               try rw [ho]
               exact kind_8 u w hu
  cases t9 : (u.toList == [60, 61])
  case true => have hu := beq_iff_eq.1 t9; have ho : opK u.toList = 9 := by rw [hu, opK_9]
               try rw [ho] at hk
               try rw [ho] at hk2
               try rw [ho]
               exact kind_9 u w hu
  cases t10 : (u.toList == [62])
  case true => have hu := beq_iff_eq.1 t10; have ho : opK u.toList = 10 := by rw [hu, opK_10]
               try rw [ho] at hk
               try rw [ho] at hk2
               try rw [ho]
               exact kind_10 u w hu
  cases t11 : (u.toList == [62, 61])
  case true => have hu := beq_iff_eq.1 t11; have ho : opK u.toList = 11 := by rw [hu, opK_11]
               try rw [ho] at hk
               try rw [ho] at hk2
               try rw [ho]
               exact kind_11 u w hu
  have ho := opK_none t0 t1 t2 t3 t4 t5 t6 t7 t8 t9 t10 t11
  try rw [ho] at hk
  try rw [ho] at hk2
  try rw [ho]
  omega

theorem kindN_any (u : ByteArray) (w : World) (hk : ¬ opK u.toList < 12) : Calls Tryz.prog 23 #[.string u] w fun e w' => ∃ c : Int, (c = 0 ∨ c = 3) ∧ e = .returned (.int .i64 c) ∧ w = w' := by
  cases t0 : (u.toList == [43])
  case true => have hu := beq_iff_eq.1 t0; have ho : opK u.toList = 0 := by rw [hu, opK_0]
               try rw [ho] at hk
               try rw [ho] at hk2
               try rw [ho]
               omega
  cases t1 : (u.toList == [45])
  case true => have hu := beq_iff_eq.1 t1; have ho : opK u.toList = 1 := by rw [hu, opK_1]
               try rw [ho] at hk
               try rw [ho] at hk2
               try rw [ho]
               omega
  cases t2 : (u.toList == [42])
  case true => have hu := beq_iff_eq.1 t2; have ho : opK u.toList = 2 := by rw [hu, opK_2]
               try rw [ho] at hk
               try rw [ho] at hk2
               try rw [ho]
               omega
  cases t3 : (u.toList == [47])
  case true => have hu := beq_iff_eq.1 t3; have ho : opK u.toList = 3 := by rw [hu, opK_3]
               try rw [ho] at hk
               try rw [ho] at hk2
               try rw [ho]
               omega
  cases t4 : (u.toList == [37])
  case true => have hu := beq_iff_eq.1 t4; have ho : opK u.toList = 4 := by rw [hu, opK_4]
               try rw [ho] at hk
               try rw [ho] at hk2
               try rw [ho]
               omega
  cases t5 : (u.toList == [94])
  case true => have hu := beq_iff_eq.1 t5; have ho : opK u.toList = 5 := by rw [hu, opK_5]
               try rw [ho] at hk
               try rw [ho] at hk2
               try rw [ho]
               omega
  cases t6 : (u.toList == [61, 61])
  case true => have hu := beq_iff_eq.1 t6; have ho : opK u.toList = 6 := by rw [hu, opK_6]
               try rw [ho] at hk
               try rw [ho] at hk2
               try rw [ho]
               omega
  cases t7 : (u.toList == [33, 61])
  case true => have hu := beq_iff_eq.1 t7; have ho : opK u.toList = 7 := by rw [hu, opK_7]
               try rw [ho] at hk
               try rw [ho] at hk2
               try rw [ho]
               omega
  cases t8 : (u.toList == [60])
  case true => have hu := beq_iff_eq.1 t8; have ho : opK u.toList = 8 := by rw [hu, opK_8]
               try rw [ho] at hk
               try rw [ho] at hk2
               try rw [ho]
               omega
  cases t9 : (u.toList == [60, 61])
  case true => have hu := beq_iff_eq.1 t9; have ho : opK u.toList = 9 := by rw [hu, opK_9]
               try rw [ho] at hk
               try rw [ho] at hk2
               try rw [ho]
               omega
  cases t10 : (u.toList == [62])
  case true => have hu := beq_iff_eq.1 t10; have ho : opK u.toList = 10 := by rw [hu, opK_10]
               try rw [ho] at hk
               try rw [ho] at hk2
               try rw [ho]
               omega
  cases t11 : (u.toList == [62, 61])
  case true => have hu := beq_iff_eq.1 t11; have ho : opK u.toList = 11 := by rw [hu, opK_11]
               try rw [ho] at hk
               try rw [ho] at hk2
               try rw [ho]
               omega
  have ho := opK_none t0 t1 t2 t3 t4 t5 t6 t7 t8 t9 t10 t11
  try rw [ho] at hk
  try rw [ho] at hk2
  try rw [ho]
  exact kind_other u w t0 t1 t2 t3 t4 t5 t6 t7 t8 t9 t10 t11

theorem rval_any (u : ByteArray) (a b : Nat) (w : World) (ha : W64 a) (hb : W64 b) (hk : opK u.toList < 6) : Calls Tryz.prog 39 #[.string u, .float .f64 a, .float .f64 b] w (FRet (valS (opK u.toList) a b) w) := by
  cases t0 : (u.toList == [43])
  case true => have hu := beq_iff_eq.1 t0; have ho : opK u.toList = 0 := by rw [hu, opK_0]
               try rw [ho] at hk
               try rw [ho] at hk2
               try rw [ho]
               exact rval_0 u a b w ha hb hu
  cases t1 : (u.toList == [45])
  case true => have hu := beq_iff_eq.1 t1; have ho : opK u.toList = 1 := by rw [hu, opK_1]
               try rw [ho] at hk
               try rw [ho] at hk2
               try rw [ho]
               exact rval_1 u a b w ha hb hu
  cases t2 : (u.toList == [42])
  case true => have hu := beq_iff_eq.1 t2; have ho : opK u.toList = 2 := by rw [hu, opK_2]
               try rw [ho] at hk
               try rw [ho] at hk2
               try rw [ho]
               exact rval_2 u a b w ha hb hu
  cases t3 : (u.toList == [47])
  case true => have hu := beq_iff_eq.1 t3; have ho : opK u.toList = 3 := by rw [hu, opK_3]
               try rw [ho] at hk
               try rw [ho] at hk2
               try rw [ho]
               exact rval_3 u a b w ha hb hu
  cases t4 : (u.toList == [37])
  case true => have hu := beq_iff_eq.1 t4; have ho : opK u.toList = 4 := by rw [hu, opK_4]
               try rw [ho] at hk
               try rw [ho] at hk2
               try rw [ho]
               exact rval_4 u a b w ha hb hu
  cases t5 : (u.toList == [94])
  case true => have hu := beq_iff_eq.1 t5; have ho : opK u.toList = 5 := by rw [hu, opK_5]
               try rw [ho] at hk
               try rw [ho] at hk2
               try rw [ho]
               exact rval_5 u a b w ha hb hu
  cases t6 : (u.toList == [61, 61])
  case true => have hu := beq_iff_eq.1 t6; have ho : opK u.toList = 6 := by rw [hu, opK_6]
               try rw [ho] at hk
               try rw [ho] at hk2
               try rw [ho]
               omega
  cases t7 : (u.toList == [33, 61])
  case true => have hu := beq_iff_eq.1 t7; have ho : opK u.toList = 7 := by rw [hu, opK_7]
               try rw [ho] at hk
               try rw [ho] at hk2
               try rw [ho]
               omega
  cases t8 : (u.toList == [60])
  case true => have hu := beq_iff_eq.1 t8; have ho : opK u.toList = 8 := by rw [hu, opK_8]
               try rw [ho] at hk
               try rw [ho] at hk2
               try rw [ho]
               omega
  cases t9 : (u.toList == [60, 61])
  case true => have hu := beq_iff_eq.1 t9; have ho : opK u.toList = 9 := by rw [hu, opK_9]
               try rw [ho] at hk
               try rw [ho] at hk2
               try rw [ho]
               omega
  cases t10 : (u.toList == [62])
  case true => have hu := beq_iff_eq.1 t10; have ho : opK u.toList = 10 := by rw [hu, opK_10]
               try rw [ho] at hk
               try rw [ho] at hk2
               try rw [ho]
               omega
  cases t11 : (u.toList == [62, 61])
  case true => have hu := beq_iff_eq.1 t11; have ho : opK u.toList = 11 := by rw [hu, opK_11]
               try rw [ho] at hk
               try rw [ho] at hk2
               try rw [ho]
               omega
  have ho := opK_none t0 t1 t2 t3 t4 t5 t6 t7 t8 t9 t10 t11
  try rw [ho] at hk
  try rw [ho] at hk2
  try rw [ho]
  omega

theorem rhold_any (u : ByteArray) (a b : Nat) (w : World) (hk : ¬ opK u.toList < 6) (hk2 : opK u.toList < 12) : Calls Tryz.prog 40 #[.string u, .float .f64 a, .float .f64 b] w fun e w' => e = .returned (.bool (holdsS (opK u.toList) a b)) ∧ w = w' := by
  cases t0 : (u.toList == [43])
  case true => have hu := beq_iff_eq.1 t0; have ho : opK u.toList = 0 := by rw [hu, opK_0]
               try rw [ho] at hk
               try rw [ho] at hk2
               try rw [ho]
               omega
  cases t1 : (u.toList == [45])
  case true => have hu := beq_iff_eq.1 t1; have ho : opK u.toList = 1 := by rw [hu, opK_1]
               try rw [ho] at hk
               try rw [ho] at hk2
               try rw [ho]
               omega
  cases t2 : (u.toList == [42])
  case true => have hu := beq_iff_eq.1 t2; have ho : opK u.toList = 2 := by rw [hu, opK_2]
               try rw [ho] at hk
               try rw [ho] at hk2
               try rw [ho]
               omega
  cases t3 : (u.toList == [47])
  case true => have hu := beq_iff_eq.1 t3; have ho : opK u.toList = 3 := by rw [hu, opK_3]
               try rw [ho] at hk
               try rw [ho] at hk2
               try rw [ho]
               omega
  cases t4 : (u.toList == [37])
  case true => have hu := beq_iff_eq.1 t4; have ho : opK u.toList = 4 := by rw [hu, opK_4]
               try rw [ho] at hk
               try rw [ho] at hk2
               try rw [ho]
               omega
  cases t5 : (u.toList == [94])
  case true => have hu := beq_iff_eq.1 t5; have ho : opK u.toList = 5 := by rw [hu, opK_5]
               try rw [ho] at hk
               try rw [ho] at hk2
               try rw [ho]
               omega
  cases t6 : (u.toList == [61, 61])
  case true => have hu := beq_iff_eq.1 t6; have ho : opK u.toList = 6 := by rw [hu, opK_6]
               try rw [ho] at hk
               try rw [ho] at hk2
               try rw [ho]
               exact rhold_6 u a b w hu
  cases t7 : (u.toList == [33, 61])
  case true => have hu := beq_iff_eq.1 t7; have ho : opK u.toList = 7 := by rw [hu, opK_7]
               try rw [ho] at hk
               try rw [ho] at hk2
               try rw [ho]
               exact rhold_7 u a b w hu
  cases t8 : (u.toList == [60])
  case true => have hu := beq_iff_eq.1 t8; have ho : opK u.toList = 8 := by rw [hu, opK_8]
               try rw [ho] at hk
               try rw [ho] at hk2
               try rw [ho]
               exact rhold_8 u a b w hu
  cases t9 : (u.toList == [60, 61])
  case true => have hu := beq_iff_eq.1 t9; have ho : opK u.toList = 9 := by rw [hu, opK_9]
               try rw [ho] at hk
               try rw [ho] at hk2
               try rw [ho]
               exact rhold_9 u a b w hu
  cases t10 : (u.toList == [62])
  case true => have hu := beq_iff_eq.1 t10; have ho : opK u.toList = 10 := by rw [hu, opK_10]
               try rw [ho] at hk
               try rw [ho] at hk2
               try rw [ho]
               exact rhold_10 u a b w hu
  cases t11 : (u.toList == [62, 61])
  case true => have hu := beq_iff_eq.1 t11; have ho : opK u.toList = 11 := by rw [hu, opK_11]
               try rw [ho] at hk
               try rw [ho] at hk2
               try rw [ho]
               exact rhold_11 u a b w hu
  have ho := opK_none t0 t1 t2 t3 t4 t5 t6 t7 t8 t9 t10 t11
  try rw [ho] at hk
  try rw [ho] at hk2
  try rw [ho]
  omega


theorem w64_one : W64 4607182418800017408 := by unfold W64; decide +kernel
theorem arith_any (u : ByteArray) (w : World) : Calls Tryz.prog 13 #[.string u] w fun e w' => e = .returned (.bool (decide (opK u.toList < 6))) ∧ ∃ n, w' = w.drewN n := by
  by_cases hk : opK u.toList < 6
  · rw [decide_eq_true hk]
    have HC := Lib.hid (reck_any u _ _ w w64_one w64_one hk)
    clear hk
    go_enter Tryz.func13, Tryz.ntmps13
    go_wp2_with (go_at_call 32; refine HC.out.mono ?_; rintro e w1 ⟨r, n, rfl, _, rfl⟩)
    go_ret
    exact ⟨rfl, n, rfl⟩
  · rw [decide_eq_false hk]
    have HC := Lib.hid (reckN_any u 4607182418800017408 4607182418800017408 w hk)
    clear hk
    go_enter Tryz.func13, Tryz.ntmps13
    go_wp2_with (go_at_call 32; refine HC.out.mono ?_; rintro e w1 ⟨rfl, rfl⟩)
    go_ret
    exact ⟨rfl, 0, rfl⟩
theorem compar_any (u : ByteArray) (w : World) (hk : ¬ opK u.toList < 6) : Calls Tryz.prog 14 #[.string u] w fun e w' => e = .returned (.bool (decide (opK u.toList < 12))) ∧ w = w' := by
  by_cases hk2 : opK u.toList < 12
  · rw [decide_eq_true hk2]
    have HC := Lib.hid (hold_any u 4607182418800017408 4607182418800017408 w hk hk2)
    clear hk hk2
    go_enter Tryz.func14, Tryz.ntmps14
    go_wp2_with (go_at_call 33; refine HC.out.mono ?_; rintro e w1 ⟨rfl, rfl⟩)
    go_ret
    exact ⟨rfl, rfl⟩
  · rw [decide_eq_false hk2]
    have HC := Lib.hid (holdN_any u 4607182418800017408 4607182418800017408 w hk2)
    clear hk hk2
    go_enter Tryz.func14, Tryz.ntmps14
    go_wp2_with (go_at_call 33; refine HC.out.mono ?_; rintro e w1 ⟨rfl, rfl⟩)
    go_ret
    exact ⟨rfl, rfl⟩

theorem nameless_any (a : Option Addr) (n cap : Nat) (ls : List Lb) (w : World) (hr : LRow w a n ls) (hn : n ≤ 4398046511104) :
    Calls Tryz.prog 16 #[.slice a n cap] w (NewL (sansL MN ls) w) := by
  have HC := Lib.hid (with_none a n cap ls MN w hr hn)
  clear hr
  go_enter Tryz.func16, Tryz.ntmps16
  go_wp2_with (go_at_call 35; refine HC.out.mono ?_; rintro e w1 ⟨v, rfl, ow, bl⟩)
  go_ret
  exact ⟨v, rfl, ow, bl⟩
theorem bare_any (a : Option Addr) (n cap : Nat) (ls : List Lb) (w : World) (hr : LRow w a n ls) (hn : n ≤ 4398046511104) :
    Calls Tryz.prog 26 #[.slice a n cap] w (NewL (sansL MN ls) w) := by
  have HC := Lib.hid (rwith_none a n cap ls MN w hr hn)
  clear hr
  go_enter Tryz.func26, Tryz.ntmps26
  go_wp2_with (go_at_call 42; refine HC.out.mono ?_; rintro e w1 ⟨v, rfl, ow, bl⟩)
  go_ret
  exact ⟨v, rfl, ow, bl⟩

/-- An answer: the error, the elements by class. -/
def AnsRet (err : Int) (ks : List Ek) (w : World) (e : Ending) (w' : World) : Prop :=
  ∃ a cap es, e = .returned (.tuple #[.slice a es.length cap, .int .i64 err]) ∧ SlK a es.length cap ∧ ERow w' a es.length es ∧ es.map (fun x => clK x.key) = ks ∧ Below w.heap.size w w'
/-- What settled and done answer. -/
def setE (ks : List Ek) : Int := match vecK ks with | none => 6 | some _ => 0
def setV (ks : List Ek) : List Ek := match vecK ks with | none => [] | some ms => ms

theorem vec_cl {ks : List Ek} {es : List Er} (h : es.map (fun x => clK x.key) = ks) : (vecK (es.map Er.key)).map (List.map clK) = vecK ks := by
  rw [clK_vec, List.map_map, ← h]; rfl

theorem VecGood.row {es0 : List Er} {ms : List Ek} {w w' : World} {e : Ending} (h : VecGood es0 ms w e w') : ∃ a cap es, e = .returned (.tuple #[.slice a es.length cap, .int .i64 0]) ∧ SlK a es.length cap ∧ ERow w' a es.length es ∧ es.map Er.key = ms ∧ (∀ x ∈ es, ∃ y ∈ es0, x.f = y.f) ∧ Below w.heap.size w w' := by
  obtain ⟨g, cap, es, h1, h2, h3, h4, h5, h6, h7, h8, h9⟩ := h
  refine ⟨some ⟨g, 0, none⟩, cap, es, h1, ⟨h2, fun h => by cases h⟩, ⟨rfl, h3, fun x hx => (h6 x hx).1.ok, fun _ => ⟨g, 0, rfl, h5.1, fun i hi => ⟨?_, ?_⟩⟩⟩, h7, h8, h9⟩
  · have := (h5.2 i hi 0 (by omega)).1; rw [Nat.add_zero] at this; exact this
  · exact (h5.2 i hi 1 (by omega)).1

theorem settled_any (a : Option Addr) (n cap : Nat) (es : List Er) (ks : List Ek) (w : World) (hr : ERow w a n es) (hks : es.map (fun x => clK x.key) = ks) :
    Calls Tryz.prog 17 #[.slice a n cap] w (AnsRet (setE ks) (setV ks) w) := by
  have HC := Lib.hid (vector_any a n cap es w hr)
  have HV := Lib.hid (vec_cl hks)
  clear hr hks
  unfold setE setV
  cases hv : vecK ks with
  | none =>
    have hv2 : vecK (es.map Er.key) = none := by have := HV.out; rw [hv] at this; simpa using this
    unfold VecRet at HC
    rw [hv2] at HC
    dsimp only at HC
    clear hv HV hv2
    go_enter Tryz.func17, Tryz.ntmps17
    go_wp2_with (go_at_call 12; refine HC.out.mono ?_; rintro e w1 ⟨rfl, bl⟩)
    go_ret2
    exact ⟨none, 0, [], rfl, ⟨Nat.le_refl _, fun _ => rfl⟩, ERow.nothing _, rfl, bl⟩
  | some ms =>
    obtain ⟨rs, hv2, hrs⟩ : ∃ rs, vecK (es.map Er.key) = some rs ∧ rs.map clK = ms := by
      have := HV.out
      rw [hv] at this
      cases h : vecK (es.map Er.key) with
      | none => rw [h] at this; cases this
      | some rs => rw [h] at this; exact ⟨rs, rfl, by simpa using this⟩
    have HRS := Lib.hid hrs
    unfold VecRet at HC
    rw [hv2] at HC
    dsimp only at HC
    clear hv HV hv2 hrs
    go_enter Tryz.func17, Tryz.ntmps17
    go_wp2_with (go_at_call 12; refine HC.out.mono ?_; intro e w1 hg; obtain ⟨a2, c2, es2, rfl, h1, h2, h3, h4, h5⟩ := hg.row; have HH := Lib.hid (And.intro h1 (And.intro h2 (And.intro h3 h5))); clear h1 h2 h3 h4 h5 hg)
    go_ret2
    obtain ⟨h1, h2, h3, h5⟩ := HH.out
    exact ⟨a2, c2, es2, rfl, h1, h2, by rw [← HRS.out, ← h3, List.map_map]; rfl, h5⟩

theorem done_any (a : Option Addr) (n cap : Nat) (es : List Er) (ks : List Ek) (w : World) (hr : ERow w a n es) (hs : SlK a n cap) (hks : es.map (fun x => clK x.key) = ks) :
    Calls Tryz.prog 25 #[.slice a n cap] w (AnsRet (setE ks) (setV ks) w) := by
  have HC := Lib.hid (rvector_any a n cap es w hr hs)
  have HV := Lib.hid (vec_cl hks)
  clear hr hks hs
  unfold setE setV
  cases hv : vecK ks with
  | none =>
    have hv2 : vecK (es.map Er.key) = none := by have := HV.out; rw [hv] at this; simpa using this
    unfold RVecRet at HC
    rw [hv2] at HC
    dsimp only at HC
    clear hv HV hv2
    go_enter Tryz.func25, Tryz.ntmps25
    go_wp2_with (go_at_call 22; refine HC.out.mono ?_; rintro e w1 ⟨rfl, bl⟩)
    go_ret2
    exact ⟨none, 0, [], rfl, ⟨Nat.le_refl _, fun _ => rfl⟩, ERow.nothing _, rfl, bl⟩
  | some ms =>
    obtain ⟨rs, hv2, hrs⟩ : ∃ rs, vecK (es.map Er.key) = some rs ∧ rs.map clK = ms := by
      have := HV.out
      rw [hv] at this
      cases h : vecK (es.map Er.key) with
      | none => rw [h] at this; cases this
      | some rs => rw [h] at this; exact ⟨rs, rfl, by simpa using this⟩
    have HRS := Lib.hid hrs
    unfold RVecRet at HC
    rw [hv2] at HC
    dsimp only at HC
    clear hv HV hv2 hrs
    go_enter Tryz.func25, Tryz.ntmps25
    go_wp2_with (go_at_call 22; refine HC.out.mono ?_; rintro e w1 ⟨a2, c2, es2, rfl, h1, h2, h3, h4, h5⟩; have HH := Lib.hid (And.intro h1 (And.intro h2 (And.intro h3 h5))); clear h1 h2 h3 h4 h5)
    go_ret2
    obtain ⟨h1, h2, h3, h5⟩ := HH.out
    exact ⟨a2, c2, es2, rfl, h1, h2, by rw [← HRS.out, ← h3, List.map_map]; rfl, h5⟩

end Go.Proofs.YtmmfjknnbkcniaaGreat

namespace Go.Proofs.YtmmfjknnbkcniaaGreat
open Go.Fl Go.Rel Go.RowKit Go.Sort
set_option linter.unusedSimpArgs false
set_option linter.unusedVariables false

/-- Does anything come out; is it an element as it was; the value's class. -/
noncomputable def stepO (k a b : Nat) (yes : Bool) : Bool := if k < 6 then true else if yes then true else holdsS k a b
def stepF (k : Nat) (yes : Bool) : Bool := if k < 6 then false else !yes
noncomputable def stepV (k a b keep : Nat) (yes : Bool) : Nat := if k < 6 then valS k a b else if yes then (if holdsS k a b then w1 else 0) else cn keep

def WorkRet (k a b keep : Nat) (yes : Bool) (w : World) (e : Ending) (w' : World) : Prop :=
  ∃ r, e = .returned (.agg #[.float .f64 r, .bool (stepO k a b yes), .bool (stepF k yes)]) ∧ cn r = stepV k a b keep yes ∧ Below w.heap.size w w'

set_option maxHeartbeats 4000000 in
set_option maxRecDepth 100000 in
theorem worked_any (u : ByteArray) (a b keep : Nat) (yes : Bool) (w : World) (ha : W64 a) (hb : W64 b) (hk : opK u.toList < 12) :
    Calls Tryz.prog 15 #[.string u, .float .f64 a, .float .f64 b, .float .f64 keep, .bool yes] w (WorkRet (opK u.toList) a b keep yes w) := by
  have HT0 := Lib.hid (Bk.Is.made w #[.float .f64 0, .bool false, .bool false] 43)
  have BL0 := Lib.hid ((Below.refl w.heap.size w).alloc (Nat.le_refl _) (.cells #[.float .f64 0, .bool false, .bool false] 43))
  by_cases hk6 : opK u.toList < 6
  · have HC : Hid (∀ w, _) := Lib.hid fun w => reck_any u a b w ha hb hk6
    have HO : Hid (stepO (opK u.toList) a b yes = true) := Lib.hid (if_pos hk6)
    have HF : Hid (stepF (opK u.toList) yes = false) := Lib.hid (if_pos hk6)
    have HV : Hid (stepV (opK u.toList) a b keep yes = valS (opK u.toList) a b) := Lib.hid (if_pos hk6)
    clear ha hb hk hk6
    go_enter Tryz.func15, Tryz.ntmps15
    go_wp2_with (first | (go_at_call 32; refine (HC.out _).mono ?_; rintro e w1 ⟨r, n, rfl, hr, rfl⟩; have HR := Lib.hid hr; have HI := Lib.hid (HT0.out.drewN n); have HB := Lib.hid (BL0.out.drewN' n); clear hr) | (refine Bk.is_store 43 rfl ?_; refine wpList_store_row rfl 43 _ _ rfl w.heap.size #[.float .f64 r, .bool true, .bool false] rfl rfl 43 _ HI.out (by kernel_rfl) rfl (by kernel_rfl) ?_))
    (try simp only [Exit.inBlock, Exit.then])
    refine Bk.ret_block (HI.out.setRow _) rfl rfl Tryz.underlying43 rfl (by kernel_rfl) rfl ?_
    exact ⟨r, by rw [HO.out, HF.out], by rw [HV.out]; exact HR.out, Bk.below_setRow HB.out (Nat.le_refl _) _⟩
  · have HC : Hid (∀ w, _) := Lib.hid fun w => reckN_any u a b w hk6
    have HH : Hid (∀ w, _) := Lib.hid fun w => hold_any u a b w hk6 hk
    have HTr := Lib.hid (truth_any)
    have HO : Hid (stepO (opK u.toList) a b yes = if yes then true else holdsS (opK u.toList) a b) := Lib.hid (if_neg hk6)
    have HF : Hid (stepF (opK u.toList) yes = !yes) := Lib.hid (if_neg hk6)
    have HV : Hid (stepV (opK u.toList) a b keep yes = if yes then (if holdsS (opK u.toList) a b then w1 else 0) else cn keep) := Lib.hid (if_neg hk6)
    generalize holdsS (opK u.toList) a b = h at *
    clear ha hb hk hk6
    cases yes with
    | true =>
      go_enter Tryz.func15, Tryz.ntmps15
      go_wp2_with (first | (go_at_call 32; refine (HC.out _).mono ?_; rintro e w1 ⟨rfl, rfl⟩) | (go_at_call 33; refine (HH.out _).mono ?_; rintro e w1 ⟨rfl, rfl⟩) | (go_at_call 34; refine (HTr.out _ _).mono ?_; rintro e w1 ⟨rfl, rfl⟩) | (refine Bk.is_store 43 rfl ?_; refine wpList_store_row rfl 43 _ _ rfl w.heap.size #[.float .f64 (tru h), .bool true, .bool false] rfl rfl 43 _ HT0.out (by kernel_rfl) rfl (by kernel_rfl) ?_))
      (try simp only [Exit.inBlock, Exit.then])
      refine Bk.ret_block (HT0.out.setRow _) rfl rfl Tryz.underlying43 rfl (by kernel_rfl) rfl ?_
      exact ⟨_, by rw [HO.out, HF.out]; rfl, by rw [HV.out, cn_tru]; rfl, Bk.below_setRow BL0.out (Nat.le_refl _) _⟩
    | false =>
      go_enter Tryz.func15, Tryz.ntmps15
      go_wp2_with (first | (go_at_call 32; refine (HC.out _).mono ?_; rintro e w1 ⟨rfl, rfl⟩) | (go_at_call 33; refine (HH.out _).mono ?_; rintro e w1 ⟨rfl, rfl⟩) | (refine Bk.is_store 43 rfl ?_; refine wpList_store_row rfl 43 _ _ rfl w.heap.size #[.float .f64 keep, .bool h, .bool true] rfl rfl 43 _ HT0.out (by kernel_rfl) rfl (by kernel_rfl) ?_))
      (try simp only [Exit.inBlock, Exit.then])
      refine Bk.ret_block (HT0.out.setRow _) rfl rfl Tryz.underlying43 rfl (by kernel_rfl) rfl ?_
      exact ⟨_, by rw [HO.out, HF.out]; rfl, by rw [HV.out]; rfl, Bk.below_setRow BL0.out (Nat.le_refl _) _⟩

theorem NewL.own {ls : List Lb} {w : World} {e : Ending} {w' : World} (h : NewL ls w e w') :
    ∃ a c, e = .returned (.slice a ls.length c) ∧ OwnL w.heap.size w' (.slice a ls.length c) ls ∧ Below w.heap.size w w' := by
  obtain ⟨v, h1, h2, h3⟩ := h
  rcases h2.form with ⟨rfl, rfl⟩ | ⟨g, cap, rfl, _⟩
  · exact ⟨none, 0, h1, h2, h3⟩
  · exact ⟨_, _, h1, h2, h3⟩
theorem OwnL.setRow {B g : Nat} {w : World} {v : Value} {ls : List Lb} (h : OwnL B w v ls) (hg : g < B) (vs : Array Value) : OwnL B (w.setRow g vs) v ls :=
  h.stay fun k hk => by
    have := (h.lt k hk).1
    unfold World.setRow
    simp [Array.getElem?_modify]
    intro e; omega

theorem results_block_tmp {P : Program} {fn : Func} {p q : Tmp} {ty : TypeId} {B : Nat} {cs : Array Value} {t : TypeId} {tmps : Array Value} {w : World} {d : TypeDesc} (hi : Bk.Is w B cs t) (h : fn.results = #[.cell p ty, .tmp q])
    (hp : tmps.getD p undef = .pointer (some ⟨B, 0, none⟩)) (hu : P.underlying ty = some d) (hd : (match d with | .struct _ | .array _ _ => true | _ => false) = true)
    (hz : (P.info? ty).map (·.size) = some cs.size) : (results fn tmps).run P w = .ok (.tuple #[.agg cs, tmps.getD q undef]) w := by
  have hl := run_loadVar_row (P := P) w B t ty cs (0, 0) d hi hu hd hz
  rw [results_cell_tmp h, hp]
  show ((loadVar ty ⟨B, 0, none⟩).run P w).andThen _ = _
  rw [hl]; rfl

theorem cell_set2 {w : World} {g i j : Nat} {q : Addr} {u v x : Value} (h : w.cell? q = some x) (hne : q.block ≠ g) : ((w.setCell ⟨g, i, none⟩ u).setCell ⟨g, j, none⟩ v).cell? q = some x := by
  rw [World.cell?_setCell_other _ _ _ _ (fun e => hne (by rw [← e])), World.cell?_setCell_other _ _ _ _ (fun e => hne (by rw [← e])), h]
theorem OwnL.setCell {B g i : Nat} {w : World} {v u : Value} {ls : List Lb} (h : OwnL B w v ls) (hg : g < B) : OwnL B (w.setCell ⟨g, i, none⟩ u) v ls :=
  h.stay fun k hk => by
    have := (h.lt k hk).1
    unfold World.setCell
    simp [Array.getElem?_modify]
    intro e; omega

def OneRet (k a b : Nat) (yes : Bool) (x : Er) (w : World) (e : Ending) (w' : World) : Prop :=
  ∃ y : Er, e = .returned (.tuple #[.agg #[.slice y.a y.n y.c, .float .f64 y.f], .bool (stepO k a b yes)]) ∧ ErOwn w.heap.size w' y ∧ cn y.f = stepV k a b x.f yes ∧ y.ls = (if stepF k yes then sansL ⟨#[]⟩ x.ls else sansL MN x.ls) ∧ Below w.heap.size w w'

set_option maxHeartbeats 4000000 in
set_option maxRecDepth 100000 in
theorem one_any (u : ByteArray) (a b : Nat) (x : Er) (yes : Bool) (w : World) (ha : W64 a) (hb : W64 b) (hk : opK u.toList < 12) (hx : ErOk w x) :
    Calls Tryz.prog 24 #[.string u, .agg #[.slice x.a x.n x.c, .float .f64 x.f], .float .f64 a, .float .f64 b, .bool yes] w (OneRet (opK u.toList) a b yes x w) := by
  obtain ⟨xa, xn, xc, xf, xl⟩ := x
  have HX := Lib.hid hx
  obtain ⟨Z, hZ⟩ : ∃ Z, Z = (w.alloc (.cells #[.slice xa xn xc, .float .f64 xf] 31)).alloc (.cells #[.slice none 0 0, .float .f64 0] 31) := ⟨_, rfl⟩
  have HT0 : Hid (Bk.Is Z (w.heap.size + 1) #[.slice none 0 0, .float .f64 0] 31) := Lib.hid (by
    have := Bk.Is.made (w.alloc (.cells #[.slice xa xn xc, .float .f64 xf] 31)) #[.slice none 0 0, .float .f64 0] 31
    rw [show (w.alloc (.cells #[.slice xa xn xc, .float .f64 xf] 31)).heap.size = w.heap.size + 1 by simp] at this
    rw [hZ]; exact this)
  have HT1 : Hid (Bk.Is Z w.heap.size #[.slice xa xn xc, .float .f64 xf] 31) := Lib.hid (by rw [hZ]; exact (Bk.Is.made w _ _).alloc _)
  have BL0 : Hid (Below w.heap.size w Z) := Lib.hid (by rw [hZ]; exact ((Below.refl w.heap.size w).alloc (Nat.le_refl _) _).alloc (by simp) _)
  have z0 : Z.cell? ⟨w.heap.size, 0, none⟩ = some (.slice xa xn xc) := by rw [HT1.out.cell]; rfl
  have z1 : Z.cell? ⟨w.heap.size, 1, none⟩ = some (.float .f64 xf) := by rw [HT1.out.cell]; rfl
  have HZ : Hid (w.heap.size + 1 < Z.heap.size) := Lib.hid HT0.out.lt
  have HSM : Hid (∀ N, SmallL (sansL N xl)) := Lib.hid fun N => sansL_small N hx.1.2.2.1
  have HSL : Hid (∀ N, (sansL N xl).length ≤ 4398046511104) := Lib.hid fun N => Nat.le_trans (sansL_length N xl) (by have := hx.1.1; have := hx.2.2; dsimp only at *; omega)
  have HBR : Hid (∀ W, Below w.heap.size w W → Calls Tryz.prog 26 #[.slice xa xn xc] W fun e w' => ∃ a c, e = .returned (.slice a (sansL MN xl).length c) ∧ OwnL W.heap.size w' (.slice a (sansL MN xl).length c) (sansL MN xl) ∧ Below W.heap.size W w') := Lib.hid fun W hW =>
    (bare_any xa xn xc xl W (HX.out.1.below hW) HX.out.2.2).mono fun e w' h => h.own
  have HKD : Hid (∀ w, _) := Lib.hid fun w => kindY_any u w hk
  by_cases hk6 : opK u.toList < 6
  · have HC : Hid (∀ w, _) := Lib.hid fun w => rval_any u a b w ha hb hk6
    have HO : Hid (stepO (opK u.toList) a b yes = true) := Lib.hid (if_pos hk6)
    have HF : Hid (stepF (opK u.toList) yes = false) := Lib.hid (if_pos hk6)
    have HV : Hid (stepV (opK u.toList) a b xf yes = valS (opK u.toList) a b) := Lib.hid (if_pos hk6)
    have hk1 : kindS (opK u.toList) = 1 := if_pos hk6
    rw [hk1] at HKD
    clear ha hb hk hk6 hx hk1
    go_enter Tryz.func24, Tryz.ntmps24
    go_wp2_with fail
    refine (HKD.out _).mono ?_
    rintro e w1 ⟨rfl, rfl⟩
    rw [← hZ]
    clear hZ
    go_wp2_with (first | (go_at_call 26; refine (HBR.out _ BL0.out).mono ?_; rintro e w2 ⟨a', c', rfl, lr, b2⟩; have HL := Lib.hid lr; have HB2 := Lib.hid b2; have HI := Lib.hid (HT0.out.below b2 HT0.out.lt); have HBB := Lib.hid (BL0.out.trans (b2.mono BL0.out.size)); clear lr b2) | (go_at_call 39; refine (HC.out _).mono ?_; rintro e w3 ⟨r, nd, rfl, hr, rfl⟩; have HR := Lib.hid hr; have HI := Lib.hid (HI.out.drewN nd); have HBB := Lib.hid (HBB.out.drewN' nd); have HL := Lib.hid (HL.out.drewN nd); clear hr) | (refine Bk.is_store 31 rfl ?_; refine wpList_store_row rfl 31 _ _ rfl (w.heap.size + 1) #[.slice a' (sansL MN xl).length c', .float .f64 r] rfl rfl 31 _ HI.out (by kernel_rfl) rfl (by kernel_rfl) ?_))
    (try simp only [Exit.inBlock, Exit.then])
    refine bodyPost_ret (results_block_tmp (HI.out.setRow _) rfl rfl Tryz.underlying31 rfl (by kernel_rfl)) rfl ?_
    exact ⟨⟨a', (sansL MN xl).length, c', r, sansL MN xl⟩, by rw [HO.out]; rfl, ⟨(HL.out.setRow HZ.out _).mono BL0.out.size, HSM.out _, HSL.out _, rfl⟩, by rw [HV.out]; exact HR.out, by rw [HF.out]; rfl, Bk.below_setRow HBB.out (Nat.le_succ _) _⟩
  · have HC : Hid (∀ w, _) := Lib.hid fun w => rhold_any u a b w hk6 hk
    have HTr := Lib.hid (yesno_any)
    have HO : Hid (stepO (opK u.toList) a b yes = if yes then true else holdsS (opK u.toList) a b) := Lib.hid (if_neg hk6)
    have HF : Hid (stepF (opK u.toList) yes = !yes) := Lib.hid (if_neg hk6)
    have HV : Hid (stepV (opK u.toList) a b xf yes = if yes then (if holdsS (opK u.toList) a b then w1 else 0) else cn xf) := Lib.hid (if_neg hk6)
    generalize holdsS (opK u.toList) a b = h at *
    have hk1 : kindS (opK u.toList) = 2 := if_neg hk6
    rw [hk1] at HKD
    clear ha hb hk hk6 hx hk1
    cases yes with
    | true =>
      go_enter Tryz.func24, Tryz.ntmps24
      go_wp2_with fail
      refine (HKD.out _).mono ?_
      rintro e w1 ⟨rfl, rfl⟩
      rw [← hZ]
      clear hZ
      go_wp2_with (first | (go_at_call 26; refine (HBR.out _ BL0.out).mono ?_; rintro e w2 ⟨a', c', rfl, lr, b2⟩; have HL := Lib.hid lr; have HB2 := Lib.hid b2; have HI := Lib.hid (HT0.out.below b2 HT0.out.lt); have HBB := Lib.hid (BL0.out.trans (b2.mono BL0.out.size)); clear lr b2) | (go_at_call 40; refine (HC.out _).mono ?_; rintro e w3 ⟨rfl, rfl⟩) | (go_at_call 41; refine (HTr.out _ _).mono ?_; rintro e w3 ⟨rfl, rfl⟩) | (refine Bk.is_store 31 rfl ?_; refine wpList_store_row rfl 31 _ _ rfl (w.heap.size + 1) #[.slice a' (sansL MN xl).length c', .float .f64 (tru h)] rfl rfl 31 _ HI.out (by kernel_rfl) rfl (by kernel_rfl) ?_))
      (try simp only [Exit.inBlock, Exit.then])
      refine bodyPost_ret (results_block_tmp (HI.out.setRow _) rfl rfl Tryz.underlying31 rfl (by kernel_rfl)) rfl ?_
      exact ⟨⟨a', (sansL MN xl).length, c', tru h, sansL MN xl⟩, by rw [HO.out]; rfl, ⟨(HL.out.setRow HZ.out _).mono BL0.out.size, HSM.out _, HSL.out _, rfl⟩, by rw [HV.out, ← cn_tru]; rfl, by rw [HF.out]; rfl, Bk.below_setRow HBB.out (Nat.le_succ _) _⟩
    | false =>
      go_enter Tryz.func24, Tryz.ntmps24
      go_wp2_with fail
      refine (HKD.out _).mono ?_
      rintro e w1 ⟨rfl, rfl⟩
      rw [← hZ]
      clear hZ
      go_wp2_with (first | (go_at_call 40; refine (HC.out _).mono ?_; rintro e w3 ⟨rfl, rfl⟩))
      have s0 : Z.drew.cell? ⟨w.heap.size, 0, none⟩ = some (.slice xa xn xc) ∧ Z.drew.cell? ⟨w.heap.size, 1, none⟩ = some (.float .f64 xf) := ⟨z0, z1⟩
      have HWN : Hid (Calls Tryz.prog 42 #[.slice xa xn xc, .string ⟨#[]⟩, .string ⟨#[]⟩] Z.drew fun e w' => ∃ a c, e = .returned (.slice a (sansL ⟨#[]⟩ xl).length c) ∧ OwnL Z.heap.size w' (.slice a (sansL ⟨#[]⟩ xl).length c) (sansL ⟨#[]⟩ xl) ∧ Below Z.drew.heap.size Z.drew w') := Lib.hid
        ((rwith_none xa xn xc xl ⟨#[]⟩ Z.drew (HX.out.1.below (BL0.out.drewN' 1)) HX.out.2.2).mono fun e w' h => h.own)
      go_region_held3 (fun w' => w'.cell? ⟨w.heap.size, 0, none⟩ = some (.slice xa xn xc) ∧ w'.cell? ⟨w.heap.size, 1, none⟩ = some (.float .f64 xf)) (first | assumption | exact ⟨cell_set2 s2.1 (by show w.heap.size ≠ w.heap.size + 1; omega), cell_set2 s2.2 (by show w.heap.size ≠ w.heap.size + 1; omega)⟩) (first | (go_at_call 42; refine HWN.out.mono ?_; rintro e w2 ⟨a', c', rfl, lr, b2⟩; have s2 : w2.cell? ⟨w.heap.size, 0, none⟩ = some (.slice xa xn xc) ∧ w2.cell? ⟨w.heap.size, 1, none⟩ = some (.float .f64 xf) := ⟨cell_stayL s0.1 b2, cell_stayL s0.2 b2⟩; have HI := HT0.out.drew.below b2 HT0.out.lt; have d0 := HI.cell 0; have d1 := HI.cell 1; have f0 := HI.free 0; have f1 := HI.free 1; simp at d0 d1))
      have HI3 : Hid (Bk.Is ((w2.setCell ⟨w.heap.size + 1, 0, none⟩ (.slice a' (sansL ⟨#[]⟩ xl).length c')).setCell ⟨w.heap.size + 1, 1, none⟩ (.float .f64 xf)) (w.heap.size + 1) #[.slice a' (sansL ⟨#[]⟩ xl).length c', .float .f64 xf] 31) := Lib.hid ((HI.set 0 _).set 1 _)
      have HL : Hid (OwnL Z.heap.size ((w2.setCell ⟨w.heap.size + 1, 0, none⟩ (.slice a' (sansL ⟨#[]⟩ xl).length c')).setCell ⟨w.heap.size + 1, 1, none⟩ (.float .f64 xf)) (.slice a' (sansL ⟨#[]⟩ xl).length c') (sansL ⟨#[]⟩ xl)) := Lib.hid ((lr.setCell HZ.out).setCell HZ.out)
      have HBB : Hid (Below w.heap.size w ((w2.setCell ⟨w.heap.size + 1, 0, none⟩ (.slice a' (sansL ⟨#[]⟩ xl).length c')).setCell ⟨w.heap.size + 1, 1, none⟩ (.float .f64 xf))) := Lib.hid (by
        have hb := (BL0.out.drewN' 1).trans (b2.mono (BL0.out.drewN' 1).size)
        exact (hb.setCell (p := ⟨w.heap.size + 1, 0, none⟩) (by show w.heap.size ≤ w.heap.size + 1; omega) _).setCell (p := ⟨w.heap.size + 1, 1, none⟩) (by show w.heap.size ≤ w.heap.size + 1; omega) _)
      rename_i hHeld
      clear hHeld d0 d1 f0 f1 HI lr b2 s0 s2
      generalize (w2.setCell ⟨w.heap.size + 1, 0, none⟩ (.slice a' (sansL ⟨#[]⟩ xl).length c')).setCell ⟨w.heap.size + 1, 1, none⟩ (.float .f64 xf) = W5 at HI3 HL HBB ⊢
      go_wp2_with fail
      (try simp only [Exit.inBlock, Exit.then])
      refine bodyPost_ret (results_block_tmp HI3.out rfl rfl Tryz.underlying31 rfl (by kernel_rfl)) rfl ?_
      exact ⟨⟨a', (sansL ⟨#[]⟩ xl).length, c', xf, sansL ⟨#[]⟩ xl⟩, by rw [HO.out]; rfl, ⟨HL.out.mono BL0.out.size, HSM.out _, HSL.out _, rfl⟩, by rw [HV.out]; rfl, by rw [HF.out]; rfl, HBB.out⟩

end Go.Proofs.YtmmfjknnbkcniaaGreat
