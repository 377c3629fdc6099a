/- What pair's and weirref21's small functions answer, for any operator. (Printed by tools/genlbk.py.) pair.worked and weirref21.one: what becomes of one element. How an argument is opened that holds elements. Lists of names: slices.Contains, labels.stays, weirref21.has. A list of bytes that a call appends to: its own row. -/
import Derived.Test.YtmmfjknnbkcniaaGreatDoorQ11
import Derived.Test.YtmmfjknnbkcniaaGreatDoorQ18
import Derived.Laws.ResultCell
import Derived.Test.YtmmfjknnbkcniaaGreatDoorQ01
import Derived.SizedLaws
import Derived.ChangeMaps5
import Derived.Test.YtmmfjknnbkcniaaGreatDoorProg
import Derived.Maps.AppendAt
import Derived.Deep.AppendLies
import Derived.Deep.RegionHeld3
import Derived.Lib.UnsafeStr
import Derived.Laws.IdiomStrings
import Derived.OwnWalk
import Derived.WalkKit
import Derived.ProofKit
namespace Go.Fl
/-- The name's label. -/
def MN : ByteArray := ⟨#[95, 95, 110, 97, 109, 101, 95, 95]⟩
/-- Values by class. -/
def clK (k : Ek) : Ek := (k.1, cn k.2)
theorem clK_sort (ks : List Ek) : (sortK ks).map clK = sortK (ks.map clK) := by
  unfold sortK
  exact List.map_mergeSort fun a _ b _ => rfl
theorem clK_dup (ks : List Ek) : noDup (ks.map clK) = noDup ks := by
  unfold noDup
  rw [List.length_map]
  congr 1
  funext i
  have h : ∀ i, (kAt (ks.map clK) i).1 = (kAt ks i).1 := fun i => by
    unfold kAt
    simp only [List.getD, List.getElem?_map]
    cases ks[i]? <;> rfl
  rw [h, h]
end Go.Fl
namespace Go.Proofs.YtmmfjknnbkcniaaGreatDoor
open Go.Fl Go.Rel Go.RowKit
set_option linter.unusedSimpArgs false
set_option linter.unusedVariables false

theorem clK_vec (ks : List Ek) : (vecK ks).map (List.map clK) = vecK (ks.map clK) := by
  unfold vecK
  rw [← clK_sort, clK_dup, List.all_map, show (validK ∘ clK) = validK from rfl]
  split <;> rfl

theorem reck_any (u : ByteArray) (a b : Nat) (w : World) (ha : W64 a) (hb : W64 b) (hk : opK u.toList < 6) : Calls Tryz.prog 33 #[.string u, .float .f64 a, .float .f64 b] w fun e w' => ∃ r n, e = .returned (.tuple #[.float .f64 r, .bool true]) ∧ cn r = valS (opK u.toList) a b ∧ w' = w.drewN n := by
  cases t0 : (u.toList == [43])
  case true => have hu := beq_iff_eq.1 t0; have ho : opK u.toList = 0 := by rw [hu, opK_0]
               try rw [ho] at hk
               try rw [ho] at hk2
               try rw [ho]
               exact reck_0 u a b w ha hb hu
  cases t1 : (u.toList == [45])
  case true => have hu := beq_iff_eq.1 t1; have ho : opK u.toList = 1 := by rw [hu, opK_1]
               try rw [ho] at hk
               try rw [ho] at hk2
               try rw [ho]
               exact reck_1 u a b w ha hb hu
  cases t2 : (u.toList == [42])
  case true => have hu := beq_iff_eq.1 t2; have ho : opK u.toList = 2 := by rw [hu, opK_2]
               try rw [ho] at hk
               try rw [ho] at hk2
               try rw [ho]
               exact reck_2 u a b w ha hb hu
  cases t3 : (u.toList == [47])
  case true => have hu := beq_iff_eq.1 t3; have ho : opK u.toList = 3 := by rw [hu, opK_3]
               try rw [ho] at hk
               try rw [ho] at hk2
               try rw [ho]
               exact reck_3 u a b w ha hb hu
  cases t4 : (u.toList == [37])
  case true => have hu := beq_iff_eq.1 t4; have ho : opK u.toList = 4 := by rw [hu, opK_4]
               try rw [ho] at hk
               try rw [ho] at hk2
               try rw [ho]
               exact reck_4 u a b w ha hb hu
  cases t5 : (u.toList == [94])
  case true => have hu := beq_iff_eq.1 t5; have ho : opK u.toList = 5 := by rw [hu, opK_5]
               try rw [ho] at hk
               try rw [ho] at hk2
               try rw [ho]
               exact reck_5 u a b w ha hb hu
  cases t6 : (u.toList == [61, 61])
  case true => have hu := beq_iff_eq.1 t6; have ho : opK u.toList = 6 := by rw [hu, opK_6]
               try rw [ho] at hk
               try rw [ho] at hk2
               try rw [ho]
               omega
  cases t7 : (u.toList == [33, 61])
  case true => have hu := beq_iff_eq.1 t7; have ho : opK u.toList = 7 := by rw [hu, opK_7]
               try rw [ho] at hk
               try rw [ho] at hk2
               try rw [ho]
               omega
  cases t8 : (u.toList == [60])
  case true => have hu := beq_iff_eq.1 t8; have ho : opK u.toList = 8 := by rw [hu, opK_8]
               try rw [ho] at hk
               try rw [ho] at hk2
               try rw [ho]
               omega
  cases t9 : (u.toList == [60, 61])
  case true => have hu := beq_iff_eq.1 t9; have ho : opK u.toList = 9 := by rw [hu, opK_9]
               try rw [ho] at hk
               try rw [ho] at hk2
               try rw [ho]
               omega
  cases t10 : (u.toList == [62])
  case true => have hu := beq_iff_eq.1 t10; have ho : opK u.toList = 10 := by rw [hu, opK_10]
               try rw [ho] at hk
               try rw [ho] at hk2
               try rw [ho]
               omega
  cases t11 : (u.toList == [62, 61])
  case true => have hu := beq_iff_eq.1 t11; have ho : opK u.toList = 11 := by rw [hu, opK_11]
               try rw [ho] at hk
               try rw [ho] at hk2
               try rw [ho]
               omega
  have ho := opK_none t0 t1 t2 t3 t4 t5 t6 t7 t8 t9 t10 t11
  try rw [ho] at hk
  try rw [ho] at hk2
  try rw [ho]
  omega

theorem reckN_any (u : ByteArray) (a b : Nat) (w : World) (hk : ¬ opK u.toList < 6) : Calls Tryz.prog 33 #[.string u, .float .f64 a, .float .f64 b] w fun e w' => e = .returned (.tuple #[.float .f64 0, .bool false]) ∧ w = w' := by
  cases t0 : (u.toList == [43])
  case true => have hu := beq_iff_eq.1 t0; have ho : opK u.toList = 0 := by rw [hu, opK_0]
               try rw [ho] at hk
               try rw [ho] at hk2
               try rw [ho]
               omega
  cases t1 : (u.toList == [45])
  case true => have hu := beq_iff_eq.1 t1; have ho : opK u.toList = 1 := by rw [hu, opK_1]
               try rw [ho] at hk
               try rw [ho] at hk2
               try rw [ho]
               omega
  cases t2 : (u.toList == [42])
  case true => have hu := beq_iff_eq.1 t2; have ho : opK u.toList = 2 := by rw [hu, opK_2]
               try rw [ho] at hk
               try rw [ho] at hk2
               try rw [ho]
               omega
  cases t3 : (u.toList == [47])
  case true => have hu := beq_iff_eq.1 t3; have ho : opK u.toList = 3 := by rw [hu, opK_3]
               try rw [ho] at hk
               try rw [ho] at hk2
               try rw [ho]
               omega
  cases t4 : (u.toList == [37])
  case true => have hu := beq_iff_eq.1 t4; have ho : opK u.toList = 4 := by rw [hu, opK_4]
               try rw [ho] at hk
               try rw [ho] at hk2
               try rw [ho]
               omega
  cases t5 : (u.toList == [94])
  case true => have hu := beq_iff_eq.1 t5; have ho : opK u.toList = 5 := by rw [hu, opK_5]
               try rw [ho] at hk
               try rw [ho] at hk2
               try rw [ho]
               omega
  cases t6 : (u.toList == [61, 61])
  case true => have hu := beq_iff_eq.1 t6; have ho : opK u.toList = 6 := by rw [hu, opK_6]
               try rw [ho] at hk
               try rw [ho] at hk2
               try rw [ho]
               exact reck_none u a b w t0 t1 t2 t3 t4 t5
  cases t7 : (u.toList == [33, 61])
  case true => have hu := beq_iff_eq.1 t7; have ho : opK u.toList = 7 := by rw [hu, opK_7]
               try rw [ho] at hk
               try rw [ho] at hk2
               try rw [ho]
               exact reck_none u a b w t0 t1 t2 t3 t4 t5
  cases t8 : (u.toList == [60])
  case true => have hu := beq_iff_eq.1 t8; have ho : opK u.toList = 8 := by rw [hu, opK_8]
               try rw [ho] at hk
               try rw [ho] at hk2
               try rw [ho]
               exact reck_none u a b w t0 t1 t2 t3 t4 t5
  cases t9 : (u.toList == [60, 61])
  case true => have hu := beq_iff_eq.1 t9; have ho : opK u.toList = 9 := by rw [hu, opK_9]
               try rw [ho] at hk
               try rw [ho] at hk2
               try rw [ho]
               exact reck_none u a b w t0 t1 t2 t3 t4 t5
  cases t10 : (u.toList == [62])
  case true => have hu := beq_iff_eq.1 t10; have ho : opK u.toList = 10 := by rw [hu, opK_10]
               try rw [ho] at hk
               try rw [ho] at hk2
               try rw [ho]
               exact reck_none u a b w t0 t1 t2 t3 t4 t5
  cases t11 : (u.toList == [62, 61])
  case true => have hu := beq_iff_eq.1 t11; have ho : opK u.toList = 11 := by rw [hu, opK_11]
               try rw [ho] at hk
               try rw [ho] at hk2
               try rw [ho]
               exact reck_none u a b w t0 t1 t2 t3 t4 t5
  have ho := opK_none t0 t1 t2 t3 t4 t5 t6 t7 t8 t9 t10 t11
  try rw [ho] at hk
  try rw [ho] at hk2
  try rw [ho]
  exact reck_none u a b w t0 t1 t2 t3 t4 t5

theorem hold_any (u : ByteArray) (a b : Nat) (w : World) (hk : ¬ opK u.toList < 6) (hk2 : opK u.toList < 12) : Calls Tryz.prog 34 #[.string u, .float .f64 a, .float .f64 b] w fun e w' => e = .returned (.tuple #[.bool (holdsS (opK u.toList) a b), .bool true]) ∧ w = w' := by
  cases t0 : (u.toList == [43])
  case true => have hu := beq_iff_eq.1 t0; have ho : opK u.toList = 0 := by rw [hu, opK_0]
               try rw [ho] at hk
               try rw [ho] at hk2
               try rw [ho]
               omega
  cases t1 : (u.toList == [45])
  case true => have hu := beq_iff_eq.1 t1; have ho : opK u.toList = 1 := by rw [hu, opK_1]
               try rw [ho] at hk
               try rw [ho] at hk2
               try rw [ho]
               omega
  cases t2 : (u.toList == [42])
  case true => have hu := beq_iff_eq.1 t2; have ho : opK u.toList = 2 := by rw [hu, opK_2]
               try rw [ho] at hk
               try rw [ho] at hk2
               try rw [ho]
               omega
  cases t3 : (u.toList == [47])
  case true => have hu := beq_iff_eq.1 t3; have ho : opK u.toList = 3 := by rw [hu, opK_3]
               try rw [ho] at hk
               try rw [ho] at hk2
               try rw [ho]
               omega
  cases t4 : (u.toList == [37])
  case true => have hu := beq_iff_eq.1 t4; have ho : opK u.toList = 4 := by rw [hu, opK_4]
               try rw [ho] at hk
               try rw [ho] at hk2
               try rw [ho]
               omega
  cases t5 : (u.toList == [94])
  case true => have hu := beq_iff_eq.1 t5; have ho : opK u.toList = 5 := by rw [hu, opK_5]
               try rw [ho] at hk
               try rw [ho] at hk2
               try rw [ho]
               omega
  cases t6 : (u.toList == [61, 61])
  case true => have hu := beq_iff_eq.1 t6; have ho : opK u.toList = 6 := by rw [hu, opK_6]
               try rw [ho] at hk
               try rw [ho] at hk2
               try rw [ho]
               exact hold_6 u a b w hu
  cases t7 : (u.toList == [33, 61])
  case true => have hu := beq_iff_eq.1 t7; have ho : opK u.toList = 7 := by rw [hu, opK_7]
               try rw [ho] at hk
               try rw [ho] at hk2
               try rw [ho]
               exact hold_7 u a b w hu
  cases t8 : (u.toList == [60])
  case true => have hu := beq_iff_eq.1 t8; have ho : opK u.toList = 8 := by rw [hu, opK_8]
               try rw [ho] at hk
               try rw [ho] at hk2
               try rw [ho]
               exact hold_8 u a b w hu
  cases t9 : (u.toList == [60, 61])
  case true => have hu := beq_iff_eq.1 t9; have ho : opK u.toList = 9 := by rw [hu, opK_9]
               try rw [ho] at hk
               try rw [ho] at hk2
               try rw [ho]
               exact hold_9 u a b w hu
  cases t10 : (u.toList == [62])
  case true => have hu := beq_iff_eq.1 t10; have ho : opK u.toList = 10 := by rw [hu, opK_10]
               try rw [ho] at hk
               try rw [ho] at hk2
               try rw [ho]
               exact hold_10 u a b w hu
  cases t11 : (u.toList == [62, 61])
  case true => have hu := beq_iff_eq.1 t11; have ho : opK u.toList = 11 := by rw [hu, opK_11]
               try rw [ho] at hk
               try rw [ho] at hk2
               try rw [ho]
               exact hold_11 u a b w hu
  have ho := opK_none t0 t1 t2 t3 t4 t5 t6 t7 t8 t9 t10 t11
  try rw [ho] at hk
  try rw [ho] at hk2
  try rw [ho]
  omega

theorem holdN_any (u : ByteArray) (a b : Nat) (w : World) (hk : ¬ opK u.toList < 12) : Calls Tryz.prog 34 #[.string u, .float .f64 a, .float .f64 b] w fun e w' => e = .returned (.tuple #[.bool false, .bool false]) ∧ w = w' := by
  cases t0 : (u.toList == [43])
  case true => have hu := beq_iff_eq.1 t0; have ho : opK u.toList = 0 := by rw [hu, opK_0]
               try rw [ho] at hk
               try rw [ho] at hk2
               try rw [ho]
               omega
  cases t1 : (u.toList == [45])
  case true => have hu := beq_iff_eq.1 t1; have ho : opK u.toList = 1 := by rw [hu, opK_1]
               try rw [ho] at hk
               try rw [ho] at hk2
               try rw [ho]
               omega
  cases t2 : (u.toList == [42])
  case true => have hu := beq_iff_eq.1 t2; have ho : opK u.toList = 2 := by rw [hu, opK_2]
               try rw [ho] at hk
               try rw [ho] at hk2
               try rw [ho]
               omega
  cases t3 : (u.toList == [47])
  case true => have hu := beq_iff_eq.1 t3; have ho : opK u.toList = 3 := by rw [hu, opK_3]
               try rw [ho] at hk
               try rw [ho] at hk2
               try rw [ho]
               omega
  cases t4 : (u.toList == [37])
  case true => have hu := beq_iff_eq.1 t4; have ho : opK u.toList = 4 := by rw [hu, opK_4]
               try rw [ho] at hk
               try rw [ho] at hk2
               try rw [ho]
               omega
  cases t5 : (u.toList == [94])
  case true => have hu := beq_iff_eq.1 t5; have ho : opK u.toList = 5 := by rw [hu, opK_5]
               try rw [ho] at hk
               try rw [ho] at hk2
               try rw [ho]
               omega
  cases t6 : (u.toList == [61, 61])
  case true => have hu := beq_iff_eq.1 t6; have ho : opK u.toList = 6 := by rw [hu, opK_6]
               try rw [ho] at hk
               try rw [ho] at hk2
               try rw [ho]
               omega
  cases t7 : (u.toList == [33, 61])
  case true => have hu := beq_iff_eq.1 t7; have ho : opK u.toList = 7 := by rw [hu, opK_7]
               try rw [ho] at hk
               try rw [ho] at hk2
               try rw [ho]
               omega
  cases t8 : (u.toList == [60])
  case true => have hu := beq_iff_eq.1 t8; have ho : opK u.toList = 8 := by rw [hu, opK_8]
               try rw [ho] at hk
               try rw [ho] at hk2
               try rw [ho]
               omega
  cases t9 : (u.toList == [60, 61])
  case true => have hu := beq_iff_eq.1 t9; have ho : opK u.toList = 9 := by rw [hu, opK_9]
               try rw [ho] at hk
               try rw [ho] at hk2
               try rw [ho]
               omega
  cases t10 : (u.toList == [62])
  case true => have hu := beq_iff_eq.1 t10; have ho : opK u.toList = 10 := by rw [hu, opK_10]
               try rw [ho] at hk
               try rw [ho] at hk2
               try rw [ho]
               omega
  cases t11 : (u.toList == [62, 61])
  case true => have hu := beq_iff_eq.1 t11; have ho : opK u.toList = 11 := by rw [hu, opK_11]
               try rw [ho] at hk
               try rw [ho] at hk2
               try rw [ho]
               omega
  have ho := opK_none t0 t1 t2 t3 t4 t5 t6 t7 t8 t9 t10 t11
  try rw [ho] at hk
  try rw [ho] at hk2
  try rw [ho]
  exact hold_none u a b w t6 t7 t8 t9 t10 t11

theorem w64_one : W64 4607182418800017408 := by unfold W64; decide +kernel
theorem arith_any (u : ByteArray) (w : World) : Calls Tryz.prog 22 #[.string u] w fun e w' => e = .returned (.bool (decide (opK u.toList < 6))) ∧ ∃ n, w' = w.drewN n := by
  by_cases hk : opK u.toList < 6
  · rw [decide_eq_true hk]
    have HC := Lib.hid (reck_any u _ _ w w64_one w64_one hk)
    clear hk
    go_enter Tryz.func22, Tryz.ntmps22
    go_wp2_with (go_at_call 33; refine HC.out.mono ?_; rintro e w1 ⟨r, n, rfl, _, rfl⟩)
    go_ret
    exact ⟨rfl, n, rfl⟩
  · rw [decide_eq_false hk]
    have HC := Lib.hid (reckN_any u 4607182418800017408 4607182418800017408 w hk)
    clear hk
    go_enter Tryz.func22, Tryz.ntmps22
    go_wp2_with (go_at_call 33; refine HC.out.mono ?_; rintro e w1 ⟨rfl, rfl⟩)
    go_ret
    exact ⟨rfl, 0, rfl⟩
theorem compar_any (u : ByteArray) (w : World) (hk : ¬ opK u.toList < 6) : Calls Tryz.prog 23 #[.string u] w fun e w' => e = .returned (.bool (decide (opK u.toList < 12))) ∧ w = w' := by
  by_cases hk2 : opK u.toList < 12
  · rw [decide_eq_true hk2]
    have HC := Lib.hid (hold_any u 4607182418800017408 4607182418800017408 w hk hk2)
    clear hk hk2
    go_enter Tryz.func23, Tryz.ntmps23
    go_wp2_with (go_at_call 34; refine HC.out.mono ?_; rintro e w1 ⟨rfl, rfl⟩)
    go_ret
    exact ⟨rfl, rfl⟩
  · rw [decide_eq_false hk2]
    have HC := Lib.hid (holdN_any u 4607182418800017408 4607182418800017408 w hk2)
    clear hk hk2
    go_enter Tryz.func23, Tryz.ntmps23
    go_wp2_with (go_at_call 34; refine HC.out.mono ?_; rintro e w1 ⟨rfl, rfl⟩)
    go_ret
    exact ⟨rfl, rfl⟩

theorem nameless_any (a : Option Addr) (n cap : Nat) (ls : List Lb) (w : World) (hr : LRow w a n ls) (hn : n ≤ 4398046511104) :
    Calls Tryz.prog 27 #[.slice a n cap] w (NewL (sansL MN ls) w) := by
  have HC := Lib.hid (with_none a n cap ls MN w hr hn)
  clear hr
  go_enter Tryz.func27, Tryz.ntmps27
  go_wp2_with (go_at_call 20; refine HC.out.mono ?_; rintro e w1 ⟨v, rfl, ow, bl⟩)
  go_ret
  exact ⟨v, rfl, ow, bl⟩
/-- An answer: the error, the elements by class. -/
def AnsRet (err : Int) (ks : List Ek) (w : World) (e : Ending) (w' : World) : Prop :=
  ∃ a cap es, e = .returned (.tuple #[.slice a es.length cap, .int .i64 err]) ∧ SlK a es.length cap ∧ ERow w' a es.length es ∧ es.map (fun x => clK x.key) = ks ∧ Below w.heap.size w w'
/-- What settled and done answer. -/
def setE (ks : List Ek) : Int := match vecK ks with | none => 6 | some _ => 0
def setV (ks : List Ek) : List Ek := match vecK ks with | none => [] | some ms => ms

theorem VecGood.row {es0 : List Er} {ms : List Ek} {w w' : World} {e : Ending} (h : VecGood es0 ms w e w') : ∃ a cap es, e = .returned (.tuple #[.slice a es.length cap, .int .i64 0]) ∧ SlK a es.length cap ∧ ERow w' a es.length es ∧ es.map Er.key = ms ∧ (∀ x ∈ es, ∃ y ∈ es0, x.f = y.f) ∧ Below w.heap.size w w' := by
  obtain ⟨g, cap, es, h1, h2, h3, h4, h5, h6, h7, ⟨h8, _⟩, h9⟩ := h
  refine ⟨some ⟨g, 0, none⟩, cap, es, h1, ⟨h2, fun h => by cases h⟩, ⟨rfl, h3, fun x hx => (h6 x hx).1.ok, fun _ => ⟨g, 0, rfl, h5.1, fun i hi => ⟨?_, ?_⟩⟩⟩, h7, h8, h9⟩
  · have := (h5.2 i hi 0 (by omega)).1; rw [Nat.add_zero] at this; exact this
  · exact (h5.2 i hi 1 (by omega)).1

/-- What the answer lies in is the call's own: a block for the elements, one for each list of labels. -/
def FreshE (B : Nat) (w : World) (a : Option Addr) (es : List Er) : Prop :=
  (es = [] ∨ ∃ g, a = some ⟨g, 0, none⟩ ∧ B ≤ g ∧ WRE w g es ∧ ∀ e ∈ es, ErOwn B w e ∧ (Value.slice e.a e.n e.c).ownBlock ≠ some g) ∧ ApartE es
theorem FreshE.mono {B C : Nat} {w : World} {a : Option Addr} {es : List Er} (h : FreshE B w a es) (hc : C ≤ B) : FreshE C w a es := by
  obtain ⟨h1, h2⟩ := h
  refine ⟨?_, h2⟩
  rcases h1 with h1 | ⟨g, e, h3, h4, h5⟩
  · exact .inl h1
  · exact .inr ⟨g, e, Nat.le_trans hc h3, h4, fun e he => ⟨⟨(h5 e he).1.1.mono hc, (h5 e he).1.2⟩, (h5 e he).2⟩⟩
/-- An answer of the call's own: the error, the elements as they are. -/
def AnsX (err : Int) (xs : List Ek) (w : World) (e : Ending) (w' : World) : Prop :=
  ∃ a cap es, e = .returned (.tuple #[.slice a es.length cap, .int .i64 err]) ∧ SlK a es.length cap ∧ ERow w' a es.length es ∧ es.map Er.key = xs ∧ FreshE w.heap.size w' a es ∧ Below w.heap.size w w'
/-- .. the elements by class. -/
def AnsO (err : Int) (ks : List Ek) (w : World) (e : Ending) (w' : World) : Prop := ∃ xs, xs.map clK = ks ∧ AnsX err xs w e w'
theorem AnsO.ret {err : Int} {ks : List Ek} {w w' : World} {e : Ending} (h : AnsO err ks w e w') : AnsRet err ks w e w' := by
  obtain ⟨xs, h0, a, cap, es, h1, h2, h3, h4, h5, h6⟩ := h
  exact ⟨a, cap, es, h1, h2, h3, by rw [← h0, ← h4, List.map_map]; rfl, h6⟩
theorem AnsO.nil (err : Int) {w w' : World} (cap : Nat) (h : Below w.heap.size w w') (hc : cap = 0) : AnsO err [] w (.returned (.tuple #[.slice none 0 cap, .int .i64 err])) w' := by
  subst hc
  exact ⟨[], rfl, none, 0, [], rfl, ⟨Nat.le_refl _, fun _ => rfl⟩, ERow.nothing _, rfl, ⟨.inl rfl, List.Pairwise.nil⟩, h⟩
theorem AnsO.from {err : Int} {ks : List Ek} {z w w' : World} {e : Ending} (h : AnsO err ks w e w') (hb : Below z.heap.size z w) : AnsO err ks z e w' := by
  obtain ⟨xs, h0, a, cap, es, h1, h2, h3, h4, h5, h6⟩ := h
  exact ⟨xs, h0, a, cap, es, h1, h2, h3, h4, h5.mono hb.size, hb.trans (h6.mono hb.size)⟩
theorem AnsX.from {err : Int} {ks : List Ek} {z w w' : World} {e : Ending} (h : AnsX err ks w e w') (hb : Below z.heap.size z w) : AnsX err ks z e w' := by
  obtain ⟨a, cap, es, h1, h2, h3, h4, h5, h6⟩ := h
  exact ⟨a, cap, es, h1, h2, h3, h4, h5.mono hb.size, hb.trans (h6.mono hb.size)⟩
theorem setE_cl (ks : List Ek) : setE (ks.map clK) = setE ks := by
  unfold setE; rw [← clK_vec]; cases vecK ks <;> rfl
theorem setV_cl (ks : List Ek) : setV (ks.map clK) = (setV ks).map clK := by
  unfold setV; rw [← clK_vec]; cases vecK ks <;> rfl

theorem settledX_any (a : Option Addr) (n cap : Nat) (es : List Er) (w : World) (hr : ERow w a n es) :
    Calls Tryz.prog 28 #[.slice a n cap] w (AnsX (setE (es.map Er.key)) (setV (es.map Er.key)) w) := by
  have HC := Lib.hid (vector_any a n cap es w hr)
  clear hr
  unfold setE setV
  cases hv : vecK (es.map Er.key) with
  | none =>
    unfold VecRet at HC
    rw [hv] at HC
    dsimp only at HC
    clear hv
    go_enter Tryz.func28, Tryz.ntmps28
    go_wp2_with (go_at_call 19; refine HC.out.mono ?_; rintro e w1 ⟨rfl, bl⟩)
    go_ret2
    exact ⟨none, 0, [], rfl, ⟨Nat.le_refl _, fun _ => rfl⟩, ERow.nothing _, rfl, ⟨.inl rfl, List.Pairwise.nil⟩, bl⟩
  | some ms =>
    unfold VecRet at HC
    rw [hv] at HC
    dsimp only at HC
    clear hv
    go_enter Tryz.func28, Tryz.ntmps28
    go_wp2_with (go_at_call 19; refine HC.out.mono ?_; intro e w1 hg; have hg0 := hg; obtain ⟨g, c2, es2, rfl, h1, h2, h3, h4, h5, h6, h7, h8⟩ := hg; have HH := Lib.hid (And.intro h1 (And.intro h2 (And.intro h3 (And.intro h4 (And.intro h5 (And.intro h6 (And.intro h7.2 h8))))))); clear h1 h2 h3 h4 h5 h6 h7 h8 hg0)
    go_ret2
    obtain ⟨h1, h2, h3, h4, h5, h6, h7, h8⟩ := HH.out
    refine ⟨some ⟨g, 0, none⟩, c2, es2, rfl, ⟨h1, fun h => by cases h⟩, ⟨rfl, h2, fun x hx => (h5 x hx).1.ok, fun _ => ⟨g, 0, rfl, h4.1, fun i hi => ⟨?_, ?_⟩⟩⟩, h6, ⟨.inr ⟨g, rfl, h3, h4, h5⟩, h7⟩, h8⟩
    · have := (h4.2 i hi 0 (by omega)).1; rw [Nat.add_zero] at this; exact this
    · exact (h4.2 i hi 1 (by omega)).1
theorem settledO_any (a : Option Addr) (n cap : Nat) (es : List Er) (ks : List Ek) (w : World) (hr : ERow w a n es) (hks : es.map (fun x => clK x.key) = ks) :
    Calls Tryz.prog 28 #[.slice a n cap] w (AnsO (setE ks) (setV ks) w) := by
  refine (settledX_any a n cap es w hr).mono fun e w' h => ?_
  have hk : (es.map Er.key).map clK = ks := by rw [List.map_map, ← hks]; rfl
  refine ⟨setV (es.map Er.key), by rw [← setV_cl, hk], ?_⟩
  rw [← hk, setE_cl]; exact h
end Go.Proofs.YtmmfjknnbkcniaaGreatDoor

namespace Go.Proofs.YtmmfjknnbkcniaaGreatDoor
open Go.Fl Go.Rel Go.RowKit Go.Sort
set_option linter.unusedSimpArgs false
set_option linter.unusedVariables false

/-- Does anything come out; is it an element as it was; the value's class. -/
noncomputable def stepO (k a b : Nat) (yes : Bool) : Bool := if k < 6 then true else if yes then true else holdsS k a b
def stepF (k : Nat) (yes : Bool) : Bool := if k < 6 then false else !yes
noncomputable def stepV (k a b keep : Nat) (yes : Bool) : Nat := if k < 6 then valS k a b else if yes then (if holdsS k a b then w1 else 0) else cn keep

def WorkRet (k a b keep : Nat) (yes : Bool) (w : World) (e : Ending) (w' : World) : Prop :=
  ∃ r, e = .returned (.agg #[.float .f64 r, .bool (stepO k a b yes), .bool (stepF k yes)]) ∧ cn r = stepV k a b keep yes ∧ Below w.heap.size w w'

set_option maxHeartbeats 4000000 in
set_option maxRecDepth 100000 in
theorem worked_any (u : ByteArray) (a b keep : Nat) (yes : Bool) (w : World) (ha : W64 a) (hb : W64 b) (hk : opK u.toList < 12) :
    Calls Tryz.prog 29 #[.string u, .float .f64 a, .float .f64 b, .float .f64 keep, .bool yes] w (WorkRet (opK u.toList) a b keep yes w) := by
  have HT0 := Lib.hid (Bk.Is.made w #[.float .f64 0, .bool false, .bool false] 59)
  have BL0 := Lib.hid ((Below.refl w.heap.size w).alloc (Nat.le_refl _) (.cells #[.float .f64 0, .bool false, .bool false] 59))
  by_cases hk6 : opK u.toList < 6
  · have HC : Hid (∀ w, _) := Lib.hid fun w => reck_any u a b w ha hb hk6
    have HO : Hid (stepO (opK u.toList) a b yes = true) := Lib.hid (if_pos hk6)
    have HF : Hid (stepF (opK u.toList) yes = false) := Lib.hid (if_pos hk6)
    have HV : Hid (stepV (opK u.toList) a b keep yes = valS (opK u.toList) a b) := Lib.hid (if_pos hk6)
    clear ha hb hk hk6
    go_enter Tryz.func29, Tryz.ntmps29
    go_wp2_with (first | (go_at_call 33; refine (HC.out _).mono ?_; rintro e w1 ⟨r, n, rfl, hr, rfl⟩; have HR := Lib.hid hr; have HI := Lib.hid (HT0.out.drewN n); have HB := Lib.hid (BL0.out.drewN' n); clear hr) | (refine Bk.is_store 59 rfl ?_; refine wpList_store_row rfl 59 _ _ rfl w.heap.size #[.float .f64 r, .bool true, .bool false] rfl rfl 59 _ HI.out (by kernel_rfl) rfl (by kernel_rfl) ?_))
    (try simp only [Exit.inBlock, Exit.then])
    refine Bk.ret_block (HI.out.setRow _) rfl rfl Tryz.underlying59 rfl (by kernel_rfl) rfl ?_
    exact ⟨r, by rw [HO.out, HF.out], by rw [HV.out]; exact HR.out, Bk.below_setRow HB.out (Nat.le_refl _) _⟩
  · have HC : Hid (∀ w, _) := Lib.hid fun w => reckN_any u a b w hk6
    have HH : Hid (∀ w, _) := Lib.hid fun w => hold_any u a b w hk6 hk
    have HTr := Lib.hid (truth_any)
    have HO : Hid (stepO (opK u.toList) a b yes = if yes then true else holdsS (opK u.toList) a b) := Lib.hid (if_neg hk6)
    have HF : Hid (stepF (opK u.toList) yes = !yes) := Lib.hid (if_neg hk6)
    have HV : Hid (stepV (opK u.toList) a b keep yes = if yes then (if holdsS (opK u.toList) a b then w1 else 0) else cn keep) := Lib.hid (if_neg hk6)
    generalize holdsS (opK u.toList) a b = h at *
    clear ha hb hk hk6
    cases yes with
    | true =>
      go_enter Tryz.func29, Tryz.ntmps29
      go_wp2_with (first | (go_at_call 33; refine (HC.out _).mono ?_; rintro e w1 ⟨rfl, rfl⟩) | (go_at_call 34; refine (HH.out _).mono ?_; rintro e w1 ⟨rfl, rfl⟩) | (go_at_call 35; refine (HTr.out _ _).mono ?_; rintro e w1 ⟨rfl, rfl⟩) | (refine Bk.is_store 59 rfl ?_; refine wpList_store_row rfl 59 _ _ rfl w.heap.size #[.float .f64 (tru h), .bool true, .bool false] rfl rfl 59 _ HT0.out (by kernel_rfl) rfl (by kernel_rfl) ?_))
      (try simp only [Exit.inBlock, Exit.then])
      refine Bk.ret_block (HT0.out.setRow _) rfl rfl Tryz.underlying59 rfl (by kernel_rfl) rfl ?_
      exact ⟨_, by rw [HO.out, HF.out]; rfl, by rw [HV.out, cn_tru]; rfl, Bk.below_setRow BL0.out (Nat.le_refl _) _⟩
    | false =>
      go_enter Tryz.func29, Tryz.ntmps29
      go_wp2_with (first | (go_at_call 33; refine (HC.out _).mono ?_; rintro e w1 ⟨rfl, rfl⟩) | (go_at_call 34; refine (HH.out _).mono ?_; rintro e w1 ⟨rfl, rfl⟩) | (refine Bk.is_store 59 rfl ?_; refine wpList_store_row rfl 59 _ _ rfl w.heap.size #[.float .f64 keep, .bool h, .bool true] rfl rfl 59 _ HT0.out (by kernel_rfl) rfl (by kernel_rfl) ?_))
      (try simp only [Exit.inBlock, Exit.then])
      refine Bk.ret_block (HT0.out.setRow _) rfl rfl Tryz.underlying59 rfl (by kernel_rfl) rfl ?_
      exact ⟨_, by rw [HO.out, HF.out]; rfl, by rw [HV.out]; rfl, Bk.below_setRow BL0.out (Nat.le_refl _) _⟩

theorem NewL.own {ls : List Lb} {w : World} {e : Ending} {w' : World} (h : NewL ls w e w') :
    ∃ a c, e = .returned (.slice a ls.length c) ∧ OwnL w.heap.size w' (.slice a ls.length c) ls ∧ Below w.heap.size w w' := by
  obtain ⟨v, h1, h2, h3⟩ := h
  rcases h2.form with ⟨rfl, rfl⟩ | ⟨g, cap, rfl, _⟩
  · exact ⟨none, 0, h1, h2, h3⟩
  · exact ⟨_, _, h1, h2, h3⟩
theorem OwnL.setRow {B g : Nat} {w : World} {v : Value} {ls : List Lb} (h : OwnL B w v ls) (hg : g < B) (vs : Array Value) : OwnL B (w.setRow g vs) v ls :=
  h.stay fun k hk => by
    have := (h.lt k hk).1
    unfold World.setRow
    simp [Array.getElem?_modify]
    intro e; omega

theorem OwnL.setCell {B g i : Nat} {w : World} {v u : Value} {ls : List Lb} (h : OwnL B w v ls) (hg : g < B) : OwnL B (w.setCell ⟨g, i, none⟩ u) v ls :=
  h.stay fun k hk => by
    have := (h.lt k hk).1
    unfold World.setCell
    simp [Array.getElem?_modify]
    intro e; omega

end Go.Proofs.YtmmfjknnbkcniaaGreatDoor

namespace Go.Proofs.YtmmfjknnbkcniaaGreatDoor
open Go.Fl Go.Rel Go.RowKit Go.ChangeShapes Go.WideShapes Go.Deep
set_option linter.unusedVariables false
set_option linter.unusedSimpArgs false

section
variable {H : Type} {enc : TypeId × Value → H} {P : Program} {w : World} {base : Nat} {spare : Nat → Bool} {held : Bool}

theorem weightsAll_mem {e : TypeId} {d : DataW H} {n : Nat} (hn : n ∈ d.weights P e) : ∀ {l : List (DataW H)}, d ∈ l → n ∈ DataW.weightsAll P e l
  | [], h => absurd h List.not_mem_nil
  | x :: r, h => by
    simp only [DataW.weightsAll, List.mem_append]
    rcases List.mem_cons.1 h with rfl | h
    · exact .inl hn
    · exact .inr (weightsAll_mem hn h)
theorem cellm_string {t : TypeId} {fuel : Nat} {v : Value} {x : DataW H × List MemPlace} (ht : P.underlying t = some .string) (h : DataW.trod enc P w base spare held fuel t [v] = some x) :
    ∃ s : ByteArray, v = .string s ∧ x.1 = .lit (.string s.data.toList) := by
  obtain ⟨s', h1, h2, _⟩ := DataW.trod_string ht h
  simp at h1
  exact ⟨s', h1, by rw [h2]⟩
theorem w64m {x : Nat} (h : x < 18446744073709551616) : W64 x := by
  unfold W64
  cases hx : isN x
  · rw [cn_of_notN hx]; exact h
  · rw [cn_of_N hx]; decide
theorem cellm_float {t : TypeId} {fuel : Nat} {v : Value} {x : DataW H × List MemPlace} (ht : P.underlying t = some (.float .f64)) (h : DataW.trod enc P w base spare held fuel t [v] = some x) :
    ∃ n, v = .float .f64 n ∧ n < 18446744073709551616 := by
  cases fuel with
  | zero => simp [DataW.trod] at h
  | succ m =>
    simp only [DataW.trod, ht] at h
    cases v with
    | float k' n =>
      cases k' with
      | f64 =>
        refine ⟨n, rfl, ?_⟩
        by_cases hw : (Lit.float .f64 n).wf = true
        · have : n < 2 ^ 64 := by simpa [Lit.wf] using hw
          omega
        · simp [hw] at h
      | f32 => simp at h
    | _ => simp at h
theorem cellm_bool {t : TypeId} {fuel : Nat} {v : Value} {x : DataW H × List MemPlace} (ht : P.underlying t = some .bool) (h : DataW.trod enc P w base spare held fuel t [v] = some x) :
    ∃ n, v = .bool n := by
  cases fuel with
  | zero => simp [DataW.trod] at h
  | succ m =>
    simp only [DataW.trod, ht] at h
    cases v with
    | bool n => exact ⟨n, rfl⟩
    | _ => simp at h
end

theorem exists_lbs (n : Nat) (p : Nat → Lb → Prop) (h : ∀ i, i < n → ∃ x, p i x) : ∃ ss : List Lb, ss.length = n ∧ ∀ i, i < n → p i (lbAt ss i) := by
  induction n with
  | zero => exact ⟨[], rfl, fun i hi => by omega⟩
  | succ n ih =>
    obtain ⟨xs, hl, hp⟩ := ih fun i hi => h i (by omega)
    obtain ⟨x, hx⟩ := h n (by omega)
    refine ⟨xs ++ [x], by simp [hl], fun i hi => ?_⟩
    by_cases hin : i < n
    · have : lbAt (xs ++ [x]) i = lbAt xs i := by simp [lbAt, List.getD, List.getElem?_append_left (show i < xs.length by omega)]
      rw [this]; exact hp i hin
    · obtain rfl : i = n := by omega
      have : lbAt (xs ++ [x]) i = x := by subst hl; simp [lbAt, List.getD]
      rw [this]; exact hx
theorem exists_ers (n : Nat) (p : Nat → Er → Prop) (h : ∀ i, i < n → ∃ x, p i x) : ∃ ss : List Er, ss.length = n ∧ ∀ i, i < n → p i (erAt ss i) := by
  induction n with
  | zero => exact ⟨[], rfl, fun i hi => by omega⟩
  | succ n ih =>
    obtain ⟨xs, hl, hp⟩ := ih fun i hi => h i (by omega)
    obtain ⟨x, hx⟩ := h n (by omega)
    refine ⟨xs ++ [x], by simp [hl], fun i hi => ?_⟩
    by_cases hin : i < n
    · have : erAt (xs ++ [x]) i = erAt xs i := by simp [erAt, List.getD, List.getElem?_append_left (show i < xs.length by omega)]
      rw [this]; exact hp i hin
    · obtain rfl : i = n := by omega
      have : erAt (xs ++ [x]) i = x := by subst hl; simp [erAt, List.getD]
      rw [this]; exact hx

section
variable {H : Type} {enc : TypeId × Value → H} {w : World} {spare : Nat → Bool} {held : Bool}

set_option maxRecDepth 100000 in
theorem labels_trod {fuel : Nat} {cs : List Value} {x : DataW H × List MemPlace} (hf : DataW.trod enc Tryz.prog w 0 spare held fuel 31 cs = some x) (hw : ∀ n ∈ x.1.weights Tryz.prog 31, n ≤ reachBytes) :
    ∃ a n cap ls, cs = [.slice a n cap] ∧ LRow w a n ls ∧ SlK a n cap ∧ n ≤ 4398046511104 := by
  have hc : Tryz.prog.cellsOf 54 = 2 := by kernel_rfl
  have hcs : Tryz.prog.cellsOf 9 = 1 := by kernel_rfl
  have hby : Tryz.prog.bytesOf 54 = 32 := by kernel_rfl
  rcases open_slice Tryz.underlying31 hf with ⟨hcs, _⟩ | ⟨a, len, cap, m, n, D, Pl, hcl, _, hl, hm, hmm, hxx, hx⟩
  · exact ⟨none, 0, 0, [], hcs, LRow.nothing _, ⟨Nat.le_refl _, fun _ => rfl⟩, by omega⟩
  · have hle : len ≤ m := by rw [hmm]; split <;> omega
    have hwx : ∀ n ∈ (len + (m - len)) * 32 :: (DataW.weightsAll Tryz.prog 54 ((List.range len).map D) ++ DataW.weightsAll Tryz.prog 54 ((List.range (m - len)).map fun j => D (len + j))), n ≤ reachBytes := by
      intro n hn
      apply hw
      rw [hxx]
      simp only [DataW.weights, Tryz.underlying31, List.length_map, List.length_range, hby]
      exact hn
    have hwd : ∀ i, i < len → ∀ n ∈ (D i).weights Tryz.prog 54, n ≤ reachBytes := fun i hi n hn => hwx n (by
      rw [List.mem_cons, List.mem_append]
      exact .inr (.inl (weightsAll_mem hn (List.mem_map.2 ⟨i, List.mem_range.2 hi, rfl⟩))))
    obtain ⟨ls, hsl, hsp⟩ := exists_lbs len (fun i x => w.cell? (a.add (i * 2)) = some (.string x.n) ∧ w.cell? (a.add (i * 2 + 1)) = some (.string x.v) ∧ SmallT x.n ∧ SmallT x.v) (fun i hi => by
      obtain ⟨cs, h1, h2⟩ := hx i (by omega)
      rw [hc] at h1
      obtain ⟨_, hlen, hcell⟩ := World.cells?_some h1
      obtain ⟨xs, n', _, hdx, _, hlen2, hfs⟩ := DataW.trod_struct Tryz.underlying54 h2
      match cs, hlen, xs, hlen2 with
      | [c0, c1], _, [x0, x1], _ =>
        have g0 := hfs 0 _ rfl
        have g1 := hfs 1 _ rfl
        simp [hcs] at g0 g1
        obtain ⟨s, rfl, e0⟩ := cellm_string Tryz.underlying9 g0
        obtain ⟨v, rfl, e1⟩ := cellm_string Tryz.underlying9 g1
        have hd : D i = .agg [x0.1, x1.1] := congrArg Prod.fst hdx
        have hww := hwd i hi
        rw [hd, e0, e1] at hww
        simp [DataW.weights, Tryz.underlying54, DataW.weightsEach] at hww
        refine ⟨⟨s, v⟩, ?_, ?_, ?_, ?_⟩
        · have := hcell 0 (by simp); simpa [Deep.add_add] using this
        · have := hcell 1 (by simp); simpa [Deep.add_add] using this
        · have := hww.1; unfold reachBytes at this; unfold SmallT; show s.size ≤ _; omega
        · have := hww.2; unfold reachBytes at this; unfold SmallT; show v.size ≤ _; omega)
    have hlen : len ≤ 4398046511104 := by
      have := hwx _ (List.mem_cons_self ..)
      unfold reachBytes at this
      omega
    refine ⟨_, _, _, ls, hcl, ⟨hsl, by omega, fun i => ?_, fun hn => ?_⟩, ⟨hl, fun h => by cases h⟩, hlen⟩
    · by_cases hi : i < len
      · exact (hsp i hi).2.2
      · have : lbAt ls i = default := by unfold lbAt; rw [List.getD, List.getElem?_eq_none (by omega)]; rfl
        unfold nL vL; rw [this]
        exact ⟨by unfold SmallT; decide, by unfold SmallT; decide⟩
    · obtain ⟨b, off, spot⟩ := a
      have h0 := (hsp 0 hn).1
      have hspot : spot = none := by simpa [Addr.add] using World.cell?_spot h0
      subst hspot
      have hbl := World.block_lt_of_cell? w _ h0
      refine ⟨b, off, rfl, by simpa [Addr.add_lit] using hbl, fun i hi => ?_⟩
      obtain ⟨h1, h2, _, _⟩ := hsp i hi
      unfold nL vL
      exact ⟨by simpa [Addr.add_lit] using h1, by simpa [Addr.add_lit, Nat.add_assoc] using h2⟩

set_option maxRecDepth 100000 in
theorem elems_trod {fuel : Nat} {cs : List Value} {x : DataW H × List MemPlace} (hf : DataW.trod enc Tryz.prog w 0 spare held fuel 22 cs = some x) (hw : ∀ n ∈ x.1.weights Tryz.prog 22, n ≤ reachBytes) :
    ∃ a n cap es, cs = [.slice a n cap] ∧ ERow w a n es ∧ SlK a n cap ∧ ∀ e ∈ es, W64 e.f := by
  have hc : Tryz.prog.cellsOf 34 = 2 := by kernel_rfl
  have hcs : Tryz.prog.cellsOf 31 = 1 := by kernel_rfl
  have hcf : Tryz.prog.cellsOf 32 = 1 := by kernel_rfl
  have hby : Tryz.prog.bytesOf 34 = 32 := by kernel_rfl
  rcases open_slice Tryz.underlying22 hf with ⟨hcs, _⟩ | ⟨a, len, cap, m, n, D, Pl, hcl, _, hl, hm, hmm, hxx, hx⟩
  · exact ⟨none, 0, 0, [], hcs, ERow.nothing _, ⟨Nat.le_refl _, fun _ => rfl⟩, fun e he => absurd he List.not_mem_nil⟩
  · have hle : len ≤ m := by rw [hmm]; split <;> omega
    have hwx : ∀ n ∈ (len + (m - len)) * 32 :: (DataW.weightsAll Tryz.prog 34 ((List.range len).map D) ++ DataW.weightsAll Tryz.prog 34 ((List.range (m - len)).map fun j => D (len + j))), n ≤ reachBytes := by
      intro n hn
      apply hw
      rw [hxx]
      simp only [DataW.weights, Tryz.underlying22, List.length_map, List.length_range, hby]
      exact hn
    have hwd : ∀ i, i < len → ∀ n ∈ (D i).weights Tryz.prog 34, n ≤ reachBytes := fun i hi n hn => hwx n (by
      rw [List.mem_cons, List.mem_append]
      exact .inr (.inl (weightsAll_mem hn (List.mem_map.2 ⟨i, List.mem_range.2 hi, rfl⟩))))
    obtain ⟨es, hsl, hsp⟩ := exists_ers len (fun i x => w.cell? (a.add (i * 2)) = some (.slice x.a x.n x.c) ∧ w.cell? (a.add (i * 2 + 1)) = some (.float .f64 x.f) ∧ ErOk w x ∧ W64 x.f) (fun i hi => by
      obtain ⟨cs, h1, h2⟩ := hx i (by omega)
      rw [hc] at h1
      obtain ⟨_, hlen, hcell⟩ := World.cells?_some h1
      obtain ⟨xs, n', _, hdx, _, hlen2, hfs⟩ := DataW.trod_struct Tryz.underlying34 h2
      match cs, hlen, xs, hlen2 with
      | [c0, c1], _, [x0, x1], _ =>
        have g0 := hfs 0 _ rfl
        have g1 := hfs 1 _ rfl
        simp [hcs, hcf] at g0 g1
        have hd : D i = .agg [x0.1, x1.1] := congrArg Prod.fst hdx
        have hww := hwd i hi
        rw [hd] at hww
        simp [DataW.weights, Tryz.underlying34, DataW.weightsEach] at hww
        obtain ⟨xa, xn, xc, xl, he, hr, hk, hn⟩ := labels_trod g0 (fun n hn => hww n (.inl hn))
        simp at he
        subst he
        obtain ⟨v, rfl, hv⟩ := cellm_float Tryz.underlying32 g1
        refine ⟨⟨xa, xn, xc, v, xl⟩, ?_, ?_, ⟨hr, hk, hn⟩, w64m hv⟩
        · have := hcell 0 (by simp); simpa [Deep.add_add] using this
        · have := hcell 1 (by simp); simpa [Deep.add_add] using this)
    have hlen : len ≤ 4398046511104 := by
      have := hwx _ (List.mem_cons_self ..)
      unfold reachBytes at this
      omega
    have hmem : ∀ e ∈ es, ErOk w e ∧ W64 e.f := fun e he => by
      obtain ⟨i, hi, rfl⟩ := List.getElem_of_mem he
      have := (hsp i (by omega)).2.2
      rw [erAt_get hi] at this; exact this
    refine ⟨_, _, _, es, hcl, ⟨hsl, hlen, fun e he => (hmem e he).1, fun hn => ?_⟩, ⟨hl, fun h => by cases h⟩, fun e he => (hmem e he).2⟩
    obtain ⟨b, off, spot⟩ := a
    have h0 := (hsp 0 hn).1
    have hspot : spot = none := by simpa [Addr.add] using World.cell?_spot h0
    subst hspot
    have hbl := World.block_lt_of_cell? w _ h0
    refine ⟨b, off, rfl, by simpa [Addr.add_lit] using hbl, fun i hi => ?_⟩
    obtain ⟨h1, h2, _, _⟩ := hsp i hi
    exact ⟨by simpa [Addr.add_lit] using h1, by simpa [Addr.add_lit, Nat.add_assoc] using h2⟩

set_option maxRecDepth 100000 in
theorem open_mix {v : Value} {r : Reach} {b0 : Nat} {d : DataW H} {ps : List MemPlace} (hval : Value.okWide Tryz.prog w r b0 45 v) (hd : DataW.Trod enc Tryz.prog w 0 spare held 45 v d ps) (hw : ∀ n ∈ d.weights Tryz.prog 45, n ≤ reachBytes) :
    ∃ s a n cap es x left yes, v = .agg #[.string s, .slice a n cap, .float .f64 x, .bool left, .bool yes] ∧ ERow w a n es ∧ SlK a n cap ∧ W64 x ∧ ∀ e ∈ es, W64 e.f := by
  obtain ⟨cs, rfl, hsz⟩ := okWide_struct Tryz.underlying45 hval
  obtain ⟨fuel, hf⟩ := hd
  have hc1 : Tryz.prog.cellsOf 22 = 1 := by kernel_rfl
  have hc2 : Tryz.prog.cellsOf 32 = 1 := by kernel_rfl
  have hc3 : Tryz.prog.cellsOf 4 = 1 := by kernel_rfl
  have hc4 : Tryz.prog.cellsOf 9 = 1 := by kernel_rfl
  have hcw : Tryz.prog.cellsOf 45 = 5 := by kernel_rfl
  obtain ⟨xs, n', _, hxx, hlen, hlen2, hfs⟩ := DataW.trod_struct Tryz.underlying45 hf
  rw [hcw] at hlen
  obtain ⟨l⟩ := cs
  simp [Value.cells] at hlen hfs
  match l, hlen, xs, hlen2 with
  | [c0, c1, c2, c3, c4], _, [x0, x1, x2, x3, x4], _ =>
    have g0 := hfs 0 _ rfl
    have g1 := hfs 1 _ rfl
    have g2 := hfs 2 _ rfl
    have g3 := hfs 3 _ rfl
    have g4 := hfs 4 _ rfl
    simp [hc1, hc2, hc3, hc4] at g0 g1 g2 g3 g4
    have hdx : d = .agg [x0.1, x1.1, x2.1, x3.1, x4.1] := congrArg Prod.fst hxx
    rw [hdx] at hw
    simp [DataW.weights, Tryz.underlying45, DataW.weightsEach] at hw
    obtain ⟨s, rfl, _⟩ := cellm_string Tryz.underlying9 g0
    obtain ⟨a, n, cap, es, he, hr, hk, h64⟩ := elems_trod g1 (fun n hn => hw n (.inr (.inl hn)))
    simp at he
    subst he
    obtain ⟨x, rfl, hx⟩ := cellm_float Tryz.underlying32 g2
    obtain ⟨left, rfl⟩ := cellm_bool Tryz.underlying4 g3
    obtain ⟨yes, rfl⟩ := cellm_bool Tryz.underlying4 g4
    exact ⟨s, a, n, cap, es, x, left, yes, rfl, hr, hk, w64m hx, h64⟩
theorem mix_weights {ts : List TypeId} {ds : List (DataW H)} {d : DataW H} {j : Nat} {t : TypeId} (hs : (DataW.weightsEach Tryz.prog ts ds).all (· ≤ reachBytes) = true) (ht : ts[j]? = some t) (hd : ds[j]? = some d) : ∀ n ∈ d.weights Tryz.prog t, n ≤ reachBytes := fun n hn => by
  have := List.all_eq_true.1 hs _ (DataW.weights_mem_each ht hd n hn)
  simpa using this

end
end Go.Proofs.YtmmfjknnbkcniaaGreatDoor

namespace Go.Fl
def nsAt (l : List ByteArray) (i : Nat) : ByteArray := l.getD i ⟨#[]⟩
theorem nsAt_get {l : List ByteArray} {i : Nat} (h : i < l.length) : nsAt l i = l[i] := by simp [nsAt, List.getD, h]
/-- Does the name stand in the list? -/
def inN (ns : List ByteArray) (u : ByteArray) : Bool := ns.any fun s => s.toList == u.toList
theorem inN_take {ns : List ByteArray} {u : ByteArray} {k : Nat} (h : k < ns.length) : inN (ns.take (k + 1)) u = (inN (ns.take k) u || ((nsAt ns k).toList == u.toList)) := by
  unfold inN
  rw [List.take_add_one, List.getElem?_eq_getElem h, List.any_append, nsAt_get h]
  simp
theorem inN_yes {ns : List ByteArray} {u : ByteArray} {k : Nat} (h : k < ns.length) (he : ((nsAt ns k).toList == u.toList) = true) : inN ns u = true := by
  unfold inN
  rw [List.any_eq_true]
  exact ⟨ns[k], List.getElem_mem _, by rw [← nsAt_get h]; exact he⟩
theorem beq_swap (a b : List UInt8) : (a == b) = (b == a) := by
  rw [Bool.eq_iff_iff, beq_iff_eq, beq_iff_eq]; exact eq_comm
end Go.Fl
namespace Go.Proofs.YtmmfjknnbkcniaaGreatDoor
open Go.Fl Go.Rel Go.RowKit
set_option linter.unusedSimpArgs false
set_option linter.unusedVariables false

/-- What a slice of texts holds. -/
def NRow (w : World) (a : Option Addr) (n : Nat) (ns : List ByteArray) : Prop :=
  ns.length = n ∧ n ≤ 9223372036854775807 ∧ (∀ s ∈ ns, SmallT s) ∧
  (0 < n → ∃ b off, a = some ⟨b, off, none⟩ ∧ b < w.heap.size ∧ ∀ i, i < n → w.cell? ⟨b, off + i, none⟩ = some (.string (nsAt ns i)))
theorem NRow.below {w w' : World} {a : Option Addr} {n : Nat} {ns : List ByteArray} (h : NRow w a n ns) (hb : Below w.heap.size w w') : NRow w' a n ns := by
  obtain ⟨h1, h2, h3, h4⟩ := h
  refine ⟨h1, h2, h3, fun hn => ?_⟩
  obtain ⟨b, off, ha, hlt, hc⟩ := h4 hn
  refine ⟨b, off, ha, Nat.lt_of_lt_of_le hlt hb.size, fun i hi => ?_⟩
  rw [hb.cell (p := ⟨b, off + i, none⟩) hlt]; exact hc i hi

def IdxRel (ns : List ByteArray) (u : ByteArray) (w : World) (v : Value) (wr : World) : Prop :=
  ∃ k : Nat, v = .int .i64 (k : Int) ∧ k ≤ ns.length ∧ inN (ns.take k) u = false ∧ wr = w

set_option maxHeartbeats 4000000 in
set_option maxRecDepth 100000 in
theorem index_any (a : Option Addr) (n cap : Nat) (ns : List ByteArray) (u : ByteArray) (w : World) (hr : NRow w a n ns) :
    Calls Tryz.prog 105 #[.slice a n cap, .string u] w fun e w' => (∃ z : Int, e = .returned (.int .i64 z) ∧ decide (0 ≤ z) = inN ns u) ∧ w' = w := by
  have HR := Lib.hid hr
  have hl := hr.1
  have n1 : (n : Int) ≤ 9223372036854775807 := by have := hr.2.1; omega
  clear hr
  go_enter Tryz.func105, Tryz.ntmps105
  go_wp2_with fail
  go_loopw [8] (IdxRel ns u w) (fun v _ => n - (intOf v).toNat)
  case atStart => exact ⟨0, rfl, by omega, rfl, rfl⟩
  case round =>
    obtain ⟨k, rfl, hk, hno, rfl⟩ := hrel
    by_cases hlt : k < n
    · have dl : decide ((k : Int) < (n : Int)) = true := decide_eq_true (by omega)
      obtain ⟨b, off, rfl, hb, hc⟩ := HR.out.2.2.2 (by omega)
      have x0 := hc k hlt
      have k1 : (0 : Int) ≤ (k : Int) := by omega
      have k2 : (k : Int) < (n : Int) := by omega
      have HT := Lib.hid (inN_take (u := u) (by omega : k < ns.length))
      have HY := Lib.hid (fun h => inN_yes (u := u) (by omega : k < ns.length) h)
      have HNO := Lib.hid hno
      rw [hno, Bool.false_or] at HT
      clear hc hno
      generalize nsAt ns k = s at *
      cases he : (u.toList == s.toList)
      · have he2 : (s.toList == u.toList) = false := by rw [beq_swap]; exact he
        go_wp2_with fail
        go_roundw
        case rel => exact ⟨k + 1, by first | rfl | (congr 1; omega), by omega, by rw [HT.out]; exact he2, rfl⟩
        case measure => simp [intOf]; omega
      · have he2 : (s.toList == u.toList) = true := by rw [beq_swap]; exact he
        go_wp2_with fail
        go_ret
        exact ⟨⟨k, rfl, by rw [HY.out he2, decide_eq_true (by omega)]⟩, rfl⟩
    · have hkn : ¬ (k : Int) < (n : Int) := by omega
      have HE : Hid (inN ns u = false) := Lib.hid (by rw [← hno, List.take_of_length_le (by omega)])
      clear hno
      go_wp2_with fail
      go_ret
      exact ⟨⟨-1, rfl, by rw [HE.out]; rfl⟩, rfl⟩

theorem contains_any (a : Option Addr) (n cap : Nat) (ns : List ByteArray) (u : ByteArray) (w : World) (hr : NRow w a n ns) :
    Calls Tryz.prog 72 #[.slice a n cap, .string u] w fun e w' => e = .returned (.bool (inN ns u)) ∧ w' = w := by
  have H := Lib.hid (index_any a n cap ns u w hr)
  clear hr
  go_enter Tryz.func72, Tryz.ntmps72
  go_wp2_with (go_at_call 105; refine H.out.mono ?_; rintro e w' ⟨⟨z, rfl, hz⟩, rfl⟩; have HZ := Lib.hid hz; clear hz)
  go_ret
  exact ⟨by rw [← HZ.out]; rfl, rfl⟩

/-- Does the label stay, where names are kept, or (without) taken away? -/
def stayB (ns : List ByteArray) (without : Bool) (u : ByteArray) : Bool := bif without then (!(u.toList == (⟨#[95, 95, 110, 97, 109, 101, 95, 95]⟩ : ByteArray).toList) && !inN ns u) else inN ns u

theorem stays_any (a : Option Addr) (n cap : Nat) (ns : List ByteArray) (u : ByteArray) (without : Bool) (w : World) (hr : NRow w a n ns) :
    Calls Tryz.prog 102 #[.string u, .slice a n cap, .bool without] w fun e w' => e = .returned (.bool (stayB ns without u)) ∧ w' = w := by
  have H := Lib.hid (fun w hr => contains_any a n cap ns u w hr)
  have HR := Lib.hid hr
  clear hr
  unfold stayB
  cases without
  · go_enter Tryz.func102, Tryz.ntmps102
    go_wp2_with (go_at_call 72; refine (H.out _ HR.out).mono ?_; rintro e w' ⟨rfl, rfl⟩)
    go_ret
    exact ⟨rfl, rfl⟩
  · cases hm : (u.toList == (⟨#[95, 95, 110, 97, 109, 101, 95, 95]⟩ : ByteArray).toList)
    · have hm2 : (u.toList == [95, 95, 110, 97, 109, 101, 95, 95]) = false := by rw [show (⟨#[95, 95, 110, 97, 109, 101, 95, 95]⟩ : ByteArray).toList = [95, 95, 110, 97, 109, 101, 95, 95] by rw [ByteArray.toList_eq]] at hm; exact hm
      generalize inN ns u = i at *
      cases i
      all_goals
        go_enter Tryz.func102, Tryz.ntmps102
        go_wp2_with (go_at_call 72; refine (H.out _ HR.out).mono ?_; rintro e w' ⟨rfl, rfl⟩)
        go_ret
        exact ⟨rfl, rfl⟩
    · have hm2 : (u.toList == [95, 95, 110, 97, 109, 101, 95, 95]) = true := by rw [show (⟨#[95, 95, 110, 97, 109, 101, 95, 95]⟩ : ByteArray).toList = [95, 95, 110, 97, 109, 101, 95, 95] by rw [ByteArray.toList_eq]] at hm; exact hm
      go_enter Tryz.func102, Tryz.ntmps102
      go_wp2_with fail
      go_ret
      exact ⟨rfl, rfl⟩

end Go.Proofs.YtmmfjknnbkcniaaGreatDoor

namespace Go.Proofs.YtmmfjknnbkcniaaGreatDoor
open Go.Fl Go.Rel Go.RowKit

/-- A list of bytes under way: it lies in blocks from B on, and holds l. -/
def OwnB (B : Nat) (w : World) (v : Value) (l : List UInt8) : Prop := w.ownsRow B 5 1 v l.length (Lib.byteCells l)

theorem ownB_nil (B : Nat) (w : World) : OwnB B w (.slice none 0 0) [] := World.ownsRow_nil _ _ _ _
theorem OwnB.drewN {B : Nat} {w : World} {v : Value} {l : List UInt8} (h : OwnB B w v l) (n : Nat) : OwnB B (w.drewN n) v l := h
theorem OwnB.alloc {B : Nat} {w : World} {v : Value} {l : List UInt8} (h : OwnB B w v l) (o : Obj) : OwnB B (w.alloc o) v l := World.ownsRow.alloc h o
theorem OwnB.below {B : Nat} {w0 w w' : World} {v : Value} {l : List UInt8} (h : OwnB B w v l) (hb : Below B w0 w) (hg : w.grownBy w' v.ownBlock) (hB : B ≤ w.heap.size) : Below B w0 w' :=
  hb.grown hg hB fun k hk => (World.ownsRow.lt h k hk).1

theorem info_b : (Tryz.prog.info? 5).map (fun i => (i.zero, i.size, i.bytes)) = some (some (.int .u8 0), 1, 1) := by kernel_rfl

/-- Some bytes more. -/
theorem wpList_append_b {ops : Array Oper} {rest : List Oper} {o : Oper} {a : Act} {Q : Exit → Act → World → Prop} {w : World} (hgd : o.guard = none) (s x : Operand)
    (ho : o.op = .call { callee := .builtin .append, args := #[s, x], argTypes := #[84, 84] })
    (B : Nat) (v : Value) (l : List UInt8) (hs : a.eval s = v) (hown : OwnB B w v l) (b c : Nat) (ys : List UInt8) (m : Nat) (hm : ys.length = m) (hx : a.eval x = .slice (some ⟨b, 0, none⟩) m c)
    (hy : ∀ j y, ys[j]? = some y → w.cell? ⟨b, j, none⟩ = some (.int .u8 (y.toNat : Int)))
    (hb : l.length + m ≤ 140737488355328) (hB : B ≤ w.heap.size)
    (h : ∀ v' w', OwnB B w' v' (l ++ ys) → w.grownBy w' v.ownBlock → (v'.ownBlock = v.ownBlock ∨ v'.ownBlock = some w.heap.size) → wpList Tryz.prog ops Q rest (a.put o.dst v') w') :
    wpList Tryz.prog ops Q (o :: rest) a w := by
  obtain ⟨i0, hi, hz0, hz1, hz2⟩ := info_parts info_b
  subst hm
  refine wpList_append_own_at w hgd s x 84 ho B 5 i0 (.int .u8 0) 1 1 Tryz.underlying84 hi hz0 hz1 hz2 rfl (by decide) v _ _ hs hown ⟨b, 0, none⟩ ys.length c (Lib.byteCells ys) hx (by rw [Lib.byteCells_length, Nat.mul_one]) ?_ ?_ ?_ ?_ hB ?_
  · intro j u hj
    rw [show (⟨b, 0, none⟩ : Addr).add j = ⟨b, j, none⟩ by unfold Addr.add; split <;> simp_all]
    unfold Lib.byteCells at hj
    rw [List.getElem?_map] at hj
    obtain ⟨y, hy1, hy2⟩ := Option.map_eq_some_iff.1 hj
    rw [← hy2]
    exact hy j y hy1
  · intro u hu
    unfold Lib.byteCells at hu
    obtain ⟨y, _, rfl⟩ := List.mem_map.1 hu
    rfl
  · unfold maxLen; omega
  · omega
  · intro v' w' h1 h2 _ h4
    refine h v' w' ?_ h2 h4
    unfold OwnB
    rw [List.length_append, Lib.byteCells_append]
    exact h1

/-- A new block of bytes: what its cells hold. -/
theorem byte_one (w : World) (z : Int) (y : UInt8) (t : TypeId) (hz : z = (y.toNat : Int)) : ∀ j u, [y][j]? = some u → (w.alloc (.cells #[.int .u8 z] t)).cell? ⟨w.heap.size, j, none⟩ = some (.int .u8 (u.toNat : Int)) := by
  intro j u hj
  match j, hj with
  | 0, hj => simp at hj; subst hj; rw [World.cell?_alloc_at _ _ _ _ rfl, hz]; rfl
/-- The bytes as a string. -/
theorem OwnB.text {B : Nat} {w : World} {v : Value} {l : List UInt8} (h : OwnB B w v l) (hn : l ≠ []) : (convert 84 9 v).run Tryz.prog w = .ok (.string ⟨l.toArray⟩) w := by
  have hpos : 0 < l.length := List.length_pos_iff.2 hn
  unfold OwnB at h
  rcases h.2 with ⟨-, h0⟩ | ⟨g, cap, cur, rfl, -, -, -, -, -, -⟩
  · omega
  · exact run_convert_bytes_back (P := Tryz.prog) w 84 9 5 ⟨g, 0, none⟩ cap l Tryz.underlying84 Tryz.underlying5 Tryz.underlying9 (fun j hj => h.cells (g := g) rfl j _ (by simp [Lib.byteCells, hj]))

theorem OwnB.form {B : Nat} {w : World} {v : Value} {l : List UInt8} (h : OwnB B w v l) (hn : l ≠ []) : ∃ g cap, v = .slice (some ⟨g, 0, none⟩) l.length cap ∧ B ≤ g ∧ l.length ≤ cap ∧ ∀ j (hj : j < l.length), w.cell? ⟨g, j, none⟩ = some (.int .u8 (l[j].toNat : Int)) := by
  have hpos : 0 < l.length := List.length_pos_iff.2 hn
  have h0 := h
  unfold OwnB at h
  obtain ⟨h1, h2⟩ := h
  rcases h2 with ⟨-, h0⟩ | ⟨g, cap, cur, rfl, hg, hb, hlc, _⟩
  · omega
  · refine ⟨g, cap, rfl, by omega, by omega, fun j hj => ?_⟩
    have := World.ownsRow.cells h0 (g := g) rfl j (.int .u8 (l[j].toNat : Int)) (by simp [Lib.byteCells, hj])
    rw [show (⟨g, 0, none⟩ : Addr).add j = ⟨g, j, none⟩ by unfold Addr.add; split <;> simp_all] at this
    exact this
end Go.Proofs.YtmmfjknnbkcniaaGreatDoor
