/- The library's contracts for strconv.AppendInt at this translation: printed by the shelf's lay-shelf.mjs and lay-plain.mjs. labels.Key: a text that is equal just where the labels that stay are equal. pair.keys: the elements' keys. Maps from texts to numbers, that a call makes; pair.counted. pair.counted: how often each key comes. labels.Get, weirref16.Get, weirref21.has, weirref16.Keep. -/
import Derived.Shelf.Strconv.Itoa0
import Derived.Shelf.Strconv.Itoa1
import Derived.Shelf.LaysM
import Derived.Shelf.Strconv.Itoa2
import Derived.Shelf.Strconv.AppendUint10
import Derived.Shelf.Strconv.AppendInt10
import Derived.Shelf.Strconv.AppendIntPublic10
import Derived.Test.YtmmfjknnbkcniaaGreatDoorProg
import Derived.Test.YtmmfjknnbkcniaaGreatDoorQ19
import Derived.Lib.ItoaMem
import Derived.Lib.AppendIntMem
import Derived.Lib.AppendStr
import Derived.Test.YtmmfjknnbkcniaaGreatDoorQ14
import Derived.Maps.OwnOps
import Derived.Maps.Views
import Derived.StringKeys
import Derived.WideMake
namespace Go.Proofs
open Go.Shelf
def Tryz.laysM288_ren : Go.Shelf.Ren := ⟨fun | 288 => 155 | 283 => 163 | 284 => 164 | 285 => 165 | 286 => 166 | 129 => 170 | 317 => 169 | 318 => 171 | 319 => 172 | 320 => 173 | 337 => 176 | 338 => 177 | n => n, fun | 37 => 84 | 53 => 82 | 3 => 3 | 4 => 4 | 9 => 9 | 171 => 134 | 0 => 0 | 173 => 137 | 212 => 141 | 51 => 142 | 5 => 5 | 20 => 20 | 213 => 143 | 46 => 122 | 232 => 146 | 233 => 147 | n => n, fun | 17 => 1 | 18 => 2 | 19 => 3 | n => n⟩
def Tryz.laysM249_ren : Go.Shelf.Ren := ⟨fun | 249 => 137 | 288 => 155 | 283 => 163 | 284 => 164 | 285 => 165 | 286 => 166 | 129 => 170 | 317 => 169 | 318 => 171 | 319 => 172 | 320 => 173 | 337 => 176 | 338 => 177 | n => n, fun | 37 => 84 | 2 => 2 | 3 => 3 | 53 => 82 | 4 => 4 | 9 => 9 | 171 => 134 | 0 => 0 | 173 => 137 | 212 => 141 | 51 => 142 | 5 => 5 | 20 => 20 | 213 => 143 | 46 => 122 | 232 => 146 | 233 => 147 | n => n, fun | 17 => 1 | 18 => 2 | 19 => 3 | n => n⟩
def Tryz.laysM176_ren : Go.Shelf.Ren := ⟨fun | 176 => 103 | 249 => 137 | 288 => 155 | 283 => 163 | 284 => 164 | 285 => 165 | 286 => 166 | 129 => 170 | 317 => 169 | 318 => 171 | 319 => 172 | 320 => 173 | 337 => 176 | 338 => 177 | n => n, fun | 37 => 84 | 2 => 2 | 3 => 3 | 53 => 82 | 4 => 4 | 9 => 9 | 171 => 134 | 0 => 0 | 173 => 137 | 212 => 141 | 51 => 142 | 5 => 5 | 20 => 20 | 213 => 143 | 46 => 122 | 232 => 146 | 233 => 147 | n => n, fun | 17 => 1 | 18 => 2 | 19 => 3 | n => n⟩
theorem Tryz.laysM176 : Go.Proofs.LaysM.n176 Tryz.prog Tryz.laysM176_ren := {
  mixed := by kernel_rfl
  f129 := Tryz.func170.trans (congrArg some (by kernel_rfl))
  f176 := Tryz.func103.trans (congrArg some (by kernel_rfl))
  f249 := Tryz.func137.trans (congrArg some (by kernel_rfl))
  f283 := Tryz.func163.trans (congrArg some (by kernel_rfl))
  f284 := Tryz.func164.trans (congrArg some (by kernel_rfl))
  f285 := Tryz.func165.trans (congrArg some (by kernel_rfl))
  f286 := Tryz.func166.trans (congrArg some (by kernel_rfl))
  f288 := Tryz.func155.trans (congrArg some (by kernel_rfl))
  f317 := Tryz.func169.trans (congrArg some (by kernel_rfl))
  f318 := Tryz.func171.trans (congrArg some (by kernel_rfl))
  f319 := Tryz.func172.trans (congrArg some (by kernel_rfl))
  f320 := Tryz.func173.trans (congrArg some (by kernel_rfl))
  f337 := Tryz.func176.trans (congrArg some (by kernel_rfl))
  f338 := Tryz.func177.trans (congrArg some (by kernel_rfl))
  t0 := Tryz.underlying0
  a0 := Tryz.isAgg0
  z0 := Tryz.sizeOf0
  v0 := Tryz.zeroValue0
  t2 := Tryz.underlying2
  a2 := Tryz.isAgg2
  z2 := Tryz.sizeOf2
  v2 := Tryz.zeroValue2
  t3 := Tryz.underlying3
  a3 := Tryz.isAgg3
  z3 := Tryz.sizeOf3
  v3 := Tryz.zeroValue3
  t4 := Tryz.underlying4
  a4 := Tryz.isAgg4
  z4 := Tryz.sizeOf4
  v4 := Tryz.zeroValue4
  t5 := Tryz.underlying5
  a5 := Tryz.isAgg5
  z5 := Tryz.sizeOf5
  v5 := Tryz.zeroValue5
  t9 := Tryz.underlying9
  a9 := Tryz.isAgg9
  z9 := Tryz.sizeOf9
  v9 := Tryz.zeroValue9
  t20 := Tryz.underlying20
  a20 := Tryz.isAgg20
  z20 := Tryz.sizeOf20
  v20 := Tryz.zeroValue20
  t37 := Tryz.underlying84
  a37 := Tryz.isAgg84
  z37 := Tryz.sizeOf84
  v37 := Tryz.zeroValue84
  t46 := Tryz.underlying122
  a46 := Tryz.isAgg122
  z46 := Tryz.sizeOf122
  v46 := Tryz.zeroValue122
  t51 := Tryz.underlying142
  a51 := Tryz.isAgg142
  z51 := Tryz.sizeOf142
  v51 := Tryz.zeroValue142
  t53 := Tryz.underlying82
  a53 := Tryz.isAgg82
  z53 := Tryz.sizeOf82
  v53 := Tryz.zeroValue82
  t171 := Tryz.underlying134
  a171 := Tryz.isAgg134
  z171 := Tryz.sizeOf134
  v171 := Tryz.zeroValue134
  t173 := Tryz.underlying137
  a173 := Tryz.isAgg137
  z173 := Tryz.sizeOf137
  v173 := Tryz.zeroValue137
  t212 := Tryz.underlying141
  a212 := Tryz.isAgg141
  z212 := Tryz.sizeOf141
  v212 := Tryz.zeroValue141
  t213 := Tryz.underlying143
  a213 := Tryz.isAgg143
  z213 := Tryz.sizeOf143
  t232 := Tryz.underlying146
  a232 := Tryz.isAgg146
  z232 := Tryz.sizeOf146
  v232 := Tryz.zeroValue146
  t233 := Tryz.underlying147
  a233 := Tryz.isAgg147
  z233 := Tryz.sizeOf147
  v233 := Tryz.zeroValue147
  g17 := by kernel_rfl
  g18 := by kernel_rfl
  g19 := by kernel_rfl
  i0 := by kernel_rfl
  i2 := by kernel_rfl
  i3 := by kernel_rfl
  i4 := by kernel_rfl
  i5 := by kernel_rfl
  i9 := by kernel_rfl
  i20 := by kernel_rfl
  i37 := by kernel_rfl
  i46 := by kernel_rfl
  i51 := by kernel_rfl
  i53 := by kernel_rfl
  i171 := by kernel_rfl
  i173 := by kernel_rfl
  i212 := by kernel_rfl
  i232 := by kernel_rfl
  i233 := by kernel_rfl
  m17 := by kernel_rfl
  m18 := by kernel_rfl
  m19 := by kernel_rfl }
open Go.RowKit Go.Sort Go.Lib in
/-- strconv.AppendInt: "AppendInt appends the string form of the integer i, as generated by FormatInt, to dst and returns the extended buffer.": AT BASE 10: WHAT COMES BACK OWNS dst's CELLS AND, BEHIND THEM, i's DECIMAL NUMERAL ('Lib.itoa i': at most 20 bytes), for every int64. Below the call's own blocks nothing has turned. (LAID: no walk: one application.) -/
theorem Tryz.strconv_AppendInt_10 (B n : Nat) (i : Int) (h0 : -9223372036854775808 ≤ i) (h1 : i ≤ 9223372036854775807) (sv : Value) (xs : List Value) (w : World) (hown : w.ownsRow B 5 1 sv n xs) (hBw : B ≤ w.heap.size) (hlim : n + 21 ≤ 140737488355328) (htab : Lib.TabBelow Tryz.prog B w "internal/strconv.uint64pow10" .u64 Lib.pow10Tab) :
    Calls Tryz.prog 103 #[sv, .int .i64 i, .int .i64 10] w fun e w' => ∃ v', e = .returned v' ∧ w'.ownsRow B 5 1 v' (n + (Lib.itoa i).length) (xs ++ Lib.byteCells (Lib.itoa i)) ∧ Below B w w' ∧ Lib.OthersKept 5 none w w' := Any.strconv_AppendInt_10 Tryz.laysM176 B n i h0 h1 sv xs w hown hBw hlim htab
end Go.Proofs

namespace Go.Fl
/-- A text behind its length. -/
def numT (s : ByteArray) : List UInt8 := Lib.itoa (s.size : Int) ++ [58] ++ s.data.toList
def labT (l : Lb) : List UInt8 := numT l.n ++ numT l.v
end Go.Fl
namespace Go.Proofs.YtmmfjknnbkcniaaGreatDoor
open Go.Fl Go.Rel Go.RowKit
set_option linter.unusedSimpArgs false
set_option linter.unusedVariables false

/-- The table of powers of ten lies as the text lays it. -/
def Tab (B : Nat) (w : World) : Prop := Lib.TabBelow Tryz.prog B w "internal/strconv.uint64pow10" .u64 Lib.pow10Tab
theorem Tab.on {B : Nat} {w w1 : World} (h : Tab B w) (hb : Below B w w1) : Tab B w1 := Lib.TabBelow.on h hb
def OwnRet (B : Nat) (w : World) (l : List UInt8) (e : Ending) (w' : World) : Prop := ∃ v, e = .returned v ∧ OwnB B w' v l ∧ Below B w w'

theorem appendInt_any (i : Int) (h0 : 0 ≤ i) (h1 : i ≤ 9223372036854775807) (B : Nat) (v : Value) (l : List UInt8) (w : World) (hB : B ≤ w.heap.size) (hown : OwnB B w v l) (hl : l.length ≤ 140737488000000) (ht : Tab B w) :
    Calls Tryz.prog 103 #[v, .int .i64 i, .int .i64 10] w (OwnRet B w (l ++ Lib.itoa i)) := by
  refine (Tryz.strconv_AppendInt_10 B l.length i (by omega) (by omega) v (Lib.byteCells l) w hown hB (by omega) ht).mono ?_
  rintro e w' ⟨v', rfl, h1, h2, _⟩
  refine ⟨v', rfl, ?_, h2⟩
  unfold OwnB
  rw [List.length_append, Lib.byteCells_append]
  exact h1

theorem strCells_bytes (s : ByteArray) : Lib.strCells s = Lib.byteCells s.data.toList := by
  unfold Lib.strCells Lib.byteCells
  apply List.ext_getElem
  · simp
    try rfl
  · intro j h1 h2
    simp
    try rfl

/-- A string's bytes more. -/
theorem wpList_append_str {ops : Array Oper} {rest : List Oper} {o : Oper} {a : Act} {Q : Exit → Act → World → Prop} {w : World} (hgd : o.guard = none) (s x : Operand)
    (ho : o.op = .call { callee := .builtin .append, args := #[s, x], argTypes := #[84, 9] })
    (B : Nat) (v : Value) (l : List UInt8) (hs : a.eval s = v) (hown : OwnB B w v l) (m : ByteArray) (hx : a.eval x = .string m)
    (hb : l.length + m.size ≤ 140737488355328) (hB : B ≤ w.heap.size)
    (h : ∀ v' w', OwnB B w' v' (l ++ m.data.toList) → w.grownBy w' v.ownBlock → wpList Tryz.prog ops Q rest (a.put o.dst v') w') :
    wpList Tryz.prog ops Q (o :: rest) a w := by
  obtain ⟨i0, hi, hz0, hz1, hz2⟩ := info_parts info_b
  have hsz : m.size = m.data.toList.length := by rw [Array.length_toList]; rfl
  refine Lib.wpList_append_own_string (P := Tryz.prog) (w := w) hgd s x 84 9 ho B 5 i0 Tryz.underlying84 Tryz.underlying9 hi hz0 hz1 hz2 v _ _ hs hown m hx ?_ ?_ hB ?_
  · unfold maxLen; omega
  · omega
  · intro v' w' h1 h2 _
    refine h v' w' ?_ h2
    rw [strCells_bytes, hsz] at h1
    unfold OwnB
    rw [List.length_append, Lib.byteCells_append]
    exact h1

/-- What Key spells. -/
def keyL (ns : List ByteArray) (without : Bool) (ls : List Lb) : List UInt8 := (ls.filter fun l => stayB ns without l.n).flatMap labT
theorem keyL_snoc (ns : List ByteArray) (without : Bool) (ls : List Lb) {k : Nat} (h : k < ls.length) : keyL ns without (ls.take (k + 1)) = keyL ns without (ls.take k) ++ (if stayB ns without (nL ls k) then numT (nL ls k) ++ numT (vL ls k) else []) := by
  unfold keyL nL vL
  rw [List.take_add_one, List.getElem?_eq_getElem h, List.filter_append, List.flatMap_append, lbAt_get h]
  congr 1
  by_cases e : stayB ns without ls[k].n = true
  · rw [if_pos e]; simp [e, labT]
  · rw [if_neg e]; simp [e]
theorem keyL_le (ns : List ByteArray) (without : Bool) (ls : List Lb) (k : Nat) : (keyL ns without (ls.take k)).length ≤ (keyL ns without ls).length := by
  unfold keyL
  conv => rhs; rw [← List.take_append_drop k ls, List.filter_append, List.flatMap_append, List.length_append]
  exact Nat.le_add_right _ _
theorem labT_len (n v : ByteArray) : (numT n ++ numT v).length = (numT n).length + (numT v).length := List.length_append
theorem numT_len (n : ByteArray) : (numT n).length = (Lib.itoa (n.size : Int)).length + 1 + n.size := by
  unfold numT; rw [List.length_append, List.length_append, Array.length_toList]; rfl

def KeyRel (ns : List ByteArray) (without : Bool) (ls : List Lb) (w : World) (v7 v14 : Value) (wr : World) : Prop :=
  ∃ k : Nat, v14 = .int .i64 (k : Int) ∧ k ≤ ls.length ∧ OwnB w.heap.size wr v7 (keyL ns without (ls.take k)) ∧ (keyL ns without (ls.take k) = [] → v7 = .slice none 0 0) ∧ Below w.heap.size w wr
def KeyIn (B : Nat) (l0 : List UInt8) (N V : ByteArray) (w : World) (v7 v28 : Value) (wr : World) : Prop :=
  Below B w wr ∧ ((v28 = .int .i64 0 ∧ OwnB B wr v7 l0) ∨ (v28 = .int .i64 1 ∧ OwnB B wr v7 (l0 ++ numT N)) ∨ (v28 = .int .i64 2 ∧ OwnB B wr v7 (l0 ++ (numT N ++ numT V))))

set_option maxHeartbeats 8000000 in
set_option maxRecDepth 100000 in
theorem key_any (a : Option Addr) (n cap : Nat) (ls : List Lb) (b : Option Addr) (m cb : Nat) (ns : List ByteArray) (without : Bool) (w : World) (hr : LRow w a n ls) (hn : NRow w b m ns) (hl : (keyL ns without ls).length ≤ 140737480000000) (ht : Tab w.heap.size w) :
    Calls Tryz.prog 69 #[.slice a n cap, .slice b m cb, .bool without] w fun e w' => e = .returned (.string ⟨(keyL ns without ls).toArray⟩) ∧ Below w.heap.size w w' := by
  have HR := Lib.hid hr
  have HN := Lib.hid hn
  have HT := Lib.hid ht
  have HL : Hid (∀ k, (keyL ns without (ls.take k)).length ≤ 140737480000000) := Lib.hid fun k => Nat.le_trans (keyL_le ns without ls k) hl
  have hln := hr.1
  have n1 : (n : Int) ≤ 9223372036854775807 := by have := hr.2.1; omega
  clear hr hn ht hl
  go_enter Tryz.func69, Tryz.ntmps69
  go_wp2_with fail
  go_loopw [7, 14] (KeyRel ns without ls w) (fun _ v _ => n - (intOf v).toNat)
  case atStart => exact ⟨0, rfl, by omega, ownB_nil _ _, fun _ => rfl, Below.refl _ _⟩
  case round =>
    obtain ⟨k, rfl, hk, own, hnil, bel⟩ := hrel
    have HO := Lib.hid own
    have HNI := Lib.hid hnil
    have HB := Lib.hid bel
    have hrw := HR.out.below bel
    clear own hnil bel
    by_cases hlt : k < n
    · have dl : decide ((k : Int) < (n : Int)) = true := decide_eq_true (by omega)
      obtain ⟨bb, off, rfl, hb, hc⟩ := hrw.2.2.2 (by omega)
      obtain ⟨x0, x1⟩ := hc k hlt
      have hsm := hrw.2.2.1 k
      have k1 : (0 : Int) ≤ (k : Int) := by omega
      have k2 : (k : Int) < (n : Int) := by omega
      have HE := Lib.hid (keyL_snoc ns without ls (by omega : k < ls.length))
      have HLK := Lib.hid (HL.out (k + 1))
      generalize nL ls k = xn at *
      generalize vL ls k = xv at *
      have HSM := Lib.hid hsm
      have hbx : Below wr.heap.size wr (wr.alloc (.cells #[.string xn, .string xv] 54)) := (Below.refl _ _).alloc (Nat.le_refl _) _
      have HST : Hid (∀ W, Below wr.heap.size wr W → Calls Tryz.prog 102 #[.string xn, .slice b m cb, .bool without] W fun e w' => e = .returned (.bool (stayB ns without xn)) ∧ w' = W) := Lib.hid fun W hW =>
        stays_any b m cb ns xn without W (HN.out.below (HB.out.trans (hW.mono HB.out.size)))
      have HBX := Lib.hid hbx
      clear hc hrw hsm hbx
      cases he : stayB ns without xn
      · rw [he] at HE HST
        go_wp2_with (go_at_call 102; refine (HST.out _ HBX.out).mono ?_; rintro e w' ⟨rfl, rfl⟩)
        go_roundw
        case rel => exact ⟨k + 1, by first | rfl | (congr 1; omega), by omega, by rw [HE.out]; simp; exact HO.out.alloc _, fun h => HNI.out (by rw [HE.out] at h; simpa using h), HB.out.trans (HBX.out.mono HB.out.size)⟩
        case measure => simp [intOf]; omega
      · rw [he] at HE HST
        go_wp2_with (go_at_call 102; refine (HST.out _ HBX.out).mono ?_; rintro e w' ⟨rfl, rfl⟩)
        have HOI0 : Hid (OwnB w.heap.size (wr.alloc (.cells #[.string xn, .string xv] 54)) u7 (keyL ns without (ls.take k))) := Lib.hid (HO.out.alloc _)
        have HBI : Hid (Below w.heap.size w w) := Lib.hid (Below.refl _ _)
        have HBA : Hid (Below w.heap.size w (wr.alloc (.cells #[.string xn, .string xv] 54))) := Lib.hid (HB.out.trans (HBX.out.mono HB.out.size))
        have HSM := Lib.hid (And.intro HSM.out.1 HSM.out.2)
        generalize hl0 : keyL ns without (ls.take k) = l0 at *
        generalize wr.alloc (.cells #[.string xn, .string xv] 54) = wa at *
        have hsN := HSM.out.1
        have hsV := HSM.out.2
        have hix0 : ∀ W, (Instr.index 111 (.agg #[.string xn, .string xv]) (.int .i64 0)).run Tryz.prog W = .ok (.string xn) W := fun W => by kernel_rfl
        have hix1 : ∀ W, (Instr.index 111 (.agg #[.string xn, .string xv]) (.int .i64 1)).run Tryz.prog W = .ok (.string xv) W := fun W => by kernel_rfl
        have bN : (xn.size : Int) ≤ 140737488355328 := by unfold SmallT at hsN; omega
        have bV : (xv.size : Int) ≤ 140737488355328 := by unfold SmallT at hsV; omega
        clear hsN hsV HBX HB HO
        go_loopw [7, 28] (KeyIn w.heap.size l0 xn xv w) (fun _ v _ => 2 - (intOf v).toNat)
        case atStart => exact ⟨HBA.out, .inl ⟨rfl, HOI0.out⟩⟩
        case round =>
          obtain ⟨bel2, hin⟩ := hrel
          have HB2 := Lib.hid bel2
          clear bel2
          rcases hin with ⟨rfl, ho⟩ | ⟨rfl, ho⟩ | ⟨rfl, ho⟩
          all_goals (have HOI := Lib.hid ho; clear ho)
          · have HLB : Hid ((l0).length + (Lib.itoa (xn.size : Int)).length + 1 + xn.size ≤ 140737480000000) := Lib.hid (by
              have := HLK.out; rw [HE.out] at this; simp [numT_len] at this ⊢; omega)
            go_wp2_with (first | (go_at_call 103; refine (appendInt_any (xn.size : Int) (by omega) (by have := HSM.out.1; unfold SmallT at this; omega) w.heap.size _ (l0) _ (HB2.out.size) HOI.out (by have := HLB.out; omega) (HT.out.on HB2.out)).mono ?_; rintro e w5 ⟨v5, rfl, ho5, b5⟩; have HO5 := Lib.hid ho5; have HB5 := Lib.hid (HB2.out.trans b5); have HW5 := Lib.hid (Nat.le_trans HBI.out.size HB5.out.size); clear ho5 b5) | (at_builtin; refine wpList_append_b rfl (.tmp 35) (.tmp 36) rfl w.heap.size _ (l0 ++ Lib.itoa (xn.size : Int)) rfl (HO5.out.alloc _) w5.heap.size 1 [58] 1 rfl rfl (byte_one _ _ _ _ rfl) (by have := HLB.out; simp only [List.length_append, List.length_cons, List.length_nil] at this ⊢; omega) (Nat.le_trans HB5.out.size (by simp)) ?_; intro v6 w6 ho6 gb6 hv6; have HB6 := Lib.hid ((HO5.out.alloc _).below (HB5.out.alloc HB5.out.size _) gb6 (Nat.le_trans HB5.out.size (by simp))); have HO6 := Lib.hid ho6; clear ho6 gb6 hv6) | (at_builtin; refine wpList_append_str rfl (.tmp 38) (.tmp 39) rfl w.heap.size _ (l0 ++ Lib.itoa (xn.size : Int) ++ [58]) rfl HO6.out xn rfl (by have := HLB.out; simp only [List.length_append, List.length_cons, List.length_nil] at this ⊢; omega) HB6.out.size ?_; intro v7 w7 ho7 gb7; have HB7 := Lib.hid (HO6.out.below HB6.out gb7 HB6.out.size); have HO7 : Hid (OwnB w.heap.size w7 v7 (l0 ++ numT xn)) := Lib.hid (by unfold numT; rw [← List.append_assoc, ← List.append_assoc]; exact ho7); clear ho7 gb7))
            go_roundw
            case rel => exact ⟨HB7.out, .inr (.inl ⟨rfl, HO7.out⟩)⟩
            case measure => simp [intOf]
          · have HLB : Hid ((l0 ++ numT xn).length + (Lib.itoa (xv.size : Int)).length + 1 + xv.size ≤ 140737480000000) := Lib.hid (by
              have := HLK.out; rw [HE.out] at this; simp [numT_len] at this ⊢; omega)
            go_wp2_with (first | (go_at_call 103; refine (appendInt_any (xv.size : Int) (by omega) (by have := HSM.out.2; unfold SmallT at this; omega) w.heap.size _ (l0 ++ numT xn) _ (HB2.out.size) HOI.out (by have := HLB.out; omega) (HT.out.on HB2.out)).mono ?_; rintro e w5 ⟨v5, rfl, ho5, b5⟩; have HO5 := Lib.hid ho5; have HB5 := Lib.hid (HB2.out.trans b5); have HW5 := Lib.hid (Nat.le_trans HBI.out.size HB5.out.size); clear ho5 b5) | (at_builtin; refine wpList_append_b rfl (.tmp 35) (.tmp 36) rfl w.heap.size _ (l0 ++ numT xn ++ Lib.itoa (xv.size : Int)) rfl (HO5.out.alloc _) w5.heap.size 1 [58] 1 rfl rfl (byte_one _ _ _ _ rfl) (by have := HLB.out; simp only [List.length_append, List.length_cons, List.length_nil] at this ⊢; omega) (Nat.le_trans HB5.out.size (by simp)) ?_; intro v6 w6 ho6 gb6 hv6; have HB6 := Lib.hid ((HO5.out.alloc _).below (HB5.out.alloc HB5.out.size _) gb6 (Nat.le_trans HB5.out.size (by simp))); have HO6 := Lib.hid ho6; clear ho6 gb6 hv6) | (at_builtin; refine wpList_append_str rfl (.tmp 38) (.tmp 39) rfl w.heap.size _ (l0 ++ numT xn ++ Lib.itoa (xv.size : Int) ++ [58]) rfl HO6.out xv rfl (by have := HLB.out; simp only [List.length_append, List.length_cons, List.length_nil] at this ⊢; omega) HB6.out.size ?_; intro v7 w7 ho7 gb7; have HB7 := Lib.hid (HO6.out.below HB6.out gb7 HB6.out.size); have HO7 : Hid (OwnB w.heap.size w7 v7 (l0 ++ numT xn ++ numT xv)) := Lib.hid (by unfold numT; rw [← List.append_assoc, ← List.append_assoc]; exact ho7); clear ho7 gb7))
            go_roundw
            case rel => exact ⟨HB7.out, .inr (.inr ⟨rfl, by rw [← List.append_assoc]; exact HO7.out⟩)⟩
            case measure => simp [intOf]
          · go_wp2_with fail
            go_roundw
            case rel => exact ⟨k + 1, by first | rfl | (congr 1; omega), by omega, by rw [HE.out]; exact HOI.out, fun h => by rw [HE.out] at h; simp [numT] at h, HB2.out⟩
            case measure => simp [intOf]; omega
    · have hkn : ¬ (k : Int) < (n : Int) := by omega
      have HE : Hid (keyL ns without (ls.take k) = keyL ns without ls) := Lib.hid (by rw [List.take_of_length_le (by omega)])
      clear hrw
      by_cases hz : keyL ns without (ls.take k) = []
      · have hv7 := HNI.out hz
        subst hv7
        have hz2 : keyL ns without ls = [] := by rw [← HE.out]; exact hz
        have HZ2 := Lib.hid hz2
        clear hz hz2
        have hcn : ∀ W, (convert 84 9 (.slice none 0 0)).run Tryz.prog W = .ok (.string ⟨#[]⟩) W := fun W => by kernel_rfl
        go_wp2_with fail
        go_ret
        exact ⟨by rw [HZ2.out]; rfl, HB.out⟩
      · have hcv := HO.out.text hz
        rw [HE.out] at hcv
        clear hz
        go_wp2_with fail
        go_ret
        exact ⟨rfl, HB.out⟩

end Go.Proofs.YtmmfjknnbkcniaaGreatDoor

namespace Go.Fl
/-- How elements meet, as it lies. -/
structure Mt where
  given : Bool
  on : Bool
  la : Option Addr
  ln : Nat
  lc : Nat
  card : Int
  ia : Option Addr
  im : Nat
  ic : Nat
  ns : List ByteArray
  inc : List ByteArray
def Mt.v (m : Mt) : Value := .agg #[.bool m.given, .bool m.on, .slice m.la m.ln m.lc, .int .i64 m.card, .slice m.ia m.im m.ic]
end Go.Fl
namespace Go.Proofs.YtmmfjknnbkcniaaGreatDoor
open Go.Fl Go.Rel Go.RowKit
set_option linter.unusedSimpArgs false
set_option linter.unusedVariables false

def MtOk (w : World) (m : Mt) : Prop := NRow w m.la m.ln m.ns ∧ NRow w m.ia m.im m.inc
theorem MtOk.below {w w' : World} {m : Mt} (h : MtOk w m) (hb : Below w.heap.size w w') : MtOk w' m := ⟨h.1.below hb, h.2.below hb⟩
/-- An element's key. -/
def keyE (m : Mt) (e : Er) : ByteArray := ⟨(keyL m.ns (!m.on) e.ls).toArray⟩
/-- A row of texts written in place. -/
def WS (w : World) (g : Nat) (l : List ByteArray) : Prop := g < w.heap.size ∧ ∀ i, i < l.length → w.cell? ⟨g, i, none⟩ = some (.string (nsAt l i)) ∧ w.frozen? ⟨g, i, none⟩ = false
theorem WS.below {w w' : World} {g k : Nat} {l : List ByteArray} (h : WS w g l) (hb : Below k w w') (hk : g < k) : WS w' g l := by
  obtain ⟨h0, h⟩ := h
  have hgl : g < w'.heap.size := by
    have hb2 := hb.block g hk
    rw [Array.getElem?_eq_getElem h0] at hb2
    by_cases hh : g < w'.heap.size
    · exact hh
    · rw [Array.getElem?_eq_none (by omega)] at hb2; cases hb2
  refine ⟨hgl, fun i hi => ?_⟩
  obtain ⟨c0, f0⟩ := h i hi
  rw [hb.cell (p := ⟨g, i, none⟩) hk]
  refine ⟨c0, ?_⟩
  unfold World.frozen? at *; rw [hb.block g hk]; exact f0
theorem nsAt_set {l : List ByteArray} {i j : Nat} {b : ByteArray} (h : i < l.length) : nsAt (l.set i b) j = if i = j then b else nsAt l j := by
  unfold nsAt
  by_cases e : i = j
  · subst e; simp [List.getD, h]
  · simp [List.getD, e, List.getElem?_set_ne]
theorem WS.set {w : World} {g : Nat} {l : List ByteArray} (h : WS w g l) (i : Nat) (s : ByteArray) (hi : i < l.length) : WS (w.setCell ⟨g, i, none⟩ (.string s)) g (l.set i s) := by
  obtain ⟨h0, h⟩ := h
  refine ⟨by simpa using h0, fun j hj => ?_⟩
  rw [List.length_set] at hj
  obtain ⟨c0, f0⟩ := h j hj
  rw [nsAt_set hi]
  refine ⟨?_, by rw [World.frozen?_setCell]; exact f0⟩
  by_cases e : i = j
  · subst e; rw [if_pos rfl]; exact World.cell?_setCell_same _ _ _ c0
  · rw [if_neg e, World.cell?_setCell_other _ _ _ _ (fun h => by injection h with _ h2 _; omega)]; exact c0
theorem info_str : (Tryz.prog.info? 9).map (fun i => (i.zero, i.size, i.bytes)) = some (some (.string ⟨#[]⟩), 1, 16) := by kernel_rfl
theorem make_strs (B : Nat) (w : World) (n : Nat) (hn : n ≤ 8796093022208) (hB : B ≤ w.heap.size) : ∃ w', (Instr.makeSlice 23 (.int .i64 (n : Int)) (.int .i64 (n : Int))).run Tryz.prog w = .ok (.slice (some ⟨w.heap.size, 0, none⟩) n n) w' ∧ WS w' w.heap.size (List.replicate n ⟨#[]⟩) ∧ Below w.heap.size w w' := by
  obtain ⟨i0, hi, hz0, hz1, hz2⟩ := info_parts info_str
  obtain ⟨w', h1, h2, h3⟩ := run_make_full (P := Tryz.prog) w B 23 9 i0 (.string ⟨#[]⟩) 1 Tryz.underlying23 hi hz0 hz1 .i64 .i64 n (by rw [hz2]; omega) (by unfold maxLen; omega) hB
  refine ⟨w', h1, ⟨(World.ownsRow.lt h2 w.heap.size rfl).2, fun i hi => ?_⟩, (Below.refl _ _).grown h3 (Nat.le_refl _) fun k hk => by cases hk⟩
  rw [List.length_replicate] at hi
  have k0 := World.ownsRow.cellAt h2 i (by omega)
  refine ⟨?_, World.ownsRow.frozenAt h2 _⟩
  rw [k0, show Value.cells (.string ⟨#[]⟩) = #[.string ⟨#[]⟩] from rfl, toList_madeCells_one, Nat.mul_one]
  unfold nsAt
  simp [List.getD, hi]
theorem WS.row {w : World} {g : Nat} {l : List ByteArray} (h : WS w g l) (hn : l.length ≤ 9223372036854775807) (hs : ∀ s ∈ l, SmallT s) : NRow w (some ⟨g, 0, none⟩) l.length l :=
  ⟨rfl, hn, hs, fun _ => ⟨g, 0, rfl, h.1, fun i hi => by rw [Nat.zero_add]; exact (h.2 i hi).1⟩⟩

def KeysRel (m : Mt) (es : List Er) (g : Nat) (w : World) (v13 : Value) (wr : World) : Prop :=
  ∃ (k : Nat) (l : List ByteArray), v13 = .int .i64 (k : Int) ∧ k ≤ es.length ∧ l.length = es.length ∧ WS wr g l ∧ (∀ i, i < k → nsAt l i = keyE m (erAt es i)) ∧ Below w.heap.size w wr
def KeysRelX (given on : Bool) (la : Option Addr) (ln lc : Nat) (card : Int) (ia : Option Addr) (im ic : Nat) (ns inc : List ByteArray) (es : List Er) (w : World) (v13 : Value) (wr : World) : Prop :=
  KeysRel ⟨given, on, la, ln, lc, card, ia, im, ic, ns, inc⟩ es (w.heap.size + 1) w v13 wr ∧ Bk.Is wr w.heap.size #[.bool given, .bool on, .slice la ln lc, .int .i64 card, .slice ia im ic] 25
/-- The keys, in a row of the call's own. -/
def KeysRet (m : Mt) (es : List Er) (w : World) (e : Ending) (w' : World) : Prop :=
  ∃ g, e = .returned (.slice (some ⟨g, 0, none⟩) es.length es.length) ∧ NRow w' (some ⟨g, 0, none⟩) es.length (es.map (keyE m)) ∧ Below w.heap.size w w'

set_option maxHeartbeats 8000000 in
set_option maxRecDepth 100000 in
theorem keys_any (a : Option Addr) (n cap : Nat) (es : List Er) (m : Mt) (w : World) (hr : ERow w a n es) (hm : MtOk w m) (hl : ∀ e ∈ es, (keyL m.ns (!m.on) e.ls).length ≤ 140737480000000) (ht : Tab w.heap.size w) :
    Calls Tryz.prog 47 #[.slice a n cap, m.v] w (KeysRet m es w) := by
  have HR := Lib.hid hr
  have HM := Lib.hid hm
  have HL := Lib.hid hl
  have hln := hr.1
  have n0 : (0 : Int) ≤ (n : Int) := by omega
  have n1 : (n : Int) ≤ 4398046511104 := by have := hr.2.1; omega
  have HT := Lib.hid ht
  obtain ⟨given, on, la, ln, lc, card, ia, im, ic, ns, inc⟩ := m
  dsimp only [Mt.v] at HL ⊢
  obtain ⟨W1, hW1⟩ : ∃ W1, W1 = w.alloc (.cells #[.bool given, .bool on, .slice la ln lc, .int .i64 card, .slice ia im ic] 25) := ⟨_, rfl⟩
  have bel1 : Below w.heap.size w W1 := by rw [hW1]; exact (Below.refl _ _).alloc (Nat.le_refl _) _
  have hbx : Bk.Is W1 w.heap.size #[.bool given, .bool on, .slice la ln lc, .int .i64 card, .slice ia im ic] 25 := by rw [hW1]; exact Bk.Is.made w _ _
  obtain ⟨W2, hmk, ws0, bel2⟩ := make_strs W1.heap.size W1 n (by omega) (Nat.le_refl _)
  have hg1 : W1.heap.size = w.heap.size + 1 := by rw [hW1]; simp
  rw [hg1] at hmk ws0
  rw [hW1] at hmk
  have HX := Lib.hid (hbx.below bel2 hbx.lt)
  have HW0 := Lib.hid ws0
  have HB2 := Lib.hid (bel1.trans (bel2.mono bel1.size))
  clear hr hm hl ht bel1 bel2 ws0 hbx hW1 hg1
  go_enter Tryz.func47, Tryz.ntmps47
  go_wp2_with fail
  go_loopw [13] (KeysRelX given on la ln lc card ia im ic ns inc es w) (fun v _ => n - (intOf v).toNat)
  case atStart => exact ⟨⟨0, _, rfl, by omega, by simp [hln], HW0.out, fun i h => by omega, HB2.out⟩, HX.out⟩
  case round =>
    obtain ⟨⟨k, l, rfl, hk, hll, ws, hdo, bel⟩, hx⟩ := hrel
    have HWS := Lib.hid ws
    have HDO := Lib.hid hdo
    have HB := Lib.hid bel
    have HX := Lib.hid hx
    have HLL := Lib.hid hll
    have hrw := HR.out.below bel
    clear ws hdo bel hx hll
    by_cases hlt : k < n
    · have dl : decide ((k : Int) < (n : Int)) = true := decide_eq_true (by omega)
      obtain ⟨b, off, rfl, hb, hc⟩ := hrw.2.2.2 (by omega)
      obtain ⟨x0, x1⟩ := hc k hlt
      have hmem : erAt es k ∈ es := by rw [erAt_get (by omega)]; exact List.getElem_mem _
      have hyo : ErOk wr (erAt es k) := hrw.2.2.1 _ hmem
      have hyl := HL.out _ hmem
      have k1 : (0 : Int) ≤ (k : Int) := by omega
      have k2 : (k : Int) < (n : Int) := by omega
      generalize hxx : erAt es k = x at x0 x1 hyo hyl
      have HXX := Lib.hid hxx
      obtain ⟨xa, xn, xc, xf, xl⟩ := x
      dsimp only at x0 x1 hyl
      have HKY : Hid (∀ W, Below wr.heap.size wr W → Calls Tryz.prog 69 #[.slice xa xn xc, .slice la ln lc, .bool (!on)] W fun e w' => e = .returned (.string ⟨(keyL ns (!on) xl).toArray⟩) ∧ Below W.heap.size W w') := Lib.hid fun W hW =>
        key_any xa xn xc xl la ln lc ns (!on) W ((hyo.1).below hW) (HM.out.1.below (HB.out.trans (hW.mono HB.out.size))) hyl (fun w' h => HT.out w' ((HB.out.trans (hW.mono HB.out.size)).trans (h.mono (Nat.le_trans HB.out.size hW.size))))
      obtain ⟨S, hS⟩ : ∃ S, S = (⟨(keyL ns (!on) xl).toArray⟩ : ByteArray) := ⟨_, rfl⟩
      rw [← hS] at HKY
      have HS : Hid (S = keyE ⟨given, on, la, ln, lc, card, ia, im, ic, ns, inc⟩ (erAt es k)) := Lib.hid (by rw [hS, HXX.out]; rfl)
      have hgl := HWS.out.1
      have HKL : Hid (k < l.length) := Lib.hid (by rw [HLL.out]; omega)
      clear hc hrw hxx hyo hyl hmem hS
      go_wp2_with (first | (refine Bk.is_store 34 rfl ?_; refine Bk.wpList_store_box (w0 := wr) (N := 0) rfl 34 _ _ rfl #[.slice xa xn xc, .float .f64 xf] #[.slice none 0 0, .float .f64 0] 34 rfl rfl (by kernel_rfl) rfl (by kernel_rfl) ?_; intro W hI hBB; have e0 : W.cell? ⟨wr.heap.size, 0, none⟩ = some (.slice xa xn xc) := (by rw [hI.cell]; rfl); have HW := Lib.hid hBB; have hx2 := HX.out.below hBB HX.out.lt; have m1 := hx2.cell 1; have m2 := hx2.cell 2; simp at m1 m2; clear hI hBB hx2) | (go_at_call 69; refine (HKY.out _ HW.out).mono ?_; rintro e w3 ⟨rfl, b3⟩; have HW3 := Lib.hid (HW.out.trans (b3.mono HW.out.size)); have hw3 := HWS.out.below HW3.out hgl; have s0 := (hw3.2 k HKL.out).1; have f0 := (hw3.2 k HKL.out).2; have HWS3 := Lib.hid hw3; clear b3 hw3))
      have HNEW : Hid (KeysRelX given on la ln lc card ia im ic ns inc es w (.int .i64 ((k : Int) + 1)) (w3.setCell ⟨w.heap.size + 1, k, none⟩ (.string S))) := Lib.hid (by
        refine ⟨⟨k + 1, l.set k S, by first | rfl | (congr 1; omega), by omega, by rw [List.length_set]; exact HLL.out, HWS3.out.set k S HKL.out, fun i hi => ?_, (HB.out.trans (HW3.out.mono HB.out.size)).setCell (p := ⟨w.heap.size + 1, k, none⟩) (Nat.le_succ _) _⟩, ?_⟩
        · rw [nsAt_set HKL.out]
          by_cases hik : k = i
          · rw [if_pos hik, ← hik]; exact HS.out
          · rw [if_neg hik]; exact HDO.out i (by omega)
        · exact (HX.out.below HW3.out HX.out.lt).other (by show w.heap.size + 1 ≠ w.heap.size; omega) _)
      go_roundw
      case rel => exact HNEW.out
      case measure => simp [intOf]; omega
    · have hkn : ¬ (k : Int) < (n : Int) := by omega
      have HE : Hid (l = es.map (keyE ⟨given, on, la, ln, lc, card, ia, im, ic, ns, inc⟩)) := Lib.hid (by
        apply List.ext_getElem
        · rw [HLL.out, List.length_map]
        · intro i h1 h2
          have := HDO.out i (by rw [HLL.out] at h1; omega)
          rw [nsAt_get h1, erAt_get (by rw [HLL.out] at h1; exact h1)] at this
          rw [List.getElem_map]; exact this)
      clear hrw
      go_wp2_with fail
      go_ret
      refine ⟨w.heap.size + 1, by rw [hln]; rfl, ?_, HB.out⟩
      have hrow := HWS.out.row (by rw [HLL.out]; omega) (fun s hs => by
        rw [HE.out] at hs
        obtain ⟨e, he, rfl⟩ := List.mem_map.1 hs
        have := HL.out e he
        unfold SmallT keyE
        show ((keyL ns (!on) e.ls).toArray).size ≤ _
        rw [List.size_toArray]; omega)
      rw [HLL.out, HE.out] at hrow
      exact hrow

end Go.Proofs.YtmmfjknnbkcniaaGreatDoor

namespace Go.Proofs.YtmmfjknnbkcniaaGreatDoor
open Go.Fl Go.Rel Go.RowKit Go.Maps Go.WideMaps
set_option linter.unusedSimpArgs false
set_option linter.unusedVariables false

/-- Block b is a map of at most n entries that holds f (0 where there is none). -/
def MapF (w : World) (b n : Nat) (f : ByteArray → Int) : Prop :=
  ∃ D : DataW Unit, w.ownsMap Tryz.prog 9 (plainElem Tryz.prog 3) b n D ∧ ∀ s : ByteArray, D.atKey (.string s.data.toList) (.lit (.int .i64 0)) = .lit (.int .i64 (f s))
theorem MapF.made (w : World) : MapF (w.alloc (.map #[] 0)) w.heap.size 0 (fun _ => 0) := ⟨.map [], World.ownsMap_made _ _ _ _, fun s => rfl⟩
theorem MapF.stay {w w' : World} {b n : Nat} {f : ByteArray → Int} (h : MapF w b n f) (hb : w'.heap[b]? = w.heap[b]?) : MapF w' b n f := by
  obtain ⟨D, ⟨es, clock, h1, h2, h3, h4⟩, hf⟩ := h
  exact ⟨D, ⟨es, clock, by rw [hb]; exact h1, h2, h3, h4⟩, hf⟩
theorem MapF.lt {w : World} {b n : Nat} {f : ByteArray → Int} (h : MapF w b n f) : b < w.heap.size := by
  obtain ⟨D, h1, _⟩ := h; exact h1.lt
theorem MapF.below {w w' : World} {b n k : Nat} {f : ByteArray → Int} (h : MapF w b n f) (hb : Below k w w') (hk : b < k) : MapF w' b n f := h.stay (hb.block b hk)
theorem MapF.mono {w : World} {b n n' : Nat} {f : ByteArray → Int} (h : MapF w b n f) (hn : n ≤ n') : MapF w b n' f := by
  obtain ⟨D, h1, h2⟩ := h; exact ⟨D, h1.mono hn, h2⟩
theorem keyed_str : Keyed Tryz.prog 9 := string_keyed Tryz.underlying9
theorem zero_int (w : World) : (zeroValue 3).run Tryz.prog w = .ok (.int .i64 0) w := by kernel_rfl
theorem keyOf_str (s : ByteArray) (hs : s.size ≤ maxLen) : keyOf Tryz.prog 9 (.string s) = some (.string s.data.toList) := keyOf_string_mk Tryz.underlying9 hs

theorem wpList_lookup_F {ops : Array Oper} {rest : List Oper} {o : Oper} {a : Act} {Q : Exit → Act → World → Prop} {w : World} (hg : o.guard = none) (m x : Operand) (ho : o.op = Op.lookup 79 m x false)
    (b n : Nat) (f : ByteArray → Int) (hm : a.eval m = .map (some b)) (hown : MapF w b n f) (s : ByteArray) (hx : a.eval x = .string s) (hs : s.size ≤ maxLen)
    (h : wpList Tryz.prog ops Q rest (a.put o.dst (.int .i64 (f s))) w) : wpList Tryz.prog ops Q (o :: rest) a w := by
  obtain ⟨D, h1, h2⟩ := hown
  refine wpList_lookup_own_int w hg m x 79 ho 9 3 .i64 keyed_str Tryz.underlying79 Tryz.underlying3 (zero_int w) b n D hm h1 (.string s) (.string s.data.toList) hx (keyOf_str s hs) ?_
  intro c hc _
  rw [h2 s] at hc
  injection hc with hc
  injection hc with _ hc
  rw [← hc]; exact h

theorem wpList_update_F {ops : Array Oper} {rest : List Oper} {o : Oper} {a : Act} {Q : Exit → Act → World → Prop} {w : World} (hg : o.guard = none) (m x v : Operand) (ho : o.op = Op.mapUpdate 79 m x v)
    (b n : Nat) (f : ByteArray → Int) (hm : a.eval m = .map (some b)) (hown : MapF w b n f) (hn : n < maxLen) (s : ByteArray) (hx : a.eval x = .string s) (hs : s.size ≤ maxLen) (z : Int) (hv : a.eval v = .int .i64 z) (hz : -9223372036854775808 ≤ z ∧ z ≤ 9223372036854775807)
    (h : ∀ w', MapF w' b (n + 1) (fun t => if t.data.toList = s.data.toList then z else f t) → w.grownBy w' (some b) → wpList Tryz.prog ops Q rest (a.put o.dst undef) w') : wpList Tryz.prog ops Q (o :: rest) a w := by
  obtain ⟨D, h1, h2⟩ := hown
  refine wpList_mapUpdate_own w hg m x v 79 ho 9 3 keyed_str Tryz.underlying79 _ b n D hm h1 hn (.string s) (.int .i64 z) (.string s.data.toList) hx hv (keyOf_str s hs) _ [] (plainElem_int Tryz.underlying3 (by simpa [Lit.wf, IntKind.min, IntKind.max, IntKind.signed, IntKind.bits] using hz)) ?_
  intro w' hw hgb
  refine h w' ⟨_, hw, fun t => ?_⟩ hgb
  have hD : IsMap D := by obtain ⟨es, clock, _, _, _, rfl⟩ := h1; first | trivial | exact ⟨_, rfl⟩ | simp [IsMap]
  by_cases e : t.data.toList = s.data.toList
  · dsimp only
    rw [if_pos e, e, atKey_put_same hD (by first | trivial | simp [WideAt.IsKeyLit] | exact ⟨_, rfl⟩)]
  · dsimp only
    rw [if_neg e, atKey_put_other (fun h => e (by injection h))]
    exact h2 t

end Go.Proofs.YtmmfjknnbkcniaaGreatDoor

namespace Go.Fl
/-- How often a text stands in a list. -/
def cntT (l : List ByteArray) (t : ByteArray) : Nat := l.countP fun s => decide (s.data.toList = t.data.toList)
theorem cntT_take {l : List ByteArray} {k : Nat} (h : k < l.length) (t : ByteArray) : cntT (l.take (k + 1)) t = cntT (l.take k) t + (if t.data.toList = (nsAt l k).data.toList then 1 else 0) := by
  unfold cntT
  rw [List.take_add_one, List.getElem?_eq_getElem h, List.countP_append, nsAt_get h]
  simp only [Option.toList_some, List.countP_singleton, decide_eq_true_eq]
  congr 1
  by_cases e : t.data.toList = l[k].data.toList
  · rw [if_pos e, if_pos e.symm]
  · rw [if_neg e, if_neg (fun h => e h.symm)]
theorem cntT_le (l : List ByteArray) (t : ByteArray) : cntT l t ≤ l.length := List.countP_le_length
end Go.Fl
namespace Go.Proofs.YtmmfjknnbkcniaaGreatDoor
open Go.Fl Go.Rel Go.RowKit Go.Maps Go.WideMaps
set_option linter.unusedSimpArgs false
set_option linter.unusedVariables false

theorem MapF.eqv {w : World} {b n : Nat} {f g : ByteArray → Int} (h : MapF w b n f) (hg : ∀ t, f t = g t) : MapF w b n g := by
  obtain ⟨D, h1, h2⟩ := h
  exact ⟨D, h1, fun s => by rw [h2 s, hg s]⟩
def CntRel (ns : List ByteArray) (w : World) (v9 : Value) (wr : World) : Prop :=
  ∃ k : Nat, v9 = .int .i64 (k : Int) ∧ k ≤ ns.length ∧ MapF wr w.heap.size k (fun t => (cntT (ns.take k) t : Int)) ∧ Below w.heap.size w wr
/-- A map of the call's own. -/
def CntRet (ns : List ByteArray) (w : World) (e : Ending) (w' : World) : Prop :=
  e = .returned (.map (some w.heap.size)) ∧ MapF w' w.heap.size ns.length (fun t => (cntT ns t : Int)) ∧ Below w.heap.size w w'

set_option maxHeartbeats 4000000 in
set_option maxRecDepth 100000 in
theorem counted_any (a : Option Addr) (n cap : Nat) (ns : List ByteArray) (w : World) (hr : NRow w a n ns) (hn : n ≤ 4398046511104) :
    Calls Tryz.prog 48 #[.slice a n cap] w (CntRet ns w) := by
  have HR := Lib.hid hr
  have hl := hr.1
  have n1 : (n : Int) ≤ 4398046511104 := by omega
  have n0 : (0 : Int) ≤ (n : Int) := by omega
  have hmk : (Instr.makeMap 79 none).run Tryz.prog w = .ok (.map (some w.heap.size)) (w.alloc (.map #[] 0)) := run_makeMap_plain (P := Tryz.prog) (w := w) 79
  have HM0 := Lib.hid (MapF.made w)
  have HB0 := Lib.hid ((Below.refl w.heap.size w).alloc (Nat.le_refl _) (.map #[] 0))
  clear hr hn
  go_enter Tryz.func48, Tryz.ntmps48
  go_wp2_with fail
  go_loopw [9] (CntRel ns w) (fun v _ => n - (intOf v).toNat)
  case atStart => exact ⟨0, rfl, by omega, HM0.out.eqv fun t => rfl, HB0.out⟩
  case round =>
    obtain ⟨k, rfl, hk, hmap, bel⟩ := hrel
    have HM := Lib.hid hmap
    have HB := Lib.hid bel
    have hrw := HR.out.below bel
    clear hmap bel
    by_cases hlt : k < n
    · have dl : decide ((k : Int) < (n : Int)) = true := decide_eq_true (by omega)
      obtain ⟨b, off, rfl, hb, hc⟩ := hrw.2.2.2 (by omega)
      have x0 := hc k hlt
      have k1 : (0 : Int) ≤ (k : Int) := by omega
      have k2 : (k : Int) < (n : Int) := by omega
      have HT := Lib.hid (fun t => cntT_take (by omega : k < ns.length) t)
      have hsm : SmallT (nsAt ns k) := hrw.2.2.1 _ (by rw [nsAt_get (by omega)]; exact List.getElem_mem _)
      have hle : cntT (ns.take k) (nsAt ns k) ≤ k := Nat.le_trans (cntT_le _ _) (by simp; omega)
      generalize nsAt ns k = s at *
      have HS : Hid (s.size ≤ maxLen) := Lib.hid (by unfold SmallT at hsm; unfold maxLen; omega)
      have HLE := Lib.hid hle
      clear hc hrw hsm hle
      have hcw : IntKind.i64.wrap ((cntT (ns.take k) s : Int) + 1) = (cntT (ns.take k) s : Int) + 1 := by rw [IntKind.wrap_i64]; have := HLE.out; omega
      go_wp2_with (first | (at_lookup; refine wpList_lookup_F rfl _ _ rfl w.heap.size k _ rfl HM.out s rfl HS.out ?_) | (at_mapUpdate; refine wpList_update_F rfl _ _ _ rfl w.heap.size k _ rfl HM.out (by unfold maxLen; omega) s rfl HS.out ((cntT (ns.take k) s : Int) + 1) rfl (by have := HLE.out; omega) ?_; intro w5 hm5 hg5; have HM5 := Lib.hid hm5; have HG5 := Lib.hid hg5; clear hm5 hg5))
      go_roundw
      case rel =>
        refine ⟨k + 1, by first | rfl | (congr 1; omega), by omega, HM5.out.eqv fun t => ?_, HB.out.grown HG5.out HB.out.size (fun b hb => by injection hb with hb; omega)⟩
        rw [HT.out t]
        by_cases e : t.data.toList = s.data.toList
        · have : cntT (ns.take k) t = cntT (ns.take k) s := by unfold cntT; rw [e]
          rw [if_pos e, if_pos e, this]; omega
        · rw [if_neg e, if_neg e]; omega
      case measure => simp [intOf]; omega
    · have hkn : ¬ (k : Int) < (n : Int) := by omega
      have HE : Hid (MapF wr w.heap.size ns.length (fun t => (cntT ns t : Int))) := Lib.hid ((HM.out.mono (by omega)).eqv fun t => by rw [List.take_of_length_le (by omega)])
      clear hrw
      go_wp2_with fail
      go_ret
      exact ⟨rfl, HE.out, HB.out⟩

end Go.Proofs.YtmmfjknnbkcniaaGreatDoor

namespace Go.Fl
/-- The value of the first label of a name. -/
def getL (N : ByteArray) (ls : List Lb) : ByteArray := match ls.find? (fun l => l.n.toList == N.toList) with | some l => l.v | none => ⟨#[]⟩
def noN (N : ByteArray) (ls : List Lb) : Prop := ∀ l ∈ ls, (l.n.toList == N.toList) = false
theorem noN_snoc {N : ByteArray} {ls : List Lb} {k : Nat} (h : k < ls.length) (h1 : noN N (ls.take k)) (h2 : ((nL ls k).toList == N.toList) = false) : noN N (ls.take (k + 1)) := by
  intro l hl
  rw [List.take_add_one, List.getElem?_eq_getElem h, List.mem_append] at hl
  rcases hl with hl | hl
  · exact h1 l hl
  · simp at hl; subst hl; unfold nL at h2; rw [lbAt_get h] at h2; exact h2
theorem getL_at {N : ByteArray} {ls : List Lb} {k : Nat} (h : k < ls.length) (h1 : noN N (ls.take k)) (h2 : ((nL ls k).toList == N.toList) = true) : getL N ls = vL ls k := by
  unfold getL
  have h3 : (ls[k].n.toList == N.toList) = true := by unfold nL at h2; rw [lbAt_get h] at h2; exact h2
  have e : (ls.take k ++ ls[k] :: ls.drop (k + 1)).find? (fun l => l.n.toList == N.toList) = some ls[k] := by
    rw [List.find?_append, List.find?_eq_none.2 (fun x hx => by simp [h1 x hx]), Option.none_or, List.find?_cons_of_pos (by simpa using h3)]
  rw [← List.drop_eq_getElem_cons h, List.take_append_drop] at e
  rw [e]; unfold vL; rw [lbAt_get h]
theorem getL_none {N : ByteArray} {ls : List Lb} (h1 : noN N ls) : getL N ls = ⟨#[]⟩ := by
  unfold getL
  rw [List.find?_eq_none.2 (fun x hx => by simp [h1 x hx])]
end Go.Fl
namespace Go.Proofs.YtmmfjknnbkcniaaGreatDoor
open Go.Fl Go.Rel Go.RowKit Go.Maps Go.WideMaps
set_option linter.unusedSimpArgs false
set_option linter.unusedVariables false

/-- The labels that a key is made of. -/
def keepL (ns : List ByteArray) (without : Bool) (ls : List Lb) : List Lb := ls.filter fun l => stayB ns without l.n
def GetRel (N : ByteArray) (ls : List Lb) (w : World) (v : Value) (wr : World) : Prop :=
  ∃ k : Nat, v = .int .i64 (k : Int) ∧ k ≤ ls.length ∧ noN N (ls.take k) ∧ Below w.heap.size w wr

set_option maxHeartbeats 4000000 in
set_option maxRecDepth 100000 in
theorem get_any (a : Option Addr) (n cap : Nat) (ls : List Lb) (N : ByteArray) (w : World) (hr : LRow w a n ls) :
    Calls Tryz.prog 73 #[.slice a n cap, .string N] w fun e w' => e = .returned (.string (getL N ls)) ∧ Below w.heap.size w w' := by
  have HR := Lib.hid hr
  have hl := hr.1
  have n1 : (n : Int) ≤ 9223372036854775807 := by have := hr.2.1; omega
  clear hr
  go_enter Tryz.func73, Tryz.ntmps73
  go_wp2_with fail
  go_loopw [9] (GetRel N ls w) (fun v _ => n - (intOf v).toNat)
  case atStart => exact ⟨0, rfl, by omega, fun l hl => absurd hl List.not_mem_nil, Below.refl _ _⟩
  case round =>
    obtain ⟨k, rfl, hk, hno, bel⟩ := hrel
    have hrw := HR.out.below bel
    have HB := Lib.hid bel
    have HNO := Lib.hid hno
    clear bel hno
    by_cases hlt : k < n
    · have dl : decide ((k : Int) < (n : Int)) = true := decide_eq_true (by omega)
      obtain ⟨b, off, rfl, hb, hc⟩ := hrw.2.2.2 (by omega)
      obtain ⟨x0, x1⟩ := hc k hlt
      have k1 : (0 : Int) ≤ (k : Int) := by omega
      have k2 : (k : Int) < (n : Int) := by omega
      have HA := Lib.hid (fun h => getL_at (N := N) (by omega : k < ls.length) HNO.out h)
      have HS := Lib.hid (fun h => noN_snoc (N := N) (by omega : k < ls.length) HNO.out h)
      clear hc hrw
      generalize nL ls k = xn at *
      generalize vL ls k = xv at *
      cases he : (xn.toList == N.toList)
      · go_wp2_with fail
        go_roundw
        case rel => exact ⟨k + 1, by first | rfl | (congr 1; omega), by omega, HS.out he, HB.out.alloc HB.out.size _⟩
        case measure => simp [intOf]; omega
      · go_wp2_with fail
        go_ret
        exact ⟨by rw [HA.out he]; rfl, HB.out.alloc HB.out.size _⟩
    · have hkn : ¬ (k : Int) < (n : Int) := by omega
      have HE : Hid (getL N ls = ⟨#[]⟩) := Lib.hid (getL_none (by have := HNO.out; rwa [List.take_of_length_le (by omega)] at this))
      clear hrw
      go_wp2_with fail
      go_ret
      exact ⟨by rw [HE.out]; rfl, HB.out⟩

end Go.Proofs.YtmmfjknnbkcniaaGreatDoor
