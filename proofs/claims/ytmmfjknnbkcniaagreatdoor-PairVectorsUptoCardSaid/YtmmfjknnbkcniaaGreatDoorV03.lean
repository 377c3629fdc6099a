/- labels.Key: a text that is equal just where the labels that stay are equal. -/
import Derived.Test.YtmmfjknnbkcniaaGreatDoorV02
import Derived.Lib.ItoaMem
import Derived.Lib.AppendIntMem
import Derived.Lib.AppendStr
set_option maxHeartbeats 64000000
set_option maxRecDepth 100000
namespace Go.Fl
def numT (s : ByteArray) : List UInt8 := Lib.itoa (s.size : Int) ++ [58] ++ s.data.toList
def labT (l : Lb) : List UInt8 := numT l.n ++ numT l.v
end Go.Fl
namespace Go.Proofs.YtmmfjknnbkcniaaGreatDoor
open Go.Fl Go.Rel Go.RowKit
set_option linter.unusedSimpArgs false
set_option linter.unusedVariables false
def Tab (B : Nat) (w : World) : Prop := Lib.TabBelow Tryz.prog B w "internal/strconv.uint64pow10" .u64 Lib.pow10Tab
theorem Tab.on {B : Nat} {w w1 : World} (h : Tab B w) (hb : Below B w w1) : Tab B w1 := Lib.TabBelow.on h hb
def OwnRet (B : Nat) (w : World) (l : List UInt8) (e : Ending) (w' : World) : Prop := ∃ v, e = .returned v ∧ OwnB B w' v l ∧ Below B w w'
theorem appendInt_any (i : Int) (h0 : 0 ≤ i) (h1 : i ≤ 9223372036854775807) (B : Nat) (v : Value) (l : List UInt8) (w : World) (hB : B ≤ w.heap.size) (hown : OwnB B w v l) (hl : l.length ≤ 140737488000000) (ht : Tab B w) :
  Calls Tryz.prog 103 #[v, .int .i64 i, .int .i64 10] w (OwnRet B w (l ++ Lib.itoa i)) := by
 refine (Tryz.strconv_AppendInt_10 B l.length i (by omega) (by omega) v (Lib.byteCells l) w hown hB (by omega) ht).mono ?_
 rintro e w' ⟨v', rfl, h1, h2, _⟩
 refine ⟨v', rfl, ?_, h2⟩
 unfold OwnB
 rw [List.length_append, Lib.byteCells_append]
 exact h1
theorem strCells_bytes (s : ByteArray) : Lib.strCells s = Lib.byteCells s.data.toList := by
 unfold Lib.strCells Lib.byteCells
 apply List.ext_getElem
 ·simp
  try rfl
 ·intro j h1 h2
  simp
  try rfl
theorem wpList_append_str {ops : Array Oper} {rest : List Oper} {o : Oper} {a : Act} {Q : Exit → Act → World → Prop} {w : World} (hgd : o.guard = none) (s x : Operand)
  (ho : o.op = .call { callee := .builtin .append, args := #[s, x], argTypes := #[84, 9] })
  (B : Nat) (v : Value) (l : List UInt8) (hs : a.eval s = v) (hown : OwnB B w v l) (m : ByteArray) (hx : a.eval x = .string m)
  (hb : l.length + m.size ≤ 140737488355328) (hB : B ≤ w.heap.size)
  (h : ∀ v' w', OwnB B w' v' (l ++ m.data.toList) → w.grownBy w' v.ownBlock → wpList Tryz.prog ops Q rest (a.put o.dst v') w') :
  wpList Tryz.prog ops Q (o :: rest) a w := by
 obtain ⟨i0, hi, hz0, hz1, hz2⟩ := info_parts info_b
 have hsz : m.size = m.data.toList.length := by rw [Array.length_toList]; rfl
 refine Lib.wpList_append_own_string (P := Tryz.prog) (w := w) hgd s x 84 9 ho B 5 i0 Tryz.underlying84 Tryz.underlying9 hi hz0 hz1 hz2 v _ _ hs hown m hx ?_ ?_ hB ?_
 ·unfold maxLen; omega
 ·omega
 ·intro v' w' h1 h2 _
  refine h v' w' ?_ h2
  rw [strCells_bytes, hsz] at h1
  unfold OwnB
  rw [List.length_append, Lib.byteCells_append]
  exact h1
def keyL (ns : List ByteArray) (without : Bool) (ls : List Lb) : List UInt8 := (ls.filter fun l => stayB ns without l.n).flatMap labT
theorem keyL_snoc (ns : List ByteArray) (without : Bool) (ls : List Lb) {k : Nat} (h : k < ls.length) : keyL ns without (ls.take (k + 1)) = keyL ns without (ls.take k) ++ (if stayB ns without (nL ls k) then numT (nL ls k) ++ numT (vL ls k) else []) := by
 unfold keyL nL vL
 rw [List.take_add_one, List.getElem?_eq_getElem h, List.filter_append, List.flatMap_append, lbAt_get h]
 congr 1
 by_cases e : stayB ns without ls[k].n = true
 ·rw [if_pos e]; simp [e, labT]
 ·rw [if_neg e]; simp [e]
theorem keyL_le (ns : List ByteArray) (without : Bool) (ls : List Lb) (k : Nat) : (keyL ns without (ls.take k)).length ≤ (keyL ns without ls).length := by
 unfold keyL
 conv => rhs; rw [← List.take_append_drop k ls, List.filter_append, List.flatMap_append, List.length_append]
 exact Nat.le_add_right _ _
theorem labT_len (n v : ByteArray) : (numT n ++ numT v).length = (numT n).length + (numT v).length := List.length_append
theorem numT_len (n : ByteArray) : (numT n).length = (Lib.itoa (n.size : Int)).length + 1 + n.size := by
 unfold numT; rw [List.length_append, List.length_append, Array.length_toList]; rfl
def KeyRel (ns : List ByteArray) (without : Bool) (ls : List Lb) (w : World) (v7 v14 : Value) (wr : World) : Prop :=
 ∃ k : Nat, v14 = .int .i64 (k : Int) ∧ k ≤ ls.length ∧ OwnB w.heap.size wr v7 (keyL ns without (ls.take k)) ∧ (keyL ns without (ls.take k) = [] → v7 = .slice none 0 0) ∧ Below w.heap.size w wr
def KeyIn (B : Nat) (l0 : List UInt8) (N V : ByteArray) (w : World) (v7 v28 : Value) (wr : World) : Prop :=
 Below B w wr ∧ ((v28 = .int .i64 0 ∧ OwnB B wr v7 l0) ∨ (v28 = .int .i64 1 ∧ OwnB B wr v7 (l0 ++ numT N)) ∨ (v28 = .int .i64 2 ∧ OwnB B wr v7 (l0 ++ (numT N ++ numT V))))
theorem key_any (a : Option Addr) (n cap : Nat) (ls : List Lb) (b : Option Addr) (m cb : Nat) (ns : List ByteArray) (without : Bool) (w : World) (hr : LRow w a n ls) (hn : NRow w b m ns) (hl : (keyL ns without ls).length ≤ 140737480000000) (ht : Tab w.heap.size w) :
  Calls Tryz.prog 69 #[.slice a n cap, .slice b m cb, .bool without] w fun e w' => e = .returned (.string ⟨(keyL ns without ls).toArray⟩) ∧ Below w.heap.size w w' := by
 have HR := qh hr
 have HN := qh hn
 have HT := qh ht
 have HL : Hid (∀ k, (keyL ns without (ls.take k)).length ≤ 140737480000000) := qh fun k => Nat.le_trans (keyL_le ns without ls k) hl
 have hln := hr.1
 have n1 : (n : Int) ≤ 9223372036854775807 := by have := hr.2.1; omega
 clear hr hn ht hl
 go_enter Tryz.func69, Tryz.ntmps69
 go_wp2_with fail
 go_loopw [7, 14] (KeyRel ns without ls w) (fun _ v _ => n - (intOf v).toNat)
 case atStart => exact ⟨0, rfl, by omega, ownB_nil _ _, fun _ => rfl, Below.refl _ _⟩
 case round =>
  obtain ⟨k, rfl, hk, own, hnil, bel⟩ := hrel
  have HO := qh own
  have HNI := qh hnil
  have HB := qh bel
  have hrw := HR.out.below bel
  clear own hnil bel
  by_cases hlt : k < n
  ·have dl : decide ((k : Int) < (n : Int)) = true := decide_eq_true (by omega)
   obtain ⟨bb, off, rfl, hb, hc⟩ := hrw.2.2.2 (by omega)
   obtain ⟨x0, x1⟩ := hc k hlt
   have hsm := hrw.2.2.1 k
   have k1 : (0 : Int) ≤ (k : Int) := by omega
   have k2 : (k : Int) < (n : Int) := by omega
   have HE := qh (keyL_snoc ns without ls (by omega : k < ls.length))
   have HLK := qh (HL.out (k + 1))
   generalize nL ls k = xn at *
   generalize vL ls k = xv at *
   have HSM := qh hsm
   have hbx : Below wr.heap.size wr (wr.alloc (.cells #[.string xn, .string xv] 54)) := (Below.refl _ _).alloc (Nat.le_refl _) _
   have HST : Hid (∀ W, Below wr.heap.size wr W → Calls Tryz.prog 102 #[.string xn, .slice b m cb, .bool without] W fun e w' => e = .returned (.bool (stayB ns without xn)) ∧ w' = W) := qh fun W hW =>
    stays_any b m cb ns xn without W (HN.out.below (HB.out.trans (hW.mono HB.out.size)))
   have HBX := qh hbx
   clear hc hrw hsm hbx
   cases he : stayB ns without xn
   ·rw [he] at HE HST
    go_wp2_with (go_at_call 102; refine (HST.out _ HBX.out).mono ?_; rintro e w' ⟨rfl, rfl⟩)
    go_roundw
    case rel => exact ⟨k + 1, by first | rfl | (congr 1; omega), by omega, by rw [HE.out]; simp; exact HO.out.alloc _, fun h => HNI.out (by rw [HE.out] at h; simpa using h), HB.out.trans (HBX.out.mono HB.out.size)⟩
    case measure => simp [intOf]; omega
   ·rw [he] at HE HST
    go_wp2_with (go_at_call 102; refine (HST.out _ HBX.out).mono ?_; rintro e w' ⟨rfl, rfl⟩)
    have HOI0 : Hid (OwnB w.heap.size (wr.alloc (.cells #[.string xn, .string xv] 54)) u7 (keyL ns without (ls.take k))) := qh (HO.out.alloc _)
    have HBI : Hid (Below w.heap.size w w) := qh (Below.refl _ _)
    have HBA : Hid (Below w.heap.size w (wr.alloc (.cells #[.string xn, .string xv] 54))) := qh (HB.out.trans (HBX.out.mono HB.out.size))
    have HSM := qh (And.intro HSM.out.1 HSM.out.2)
    generalize hl0 : keyL ns without (ls.take k) = l0 at *
    generalize wr.alloc (.cells #[.string xn, .string xv] 54) = wa at *
    have hsN := HSM.out.1
    have hsV := HSM.out.2
    have hix0 : ∀ W, (Instr.index 111 (.agg #[.string xn, .string xv]) (.int .i64 0)).run Tryz.prog W = .ok (.string xn) W := fun W => by kernel_rfl
    have hix1 : ∀ W, (Instr.index 111 (.agg #[.string xn, .string xv]) (.int .i64 1)).run Tryz.prog W = .ok (.string xv) W := fun W => by kernel_rfl
    have bN : (xn.size : Int) ≤ 140737488355328 := by unfold SmallT at hsN; omega
    have bV : (xv.size : Int) ≤ 140737488355328 := by unfold SmallT at hsV; omega
    clear hsN hsV HBX HB HO
    go_loopw [7, 28] (KeyIn w.heap.size l0 xn xv w) (fun _ v _ => 2 - (intOf v).toNat)
    case atStart => exact ⟨HBA.out, .inl ⟨rfl, HOI0.out⟩⟩
    case round =>
     obtain ⟨bel2, hin⟩ := hrel
     have HB2 := qh bel2
     clear bel2
     rcases hin with ⟨rfl, ho⟩ | ⟨rfl, ho⟩ | ⟨rfl, ho⟩
     all_goals (have HOI := qh ho; clear ho)
     ·have HLB : Hid ((l0).length + (Lib.itoa (xn.size : Int)).length + 1 + xn.size ≤ 140737480000000) := qh (by
       have := HLK.out; rw [HE.out] at this; simp [numT_len] at this ⊢; omega)
      go_wp2_with (first | (go_at_call 103; refine (appendInt_any (xn.size : Int) (by omega) (by have := HSM.out.1; unfold SmallT at this; omega) w.heap.size _ (l0) _ (HB2.out.size) HOI.out (by have := HLB.out; omega) (HT.out.on HB2.out)).mono ?_; rintro e w5 ⟨v5, rfl, ho5, b5⟩; have HO5 := qh ho5; have HB5 := qh (HB2.out.trans b5); have HW5 := qh (Nat.le_trans HBI.out.size HB5.out.size); clear ho5 b5) | (at_builtin; refine wpList_append_b rfl (.tmp 35) (.tmp 36) rfl w.heap.size _ (l0 ++ Lib.itoa (xn.size : Int)) rfl (HO5.out.alloc _) w5.heap.size 1 [58] 1 rfl rfl (byte_one _ _ _ _ rfl) (by have := HLB.out; simp only [List.length_append, List.length_cons, List.length_nil] at this ⊢; omega) (Nat.le_trans HB5.out.size (by simp)) ?_; intro v6 w6 ho6 gb6 hv6; have HB6 := qh ((HO5.out.alloc _).below (HB5.out.alloc HB5.out.size _) gb6 (Nat.le_trans HB5.out.size (by simp))); have HO6 := qh ho6; clear ho6 gb6 hv6) | (at_builtin; refine wpList_append_str rfl (.tmp 38) (.tmp 39) rfl w.heap.size _ (l0 ++ Lib.itoa (xn.size : Int) ++ [58]) rfl HO6.out xn rfl (by have := HLB.out; simp only [List.length_append, List.length_cons, List.length_nil] at this ⊢; omega) HB6.out.size ?_; intro v7 w7 ho7 gb7; have HB7 := qh (HO6.out.below HB6.out gb7 HB6.out.size); have HO7 : Hid (OwnB w.heap.size w7 v7 (l0 ++ numT xn)) := qh (by unfold numT; rw [← List.append_assoc, ← List.append_assoc]; exact ho7); clear ho7 gb7))
      go_roundw
      case rel => exact ⟨HB7.out, .inr (.inl ⟨rfl, HO7.out⟩)⟩
      case measure => simp [intOf]
     ·have HLB : Hid ((l0 ++ numT xn).length + (Lib.itoa (xv.size : Int)).length + 1 + xv.size ≤ 140737480000000) := qh (by
       have := HLK.out; rw [HE.out] at this; simp [numT_len] at this ⊢; omega)
      go_wp2_with (first | (go_at_call 103; refine (appendInt_any (xv.size : Int) (by omega) (by have := HSM.out.2; unfold SmallT at this; omega) w.heap.size _ (l0 ++ numT xn) _ (HB2.out.size) HOI.out (by have := HLB.out; omega) (HT.out.on HB2.out)).mono ?_; rintro e w5 ⟨v5, rfl, ho5, b5⟩; have HO5 := qh ho5; have HB5 := qh (HB2.out.trans b5); have HW5 := qh (Nat.le_trans HBI.out.size HB5.out.size); clear ho5 b5) | (at_builtin; refine wpList_append_b rfl (.tmp 35) (.tmp 36) rfl w.heap.size _ (l0 ++ numT xn ++ Lib.itoa (xv.size : Int)) rfl (HO5.out.alloc _) w5.heap.size 1 [58] 1 rfl rfl (byte_one _ _ _ _ rfl) (by have := HLB.out; simp only [List.length_append, List.length_cons, List.length_nil] at this ⊢; omega) (Nat.le_trans HB5.out.size (by simp)) ?_; intro v6 w6 ho6 gb6 hv6; have HB6 := qh ((HO5.out.alloc _).below (HB5.out.alloc HB5.out.size _) gb6 (Nat.le_trans HB5.out.size (by simp))); have HO6 := qh ho6; clear ho6 gb6 hv6) | (at_builtin; refine wpList_append_str rfl (.tmp 38) (.tmp 39) rfl w.heap.size _ (l0 ++ numT xn ++ Lib.itoa (xv.size : Int) ++ [58]) rfl HO6.out xv rfl (by have := HLB.out; simp only [List.length_append, List.length_cons, List.length_nil] at this ⊢; omega) HB6.out.size ?_; intro v7 w7 ho7 gb7; have HB7 := qh (HO6.out.below HB6.out gb7 HB6.out.size); have HO7 : Hid (OwnB w.heap.size w7 v7 (l0 ++ numT xn ++ numT xv)) := qh (by unfold numT; rw [← List.append_assoc, ← List.append_assoc]; exact ho7); clear ho7 gb7))
      go_roundw
      case rel => exact ⟨HB7.out, .inr (.inr ⟨rfl, by rw [← List.append_assoc]; exact HO7.out⟩)⟩
      case measure => simp [intOf]
     ·go_wp2_with fail
      go_roundw
      case rel => exact ⟨k + 1, by first | rfl | (congr 1; omega), by omega, by rw [HE.out]; exact HOI.out, fun h => by rw [HE.out] at h; simp [numT] at h, HB2.out⟩
      case measure => simp [intOf]; omega
  ·have hkn : ¬ (k : Int) < (n : Int) := by omega
   have HE : Hid (keyL ns without (ls.take k) = keyL ns without ls) := qh (by rw [List.take_of_length_le (by omega)])
   clear hrw
   by_cases hz : keyL ns without (ls.take k) = []
   ·have hv7 := HNI.out hz
    subst hv7
    have hz2 : keyL ns without ls = [] := by rw [← HE.out]; exact hz
    have HZ2 := qh hz2
    clear hz hz2
    have hcn : ∀ W, (convert 84 9 (.slice none 0 0)).run Tryz.prog W = .ok (.string ⟨#[]⟩) W := fun W => by kernel_rfl
    go_wp2_with fail
    go_ret
    exact ⟨by rw [HZ2.out]; rfl, HB.out⟩
   ·have hcv := HO.out.text hz
    rw [HE.out] at hcv
    clear hz
    go_wp2_with fail
    go_ret
    exact ⟨rfl, HB.out⟩
end Go.Proofs.YtmmfjknnbkcniaaGreatDoor
