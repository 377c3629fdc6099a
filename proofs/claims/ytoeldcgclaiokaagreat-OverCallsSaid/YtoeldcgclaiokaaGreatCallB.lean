/- A new block of floats, filled one by one. over.Call, whatever the rule: what it answers. over.middle: the middle of the distances from the middle. over.Call at each of the 23 names: what it answers. -/
import Derived.Test.YtoeldcgclaiokaaGreatGrow
import Derived.Test.YtoeldcgclaiokaaGreatBox
import Derived.OwnWalk
import Derived.Laws.MakeOwn
import Derived.Test.YtoeldcgclaiokaaGreatInstA
import Derived.Test.YtoeldcgclaiokaaGreatFindB
import Derived.Shelf.Abstract
import Derived.Test.YtoeldcgclaiokaaGreatQuant
import Derived.Test.YtoeldcgclaiokaaGreatClosC
import Derived.Test.YtoeldcgclaiokaaGreatSmooth
import Derived.Test.YtoeldcgclaiokaaGreatBeat
import Derived.Test.YtoeldcgclaiokaaGreatSpreadAll
namespace Go.Proofs.YtoeldcgclaiokaaGreat
open Go.Fl Go.Rel Go.RowKit
set_option linter.unusedVariables false
set_option linter.unusedSimpArgs false

/-- The first k of n cells are filled. -/
def fillC (f : Nat → Nat) (n k : Nat) : Array Value := (Array.range n).map fun i => .float .f64 (if i < k then f i else 0)
theorem fillC_get (f : Nat → Nat) {n k i : Nat} (h : i < n) : (fillC f n k)[i]? = some (.float .f64 (if i < k then f i else 0)) := by simp [fillC, h]
theorem fillC_size (f : Nat → Nat) (n k : Nat) : (fillC f n k).size = n := by simp [fillC]
theorem fillC_set (f : Nat → Nat) {n k : Nat} (h : k < n) : (fillC f n k).setIfInBounds k (.float .f64 (f k)) = fillC f n (k + 1) := by
  apply Array.ext_getElem?
  intro i
  by_cases hi : i < n
  · rw [fillC_get f hi]
    by_cases hk : k = i
    · subst hk
      rw [Array.getElem?_setIfInBounds_self_of_lt (by rw [fillC_size]; exact h), if_pos (by omega)]
    · rw [Array.getElem?_setIfInBounds_ne hk, fillC_get f hi]
      congr 2
      by_cases h1 : i < k
      · rw [if_pos h1, if_pos (by omega)]
      · rw [if_neg h1, if_neg (by omega)]
  · rw [Array.getElem?_eq_none (by simp [fillC_size]; omega), Array.getElem?_eq_none (by rw [fillC_size]; omega)]
theorem fillC_made (f : Nat → Nat) (n : Nat) : madeCells (Value.float .f64 0).cells (n * 1) = fillC f n 0 := by
  unfold madeCells fillC
  rw [Nat.mul_one]
  congr 1
  funext i
  simp [Value.cells, Nat.mod_one]

theorem wpList_make_f {ops : Array Oper} {rest : List Oper} {o : Oper} {a : Act} {Q : Exit → Act → World → Prop} {w : World} (hgd : o.guard = none) (l c : Operand) (ho : o.op = .makeSlice 25 l c) (f : Nat → Nat) (n : Nat)
    (hl : a.eval l = .int .i64 (n : Int)) (hc : a.eval c = .int .i64 (n : Int)) (hb : n < 17592186044416)
    (h : ∀ w1, Bk.Is w1 w.heap.size (fillC f n 0) 27 → Below w.heap.size w w1 → wpList Tryz.prog ops Q rest (a.put o.dst (.slice (some ⟨w.heap.size, 0, none⟩) n n)) w1) : wpList Tryz.prog ops Q (o :: rest) a w := by
  obtain ⟨i0, hi, hz0, hz1, hz2⟩ := info_parts info_f
  refine wpList_plain hgd fun K hK' => ?_
  have hr := run_make (P := Tryz.prog) w 25 27 i0 _ Tryz.underlying25 hi hz0 .i64 .i64 (n : Int) (n : Int) (by omega) (by omega) (by rw [hz2]; omega) (by omega)
  simp only [Int.toNat_natCast, hz1, fillC_made f n] at hr
  unfold Oper.wp
  simp [execOp, ho, hl, hc, hr, Result.andThen]
  exact hK' _ _ (h _ (Bk.Is.made w _ _) ((Below.refl _ _).alloc (Nat.le_refl _) _))

/-- A block that is full is a row. -/
theorem fill_row {w : World} {B n : Nat} {f : Nat → Nat} {xs : List Nat} (h : Bk.Is w B (fillC f n n) 27) (hl : xs.length = n) (hn : n ≤ 9223372036854775807) (hx : ∀ i, i < n → at0 xs i = f i) : Row w (some ⟨B, 0, none⟩) n xs :=
  ⟨hl, hn, fun _ => ⟨B, 0, rfl, fun i hi => by rw [Nat.zero_add, h.cell, fillC_get f hi, if_pos hi, hx i hi]⟩⟩
theorem fillC_congr {f g : Nat → Nat} {n : Nat} (h : ∀ i, i < n → f i = g i) (k : Nat) : fillC f n k = fillC g n k := by
  apply Array.ext_getElem?
  intro i
  by_cases hi : i < n
  · rw [fillC_get f hi, fillC_get g hi, h i hi]
  · rw [Array.getElem?_eq_none (by rw [fillC_size]; omega), Array.getElem?_eq_none (by rw [fillC_size]; omega)]

def FillRel (f : Nat → Nat) (n : Nat) (W : World) (vi : Value) (wr : World) : Prop :=
  ∃ k : Nat, k ≤ n ∧ vi = .int .i64 (k : Int) ∧ Bk.Is wr W.heap.size (fillC f n k) 27 ∧ Below W.heap.size W wr

/-- A store into the block that is being filled. -/
theorem below_fill {W w : World} (h : Below W.heap.size W w) {B k : Nat} (hB : B = W.heap.size) (v : Value) : Below W.heap.size W (w.setCell ⟨B, k, none⟩ v) :=
  h.trans ⟨rfl, rfl, rfl, by simp [World.setCell], fun i hi => by unfold World.setCell; simp [Array.getElem?_modify]; intro e; omega⟩
end Go.Proofs.YtoeldcgclaiokaaGreat

namespace Go.Proofs.YtoeldcgclaiokaaGreat
open Go.Fl Go.Rel Go.RowKit
set_option linter.unusedVariables false
set_option linter.unusedSimpArgs false

theorem fn_nil (g : FuncId) (caps : Array Value) (w : World) : (binOp .eql 48 (.func (.func g) #[] caps) .nilFunc).run Tryz.prog w = .ok (.bool false) w := by kernel_rfl

/-- A name's rule is found: how many points, how many numbers, its function, what that holds. -/
def FoundT (nm : ByteArray) (p k : Nat) (g : FuncId) (G : Array Value → World → Prop) : Prop :=
  ∀ w1, Calls Tryz.prog 22 #[.string nm] w1 fun e w' => ∃ caps, e = .returned (.agg #[.int .i64 (p : Int), .int .i64 (k : Int), .func (.func g) #[] caps]) ∧ G caps w' ∧ Below w1.heap.size w1 w'

/-- What stands while over.Call runs: the window's variable, the rule's. -/
def CallSt (w : World) (a : Option Addr) (n cap : Nat) (F T N : Int) (p k : Nat) (f : Value) (R : Nat) (W : World) : Prop :=
  Below w.heap.size w W ∧ w.heap.size + 1 ≤ R ∧ R < W.heap.size ∧ Bk.Is W w.heap.size #[.slice a n cap, .int .i64 F, .int .i64 T, .int .i64 N] 24 ∧ Bk.Is W R #[.int .i64 (p : Int), .int .i64 (k : Int), f] 50

theorem CallSt.below {w : World} {a : Option Addr} {n cap : Nat} {F T N : Int} {p k : Nat} {f : Value} {R : Nat} {W W' : World} (h : CallSt w a n cap F T N p k f R W) (hb : Below W.heap.size W W') : CallSt w a n cap F T N p k f R W' := by
  obtain ⟨h1, h2, h3, h4, h5⟩ := h
  have := hb.size
  exact ⟨h1.trans (hb.mono (by omega)), h2, by omega, h4.below hb (by omega), h5.below hb h3⟩

theorem CallSt.bel {w : World} {a : Option Addr} {n cap : Nat} {F T N : Int} {p k : Nat} {f : Value} {R : Nat} {W : World} (h : CallSt w a n cap F T N p k f R W) : Below w.heap.size w W := h.1

theorem CallSt.cells {w : World} {a : Option Addr} {n cap : Nat} {F T N : Int} {p k : Nat} {f : Value} {R : Nat} {W : World} (h : CallSt w a n cap F T N p k f R W) :
    W.cell? ⟨w.heap.size, 0, none⟩ = some (.slice a n cap) ∧ W.cell? ⟨w.heap.size, 1, none⟩ = some (.int .i64 F) ∧ W.cell? ⟨w.heap.size, 2, none⟩ = some (.int .i64 T) ∧ W.cell? ⟨w.heap.size, 3, none⟩ = some (.int .i64 N) ∧
    W.cell? ⟨R, 0, none⟩ = some (.int .i64 (p : Int)) ∧ W.cell? ⟨R, 1, none⟩ = some (.int .i64 (k : Int)) ∧ W.cell? ⟨R, 2, none⟩ = some f := by
  obtain ⟨-, -, -, h4, h5⟩ := h
  exact ⟨by rw [h4.cell]; rfl, by rw [h4.cell]; rfl, by rw [h4.cell]; rfl, by rw [h4.cell]; rfl, by rw [h5.cell]; rfl, by rw [h5.cell]; rfl, by rw [h5.cell]; rfl⟩

/-- Behind the store of the rule. -/
theorem callSt_made {w w1 W : World} {a : Option Addr} {n cap : Nat} {F T N : Int} {p k : Nat} {f : Value}
    (hb : Below (w.heap.size + 1) (w.alloc (.cells #[.slice a n cap, .int .i64 F, .int .i64 T, .int .i64 N] 24)) w1) (hI : Bk.Is W w1.heap.size #[.int .i64 (p : Int), .int .i64 (k : Int), f] 50) (bW : Below w1.heap.size w1 W) : CallSt w a n cap F T N p k f w1.heap.size W := by
  have h1 : Bk.Is (w.alloc (.cells #[.slice a n cap, .int .i64 F, .int .i64 T, .int .i64 N] 24)) w.heap.size #[.slice a n cap, .int .i64 F, .int .i64 T, .int .i64 N] 24 := Bk.Is.made w _ _
  have hs := hb.size
  simp at hs
  have h2 := h1.below hb (by omega)
  refine ⟨((Below.refl _ _).alloc (Nat.le_refl _) _).trans ((hb.mono (by omega)).trans (bW.mono (by omega))), by omega, hI.lt, h2.below bW (by omega), hI⟩

set_option maxHeartbeats 4000000 in
set_option maxRecDepth 100000 in
theorem call_few (nm : ByteArray) (p k : Nat) (g : FuncId) (G : Array Value → World → Prop) (HF : Hid (FoundT nm p k g G)) (a : Option Addr) (n cap : Nat) (F T N : Int) (aa : Option Addr) (an ac : Nat) (w : World) (hk : ¬ an = k) :
    Calls Tryz.prog 6 #[.string nm, winV a n cap F T N, .slice aa an ac] w (OptRet none w) := by
  have hne : ((an : Int) != (k : Int)) = true := by simp; omega
  clear hk
  have hfn := fn_nil g
  unfold FoundT at HF
  go_enter Tryz.func6, Tryz.ntmps6
  go_wp2_with (first | (go_at_call 22; ((with_reducible refine (HF.out _).mono ?_); rintro e w1 ⟨caps, rfl, hG, b1⟩)) | (refine Bk.is_store 50 rfl ?_; refine Bk.wpList_store_box (w0 := w1) (N := 0) rfl 50 _ _ rfl #[.int .i64 (p : Int), .int .i64 (k : Int), .func (.func g) #[] caps] #[.int .i64 0, .int .i64 0, .nilFunc] 50 rfl rfl (by kernel_rfl) rfl (by kernel_rfl) ?_; intro W hI bW; have ST := Lib.hid (callSt_made (by simpa using b1) hI bW); obtain ⟨cw0, cw1, cw2, cw3, cr0, cr1, cr2⟩ := ST.out.cells; clear b1 hI bW hG))
  go_ret2
  exact ⟨rfl, ST.out.1⟩

set_option maxHeartbeats 4000000 in
set_option maxRecDepth 100000 in
theorem call_short (nm : ByteArray) (p k : Nat) (g : FuncId) (G : Array Value → World → Prop) (HF : Hid (FoundT nm p k g G)) (a : Option Addr) (n cap : Nat) (F T N : Int) (aa : Option Addr) (ac : Nat) (w : World) (hp : n < p) :
    Calls Tryz.prog 6 #[.string nm, winV a n cap F T N, .slice aa k ac] w (OptRet none w) := by
  have hlt : decide (n < p) = true := decide_eq_true (by omega)
  clear hp
  have hfn := fn_nil g
  unfold FoundT at HF
  go_enter Tryz.func6, Tryz.ntmps6
  go_wp2_with (first | (go_at_call 22; ((with_reducible refine (HF.out _).mono ?_); rintro e w1 ⟨caps, rfl, hG, b1⟩)) | (refine Bk.is_store 50 rfl ?_; refine Bk.wpList_store_box (w0 := w1) (N := 0) rfl 50 _ _ rfl #[.int .i64 (p : Int), .int .i64 (k : Int), .func (.func g) #[] caps] #[.int .i64 0, .int .i64 0, .nilFunc] 50 rfl rfl (by kernel_rfl) rfl (by kernel_rfl) ?_; intro W hI bW; have ST := Lib.hid (callSt_made (by simpa using b1) hI bW); obtain ⟨cw0, cw1, cw2, cw3, cr0, cr1, cr2⟩ := ST.out.cells; clear b1 hI bW hG))
  go_ret2
  exact ⟨rfl, ST.out.1⟩

set_option maxHeartbeats 4000000 in
set_option maxRecDepth 100000 in
theorem call_unsound (nm : ByteArray) (p k : Nat) (g : FuncId) (G : Array Value → World → Prop) (HF : Hid (FoundT nm p k g G)) (a : Option Addr) (n cap : Nat) (ss : List Smp) (F T N : Int) (aa : Option Addr) (ac : Nat) (w : World) (hp : ¬ n < p) (hr : SRow w a n ss) (hs : sndB F T N ss n = false) :
    Calls Tryz.prog 6 #[.string nm, winV a n cap F T N, .slice aa k ac] w (OptRet none w) := by
  have hlt : decide (n < p) = false := decide_eq_false (by omega)
  have HS : Hid (∀ w1, Below w.heap.size w w1 → Calls Tryz.prog 23 #[winV a n cap F T N] w1 (BoolB false w1)) := fun w1 hb => by rw [← hs]; exact sound_any a n cap ss F T N w1 (hr.below hb)
  clear hp hr hs
  have hfn := fn_nil g
  unfold FoundT at HF
  go_enter Tryz.func6, Tryz.ntmps6
  go_wp2_with (first | (go_at_call 22; ((with_reducible refine (HF.out _).mono ?_); rintro e w1 ⟨caps, rfl, hG, b1⟩)) | (refine Bk.is_store 50 rfl ?_; refine Bk.wpList_store_box (w0 := w1) (N := 0) rfl 50 _ _ rfl #[.int .i64 (p : Int), .int .i64 (k : Int), .func (.func g) #[] caps] #[.int .i64 0, .int .i64 0, .nilFunc] 50 rfl rfl (by kernel_rfl) rfl (by kernel_rfl) ?_; intro W hI bW; have ST := Lib.hid (callSt_made (by simpa using b1) hI bW); obtain ⟨cw0, cw1, cw2, cw3, cr0, cr1, cr2⟩ := ST.out.cells; clear b1 hI bW hG) | (go_at_call 23; ((with_reducible refine (HS.out _ ST.out.bel).mono ?_); rintro e w3 ⟨rfl, b3⟩)))
  go_ret2
  exact ⟨rfl, ST.out.1.trans (b3.mono ST.out.1.size)⟩

set_option maxHeartbeats 4000000 in
set_option maxRecDepth 100000 in
theorem call_good (nm : ByteArray) (p k : Nat) (g : FuncId) (G : Array Value → World → Prop) (HG : Hid (∀ caps w1 w2, G caps w1 → Below w1.heap.size w1 w2 → G caps w2)) (HF : Hid (FoundT nm p k g G)) (eg : ∀ args w, (callFunc g args).run Tryz.prog w = .ok (.enter g args) w)
    (a : Option Addr) (n cap : Nat) (ss : List Smp) (F T N : Int) (aa : Option Addr) (ac : Nat) (o : Option Nat) (w : World) (hp : ¬ n < p) (hr : SRow w a n ss) (hn : n < 17592186044416) (hs : sndB F T N ss n = true)
    (HC : Hid (∀ caps w1 B, Below w.heap.size w w1 → G caps w1 → w.heap.size ≤ B → Bk.Is w1 B (fillC (vS ss) n n) 27 → Calls Tryz.prog g (#[winV a n cap F T N, .slice (some ⟨B, 0, none⟩) n n, .slice aa k ac] ++ caps) w1 (OptRet o w1))) :
    Calls Tryz.prog 6 #[.string nm, winV a n cap F T N, .slice aa k ac] w (OptRet o w) := by
  have hlt : decide (n < p) = false := decide_eq_false (by omega)
  have HS : Hid (∀ w1, Below w.heap.size w w1 → Calls Tryz.prog 23 #[winV a n cap F T N] w1 (BoolB true w1)) := fun w1 hb => by rw [← hs]; exact sound_any a n cap ss F T N w1 (hr.below hb)
  have HR := Lib.hid hr
  clear hp hr hs
  have hfn := fn_nil g
  unfold FoundT at HF
  go_enter Tryz.func6, Tryz.ntmps6
  go_wp2_with (first | (go_at_call 22; ((with_reducible refine (HF.out _).mono ?_); rintro e w1 ⟨caps, rfl, hG, b1⟩)) | (refine Bk.is_store 50 rfl ?_; refine Bk.wpList_store_box (w0 := w1) (N := 0) rfl 50 _ _ rfl #[.int .i64 (p : Int), .int .i64 (k : Int), .func (.func g) #[] caps] #[.int .i64 0, .int .i64 0, .nilFunc] 50 rfl rfl (by kernel_rfl) rfl (by kernel_rfl) ?_; intro W hI bW; have ST := Lib.hid (callSt_made (by simpa using b1) hI bW); obtain ⟨cw0, cw1, cw2, cw3, cr0, cr1, cr2⟩ := ST.out.cells; have HGG := Lib.hid (HG.out _ _ _ hG bW); clear b1 hI bW hG) | (go_at_call 23; ((with_reducible refine (HS.out _ ST.out.bel).mono ?_); rintro e w3 ⟨rfl, b3⟩; have ST3 := Lib.hid (ST.out.below b3); have HG3 := Lib.hid (HG.out _ _ _ HGG.out b3); clear b3 cw0 cw1 cw2 cw3 cr0 cr1 cr2; obtain ⟨cw0, cw1, cw2, cw3, cr0, cr1, cr2⟩ := ST3.out.cells)) | (at_make; refine wpList_make_f rfl _ _ rfl (vS ss) n rfl rfl (by omega) ?_; intro w4 hI4 b4; have HI4 := Lib.hid hI4; have B4 := Lib.hid b4; have ST4 := Lib.hid (ST3.out.below b4); have HG4 := Lib.hid (HG.out _ _ _ HG3.out b4); clear hI4 b4 cw0 cw1 cw2 cw3 cr0 cr1 cr2; obtain ⟨cw0, cw1, cw2, cw3, cr0, cr1, cr2⟩ := ST4.out.cells))
  clear cw0 cw1 cw2 cw3 cr0 cr1 cr2
  go_loopw [44] (FillRel (vS ss) n w3) (fun vi _ => n - (intOf vi).toNat)
  case atStart => exact ⟨0, by omega, rfl, HI4.out, B4.out⟩
  case round =>
    obtain ⟨j, hj, rfl, hI, bw⟩ := hrel
    have HIS := Lib.hid hI
    have BW := Lib.hid bw
    clear hI bw
    by_cases hjn : j < n
    · have hrw := HR.out.below (ST3.out.1.trans (BW.out.mono ST3.out.1.size))
      obtain ⟨b, off, ha, hcell⟩ := hrw.2.2.2 (by omega)
      subst ha
      obtain ⟨e0, e1, e2⟩ := hcell j hjn
      have cf : wr.cell? ⟨w3.heap.size, j, none⟩ = some (.float .f64 0) := by rw [HIS.out.cell, fillC_get _ hjn, if_neg (by omega)]
      have HSET := Lib.hid (fillC_set (vS ss) hjn)
      obtain ⟨tj, htj⟩ : ∃ v, v = tS ss j := ⟨_, rfl⟩
      obtain ⟨vj, hvj⟩ : ∃ v, v = vS ss j := ⟨_, rfl⟩
      obtain ⟨sj, hsj⟩ : ∃ v, v = sS ss j := ⟨_, rfl⟩
      rw [← htj] at e0
      rw [← hvj] at e1 HSET
      rw [← hsj] at e2
      have cf2 := cell_old cf (.cells #[.int .i64 tj, .float .f64 vj, .bool sj] 46)
      have HI2 := Lib.hid (HIS.out.alloc (.cells #[.int .i64 tj, .float .f64 vj, .bool sj] 46))
      have cz2 := HI2.out.free j
      clear hcell hrw htj hvj hsj
      go_wp2_with fail
      go_roundw
      case rel =>
        refine ⟨j + 1, by omega, by go_num, ?_, below_fill (BW.out.alloc BW.out.size _) rfl _⟩
        have := HI2.out.set j (.float .f64 vj)
        rw [HSET.out] at this
        exact this
      case measure => simp [intOf]; omega
    · obtain rfl : j = n := by omega
      have ST5 := Lib.hid (ST3.out.below BW.out)
      have HG5 := Lib.hid (HG.out _ _ _ HG3.out BW.out)
      obtain ⟨cw0, cw1, cw2, cw3, cr0, cr1, cr2⟩ := ST5.out.cells
      have HC5 := Lib.hid (HC.out _ _ _ ST5.out.1 HG5.out ST3.out.1.size HIS.out)
      clear HC
      cases o with
      | none =>
        go_wp2_with (go_at_fn g; ((with_reducible refine HC5.out.mono ?_); rintro e w6 ⟨rfl, b6⟩))
        go_ret2
        exact ⟨rfl, ST5.out.1.trans (b6.mono ST5.out.1.size)⟩
      | some c =>
        go_wp2_with (go_at_fn g; ((with_reducible refine HC5.out.mono ?_); rintro e w6 ⟨r, rfl, hrc, b6⟩))
        go_ret2
        exact ⟨r, rfl, hrc, ST5.out.1.trans (b6.mono ST5.out.1.size)⟩
end Go.Proofs.YtoeldcgclaiokaaGreat

namespace Go.Proofs.YtoeldcgclaiokaaGreat
open Go.Fl Go.Rel Go.RowKit
set_option linter.unusedVariables false
set_option linter.unusedSimpArgs false

def half : Nat := 4602678819172646912
def midT (vs : List Nat) : Nat := quantS half (vs.map fun v => fabs (fsub v (quantS half vs)))

def MidRel (g : Nat → Nat) (n : Nat) (W : World) (vi : Value) (wr : World) : Prop :=
  ∃ (k : Nat) (f : Nat → Nat), k ≤ n ∧ vi = .int .i64 (k : Int) ∧ (∀ i, i < k → cn (f i) = g i) ∧ Bk.Is wr W.heap.size (fillC f n k) 27 ∧ Below W.heap.size W wr

/-- One more value, whatever it is. -/
theorem fill_more {wr : World} {B n k r : Nat} {f : Nat → Nat} (h : Bk.Is wr B (fillC f n k) 27) (hk : k < n) : Bk.Is (wr.setCell ⟨B, k, none⟩ (.float .f64 r)) B (fillC (fun i => if i = k then r else f i) n (k + 1)) 27 := by
  have h1 : fillC f n k = fillC (fun i => if i = k then r else f i) n k := by
    apply Array.ext_getElem?
    intro i
    by_cases hi : i < n
    · rw [fillC_get _ hi, fillC_get _ hi]
      by_cases h2 : i < k
      · rw [if_pos h2, if_pos h2, if_neg (by omega)]
      · rw [if_neg h2, if_neg h2]
    · rw [Array.getElem?_eq_none (by rw [fillC_size]; omega), Array.getElem?_eq_none (by rw [fillC_size]; omega)]
  rw [h1] at h
  have h2 := h.set k (.float .f64 ((fun i => if i = k then r else f i) k))
  rw [fillC_set _ hk] at h2
  simpa using h2

theorem cn_half : cn 4602678819172646912 = half := by decide +kernel

set_option maxHeartbeats 4000000 in
set_option maxRecDepth 100000 in
theorem middle_any (a : Option Addr) (n cap : Nat) (xs : List Nat) (w : World) (hr : Row w a n xs) (hs : SlOk a n cap) (hb : n < 17592186044416) :
    Calls Tryz.prog 52 #[.slice a n cap] w (FB (midT (xs.map cn)) w) := by
  have HQ1 : Hid (Calls Tryz.prog 72 #[.float .f64 4602678819172646912, .slice a n cap] w (FB (quantS half (xs.map cn)) w)) := by
    show Calls _ _ _ _ _
    rw [← cn_half]; exact quant_any _ a n cap xs w hr hs hb
  have HQ2 : Hid (∀ B ys w1, Row w1 (some ⟨B, 0, none⟩) n ys → Calls Tryz.prog 72 #[.float .f64 4602678819172646912, .slice (some ⟨B, 0, none⟩) n n] w1 (FB (quantS half (ys.map cn)) w1)) := fun B ys w1 h => by
    rw [← cn_half]; exact quant_any _ _ n n ys w1 h ⟨Nat.le_refl _, fun h => by cases h⟩ hb
  have HR := Lib.hid hr
  have hl := hr.1
  have HA : Hid (∀ i, i < n → at0 (xs.map cn) i = cn (at0 xs i)) := fun i hi => at0_map cn xs (by omega)
  have HL := Lib.hid hl
  clear hr hs hl
  go_enter Tryz.func52, Tryz.ntmps52
  go_wp2_with (first | (go_at_call 72; ((with_reducible refine HQ1.out.mono ?_); rintro e w1 ⟨m, rfl, hm, b1⟩; have HM := Lib.hid hm; have B1 := Lib.hid b1; clear hm b1)) | (at_make; refine wpList_make_f rfl _ _ rfl (fun _ => 0) n rfl rfl (by omega) ?_; intro w2 hI b2; have HI := Lib.hid hI; have B2 := Lib.hid b2; clear hI b2))
  go_loopw [14] (MidRel (fun i => fabs (fsub (cn (at0 xs i)) (cn m))) n w1) (fun vi _ => n - (intOf vi).toNat)
  case atStart => exact ⟨0, fun _ => 0, by omega, rfl, fun i hi => by omega, HI.out, B2.out⟩
  case round =>
    obtain ⟨k, f, hk, rfl, hf, hI, bw⟩ := hrel
    have HFF := Lib.hid hf
    have HIS := Lib.hid hI
    have BW := Lib.hid bw
    clear hf hI bw
    by_cases hkn : k < n
    · have hrw := HR.out.below (B1.out.trans (BW.out.mono B1.out.size))
      obtain ⟨b, off, ha, hcell⟩ := hrw.2.2 (by omega)
      subst ha
      have ck := hcell k hkn
      have cf : wr.cell? ⟨w1.heap.size, k, none⟩ = some (.float .f64 0) := by rw [HIS.out.cell, fillC_get _ hkn, if_neg (by omega)]
      have cfz := HIS.out.free k
      obtain ⟨u, hu⟩ : ∃ v, v = at0 xs k := ⟨_, rfl⟩
      rw [← hu] at ck
      have HU := Lib.hid hu
      clear hcell hrw hu
      go_wp2_with (first | (refine wpList_fop _ _ _ _ _ _ _ rfl rfl rfl ?_; intro r0 n0 hr0; have HR0 := Lib.hid hr0; clear hr0) | (go_at_call 58; ((with_reducible refine (abs_any _ _).mono ?_); rintro e w3 ⟨rfl, rfl⟩)))
      go_roundw
      case rel => 
        refine ⟨k + 1, fun i => if i = k then r0 % top else f i, by omega, by go_num, fun i hi => ?_, fill_more (HIS.out.drewN n0) hkn, below_fill (BW.out.drewN' n0) rfl _⟩
        by_cases h : i = k
        · subst h
          show cn (if i = i then r0 % top else f i) = fabs (fsub (cn (at0 xs i)) (cn m))
          rw [if_pos rfl, cn_abs, HR0.out, HU.out]; rfl
        · show cn (if i = k then r0 % top else f i) = fabs (fsub (cn (at0 xs i)) (cn m))
          rw [if_neg h]; exact HFF.out i (by omega)
      case measure => simp [intOf]; omega
    · obtain rfl : k = n := by omega
      have HRW : Hid (Row wr (some ⟨w1.heap.size, 0, none⟩) k ((List.range k).map f)) := fill_row HIS.out (by simp) (by omega) (fun i hi => by simp [at0, List.getD, hi])
      have HV : Hid (quantS half (((List.range k).map f).map cn) = midT (xs.map cn)) := by
        show _ = _
        unfold midT
        congr 1
        apply List.ext_getElem?
        intro i
        by_cases hi : i < k
        · have e1 := HFF.out i hi
          have hx : i < xs.length := by have := HL.out; omega
          simp [hi, hx, e1, at0, List.getD, HM.out]
        · have hx : ¬ i < xs.length := by have := HL.out; omega
          rw [List.getElem?_eq_none (by simp; omega), List.getElem?_eq_none (by simp; omega)]
      clear HFF
      go_wp2_with (go_at_call 72; ((with_reducible refine (HQ2.out _ _ _ HRW.out).mono ?_); rintro e w3 ⟨r, rfl, hr, b3⟩))
      go_ret
      exact ⟨r, rfl, hr.trans HV.out, B1.out.trans ((BW.out.trans (b3.mono BW.out.size)).mono B1.out.size)⟩
end Go.Proofs.YtoeldcgclaiokaaGreat

namespace Go.Proofs.YtoeldcgclaiokaaGreat
open Go.Fl Go.Rel Go.RowKit
set_option linter.unusedVariables false
set_option linter.unusedSimpArgs false

/-- The names. -/
inductive Nm | count | present | first | last | sum | avg | stddev | stdvar | max | min | mad | changes | resets | rate | increase | delta | irate | idelta | deriv | quantile | predict | smoothing | beat
deriving DecidableEq

/-- A name's bytes. -/
def Nm.str : Nm → ByteArray
  | .count => ⟨#[99, 111, 117, 110, 116, 95, 111, 118, 101, 114, 95, 116, 105, 109, 101]⟩
  | .present => ⟨#[112, 114, 101, 115, 101, 110, 116, 95, 111, 118, 101, 114, 95, 116, 105, 109, 101]⟩
  | .first => ⟨#[102, 105, 114, 115, 116, 95, 111, 118, 101, 114, 95, 116, 105, 109, 101]⟩
  | .last => ⟨#[108, 97, 115, 116, 95, 111, 118, 101, 114, 95, 116, 105, 109, 101]⟩
  | .sum => ⟨#[115, 117, 109, 95, 111, 118, 101, 114, 95, 116, 105, 109, 101]⟩
  | .avg => ⟨#[97, 118, 103, 95, 111, 118, 101, 114, 95, 116, 105, 109, 101]⟩
  | .stddev => ⟨#[115, 116, 100, 100, 101, 118, 95, 111, 118, 101, 114, 95, 116, 105, 109, 101]⟩
  | .stdvar => ⟨#[115, 116, 100, 118, 97, 114, 95, 111, 118, 101, 114, 95, 116, 105, 109, 101]⟩
  | .max => ⟨#[109, 97, 120, 95, 111, 118, 101, 114, 95, 116, 105, 109, 101]⟩
  | .min => ⟨#[109, 105, 110, 95, 111, 118, 101, 114, 95, 116, 105, 109, 101]⟩
  | .mad => ⟨#[109, 97, 100, 95, 111, 118, 101, 114, 95, 116, 105, 109, 101]⟩
  | .changes => ⟨#[99, 104, 97, 110, 103, 101, 115]⟩
  | .resets => ⟨#[114, 101, 115, 101, 116, 115]⟩
  | .rate => ⟨#[114, 97, 116, 101]⟩
  | .increase => ⟨#[105, 110, 99, 114, 101, 97, 115, 101]⟩
  | .delta => ⟨#[100, 101, 108, 116, 97]⟩
  | .irate => ⟨#[105, 114, 97, 116, 101]⟩
  | .idelta => ⟨#[105, 100, 101, 108, 116, 97]⟩
  | .deriv => ⟨#[100, 101, 114, 105, 118]⟩
  | .quantile => ⟨#[113, 117, 97, 110, 116, 105, 108, 101, 95, 111, 118, 101, 114, 95, 116, 105, 109, 101]⟩
  | .predict => ⟨#[112, 114, 101, 100, 105, 99, 116, 95, 108, 105, 110, 101, 97, 114]⟩
  | .smoothing => ⟨#[100, 111, 117, 98, 108, 101, 95, 101, 120, 112, 111, 110, 101, 110, 116, 105, 97, 108, 95, 115, 109, 111, 111, 116, 104, 105, 110, 103]⟩
  | .beat => ⟨#[98, 101, 97, 116, 95, 111, 118, 101, 114, 95, 116, 105, 109, 101]⟩
/-- How many points it asks for. -/
def Nm.pts : Nm → Nat
  | .count => 1
  | .present => 1
  | .first => 1
  | .last => 1
  | .sum => 1
  | .avg => 1
  | .stddev => 1
  | .stdvar => 1
  | .max => 1
  | .min => 1
  | .mad => 1
  | .changes => 1
  | .resets => 1
  | .rate => 2
  | .increase => 2
  | .delta => 2
  | .irate => 2
  | .idelta => 2
  | .deriv => 2
  | .quantile => 1
  | .predict => 2
  | .smoothing => 2
  | .beat => 1
/-- How many numbers. -/
def Nm.nums : Nm → Nat
  | .count => 0
  | .present => 0
  | .first => 0
  | .last => 0
  | .sum => 0
  | .avg => 0
  | .stddev => 0
  | .stdvar => 0
  | .max => 0
  | .min => 0
  | .mad => 0
  | .changes => 0
  | .resets => 0
  | .rate => 0
  | .increase => 0
  | .delta => 0
  | .irate => 0
  | .idelta => 0
  | .deriv => 0
  | .quantile => 1
  | .predict => 1
  | .smoothing => 2
  | .beat => 1
def beatC (ss : List Smp) (p : Int) : Nat := beatS (vcs ss) (eigs ss p) p
/-- What it answers. -/
def Nm.cls (m : Nm) (ss : List Smp) (n : Nat) (F T N : Int) (qs : List Nat) : Option Nat := match m with
  | .count => some (nfl n)
  | .present => some one
  | .first => some (at0 (vcs ss) 0)
  | .last => some (at0 (vcs ss) (n - 1))
  | .sum => some (sumS (vcs ss))
  | .avg => some (meanS (vcs ss))
  | .stddev => some (fsqrt (varS (vcs ss)))
  | .stdvar => some (varS (vcs ss))
  | .max => some (mostT (vcs ss) true (n - 1))
  | .min => some (mostT (vcs ss) false (n - 1))
  | .mad => some (midT (vcs ss))
  | .changes => some (nfl (cntT chB (vcs ss) (n - 1)))
  | .resets => some (nfl (cntT reB (vcs ss) (n - 1)))
  | .rate => extO ss n F T N true true
  | .increase => extO ss n F T N true false
  | .delta => extO ss n F T N false false
  | .irate => instO ss n F T N true
  | .idelta => instO ss n F T N false
  | .deriv => some (lineS (tcs (tS ss 0) ss) (vcs ss)).1
  | .quantile => some (quantS (at0 qs 0) (vcs ss))
  | .predict => some (fadd (lineS (tcs N ss) (vcs ss)).2 (fmul (lineS (tcs N ss) (vcs ss)).1 (at0 qs 0)))
  | .smoothing => some (smoothS (vcs ss) (at0 qs 0) (at0 qs 1))
  | .beat => some (beatC ss (toIC (fop .mul (at0 qs 0) (cn 4652007308841189376))))
def callO (m : Nm) (ss : List Smp) (n : Nat) (F T N : Int) (k : Nat) (qs : List Nat) : Option Nat := if k = m.nums ∧ m.pts ≤ n ∧ sndB F T N ss n = true then m.cls ss n F T N qs else none

theorem call_all (nm : ByteArray) (p k : Nat) (g : FuncId) (G : Array Value → World → Prop) (HG : ∀ caps w1 w2, G caps w1 → Below w1.heap.size w1 w2 → G caps w2) (HF : FoundT nm p k g G) (eg : ∀ args w, (callFunc g args).run Tryz.prog w = .ok (.enter g args) w)
    (a : Option Addr) (n cap : Nat) (ss : List Smp) (F T N : Int) (aa : Option Addr) (an ac : Nat) (o : Option Nat) (w : World) (hr : SRow w a n ss) (hn : n < 17592186044416)
    (HC : an = k → p ≤ n → sndB F T N ss n = true → ∀ caps w1 B, Below w.heap.size w w1 → G caps w1 → w.heap.size ≤ B → Bk.Is w1 B (fillC (vS ss) n n) 27 → Calls Tryz.prog g (#[winV a n cap F T N, .slice (some ⟨B, 0, none⟩) n n, .slice aa an ac] ++ caps) w1 (OptRet o w1)) :
    Calls Tryz.prog 6 #[.string nm, winV a n cap F T N, .slice aa an ac] w (OptRet (if an = k ∧ p ≤ n ∧ sndB F T N ss n = true then o else none) w) := by
  by_cases h1 : an = k
  · subst h1
    by_cases h2 : n < p
    · rw [if_neg (by omega)]
      exact call_short nm p an g G HF a n cap F T N aa ac w h2
    · cases h3 : sndB F T N ss n with
      | false => rw [if_neg (by simp)]; exact call_unsound nm p an g G HF a n cap ss F T N aa ac w h2 hr h3
      | true => rw [if_pos ⟨rfl, by omega, rfl⟩]; exact call_good nm p an g G HG HF eg a n cap ss F T N aa ac o w h2 hr hn h3 (HC rfl (by omega) h3)
  · rw [if_neg (by omega)]
    exact call_few nm p k g G HF a n cap F T N aa an ac w h1

/-- The values of the points, as they lie in the filled block. -/
def xsOf (ss : List Smp) : List Nat := ss.map fun s => s.v
theorem xsOf_cn (ss : List Smp) : (xsOf ss).map cn = vcs ss := by simp [xsOf, vcs]
theorem xsOf_row {w : World} {B n : Nat} {ss : List Smp} (h : Bk.Is w B (fillC (vS ss) n n) 27) (hl : ss.length = n) (hn : n < 17592186044416) : Row w (some ⟨B, 0, none⟩) n (xsOf ss) :=
  fill_row h (by simp [xsOf, hl]) (by omega) fun i hi => by simp [xsOf, at0, vS, sAt, List.getD, hl, hi]

theorem cell_stay {w1 w2 : World} {q : Addr} {v : Value} (h : w1.cell? q = some v) (hb : Below w1.heap.size w1 w2) : w2.cell? q = some v := by
  rw [hb.cell (p := q) (World.block_lt_of_cell? w1 q h)]; exact h

def PlainG (f : FuncId) (caps : Array Value) (w : World) : Prop := ∃ B : Nat, caps = #[.pointer (some ⟨B, 0, none⟩)] ∧ w.cell? ⟨B, 0, none⟩ = some (.func (.func f) #[] #[])
def GrowG (c p : Bool) (caps : Array Value) (w : World) : Prop := ∃ B C : Nat, caps = #[.pointer (some ⟨B, 0, none⟩), .pointer (some ⟨C, 0, none⟩)] ∧ w.cell? ⟨B, 0, none⟩ = some (.bool c) ∧ w.cell? ⟨C, 0, none⟩ = some (.bool p)
def LastG (c : Bool) (caps : Array Value) (w : World) : Prop := ∃ B : Nat, caps = #[.pointer (some ⟨B, 0, none⟩)] ∧ w.cell? ⟨B, 0, none⟩ = some (.bool c)
def RuleG (caps : Array Value) (_w : World) : Prop := caps = #[]
theorem PlainG.stay {f : FuncId} (caps : Array Value) (w1 w2 : World) (h : PlainG f caps w1) (hb : Below w1.heap.size w1 w2) : PlainG f caps w2 := by
  obtain ⟨B, h1, h2⟩ := h; exact ⟨B, h1, cell_stay h2 hb⟩
theorem GrowG.stay {c p : Bool} (caps : Array Value) (w1 w2 : World) (h : GrowG c p caps w1) (hb : Below w1.heap.size w1 w2) : GrowG c p caps w2 := by
  obtain ⟨B, C, h1, h2, h3⟩ := h; exact ⟨B, C, h1, cell_stay h2 hb, cell_stay h3 hb⟩
theorem LastG.stay {c : Bool} (caps : Array Value) (w1 w2 : World) (h : LastG c caps w1) (hb : Below w1.heap.size w1 w2) : LastG c caps w2 := by
  obtain ⟨B, h1, h2⟩ := h; exact ⟨B, h1, cell_stay h2 hb⟩
theorem RuleG.stay (caps : Array Value) (w1 w2 : World) (h : RuleG caps w1) (_ : Below w1.heap.size w1 w2) : RuleG caps w2 := h

theorem plain_found {nm : ByteArray} {f : FuncId} (h : ∀ w, Calls Tryz.prog 22 #[.string nm] w (PlainRet (.func (.func f) #[] #[]) w)) : FoundT nm 1 0 67 (PlainG f) := fun w1 =>
  (h w1).mono fun e w' ⟨B, he, _, hc, hb⟩ => ⟨_, he, ⟨B, rfl, hc⟩, hb⟩
theorem grow_found {nm : ByteArray} {c p : Bool} (h : ∀ w, Calls Tryz.prog 22 #[.string nm] w (GrowRet c p w)) : FoundT nm 2 0 97 (GrowG c p) := fun w1 =>
  (h w1).mono fun e w' ⟨B, C, he, _, _, hc, hc2, hb⟩ => ⟨_, he, ⟨B, C, rfl, hc, hc2⟩, hb⟩
theorem last_found {nm : ByteArray} {c : Bool} (h : ∀ w, Calls Tryz.prog 22 #[.string nm] w (LastRet c w)) : FoundT nm 2 0 98 (LastG c) := fun w1 =>
  (h w1).mono fun e w' ⟨B, he, _, hc, hb⟩ => ⟨_, he, ⟨B, rfl, hc⟩, hb⟩
theorem rule_found {nm : ByteArray} {p k : Nat} {f : FuncId} (h : ∀ w, Calls Tryz.prog 22 #[.string nm] w (RuleRet p k f w)) : FoundT nm p k f RuleG := fun w1 =>
  (h w1).mono fun e w' ⟨he, hb⟩ => ⟨_, he, rfl, hb⟩

theorem plain_call {nm : ByteArray} {f : FuncId} {c : Nat} (h : ∀ w, Calls Tryz.prog 22 #[.string nm] w (PlainRet (.func (.func f) #[] #[]) w))
    (hcl : ∀ (av : Value) (pa : Option Addr) (pn pc : Nat) (F T N : Int) (a : Option Addr) (n cap B : Nat) (w : World), w.cell? ⟨B, 0, none⟩ = some (.func (.func f) #[] #[]) → Hid (AnsF f a n cap c w) →
      Calls Tryz.prog 67 #[winV pa pn pc F T N, .slice a n cap, av, .pointer (some ⟨B, 0, none⟩)] w (OptRet (some c) w))
    (a : Option Addr) (n cap : Nat) (ss : List Smp) (F T N : Int) (aa : Option Addr) (an ac : Nat) (w : World) (hr : SRow w a n ss) (hn : n < 17592186044416)
    (hans : 0 < n → ∀ B w1, Row w1 (some ⟨B, 0, none⟩) n (xsOf ss) → Calls Tryz.prog f #[.slice (some ⟨B, 0, none⟩) n n] w1 (FB c w1)) :
    Calls Tryz.prog 6 #[.string nm, winV a n cap F T N, .slice aa an ac] w (OptRet (if an = 0 ∧ 1 ≤ n ∧ sndB F T N ss n = true then some c else none) w) := by
  refine call_all nm 1 0 67 (PlainG f) PlainG.stay (plain_found h) (fun args w => by kernel_rfl) a n cap ss F T N aa an ac (some c) w hr hn ?_
  intro _ hp _ caps w1 B hb hG hB hI
  obtain ⟨B2, rfl, hc⟩ := hG
  exact hcl _ _ _ _ _ _ _ _ _ _ _ _ hc (fun w2 b2 => hans hp B w2 ((xsOf_row hI hr.1 hn).below b2))

set_option maxRecDepth 100000 in
theorem call_count (a : Option Addr) (n cap : Nat) (ss : List Smp) (F T N : Int) (aa : Option Addr) (an ac : Nat) (xs : List Nat) (w : World) (hr : SRow w a n ss) (hn : n < 17592186044416) (ha : Row w aa an xs) :
    Calls Tryz.prog 6 #[.string (Nm.count).str, winV a n cap F T N, .slice aa an ac] w (OptRet (callO .count ss n F T N an (xs.map cn)) w) := by
  refine plain_call (nm := (Nm.count).str) (f := 41) find_count_over_time (fun av pa pn pc F T N a n cap B w h1 h2 => clos_count_over_time _ av pa pn pc F T N a n cap B w h1 h2) a n cap ss F T N aa an ac w hr hn ?_
  intro h0 B w1 hw
  exact (f1_any _ n n w1)

set_option maxRecDepth 100000 in
theorem call_present (a : Option Addr) (n cap : Nat) (ss : List Smp) (F T N : Int) (aa : Option Addr) (an ac : Nat) (xs : List Nat) (w : World) (hr : SRow w a n ss) (hn : n < 17592186044416) (ha : Row w aa an xs) :
    Calls Tryz.prog 6 #[.string (Nm.present).str, winV a n cap F T N, .slice aa an ac] w (OptRet (callO .present ss n F T N an (xs.map cn)) w) := by
  refine plain_call (nm := (Nm.present).str) (f := 42) find_present_over_time (fun av pa pn pc F T N a n cap B w h1 h2 => clos_present_over_time _ av pa pn pc F T N a n cap B w h1 h2) a n cap ss F T N aa an ac w hr hn ?_
  intro h0 B w1 hw
  exact (f2_any _ n n w1)

set_option maxRecDepth 100000 in
theorem call_first (a : Option Addr) (n cap : Nat) (ss : List Smp) (F T N : Int) (aa : Option Addr) (an ac : Nat) (xs : List Nat) (w : World) (hr : SRow w a n ss) (hn : n < 17592186044416) (ha : Row w aa an xs) :
    Calls Tryz.prog 6 #[.string (Nm.first).str, winV a n cap F T N, .slice aa an ac] w (OptRet (callO .first ss n F T N an (xs.map cn)) w) := by
  refine plain_call (nm := (Nm.first).str) (f := 43) find_first_over_time (fun av pa pn pc F T N a n cap B w h1 h2 => clos_first_over_time _ av pa pn pc F T N a n cap B w h1 h2) a n cap ss F T N aa an ac w hr hn ?_
  intro h0 B w1 hw
  obtain ⟨b, off, he, hcell⟩ := hw.2.2 h0
  cases he
  have := hcell 0 h0
  rw [show at0 (vcs ss) 0 = cn (at0 (xsOf ss) 0) by rw [← xsOf_cn, at0_map cn _ (by rw [hw.1]; exact h0)]]
  rw [Nat.zero_add] at this
  exact f3_any B 0 n n _ h0 w1 this

set_option maxRecDepth 100000 in
theorem call_last (a : Option Addr) (n cap : Nat) (ss : List Smp) (F T N : Int) (aa : Option Addr) (an ac : Nat) (xs : List Nat) (w : World) (hr : SRow w a n ss) (hn : n < 17592186044416) (ha : Row w aa an xs) :
    Calls Tryz.prog 6 #[.string (Nm.last).str, winV a n cap F T N, .slice aa an ac] w (OptRet (callO .last ss n F T N an (xs.map cn)) w) := by
  refine plain_call (nm := (Nm.last).str) (f := 44) find_last_over_time (fun av pa pn pc F T N a n cap B w h1 h2 => clos_last_over_time _ av pa pn pc F T N a n cap B w h1 h2) a n cap ss F T N aa an ac w hr hn ?_
  intro h0 B w1 hw
  obtain ⟨m, rfl⟩ : ∃ m, n = m + 1 := ⟨n - 1, by omega⟩
  obtain ⟨b, off, he, hcell⟩ := hw.2.2 h0
  cases he
  have := hcell m (by omega)
  rw [show at0 (vcs ss) (m + 1 - 1) = cn (at0 (xsOf ss) m) by rw [← xsOf_cn, at0_map cn _ (by rw [hw.1]; omega)]; rfl]
  exact f4_any B 0 m (m + 1) _ (by omega) w1 this

set_option maxRecDepth 100000 in
theorem call_sum (a : Option Addr) (n cap : Nat) (ss : List Smp) (F T N : Int) (aa : Option Addr) (an ac : Nat) (xs : List Nat) (w : World) (hr : SRow w a n ss) (hn : n < 17592186044416) (ha : Row w aa an xs) :
    Calls Tryz.prog 6 #[.string (Nm.sum).str, winV a n cap F T N, .slice aa an ac] w (OptRet (callO .sum ss n F T N an (xs.map cn)) w) := by
  refine plain_call (nm := (Nm.sum).str) (f := 45) find_sum_over_time (fun av pa pn pc F T N a n cap B w h1 h2 => clos_sum_over_time _ av pa pn pc F T N a n cap B w h1 h2) a n cap ss F T N aa an ac w hr hn ?_
  intro h0 B w1 hw
  exact (xsOf_cn ss ▸ sum_any _ n n _ w1 hw)

set_option maxRecDepth 100000 in
theorem call_avg (a : Option Addr) (n cap : Nat) (ss : List Smp) (F T N : Int) (aa : Option Addr) (an ac : Nat) (xs : List Nat) (w : World) (hr : SRow w a n ss) (hn : n < 17592186044416) (ha : Row w aa an xs) :
    Calls Tryz.prog 6 #[.string (Nm.avg).str, winV a n cap F T N, .slice aa an ac] w (OptRet (callO .avg ss n F T N an (xs.map cn)) w) := by
  refine plain_call (nm := (Nm.avg).str) (f := 46) find_avg_over_time (fun av pa pn pc F T N a n cap B w h1 h2 => clos_avg_over_time _ av pa pn pc F T N a n cap B w h1 h2) a n cap ss F T N aa an ac w hr hn ?_
  intro h0 B w1 hw
  exact (xsOf_cn ss ▸ mean_any _ n n _ w1 hw)

set_option maxRecDepth 100000 in
theorem call_stddev (a : Option Addr) (n cap : Nat) (ss : List Smp) (F T N : Int) (aa : Option Addr) (an ac : Nat) (xs : List Nat) (w : World) (hr : SRow w a n ss) (hn : n < 17592186044416) (ha : Row w aa an xs) :
    Calls Tryz.prog 6 #[.string (Nm.stddev).str, winV a n cap F T N, .slice aa an ac] w (OptRet (callO .stddev ss n F T N an (xs.map cn)) w) := by
  refine plain_call (nm := (Nm.stddev).str) (f := 47) find_stddev_over_time (fun av pa pn pc F T N a n cap B w h1 h2 => clos_stddev_over_time _ av pa pn pc F T N a n cap B w h1 h2) a n cap ss F T N aa an ac w hr hn ?_
  intro h0 B w1 hw
  exact (xsOf_cn ss ▸ spread_any _ n n _ w1 hw)

set_option maxRecDepth 100000 in
theorem call_stdvar (a : Option Addr) (n cap : Nat) (ss : List Smp) (F T N : Int) (aa : Option Addr) (an ac : Nat) (xs : List Nat) (w : World) (hr : SRow w a n ss) (hn : n < 17592186044416) (ha : Row w aa an xs) :
    Calls Tryz.prog 6 #[.string (Nm.stdvar).str, winV a n cap F T N, .slice aa an ac] w (OptRet (callO .stdvar ss n F T N an (xs.map cn)) w) := by
  refine plain_call (nm := (Nm.stdvar).str) (f := 48) find_stdvar_over_time (fun av pa pn pc F T N a n cap B w h1 h2 => clos_stdvar_over_time _ av pa pn pc F T N a n cap B w h1 h2) a n cap ss F T N aa an ac w hr hn ?_
  intro h0 B w1 hw
  exact (xsOf_cn ss ▸ var_any _ n n _ w1 hw)

set_option maxRecDepth 100000 in
theorem call_max (a : Option Addr) (n cap : Nat) (ss : List Smp) (F T N : Int) (aa : Option Addr) (an ac : Nat) (xs : List Nat) (w : World) (hr : SRow w a n ss) (hn : n < 17592186044416) (ha : Row w aa an xs) :
    Calls Tryz.prog 6 #[.string (Nm.max).str, winV a n cap F T N, .slice aa an ac] w (OptRet (callO .max ss n F T N an (xs.map cn)) w) := by
  refine plain_call (nm := (Nm.max).str) (f := 49) find_max_over_time (fun av pa pn pc F T N a n cap B w h1 h2 => clos_max_over_time _ av pa pn pc F T N a n cap B w h1 h2) a n cap ss F T N aa an ac w hr hn ?_
  intro h0 B w1 hw
  obtain ⟨b, off, he, hcell⟩ := hw.2.2 h0
  cases he
  rw [← xsOf_cn]
  exact f5_any B 0 n n _ w1 h0 (.inr rfl) (by omega) hw.1 hcell

set_option maxRecDepth 100000 in
theorem call_min (a : Option Addr) (n cap : Nat) (ss : List Smp) (F T N : Int) (aa : Option Addr) (an ac : Nat) (xs : List Nat) (w : World) (hr : SRow w a n ss) (hn : n < 17592186044416) (ha : Row w aa an xs) :
    Calls Tryz.prog 6 #[.string (Nm.min).str, winV a n cap F T N, .slice aa an ac] w (OptRet (callO .min ss n F T N an (xs.map cn)) w) := by
  refine plain_call (nm := (Nm.min).str) (f := 51) find_min_over_time (fun av pa pn pc F T N a n cap B w h1 h2 => clos_min_over_time _ av pa pn pc F T N a n cap B w h1 h2) a n cap ss F T N aa an ac w hr hn ?_
  intro h0 B w1 hw
  obtain ⟨b, off, he, hcell⟩ := hw.2.2 h0
  cases he
  rw [← xsOf_cn]
  exact f6_any B 0 n n _ w1 h0 (.inr rfl) (by omega) hw.1 hcell

set_option maxRecDepth 100000 in
theorem call_mad (a : Option Addr) (n cap : Nat) (ss : List Smp) (F T N : Int) (aa : Option Addr) (an ac : Nat) (xs : List Nat) (w : World) (hr : SRow w a n ss) (hn : n < 17592186044416) (ha : Row w aa an xs) :
    Calls Tryz.prog 6 #[.string (Nm.mad).str, winV a n cap F T N, .slice aa an ac] w (OptRet (callO .mad ss n F T N an (xs.map cn)) w) := by
  refine plain_call (nm := (Nm.mad).str) (f := 52) find_mad_over_time (fun av pa pn pc F T N a n cap B w h1 h2 => clos_mad_over_time _ av pa pn pc F T N a n cap B w h1 h2) a n cap ss F T N aa an ac w hr hn ?_
  intro h0 B w1 hw
  exact (xsOf_cn ss ▸ middle_any _ n n _ w1 hw ⟨Nat.le_refl _, fun h => by cases h⟩ hn)

set_option maxRecDepth 100000 in
theorem call_changes (a : Option Addr) (n cap : Nat) (ss : List Smp) (F T N : Int) (aa : Option Addr) (an ac : Nat) (xs : List Nat) (w : World) (hr : SRow w a n ss) (hn : n < 17592186044416) (ha : Row w aa an xs) :
    Calls Tryz.prog 6 #[.string (Nm.changes).str, winV a n cap F T N, .slice aa an ac] w (OptRet (callO .changes ss n F T N an (xs.map cn)) w) := by
  refine plain_call (nm := (Nm.changes).str) (f := 53) find_changes (fun av pa pn pc F T N a n cap B w h1 h2 => clos_changes _ av pa pn pc F T N a n cap B w h1 h2) a n cap ss F T N aa an ac w hr hn ?_
  intro h0 B w1 hw
  exact ((xsOf_cn ss ▸ changes_any _ n n _ w1 hw (by omega) h0).mono fun _ _ h => h.fb)

set_option maxRecDepth 100000 in
theorem call_resets (a : Option Addr) (n cap : Nat) (ss : List Smp) (F T N : Int) (aa : Option Addr) (an ac : Nat) (xs : List Nat) (w : World) (hr : SRow w a n ss) (hn : n < 17592186044416) (ha : Row w aa an xs) :
    Calls Tryz.prog 6 #[.string (Nm.resets).str, winV a n cap F T N, .slice aa an ac] w (OptRet (callO .resets ss n F T N an (xs.map cn)) w) := by
  refine plain_call (nm := (Nm.resets).str) (f := 54) find_resets (fun av pa pn pc F T N a n cap B w h1 h2 => clos_resets _ av pa pn pc F T N a n cap B w h1 h2) a n cap ss F T N aa an ac w hr hn ?_
  intro h0 B w1 hw
  exact ((xsOf_cn ss ▸ resets_any _ n n _ w1 hw (by omega) h0).mono fun _ _ h => h.fb)

set_option maxRecDepth 100000 in
theorem call_rate (a : Option Addr) (n cap : Nat) (ss : List Smp) (F T N : Int) (aa : Option Addr) (an ac : Nat) (xs : List Nat) (w : World) (hr : SRow w a n ss) (hn : n < 17592186044416) (ha : Row w aa an xs) :
    Calls Tryz.prog 6 #[.string (Nm.rate).str, winV a n cap F T N, .slice aa an ac] w (OptRet (callO .rate ss n F T N an (xs.map cn)) w) := by
  refine call_all (Nm.rate).str 2 0 97 (GrowG true true) GrowG.stay (grow_found find_rate) (fun args w => by kernel_rfl) a n cap ss F T N aa an ac _ w hr hn ?_
  intro _ hp _ caps w1 B hb hG hB hI
  obtain ⟨B2, C2, rfl, hc, hc2⟩ := hG
  exact clos_growth true true _ _ _ a n cap F T N B2 C2 w1 hc hc2 (fun w2 b2 => ext_any a n cap ss F T N true true w2 (hr.below (hb.trans (b2.mono hb.size))))

set_option maxRecDepth 100000 in
theorem call_increase (a : Option Addr) (n cap : Nat) (ss : List Smp) (F T N : Int) (aa : Option Addr) (an ac : Nat) (xs : List Nat) (w : World) (hr : SRow w a n ss) (hn : n < 17592186044416) (ha : Row w aa an xs) :
    Calls Tryz.prog 6 #[.string (Nm.increase).str, winV a n cap F T N, .slice aa an ac] w (OptRet (callO .increase ss n F T N an (xs.map cn)) w) := by
  refine call_all (Nm.increase).str 2 0 97 (GrowG true false) GrowG.stay (grow_found find_increase) (fun args w => by kernel_rfl) a n cap ss F T N aa an ac _ w hr hn ?_
  intro _ hp _ caps w1 B hb hG hB hI
  obtain ⟨B2, C2, rfl, hc, hc2⟩ := hG
  exact clos_growth true false _ _ _ a n cap F T N B2 C2 w1 hc hc2 (fun w2 b2 => ext_any a n cap ss F T N true false w2 (hr.below (hb.trans (b2.mono hb.size))))

set_option maxRecDepth 100000 in
theorem call_delta (a : Option Addr) (n cap : Nat) (ss : List Smp) (F T N : Int) (aa : Option Addr) (an ac : Nat) (xs : List Nat) (w : World) (hr : SRow w a n ss) (hn : n < 17592186044416) (ha : Row w aa an xs) :
    Calls Tryz.prog 6 #[.string (Nm.delta).str, winV a n cap F T N, .slice aa an ac] w (OptRet (callO .delta ss n F T N an (xs.map cn)) w) := by
  refine call_all (Nm.delta).str 2 0 97 (GrowG false false) GrowG.stay (grow_found find_delta) (fun args w => by kernel_rfl) a n cap ss F T N aa an ac _ w hr hn ?_
  intro _ hp _ caps w1 B hb hG hB hI
  obtain ⟨B2, C2, rfl, hc, hc2⟩ := hG
  exact clos_growth false false _ _ _ a n cap F T N B2 C2 w1 hc hc2 (fun w2 b2 => ext_any a n cap ss F T N false false w2 (hr.below (hb.trans (b2.mono hb.size))))

set_option maxRecDepth 100000 in
theorem call_irate (a : Option Addr) (n cap : Nat) (ss : List Smp) (F T N : Int) (aa : Option Addr) (an ac : Nat) (xs : List Nat) (w : World) (hr : SRow w a n ss) (hn : n < 17592186044416) (ha : Row w aa an xs) :
    Calls Tryz.prog 6 #[.string (Nm.irate).str, winV a n cap F T N, .slice aa an ac] w (OptRet (callO .irate ss n F T N an (xs.map cn)) w) := by
  refine call_all (Nm.irate).str 2 0 98 (LastG true) LastG.stay (last_found find_irate) (fun args w => by kernel_rfl) a n cap ss F T N aa an ac _ w hr hn ?_
  intro _ hp _ caps w1 B hb hG hB hI
  obtain ⟨B2, rfl, hc⟩ := hG
  exact clos_last true _ _ _ a n cap F T N B2 w1 hc (fun w2 b2 => inst_any a n cap ss F T N true w2 (hr.below (hb.trans (b2.mono hb.size))))

set_option maxRecDepth 100000 in
theorem call_idelta (a : Option Addr) (n cap : Nat) (ss : List Smp) (F T N : Int) (aa : Option Addr) (an ac : Nat) (xs : List Nat) (w : World) (hr : SRow w a n ss) (hn : n < 17592186044416) (ha : Row w aa an xs) :
    Calls Tryz.prog 6 #[.string (Nm.idelta).str, winV a n cap F T N, .slice aa an ac] w (OptRet (callO .idelta ss n F T N an (xs.map cn)) w) := by
  refine call_all (Nm.idelta).str 2 0 98 (LastG false) LastG.stay (last_found find_idelta) (fun args w => by kernel_rfl) a n cap ss F T N aa an ac _ w hr hn ?_
  intro _ hp _ caps w1 B hb hG hB hI
  obtain ⟨B2, rfl, hc⟩ := hG
  exact clos_last false _ _ _ a n cap F T N B2 w1 hc (fun w2 b2 => inst_any a n cap ss F T N false w2 (hr.below (hb.trans (b2.mono hb.size))))

set_option maxRecDepth 100000 in
theorem call_deriv (a : Option Addr) (n cap : Nat) (ss : List Smp) (F T N : Int) (aa : Option Addr) (an ac : Nat) (xs : List Nat) (w : World) (hr : SRow w a n ss) (hn : n < 17592186044416) (ha : Row w aa an xs) :
    Calls Tryz.prog 6 #[.string (Nm.deriv).str, winV a n cap F T N, .slice aa an ac] w (OptRet (callO .deriv ss n F T N an (xs.map cn)) w) := by
  refine call_all (Nm.deriv).str 2 0 75 RuleG RuleG.stay (rule_found find_deriv) (fun args w => by kernel_rfl) a n cap ss F T N aa an ac _ w hr hn ?_
  intro hk hp _ caps w1 B hb hG hB hI
  obtain rfl : caps = #[] := hG
  have hw := xsOf_row hI hr.1 hn
  have hr1 := hr.below hb
  obtain ⟨b, off, rfl, hcell⟩ := hr1.2.2.2 (by omega)
  have c0 := (hcell 0 (by omega)).1
  rw [show off + 0 * 3 = off by omega] at c0
  exact clos_deriv (lineS (tcs (tS ss 0) ss) (vcs ss)) _ _ b off n cap F T N (tS ss 0) w1 (by omega) c0 (fun w2 b2 => line_any _ n cap ss _ w2 (hr1.below b2))

set_option maxRecDepth 100000 in
theorem call_quantile (a : Option Addr) (n cap : Nat) (ss : List Smp) (F T N : Int) (aa : Option Addr) (an ac : Nat) (xs : List Nat) (w : World) (hr : SRow w a n ss) (hn : n < 17592186044416) (ha : Row w aa an xs) :
    Calls Tryz.prog 6 #[.string (Nm.quantile).str, winV a n cap F T N, .slice aa an ac] w (OptRet (callO .quantile ss n F T N an (xs.map cn)) w) := by
  refine call_all (Nm.quantile).str 1 1 77 RuleG RuleG.stay (rule_found find_quantile_over_time) (fun args w => by kernel_rfl) a n cap ss F T N aa an ac _ w hr hn ?_
  intro hk hp _ caps w1 B hb hG hB hI
  obtain rfl : caps = #[] := hG
  have hw := xsOf_row hI hr.1 hn
  subst hk
  have ha1 := ha.below hb
  obtain ⟨b, off, rfl, hcell⟩ := ha1.2.2 (by decide)
  have c0 := hcell 0 (by decide)
  rw [Nat.add_zero] at c0
  have e0 : at0 (xs.map cn) 0 = cn (at0 xs 0) := at0_map cn xs (by rw [ha.1]; decide)
  show Calls _ _ _ _ (OptRet (some (quantS (at0 (xs.map cn) 0) (vcs ss))) w1)
  rw [e0, ← xsOf_cn]
  exact clos_quant _ a n cap F T N b off 1 ac _ _ n n w1 (by decide) c0 (fun w2 b2 => quant_any _ _ n n _ w2 (hw.below b2) ⟨Nat.le_refl _, fun h => by cases h⟩ hn)

set_option maxRecDepth 100000 in
theorem call_predict (a : Option Addr) (n cap : Nat) (ss : List Smp) (F T N : Int) (aa : Option Addr) (an ac : Nat) (xs : List Nat) (w : World) (hr : SRow w a n ss) (hn : n < 17592186044416) (ha : Row w aa an xs) :
    Calls Tryz.prog 6 #[.string (Nm.predict).str, winV a n cap F T N, .slice aa an ac] w (OptRet (callO .predict ss n F T N an (xs.map cn)) w) := by
  refine call_all (Nm.predict).str 2 1 78 RuleG RuleG.stay (rule_found find_predict_linear) (fun args w => by kernel_rfl) a n cap ss F T N aa an ac _ w hr hn ?_
  intro hk hp _ caps w1 B hb hG hB hI
  obtain rfl : caps = #[] := hG
  have hw := xsOf_row hI hr.1 hn
  subst hk
  have ha1 := ha.below hb
  obtain ⟨b, off, rfl, hcell⟩ := ha1.2.2 (by decide)
  have c0 := hcell 0 (by decide)
  rw [Nat.add_zero] at c0
  have e0 : at0 (xs.map cn) 0 = cn (at0 xs 0) := at0_map cn xs (by rw [ha.1]; decide)
  show Calls _ _ _ _ (OptRet (some (fadd (lineS (tcs N ss) (vcs ss)).2 (fmul (lineS (tcs N ss) (vcs ss)).1 (at0 (xs.map cn) 0)))) w1)
  rw [e0]
  exact clos_predict (lineS (tcs N ss) (vcs ss)) _ a n cap F T N b off 1 ac _ w1 (by decide) c0 (fun w2 b2 => line_any _ n cap ss _ w2 ((hr.below hb).below b2))

set_option maxRecDepth 100000 in
theorem call_smoothing (a : Option Addr) (n cap : Nat) (ss : List Smp) (F T N : Int) (aa : Option Addr) (an ac : Nat) (xs : List Nat) (w : World) (hr : SRow w a n ss) (hn : n < 17592186044416) (ha : Row w aa an xs) :
    Calls Tryz.prog 6 #[.string (Nm.smoothing).str, winV a n cap F T N, .slice aa an ac] w (OptRet (callO .smoothing ss n F T N an (xs.map cn)) w) := by
  refine call_all (Nm.smoothing).str 2 2 79 RuleG RuleG.stay (rule_found find_double_exponential_smoothing) (fun args w => by kernel_rfl) a n cap ss F T N aa an ac _ w hr hn ?_
  intro hk hp _ caps w1 B hb hG hB hI
  obtain rfl : caps = #[] := hG
  have hw := xsOf_row hI hr.1 hn
  subst hk
  have ha1 := ha.below hb
  obtain ⟨b, off, rfl, hcell⟩ := ha1.2.2 (by decide)
  have c0 := hcell 0 (by decide)
  rw [Nat.add_zero] at c0
  have e0 : at0 (xs.map cn) 0 = cn (at0 xs 0) := at0_map cn xs (by rw [ha.1]; decide)
  have c1 := hcell 1 (by decide)
  have e1 : at0 (xs.map cn) 1 = cn (at0 xs 1) := at0_map cn xs (by rw [ha.1]; decide)
  show Calls _ _ _ _ (OptRet (some (smoothS (vcs ss) (at0 (xs.map cn) 0) (at0 (xs.map cn) 1))) w1)
  rw [e0, e1, ← xsOf_cn]
  exact clos_smooth _ a n cap F T N b off 2 ac _ _ _ n n w1 (by decide) c0 c1 (fun w2 b2 => smooth_any _ n n _ w2 (hw.below b2) _ _)

set_option maxRecDepth 100000 in
theorem call_beat (a : Option Addr) (n cap : Nat) (ss : List Smp) (F T N : Int) (aa : Option Addr) (an ac : Nat) (xs : List Nat) (w : World) (hr : SRow w a n ss) (hn : n < 17592186044416) (ha : Row w aa an xs) :
    Calls Tryz.prog 6 #[.string (Nm.beat).str, winV a n cap F T N, .slice aa an ac] w (OptRet (callO .beat ss n F T N an (xs.map cn)) w) := by
  refine call_all (Nm.beat).str 1 1 81 RuleG RuleG.stay (rule_found find_beat_over_time) (fun args w => by kernel_rfl) a n cap ss F T N aa an ac _ w hr hn ?_
  intro hk hp _ caps w1 B hb hG hB hI
  obtain rfl : caps = #[] := hG
  have hw := xsOf_row hI hr.1 hn
  subst hk
  have ha1 := ha.below hb
  obtain ⟨b, off, rfl, hcell⟩ := ha1.2.2 (by decide)
  have c0 := hcell 0 (by decide)
  rw [Nat.add_zero] at c0
  have e0 : at0 (xs.map cn) 0 = cn (at0 xs 0) := at0_map cn xs (by rw [ha.1]; decide)
  show Calls _ _ _ _ (OptRet (some (beatC ss (toIC (fop .mul (at0 (xs.map cn) 0) (cn 4652007308841189376))))) w1)
  rw [e0]
  exact clos_beat (beatC ss) _ a n cap F T N b off 1 ac _ w1 (by decide) c0 (fun p w2 b2 => beat_any _ n cap ss p w2 ((hr.below hb).below b2))

/-- over.Call at any of the names. -/
theorem call_nm (m : Nm) (a : Option Addr) (n cap : Nat) (ss : List Smp) (F T N : Int) (aa : Option Addr) (an ac : Nat) (xs : List Nat) (w : World) (hr : SRow w a n ss) (hn : n < 17592186044416) (ha : Row w aa an xs) :
    Calls Tryz.prog 6 #[.string m.str, winV a n cap F T N, .slice aa an ac] w (OptRet (callO m ss n F T N an (xs.map cn)) w) := by
  cases m
  · exact call_count a n cap ss F T N aa an ac xs w hr hn ha
  · exact call_present a n cap ss F T N aa an ac xs w hr hn ha
  · exact call_first a n cap ss F T N aa an ac xs w hr hn ha
  · exact call_last a n cap ss F T N aa an ac xs w hr hn ha
  · exact call_sum a n cap ss F T N aa an ac xs w hr hn ha
  · exact call_avg a n cap ss F T N aa an ac xs w hr hn ha
  · exact call_stddev a n cap ss F T N aa an ac xs w hr hn ha
  · exact call_stdvar a n cap ss F T N aa an ac xs w hr hn ha
  · exact call_max a n cap ss F T N aa an ac xs w hr hn ha
  · exact call_min a n cap ss F T N aa an ac xs w hr hn ha
  · exact call_mad a n cap ss F T N aa an ac xs w hr hn ha
  · exact call_changes a n cap ss F T N aa an ac xs w hr hn ha
  · exact call_resets a n cap ss F T N aa an ac xs w hr hn ha
  · exact call_rate a n cap ss F T N aa an ac xs w hr hn ha
  · exact call_increase a n cap ss F T N aa an ac xs w hr hn ha
  · exact call_delta a n cap ss F T N aa an ac xs w hr hn ha
  · exact call_irate a n cap ss F T N aa an ac xs w hr hn ha
  · exact call_idelta a n cap ss F T N aa an ac xs w hr hn ha
  · exact call_deriv a n cap ss F T N aa an ac xs w hr hn ha
  · exact call_quantile a n cap ss F T N aa an ac xs w hr hn ha
  · exact call_predict a n cap ss F T N aa an ac xs w hr hn ha
  · exact call_smoothing a n cap ss F T N aa an ac xs w hr hn ha
  · exact call_beat a n cap ss F T N aa an ac xs w hr hn ha
end Go.Proofs.YtoeldcgclaiokaaGreat
