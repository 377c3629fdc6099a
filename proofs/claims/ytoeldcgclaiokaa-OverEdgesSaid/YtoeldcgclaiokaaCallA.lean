/- over.Call, whatever the rule: what it answers. -/
import Derived.Test.YtoeldcgclaiokaaInstA
import Derived.Test.YtoeldcgclaiokaaFindA
import Derived.Test.YtoeldcgclaiokaaFill
import Derived.Shelf.Abstract
namespace Go.Proofs.Ytoeldcgclaiokaa
open Go.Fl Go.Rel Go.RowKit
set_option linter.unusedVariables false
set_option linter.unusedSimpArgs false

theorem fn_nil (g : FuncId) (caps : Array Value) (w : World) : (binOp .eql 47 (.func (.func g) #[] caps) .nilFunc).run Try.prog w = .ok (.bool false) w := by kernel_rfl

/-- A name's rule is found: how many points, how many numbers, its function, what that holds. -/
def FoundT (nm : ByteArray) (p k : Nat) (g : FuncId) (G : Array Value → World → Prop) : Prop :=
  ∀ w1, Calls Try.prog 23 #[.string nm] w1 fun e w' => ∃ caps, e = .returned (.agg #[.int .i64 (p : Int), .int .i64 (k : Int), .func (.func g) #[] caps]) ∧ G caps w' ∧ Below w1.heap.size w1 w'

/-- What stands while over.Call runs: the window's variable, the rule's. -/
def CallSt (w : World) (a : Option Addr) (n cap : Nat) (F T N : Int) (p k : Nat) (f : Value) (R : Nat) (W : World) : Prop :=
  Below w.heap.size w W ∧ w.heap.size + 1 ≤ R ∧ R < W.heap.size ∧ Bk.Is W w.heap.size #[.slice a n cap, .int .i64 F, .int .i64 T, .int .i64 N] 30 ∧ Bk.Is W R #[.int .i64 (p : Int), .int .i64 (k : Int), f] 49

theorem CallSt.below {w : World} {a : Option Addr} {n cap : Nat} {F T N : Int} {p k : Nat} {f : Value} {R : Nat} {W W' : World} (h : CallSt w a n cap F T N p k f R W) (hb : Below W.heap.size W W') : CallSt w a n cap F T N p k f R W' := by
  obtain ⟨h1, h2, h3, h4, h5⟩ := h
  have := hb.size
  exact ⟨h1.trans (hb.mono (by omega)), h2, by omega, h4.below hb (by omega), h5.below hb h3⟩

theorem CallSt.bel {w : World} {a : Option Addr} {n cap : Nat} {F T N : Int} {p k : Nat} {f : Value} {R : Nat} {W : World} (h : CallSt w a n cap F T N p k f R W) : Below w.heap.size w W := h.1

theorem CallSt.cells {w : World} {a : Option Addr} {n cap : Nat} {F T N : Int} {p k : Nat} {f : Value} {R : Nat} {W : World} (h : CallSt w a n cap F T N p k f R W) :
    W.cell? ⟨w.heap.size, 0, none⟩ = some (.slice a n cap) ∧ W.cell? ⟨w.heap.size, 1, none⟩ = some (.int .i64 F) ∧ W.cell? ⟨w.heap.size, 2, none⟩ = some (.int .i64 T) ∧ W.cell? ⟨w.heap.size, 3, none⟩ = some (.int .i64 N) ∧
    W.cell? ⟨R, 0, none⟩ = some (.int .i64 (p : Int)) ∧ W.cell? ⟨R, 1, none⟩ = some (.int .i64 (k : Int)) ∧ W.cell? ⟨R, 2, none⟩ = some f := by
  obtain ⟨-, -, -, h4, h5⟩ := h
  exact ⟨by rw [h4.cell]; rfl, by rw [h4.cell]; rfl, by rw [h4.cell]; rfl, by rw [h4.cell]; rfl, by rw [h5.cell]; rfl, by rw [h5.cell]; rfl, by rw [h5.cell]; rfl⟩

/-- Behind the store of the rule. -/
theorem callSt_made {w w1 W : World} {a : Option Addr} {n cap : Nat} {F T N : Int} {p k : Nat} {f : Value}
    (hb : Below (w.heap.size + 1) (w.alloc (.cells #[.slice a n cap, .int .i64 F, .int .i64 T, .int .i64 N] 30)) w1) (hI : Bk.Is W w1.heap.size #[.int .i64 (p : Int), .int .i64 (k : Int), f] 49) (bW : Below w1.heap.size w1 W) : CallSt w a n cap F T N p k f w1.heap.size W := by
  have h1 : Bk.Is (w.alloc (.cells #[.slice a n cap, .int .i64 F, .int .i64 T, .int .i64 N] 30)) w.heap.size #[.slice a n cap, .int .i64 F, .int .i64 T, .int .i64 N] 30 := Bk.Is.made w _ _
  have hs := hb.size
  simp at hs
  have h2 := h1.below hb (by omega)
  refine ⟨((Below.refl _ _).alloc (Nat.le_refl _) _).trans ((hb.mono (by omega)).trans (bW.mono (by omega))), by omega, hI.lt, h2.below bW (by omega), hI⟩

set_option maxHeartbeats 4000000 in
set_option maxRecDepth 100000 in
theorem call_few (nm : ByteArray) (p k : Nat) (g : FuncId) (G : Array Value → World → Prop) (HF : Hid (FoundT nm p k g G)) (a : Option Addr) (n cap : Nat) (F T N : Int) (aa : Option Addr) (an ac : Nat) (w : World) (hk : ¬ an = k) :
    Calls Try.prog 12 #[.string nm, winV a n cap F T N, .slice aa an ac] w (OptRet none w) := by
  have hne : ((an : Int) != (k : Int)) = true := by simp; omega
  clear hk
  have hfn := fn_nil g
  unfold FoundT at HF
  go_enter Try.func12, Try.ntmps12
  go_wp2_with (first | (go_at_call 23; ((with_reducible refine (HF.out _).mono ?_); rintro e w1 ⟨caps, rfl, hG, b1⟩)) | (refine Bk.is_store 49 rfl ?_; refine Bk.wpList_store_box (w0 := w1) (N := 0) rfl 49 _ _ rfl #[.int .i64 (p : Int), .int .i64 (k : Int), .func (.func g) #[] caps] #[.int .i64 0, .int .i64 0, .nilFunc] 49 rfl rfl (by kernel_rfl) rfl (by kernel_rfl) ?_; intro W hI bW; have ST := Lib.hid (callSt_made (by simpa using b1) hI bW); obtain ⟨cw0, cw1, cw2, cw3, cr0, cr1, cr2⟩ := ST.out.cells; clear b1 hI bW hG))
  go_ret2
  exact ⟨rfl, ST.out.1⟩

set_option maxHeartbeats 4000000 in
set_option maxRecDepth 100000 in
theorem call_short (nm : ByteArray) (p k : Nat) (g : FuncId) (G : Array Value → World → Prop) (HF : Hid (FoundT nm p k g G)) (a : Option Addr) (n cap : Nat) (F T N : Int) (aa : Option Addr) (ac : Nat) (w : World) (hp : n < p) :
    Calls Try.prog 12 #[.string nm, winV a n cap F T N, .slice aa k ac] w (OptRet none w) := by
  have hlt : decide (n < p) = true := decide_eq_true (by omega)
  clear hp
  have hfn := fn_nil g
  unfold FoundT at HF
  go_enter Try.func12, Try.ntmps12
  go_wp2_with (first | (go_at_call 23; ((with_reducible refine (HF.out _).mono ?_); rintro e w1 ⟨caps, rfl, hG, b1⟩)) | (refine Bk.is_store 49 rfl ?_; refine Bk.wpList_store_box (w0 := w1) (N := 0) rfl 49 _ _ rfl #[.int .i64 (p : Int), .int .i64 (k : Int), .func (.func g) #[] caps] #[.int .i64 0, .int .i64 0, .nilFunc] 49 rfl rfl (by kernel_rfl) rfl (by kernel_rfl) ?_; intro W hI bW; have ST := Lib.hid (callSt_made (by simpa using b1) hI bW); obtain ⟨cw0, cw1, cw2, cw3, cr0, cr1, cr2⟩ := ST.out.cells; clear b1 hI bW hG))
  go_ret2
  exact ⟨rfl, ST.out.1⟩

set_option maxHeartbeats 4000000 in
set_option maxRecDepth 100000 in
theorem call_unsound (nm : ByteArray) (p k : Nat) (g : FuncId) (G : Array Value → World → Prop) (HF : Hid (FoundT nm p k g G)) (a : Option Addr) (n cap : Nat) (ss : List Smp) (F T N : Int) (aa : Option Addr) (ac : Nat) (w : World) (hp : ¬ n < p) (hr : SRow w a n ss) (hs : sndB F T N ss n = false) :
    Calls Try.prog 12 #[.string nm, winV a n cap F T N, .slice aa k ac] w (OptRet none w) := by
  have hlt : decide (n < p) = false := decide_eq_false (by omega)
  have HS : Hid (∀ w1, Below w.heap.size w w1 → Calls Try.prog 24 #[winV a n cap F T N] w1 (BoolB false w1)) := fun w1 hb => by rw [← hs]; exact sound_any a n cap ss F T N w1 (hr.below hb)
  clear hp hr hs
  have hfn := fn_nil g
  unfold FoundT at HF
  go_enter Try.func12, Try.ntmps12
  go_wp2_with (first | (go_at_call 23; ((with_reducible refine (HF.out _).mono ?_); rintro e w1 ⟨caps, rfl, hG, b1⟩)) | (refine Bk.is_store 49 rfl ?_; refine Bk.wpList_store_box (w0 := w1) (N := 0) rfl 49 _ _ rfl #[.int .i64 (p : Int), .int .i64 (k : Int), .func (.func g) #[] caps] #[.int .i64 0, .int .i64 0, .nilFunc] 49 rfl rfl (by kernel_rfl) rfl (by kernel_rfl) ?_; intro W hI bW; have ST := Lib.hid (callSt_made (by simpa using b1) hI bW); obtain ⟨cw0, cw1, cw2, cw3, cr0, cr1, cr2⟩ := ST.out.cells; clear b1 hI bW hG) | (go_at_call 24; ((with_reducible refine (HS.out _ ST.out.bel).mono ?_); rintro e w3 ⟨rfl, b3⟩)))
  go_ret2
  exact ⟨rfl, ST.out.1.trans (b3.mono ST.out.1.size)⟩

set_option maxHeartbeats 4000000 in
set_option maxRecDepth 100000 in
theorem call_good (nm : ByteArray) (p k : Nat) (g : FuncId) (G : Array Value → World → Prop) (HG : Hid (∀ caps w1 w2, G caps w1 → Below w1.heap.size w1 w2 → G caps w2)) (HF : Hid (FoundT nm p k g G)) (eg : ∀ args w, (callFunc g args).run Try.prog w = .ok (.enter g args) w)
    (a : Option Addr) (n cap : Nat) (ss : List Smp) (F T N : Int) (aa : Option Addr) (ac : Nat) (o : Option Nat) (w : World) (hp : ¬ n < p) (hr : SRow w a n ss) (hn : n < 17592186044416) (hs : sndB F T N ss n = true)
    (HC : Hid (∀ caps w1 B, Below w.heap.size w w1 → G caps w1 → w.heap.size ≤ B → Bk.Is w1 B (fillC (vS ss) n n) 25 → Calls Try.prog g (#[winV a n cap F T N, .slice (some ⟨B, 0, none⟩) n n, .slice aa k ac] ++ caps) w1 (OptRet o w1))) :
    Calls Try.prog 12 #[.string nm, winV a n cap F T N, .slice aa k ac] w (OptRet o w) := by
  have hlt : decide (n < p) = false := decide_eq_false (by omega)
  have HS : Hid (∀ w1, Below w.heap.size w w1 → Calls Try.prog 24 #[winV a n cap F T N] w1 (BoolB true w1)) := fun w1 hb => by rw [← hs]; exact sound_any a n cap ss F T N w1 (hr.below hb)
  have HR := Lib.hid hr
  clear hp hr hs
  have hfn := fn_nil g
  unfold FoundT at HF
  go_enter Try.func12, Try.ntmps12
  go_wp2_with (first | (go_at_call 23; ((with_reducible refine (HF.out _).mono ?_); rintro e w1 ⟨caps, rfl, hG, b1⟩)) | (refine Bk.is_store 49 rfl ?_; refine Bk.wpList_store_box (w0 := w1) (N := 0) rfl 49 _ _ rfl #[.int .i64 (p : Int), .int .i64 (k : Int), .func (.func g) #[] caps] #[.int .i64 0, .int .i64 0, .nilFunc] 49 rfl rfl (by kernel_rfl) rfl (by kernel_rfl) ?_; intro W hI bW; have ST := Lib.hid (callSt_made (by simpa using b1) hI bW); obtain ⟨cw0, cw1, cw2, cw3, cr0, cr1, cr2⟩ := ST.out.cells; have HGG := Lib.hid (HG.out _ _ _ hG bW); clear b1 hI bW hG) | (go_at_call 24; ((with_reducible refine (HS.out _ ST.out.bel).mono ?_); rintro e w3 ⟨rfl, b3⟩; have ST3 := Lib.hid (ST.out.below b3); have HG3 := Lib.hid (HG.out _ _ _ HGG.out b3); clear b3 cw0 cw1 cw2 cw3 cr0 cr1 cr2; obtain ⟨cw0, cw1, cw2, cw3, cr0, cr1, cr2⟩ := ST3.out.cells)) | (at_make; refine wpList_make_f rfl _ _ rfl (vS ss) n rfl rfl (by omega) ?_; intro w4 hI4 b4; have HI4 := Lib.hid hI4; have B4 := Lib.hid b4; have ST4 := Lib.hid (ST3.out.below b4); have HG4 := Lib.hid (HG.out _ _ _ HG3.out b4); clear hI4 b4 cw0 cw1 cw2 cw3 cr0 cr1 cr2; obtain ⟨cw0, cw1, cw2, cw3, cr0, cr1, cr2⟩ := ST4.out.cells))
  clear cw0 cw1 cw2 cw3 cr0 cr1 cr2
  go_loopw [44] (FillRel (vS ss) n w3) (fun vi _ => n - (intOf vi).toNat)
  case atStart => exact ⟨0, by omega, rfl, HI4.out, B4.out⟩
  case round =>
    obtain ⟨j, hj, rfl, hI, bw⟩ := hrel
    have HIS := Lib.hid hI
    have BW := Lib.hid bw
    clear hI bw
    by_cases hjn : j < n
    · have hrw := HR.out.below (ST3.out.1.trans (BW.out.mono ST3.out.1.size))
      obtain ⟨b, off, ha, hcell⟩ := hrw.2.2.2 (by omega)
      subst ha
      obtain ⟨e0, e1, e2⟩ := hcell j hjn
      have cf : wr.cell? ⟨w3.heap.size, j, none⟩ = some (.float .f64 0) := by rw [HIS.out.cell, fillC_get _ hjn, if_neg (by omega)]
      have HSET := Lib.hid (fillC_set (vS ss) hjn)
      obtain ⟨tj, htj⟩ : ∃ v, v = tS ss j := ⟨_, rfl⟩
      obtain ⟨vj, hvj⟩ : ∃ v, v = vS ss j := ⟨_, rfl⟩
      obtain ⟨sj, hsj⟩ : ∃ v, v = sS ss j := ⟨_, rfl⟩
      rw [← htj] at e0
      rw [← hvj] at e1 HSET
      rw [← hsj] at e2
      have cf2 := cell_old cf (.cells #[.int .i64 tj, .float .f64 vj, .bool sj] 45)
      have HI2 := Lib.hid (HIS.out.alloc (.cells #[.int .i64 tj, .float .f64 vj, .bool sj] 45))
      have cz2 := HI2.out.free j
      clear hcell hrw htj hvj hsj
      go_wp2_with fail
      go_roundw
      case rel =>
        refine ⟨j + 1, by omega, by go_num, ?_, below_fill (BW.out.alloc BW.out.size _) rfl _⟩
        have := HI2.out.set j (.float .f64 vj)
        rw [HSET.out] at this
        exact this
      case measure => simp [intOf]; omega
    · obtain rfl : j = n := by omega
      have ST5 := Lib.hid (ST3.out.below BW.out)
      have HG5 := Lib.hid (HG.out _ _ _ HG3.out BW.out)
      obtain ⟨cw0, cw1, cw2, cw3, cr0, cr1, cr2⟩ := ST5.out.cells
      have HC5 := Lib.hid (HC.out _ _ _ ST5.out.1 HG5.out ST3.out.1.size HIS.out)
      clear HC
      cases o with
      | none =>
        go_wp2_with (go_at_fn g; ((with_reducible refine HC5.out.mono ?_); rintro e w6 ⟨rfl, b6⟩))
        go_ret2
        exact ⟨rfl, ST5.out.1.trans (b6.mono ST5.out.1.size)⟩
      | some c =>
        go_wp2_with (go_at_fn g; ((with_reducible refine HC5.out.mono ?_); rintro e w6 ⟨r, rfl, hrc, b6⟩))
        go_ret2
        exact ⟨r, rfl, hrc, ST5.out.1.trans (b6.mono ST5.out.1.size)⟩
end Go.Proofs.Ytoeldcgclaiokaa
