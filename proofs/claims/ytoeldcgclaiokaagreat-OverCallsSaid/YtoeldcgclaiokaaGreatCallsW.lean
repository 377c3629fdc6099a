/- OverCalls: the walk. -/
import Derived.Test.YtoeldcgclaiokaaGreatRefAll
import Derived.Test.YtoeldcgclaiokaaGreatNamesB
import Derived.Lib.SlicesS
import Derived.Deep.CutBlock
namespace Go.Proofs.YtoeldcgclaiokaaGreat
open Go.Fl Go.Rel Go.RowKit
set_option linter.unusedVariables false
set_option linter.unusedSimpArgs false

theorem keep5 {z w w' : World} {q0 q1 q2 q3 q4 : Addr} {v0 v1 v2 v3 v4 : Value} (h : w.cell? q0 = some v0 ∧ w.cell? q1 = some v1 ∧ w.cell? q2 = some v2 ∧ w.cell? q3 = some v3 ∧ w.cell? q4 = some v4 ∧ Below z.heap.size z w) (hb : Below w.heap.size w w') : w'.cell? q0 = some v0 ∧ w'.cell? q1 = some v1 ∧ w'.cell? q2 = some v2 ∧ w'.cell? q3 = some v3 ∧ w'.cell? q4 = some v4 ∧ Below z.heap.size z w' := by
  obtain ⟨h0, h1, h2, h3, h4, hz⟩ := h
  exact ⟨cell_stay h0 hb, cell_stay h1 hb, cell_stay h2 hb, cell_stay h3 hb, cell_stay h4 hb, hz.trans (hb.mono hz.size)⟩
theorem keepD5 {z w : World} {q0 q1 q2 q3 q4 : Addr} {v0 v1 v2 v3 v4 : Value} (h : w.cell? q0 = some v0 ∧ w.cell? q1 = some v1 ∧ w.cell? q2 = some v2 ∧ w.cell? q3 = some v3 ∧ w.cell? q4 = some v4 ∧ Below z.heap.size z w) : w.drew.cell? q0 = some v0 ∧ w.drew.cell? q1 = some v1 ∧ w.drew.cell? q2 = some v2 ∧ w.drew.cell? q3 = some v3 ∧ w.drew.cell? q4 = some v4 ∧ Below z.heap.size z w.drew := by
  obtain ⟨h0, h1, h2, h3, h4, hz⟩ := h
  exact ⟨h0, h1, h2, h3, h4, hz.drewN' 1⟩
theorem keepA5 {z w : World} {q0 q1 q2 q3 q4 : Addr} {v0 v1 v2 v3 v4 : Value} (h : w.cell? q0 = some v0 ∧ w.cell? q1 = some v1 ∧ w.cell? q2 = some v2 ∧ w.cell? q3 = some v3 ∧ w.cell? q4 = some v4 ∧ Below z.heap.size z w) (o : Obj) : (w.alloc o).cell? q0 = some v0 ∧ (w.alloc o).cell? q1 = some v1 ∧ (w.alloc o).cell? q2 = some v2 ∧ (w.alloc o).cell? q3 = some v3 ∧ (w.alloc o).cell? q4 = some v4 ∧ Below z.heap.size z (w.alloc o) := by
  obtain ⟨h0, h1, h2, h3, h4, hz⟩ := h
  exact ⟨cell_old h0 o, cell_old h1 o, cell_old h2 o, cell_old h3 o, cell_old h4 o, hz.alloc hz.size o⟩

set_option maxHeartbeats 4000000 in
set_option maxRecDepth 100000 in
/-- over.Call: an unknown name. -/
theorem call_none (s : ByteArray) (hs : ∀ m : Nm, s.toList ≠ m.str.toList) (a : Option Addr) (n cap : Nat) (F T N : Int) (aa : Option Addr) (an ac : Nat) (w : World) :
    Calls Tryz.prog 6 #[.string s, winV a n cap F T N, .slice aa an ac] w (OptRet none w) := by
  have HF := Lib.hid (find_none s hs)
  have hfn : ∀ w, (binOp .eql 48 .nilFunc .nilFunc).run Tryz.prog w = .ok (.bool true) w := fun _ => by kernel_rfl
  clear hs
  go_enter Tryz.func6, Tryz.ntmps6
  go_wp2_with (first | (go_at_call 22; ((with_reducible refine (HF.out _).mono ?_); rintro e w1 ⟨rfl, b1⟩)) | (refine Bk.is_store 50 rfl ?_; refine Bk.wpList_store_box (w0 := w1) (N := 0) rfl 50 _ _ rfl #[.int .i64 0, .int .i64 0, .nilFunc] #[.int .i64 0, .int .i64 0, .nilFunc] 50 rfl rfl (by kernel_rfl) rfl (by kernel_rfl) ?_; intro W hI bW; have ST := Lib.hid (callSt_made (p := 0) (k := 0) (by simpa using b1) hI bW); obtain ⟨cw0, cw1, cw2, cw3, cr0, cr1, cr2⟩ := ST.out.cells; clear b1 hI bW))
  go_ret2
  exact ⟨rfl, ST.out.1⟩

/-- A value and whether there is one. -/
def GenRet (b : Bool) (c : Nat) (w : World) (e : Ending) (w' : World) : Prop := ∃ r, e = .returned (.tuple #[.float .f64 r, .bool b]) ∧ cn r = c ∧ Below w.heap.size w w'
theorem OptRet.gen {o : Option Nat} {w : World} {e : Ending} {w' : World} (h : OptRet o w e w') : GenRet o.isSome (o.getD 0) w e w' := by
  cases o with
  | none => exact ⟨0, h.1, cn_zero, h.2⟩
  | some c => exact h

theorem name_both (s : ByteArray) (a : Option Addr) (n cap : Nat) (ss : List Smp) (F T N : Int) (aa : Option Addr) (an ac : Nat) (xs : List Nat) (w : World) (hr : SRow w a n ss) (H64 : ∀ s ∈ ss, W64 s.v) (hn : n < 17592186044416) (ha : Row w aa an xs) :
    ∃ (b : Bool) (c : Nat) (kb : Bool), (∀ W, Below w.heap.size w W → Calls Tryz.prog 5 #[.string s, .agg #[.slice a n cap, .int .i64 F, .int .i64 T, .int .i64 N], .slice aa an ac] W (GenRet b c W)) ∧
      (∀ W, Below w.heap.size w W → Calls Tryz.prog 6 #[.string s, .agg #[.slice a n cap, .int .i64 F, .int .i64 T, .int .i64 N], .slice aa an ac] W (GenRet b c W)) ∧
      (∀ W, Calls Tryz.prog 8 #[.string s] W (BoolB kb W)) ∧ (∀ W, Calls Tryz.prog 9 #[.string s] W fun e w' => e = .returned (.bool kb) ∧ W = w') := by
  by_cases h : ∃ m : Nm, s = m.str
  · obtain ⟨m, rfl⟩ := h
    exact ⟨_, _, true, fun W hb => (rcall_nm m a n cap ss F T N aa an ac xs W (hr.below hb) H64 hn (ha.below hb)).mono fun _ _ h => h.gen,
      fun W hb => (call_nm m a n cap ss F T N aa an ac xs W (hr.below hb) hn (ha.below hb)).mono fun _ _ h => h.gen, known_nm m, rknown_nm m⟩
  · have hs : ∀ m : Nm, s.toList ≠ m.str.toList := fun m e => h ⟨m, (Lib.bytes_beq_iff s m.str).1 (by rw [e]; simp)⟩
    exact ⟨false, 0, false, fun W hb => (rcall_zero s (Lib.hid (least_none s hs)) a n cap F T N aa an ac W).mono fun _ _ h => h.gen,
      fun W hb => (call_none s hs a n cap F T N aa an ac W).mono fun _ _ h => h.gen, known_none s hs, rknown_none s hs⟩

def fcells (ys : List Nat) : Array Value := (ys.map (Value.float .f64)).toArray
theorem fcells_get {ys : List Nat} {i : Nat} (h : i < ys.length) : (fcells ys)[i]? = some (.float .f64 (at0 ys i)) := by simp [fcells, at0, List.getD, h]
theorem fcells_set (ys : List Nat) (j x : Nat) : (fcells ys).setIfInBounds j (.float .f64 x) = fcells (ys.set j x) := by simp [fcells, List.map_set]
theorem fcells_row {W : World} {B k : Nat} {ys : List Nat} (h : Bk.Is W B (fcells ys) 27) (hl : ys.length = k) (hk : k ≤ 4) : Row W (some ⟨B, 0, none⟩) k ys :=
  ⟨hl, by omega, fun _ => ⟨_, _, rfl, fun i hi => by rw [Nat.zero_add, h.cell, fcells_get (by omega)]⟩⟩

/-- The numbers, in a block of their own. -/
def NumsOwn (k : Nat) (w : World) (e : Ending) (w' : World) : Prop :=
  ∃ (na : Option Addr) (B : Nat) (ys : List Nat), e = .returned (.slice na k k) ∧ ys.length = k ∧ (k = 0 ∨ (na = some ⟨B, 0, none⟩ ∧ w.heap.size ≤ B ∧ Bk.Is w' B (fcells ys) 27)) ∧ Below w.heap.size w w'

set_option maxHeartbeats 4000000 in
set_option maxRecDepth 100000 in
theorem numbers_own (m : Nm) (a b : Nat) (w : World) : Calls Tryz.prog 11 #[.string m.str, .float .f64 a, .float .f64 b] w (NumsOwn m.nums w) := by
  have q1 := str_quantile m
  have q2 := str_predict m
  have q3 := str_beat m
  have q4 := str_smoothing m
  have kind : m = .quantile ∨ m = .predict ∨ m = .beat ∨ m = .smoothing ∨ (m ≠ .quantile ∧ m ≠ .predict ∧ m ≠ .beat ∧ m ≠ .smoothing) := by cases m <;> decide
  rcases kind with hm | hm | hm | hm | ⟨h1, h2, h3, h4⟩
  · have HN : Hid (m.nums = 1) := by subst hm; exact rfl
    rw [decide_eq_true hm] at q1
    clear hm q2 q3 q4
    go_enter Tryz.func11, Tryz.ntmps11
    go_wp2_with fail
    go_ret
    rw [HN.out]
    exact ⟨_, w.heap.size, [a], rfl, rfl, .inr ⟨rfl, Nat.le_refl _, Bk.Is.made w _ _⟩, (Below.refl _ _).alloc (Nat.le_refl _) _⟩
  · have HN : Hid (m.nums = 1) := by subst hm; exact rfl
    rw [decide_eq_true hm] at q2
    rw [decide_eq_false (by subst hm; decide)] at q1
    clear hm q3 q4
    go_enter Tryz.func11, Tryz.ntmps11
    go_wp2_with fail
    go_ret
    rw [HN.out]
    exact ⟨_, w.heap.size, [a], rfl, rfl, .inr ⟨rfl, Nat.le_refl _, Bk.Is.made w _ _⟩, (Below.refl _ _).alloc (Nat.le_refl _) _⟩
  · have HN : Hid (m.nums = 1) := by subst hm; exact rfl
    rw [decide_eq_true hm] at q3
    rw [decide_eq_false (by subst hm; decide)] at q1
    rw [decide_eq_false (by subst hm; decide)] at q2
    clear hm q4
    go_enter Tryz.func11, Tryz.ntmps11
    go_wp2_with fail
    go_ret
    rw [HN.out]
    exact ⟨_, w.heap.size, [a], rfl, rfl, .inr ⟨rfl, Nat.le_refl _, Bk.Is.made w _ _⟩, (Below.refl _ _).alloc (Nat.le_refl _) _⟩
  · have HN : Hid (m.nums = 2) := by subst hm; exact rfl
    rw [decide_eq_true hm] at q4
    rw [decide_eq_false (by subst hm; decide)] at q1
    rw [decide_eq_false (by subst hm; decide)] at q2
    rw [decide_eq_false (by subst hm; decide)] at q3
    clear hm 
    go_enter Tryz.func11, Tryz.ntmps11
    go_wp2_with fail
    go_ret
    rw [HN.out]
    exact ⟨_, w.heap.size, [a, b], rfl, rfl, .inr ⟨rfl, Nat.le_refl _, Bk.Is.made w _ _⟩, (Below.refl _ _).alloc (Nat.le_refl _) _⟩
  · have HN : Hid (m.nums = 0) := nums_none h1 h2 h3 h4
    rw [decide_eq_false h1] at q1
    rw [decide_eq_false h2] at q2
    rw [decide_eq_false h3] at q3
    rw [decide_eq_false h4] at q4
    clear h1 h2 h3 h4
    go_enter Tryz.func11, Tryz.ntmps11
    go_wp2_with fail
    go_ret
    rw [HN.out]
    exact ⟨none, 0, [], rfl, rfl, .inl rfl, Below.refl _ _⟩

theorem nums_le (m : Nm) : m.nums ≤ 2 := by cases m <;> decide
theorem fcells_none (W : World) {na : Option Addr} {ys : List Nat} (h : ys.length = 0) : Row W na 0 ys := ⟨h, by omega, fun h => by omega⟩

/-- The numbers that are written over. -/
def JRel (na : Option Addr) (B k an : Nat) (W : World) (vj : Value) (wr : World) : Prop :=
  ∃ (j : Nat) (ys : List Nat), j ≤ k ∧ j ≤ an ∧ vj = .int .i64 (j : Int) ∧ ys.length = k ∧ (k = 0 ∨ (na = some ⟨B, 0, none⟩ ∧ W.heap.size ≤ B ∧ Bk.Is wr B (fcells ys) 27)) ∧ Below W.heap.size W wr
theorem below_own {K : Nat} {W w : World} (h : Below K W w) {B k : Nat} (hB : K ≤ B) (v : Value) : Below K W (w.setCell ⟨B, k, none⟩ v) :=
  h.trans ⟨rfl, rfl, rfl, by simp [World.setCell], fun i hi => by unfold World.setCell; simp [Array.getElem?_modify]; intro e; omega⟩

set_option maxHeartbeats 8000000 in
set_option maxRecDepth 100000 in
theorem law_calls (s : ByteArray) (a : Option Addr) (n cap : Nat) (ss : List Smp) (F T N : Int) (aa : Option Addr) (an ac : Nat) (xs : List Nat) (w : World) (hr : SRow w a n ss) (H64 : ∀ s ∈ ss, W64 s.v) (hn : n < 17592186044416) (ha : Row w aa an xs) :
    Calls Tryz.prog 3 #[.string s, .agg #[.slice a n cap, .int .i64 F, .int .i64 T, .int .i64 N], .slice aa an ac] w (BoolB true w) := by
  have HA := Lib.hid (alive_any)
  have HN := Lib.hid (names_any)
  obtain ⟨b, c, kb, h1, h2, h3, h4⟩ := name_both s a n cap ss F T N aa an ac xs w hr H64 hn ha
  have HRC := Lib.hid h1
  have HOC := Lib.hid h2
  have HK1 := Lib.hid h3
  have HK2 := Lib.hid h4
  have HM : Hid (∀ (m : Nm) W nb ys, Below w.heap.size w W → Row W nb m.nums ys → Calls Tryz.prog 5 #[.string m.str, .agg #[.slice a n cap, .int .i64 F, .int .i64 T, .int .i64 N], .slice nb m.nums m.nums] W (GenRet (callO m ss n F T N m.nums (ys.map cn)).isSome ((callO m ss n F T N m.nums (ys.map cn)).getD 0) W)) := fun m W nb ys hb hy =>
    (rcall_nm m a n cap ss F T N nb m.nums m.nums ys W (hr.below hb) H64 hn hy).mono fun _ _ h => h.gen
  have HO : Hid (∀ (m : Nm) W nb ys, Below w.heap.size w W → Row W nb m.nums ys → Calls Tryz.prog 6 #[.string m.str, .agg #[.slice a n cap, .int .i64 F, .int .i64 T, .int .i64 N], .slice nb m.nums m.nums] W (GenRet (callO m ss n F T N m.nums (ys.map cn)).isSome ((callO m ss n F T N m.nums (ys.map cn)).getD 0) W)) := fun m W nb ys hb hy =>
    (call_nm m a n cap ss F T N nb m.nums m.nums ys W (hr.below hb) hn hy).mono fun _ _ h => h.gen
  have HAR := Lib.hid ha
  have hbb : (b != b) = false := by simp
  have hkk : (kb != kb) = false := by simp
  have ST0 := Lib.hid (winSt_made w a n cap F T N)
  clear h1 h2 h3 h4 hr H64 hn ha
  go_enter Tryz.func3, Tryz.ntmps3
  go_wp2_with (first
    | (go_at_call 4; ((with_reducible refine (HA.out _).mono ?_); rintro e w1 ⟨rfl, b1⟩; have ST1 := Lib.hid (ST0.out.below b1); clear b1; obtain ⟨c10, c11, c12, c13⟩ := ST1.out.cells))
    | (go_at_call 5; ((with_reducible refine (HRC.out _ ST1.out.bel).mono ?_); rintro e w2 ⟨r1, rfl, hr1, b2⟩; have ST2 := Lib.hid (ST1.out.below b2); have HR1 := Lib.hid hr1; clear b2 hr1 c10 c11 c12 c13; obtain ⟨c20, c21, c22, c23⟩ := ST2.out.cells))
    | (go_at_call 6; ((with_reducible refine (HOC.out _ ST2.out.bel).mono ?_); rintro e w3 ⟨r2, rfl, hr2, b3⟩; have ST3 := Lib.hid (ST2.out.below b3); have S1 : (cn r2 == cn r1) = true := (by rw [hr2, HR1.out]; simp); clear b3 hr2 c20 c21 c22 c23))
    | (go_at_call 7; ((with_reducible refine (same_any r2 r1 _).mono ?_); rintro e w8 ⟨rfl, rfl⟩; rw [S1]))
    | (go_at_call 8; ((with_reducible refine (HK1.out _).mono ?_); rintro e w4 ⟨rfl, b4⟩; have ST4 := Lib.hid (ST3.out.below b4); clear b4))
    | (go_at_call 9; ((with_reducible refine (HK2.out _).mono ?_); rintro e w8 ⟨rfl, rfl⟩))
    | (go_at_call 10; ((with_reducible refine (HN.out _).mono ?_); rintro e w5 ⟨NB, rfl, hB, hnm, b5⟩; have ST5 := Lib.hid (ST4.out.below b5); have NM : Hid (NamesAt NB w5) := hnm; clear hB hnm b5)))
  go_loopw [12] (ORel 23 w5) (fun vi _ => 23 - (intOf vi).toNat)
  case atStart => exact ⟨0, by omega, rfl, Below.refl _ _⟩
  case round =>
    obtain ⟨i, hi, rfl, bw⟩ := hrel
    by_cases hin : i < 23
    · obtain ⟨m, hm⟩ : ∃ m, m = nmAt i := ⟨_, rfl⟩
      have HBW := Lib.hid bw
      have hci : wr.cell? ⟨NB, i, none⟩ = some (.string m.str) := by rw [hm]; exact (NM.out.below bw) i hin
      have HCELL : Hid (∀ W, Below wr.heap.size wr W → W.cell? ⟨NB, i, none⟩ = some (.string m.str)) := fun W hb => cell_stay hci hb
      have STR := Lib.hid (ST5.out.below bw)
      have ib : (i : Int) < 23 := by omega
      have ib0 : (0 : Int) ≤ (i : Int) := by omega
      obtain ⟨w5b, hw5b⟩ : ∃ w5b, w5b = wr := ⟨_, rfl⟩
      have HNO := Lib.hid (numbers_own m)
      have HMM := Lib.hid (HM.out m)
      have HOM := Lib.hid (HO.out m)
      have HLE := Lib.hid (nums_le m)
      obtain ⟨k, hk⟩ : ∃ k, k = m.nums := ⟨_, rfl⟩
      rw [← hk] at HNO HMM HOM HLE
      clear bw hm HM HO hk hw5b
      go_wp2_with (go_at_call 11; ((with_reducible refine (HNO.out _ _ _).mono ?_); rintro e w6 ⟨na, B, ys0, rfl, hl0, hI0, b6⟩; have HL0 := Lib.hid hl0; have HI0 := Lib.hid hI0; have B6 := Lib.hid b6; clear hl0 hI0 b6))
      go_loopw [14] (JRel na B k an wr) (fun vj _ => k - (intOf vj).toNat)
      case atStart => exact ⟨0, ys0, by omega, by omega, rfl, HL0.out, HI0.out, B6.out⟩
      case round =>
        obtain ⟨j, ys, hjk, hja, rfl, hyl, hI, bw⟩ := hrel
        have HYL := Lib.hid hyl
        have BW := Lib.hid bw
        have HI := Lib.hid hI
        clear hI bw hyl
        by_cases hin2 : j < k ∧ j < an
        · obtain ⟨h1, h2⟩ := hin2
          have hown := HI.out.resolve_left (show ¬ k = 0 by omega)
          obtain ⟨rfl, hBle, hIs⟩ := hown
          obtain ⟨ab, ao, haa, hcell⟩ := (HAR.out.below (STR.out.below BW.out).bel).2.2 (by omega)
          subst haa
          have ca := hcell j h2
          obtain ⟨x, hx⟩ : ∃ x, x = at0 xs j := ⟨_, rfl⟩
          rw [← hx] at ca
          have cf : wr.cell? ⟨B, j, none⟩ = some (.float .f64 (at0 ys j)) := by rw [hIs.cell, fcells_get (by rw [HYL.out]; exact h1)]
          have cz := hIs.free j
          have HIS := Lib.hid hIs
          have HBL := Lib.hid hBle
          have k1 : (j : Int) < (k : Int) := by omega
          have k2 : (j : Int) < (an : Int) := by omega
          have k3 : j < k := h1
          have k4 : j < an := h2
          have wk1 : IntKind.i64.wrap ((j : Int) + 1) = (j : Int) + 1 := by have := HLE.out; rw [IntKind.wrap_i64]; omega
          have wk2 : wrap64 ((j : Int) + 1) = (j : Int) + 1 := by have := HLE.out; unfold wrap64; omega
          clear hcell hx hIs hBle hci
          go_wp2_with fail
          go_roundw
          case rel => exact ⟨j + 1, ys.set j x, by omega, by omega, by go_num, by simp [HYL.out], .inr ⟨rfl, HBL.out, by have := HIS.out.set j (.float .f64 x); rw [fcells_set] at this; exact this⟩, below_own BW.out HBL.out _⟩
          case measure => simp [intOf]; omega
        · have hrow : Row wr na k ys := by
            rcases HI.out with h | ⟨h1, h2, h3⟩
            · subst h; exact fcells_none _ HYL.out
            · subst h1; exact fcells_row h3 HYL.out (by have := HLE.out; omega)
          have HROW := Lib.hid hrow
          have hcn := HCELL.out _ BW.out
          have STJ := Lib.hid (STR.out.below BW.out)
          obtain ⟨x0, x1, x2, x3⟩ := STJ.out.cells
          have hst := And.intro hcn (And.intro x0 (And.intro x1 (And.intro x2 (And.intro x3 (Below.refl wr.heap.size wr)))))
          have HBD := Lib.hid (keepD5 hst).2.2.2.2.2
          obtain ⟨b2, hb2⟩ : ∃ q, q = (callO m ss n F T N k (ys.map cn)).isSome := ⟨_, rfl⟩
          obtain ⟨c2, hc2⟩ : ∃ q, q = (callO m ss n F T N k (ys.map cn)).getD 0 := ⟨_, rfl⟩
          have HMC : Hid (∀ W, Below wr.heap.size wr W → Calls Tryz.prog 5 #[.string m.str, .agg #[.slice a n cap, .int .i64 F, .int .i64 T, .int .i64 N], .slice na k k] W (GenRet b2 c2 W)) := fun W hb => by
            rw [hb2, hc2]; exact HMM.out W na ys (STJ.out.below hb).bel (HROW.out.below hb)
          have HOC2 : Hid (∀ W, Below wr.heap.size wr W → Calls Tryz.prog 6 #[.string m.str, .agg #[.slice a n cap, .int .i64 F, .int .i64 T, .int .i64 N], .slice na k k] W (GenRet b2 c2 W)) := fun W hb => by
            rw [hb2, hc2]; exact HOM.out W na ys (STJ.out.below hb).bel (HROW.out.below hb)
          have hbb2 : (b2 != b2) = false := by simp
          clear hb2 hc2 hrow hci
          by_cases hjk2 : j < k
          · have hja2 : ¬ j < an := fun h => hin2 ⟨hjk2, h⟩
            have k1 : (j : Int) < (k : Int) := by omega
            have k2 : ¬ (j : Int) < (an : Int) := by omega
            have d1 : decide ((j : Int) < (k : Int)) = true := decide_eq_true k1
            have d2 : decide ((j : Int) < (an : Int)) = false := decide_eq_false k2
            clear hin2
            go_wp2_with fail
            go_region_held3 (fun w' => w'.cell? ⟨NB, i, none⟩ = some (.string m.str) ∧ w'.cell? ⟨w.heap.size, 0, none⟩ = some (.slice a n cap) ∧ w'.cell? ⟨w.heap.size, 1, none⟩ = some (.int .i64 F) ∧ w'.cell? ⟨w.heap.size, 2, none⟩ = some (.int .i64 T) ∧ w'.cell? ⟨w.heap.size, 3, none⟩ = some (.int .i64 N) ∧ Below wr.heap.size wr w') (first | assumption | exact keep5 (by assumption) (by assumption) | exact keepD5 (by assumption)) (first
              | (go_at_call 5; ((with_reducible refine (HMC.out _ HBD.out).mono ?_); rintro e w7 ⟨r3, rfl, hr3, b7⟩)))
            rename_i hHeld
            have HH := Lib.hid hHeld
            have HBD2 := Lib.hid (keepD5 hHeld).2.2.2.2.2
            clear hHeld
            have hst2 := HH.out
            go_wp2_with fail
            go_region_held3 (fun w' => w'.cell? ⟨NB, i, none⟩ = some (.string m.str) ∧ w'.cell? ⟨w.heap.size, 0, none⟩ = some (.slice a n cap) ∧ w'.cell? ⟨w.heap.size, 1, none⟩ = some (.int .i64 F) ∧ w'.cell? ⟨w.heap.size, 2, none⟩ = some (.int .i64 T) ∧ w'.cell? ⟨w.heap.size, 3, none⟩ = some (.int .i64 N) ∧ Below wr.heap.size wr w') (first | assumption | exact keep5 (by assumption) (by assumption) | exact keepD5 (by assumption)) (first
              | (go_at_call 6; ((with_reducible refine (HOC2.out _ HBD2.out).mono ?_); rintro e w8 ⟨r4, rfl, hr4, b8⟩)))
            rename_i hHeld2
            have HBE := Lib.hid hHeld2.2.2.2.2.2
            clear hHeld2 hst2 HH
            have HSM : (cn r4 == cn r3) = true := by rw [hr4, hr3]; simp
            go_wp2_with (go_at_call 7; ((with_reducible refine (same_any _ _ _).mono ?_); rintro e w9 ⟨rfl, rfl⟩; rw [HSM]))
            go_roundw
            case rel => exact ⟨i + 1, by omega, by go_num, HBW.out.trans ((BW.out.trans (HBE.out.mono BW.out.size)).mono HBW.out.size)⟩
            case measure => simp [intOf]; omega
          · have k1 : ¬ (j : Int) < (k : Int) := by omega
            have d1 : decide ((j : Int) < (k : Int)) = false := decide_eq_false k1
            clear hin2
            go_wp2_with fail
            go_region_held3 (fun w' => w'.cell? ⟨NB, i, none⟩ = some (.string m.str) ∧ w'.cell? ⟨w.heap.size, 0, none⟩ = some (.slice a n cap) ∧ w'.cell? ⟨w.heap.size, 1, none⟩ = some (.int .i64 F) ∧ w'.cell? ⟨w.heap.size, 2, none⟩ = some (.int .i64 T) ∧ w'.cell? ⟨w.heap.size, 3, none⟩ = some (.int .i64 N) ∧ Below wr.heap.size wr w') (first | assumption | exact keep5 (by assumption) (by assumption) | exact keepD5 (by assumption)) (first
              | (go_at_call 5; ((with_reducible refine (HMC.out _ HBD.out).mono ?_); rintro e w7 ⟨r3, rfl, hr3, b7⟩)))
            rename_i hHeld
            have HH := Lib.hid hHeld
            have HBD2 := Lib.hid (keepD5 hHeld).2.2.2.2.2
            clear hHeld
            have hst2 := HH.out
            go_wp2_with fail
            go_region_held3 (fun w' => w'.cell? ⟨NB, i, none⟩ = some (.string m.str) ∧ w'.cell? ⟨w.heap.size, 0, none⟩ = some (.slice a n cap) ∧ w'.cell? ⟨w.heap.size, 1, none⟩ = some (.int .i64 F) ∧ w'.cell? ⟨w.heap.size, 2, none⟩ = some (.int .i64 T) ∧ w'.cell? ⟨w.heap.size, 3, none⟩ = some (.int .i64 N) ∧ Below wr.heap.size wr w') (first | assumption | exact keep5 (by assumption) (by assumption) | exact keepD5 (by assumption)) (first
              | (go_at_call 6; ((with_reducible refine (HOC2.out _ HBD2.out).mono ?_); rintro e w8 ⟨r4, rfl, hr4, b8⟩)))
            rename_i hHeld2
            have HBE := Lib.hid hHeld2.2.2.2.2.2
            clear hHeld2 hst2 HH
            have HSM : (cn r4 == cn r3) = true := by rw [hr4, hr3]; simp
            go_wp2_with (go_at_call 7; ((with_reducible refine (same_any _ _ _).mono ?_); rintro e w9 ⟨rfl, rfl⟩; rw [HSM]))
            go_roundw
            case rel => exact ⟨i + 1, by omega, by go_num, HBW.out.trans ((BW.out.trans (HBE.out.mono BW.out.size)).mono HBW.out.size)⟩
            case measure => simp [intOf]; omega
    · obtain rfl : i = 23 := by omega
      go_wp2_with fail
      go_ret
      exact ⟨rfl, (ST5.out.below bw).bel⟩
end Go.Proofs.YtoeldcgclaiokaaGreat
