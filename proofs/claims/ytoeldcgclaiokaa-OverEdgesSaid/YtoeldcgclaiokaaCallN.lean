/- over.Call at each of the 23 names: what it answers. -/
import Derived.Test.YtoeldcgclaiokaaCallA
import Derived.Test.YtoeldcgclaiokaaMidA
import Derived.Test.YtoeldcgclaiokaaFind
import Derived.Test.YtoeldcgclaiokaaClos
import Derived.Test.YtoeldcgclaiokaaClosB
import Derived.Test.YtoeldcgclaiokaaSmooth
import Derived.Test.YtoeldcgclaiokaaBeat
import Derived.Test.YtoeldcgclaiokaaSpreadAll
namespace Go.Proofs.Ytoeldcgclaiokaa
open Go.Fl Go.Rel Go.RowKit
set_option linter.unusedVariables false
set_option linter.unusedSimpArgs false

/-- The names. -/
inductive Nm | count | present | first | last | sum | avg | stddev | stdvar | max | min | mad | changes | resets | rate | increase | delta | irate | idelta | deriv | quantile | predict | smoothing | beat
deriving DecidableEq

/-- A name's bytes. -/
def Nm.str : Nm → ByteArray
  | .count => ⟨#[99, 111, 117, 110, 116, 95, 111, 118, 101, 114, 95, 116, 105, 109, 101]⟩
  | .present => ⟨#[112, 114, 101, 115, 101, 110, 116, 95, 111, 118, 101, 114, 95, 116, 105, 109, 101]⟩
  | .first => ⟨#[102, 105, 114, 115, 116, 95, 111, 118, 101, 114, 95, 116, 105, 109, 101]⟩
  | .last => ⟨#[108, 97, 115, 116, 95, 111, 118, 101, 114, 95, 116, 105, 109, 101]⟩
  | .sum => ⟨#[115, 117, 109, 95, 111, 118, 101, 114, 95, 116, 105, 109, 101]⟩
  | .avg => ⟨#[97, 118, 103, 95, 111, 118, 101, 114, 95, 116, 105, 109, 101]⟩
  | .stddev => ⟨#[115, 116, 100, 100, 101, 118, 95, 111, 118, 101, 114, 95, 116, 105, 109, 101]⟩
  | .stdvar => ⟨#[115, 116, 100, 118, 97, 114, 95, 111, 118, 101, 114, 95, 116, 105, 109, 101]⟩
  | .max => ⟨#[109, 97, 120, 95, 111, 118, 101, 114, 95, 116, 105, 109, 101]⟩
  | .min => ⟨#[109, 105, 110, 95, 111, 118, 101, 114, 95, 116, 105, 109, 101]⟩
  | .mad => ⟨#[109, 97, 100, 95, 111, 118, 101, 114, 95, 116, 105, 109, 101]⟩
  | .changes => ⟨#[99, 104, 97, 110, 103, 101, 115]⟩
  | .resets => ⟨#[114, 101, 115, 101, 116, 115]⟩
  | .rate => ⟨#[114, 97, 116, 101]⟩
  | .increase => ⟨#[105, 110, 99, 114, 101, 97, 115, 101]⟩
  | .delta => ⟨#[100, 101, 108, 116, 97]⟩
  | .irate => ⟨#[105, 114, 97, 116, 101]⟩
  | .idelta => ⟨#[105, 100, 101, 108, 116, 97]⟩
  | .deriv => ⟨#[100, 101, 114, 105, 118]⟩
  | .quantile => ⟨#[113, 117, 97, 110, 116, 105, 108, 101, 95, 111, 118, 101, 114, 95, 116, 105, 109, 101]⟩
  | .predict => ⟨#[112, 114, 101, 100, 105, 99, 116, 95, 108, 105, 110, 101, 97, 114]⟩
  | .smoothing => ⟨#[100, 111, 117, 98, 108, 101, 95, 101, 120, 112, 111, 110, 101, 110, 116, 105, 97, 108, 95, 115, 109, 111, 111, 116, 104, 105, 110, 103]⟩
  | .beat => ⟨#[98, 101, 97, 116, 95, 111, 118, 101, 114, 95, 116, 105, 109, 101]⟩
/-- How many points it asks for. -/
def Nm.pts : Nm → Nat
  | .count => 1
  | .present => 1
  | .first => 1
  | .last => 1
  | .sum => 1
  | .avg => 1
  | .stddev => 1
  | .stdvar => 1
  | .max => 1
  | .min => 1
  | .mad => 1
  | .changes => 1
  | .resets => 1
  | .rate => 2
  | .increase => 2
  | .delta => 2
  | .irate => 2
  | .idelta => 2
  | .deriv => 2
  | .quantile => 1
  | .predict => 2
  | .smoothing => 2
  | .beat => 1
/-- How many numbers. -/
def Nm.nums : Nm → Nat
  | .count => 0
  | .present => 0
  | .first => 0
  | .last => 0
  | .sum => 0
  | .avg => 0
  | .stddev => 0
  | .stdvar => 0
  | .max => 0
  | .min => 0
  | .mad => 0
  | .changes => 0
  | .resets => 0
  | .rate => 0
  | .increase => 0
  | .delta => 0
  | .irate => 0
  | .idelta => 0
  | .deriv => 0
  | .quantile => 1
  | .predict => 1
  | .smoothing => 2
  | .beat => 1
def beatC (ss : List Smp) (p : Int) : Nat := beatS (vcs ss) (eigs ss p) p
/-- What it answers. -/
def Nm.cls (m : Nm) (ss : List Smp) (n : Nat) (F T N : Int) (qs : List Nat) : Option Nat := match m with
  | .count => some (nfl n)
  | .present => some one
  | .first => some (at0 (vcs ss) 0)
  | .last => some (at0 (vcs ss) (n - 1))
  | .sum => some (sumS (vcs ss))
  | .avg => some (meanS (vcs ss))
  | .stddev => some (fsqrt (varS (vcs ss)))
  | .stdvar => some (varS (vcs ss))
  | .max => some (mostT (vcs ss) true (n - 1))
  | .min => some (mostT (vcs ss) false (n - 1))
  | .mad => some (midT (vcs ss))
  | .changes => some (nfl (cntT chB (vcs ss) (n - 1)))
  | .resets => some (nfl (cntT reB (vcs ss) (n - 1)))
  | .rate => extO ss n F T N true true
  | .increase => extO ss n F T N true false
  | .delta => extO ss n F T N false false
  | .irate => instO ss n F T N true
  | .idelta => instO ss n F T N false
  | .deriv => some (lineS (tcs (tS ss 0) ss) (vcs ss)).1
  | .quantile => some (quantS (at0 qs 0) (vcs ss))
  | .predict => some (fadd (lineS (tcs N ss) (vcs ss)).2 (fmul (lineS (tcs N ss) (vcs ss)).1 (at0 qs 0)))
  | .smoothing => some (smoothS (vcs ss) (at0 qs 0) (at0 qs 1))
  | .beat => some (beatC ss (toIC (fop .mul (at0 qs 0) (cn 4652007308841189376))))
def callO (m : Nm) (ss : List Smp) (n : Nat) (F T N : Int) (k : Nat) (qs : List Nat) : Option Nat := if k = m.nums ∧ m.pts ≤ n ∧ sndB F T N ss n = true then m.cls ss n F T N qs else none

theorem call_all (nm : ByteArray) (p k : Nat) (g : FuncId) (G : Array Value → World → Prop) (HG : ∀ caps w1 w2, G caps w1 → Below w1.heap.size w1 w2 → G caps w2) (HF : FoundT nm p k g G) (eg : ∀ args w, (callFunc g args).run Try.prog w = .ok (.enter g args) w)
    (a : Option Addr) (n cap : Nat) (ss : List Smp) (F T N : Int) (aa : Option Addr) (an ac : Nat) (o : Option Nat) (w : World) (hr : SRow w a n ss) (hn : n < 17592186044416)
    (HC : an = k → p ≤ n → sndB F T N ss n = true → ∀ caps w1 B, Below w.heap.size w w1 → G caps w1 → w.heap.size ≤ B → Bk.Is w1 B (fillC (vS ss) n n) 25 → Calls Try.prog g (#[winV a n cap F T N, .slice (some ⟨B, 0, none⟩) n n, .slice aa an ac] ++ caps) w1 (OptRet o w1)) :
    Calls Try.prog 12 #[.string nm, winV a n cap F T N, .slice aa an ac] w (OptRet (if an = k ∧ p ≤ n ∧ sndB F T N ss n = true then o else none) w) := by
  by_cases h1 : an = k
  · subst h1
    by_cases h2 : n < p
    · rw [if_neg (by omega)]
      exact call_short nm p an g G HF a n cap F T N aa ac w h2
    · cases h3 : sndB F T N ss n with
      | false => rw [if_neg (by simp)]; exact call_unsound nm p an g G HF a n cap ss F T N aa ac w h2 hr h3
      | true => rw [if_pos ⟨rfl, by omega, rfl⟩]; exact call_good nm p an g G HG HF eg a n cap ss F T N aa ac o w h2 hr hn h3 (HC rfl (by omega) h3)
  · rw [if_neg (by omega)]
    exact call_few nm p k g G HF a n cap F T N aa an ac w h1

/-- The values of the points, as they lie in the filled block. -/
def xsOf (ss : List Smp) : List Nat := ss.map fun s => s.v
theorem xsOf_cn (ss : List Smp) : (xsOf ss).map cn = vcs ss := by simp [xsOf, vcs]
theorem xsOf_row {w : World} {B n : Nat} {ss : List Smp} (h : Bk.Is w B (fillC (vS ss) n n) 25) (hl : ss.length = n) (hn : n < 17592186044416) : Row w (some ⟨B, 0, none⟩) n (xsOf ss) :=
  fill_row h (by simp [xsOf, hl]) (by omega) fun i hi => by simp [xsOf, at0, vS, sAt, List.getD, hl, hi]

theorem cell_stay {w1 w2 : World} {q : Addr} {v : Value} (h : w1.cell? q = some v) (hb : Below w1.heap.size w1 w2) : w2.cell? q = some v := by
  rw [hb.cell (p := q) (World.block_lt_of_cell? w1 q h)]; exact h

def PlainG (f : FuncId) (caps : Array Value) (w : World) : Prop := ∃ B : Nat, caps = #[.pointer (some ⟨B, 0, none⟩)] ∧ w.cell? ⟨B, 0, none⟩ = some (.func (.func f) #[] #[])
def GrowG (c p : Bool) (caps : Array Value) (w : World) : Prop := ∃ B C : Nat, caps = #[.pointer (some ⟨B, 0, none⟩), .pointer (some ⟨C, 0, none⟩)] ∧ w.cell? ⟨B, 0, none⟩ = some (.bool c) ∧ w.cell? ⟨C, 0, none⟩ = some (.bool p)
def LastG (c : Bool) (caps : Array Value) (w : World) : Prop := ∃ B : Nat, caps = #[.pointer (some ⟨B, 0, none⟩)] ∧ w.cell? ⟨B, 0, none⟩ = some (.bool c)
def RuleG (caps : Array Value) (_w : World) : Prop := caps = #[]
theorem PlainG.stay {f : FuncId} (caps : Array Value) (w1 w2 : World) (h : PlainG f caps w1) (hb : Below w1.heap.size w1 w2) : PlainG f caps w2 := by
  obtain ⟨B, h1, h2⟩ := h; exact ⟨B, h1, cell_stay h2 hb⟩
theorem GrowG.stay {c p : Bool} (caps : Array Value) (w1 w2 : World) (h : GrowG c p caps w1) (hb : Below w1.heap.size w1 w2) : GrowG c p caps w2 := by
  obtain ⟨B, C, h1, h2, h3⟩ := h; exact ⟨B, C, h1, cell_stay h2 hb, cell_stay h3 hb⟩
theorem LastG.stay {c : Bool} (caps : Array Value) (w1 w2 : World) (h : LastG c caps w1) (hb : Below w1.heap.size w1 w2) : LastG c caps w2 := by
  obtain ⟨B, h1, h2⟩ := h; exact ⟨B, h1, cell_stay h2 hb⟩
theorem RuleG.stay (caps : Array Value) (w1 w2 : World) (h : RuleG caps w1) (_ : Below w1.heap.size w1 w2) : RuleG caps w2 := h

theorem plain_found {nm : ByteArray} {f : FuncId} (h : ∀ w, Calls Try.prog 23 #[.string nm] w (PlainRet (.func (.func f) #[] #[]) w)) : FoundT nm 1 0 45 (PlainG f) := fun w1 =>
  (h w1).mono fun e w' ⟨B, he, _, hc, hb⟩ => ⟨_, he, ⟨B, rfl, hc⟩, hb⟩
theorem grow_found {nm : ByteArray} {c p : Bool} (h : ∀ w, Calls Try.prog 23 #[.string nm] w (GrowRet c p w)) : FoundT nm 2 0 75 (GrowG c p) := fun w1 =>
  (h w1).mono fun e w' ⟨B, C, he, _, _, hc, hc2, hb⟩ => ⟨_, he, ⟨B, C, rfl, hc, hc2⟩, hb⟩
theorem last_found {nm : ByteArray} {c : Bool} (h : ∀ w, Calls Try.prog 23 #[.string nm] w (LastRet c w)) : FoundT nm 2 0 76 (LastG c) := fun w1 =>
  (h w1).mono fun e w' ⟨B, he, _, hc, hb⟩ => ⟨_, he, ⟨B, rfl, hc⟩, hb⟩
theorem rule_found {nm : ByteArray} {p k : Nat} {f : FuncId} (h : ∀ w, Calls Try.prog 23 #[.string nm] w (RuleRet p k f w)) : FoundT nm p k f RuleG := fun w1 =>
  (h w1).mono fun e w' ⟨he, hb⟩ => ⟨_, he, rfl, hb⟩

theorem plain_call {nm : ByteArray} {f : FuncId} {c : Nat} (h : ∀ w, Calls Try.prog 23 #[.string nm] w (PlainRet (.func (.func f) #[] #[]) w))
    (hcl : ∀ (av : Value) (pa : Option Addr) (pn pc : Nat) (F T N : Int) (a : Option Addr) (n cap B : Nat) (w : World), w.cell? ⟨B, 0, none⟩ = some (.func (.func f) #[] #[]) → Hid (AnsF f a n cap c w) →
      Calls Try.prog 45 #[winV pa pn pc F T N, .slice a n cap, av, .pointer (some ⟨B, 0, none⟩)] w (OptRet (some c) w))
    (a : Option Addr) (n cap : Nat) (ss : List Smp) (F T N : Int) (aa : Option Addr) (an ac : Nat) (w : World) (hr : SRow w a n ss) (hn : n < 17592186044416)
    (hans : 0 < n → ∀ B w1, Row w1 (some ⟨B, 0, none⟩) n (xsOf ss) → Calls Try.prog f #[.slice (some ⟨B, 0, none⟩) n n] w1 (FB c w1)) :
    Calls Try.prog 12 #[.string nm, winV a n cap F T N, .slice aa an ac] w (OptRet (if an = 0 ∧ 1 ≤ n ∧ sndB F T N ss n = true then some c else none) w) := by
  refine call_all nm 1 0 45 (PlainG f) PlainG.stay (plain_found h) (fun args w => by kernel_rfl) a n cap ss F T N aa an ac (some c) w hr hn ?_
  intro _ hp _ caps w1 B hb hG hB hI
  obtain ⟨B2, rfl, hc⟩ := hG
  exact hcl _ _ _ _ _ _ _ _ _ _ _ _ hc (fun w2 b2 => hans hp B w2 ((xsOf_row hI hr.1 hn).below b2))

set_option maxRecDepth 100000 in
theorem call_count (a : Option Addr) (n cap : Nat) (ss : List Smp) (F T N : Int) (aa : Option Addr) (an ac : Nat) (xs : List Nat) (w : World) (hr : SRow w a n ss) (hn : n < 17592186044416) (ha : Row w aa an xs) :
    Calls Try.prog 12 #[.string (Nm.count).str, winV a n cap F T N, .slice aa an ac] w (OptRet (callO .count ss n F T N an (xs.map cn)) w) := by
  refine plain_call (nm := (Nm.count).str) (f := 30) find_count_over_time (fun av pa pn pc F T N a n cap B w h1 h2 => clos_count_over_time _ av pa pn pc F T N a n cap B w h1 h2) a n cap ss F T N aa an ac w hr hn ?_
  intro h0 B w1 hw
  exact (f1_any _ n n w1)

set_option maxRecDepth 100000 in
theorem call_present (a : Option Addr) (n cap : Nat) (ss : List Smp) (F T N : Int) (aa : Option Addr) (an ac : Nat) (xs : List Nat) (w : World) (hr : SRow w a n ss) (hn : n < 17592186044416) (ha : Row w aa an xs) :
    Calls Try.prog 12 #[.string (Nm.present).str, winV a n cap F T N, .slice aa an ac] w (OptRet (callO .present ss n F T N an (xs.map cn)) w) := by
  refine plain_call (nm := (Nm.present).str) (f := 31) find_present_over_time (fun av pa pn pc F T N a n cap B w h1 h2 => clos_present_over_time _ av pa pn pc F T N a n cap B w h1 h2) a n cap ss F T N aa an ac w hr hn ?_
  intro h0 B w1 hw
  exact (f2_any _ n n w1)

set_option maxRecDepth 100000 in
theorem call_first (a : Option Addr) (n cap : Nat) (ss : List Smp) (F T N : Int) (aa : Option Addr) (an ac : Nat) (xs : List Nat) (w : World) (hr : SRow w a n ss) (hn : n < 17592186044416) (ha : Row w aa an xs) :
    Calls Try.prog 12 #[.string (Nm.first).str, winV a n cap F T N, .slice aa an ac] w (OptRet (callO .first ss n F T N an (xs.map cn)) w) := by
  refine plain_call (nm := (Nm.first).str) (f := 32) find_first_over_time (fun av pa pn pc F T N a n cap B w h1 h2 => clos_first_over_time _ av pa pn pc F T N a n cap B w h1 h2) a n cap ss F T N aa an ac w hr hn ?_
  intro h0 B w1 hw
  obtain ⟨b, off, he, hcell⟩ := hw.2.2 h0
  cases he
  have := hcell 0 h0
  rw [show at0 (vcs ss) 0 = cn (at0 (xsOf ss) 0) by rw [← xsOf_cn, at0_map cn _ (by rw [hw.1]; exact h0)]]
  rw [Nat.zero_add] at this
  exact f3_any B 0 n n _ h0 w1 this

set_option maxRecDepth 100000 in
theorem call_last (a : Option Addr) (n cap : Nat) (ss : List Smp) (F T N : Int) (aa : Option Addr) (an ac : Nat) (xs : List Nat) (w : World) (hr : SRow w a n ss) (hn : n < 17592186044416) (ha : Row w aa an xs) :
    Calls Try.prog 12 #[.string (Nm.last).str, winV a n cap F T N, .slice aa an ac] w (OptRet (callO .last ss n F T N an (xs.map cn)) w) := by
  refine plain_call (nm := (Nm.last).str) (f := 33) find_last_over_time (fun av pa pn pc F T N a n cap B w h1 h2 => clos_last_over_time _ av pa pn pc F T N a n cap B w h1 h2) a n cap ss F T N aa an ac w hr hn ?_
  intro h0 B w1 hw
  obtain ⟨m, rfl⟩ : ∃ m, n = m + 1 := ⟨n - 1, by omega⟩
  obtain ⟨b, off, he, hcell⟩ := hw.2.2 h0
  cases he
  have := hcell m (by omega)
  rw [show at0 (vcs ss) (m + 1 - 1) = cn (at0 (xsOf ss) m) by rw [← xsOf_cn, at0_map cn _ (by rw [hw.1]; omega)]; rfl]
  exact f4_any B 0 m (m + 1) _ (by omega) w1 this

set_option maxRecDepth 100000 in
theorem call_sum (a : Option Addr) (n cap : Nat) (ss : List Smp) (F T N : Int) (aa : Option Addr) (an ac : Nat) (xs : List Nat) (w : World) (hr : SRow w a n ss) (hn : n < 17592186044416) (ha : Row w aa an xs) :
    Calls Try.prog 12 #[.string (Nm.sum).str, winV a n cap F T N, .slice aa an ac] w (OptRet (callO .sum ss n F T N an (xs.map cn)) w) := by
  refine plain_call (nm := (Nm.sum).str) (f := 34) find_sum_over_time (fun av pa pn pc F T N a n cap B w h1 h2 => clos_sum_over_time _ av pa pn pc F T N a n cap B w h1 h2) a n cap ss F T N aa an ac w hr hn ?_
  intro h0 B w1 hw
  exact (xsOf_cn ss ▸ sum_any _ n n _ w1 hw)

set_option maxRecDepth 100000 in
theorem call_avg (a : Option Addr) (n cap : Nat) (ss : List Smp) (F T N : Int) (aa : Option Addr) (an ac : Nat) (xs : List Nat) (w : World) (hr : SRow w a n ss) (hn : n < 17592186044416) (ha : Row w aa an xs) :
    Calls Try.prog 12 #[.string (Nm.avg).str, winV a n cap F T N, .slice aa an ac] w (OptRet (callO .avg ss n F T N an (xs.map cn)) w) := by
  refine plain_call (nm := (Nm.avg).str) (f := 35) find_avg_over_time (fun av pa pn pc F T N a n cap B w h1 h2 => clos_avg_over_time _ av pa pn pc F T N a n cap B w h1 h2) a n cap ss F T N aa an ac w hr hn ?_
  intro h0 B w1 hw
  exact (xsOf_cn ss ▸ mean_any _ n n _ w1 hw)

set_option maxRecDepth 100000 in
theorem call_stddev (a : Option Addr) (n cap : Nat) (ss : List Smp) (F T N : Int) (aa : Option Addr) (an ac : Nat) (xs : List Nat) (w : World) (hr : SRow w a n ss) (hn : n < 17592186044416) (ha : Row w aa an xs) :
    Calls Try.prog 12 #[.string (Nm.stddev).str, winV a n cap F T N, .slice aa an ac] w (OptRet (callO .stddev ss n F T N an (xs.map cn)) w) := by
  refine plain_call (nm := (Nm.stddev).str) (f := 36) find_stddev_over_time (fun av pa pn pc F T N a n cap B w h1 h2 => clos_stddev_over_time _ av pa pn pc F T N a n cap B w h1 h2) a n cap ss F T N aa an ac w hr hn ?_
  intro h0 B w1 hw
  exact (xsOf_cn ss ▸ spread_any _ n n _ w1 hw)

set_option maxRecDepth 100000 in
theorem call_stdvar (a : Option Addr) (n cap : Nat) (ss : List Smp) (F T N : Int) (aa : Option Addr) (an ac : Nat) (xs : List Nat) (w : World) (hr : SRow w a n ss) (hn : n < 17592186044416) (ha : Row w aa an xs) :
    Calls Try.prog 12 #[.string (Nm.stdvar).str, winV a n cap F T N, .slice aa an ac] w (OptRet (callO .stdvar ss n F T N an (xs.map cn)) w) := by
  refine plain_call (nm := (Nm.stdvar).str) (f := 37) find_stdvar_over_time (fun av pa pn pc F T N a n cap B w h1 h2 => clos_stdvar_over_time _ av pa pn pc F T N a n cap B w h1 h2) a n cap ss F T N aa an ac w hr hn ?_
  intro h0 B w1 hw
  exact (xsOf_cn ss ▸ var_any _ n n _ w1 hw)

set_option maxRecDepth 100000 in
theorem call_max (a : Option Addr) (n cap : Nat) (ss : List Smp) (F T N : Int) (aa : Option Addr) (an ac : Nat) (xs : List Nat) (w : World) (hr : SRow w a n ss) (hn : n < 17592186044416) (ha : Row w aa an xs) :
    Calls Try.prog 12 #[.string (Nm.max).str, winV a n cap F T N, .slice aa an ac] w (OptRet (callO .max ss n F T N an (xs.map cn)) w) := by
  refine plain_call (nm := (Nm.max).str) (f := 38) find_max_over_time (fun av pa pn pc F T N a n cap B w h1 h2 => clos_max_over_time _ av pa pn pc F T N a n cap B w h1 h2) a n cap ss F T N aa an ac w hr hn ?_
  intro h0 B w1 hw
  obtain ⟨b, off, he, hcell⟩ := hw.2.2 h0
  cases he
  rw [← xsOf_cn]
  exact f5_any B 0 n n _ w1 h0 (.inr rfl) (by omega) hw.1 hcell

set_option maxRecDepth 100000 in
theorem call_min (a : Option Addr) (n cap : Nat) (ss : List Smp) (F T N : Int) (aa : Option Addr) (an ac : Nat) (xs : List Nat) (w : World) (hr : SRow w a n ss) (hn : n < 17592186044416) (ha : Row w aa an xs) :
    Calls Try.prog 12 #[.string (Nm.min).str, winV a n cap F T N, .slice aa an ac] w (OptRet (callO .min ss n F T N an (xs.map cn)) w) := by
  refine plain_call (nm := (Nm.min).str) (f := 40) find_min_over_time (fun av pa pn pc F T N a n cap B w h1 h2 => clos_min_over_time _ av pa pn pc F T N a n cap B w h1 h2) a n cap ss F T N aa an ac w hr hn ?_
  intro h0 B w1 hw
  obtain ⟨b, off, he, hcell⟩ := hw.2.2 h0
  cases he
  rw [← xsOf_cn]
  exact f6_any B 0 n n _ w1 h0 (.inr rfl) (by omega) hw.1 hcell

set_option maxRecDepth 100000 in
theorem call_mad (a : Option Addr) (n cap : Nat) (ss : List Smp) (F T N : Int) (aa : Option Addr) (an ac : Nat) (xs : List Nat) (w : World) (hr : SRow w a n ss) (hn : n < 17592186044416) (ha : Row w aa an xs) :
    Calls Try.prog 12 #[.string (Nm.mad).str, winV a n cap F T N, .slice aa an ac] w (OptRet (callO .mad ss n F T N an (xs.map cn)) w) := by
  refine plain_call (nm := (Nm.mad).str) (f := 41) find_mad_over_time (fun av pa pn pc F T N a n cap B w h1 h2 => clos_mad_over_time _ av pa pn pc F T N a n cap B w h1 h2) a n cap ss F T N aa an ac w hr hn ?_
  intro h0 B w1 hw
  exact (xsOf_cn ss ▸ middle_any _ n n _ w1 hw ⟨Nat.le_refl _, fun h => by cases h⟩ hn)

set_option maxRecDepth 100000 in
theorem call_changes (a : Option Addr) (n cap : Nat) (ss : List Smp) (F T N : Int) (aa : Option Addr) (an ac : Nat) (xs : List Nat) (w : World) (hr : SRow w a n ss) (hn : n < 17592186044416) (ha : Row w aa an xs) :
    Calls Try.prog 12 #[.string (Nm.changes).str, winV a n cap F T N, .slice aa an ac] w (OptRet (callO .changes ss n F T N an (xs.map cn)) w) := by
  refine plain_call (nm := (Nm.changes).str) (f := 42) find_changes (fun av pa pn pc F T N a n cap B w h1 h2 => clos_changes _ av pa pn pc F T N a n cap B w h1 h2) a n cap ss F T N aa an ac w hr hn ?_
  intro h0 B w1 hw
  exact ((xsOf_cn ss ▸ changes_any _ n n _ w1 hw (by omega) h0).mono fun _ _ h => h.fb)

set_option maxRecDepth 100000 in
theorem call_resets (a : Option Addr) (n cap : Nat) (ss : List Smp) (F T N : Int) (aa : Option Addr) (an ac : Nat) (xs : List Nat) (w : World) (hr : SRow w a n ss) (hn : n < 17592186044416) (ha : Row w aa an xs) :
    Calls Try.prog 12 #[.string (Nm.resets).str, winV a n cap F T N, .slice aa an ac] w (OptRet (callO .resets ss n F T N an (xs.map cn)) w) := by
  refine plain_call (nm := (Nm.resets).str) (f := 43) find_resets (fun av pa pn pc F T N a n cap B w h1 h2 => clos_resets _ av pa pn pc F T N a n cap B w h1 h2) a n cap ss F T N aa an ac w hr hn ?_
  intro h0 B w1 hw
  exact ((xsOf_cn ss ▸ resets_any _ n n _ w1 hw (by omega) h0).mono fun _ _ h => h.fb)

set_option maxRecDepth 100000 in
theorem call_rate (a : Option Addr) (n cap : Nat) (ss : List Smp) (F T N : Int) (aa : Option Addr) (an ac : Nat) (xs : List Nat) (w : World) (hr : SRow w a n ss) (hn : n < 17592186044416) (ha : Row w aa an xs) :
    Calls Try.prog 12 #[.string (Nm.rate).str, winV a n cap F T N, .slice aa an ac] w (OptRet (callO .rate ss n F T N an (xs.map cn)) w) := by
  refine call_all (Nm.rate).str 2 0 75 (GrowG true true) GrowG.stay (grow_found find_rate) (fun args w => by kernel_rfl) a n cap ss F T N aa an ac _ w hr hn ?_
  intro _ hp _ caps w1 B hb hG hB hI
  obtain ⟨B2, C2, rfl, hc, hc2⟩ := hG
  exact clos_growth true true _ _ _ a n cap F T N B2 C2 w1 hc hc2 (fun w2 b2 => ext_any a n cap ss F T N true true w2 (hr.below (hb.trans (b2.mono hb.size))))

set_option maxRecDepth 100000 in
theorem call_increase (a : Option Addr) (n cap : Nat) (ss : List Smp) (F T N : Int) (aa : Option Addr) (an ac : Nat) (xs : List Nat) (w : World) (hr : SRow w a n ss) (hn : n < 17592186044416) (ha : Row w aa an xs) :
    Calls Try.prog 12 #[.string (Nm.increase).str, winV a n cap F T N, .slice aa an ac] w (OptRet (callO .increase ss n F T N an (xs.map cn)) w) := by
  refine call_all (Nm.increase).str 2 0 75 (GrowG true false) GrowG.stay (grow_found find_increase) (fun args w => by kernel_rfl) a n cap ss F T N aa an ac _ w hr hn ?_
  intro _ hp _ caps w1 B hb hG hB hI
  obtain ⟨B2, C2, rfl, hc, hc2⟩ := hG
  exact clos_growth true false _ _ _ a n cap F T N B2 C2 w1 hc hc2 (fun w2 b2 => ext_any a n cap ss F T N true false w2 (hr.below (hb.trans (b2.mono hb.size))))

set_option maxRecDepth 100000 in
theorem call_delta (a : Option Addr) (n cap : Nat) (ss : List Smp) (F T N : Int) (aa : Option Addr) (an ac : Nat) (xs : List Nat) (w : World) (hr : SRow w a n ss) (hn : n < 17592186044416) (ha : Row w aa an xs) :
    Calls Try.prog 12 #[.string (Nm.delta).str, winV a n cap F T N, .slice aa an ac] w (OptRet (callO .delta ss n F T N an (xs.map cn)) w) := by
  refine call_all (Nm.delta).str 2 0 75 (GrowG false false) GrowG.stay (grow_found find_delta) (fun args w => by kernel_rfl) a n cap ss F T N aa an ac _ w hr hn ?_
  intro _ hp _ caps w1 B hb hG hB hI
  obtain ⟨B2, C2, rfl, hc, hc2⟩ := hG
  exact clos_growth false false _ _ _ a n cap F T N B2 C2 w1 hc hc2 (fun w2 b2 => ext_any a n cap ss F T N false false w2 (hr.below (hb.trans (b2.mono hb.size))))

set_option maxRecDepth 100000 in
theorem call_irate (a : Option Addr) (n cap : Nat) (ss : List Smp) (F T N : Int) (aa : Option Addr) (an ac : Nat) (xs : List Nat) (w : World) (hr : SRow w a n ss) (hn : n < 17592186044416) (ha : Row w aa an xs) :
    Calls Try.prog 12 #[.string (Nm.irate).str, winV a n cap F T N, .slice aa an ac] w (OptRet (callO .irate ss n F T N an (xs.map cn)) w) := by
  refine call_all (Nm.irate).str 2 0 76 (LastG true) LastG.stay (last_found find_irate) (fun args w => by kernel_rfl) a n cap ss F T N aa an ac _ w hr hn ?_
  intro _ hp _ caps w1 B hb hG hB hI
  obtain ⟨B2, rfl, hc⟩ := hG
  exact clos_last true _ _ _ a n cap F T N B2 w1 hc (fun w2 b2 => inst_any a n cap ss F T N true w2 (hr.below (hb.trans (b2.mono hb.size))))

set_option maxRecDepth 100000 in
theorem call_idelta (a : Option Addr) (n cap : Nat) (ss : List Smp) (F T N : Int) (aa : Option Addr) (an ac : Nat) (xs : List Nat) (w : World) (hr : SRow w a n ss) (hn : n < 17592186044416) (ha : Row w aa an xs) :
    Calls Try.prog 12 #[.string (Nm.idelta).str, winV a n cap F T N, .slice aa an ac] w (OptRet (callO .idelta ss n F T N an (xs.map cn)) w) := by
  refine call_all (Nm.idelta).str 2 0 76 (LastG false) LastG.stay (last_found find_idelta) (fun args w => by kernel_rfl) a n cap ss F T N aa an ac _ w hr hn ?_
  intro _ hp _ caps w1 B hb hG hB hI
  obtain ⟨B2, rfl, hc⟩ := hG
  exact clos_last false _ _ _ a n cap F T N B2 w1 hc (fun w2 b2 => inst_any a n cap ss F T N false w2 (hr.below (hb.trans (b2.mono hb.size))))

set_option maxRecDepth 100000 in
theorem call_deriv (a : Option Addr) (n cap : Nat) (ss : List Smp) (F T N : Int) (aa : Option Addr) (an ac : Nat) (xs : List Nat) (w : World) (hr : SRow w a n ss) (hn : n < 17592186044416) (ha : Row w aa an xs) :
    Calls Try.prog 12 #[.string (Nm.deriv).str, winV a n cap F T N, .slice aa an ac] w (OptRet (callO .deriv ss n F T N an (xs.map cn)) w) := by
  refine call_all (Nm.deriv).str 2 0 56 RuleG RuleG.stay (rule_found find_deriv) (fun args w => by kernel_rfl) a n cap ss F T N aa an ac _ w hr hn ?_
  intro hk hp _ caps w1 B hb hG hB hI
  obtain rfl : caps = #[] := hG
  have hw := xsOf_row hI hr.1 hn
  have hr1 := hr.below hb
  obtain ⟨b, off, rfl, hcell⟩ := hr1.2.2.2 (by omega)
  have c0 := (hcell 0 (by omega)).1
  rw [show off + 0 * 3 = off by omega] at c0
  exact clos_deriv (lineS (tcs (tS ss 0) ss) (vcs ss)) _ _ b off n cap F T N (tS ss 0) w1 (by omega) c0 (fun w2 b2 => line_any _ n cap ss _ w2 (hr1.below b2))

set_option maxRecDepth 100000 in
theorem call_quantile (a : Option Addr) (n cap : Nat) (ss : List Smp) (F T N : Int) (aa : Option Addr) (an ac : Nat) (xs : List Nat) (w : World) (hr : SRow w a n ss) (hn : n < 17592186044416) (ha : Row w aa an xs) :
    Calls Try.prog 12 #[.string (Nm.quantile).str, winV a n cap F T N, .slice aa an ac] w (OptRet (callO .quantile ss n F T N an (xs.map cn)) w) := by
  refine call_all (Nm.quantile).str 1 1 58 RuleG RuleG.stay (rule_found find_quantile_over_time) (fun args w => by kernel_rfl) a n cap ss F T N aa an ac _ w hr hn ?_
  intro hk hp _ caps w1 B hb hG hB hI
  obtain rfl : caps = #[] := hG
  have hw := xsOf_row hI hr.1 hn
  subst hk
  have ha1 := ha.below hb
  obtain ⟨b, off, rfl, hcell⟩ := ha1.2.2 (by decide)
  have c0 := hcell 0 (by decide)
  rw [Nat.add_zero] at c0
  have e0 : at0 (xs.map cn) 0 = cn (at0 xs 0) := at0_map cn xs (by rw [ha.1]; decide)
  show Calls _ _ _ _ (OptRet (some (quantS (at0 (xs.map cn) 0) (vcs ss))) w1)
  rw [e0, ← xsOf_cn]
  exact clos_quant _ a n cap F T N b off 1 ac _ _ n n w1 (by decide) c0 (fun w2 b2 => quant_any _ _ n n _ w2 (hw.below b2) ⟨Nat.le_refl _, fun h => by cases h⟩ hn)

set_option maxRecDepth 100000 in
theorem call_predict (a : Option Addr) (n cap : Nat) (ss : List Smp) (F T N : Int) (aa : Option Addr) (an ac : Nat) (xs : List Nat) (w : World) (hr : SRow w a n ss) (hn : n < 17592186044416) (ha : Row w aa an xs) :
    Calls Try.prog 12 #[.string (Nm.predict).str, winV a n cap F T N, .slice aa an ac] w (OptRet (callO .predict ss n F T N an (xs.map cn)) w) := by
  refine call_all (Nm.predict).str 2 1 59 RuleG RuleG.stay (rule_found find_predict_linear) (fun args w => by kernel_rfl) a n cap ss F T N aa an ac _ w hr hn ?_
  intro hk hp _ caps w1 B hb hG hB hI
  obtain rfl : caps = #[] := hG
  have hw := xsOf_row hI hr.1 hn
  subst hk
  have ha1 := ha.below hb
  obtain ⟨b, off, rfl, hcell⟩ := ha1.2.2 (by decide)
  have c0 := hcell 0 (by decide)
  rw [Nat.add_zero] at c0
  have e0 : at0 (xs.map cn) 0 = cn (at0 xs 0) := at0_map cn xs (by rw [ha.1]; decide)
  show Calls _ _ _ _ (OptRet (some (fadd (lineS (tcs N ss) (vcs ss)).2 (fmul (lineS (tcs N ss) (vcs ss)).1 (at0 (xs.map cn) 0)))) w1)
  rw [e0]
  exact clos_predict (lineS (tcs N ss) (vcs ss)) _ a n cap F T N b off 1 ac _ w1 (by decide) c0 (fun w2 b2 => line_any _ n cap ss _ w2 ((hr.below hb).below b2))

set_option maxRecDepth 100000 in
theorem call_smoothing (a : Option Addr) (n cap : Nat) (ss : List Smp) (F T N : Int) (aa : Option Addr) (an ac : Nat) (xs : List Nat) (w : World) (hr : SRow w a n ss) (hn : n < 17592186044416) (ha : Row w aa an xs) :
    Calls Try.prog 12 #[.string (Nm.smoothing).str, winV a n cap F T N, .slice aa an ac] w (OptRet (callO .smoothing ss n F T N an (xs.map cn)) w) := by
  refine call_all (Nm.smoothing).str 2 2 60 RuleG RuleG.stay (rule_found find_double_exponential_smoothing) (fun args w => by kernel_rfl) a n cap ss F T N aa an ac _ w hr hn ?_
  intro hk hp _ caps w1 B hb hG hB hI
  obtain rfl : caps = #[] := hG
  have hw := xsOf_row hI hr.1 hn
  subst hk
  have ha1 := ha.below hb
  obtain ⟨b, off, rfl, hcell⟩ := ha1.2.2 (by decide)
  have c0 := hcell 0 (by decide)
  rw [Nat.add_zero] at c0
  have e0 : at0 (xs.map cn) 0 = cn (at0 xs 0) := at0_map cn xs (by rw [ha.1]; decide)
  have c1 := hcell 1 (by decide)
  have e1 : at0 (xs.map cn) 1 = cn (at0 xs 1) := at0_map cn xs (by rw [ha.1]; decide)
  show Calls _ _ _ _ (OptRet (some (smoothS (vcs ss) (at0 (xs.map cn) 0) (at0 (xs.map cn) 1))) w1)
  rw [e0, e1, ← xsOf_cn]
  exact clos_smooth _ a n cap F T N b off 2 ac _ _ _ n n w1 (by decide) c0 c1 (fun w2 b2 => smooth_any _ n n _ w2 (hw.below b2) _ _)

set_option maxRecDepth 100000 in
theorem call_beat (a : Option Addr) (n cap : Nat) (ss : List Smp) (F T N : Int) (aa : Option Addr) (an ac : Nat) (xs : List Nat) (w : World) (hr : SRow w a n ss) (hn : n < 17592186044416) (ha : Row w aa an xs) :
    Calls Try.prog 12 #[.string (Nm.beat).str, winV a n cap F T N, .slice aa an ac] w (OptRet (callO .beat ss n F T N an (xs.map cn)) w) := by
  refine call_all (Nm.beat).str 1 1 62 RuleG RuleG.stay (rule_found find_beat_over_time) (fun args w => by kernel_rfl) a n cap ss F T N aa an ac _ w hr hn ?_
  intro hk hp _ caps w1 B hb hG hB hI
  obtain rfl : caps = #[] := hG
  have hw := xsOf_row hI hr.1 hn
  subst hk
  have ha1 := ha.below hb
  obtain ⟨b, off, rfl, hcell⟩ := ha1.2.2 (by decide)
  have c0 := hcell 0 (by decide)
  rw [Nat.add_zero] at c0
  have e0 : at0 (xs.map cn) 0 = cn (at0 xs 0) := at0_map cn xs (by rw [ha.1]; decide)
  show Calls _ _ _ _ (OptRet (some (beatC ss (toIC (fop .mul (at0 (xs.map cn) 0) (cn 4652007308841189376))))) w1)
  rw [e0]
  exact clos_beat (beatC ss) _ a n cap F T N b off 1 ac _ w1 (by decide) c0 (fun p w2 b2 => beat_any _ n cap ss p w2 ((hr.below hb).below b2))

/-- over.Call at any of the names. -/
theorem call_nm (m : Nm) (a : Option Addr) (n cap : Nat) (ss : List Smp) (F T N : Int) (aa : Option Addr) (an ac : Nat) (xs : List Nat) (w : World) (hr : SRow w a n ss) (hn : n < 17592186044416) (ha : Row w aa an xs) :
    Calls Try.prog 12 #[.string m.str, winV a n cap F T N, .slice aa an ac] w (OptRet (callO m ss n F T N an (xs.map cn)) w) := by
  cases m
  · exact call_count a n cap ss F T N aa an ac xs w hr hn ha
  · exact call_present a n cap ss F T N aa an ac xs w hr hn ha
  · exact call_first a n cap ss F T N aa an ac xs w hr hn ha
  · exact call_last a n cap ss F T N aa an ac xs w hr hn ha
  · exact call_sum a n cap ss F T N aa an ac xs w hr hn ha
  · exact call_avg a n cap ss F T N aa an ac xs w hr hn ha
  · exact call_stddev a n cap ss F T N aa an ac xs w hr hn ha
  · exact call_stdvar a n cap ss F T N aa an ac xs w hr hn ha
  · exact call_max a n cap ss F T N aa an ac xs w hr hn ha
  · exact call_min a n cap ss F T N aa an ac xs w hr hn ha
  · exact call_mad a n cap ss F T N aa an ac xs w hr hn ha
  · exact call_changes a n cap ss F T N aa an ac xs w hr hn ha
  · exact call_resets a n cap ss F T N aa an ac xs w hr hn ha
  · exact call_rate a n cap ss F T N aa an ac xs w hr hn ha
  · exact call_increase a n cap ss F T N aa an ac xs w hr hn ha
  · exact call_delta a n cap ss F T N aa an ac xs w hr hn ha
  · exact call_irate a n cap ss F T N aa an ac xs w hr hn ha
  · exact call_idelta a n cap ss F T N aa an ac xs w hr hn ha
  · exact call_deriv a n cap ss F T N aa an ac xs w hr hn ha
  · exact call_quantile a n cap ss F T N aa an ac xs w hr hn ha
  · exact call_predict a n cap ss F T N aa an ac xs w hr hn ha
  · exact call_smoothing a n cap ss F T N aa an ac xs w hr hn ha
  · exact call_beat a n cap ss F T N aa an ac xs w hr hn ha
end Go.Proofs.Ytoeldcgclaiokaa

