/- The small functions of weirlaw20; Known; unknown names. weirlaw20.made: the window is sound. -/
import Derived.Test.YtoeldcgclaiokaaCallB
import Derived.Deep.QuietTactic
import Derived.BigQuiet
namespace Go.Proofs.Ytoeldcgclaiokaa
open Go.Fl Go.Rel Go.RowKit
set_option linter.unusedVariables false
set_option linter.unusedSimpArgs false

theorem rule_field (x y f : Value) (w : World) : (Instr.field 49 (.agg #[x, y, f]) 2).run Try.prog w = .ok f w := by kernel_rfl

set_option maxHeartbeats 4000000 in
set_option maxRecDepth 100000 in
theorem known_of (nm : ByteArray) (p k : Nat) (g : FuncId) (G : Array Value → World → Prop) (HF : Hid (FoundT nm p k g G)) (w : World) : Calls Try.prog 14 #[.string nm] w (BoolB true w) := by
  have hfn : ∀ (caps : Array Value) (w : World), (binOp .neq 47 (.func (.func g) #[] caps) .nilFunc).run Try.prog w = .ok (.bool true) w := fun _ _ => by kernel_rfl
  have hfl := rule_field
  unfold FoundT at HF
  go_enter Try.func14, Try.ntmps14
  go_wp2_with (go_at_call 23; ((with_reducible refine (HF.out _).mono ?_); rintro e w1 ⟨caps, rfl, hG, b1⟩))
  go_ret
  exact ⟨rfl, b1⟩

theorem known_nm (m : Nm) (w : World) : Calls Try.prog 14 #[.string m.str] w (BoolB true w) := by
  cases m
  · exact known_of _ _ _ _ _ (plain_found (nm := (Nm.count).str) (f := 30) find_count_over_time) w
  · exact known_of _ _ _ _ _ (plain_found (nm := (Nm.present).str) (f := 31) find_present_over_time) w
  · exact known_of _ _ _ _ _ (plain_found (nm := (Nm.first).str) (f := 32) find_first_over_time) w
  · exact known_of _ _ _ _ _ (plain_found (nm := (Nm.last).str) (f := 33) find_last_over_time) w
  · exact known_of _ _ _ _ _ (plain_found (nm := (Nm.sum).str) (f := 34) find_sum_over_time) w
  · exact known_of _ _ _ _ _ (plain_found (nm := (Nm.avg).str) (f := 35) find_avg_over_time) w
  · exact known_of _ _ _ _ _ (plain_found (nm := (Nm.stddev).str) (f := 36) find_stddev_over_time) w
  · exact known_of _ _ _ _ _ (plain_found (nm := (Nm.stdvar).str) (f := 37) find_stdvar_over_time) w
  · exact known_of _ _ _ _ _ (plain_found (nm := (Nm.max).str) (f := 38) find_max_over_time) w
  · exact known_of _ _ _ _ _ (plain_found (nm := (Nm.min).str) (f := 40) find_min_over_time) w
  · exact known_of _ _ _ _ _ (plain_found (nm := (Nm.mad).str) (f := 41) find_mad_over_time) w
  · exact known_of _ _ _ _ _ (plain_found (nm := (Nm.changes).str) (f := 42) find_changes) w
  · exact known_of _ _ _ _ _ (plain_found (nm := (Nm.resets).str) (f := 43) find_resets) w
  · exact known_of _ _ _ _ _ (grow_found (nm := (Nm.rate).str) (c := true) (p := true) find_rate) w
  · exact known_of _ _ _ _ _ (grow_found (nm := (Nm.increase).str) (c := true) (p := false) find_increase) w
  · exact known_of _ _ _ _ _ (grow_found (nm := (Nm.delta).str) (c := false) (p := false) find_delta) w
  · exact known_of _ _ _ _ _ (last_found (nm := (Nm.irate).str) (c := true) find_irate) w
  · exact known_of _ _ _ _ _ (last_found (nm := (Nm.idelta).str) (c := false) find_idelta) w
  · exact known_of _ _ _ _ _ (rule_found (nm := (Nm.deriv).str) (p := 2) (k := 0) (f := 56) find_deriv) w
  · exact known_of _ _ _ _ _ (rule_found (nm := (Nm.quantile).str) (p := 1) (k := 1) (f := 58) find_quantile_over_time) w
  · exact known_of _ _ _ _ _ (rule_found (nm := (Nm.predict).str) (p := 2) (k := 1) (f := 59) find_predict_linear) w
  · exact known_of _ _ _ _ _ (rule_found (nm := (Nm.smoothing).str) (p := 2) (k := 2) (f := 60) find_double_exponential_smoothing) w
  · exact known_of _ _ _ _ _ (rule_found (nm := (Nm.beat).str) (p := 1) (k := 1) (f := 62) find_beat_over_time) w

def NoneRet (w : World) (e : Ending) (w' : World) : Prop := e = .returned (.agg #[.int .i64 0, .int .i64 0, .nilFunc]) ∧ Below w.heap.size w w'

set_option maxHeartbeats 4000000 in
set_option maxRecDepth 100000 in
theorem more_none (s : ByteArray) (hs : ∀ m : Nm, s.toList ≠ m.str.toList) (w : World) : Calls Try.prog 44 #[.string s] w (NoneRet w) := by
  have e0 : (s.toList == [114, 97, 116, 101]) = false := beq_eq_false_iff_ne.2 (by rw [← show (Nm.rate).str.toList = [114, 97, 116, 101] by kernel_rfl]; exact hs .rate)
  have e1 : (s.toList == [105, 110, 99, 114, 101, 97, 115, 101]) = false := beq_eq_false_iff_ne.2 (by rw [← show (Nm.increase).str.toList = [105, 110, 99, 114, 101, 97, 115, 101] by kernel_rfl]; exact hs .increase)
  have e2 : (s.toList == [100, 101, 108, 116, 97]) = false := beq_eq_false_iff_ne.2 (by rw [← show (Nm.delta).str.toList = [100, 101, 108, 116, 97] by kernel_rfl]; exact hs .delta)
  have e3 : (s.toList == [105, 114, 97, 116, 101]) = false := beq_eq_false_iff_ne.2 (by rw [← show (Nm.irate).str.toList = [105, 114, 97, 116, 101] by kernel_rfl]; exact hs .irate)
  have e4 : (s.toList == [105, 100, 101, 108, 116, 97]) = false := beq_eq_false_iff_ne.2 (by rw [← show (Nm.idelta).str.toList = [105, 100, 101, 108, 116, 97] by kernel_rfl]; exact hs .idelta)
  have e5 : (s.toList == [100, 101, 114, 105, 118]) = false := beq_eq_false_iff_ne.2 (by rw [← show (Nm.deriv).str.toList = [100, 101, 114, 105, 118] by kernel_rfl]; exact hs .deriv)
  have e6 : (s.toList == [113, 117, 97, 110, 116, 105, 108, 101, 95, 111, 118, 101, 114, 95, 116, 105, 109, 101]) = false := beq_eq_false_iff_ne.2 (by rw [← show (Nm.quantile).str.toList = [113, 117, 97, 110, 116, 105, 108, 101, 95, 111, 118, 101, 114, 95, 116, 105, 109, 101] by kernel_rfl]; exact hs .quantile)
  have e7 : (s.toList == [112, 114, 101, 100, 105, 99, 116, 95, 108, 105, 110, 101, 97, 114]) = false := beq_eq_false_iff_ne.2 (by rw [← show (Nm.predict).str.toList = [112, 114, 101, 100, 105, 99, 116, 95, 108, 105, 110, 101, 97, 114] by kernel_rfl]; exact hs .predict)
  have e8 : (s.toList == [100, 111, 117, 98, 108, 101, 95, 101, 120, 112, 111, 110, 101, 110, 116, 105, 97, 108, 95, 115, 109, 111, 111, 116, 104, 105, 110, 103]) = false := beq_eq_false_iff_ne.2 (by rw [← show (Nm.smoothing).str.toList = [100, 111, 117, 98, 108, 101, 95, 101, 120, 112, 111, 110, 101, 110, 116, 105, 97, 108, 95, 115, 109, 111, 111, 116, 104, 105, 110, 103] by kernel_rfl]; exact hs .smoothing)
  have e9 : (s.toList == [98, 101, 97, 116, 95, 111, 118, 101, 114, 95, 116, 105, 109, 101]) = false := beq_eq_false_iff_ne.2 (by rw [← show (Nm.beat).str.toList = [98, 101, 97, 116, 95, 111, 118, 101, 114, 95, 116, 105, 109, 101] by kernel_rfl]; exact hs .beat)
  clear hs
  go_enter Try.func44, Try.ntmps44
  have HM : Hid (Bk.Is (w.alloc (.cells #[.int .i64 0, .int .i64 0, .nilFunc] 49)) w.heap.size #[.int .i64 0, .int .i64 0, .nilFunc] 49) := Bk.Is.made w _ _
  go_wp2_with (refine Bk.is_store 49 rfl ?_; refine wpList_store_row rfl 49 _ _ rfl w.heap.size #[.int .i64 0, .int .i64 0, .nilFunc] rfl rfl 49 #[.int .i64 0, .int .i64 0, .nilFunc] HM.out (by kernel_rfl) rfl (by kernel_rfl) ?_)
  refine Bk.ret_block (HM.out.setRow _) rfl rfl Try.underlying49 rfl (by kernel_rfl) rfl ?_
  exact ⟨rfl, Bk.below_setRow ((Below.refl _ _).alloc (Nat.le_refl _) _) (Nat.le_refl _) _⟩

set_option maxHeartbeats 4000000 in
set_option maxRecDepth 100000 in
theorem find_none (s : ByteArray) (hs : ∀ m : Nm, s.toList ≠ m.str.toList) (w : World) : Calls Try.prog 23 #[.string s] w (NoneRet w) := by
  have HP := Lib.hid (more_none s hs)
  have e0 : (s.toList == [99, 111, 117, 110, 116, 95, 111, 118, 101, 114, 95, 116, 105, 109, 101]) = false := beq_eq_false_iff_ne.2 (by rw [← show (Nm.count).str.toList = [99, 111, 117, 110, 116, 95, 111, 118, 101, 114, 95, 116, 105, 109, 101] by kernel_rfl]; exact hs .count)
  have e1 : (s.toList == [112, 114, 101, 115, 101, 110, 116, 95, 111, 118, 101, 114, 95, 116, 105, 109, 101]) = false := beq_eq_false_iff_ne.2 (by rw [← show (Nm.present).str.toList = [112, 114, 101, 115, 101, 110, 116, 95, 111, 118, 101, 114, 95, 116, 105, 109, 101] by kernel_rfl]; exact hs .present)
  have e2 : (s.toList == [102, 105, 114, 115, 116, 95, 111, 118, 101, 114, 95, 116, 105, 109, 101]) = false := beq_eq_false_iff_ne.2 (by rw [← show (Nm.first).str.toList = [102, 105, 114, 115, 116, 95, 111, 118, 101, 114, 95, 116, 105, 109, 101] by kernel_rfl]; exact hs .first)
  have e3 : (s.toList == [108, 97, 115, 116, 95, 111, 118, 101, 114, 95, 116, 105, 109, 101]) = false := beq_eq_false_iff_ne.2 (by rw [← show (Nm.last).str.toList = [108, 97, 115, 116, 95, 111, 118, 101, 114, 95, 116, 105, 109, 101] by kernel_rfl]; exact hs .last)
  have e4 : (s.toList == [115, 117, 109, 95, 111, 118, 101, 114, 95, 116, 105, 109, 101]) = false := beq_eq_false_iff_ne.2 (by rw [← show (Nm.sum).str.toList = [115, 117, 109, 95, 111, 118, 101, 114, 95, 116, 105, 109, 101] by kernel_rfl]; exact hs .sum)
  have e5 : (s.toList == [97, 118, 103, 95, 111, 118, 101, 114, 95, 116, 105, 109, 101]) = false := beq_eq_false_iff_ne.2 (by rw [← show (Nm.avg).str.toList = [97, 118, 103, 95, 111, 118, 101, 114, 95, 116, 105, 109, 101] by kernel_rfl]; exact hs .avg)
  have e6 : (s.toList == [115, 116, 100, 100, 101, 118, 95, 111, 118, 101, 114, 95, 116, 105, 109, 101]) = false := beq_eq_false_iff_ne.2 (by rw [← show (Nm.stddev).str.toList = [115, 116, 100, 100, 101, 118, 95, 111, 118, 101, 114, 95, 116, 105, 109, 101] by kernel_rfl]; exact hs .stddev)
  have e7 : (s.toList == [115, 116, 100, 118, 97, 114, 95, 111, 118, 101, 114, 95, 116, 105, 109, 101]) = false := beq_eq_false_iff_ne.2 (by rw [← show (Nm.stdvar).str.toList = [115, 116, 100, 118, 97, 114, 95, 111, 118, 101, 114, 95, 116, 105, 109, 101] by kernel_rfl]; exact hs .stdvar)
  have e8 : (s.toList == [109, 97, 120, 95, 111, 118, 101, 114, 95, 116, 105, 109, 101]) = false := beq_eq_false_iff_ne.2 (by rw [← show (Nm.max).str.toList = [109, 97, 120, 95, 111, 118, 101, 114, 95, 116, 105, 109, 101] by kernel_rfl]; exact hs .max)
  have e9 : (s.toList == [109, 105, 110, 95, 111, 118, 101, 114, 95, 116, 105, 109, 101]) = false := beq_eq_false_iff_ne.2 (by rw [← show (Nm.min).str.toList = [109, 105, 110, 95, 111, 118, 101, 114, 95, 116, 105, 109, 101] by kernel_rfl]; exact hs .min)
  have e10 : (s.toList == [109, 97, 100, 95, 111, 118, 101, 114, 95, 116, 105, 109, 101]) = false := beq_eq_false_iff_ne.2 (by rw [← show (Nm.mad).str.toList = [109, 97, 100, 95, 111, 118, 101, 114, 95, 116, 105, 109, 101] by kernel_rfl]; exact hs .mad)
  have e11 : (s.toList == [99, 104, 97, 110, 103, 101, 115]) = false := beq_eq_false_iff_ne.2 (by rw [← show (Nm.changes).str.toList = [99, 104, 97, 110, 103, 101, 115] by kernel_rfl]; exact hs .changes)
  have e12 : (s.toList == [114, 101, 115, 101, 116, 115]) = false := beq_eq_false_iff_ne.2 (by rw [← show (Nm.resets).str.toList = [114, 101, 115, 101, 116, 115] by kernel_rfl]; exact hs .resets)
  clear hs
  go_enter Try.func23, Try.ntmps23
  have HM : Hid (Bk.Is (w.alloc (.cells #[.int .i64 0, .int .i64 0, .nilFunc] 49)) w.heap.size #[.int .i64 0, .int .i64 0, .nilFunc] 49) := Bk.Is.made w _ _
  go_wp2_with (first | (go_at_call 44; ((with_reducible refine (HP.out _).mono ?_); rintro e w1 ⟨rfl, b1⟩; have HI := Lib.hid (HM.out.below b1 (by simp)); have B1 := Lib.hid b1; clear b1)) | (refine Bk.is_store 49 rfl ?_; refine wpList_store_row rfl 49 _ _ rfl w.heap.size #[.int .i64 0, .int .i64 0, .nilFunc] rfl rfl 49 #[.int .i64 0, .int .i64 0, .nilFunc] HI.out (by kernel_rfl) rfl (by kernel_rfl) ?_))
  refine Bk.ret_block (HI.out.setRow _) rfl rfl Try.underlying49 rfl (by kernel_rfl) rfl ?_
  exact ⟨rfl, Bk.below_setRow (((Below.refl _ _).alloc (Nat.le_refl _) _).trans (B1.out.mono (by simp))) (Nat.le_refl _) _⟩

set_option maxHeartbeats 4000000 in
set_option maxRecDepth 100000 in
theorem known_none (s : ByteArray) (hs : ∀ m : Nm, s.toList ≠ m.str.toList) (w : World) : Calls Try.prog 14 #[.string s] w (BoolB false w) := by
  have HP := Lib.hid (find_none s hs)
  have hfn : ∀ (w : World), (binOp .neq 47 .nilFunc .nilFunc).run Try.prog w = .ok (.bool false) w := fun _ => by kernel_rfl
  have hfl := rule_field
  clear hs
  go_enter Try.func14, Try.ntmps14
  go_wp2_with (go_at_call 23; ((with_reducible refine (HP.out _).mono ?_); rintro e w1 ⟨rfl, b1⟩))
  go_ret
  exact ⟨rfl, b1⟩

set_option maxRecDepth 100000 in
theorem four_any (x y z u : Nat) (w : World) : Calls Try.prog 13 #[.float .f64 x, .float .f64 y, .float .f64 z, .float .f64 u] w fun e w' => ∃ B : Nat, e = .returned (.agg #[.slice (some ⟨B, 0, none⟩) 4 4, .int .i64 0, .int .i64 60000, .int .i64 60000]) ∧ SRow w' (some ⟨B, 0, none⟩) 4 [⟨15000, x, false⟩, ⟨30000, y, false⟩, ⟨45000, z, false⟩, ⟨60000, u, false⟩] ∧ Below w.heap.size w w' := by
  go_enter Try.func13, Try.ntmps13
  go_wp2_with fail
  refine Bk.ret_block ((Bk.Is.made w #[.slice (some ⟨w.heap.size + 1, 0, none⟩) 4 4, .int .i64 0, .int .i64 60000, .int .i64 60000] 30).alloc _) rfl rfl Try.underlying30 rfl (by kernel_rfl) rfl ?_
  refine ⟨w.heap.size + 1, rfl, ⟨rfl, by omega, fun i => ?_, fun _ => ⟨_, _, rfl, fun i hi => ?_⟩⟩, ((Below.refl _ _).alloc (Nat.le_refl _) _).alloc (by simp) _⟩
  · match i with
    | 0 | 1 | 2 | 3 => simp [tS, sAt]
    | n + 4 => simp [tS, sAt, List.getD]
  · have hI := Bk.Is.made (w.alloc (.cells #[.slice (some ⟨w.heap.size + 1, 0, none⟩) 4 4, .int .i64 0, .int .i64 60000, .int .i64 60000] 30)) #[.int .i64 15000, .float .f64 x, .bool false, .int .i64 30000, .float .f64 y, .bool false, .int .i64 45000, .float .f64 z, .bool false, .int .i64 60000, .float .f64 u, .bool false] 45
    rw [show (w.alloc (.cells #[.slice (some ⟨w.heap.size + 1, 0, none⟩) 4 4, .int .i64 0, .int .i64 60000, .int .i64 60000] 30)).heap.size = w.heap.size + 1 by simp] at hI
    match i, hi with
    | 0, _ | 1, _ | 2, _ | 3, _ => exact ⟨by rw [hI.cell]; rfl, by rw [hI.cell]; rfl, by rw [hI.cell]; rfl⟩

theorem same_any (x y : Nat) (w : World) : Calls Try.prog 17 #[.float .f64 x, .float .f64 y] w fun e w' => e = .returned (.bool (cn x == cn y)) ∧ w = w' := by
  have hx : (FloatKind.f64.format.order x x != some .eq) = isN x := ne_self x
  have hy : (FloatKind.f64.format.order y y != some .eq) = isN y := ne_self y
  have hb := bits_run x
  have hb' := bits_run y
  have key : (cn x == cn y) = ((x : Int) == (y : Int) || isN x && isN y) := by
    rw [Bool.eq_iff_iff, beq_iff_eq, cn_eq_iff]; simp [Int.natCast_inj, or_comm]
  have Key := Lib.hid key
  clear key
  go_enter Try.func17, Try.ntmps17
  go_wp2_with (first | simp only [hb] | simp only [hb'])
  all_goals
    go_ret
    refine ⟨?_, rfl⟩
    rw [Key.out]
    simp [*]

/-- The names in the law's order. -/
def nmL : List Nm := [.avg, .beat, .changes, .count, .delta, .deriv, .smoothing, .first, .idelta, .increase, .irate, .last, .mad, .max, .min, .predict, .present, .quantile, .rate, .resets, .stddev, .stdvar, .sum]
def nmAt (i : Nat) : Nm := nmL.getD i .avg

set_option maxRecDepth 100000 in
theorem names_any (w : World) : Calls Try.prog 11 #[] w fun e w' => ∃ B : Nat, e = .returned (.slice (some ⟨B, 0, none⟩) 23 23) ∧ w.heap.size ≤ B ∧ (∀ i, i < 23 → w'.cell? ⟨B, i, none⟩ = some (.string (nmAt i).str)) ∧ Below w.heap.size w w' := by
  go_enter Try.func11, Try.ntmps11
  go_wp2_with fail
  go_ret
  refine ⟨w.heap.size, rfl, Nat.le_refl _, fun i hi => ?_, (Below.refl _ _).alloc (Nat.le_refl _) _⟩
  rw [World.cell?_alloc_at _ _ _ _ rfl]
  match i, hi with
  | 0, _ => rfl
  | 1, _ => rfl
  | 2, _ => rfl
  | 3, _ => rfl
  | 4, _ => rfl
  | 5, _ => rfl
  | 6, _ => rfl
  | 7, _ => rfl
  | 8, _ => rfl
  | 9, _ => rfl
  | 10, _ => rfl
  | 11, _ => rfl
  | 12, _ => rfl
  | 13, _ => rfl
  | 14, _ => rfl
  | 15, _ => rfl
  | 16, _ => rfl
  | 17, _ => rfl
  | 18, _ => rfl
  | 19, _ => rfl
  | 20, _ => rfl
  | 21, _ => rfl
  | 22, _ => rfl
  | n + 23, h => omega

def ss4 : List Smp := [⟨15000, 4607182418800017408, false⟩, ⟨30000, 4611686018427387904, false⟩, ⟨45000, 4613937818241073152, false⟩, ⟨60000, 4616189618054758400, false⟩]
def ss5 : List Smp := [⟨15000, 4617315517961601024, false⟩, ⟨30000, 4607182418800017408, false⟩, ⟨45000, 4611686018427387904, false⟩, ⟨60000, 4613937818241073152, false⟩]
theorem al1 : callO .increase ss4 4 0 60000 60000 0 [] = some 4616189618054758400 := by decide +kernel
theorem al2 : callO .sum ss4 4 0 60000 60000 0 [] = some 4621819117588971520 := by decide +kernel
theorem al3 : extO ss4 4 0 60000 60000 false false = some 4616189618054758400 := by decide +kernel
theorem al4 : instO ss5 4 0 60000 60000 false = some 4607182418800017408 := by decide +kernel
theorem al5 : callO .rate [] 0 0 5 0 0 [] = none := by decide +kernel
theorem al6 : ∀ m : Nm, (⟨#[82, 97, 116, 101]⟩ : ByteArray).toList ≠ m.str.toList := by intro m; cases m <;> decide +kernel

def Val (c : Nat) (w : World) (e : Ending) (w' : World) : Prop := e = .returned (.tuple #[.float .f64 c, .bool true]) ∧ Below w.heap.size w w'
theorem OptRet.val {c : Nat} {w : World} {e : Ending} {w' : World} (hc : isN c = false) (h : OptRet (some c) w e w') : Val c w e w' := by
  obtain ⟨r, h1, h2, h3⟩ := h
  rw [eq_of_cn h2 hc] at h1
  exact ⟨h1, h3⟩
theorem row_none (w : World) : Row w none 0 [] := ⟨rfl, by omega, fun h => by omega⟩
theorem srow_none (w : World) : SRow w none 0 [] := ⟨rfl, by omega, fun i => by simp [tS, sAt], fun h => by omega⟩

def AlSt (w : World) (B R : Nat) (W : World) : Prop := Below w.heap.size w W ∧ Bk.Is W R #[.slice (some ⟨B, 0, none⟩) 4 4, .int .i64 0, .int .i64 60000, .int .i64 60000] 30 ∧ SRow W (some ⟨B, 0, none⟩) 4 ss4
theorem AlSt.below {w : World} {B R : Nat} {W W' : World} (h : AlSt w B R W) (hb : Below W.heap.size W W') : AlSt w B R W' := ⟨h.1.trans (hb.mono h.1.size), h.2.1.below hb h.2.1.lt, h.2.2.below hb⟩
theorem AlSt.bel {w : World} {B R : Nat} {W : World} (h : AlSt w B R W) : Below w.heap.size w W := h.1
theorem AlSt.row {w : World} {B R : Nat} {W : World} (h : AlSt w B R W) : SRow W (some ⟨B, 0, none⟩) 4 ss4 := h.2.2
theorem AlSt.cells {w : World} {B R : Nat} {W : World} (h : AlSt w B R W) : W.cell? ⟨R, 0, none⟩ = some (.slice (some ⟨B, 0, none⟩) 4 4) ∧ W.cell? ⟨R, 1, none⟩ = some (.int .i64 0) ∧ W.cell? ⟨R, 2, none⟩ = some (.int .i64 60000) ∧ W.cell? ⟨R, 3, none⟩ = some (.int .i64 60000) := by
  have h4 := h.2.1
  exact ⟨by rw [h4.cell]; rfl, by rw [h4.cell]; rfl, by rw [h4.cell]; rfl, by rw [h4.cell]; rfl⟩
theorem alSt_made {w w1 : World} {B : Nat} (hs : SRow w1 (some ⟨B, 0, none⟩) 4 ss4) (b1 : Below w.heap.size w w1) : AlSt w B w1.heap.size (w1.alloc (.cells #[.slice (some ⟨B, 0, none⟩) 4 4, .int .i64 0, .int .i64 60000, .int .i64 60000] 30)) :=
  ⟨b1.alloc b1.size _, Bk.Is.made w1 _ _, hs.below ((Below.refl _ _).alloc (Nat.le_refl _) _)⟩

set_option maxHeartbeats 4000000 in
set_option maxRecDepth 100000 in
theorem alive_any (w : World) : Calls Try.prog 10 #[] w (BoolB true w) := by
  have H1 : Hid (∀ B W, SRow W (some ⟨B, 0, none⟩) 4 ss4 → Calls Try.prog 12 #[.string ⟨#[105, 110, 99, 114, 101, 97, 115, 101]⟩, .agg #[.slice (some ⟨B, 0, none⟩) 4 4, .int .i64 0, .int .i64 60000, .int .i64 60000], .slice none 0 0] W (Val 4616189618054758400 W)) := fun B W h =>
    (call_nm .increase (some ⟨B, 0, none⟩) 4 4 ss4 0 60000 60000 none 0 0 [] W h (by omega) (row_none W)).mono fun e w' hh => by rw [show ([] : List Nat).map cn = [] from rfl, al1] at hh; exact OptRet.val (by decide +kernel) hh
  have H2 : Hid (∀ B W, SRow W (some ⟨B, 0, none⟩) 4 ss4 → Calls Try.prog 12 #[.string ⟨#[115, 117, 109, 95, 111, 118, 101, 114, 95, 116, 105, 109, 101]⟩, .agg #[.slice (some ⟨B, 0, none⟩) 4 4, .int .i64 0, .int .i64 60000, .int .i64 60000], .slice none 0 0] W (Val 4621819117588971520 W)) := fun B W h =>
    (call_nm .sum (some ⟨B, 0, none⟩) 4 4 ss4 0 60000 60000 none 0 0 [] W h (by omega) (row_none W)).mono fun e w' hh => by rw [show ([] : List Nat).map cn = [] from rfl, al2] at hh; exact OptRet.val (by decide +kernel) hh
  have H3 : Hid (∀ B W, SRow W (some ⟨B, 0, none⟩) 4 ss4 → Calls Try.prog 16 #[.agg #[.slice (some ⟨B, 0, none⟩) 4 4, .int .i64 0, .int .i64 60000, .int .i64 60000], .bool false, .bool false] W (Val 4616189618054758400 W)) := fun B W h =>
    (ext_any (some ⟨B, 0, none⟩) 4 4 ss4 0 60000 60000 false false W h).mono fun e w' hh => by rw [al3] at hh; exact OptRet.val (by decide +kernel) hh
  have H4 : Hid (∀ B W, SRow W (some ⟨B, 0, none⟩) 4 ss5 → Calls Try.prog 19 #[.agg #[.slice (some ⟨B, 0, none⟩) 4 4, .int .i64 0, .int .i64 60000, .int .i64 60000], .bool false] W (Val 4607182418800017408 W)) := fun B W h =>
    (inst_any (some ⟨B, 0, none⟩) 4 4 ss5 0 60000 60000 false W h).mono fun e w' hh => by rw [al4] at hh; exact OptRet.val (by decide +kernel) hh
  have H5 : Hid (∀ W, Calls Try.prog 12 #[.string ⟨#[114, 97, 116, 101]⟩, .agg #[.slice none 0 0, .int .i64 0, .int .i64 5, .int .i64 0], .slice none 0 0] W (fun e w' => e = .returned (.tuple #[.float .f64 0, .bool false]) ∧ Below W.heap.size W w')) := fun W =>
    (call_nm .rate none 0 0 [] 0 5 0 none 0 0 [] W (srow_none W) (by omega) (row_none W)).mono fun e w' hh => by rw [show ([] : List Nat).map cn = [] from rfl, al5] at hh; exact hh
  have H6 : Hid (∀ W, Calls Try.prog 14 #[.string ⟨#[114, 97, 116, 101]⟩] W (BoolB true W)) := fun W => known_nm .rate W
  have H7 : Hid (∀ W, Calls Try.prog 14 #[.string ⟨#[82, 97, 116, 101]⟩] W (BoolB false W)) := fun W => known_none _ al6 W
  go_enter Try.func10, Try.ntmps10
  have o1 : (FloatKind.f64.format.order 4616189618054758400 4616189618054758400 != some .eq) = false := by decide +kernel
  have o2 : (FloatKind.f64.format.order 4621819117588971520 4621819117588971520 != some .eq) = false := by decide +kernel
  have o3 : (FloatKind.f64.format.order 4607182418800017408 4607182418800017408 != some .eq) = false := by decide +kernel
  have tok1 : True := trivial
  go_wp2_with (first
    | (go_at_call 13; have _t := tok1; clear tok1 _t; ((with_reducible refine (four_any _ _ _ _ _).mono ?_); rintro e w1 ⟨B, rfl, hs, b1⟩; have ST1 := Lib.hid (alSt_made hs b1); clear hs b1))
    | (go_at_call 12; ((with_reducible refine (H1.out _ _ ST1.out.row).mono ?_); rintro e w2 ⟨rfl, b2⟩; have ST2 := Lib.hid (ST1.out.below b2); clear b2; obtain ⟨c20, c21, c22, c23⟩ := ST2.out.cells))
    | (go_at_call 12; ((with_reducible refine (H2.out _ _ ST2.out.row).mono ?_); rintro e w3 ⟨rfl, b3⟩; have ST3 := Lib.hid (ST2.out.below b3); clear b3; obtain ⟨c30, c31, c32, c33⟩ := ST3.out.cells))
    | (go_at_call 16; ((with_reducible refine (H3.out _ _ ST3.out.row).mono ?_); rintro e w4 ⟨rfl, b4⟩; have B4 := Lib.hid (ST3.out.below b4).bel; clear b4))
    | (go_at_call 13; ((with_reducible refine (four_any _ _ _ _ _).mono ?_); rintro e w5 ⟨C, rfl, hs5, b5⟩; have HS5 := Lib.hid hs5; have B5 := Lib.hid (B4.out.trans (b5.mono B4.out.size)); clear hs5 b5))
    | (go_at_call 19; ((with_reducible refine (H4.out _ _ HS5.out).mono ?_); rintro e w6 ⟨rfl, b6⟩; have B6 := Lib.hid (B5.out.trans (b6.mono B5.out.size)); clear b6))
    | (go_at_call 12; ((with_reducible refine (H5.out _).mono ?_); rintro e w7 ⟨rfl, b7⟩; have B7 := Lib.hid (B6.out.trans (b7.mono B6.out.size)); clear b7))
    | (go_at_call 14; ((with_reducible refine (H6.out _).mono ?_); rintro e w8 ⟨rfl, b8⟩; have B8 := Lib.hid (B7.out.trans (b8.mono B7.out.size)); clear b8))
    | (go_at_call 14; ((with_reducible refine (H7.out _).mono ?_); rintro e w9 ⟨rfl, b9⟩; have B9 := Lib.hid (B8.out.trans (b9.mono B8.out.size)); clear b9)))
  go_ret
  exact ⟨rfl, B9.out⟩
end Go.Proofs.Ytoeldcgclaiokaa

namespace Go.Proofs.Ytoeldcgclaiokaa
open Go.Fl Go.Rel Go.RowKit
set_option linter.unusedVariables false
set_option linter.unusedSimpArgs false

theorem okK_step {F : Int} {ss : List Smp} {k : Nat} (h : okK F ss (k + 1) = true) : okK F ss k = true ∧ sS ss k = false ∧ lastT F ss k < tS ss k := by
  rw [okK, Bool.and_eq_true, Bool.and_eq_true, decide_eq_true_eq] at h
  exact ⟨h.1, by simpa using h.2.1, h.2.2⟩
theorem lastT_succ (F : Int) (ss : List Smp) (k : Nat) : lastT F ss (k + 1) = tS ss k := rfl
theorem lastT_ge {F : Int} {ss : List Smp} : ∀ {k : Nat}, okK F ss k = true → F ≤ lastT F ss k
  | 0, _ => Int.le_refl _
  | k + 1, h => by
    have ⟨h1, _, h3⟩ := okK_step h
    have := lastT_ge h1
    rw [lastT_succ]; omega
theorem lastT_mono {F : Int} {ss : List Smp} {j : Nat} : ∀ {k : Nat}, j ≤ k → okK F ss k = true → lastT F ss j ≤ lastT F ss k
  | 0, h, _ => by obtain rfl : j = 0 := by omega
                  exact Int.le_refl _
  | k + 1, h, hk => by
    by_cases e : j = k + 1
    · subst e; exact Int.le_refl _
    · have ⟨h1, _, h3⟩ := okK_step hk
      have := lastT_mono (j := j) (k := k) (by omega) h1
      rw [lastT_succ]; omega
/-- A point beyond the end: the window is not sound. -/
theorem snd_late {F T N : Int} {ss : List Smp} {n k : Nat} (hk : k < n) (h : T < tS ss k) : sndB F T N ss n = false := by
  cases hs : sndB F T N ss n with
  | false => rfl
  | true =>
    unfold sndB at hs
    rw [Bool.and_eq_true, Bool.and_eq_true, decide_eq_true_eq] at hs
    have := lastT_mono (F := F) (ss := ss) (j := k + 1) (k := n) hk hs.2.1
    rw [lastT_succ] at this
    omega

def MadeRel (F T : Int) (ss : List Smp) (n : Nat) (W1 : World) (vi : Value) (wr : World) : Prop :=
  ∃ k : Nat, k ≤ n ∧ vi = .int .i64 (k : Int) ∧ okK F ss k = true ∧ lastT F ss k ≤ T ∧ Below W1.heap.size W1 wr

set_option maxHeartbeats 4000000 in
set_option maxRecDepth 100000 in
theorem made_any (a : Option Addr) (n cap : Nat) (ss : List Smp) (F T N : Int) (w : World) (hr : SRow w a n ss) (hn : n < 17592186044416) :
    Calls Try.prog 20 #[winV a n cap F T N] w (BoolB (sndB F T N ss n) w) := by
  by_cases c0 : F < -9007199254740992
  · have HB : Hid (sndB F T N ss n = false) := snd_far (decide_eq_false (by omega))
    have d0 : decide (F < -9007199254740992) = true := decide_eq_true c0
    clear c0
    go_enter Try.func20, Try.ntmps20
    go_wp2_with fail
    go_ret
    exact ⟨by rw [HB.out]; rfl, (Below.refl _ _).alloc (Nat.le_refl _) _⟩
  have d0 : decide (F < -9007199254740992) = false := decide_eq_false c0
  by_cases c1 : 9007199254740992 < T
  · have HB : Hid (sndB F T N ss n = false) := snd_far (decide_eq_false (by omega))
    have d1 : decide (9007199254740992 < T) = true := decide_eq_true c1
    clear c0 c1
    go_enter Try.func20, Try.ntmps20
    go_wp2_with fail
    go_ret
    exact ⟨by rw [HB.out]; rfl, (Below.refl _ _).alloc (Nat.le_refl _) _⟩
  have d1 : decide (9007199254740992 < T) = false := decide_eq_false c1
  by_cases c2 : T < F
  · have HB : Hid (sndB F T N ss n = false) := snd_far (decide_eq_false (by omega))
    have d2 : decide (T < F) = true := decide_eq_true c2
    clear c0 c1 c2
    go_enter Try.func20, Try.ntmps20
    go_wp2_with fail
    go_ret
    exact ⟨by rw [HB.out]; rfl, (Below.refl _ _).alloc (Nat.le_refl _) _⟩
  have d2 : decide (T < F) = false := decide_eq_false c2
  by_cases c3 : N < -9007199254740992
  · have HB : Hid (sndB F T N ss n = false) := snd_far (decide_eq_false (by omega))
    have d3 : decide (N < -9007199254740992) = true := decide_eq_true c3
    clear c0 c1 c2 c3
    go_enter Try.func20, Try.ntmps20
    go_wp2_with fail
    go_ret
    exact ⟨by rw [HB.out]; rfl, (Below.refl _ _).alloc (Nat.le_refl _) _⟩
  have d3 : decide (N < -9007199254740992) = false := decide_eq_false c3
  by_cases c4 : 9007199254740992 < N
  · have HB : Hid (sndB F T N ss n = false) := snd_far (decide_eq_false (by omega))
    have d4 : decide (9007199254740992 < N) = true := decide_eq_true c4
    clear c0 c1 c2 c3 c4
    go_enter Try.func20, Try.ntmps20
    go_wp2_with fail
    go_ret
    exact ⟨by rw [HB.out]; rfl, (Below.refl _ _).alloc (Nat.le_refl _) _⟩
  have d4 : decide (9007199254740992 < N) = false := decide_eq_false c4
  have HFAR : Hid (farB F T N = true) := decide_eq_true (by omega)
  obtain ⟨W1, hW1⟩ : ∃ W1, W1 = w.alloc (.cells #[.slice a n cap, .int .i64 F, .int .i64 T, .int .i64 N] 30) := ⟨_, rfl⟩
  have hb1 : Below w.heap.size w W1 := by rw [hW1]; exact (Below.refl _ _).alloc (Nat.le_refl _) _
  have HI1 : Hid (Bk.Is W1 w.heap.size #[.slice a n cap, .int .i64 F, .int .i64 T, .int .i64 N] 30) := by show Bk.Is _ _ _ _; rw [hW1]; exact Bk.Is.made w _ _
  have HR1 := Lib.hid (hr.below hb1)
  have HW1 := Lib.hid hW1
  have HB1 := Lib.hid hb1
  have HFT : Hid (F ≤ T) := by show F ≤ T; omega
  clear hr c0 c1 c2 c3 c4 hb1 hW1
  go_enter Try.func20, Try.ntmps20
  go_wp2_with fail
  rw [← HW1.out]
  go_loopw [3] (MadeRel F T ss n W1) (fun vi _ => n - (intOf vi).toNat)
  case atStart => exact ⟨0, by omega, rfl, rfl, HFT.out, Below.refl _ _⟩
  case round =>
    obtain ⟨k, hk, rfl, hok, hlate, bw⟩ := hrel
    have HIW := HI1.out.below bw HI1.out.lt
    have cw0 : wr.cell? ⟨w.heap.size, 0, none⟩ = some (.slice a n cap) := by rw [HIW.cell]; rfl
    have cw1 : wr.cell? ⟨w.heap.size, 1, none⟩ = some (.int .i64 F) := by rw [HIW.cell]; rfl
    have cw2 : wr.cell? ⟨w.heap.size, 2, none⟩ = some (.int .i64 T) := by rw [HIW.cell]; rfl
    have HOK := Lib.hid hok
    have HLATE := Lib.hid hlate
    have BW := Lib.hid bw
    have HGE := Lib.hid (lastT_ge hok)
    clear hok hlate HIW
    by_cases hkn : k < n
    · have HRW := HR1.out.below bw
      obtain ⟨b, off, ha, hcell⟩ := HRW.2.2.2 (by omega)
      subst ha
      obtain ⟨e0, e1, e2⟩ := hcell k hkn
      have HKS : Hid (okK F ss (k + 1) = (okK F ss k && (!sS ss k && decide (lastT F ss k < tS ss k)))) := rfl
      obtain ⟨tk, htk⟩ : ∃ q, q = tS ss k := ⟨_, rfl⟩
      obtain ⟨vk, hvk⟩ : ∃ q, q = vS ss k := ⟨_, rfl⟩
      obtain ⟨st, hst⟩ : ∃ q, q = sS ss k := ⟨_, rfl⟩
      have HTK := Lib.hid htk
      have HST := Lib.hid hst
      rw [← htk] at e0
      rw [← hvk] at e1
      rw [← hst] at e2
      have hsz := bw.size
      have OLD : ∀ (q : Addr) v, wr.cell? q = some v → (wr.alloc (.cells #[.int .i64 tk, .float .f64 vk, .bool st] 45)).cell? q = some v := fun q v h => cell_old h _
      have g0 := OLD _ _ cw0
      have g1 := OLD _ _ cw1
      have g2 := OLD _ _ cw2
      have BAD : Hid (okK F ss (k + 1) = false → sndB F T N ss n = false) := fun h => snd_bad (j := k + 1) (by omega) h
      have GOOD : Hid (∀ w2, w2.heap.size = wr.heap.size + 1 → Below W1.heap.size W1 w2 → st = false → lastT F ss k < tk → tk ≤ T → MadeRel F T ss n W1 (.int .i64 ((k + 1 : Nat) : Int)) w2) := fun w2 _ hb2 h1 h2 h3 =>
        ⟨k + 1, by omega, rfl, by rw [HKS.out, HOK.out, ← HST.out, h1, ← HTK.out, decide_eq_true h2]; rfl, by rw [lastT_succ, ← HTK.out]; exact h3, hb2⟩
      have b2 := Lib.hid (bw.alloc hsz (.cells #[.int .i64 tk, .float .f64 vk, .bool st] 45))
      clear hvk
      cases st with
      | true =>
        have HRES : Hid (sndB F T N ss n = false) := BAD.out (by rw [HKS.out, ← HST.out]; simp)
        clear hcell HRW htk hst bw OLD hk
        go_wp2_with fail
        go_quiet (fail)
        go_wp2_with fail
        go_ret
        exact ⟨by rw [HRES.out]; rfl, HB1.out.trans ((b2.out.drewN' _).mono HB1.out.size)⟩
      | false =>
        by_cases h3 : T < tk
        · have HRES : Hid (sndB F T N ss n = false) := snd_late hkn (by rw [← HTK.out]; exact h3)
          have dd : decide (T < tk) = true := decide_eq_true h3
          clear hcell HRW htk hst bw OLD hk h3
          go_wp2_with fail
          go_quiet (fail)
          go_wp2_with fail
          go_ret
          exact ⟨by rw [HRES.out]; rfl, HB1.out.trans ((b2.out.drewN' _).mono HB1.out.size)⟩
        · have dd : decide (T < tk) = false := decide_eq_false h3
          by_cases h4 : tk ≤ F
          · have HRES : Hid (sndB F T N ss n = false) := BAD.out (by rw [HKS.out, ← HTK.out, decide_eq_false (by have := HGE.out; omega)]; simp)
            have dd2 : decide (tk ≤ F) = true := decide_eq_true h4
            clear hcell HRW htk hst bw OLD hk h3 h4
            go_wp2_with fail
            go_quiet (fail)
            go_wp2_with fail
            go_ret
            exact ⟨by rw [HRES.out]; rfl, HB1.out.trans ((b2.out.drewN' _).mono HB1.out.size)⟩
          · have dd2 : decide (tk ≤ F) = false := decide_eq_false h4
            by_cases h5 : k = 0
            · subst h5
              simp only [Nat.zero_mul, Nat.add_zero] at e0 e1 e2
              have HLT : Hid (lastT F ss 0 < tk) := by show F < tk; omega
              have HTT : Hid (tk ≤ T) := by show tk ≤ T; omega
              clear hcell HRW htk hst bw OLD h3 h4
              go_wp2_with fail
              go_quiet (fail)
              go_wp2_with fail
              go_roundw
              case rel => exact GOOD.out _ (by simp) (b2.out.drewN' _) trivial HLT.out HTT.out
              case measure => simp [intOf]; omega
            · obtain ⟨m, rfl⟩ : ∃ m, k = m + 1 := ⟨k - 1, by omega⟩
              have p0 := (hcell m (by omega)).1
              obtain ⟨tm, htm⟩ : ∃ q, q = tS ss m := ⟨_, rfl⟩
              have HTM : Hid (lastT F ss (m + 1) = tm) := by show _ = _; rw [lastT_succ, htm]
              rw [← htm] at p0
              have g3 := OLD _ _ p0
              have hwm : IntKind.i64.wrap ((m : Int) + 1 - 1) = (m : Int) := by rw [IntKind.wrap_i64]; omega
              have hpos : decide ((0 : Int) < (m : Int) + 1) = true := decide_eq_true (by omega)
              by_cases h6 : tk ≤ tm
              · have HRES : Hid (sndB F T N ss n = false) := BAD.out (by rw [HKS.out, HTM.out, ← HTK.out, decide_eq_false (by omega)]; simp)
                have dd3 : decide (tk ≤ tm) = true := decide_eq_true h6
                clear hcell HRW htk hst htm bw OLD h3 h4 h6 hk
                go_wp2_with fail
                go_quiet (fail)
                go_wp2_with fail
                go_ret
                exact ⟨by rw [HRES.out]; rfl, HB1.out.trans ((b2.out.drewN' _).mono HB1.out.size)⟩
              · have dd3 : decide (tk ≤ tm) = false := decide_eq_false h6
                have HLT : Hid (lastT F ss (m + 1) < tk) := by show lastT F ss (m + 1) < tk; rw [HTM.out]; omega
                have HTT : Hid (tk ≤ T) := by show tk ≤ T; omega
                clear hcell HRW htk hst htm bw OLD h3 h4 h6
                go_wp2_with fail
                go_quiet (fail)
                go_wp2_with fail
                go_roundw
                case rel => exact GOOD.out _ (by simp) (b2.out.drewN' _) trivial HLT.out HTT.out
                case measure => simp [intOf]; omega
    · obtain rfl : k = n := by omega
      go_wp2_with fail
      go_ret
      refine ⟨?_, HB1.out.trans (bw.mono HB1.out.size)⟩
      unfold sndB
      rw [HFAR.out, HOK.out, decide_eq_true HLATE.out]; rfl
end Go.Proofs.Ytoeldcgclaiokaa
