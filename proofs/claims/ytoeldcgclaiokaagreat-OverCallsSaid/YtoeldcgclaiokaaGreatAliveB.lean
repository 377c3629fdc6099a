/- The small functions of weirlaw20; Known; unknown names. weirlaw20.made: the window is sound. -/
import Derived.Test.YtoeldcgclaiokaaGreatCallB
import Derived.Deep.QuietTactic
import Derived.BigQuiet
namespace Go.Proofs.YtoeldcgclaiokaaGreat
open Go.Fl Go.Rel Go.RowKit
set_option linter.unusedVariables false
set_option linter.unusedSimpArgs false

theorem rule_field (x y f : Value) (w : World) : (Instr.field 50 (.agg #[x, y, f]) 2).run Tryz.prog w = .ok f w := by kernel_rfl

set_option maxHeartbeats 4000000 in
set_option maxRecDepth 100000 in
theorem known_of (nm : ByteArray) (p k : Nat) (g : FuncId) (G : Array Value → World → Prop) (HF : Hid (FoundT nm p k g G)) (w : World) : Calls Tryz.prog 8 #[.string nm] w (BoolB true w) := by
  have hfn : ∀ (caps : Array Value) (w : World), (binOp .neq 48 (.func (.func g) #[] caps) .nilFunc).run Tryz.prog w = .ok (.bool true) w := fun _ _ => by kernel_rfl
  have hfl := rule_field
  unfold FoundT at HF
  go_enter Tryz.func8, Tryz.ntmps8
  go_wp2_with (go_at_call 22; ((with_reducible refine (HF.out _).mono ?_); rintro e w1 ⟨caps, rfl, hG, b1⟩))
  go_ret
  exact ⟨rfl, b1⟩

theorem known_nm (m : Nm) (w : World) : Calls Tryz.prog 8 #[.string m.str] w (BoolB true w) := by
  cases m
  · exact known_of _ _ _ _ _ (plain_found (nm := (Nm.count).str) (f := 41) find_count_over_time) w
  · exact known_of _ _ _ _ _ (plain_found (nm := (Nm.present).str) (f := 42) find_present_over_time) w
  · exact known_of _ _ _ _ _ (plain_found (nm := (Nm.first).str) (f := 43) find_first_over_time) w
  · exact known_of _ _ _ _ _ (plain_found (nm := (Nm.last).str) (f := 44) find_last_over_time) w
  · exact known_of _ _ _ _ _ (plain_found (nm := (Nm.sum).str) (f := 45) find_sum_over_time) w
  · exact known_of _ _ _ _ _ (plain_found (nm := (Nm.avg).str) (f := 46) find_avg_over_time) w
  · exact known_of _ _ _ _ _ (plain_found (nm := (Nm.stddev).str) (f := 47) find_stddev_over_time) w
  · exact known_of _ _ _ _ _ (plain_found (nm := (Nm.stdvar).str) (f := 48) find_stdvar_over_time) w
  · exact known_of _ _ _ _ _ (plain_found (nm := (Nm.max).str) (f := 49) find_max_over_time) w
  · exact known_of _ _ _ _ _ (plain_found (nm := (Nm.min).str) (f := 51) find_min_over_time) w
  · exact known_of _ _ _ _ _ (plain_found (nm := (Nm.mad).str) (f := 52) find_mad_over_time) w
  · exact known_of _ _ _ _ _ (plain_found (nm := (Nm.changes).str) (f := 53) find_changes) w
  · exact known_of _ _ _ _ _ (plain_found (nm := (Nm.resets).str) (f := 54) find_resets) w
  · exact known_of _ _ _ _ _ (grow_found (nm := (Nm.rate).str) (c := true) (p := true) find_rate) w
  · exact known_of _ _ _ _ _ (grow_found (nm := (Nm.increase).str) (c := true) (p := false) find_increase) w
  · exact known_of _ _ _ _ _ (grow_found (nm := (Nm.delta).str) (c := false) (p := false) find_delta) w
  · exact known_of _ _ _ _ _ (last_found (nm := (Nm.irate).str) (c := true) find_irate) w
  · exact known_of _ _ _ _ _ (last_found (nm := (Nm.idelta).str) (c := false) find_idelta) w
  · exact known_of _ _ _ _ _ (rule_found (nm := (Nm.deriv).str) (p := 2) (k := 0) (f := 75) find_deriv) w
  · exact known_of _ _ _ _ _ (rule_found (nm := (Nm.quantile).str) (p := 1) (k := 1) (f := 77) find_quantile_over_time) w
  · exact known_of _ _ _ _ _ (rule_found (nm := (Nm.predict).str) (p := 2) (k := 1) (f := 78) find_predict_linear) w
  · exact known_of _ _ _ _ _ (rule_found (nm := (Nm.smoothing).str) (p := 2) (k := 2) (f := 79) find_double_exponential_smoothing) w
  · exact known_of _ _ _ _ _ (rule_found (nm := (Nm.beat).str) (p := 1) (k := 1) (f := 81) find_beat_over_time) w

def NoneRet (w : World) (e : Ending) (w' : World) : Prop := e = .returned (.agg #[.int .i64 0, .int .i64 0, .nilFunc]) ∧ Below w.heap.size w w'

set_option maxHeartbeats 4000000 in
set_option maxRecDepth 100000 in
theorem more_none (s : ByteArray) (hs : ∀ m : Nm, s.toList ≠ m.str.toList) (w : World) : Calls Tryz.prog 55 #[.string s] w (NoneRet w) := by
  have e0 : (s.toList == [114, 97, 116, 101]) = false := beq_eq_false_iff_ne.2 (by rw [← show (Nm.rate).str.toList = [114, 97, 116, 101] by kernel_rfl]; exact hs .rate)
  have e1 : (s.toList == [105, 110, 99, 114, 101, 97, 115, 101]) = false := beq_eq_false_iff_ne.2 (by rw [← show (Nm.increase).str.toList = [105, 110, 99, 114, 101, 97, 115, 101] by kernel_rfl]; exact hs .increase)
  have e2 : (s.toList == [100, 101, 108, 116, 97]) = false := beq_eq_false_iff_ne.2 (by rw [← show (Nm.delta).str.toList = [100, 101, 108, 116, 97] by kernel_rfl]; exact hs .delta)
  have e3 : (s.toList == [105, 114, 97, 116, 101]) = false := beq_eq_false_iff_ne.2 (by rw [← show (Nm.irate).str.toList = [105, 114, 97, 116, 101] by kernel_rfl]; exact hs .irate)
  have e4 : (s.toList == [105, 100, 101, 108, 116, 97]) = false := beq_eq_false_iff_ne.2 (by rw [← show (Nm.idelta).str.toList = [105, 100, 101, 108, 116, 97] by kernel_rfl]; exact hs .idelta)
  have e5 : (s.toList == [100, 101, 114, 105, 118]) = false := beq_eq_false_iff_ne.2 (by rw [← show (Nm.deriv).str.toList = [100, 101, 114, 105, 118] by kernel_rfl]; exact hs .deriv)
  have e6 : (s.toList == [113, 117, 97, 110, 116, 105, 108, 101, 95, 111, 118, 101, 114, 95, 116, 105, 109, 101]) = false := beq_eq_false_iff_ne.2 (by rw [← show (Nm.quantile).str.toList = [113, 117, 97, 110, 116, 105, 108, 101, 95, 111, 118, 101, 114, 95, 116, 105, 109, 101] by kernel_rfl]; exact hs .quantile)
  have e7 : (s.toList == [112, 114, 101, 100, 105, 99, 116, 95, 108, 105, 110, 101, 97, 114]) = false := beq_eq_false_iff_ne.2 (by rw [← show (Nm.predict).str.toList = [112, 114, 101, 100, 105, 99, 116, 95, 108, 105, 110, 101, 97, 114] by kernel_rfl]; exact hs .predict)
  have e8 : (s.toList == [100, 111, 117, 98, 108, 101, 95, 101, 120, 112, 111, 110, 101, 110, 116, 105, 97, 108, 95, 115, 109, 111, 111, 116, 104, 105, 110, 103]) = false := beq_eq_false_iff_ne.2 (by rw [← show (Nm.smoothing).str.toList = [100, 111, 117, 98, 108, 101, 95, 101, 120, 112, 111, 110, 101, 110, 116, 105, 97, 108, 95, 115, 109, 111, 111, 116, 104, 105, 110, 103] by kernel_rfl]; exact hs .smoothing)
  have e9 : (s.toList == [98, 101, 97, 116, 95, 111, 118, 101, 114, 95, 116, 105, 109, 101]) = false := beq_eq_false_iff_ne.2 (by rw [← show (Nm.beat).str.toList = [98, 101, 97, 116, 95, 111, 118, 101, 114, 95, 116, 105, 109, 101] by kernel_rfl]; exact hs .beat)
  clear hs
  go_enter Tryz.func55, Tryz.ntmps55
  have HM : Hid (Bk.Is (w.alloc (.cells #[.int .i64 0, .int .i64 0, .nilFunc] 50)) w.heap.size #[.int .i64 0, .int .i64 0, .nilFunc] 50) := Bk.Is.made w _ _
  go_wp2_with (refine Bk.is_store 50 rfl ?_; refine wpList_store_row rfl 50 _ _ rfl w.heap.size #[.int .i64 0, .int .i64 0, .nilFunc] rfl rfl 50 #[.int .i64 0, .int .i64 0, .nilFunc] HM.out (by kernel_rfl) rfl (by kernel_rfl) ?_)
  refine Bk.ret_block (HM.out.setRow _) rfl rfl Tryz.underlying50 rfl (by kernel_rfl) rfl ?_
  exact ⟨rfl, Bk.below_setRow ((Below.refl _ _).alloc (Nat.le_refl _) _) (Nat.le_refl _) _⟩

set_option maxHeartbeats 4000000 in
set_option maxRecDepth 100000 in
theorem find_none (s : ByteArray) (hs : ∀ m : Nm, s.toList ≠ m.str.toList) (w : World) : Calls Tryz.prog 22 #[.string s] w (NoneRet w) := by
  have HP := Lib.hid (more_none s hs)
  have e0 : (s.toList == [99, 111, 117, 110, 116, 95, 111, 118, 101, 114, 95, 116, 105, 109, 101]) = false := beq_eq_false_iff_ne.2 (by rw [← show (Nm.count).str.toList = [99, 111, 117, 110, 116, 95, 111, 118, 101, 114, 95, 116, 105, 109, 101] by kernel_rfl]; exact hs .count)
  have e1 : (s.toList == [112, 114, 101, 115, 101, 110, 116, 95, 111, 118, 101, 114, 95, 116, 105, 109, 101]) = false := beq_eq_false_iff_ne.2 (by rw [← show (Nm.present).str.toList = [112, 114, 101, 115, 101, 110, 116, 95, 111, 118, 101, 114, 95, 116, 105, 109, 101] by kernel_rfl]; exact hs .present)
  have e2 : (s.toList == [102, 105, 114, 115, 116, 95, 111, 118, 101, 114, 95, 116, 105, 109, 101]) = false := beq_eq_false_iff_ne.2 (by rw [← show (Nm.first).str.toList = [102, 105, 114, 115, 116, 95, 111, 118, 101, 114, 95, 116, 105, 109, 101] by kernel_rfl]; exact hs .first)
  have e3 : (s.toList == [108, 97, 115, 116, 95, 111, 118, 101, 114, 95, 116, 105, 109, 101]) = false := beq_eq_false_iff_ne.2 (by rw [← show (Nm.last).str.toList = [108, 97, 115, 116, 95, 111, 118, 101, 114, 95, 116, 105, 109, 101] by kernel_rfl]; exact hs .last)
  have e4 : (s.toList == [115, 117, 109, 95, 111, 118, 101, 114, 95, 116, 105, 109, 101]) = false := beq_eq_false_iff_ne.2 (by rw [← show (Nm.sum).str.toList = [115, 117, 109, 95, 111, 118, 101, 114, 95, 116, 105, 109, 101] by kernel_rfl]; exact hs .sum)
  have e5 : (s.toList == [97, 118, 103, 95, 111, 118, 101, 114, 95, 116, 105, 109, 101]) = false := beq_eq_false_iff_ne.2 (by rw [← show (Nm.avg).str.toList = [97, 118, 103, 95, 111, 118, 101, 114, 95, 116, 105, 109, 101] by kernel_rfl]; exact hs .avg)
  have e6 : (s.toList == [115, 116, 100, 100, 101, 118, 95, 111, 118, 101, 114, 95, 116, 105, 109, 101]) = false := beq_eq_false_iff_ne.2 (by rw [← show (Nm.stddev).str.toList = [115, 116, 100, 100, 101, 118, 95, 111, 118, 101, 114, 95, 116, 105, 109, 101] by kernel_rfl]; exact hs .stddev)
  have e7 : (s.toList == [115, 116, 100, 118, 97, 114, 95, 111, 118, 101, 114, 95, 116, 105, 109, 101]) = false := beq_eq_false_iff_ne.2 (by rw [← show (Nm.stdvar).str.toList = [115, 116, 100, 118, 97, 114, 95, 111, 118, 101, 114, 95, 116, 105, 109, 101] by kernel_rfl]; exact hs .stdvar)
  have e8 : (s.toList == [109, 97, 120, 95, 111, 118, 101, 114, 95, 116, 105, 109, 101]) = false := beq_eq_false_iff_ne.2 (by rw [← show (Nm.max).str.toList = [109, 97, 120, 95, 111, 118, 101, 114, 95, 116, 105, 109, 101] by kernel_rfl]; exact hs .max)
  have e9 : (s.toList == [109, 105, 110, 95, 111, 118, 101, 114, 95, 116, 105, 109, 101]) = false := beq_eq_false_iff_ne.2 (by rw [← show (Nm.min).str.toList = [109, 105, 110, 95, 111, 118, 101, 114, 95, 116, 105, 109, 101] by kernel_rfl]; exact hs .min)
  have e10 : (s.toList == [109, 97, 100, 95, 111, 118, 101, 114, 95, 116, 105, 109, 101]) = false := beq_eq_false_iff_ne.2 (by rw [← show (Nm.mad).str.toList = [109, 97, 100, 95, 111, 118, 101, 114, 95, 116, 105, 109, 101] by kernel_rfl]; exact hs .mad)
  have e11 : (s.toList == [99, 104, 97, 110, 103, 101, 115]) = false := beq_eq_false_iff_ne.2 (by rw [← show (Nm.changes).str.toList = [99, 104, 97, 110, 103, 101, 115] by kernel_rfl]; exact hs .changes)
  have e12 : (s.toList == [114, 101, 115, 101, 116, 115]) = false := beq_eq_false_iff_ne.2 (by rw [← show (Nm.resets).str.toList = [114, 101, 115, 101, 116, 115] by kernel_rfl]; exact hs .resets)
  clear hs
  go_enter Tryz.func22, Tryz.ntmps22
  have HM : Hid (Bk.Is (w.alloc (.cells #[.int .i64 0, .int .i64 0, .nilFunc] 50)) w.heap.size #[.int .i64 0, .int .i64 0, .nilFunc] 50) := Bk.Is.made w _ _
  go_wp2_with (first | (go_at_call 55; ((with_reducible refine (HP.out _).mono ?_); rintro e w1 ⟨rfl, b1⟩; have HI := Lib.hid (HM.out.below b1 (by simp)); have B1 := Lib.hid b1; clear b1)) | (refine Bk.is_store 50 rfl ?_; refine wpList_store_row rfl 50 _ _ rfl w.heap.size #[.int .i64 0, .int .i64 0, .nilFunc] rfl rfl 50 #[.int .i64 0, .int .i64 0, .nilFunc] HI.out (by kernel_rfl) rfl (by kernel_rfl) ?_))
  refine Bk.ret_block (HI.out.setRow _) rfl rfl Tryz.underlying50 rfl (by kernel_rfl) rfl ?_
  exact ⟨rfl, Bk.below_setRow (((Below.refl _ _).alloc (Nat.le_refl _) _).trans (B1.out.mono (by simp))) (Nat.le_refl _) _⟩

set_option maxHeartbeats 4000000 in
set_option maxRecDepth 100000 in
theorem known_none (s : ByteArray) (hs : ∀ m : Nm, s.toList ≠ m.str.toList) (w : World) : Calls Tryz.prog 8 #[.string s] w (BoolB false w) := by
  have HP := Lib.hid (find_none s hs)
  have hfn : ∀ (w : World), (binOp .neq 48 .nilFunc .nilFunc).run Tryz.prog w = .ok (.bool false) w := fun _ => by kernel_rfl
  have hfl := rule_field
  clear hs
  go_enter Tryz.func8, Tryz.ntmps8
  go_wp2_with (go_at_call 22; ((with_reducible refine (HP.out _).mono ?_); rintro e w1 ⟨rfl, b1⟩))
  go_ret
  exact ⟨rfl, b1⟩

set_option maxRecDepth 100000 in
theorem four_any (x y z u : Nat) (w : World) : Calls Tryz.prog 12 #[.float .f64 x, .float .f64 y, .float .f64 z, .float .f64 u] w fun e w' => ∃ B : Nat, e = .returned (.agg #[.slice (some ⟨B, 0, none⟩) 4 4, .int .i64 0, .int .i64 60000, .int .i64 60000]) ∧ SRow w' (some ⟨B, 0, none⟩) 4 [⟨15000, x, false⟩, ⟨30000, y, false⟩, ⟨45000, z, false⟩, ⟨60000, u, false⟩] ∧ Below w.heap.size w w' := by
  go_enter Tryz.func12, Tryz.ntmps12
  go_wp2_with fail
  refine Bk.ret_block ((Bk.Is.made w #[.slice (some ⟨w.heap.size + 1, 0, none⟩) 4 4, .int .i64 0, .int .i64 60000, .int .i64 60000] 24).alloc _) rfl rfl Tryz.underlying24 rfl (by kernel_rfl) rfl ?_
  refine ⟨w.heap.size + 1, rfl, ⟨rfl, by omega, fun i => ?_, fun _ => ⟨_, _, rfl, fun i hi => ?_⟩⟩, ((Below.refl _ _).alloc (Nat.le_refl _) _).alloc (by simp) _⟩
  · match i with
    | 0 | 1 | 2 | 3 => simp [tS, sAt]
    | n + 4 => simp [tS, sAt, List.getD]
  · have hI := Bk.Is.made (w.alloc (.cells #[.slice (some ⟨w.heap.size + 1, 0, none⟩) 4 4, .int .i64 0, .int .i64 60000, .int .i64 60000] 24)) #[.int .i64 15000, .float .f64 x, .bool false, .int .i64 30000, .float .f64 y, .bool false, .int .i64 45000, .float .f64 z, .bool false, .int .i64 60000, .float .f64 u, .bool false] 46
    rw [show (w.alloc (.cells #[.slice (some ⟨w.heap.size + 1, 0, none⟩) 4 4, .int .i64 0, .int .i64 60000, .int .i64 60000] 24)).heap.size = w.heap.size + 1 by simp] at hI
    match i, hi with
    | 0, _ | 1, _ | 2, _ | 3, _ => exact ⟨by rw [hI.cell]; rfl, by rw [hI.cell]; rfl, by rw [hI.cell]; rfl⟩

theorem same_any (x y : Nat) (w : World) : Calls Tryz.prog 7 #[.float .f64 x, .float .f64 y] w fun e w' => e = .returned (.bool (cn x == cn y)) ∧ w = w' := by
  have hx : (FloatKind.f64.format.order x x != some .eq) = isN x := ne_self x
  have hy : (FloatKind.f64.format.order y y != some .eq) = isN y := ne_self y
  have hb := bits_run x
  have hb' := bits_run y
  have key : (cn x == cn y) = ((x : Int) == (y : Int) || isN x && isN y) := by
    rw [Bool.eq_iff_iff, beq_iff_eq, cn_eq_iff]; simp [Int.natCast_inj, or_comm]
  have Key := Lib.hid key
  clear key
  go_enter Tryz.func7, Tryz.ntmps7
  go_wp2_with (first | simp only [hb] | simp only [hb'])
  all_goals
    go_ret
    refine ⟨?_, rfl⟩
    rw [Key.out]
    simp [*]

/-- The names in the law's order. -/
def nmL : List Nm := [.avg, .beat, .changes, .count, .delta, .deriv, .smoothing, .first, .idelta, .increase, .irate, .last, .mad, .max, .min, .predict, .present, .quantile, .rate, .resets, .stddev, .stdvar, .sum]
def nmAt (i : Nat) : Nm := nmL.getD i .avg

set_option maxRecDepth 100000 in
theorem names_any (w : World) : Calls Tryz.prog 10 #[] w fun e w' => ∃ B : Nat, e = .returned (.slice (some ⟨B, 0, none⟩) 23 23) ∧ w.heap.size ≤ B ∧ (∀ i, i < 23 → w'.cell? ⟨B, i, none⟩ = some (.string (nmAt i).str)) ∧ Below w.heap.size w w' := by
  go_enter Tryz.func10, Tryz.ntmps10
  go_wp2_with fail
  go_ret
  refine ⟨w.heap.size, rfl, Nat.le_refl _, fun i hi => ?_, (Below.refl _ _).alloc (Nat.le_refl _) _⟩
  rw [World.cell?_alloc_at _ _ _ _ rfl]
  match i, hi with
  | 0, _ => rfl
  | 1, _ => rfl
  | 2, _ => rfl
  | 3, _ => rfl
  | 4, _ => rfl
  | 5, _ => rfl
  | 6, _ => rfl
  | 7, _ => rfl
  | 8, _ => rfl
  | 9, _ => rfl
  | 10, _ => rfl
  | 11, _ => rfl
  | 12, _ => rfl
  | 13, _ => rfl
  | 14, _ => rfl
  | 15, _ => rfl
  | 16, _ => rfl
  | 17, _ => rfl
  | 18, _ => rfl
  | 19, _ => rfl
  | 20, _ => rfl
  | 21, _ => rfl
  | 22, _ => rfl
  | n + 23, h => omega

def ss4 : List Smp := [⟨15000, 4607182418800017408, false⟩, ⟨30000, 4611686018427387904, false⟩, ⟨45000, 4613937818241073152, false⟩, ⟨60000, 4616189618054758400, false⟩]
def ss5 : List Smp := [⟨15000, 4617315517961601024, false⟩, ⟨30000, 4607182418800017408, false⟩, ⟨45000, 4611686018427387904, false⟩, ⟨60000, 4613937818241073152, false⟩]
theorem al1 : callO .increase ss4 4 0 60000 60000 0 [] = some 4616189618054758400 := by decide +kernel
theorem al2 : callO .sum ss4 4 0 60000 60000 0 [] = some 4621819117588971520 := by decide +kernel
theorem al3 : extO ss4 4 0 60000 60000 false false = some 4616189618054758400 := by decide +kernel
theorem al4 : instO ss5 4 0 60000 60000 false = some 4607182418800017408 := by decide +kernel
theorem al5 : callO .rate [] 0 0 5 0 0 [] = none := by decide +kernel
theorem al6 : ∀ m : Nm, (⟨#[82, 97, 116, 101]⟩ : ByteArray).toList ≠ m.str.toList := by intro m; cases m <;> decide +kernel

def Val (c : Nat) (w : World) (e : Ending) (w' : World) : Prop := e = .returned (.tuple #[.float .f64 c, .bool true]) ∧ Below w.heap.size w w'
theorem OptRet.val {c : Nat} {w : World} {e : Ending} {w' : World} (hc : isN c = false) (h : OptRet (some c) w e w') : Val c w e w' := by
  obtain ⟨r, h1, h2, h3⟩ := h
  rw [eq_of_cn h2 hc] at h1
  exact ⟨h1, h3⟩
theorem row_none (w : World) : Row w none 0 [] := ⟨rfl, by omega, fun h => by omega⟩
theorem srow_none (w : World) : SRow w none 0 [] := ⟨rfl, by omega, fun i => by simp [tS, sAt], fun h => by omega⟩

def AlSt (w : World) (B R : Nat) (W : World) : Prop := Below w.heap.size w W ∧ Bk.Is W R #[.slice (some ⟨B, 0, none⟩) 4 4, .int .i64 0, .int .i64 60000, .int .i64 60000] 24 ∧ SRow W (some ⟨B, 0, none⟩) 4 ss4
theorem AlSt.below {w : World} {B R : Nat} {W W' : World} (h : AlSt w B R W) (hb : Below W.heap.size W W') : AlSt w B R W' := ⟨h.1.trans (hb.mono h.1.size), h.2.1.below hb h.2.1.lt, h.2.2.below hb⟩
theorem AlSt.bel {w : World} {B R : Nat} {W : World} (h : AlSt w B R W) : Below w.heap.size w W := h.1
theorem AlSt.row {w : World} {B R : Nat} {W : World} (h : AlSt w B R W) : SRow W (some ⟨B, 0, none⟩) 4 ss4 := h.2.2
theorem AlSt.cells {w : World} {B R : Nat} {W : World} (h : AlSt w B R W) : W.cell? ⟨R, 0, none⟩ = some (.slice (some ⟨B, 0, none⟩) 4 4) ∧ W.cell? ⟨R, 1, none⟩ = some (.int .i64 0) ∧ W.cell? ⟨R, 2, none⟩ = some (.int .i64 60000) ∧ W.cell? ⟨R, 3, none⟩ = some (.int .i64 60000) := by
  have h4 := h.2.1
  exact ⟨by rw [h4.cell]; rfl, by rw [h4.cell]; rfl, by rw [h4.cell]; rfl, by rw [h4.cell]; rfl⟩
theorem alSt_made {w w1 : World} {B : Nat} (hs : SRow w1 (some ⟨B, 0, none⟩) 4 ss4) (b1 : Below w.heap.size w w1) : AlSt w B w1.heap.size (w1.alloc (.cells #[.slice (some ⟨B, 0, none⟩) 4 4, .int .i64 0, .int .i64 60000, .int .i64 60000] 24)) :=
  ⟨b1.alloc b1.size _, Bk.Is.made w1 _ _, hs.below ((Below.refl _ _).alloc (Nat.le_refl _) _)⟩

set_option maxHeartbeats 4000000 in
set_option maxRecDepth 100000 in
theorem alive_any (w : World) : Calls Tryz.prog 4 #[] w (BoolB true w) := by
  have H1 : Hid (∀ B W, SRow W (some ⟨B, 0, none⟩) 4 ss4 → Calls Tryz.prog 6 #[.string ⟨#[105, 110, 99, 114, 101, 97, 115, 101]⟩, .agg #[.slice (some ⟨B, 0, none⟩) 4 4, .int .i64 0, .int .i64 60000, .int .i64 60000], .slice none 0 0] W (Val 4616189618054758400 W)) := fun B W h =>
    (call_nm .increase (some ⟨B, 0, none⟩) 4 4 ss4 0 60000 60000 none 0 0 [] W h (by omega) (row_none W)).mono fun e w' hh => by rw [show ([] : List Nat).map cn = [] from rfl, al1] at hh; exact OptRet.val (by decide +kernel) hh
  have H2 : Hid (∀ B W, SRow W (some ⟨B, 0, none⟩) 4 ss4 → Calls Tryz.prog 6 #[.string ⟨#[115, 117, 109, 95, 111, 118, 101, 114, 95, 116, 105, 109, 101]⟩, .agg #[.slice (some ⟨B, 0, none⟩) 4 4, .int .i64 0, .int .i64 60000, .int .i64 60000], .slice none 0 0] W (Val 4621819117588971520 W)) := fun B W h =>
    (call_nm .sum (some ⟨B, 0, none⟩) 4 4 ss4 0 60000 60000 none 0 0 [] W h (by omega) (row_none W)).mono fun e w' hh => by rw [show ([] : List Nat).map cn = [] from rfl, al2] at hh; exact OptRet.val (by decide +kernel) hh
  have H3 : Hid (∀ B W, SRow W (some ⟨B, 0, none⟩) 4 ss4 → Calls Tryz.prog 13 #[.agg #[.slice (some ⟨B, 0, none⟩) 4 4, .int .i64 0, .int .i64 60000, .int .i64 60000], .bool false, .bool false] W (Val 4616189618054758400 W)) := fun B W h =>
    (ext_any (some ⟨B, 0, none⟩) 4 4 ss4 0 60000 60000 false false W h).mono fun e w' hh => by rw [al3] at hh; exact OptRet.val (by decide +kernel) hh
  have H4 : Hid (∀ B W, SRow W (some ⟨B, 0, none⟩) 4 ss5 → Calls Tryz.prog 14 #[.agg #[.slice (some ⟨B, 0, none⟩) 4 4, .int .i64 0, .int .i64 60000, .int .i64 60000], .bool false] W (Val 4607182418800017408 W)) := fun B W h =>
    (inst_any (some ⟨B, 0, none⟩) 4 4 ss5 0 60000 60000 false W h).mono fun e w' hh => by rw [al4] at hh; exact OptRet.val (by decide +kernel) hh
  have H5 : Hid (∀ W, Calls Tryz.prog 6 #[.string ⟨#[114, 97, 116, 101]⟩, .agg #[.slice none 0 0, .int .i64 0, .int .i64 5, .int .i64 0], .slice none 0 0] W (fun e w' => e = .returned (.tuple #[.float .f64 0, .bool false]) ∧ Below W.heap.size W w')) := fun W =>
    (call_nm .rate none 0 0 [] 0 5 0 none 0 0 [] W (srow_none W) (by omega) (row_none W)).mono fun e w' hh => by rw [show ([] : List Nat).map cn = [] from rfl, al5] at hh; exact hh
  have H6 : Hid (∀ W, Calls Tryz.prog 8 #[.string ⟨#[114, 97, 116, 101]⟩] W (BoolB true W)) := fun W => known_nm .rate W
  have H7 : Hid (∀ W, Calls Tryz.prog 8 #[.string ⟨#[82, 97, 116, 101]⟩] W (BoolB false W)) := fun W => known_none _ al6 W
  go_enter Tryz.func4, Tryz.ntmps4
  have o1 : (FloatKind.f64.format.order 4616189618054758400 4616189618054758400 != some .eq) = false := by decide +kernel
  have o2 : (FloatKind.f64.format.order 4621819117588971520 4621819117588971520 != some .eq) = false := by decide +kernel
  have o3 : (FloatKind.f64.format.order 4607182418800017408 4607182418800017408 != some .eq) = false := by decide +kernel
  have tok1 : True := trivial
  go_wp2_with (first
    | (go_at_call 12; have _t := tok1; clear tok1 _t; ((with_reducible refine (four_any _ _ _ _ _).mono ?_); rintro e w1 ⟨B, rfl, hs, b1⟩; have ST1 := Lib.hid (alSt_made hs b1); clear hs b1))
    | (go_at_call 6; ((with_reducible refine (H1.out _ _ ST1.out.row).mono ?_); rintro e w2 ⟨rfl, b2⟩; have ST2 := Lib.hid (ST1.out.below b2); clear b2; obtain ⟨c20, c21, c22, c23⟩ := ST2.out.cells))
    | (go_at_call 6; ((with_reducible refine (H2.out _ _ ST2.out.row).mono ?_); rintro e w3 ⟨rfl, b3⟩; have ST3 := Lib.hid (ST2.out.below b3); clear b3; obtain ⟨c30, c31, c32, c33⟩ := ST3.out.cells))
    | (go_at_call 13; ((with_reducible refine (H3.out _ _ ST3.out.row).mono ?_); rintro e w4 ⟨rfl, b4⟩; have B4 := Lib.hid (ST3.out.below b4).bel; clear b4))
    | (go_at_call 12; ((with_reducible refine (four_any _ _ _ _ _).mono ?_); rintro e w5 ⟨C, rfl, hs5, b5⟩; have HS5 := Lib.hid hs5; have B5 := Lib.hid (B4.out.trans (b5.mono B4.out.size)); clear hs5 b5))
    | (go_at_call 14; ((with_reducible refine (H4.out _ _ HS5.out).mono ?_); rintro e w6 ⟨rfl, b6⟩; have B6 := Lib.hid (B5.out.trans (b6.mono B5.out.size)); clear b6))
    | (go_at_call 6; ((with_reducible refine (H5.out _).mono ?_); rintro e w7 ⟨rfl, b7⟩; have B7 := Lib.hid (B6.out.trans (b7.mono B6.out.size)); clear b7))
    | (go_at_call 8; ((with_reducible refine (H6.out _).mono ?_); rintro e w8 ⟨rfl, b8⟩; have B8 := Lib.hid (B7.out.trans (b8.mono B7.out.size)); clear b8))
    | (go_at_call 8; ((with_reducible refine (H7.out _).mono ?_); rintro e w9 ⟨rfl, b9⟩; have B9 := Lib.hid (B8.out.trans (b9.mono B8.out.size)); clear b9)))
  go_ret
  exact ⟨rfl, B9.out⟩
end Go.Proofs.YtoeldcgclaiokaaGreat

namespace Go.Proofs.YtoeldcgclaiokaaGreat
open Go.Fl Go.Rel Go.RowKit
set_option linter.unusedVariables false
set_option linter.unusedSimpArgs false

theorem okK_step {F : Int} {ss : List Smp} {k : Nat} (h : okK F ss (k + 1) = true) : okK F ss k = true ∧ sS ss k = false ∧ lastT F ss k < tS ss k := by
  rw [okK, Bool.and_eq_true, Bool.and_eq_true, decide_eq_true_eq] at h
  exact ⟨h.1, by simpa using h.2.1, h.2.2⟩
theorem lastT_succ (F : Int) (ss : List Smp) (k : Nat) : lastT F ss (k + 1) = tS ss k := rfl
theorem lastT_ge {F : Int} {ss : List Smp} : ∀ {k : Nat}, okK F ss k = true → F ≤ lastT F ss k
  | 0, _ => Int.le_refl _
  | k + 1, h => by
    have ⟨h1, _, h3⟩ := okK_step h
    have := lastT_ge h1
    rw [lastT_succ]; omega
theorem lastT_mono {F : Int} {ss : List Smp} {j : Nat} : ∀ {k : Nat}, j ≤ k → okK F ss k = true → lastT F ss j ≤ lastT F ss k
  | 0, h, _ => by obtain rfl : j = 0 := by omega
                  exact Int.le_refl _
  | k + 1, h, hk => by
    by_cases e : j = k + 1
    · subst e; exact Int.le_refl _
    · have ⟨h1, _, h3⟩ := okK_step hk
      have := lastT_mono (j := j) (k := k) (by omega) h1
      rw [lastT_succ]; omega
/-- A point beyond the end: the window is not sound. -/
theorem snd_late {F T N : Int} {ss : List Smp} {n k : Nat} (hk : k < n) (h : T < tS ss k) : sndB F T N ss n = false := by
  cases hs : sndB F T N ss n with
  | false => rfl
  | true =>
    unfold sndB at hs
    rw [Bool.and_eq_true, Bool.and_eq_true, decide_eq_true_eq] at hs
    have := lastT_mono (F := F) (ss := ss) (j := k + 1) (k := n) hk hs.2.1
    rw [lastT_succ] at this
    omega

def MadeRel (F T : Int) (ss : List Smp) (n : Nat) (W1 : World) (vi : Value) (wr : World) : Prop :=
  ∃ k : Nat, k ≤ n ∧ vi = .int .i64 (k : Int) ∧ okK F ss k = true ∧ lastT F ss k ≤ T ∧ Below W1.heap.size W1 wr

end Go.Proofs.YtoeldcgclaiokaaGreat
