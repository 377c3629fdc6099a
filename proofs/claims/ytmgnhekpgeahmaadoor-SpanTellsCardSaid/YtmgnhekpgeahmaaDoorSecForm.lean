/- Seconds as a request writes them: the form, on both sides. -/
import Derived.Test.YtmgnhekpgeahmaaDoorRefThou
import Derived.Laws.DeepStrings4
namespace Go.Proofs.YtmgnhekpgeahmaaDoor
open Go.Dur Go.Fl Go.RowKit

def secI (s : ByteArray) : Nat := if bt s 0 = 43 ∨ bt s 0 = 45 then 1 else 0
def secJ (s : ByteArray) : Nat := runE s (secI s)
def minusB (s : ByteArray) : Bool := decide (bt s 0 = 45)
/-- Are these bytes a number of seconds? -/
def secOk (s : ByteArray) : Bool := decide (secJ s ≠ secI s) && (decide (secJ s = s.size) || (decide (bt s (secJ s) = 46) && decide (secJ s + 1 < s.size) && decide (runE s (secJ s + 1) = s.size)))
def wholeS (s : ByteArray) : ByteArray := s.extract (secI s) (secJ s)
def fracS (s : ByteArray) : ByteArray := if secJ s = s.size then ⟨#[]⟩ else s.extract (secJ s + 1) s.size

theorem secI_le (s : ByteArray) : secI s ≤ s.size := by
  unfold secI
  split
  · rename_i h
    by_cases h0 : 0 < s.size
    · omega
    · rw [bt_out (by omega)] at h; omega
  · omega
theorem secJ_le (s : ByteArray) : secJ s ≤ s.size := runE_le s (secI_le s)
theorem secJ_ge (s : ByteArray) : secI s ≤ secJ s := runE_ge s _

theorem allD_whole (s : ByteArray) : AllD (wholeS s) := allD_part s (secI_le s)
theorem size_whole (s : ByteArray) : (wholeS s).size = secJ s - secI s := size_part s (secI_le s)
theorem allD_empty : AllD ⟨#[]⟩ := fun i hi => by
  have : (ByteArray.mk #[]).size = 0 := rfl
  omega
theorem frac_size (s : ByteArray) : (fracS s).size ≤ s.size := by
  unfold fracS
  split
  · show 0 ≤ _; omega
  · rw [ByteArray.size_extract]; omega
theorem allD_frac (s : ByteArray) (h : secOk s = true) : AllD (fracS s) := by
  unfold fracS
  by_cases h1 : secJ s = s.size
  · rw [if_pos h1]; exact allD_empty
  · rw [if_neg h1]
    unfold secOk at h
    simp only [Bool.and_eq_true, Bool.or_eq_true, decide_eq_true_eq, h1, false_or] at h
    have := allD_part s (e := secJ s + 1) (by omega)
    rw [h.2.2] at this
    exact this

theorem run_next (s : ByteArray) (i : Nat) (w : World) (hi : i + 1 ≤ s.size) (hs : s.size ≤ 9223372036854775806) : Calls Tryd.prog 42 #[.string s, .int .i64 ((i : Int) + 1)] w (Same (.int .i64 (runE s (i + 1) : Nat)) w) := run_any s (i + 1) w hi hs
theorem slice_run (s : ByteArray) (a b : Int) (A B : Nat) (w : World) (ha : a = (A : Int)) (hb : b = (B : Int)) (h : A ≤ B) (hB : B ≤ s.size) :
    (Instr.slice 9 (.string s) (some (.int .i64 a)) (some (.int .i64 b)) none).run Tryd.prog w = .ok (.string (s.extract A B)) w := by
  subst ha; subst hb
  rw [run_slice_string_if w 9 s .i64 .i64 _ _ Tryd.underlying9, if_pos (by omega), if_pos (by omega)]
  simp
theorem slice_tail (s : ByteArray) (a : Int) (A : Nat) (w : World) (ha : a = (A : Int)) (h : A ≤ s.size) :
    (Instr.slice 9 (.string s) (some (.int .i64 a)) none none).run Tryd.prog w = .ok (.string (s.extract A s.size)) w := by
  subst ha
  rw [run_slice_string_from_if w 9 s .i64 _ Tryd.underlying9, if_pos (by omega)]
  simp
/-- The walk asks by !=. -/
theorem bneq {c k : Nat} (h : c = k) : ((c : Int) != (k : Int)) = false := by subst h; simp
theorem bnne {c k : Nat} (h : c ≠ k) : ((c : Int) != (k : Int)) = true := by
  rw [bne_iff_ne]; omega

/-- What a point with digits behind it is read as: the digits, the place behind, whether it is one. -/
def pointV (s : ByteArray) (i : Nat) : ByteArray × Nat × Bool :=
  if s.size ≤ i ∨ bt s i ≠ 46 then (⟨#[]⟩, i, true) else (s.extract (i + 1) (runE s (i + 1)), runE s (i + 1), decide (i + 1 < runE s (i + 1)))

theorem point_any (s : ByteArray) (i : Nat) (w : World) (hs : s.size ≤ 9223372036854775806) (hi : i ≤ s.size) : Calls Tryd.prog 45 #[.string s, .int .i64 (i : Int)] w (Same (.tuple #[.string (pointV s i).1, .int .i64 ((pointV s i).2.1 : Nat), .bool (pointV s i).2.2]) w) := by
  by_cases hlt : i < s.size
  · have hb := bt_get s hlt
    by_cases h46 : bt s i = 46
    · have hV : pointV s i = (s.extract (i + 1) (runE s (i + 1)), runE s (i + 1), decide (i + 1 < runE s (i + 1))) := by unfold pointV; rw [if_neg (by omega)]
      rw [hV]
      have hq : ((bt s i : Int) != 46) = false := bneq h46
      have hge := runE_ge s (i + 1)
      have hle := runE_le s (show i + 1 ≤ s.size by omega)
      clear hV h46
      obtain ⟨e2, he2⟩ : ∃ e, runE s (i + 1) = e := ⟨_, rfl⟩
      have HE := Lib.hid he2
      rw [he2] at hge hle ⊢
      clear he2
      have hsl := fun w' => slice_run s ((i : Int) + 1) e2 (i + 1) e2 w' (by simp) rfl hge hle
      go_enter Tryd.func45, Tryd.ntmps45
      go_wp2_with (first | (go_at_call 42; refine (run_next s i _ (by omega) hs).mono ?_; rintro x w' ⟨rfl, rfl⟩; rw [HE.out]))
      go_ret3
      exact ⟨by rw [show decide (i + 1 < e2) = decide ((i : Int) + 1 < (e2 : Int)) from decide_eq_decide.2 (by omega)]; rfl, rfl⟩
    · have hV : pointV s i = (⟨#[]⟩, i, true) := by unfold pointV; rw [if_pos (.inr h46)]
      rw [hV]
      have hq : ((bt s i : Int) != 46) = true := bnne h46
      clear hV h46
      go_enter Tryd.func45, Tryd.ntmps45
      go_wp2_with fail
      go_ret3
      exact ⟨rfl, rfl⟩
  · have hV : pointV s i = (⟨#[]⟩, i, true) := by unfold pointV; rw [if_pos (.inl (by omega))]
    rw [hV]
    clear hV
    go_enter Tryd.func45, Tryd.ntmps45
    go_wp2_with fail
    go_ret3
    exact ⟨rfl, rfl⟩

end Go.Proofs.YtmgnhekpgeahmaaDoor
