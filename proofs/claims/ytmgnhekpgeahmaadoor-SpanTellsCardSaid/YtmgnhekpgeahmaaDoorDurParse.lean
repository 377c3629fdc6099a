/- Parse and Prefix on both sides. -/
import Derived.Test.YtmgnhekpgeahmaaDoorDurMeas
namespace Go.Proofs.YtmgnhekpgeahmaaDoor
open Go.Dur Go.Fl Go.RowKit

def parseN (s : ByteArray) : Nat × Nat :=
  if 64 < s.size then (0, 1) else if (meas s 0 0 0).1 = 0 ∨ (meas s 0 0 0).1 < s.size then (0, 30) else if Dur.M < (meas s 0 0 0).2 then (0, 31) else ((meas s 0 0 0).2, 0)

theorem meas_le (s : ByteArray) : (meas s 0 0 0).1 ≤ s.size := by
  have : ∀ f e r sum, e ≤ s.size → (measF s f e r sum).1 ≤ s.size := by
    intro f
    induction f with
    | zero => intro e r sum he; exact he
    | succ f ih =>
      intro e r sum he
      rw [measF]
      split
      · exact ih _ _ _ (unit_fits s _ (runE_le s he))
      · exact he
  exact this _ _ _ _ (Nat.zero_le _)
theorem meas_sum_le (s : ByteArray) : (meas s 0 0 0).2 ≤ 315360000000001 := by
  have : ∀ f e r sum, sum ≤ Dur.M + 1 → (measF s f e r sum).2 ≤ Dur.M + 1 := by
    intro f
    induction f with
    | zero => intro e r sum he; exact he
    | succ f ih =>
      intro e r sum he
      rw [measF]
      split
      · exact ih _ _ _ (by omega)
      · exact he
  exact Nat.le_trans (this _ _ _ _ (Nat.zero_le _)) M1_le

theorem prefix_any (s : ByteArray) (w : World) (hs : s.size ≤ 9223372036854775806) : Calls Tryd.prog 16 #[.string s] w (SameD (.int .i64 ((meas s 0 0 0).1 : Nat)) w) := by
  go_enter Tryd.func16, Tryd.ntmps16
  go_wp2_with (first | (go_at_call 33; refine (measure_any s _ hs).mono ?_; rintro x w' ⟨rfl, n2, rfl⟩; unfold measV))
  go_ret
  exact ⟨rfl, _, rfl⟩

theorem parse_any (s : ByteArray) (w : World) (hs : s.size ≤ 9223372036854775806) : Calls Tryd.prog 14 #[.string s] w (SameD (.tuple #[.int .i64 ((parseN s).1 : Nat), .int .i64 ((parseN s).2 : Nat)]) w) := by
  by_cases hbig : 64 < s.size
  · have hp : parseN s = (0, 1) := by unfold parseN; rw [if_pos hbig]
    rw [hp]
    go_enter Tryd.func14, Tryd.ntmps14
    go_wp2_with fail
    go_ret2
    exact ⟨rfl, 0, rfl⟩
  · have hle := meas_le s
    have hsm := meas_sum_le s
    have HP : Hid (parseN s = if (meas s 0 0 0).1 = 0 ∨ (meas s 0 0 0).1 < s.size then (0, 30) else if Dur.M < (meas s 0 0 0).2 then (0, 31) else ((meas s 0 0 0).2, 0)) := by show _ = _; unfold parseN; rw [if_neg hbig]
    have HM : Hid (∀ w, Calls Tryd.prog 33 #[.string s] w (SameD (measV (meas s 0 0 0)) w)) := fun w => measure_any s w hs
    generalize meas s 0 0 0 = m at *
    obtain ⟨e, sum⟩ := m
    dsimp only at *
    by_cases h1 : e = 0
    · have Hp : Hid (parseN s = (0, 30)) := by show _ = _; rw [HP.out, if_pos (.inl h1)]
      subst h1
      clear HP
      go_enter Tryd.func14, Tryd.ntmps14
      go_wp2_with (first | (go_at_call 33; refine (HM.out _).mono ?_; rintro x w' ⟨rfl, n2, rfl⟩; unfold measV))
      go_ret2
      exact ⟨by rw [Hp.out]; rfl, _, rfl⟩
    · have he0 : ((e : Int) == 0) = false := by simp; omega
      by_cases h2 : e < s.size
      · have Hp : Hid (parseN s = (0, 30)) := by show _ = _; rw [HP.out, if_pos (.inr h2)]
        clear HP h1
        go_enter Tryd.func14, Tryd.ntmps14
        go_wp2_with (first | (go_at_call 33; refine (HM.out _).mono ?_; rintro x w' ⟨rfl, n2, rfl⟩; unfold measV))
        go_ret2
        exact ⟨by rw [Hp.out]; rfl, _, rfl⟩
      · by_cases h3 : 315360000000000 < sum
        · have Hp : Hid (parseN s = (0, 31)) := by show _ = _; rw [HP.out, if_neg (by omega), if_pos (show Dur.M < sum by unfold Dur.M; omega)]
          clear HP h1
          go_enter Tryd.func14, Tryd.ntmps14
          go_wp2_with (first | (go_at_call 33; refine (HM.out _).mono ?_; rintro x w' ⟨rfl, n2, rfl⟩; unfold measV))
          go_ret2
          exact ⟨by rw [Hp.out]; rfl, _, rfl⟩
        · have Hp : Hid (parseN s = (sum, 0)) := by show _ = _; rw [HP.out, if_neg (by omega), if_neg (show ¬ Dur.M < sum by unfold Dur.M; omega)]
          clear HP h1
          go_enter Tryd.func14, Tryd.ntmps14
          go_wp2_with (first | (go_at_call 33; refine (HM.out _).mono ?_; rintro x w' ⟨rfl, n2, rfl⟩; unfold measV))
          go_ret2
          exact ⟨by rw [Hp.out]; rfl, _, rfl⟩

def PreRel (s : ByteArray) (ve vr : Value) : Prop := ∃ e r : Nat, e ≤ s.size ∧ r ≤ 7 ∧ ve = .int .i64 (e : Int) ∧ vr = .int .i64 (r : Int) ∧ (meas s 0 0 0).1 = (meas s e r 0).1

theorem meas_fst (s : ByteArray) (e r a b : Nat) : (meas s e r a).1 = (meas s e r b).1 := measF_fst s _ e r a b

end Go.Proofs.YtmgnhekpgeahmaaDoor
