/- Stamp and Step on both sides. -/
import Derived.Test.YtmgnhekpgeahmaaDoorDated
import Derived.Test.YtmgnhekpgeahmaaDoorDateRef
import Derived.Test.YtmgnhekpgeahmaaDoorDurRefParse
namespace Go.Proofs.YtmgnhekpgeahmaaDoor
open Go.Dur Go.Fl Go.RowKit

def rng (v : Int) : Int × Int := if v < -62167219200000 ∨ 253402300799999 < v then (0, 33) else (v, 0)
def stN (s : ByteArray) : Int × Int := if 64 < s.size then (0, 1) else if secOk s = true then rng (plainN s) else if datOk s = true then rng (datT s - (zoR s).1) else (0, 32)
def st2 (v : Int) : Int × Int := if v ≤ 0 then (0, 34) else if 315360000000000 < v then (0, 31) else (v, 0)
def stepN (s : ByteArray) : Int × Int := if 64 < s.size then (0, 1) else if (meas s 0 0 0).1 = 0 ∨ (meas s 0 0 0).1 < s.size then (if secOk s = true then st2 (plainN s) else (0, 30)) else st2 ((meas s 0 0 0).2 : Nat)

theorem half_cases (t : ByteArray) : halfN t = -1 ∨ halfN t = 0 ∨ halfN t = 1 := by
  unfold halfN; split
  · exact .inl rfl
  · split
    · exact .inr (.inr rfl)
    · exact .inr (.inl rfl)

theorem near_plain (s : ByteArray) : plainN s = nearN (minusB s) (wholeS s) (fracS s) ∨ (100000000000000000 ≤ plainN s ∧ 100000000000000000 ≤ nearN (minusB s) (wholeS s) (fracS s)) ∨ (plainN s ≤ -100000000000000000 ∧ nearN (minusB s) (wholeS s) (fracS s) ≤ -100000000000000000) := by
  have hc := cap_dec (wholeS s) (wholeS s).size
  have hs : satN (wholeS s) (wholeS s).size = min (decN (wholeS s) (wholeS s).size) 315360000000001 := rfl
  unfold plainN nearN
  dsimp only
  rw [hs]
  generalize decN (wholeS s) (wholeS s).size = D at *
  generalize capN (wholeS s) (wholeS s).size = C at *
  generalize milN (fracS s) 3 = m
  by_cases h14 : C < 100000000000000
  · have hD := hc.1 h14
    subst hD
    have e : min C 315360000000001 = C := by omega
    rw [e]
    left
    rcases half_cases (fracS s) with h | h | h <;> rw [h] <;> cases minusB s <;> simp [upN]
  · have hD := hc.2 (by omega)
    have e : 100000000000000 ≤ min D 315360000000001 := by omega
    right
    generalize min D 315360000000001 = N at *
    cases minusB s
    · left
      constructor
      · simp only [Bool.false_eq_true, if_false]; omega
      · simp only [Bool.false_eq_true, if_false]; omega
    · right
      constructor
      · simp only [if_true]; omega
      · simp only [if_true]; omega

theorem rng_near (s : ByteArray) : rng (nearN (minusB s) (wholeS s) (fracS s)) = rng (plainN s) := by
  rcases near_plain s with h | ⟨h1, h2⟩ | ⟨h1, h2⟩
  · rw [h]
  · unfold rng; rw [if_pos (by omega), if_pos (by omega)]
  · unfold rng; rw [if_pos (by omega), if_pos (by omega)]
theorem st2_near (s : ByteArray) : st2 (nearN (minusB s) (wholeS s) (fracS s)) = st2 (plainN s) := by
  rcases near_plain s with h | ⟨h1, h2⟩ | ⟨h1, h2⟩
  · rw [h]
  · generalize nearN (minusB s) (wholeS s) (fracS s) = a at *
    generalize plainN s = b at *
    unfold st2; rw [if_neg (show ¬ a ≤ 0 by omega), if_pos (show 315360000000000 < a by omega), if_neg (show ¬ b ≤ 0 by omega), if_pos (show 315360000000000 < b by omega)]
  · unfold st2; rw [if_pos (by omega), if_pos (by omega)]

theorem rng_cases (v : Int) : (v < -62167219200000 ∧ rng v = (0, 33)) ∨ (253402300799999 < v ∧ -62167219200000 ≤ v ∧ rng v = (0, 33)) ∨ (-62167219200000 ≤ v ∧ v ≤ 253402300799999 ∧ rng v = (v, 0)) := by
  unfold rng
  by_cases h1 : v < -62167219200000
  · exact .inl ⟨h1, by rw [if_pos (.inl h1)]⟩
  · by_cases h2 : 253402300799999 < v
    · exact .inr (.inl ⟨h2, by omega, by rw [if_pos (.inr h2)]⟩)
    · exact .inr (.inr ⟨by omega, by omega, by rw [if_neg (by omega)]⟩)
theorem st2_cases (v : Int) : (v ≤ 0 ∧ st2 v = (0, 34)) ∨ (0 < v ∧ 315360000000000 < v ∧ st2 v = (0, 31)) ∨ (0 < v ∧ v ≤ 315360000000000 ∧ st2 v = (v, 0)) := by
  unfold st2
  by_cases h1 : v ≤ 0
  · exact .inl ⟨h1, by rw [if_pos h1]⟩
  · by_cases h2 : 315360000000000 < v
    · exact .inr (.inl ⟨by omega, h2, by rw [if_neg h1, if_pos h2]⟩)
    · exact .inr (.inr ⟨by omega, by omega, by rw [if_neg h1, if_neg h2]⟩)

set_option maxHeartbeats 2000000 in
theorem stamp_any (s : ByteArray) (w : World) (hs : s.size ≤ 9223372036854775806) : Calls Tryd.prog 17 #[.string s] w (MRet (stN s).1 (stN s).2 w) := by
  by_cases hbig : 64 < s.size
  · have hp : stN s = (0, 1) := by unfold stN; rw [if_pos hbig]
    rw [hp]
    go_enter Tryd.func17, Tryd.ntmps17
    go_wp2_with fail
    go_ret2
    exact ⟨rfl, Below.refl _ _⟩
  · have HP := Lib.hid (fun w => plain_any s w hs)
    have HD := Lib.hid (fun w => dated_any s w hs)
    cases hok : secOk s
    · have hV : plainV s = .tuple #[.int .i64 0, .bool false] := by unfold plainV; rw [if_neg (by rw [hok]; simp)]
      rw [hV] at HP
      cases hdk : datOk s
      · have hW : datedV s = .tuple #[.int .i64 0, .bool false] := by unfold datedV; rw [if_neg (by rw [hdk]; simp)]
        rw [hW] at HD
        have hp : stN s = (0, 32) := by unfold stN; rw [if_neg hbig, if_neg (by rw [hok]; simp), if_neg (by rw [hdk]; simp)]
        rw [hp]
        clear hok hdk hV hW hp
        go_enter Tryd.func17, Tryd.ntmps17
        go_wp2_with (first | (go_at_call 34; refine (HP.out _).mono ?_; rintro x w1 ⟨rfl, b1⟩) | (go_at_call 35; refine (HD.out _).mono ?_; rintro x w2 ⟨rfl, b2⟩))
        go_ret2
        exact ⟨rfl, b1.trans (b2.mono b1.size)⟩
      · have hW : datedV s = .tuple #[.int .i64 (datT s - (zoR s).1), .bool true] := by unfold datedV; rw [if_pos hdk]
        rw [hW] at HD
        have hp : stN s = rng (datT s - (zoR s).1) := by unfold stN; rw [if_neg hbig, if_neg (by rw [hok]; simp), if_pos hdk]
        have hr := rng_cases (datT s - (zoR s).1)
        rw [← hp] at hr
        clear hok hdk hV hW hp
        generalize datT s - (zoR s).1 = v at *
        rcases hr with ⟨r1, r2⟩ | ⟨r1, r3, r2⟩ | ⟨r1, r3, r2⟩
        all_goals
          rw [r2]
          clear r2
          go_enter Tryd.func17, Tryd.ntmps17
          go_wp2_with (first | (go_at_call 34; refine (HP.out _).mono ?_; rintro x w1 ⟨rfl, b1⟩) | (go_at_call 35; refine (HD.out _).mono ?_; rintro x w2 ⟨rfl, b2⟩))
          go_ret2
          exact ⟨rfl, b1.trans (b2.mono b1.size)⟩
    · have hV : plainV s = .tuple #[.int .i64 (plainN s), .bool true] := by unfold plainV; rw [if_pos hok]
      rw [hV] at HP
      have hp : stN s = rng (plainN s) := by unfold stN; rw [if_neg hbig, if_pos hok]
      have hr := rng_cases (plainN s)
      rw [← hp] at hr
      clear hok hV hp HD
      generalize plainN s = v at *
      rcases hr with ⟨r1, r2⟩ | ⟨r1, r3, r2⟩ | ⟨r1, r3, r2⟩
      all_goals
        rw [r2]
        clear r2
        go_enter Tryd.func17, Tryd.ntmps17
        go_wp2_with (first | (go_at_call 34; refine (HP.out _).mono ?_; rintro x w1 ⟨rfl, b1⟩))
        go_ret2
        exact ⟨rfl, b1⟩

end Go.Proofs.YtmgnhekpgeahmaaDoor
