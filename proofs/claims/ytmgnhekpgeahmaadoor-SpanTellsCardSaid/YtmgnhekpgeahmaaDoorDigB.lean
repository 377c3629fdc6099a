/- span.pow10, span.padded: what they answer. -/
import Derived.Test.YtmgnhekpgeahmaaDoorGrowB
import Derived.Test.YtmgnhekpgeahmaaDoorDigL
import Derived.Test.YtmgnhekpgeahmaaDoorDurRun
namespace Go.Proofs.YtmgnhekpgeahmaaDoor
open Go.Dur Go.Fl Go.Rel Go.RowKit

def Pow10Rel (k0 : Nat) (vk vp : Value) : Prop := ∃ r j : Nat, r + j = k0 ∧ vk = .int .i64 (r : Int) ∧ vp = .int .i64 ((pw j : Nat) : Int)

set_option maxHeartbeats 1000000 in
theorem pow10_any (k0 : Nat) (hk : k0 ≤ 3) (w : World) : Calls Tryd.prog 40 #[.int .i64 (k0 : Int)] w (Same (.int .i64 ((pw k0 : Nat) : Int)) w) := by
  go_enter Tryd.func40, Tryd.ntmps40
  go_wp2_with fail
  go_loop [0, 3] (Pow10Rel k0) (fun vk _ => (intOf vk).toNat)
  case atStart => exact ⟨k0, 0, rfl, rfl, rfl⟩
  case round =>
    obtain ⟨r, j, hrj, rfl, rfl⟩ := hrel
    by_cases h0 : r = 0
    · subst h0
      have hj : j = k0 := by omega
      subst hj
      go_wp2_with fail
      go_ret
      exact ⟨rfl, rfl⟩
    · obtain ⟨r, rfl⟩ : ∃ s, r = s + 1 := ⟨r - 1, by omega⟩
      obtain ⟨h1, h2⟩ := pw_succ (j := j) (by omega)
      have H1 := Lib.hid h1
      clear h1
      have HN : Hid (Pow10Rel k0 (.int .i64 (r : Int)) (.int .i64 ((pw j : Int) * 10))) := ⟨r, j + 1, by omega, rfl, by rw [H1.out]; rfl⟩
      generalize pw j = p at h2 HN H1
      go_wp2_with fail
      go_round
      case rel => exact HN.out
      case measure => simp [intOf]

theorem w64 {x : Int} (h : -1000000000 ≤ x) (h2 : x ≤ 1000000000) : wrap64 x = x := by unfold wrap64; omega
theorem dig_val (n p : Nat) (hn : n ≤ 1000000) : wrap64 (48 + (wrap64 ((n : Int) / (p : Int))).tmod 10) % 256 = ((48 + n / p % 10 : Nat) : Int) := by
  have e : (n : Int) / (p : Int) = ((n / p : Nat) : Int) := by rw [Int.natCast_ediv]
  have hq : n / p ≤ n := Nat.div_le_self _ _
  rw [e]
  generalize n / p = q at *
  have e1 : wrap64 (q : Int) = (q : Int) := w64 (by omega) (by omega)
  rw [e1, Int.tmod_eq_emod_of_nonneg (by omega)]
  have e2 : wrap64 (48 + (q : Int) % 10) = 48 + (q : Int) % 10 := w64 (by omega) (by omega)
  rw [e2]
  omega

def PaddedRel (n k : Nat) (l : List UInt8) (B : Nat) (w0 : World) (vb vp : Value) (wr : World) : Prop :=
  ∃ j, j ≤ k ∧ vp = .int .i64 ((pl k j : Nat) : Int) ∧ OwnB B wr vb (l ++ digs n k j) ∧ Below B w0 wr

def OwnRet (B : Nat) (w : World) (l : List UInt8) (e : Ending) (w' : World) : Prop := ∃ v, e = .returned v ∧ OwnB B w' v l ∧ Below B w w'

set_option maxHeartbeats 2000000 in
theorem padded_any (n k : Nat) (hk0 : 1 ≤ k) (hk : k ≤ 4) (hn : n ≤ 1000000) (B : Nat) (v : Value) (l : List UInt8) (w : World) (hB : B ≤ w.heap.size) (hown : OwnB B w v l) (hl : l.length ≤ 1000000) :
    Calls Tryd.prog 29 #[v, .int .i64 (n : Int), .int .i64 (k : Int)] w (OwnRet B w (l ++ digs n k k)) := by
  have HP := Lib.hid (pow10_any (k - 1) (by omega))
  have hk1 : ((k - 1 : Nat) : Int) = (k : Int) - 1 := by omega
  rw [hk1] at HP
  have HPL : Hid (pw (k - 1) = pl k 0) := by show _ = _; unfold pl; rw [if_pos (by omega), Nat.sub_zero]
  rw [HPL.out] at HP
  have HO := Lib.hid hown
  clear hown hk1
  go_enter Tryd.func29, Tryd.ntmps29
  go_wp2_with (go_at_call 40; refine (HP.out _).mono ?_; rintro e w' ⟨rfl, rfl⟩)
  go_loopw [0, 7] (PaddedRel n k l B w) (fun _ vp _ => (intOf vp).toNat)
  case atStart => exact ⟨0, by omega, rfl, by rw [show digs n k 0 = [] from rfl, List.append_nil]; exact HO.out, Below.refl _ _⟩
  case round =>
    obtain ⟨j, hj, rfl, hob, bw⟩ := hrel
    have HOB := Lib.hid hob
    have hsz := bw.size
    clear hob
    by_cases hjk : j < k
    · obtain ⟨p0, p1, p2⟩ := pl_step hk hjk
      have HP2 := Lib.hid p2
      have HD : Hid (l ++ digs n k (j + 1) = l ++ digs n k j ++ [dgt n (pl k j)]) := by show _ = _; rw [digs, List.append_assoc]
      have HV := Lib.hid (dgt_nat n (pl k j))
      have HL : Hid ((l ++ digs n k j).length ≤ 1000004) := by show _ ≤ _; rw [List.length_append, length_digs]; omega
      clear p2
      generalize pl k j = p at *
      generalize dgt n p = y at HV HD
      go_wp2_with (at_builtin; refine wpList_append_b rfl (.tmp 15) (.tmp 22) rfl B _ (l ++ digs n k j) rfl (OwnB.alloc HOB.out _) wr.heap.size _ [y] 1 rfl rfl (byte_one _ _ _ _ ((dig_val n p hn).trans (congrArg _ HV.out.symm))) (by have := HL.out; omega) (by simp; omega) ?_; intro v' w' hown' hg hv)
      go_roundw
      case rel => exact ⟨j + 1, by omega, by rw [HP2.out]; simp, by rw [HD.out]; exact hown', (OwnB.alloc HOB.out _).below (bw.alloc (by omega) _) hg (by simp; omega)⟩
      case measure => simp [intOf]; omega
    · have hjk' : j = k := by omega
      subst hjk'
      have h0 : pl j j = 0 := by unfold pl; rw [if_neg (by omega)]
      have H0 := Lib.hid h0
      rw [h0]
      go_wp2_with fail
      go_ret
      exact ⟨_, rfl, HOB.out, bw⟩
end Go.Proofs.YtmgnhekpgeahmaaDoor
