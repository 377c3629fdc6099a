/- weirref03.decimal: what it answers. weirref03.Text: what it answers. weirref03.Seconds: what it answers. weirref03.Civil: what it answers. weirref03.Date: what it answers in the range. -/
import Derived.Test.YtmgnhekpgeahmaaDoorTextW
import Derived.Test.YtmgnhekpgeahmaaDoorOffsets
import Derived.Test.YtmgnhekpgeahmaaDoorCivil
import Derived.Test.YtmgnhekpgeahmaaDoorDateLaw
import Derived.Test.YtmgnhekpgeahmaaDoorBox
import Derived.Test.YtmgnhekpgeahmaaDoorDateW
namespace Go.Proofs.YtmgnhekpgeahmaaDoor
open Go.Dur Go.Fl Go.Rel Go.RowKit
open Go.Lib (decDigits)

def DecRel (n k : Nat) (w0 : World) (vn vs : Value) (wr : World) : Prop :=
  ∃ (m : Nat) (l : List UInt8), dcm n k = dcm m (k - l.length) ++ l ∧ m ≤ n ∧ vn = .int .u64 (m : Int) ∧ vs = .string ⟨l.toArray⟩ ∧ Below w0.heap.size w0 wr

theorem size_list (l : List UInt8) : (⟨l.toArray⟩ : ByteArray).size = l.length := by show l.toArray.size = _; simp
theorem cat_one (c : UInt8) (l : List UInt8) : (⟨[c].toArray⟩ : ByteArray) ++ ⟨l.toArray⟩ = ⟨(c :: l).toArray⟩ := by
  apply ByteArray.ext
  rw [ByteArray.data_append]
  simp

set_option maxHeartbeats 4000000 in
theorem decimal_any (n k : Nat) (hn : n ≤ 18446744073709551615) (hl : (dcm n k).length ≤ 1000) (w : World) :
    Calls Tryd.prog 28 #[.int .u64 (n : Int), .int .i64 (k : Int)] w (TextW (dcm n k) w) := by
  have HL := Lib.hid hl
  clear hl
  go_enter Tryd.func28, Tryd.ntmps28
  go_wp2_with fail
  go_loopw [0, 5] (DecRel n k w) (fun vn vs _ => (intOf vn).toNat + (k - match vs with | .string s => s.size | _ => 0))
  case atStart => exact ⟨n, [], by simp, Nat.le_refl _, rfl, rfl, Below.refl _ _⟩
  case round =>
    obtain ⟨m, l, hd, hm, rfl, rfl, bw⟩ := hrel
    have hln : l.length ≤ 1000 := by have := HL.out; rw [hd, List.length_append] at this; omega
    have hS := size_list l
    have HD := Lib.hid hd
    clear hd
    by_cases hgo : m = 0 ∧ k ≤ l.length
    · obtain ⟨hm0, hkl⟩ := hgo
      have HE : Hid (dcm n k = l) := by show _ = _; rw [HD.out, hm0, Nat.sub_eq_zero_of_le hkl, dcm_stop]; rfl
      obtain ⟨S, hSe⟩ : ∃ S : ByteArray, S = ⟨l.toArray⟩ := ⟨_, rfl⟩
      rw [← hSe] at hS ⊢
      have hc : decide (S.size < k) = false := decide_eq_false (by rw [hS]; omega)
      subst hm0
      have HSe := Lib.hid hSe
      have hsz : S.size ≤ 1000 := by rw [hS]; exact hln
      clear hS hkl hSe
      go_wp2_with fail
      go_ret
      refine ⟨?_, bw⟩
      rw [HE.out, ← HSe.out]
      rfl
    · have HT : Hid (dcm m (k - l.length) = dcm (m / 10) (k - (UInt8.ofNat (48 + m % 10) :: l).length) ++ [UInt8.ofNat (48 + m % 10)]) := by
        show _ = _
        rw [dcm_step (by omega), List.length_cons]
        rw [show k - l.length - 1 = k - (l.length + 1) by omega]
      have hcv := fun (z : Int) (hz : z = 48 + (m : Int) % 10) => run_convert_bytes_back (P := Tryd.prog) (wr.alloc (.cells #[.int .u8 z] 5)) 36 9 5 ⟨wr.heap.size, 0, none⟩ 1 [UInt8.ofNat (48 + m % 10)] Tryd.underlying36 Tryd.underlying5 Tryd.underlying9 (fun j hj => by
        match j, hj with
        | 0, _ =>
          rw [show (⟨wr.heap.size, 0, none⟩ : Addr).add 0 = ⟨wr.heap.size, 0, none⟩ from rfl, World.cell?_alloc_at _ _ _ _ rfl]
          show some (Value.int .u8 z) = some (Value.int .u8 ((UInt8.ofNat (48 + m % 10)).toNat : Int))
          rw [byte48 _ (by omega), hz]; congr 2)
      have HCV := Lib.hid hcv
      clear hcv
      have ad1 := fun w' => run_string_add_sum (P := Tryd.prog) (w := w') (⟨[UInt8.ofNat (48 + m % 10)].toArray⟩ : ByteArray) (⟨l.toArray⟩ : ByteArray) (by rw [hS, size_list]; simp; omega)
      rw [cat_one] at ad1
      have HLE : Hid (l.length ≤ 1000) := hln
      obtain ⟨S, hSe⟩ : ∃ S : ByteArray, S = ⟨l.toArray⟩ := ⟨_, rfl⟩
      obtain ⟨Y, hYe⟩ : ∃ S : ByteArray, S = ⟨[UInt8.ofNat (48 + m % 10)].toArray⟩ := ⟨_, rfl⟩
      obtain ⟨S2, hS2e⟩ : ∃ S : ByteArray, S = ⟨(UInt8.ofNat (48 + m % 10) :: l).toArray⟩ := ⟨_, rfl⟩
      rw [← hSe, ← hYe, ← hS2e] at ad1
      have HYe := Lib.hid hYe
      rw [← hSe] at hS ⊢
      have hS2 : S2.size = S.size + 1 := by rw [hS2e, size_list, hS]; rfl
      have hsz : S.size ≤ 1000 := by rw [hS]; exact hln
      have hsz1 : S.size < S2.size := by omega
      have hkk : m = 0 → decide (S.size < k) = true := fun h => decide_eq_true (by rw [hS]; omega)
      have HS2e := Lib.hid hS2e
      have HM : Hid (0 < m ∨ S.size < k) := by
        show _ ∨ _
        rw [hS]; omega
      have HSS := Lib.hid hS2
      clear hS hSe hYe hS2e hgo hln hS2
      have hm10 : (m : Int) / 10 = ((m / 10 : Nat) : Int) := by omega
      have HM10 := Lib.hid hm10
      clear hm10
      by_cases h0 : m = 0
      · have hcd := hkk h0
        subst h0
        have hcv0 := HCV.out 48 (by decide)
        rw [← HYe.out, show ([UInt8.ofNat (48 + 0 % 10)] : List UInt8).length = 1 from rfl] at hcv0
        clear hkk
        go_wp2_with fail
        go_roundw
        case rel => exact ⟨0 / 10, UInt8.ofNat (48 + 0 % 10) :: l, by rw [HD.out, HT.out, List.append_assoc]; rfl, by omega, rfl, by rw [HS2e.out], bw.alloc (by exact bw.size) _⟩
        case measure => simp [intOf]; have := HM.out; have := HSS.out; omega
      · have hcv0 := HCV.out (48 + (m : Int) % 10) rfl
        rw [← HYe.out, show ([UInt8.ofNat (48 + m % 10)] : List UInt8).length = 1 from rfl] at hcv0
        clear hkk
        go_wp2_with fail
        go_roundw
        case rel => exact ⟨m / 10, UInt8.ofNat (48 + m % 10) :: l, by rw [HD.out, HT.out, List.append_assoc]; rfl, by omega, by rw [HM10.out], by rw [HS2e.out], bw.alloc (by exact bw.size) _⟩
        case measure => simp [intOf]; have := HM.out; have := HSS.out; omega
end Go.Proofs.YtmgnhekpgeahmaaDoor

namespace Go.Proofs.YtmgnhekpgeahmaaDoor
open Go.Dur Go.Fl Go.Rel Go.RowKit
open Go.Lib (decDigits)

def namesV : Array Value := #[.string ⟨#[121]⟩, .string ⟨#[119]⟩, .string ⟨#[100]⟩, .string ⟨#[104]⟩, .string ⟨#[109]⟩, .string ⟨#[115]⟩, .string ⟨#[109, 115]⟩]
theorem names_at (u : Nat) (h : u < 7) : namesV[u]? = some (.string ⟨(nmL u).toArray⟩) := by
  match u, h with
  | 0, _ | 1, _ | 2, _ | 3, _ | 4, _ | 5, _ | 6, _ => rfl

theorem unit_nm (u : Nat) (h : u < 7) : unitOf ⟨(nmL u).toArray⟩ 0 = ((nmL u).length, szN u, u + 1) := by
  match u, h with
  | 0, _ | 1, _ | 2, _ | 3, _ | 4, _ | 5, _ | 6, _ => decide +kernel

def RTextRel (m : Nat) (W0 : World) (vm vs vk : Value) (wr : World) : Prop :=
  ∃ u : Nat, u ≤ 7 ∧ vk = .int .i64 (u : Int) ∧ vm = .int .i64 ((rst u m : Nat) : Int) ∧ vs = .string ⟨(tx u m).toArray⟩ ∧ Below W0.heap.size W0 wr

theorem reftext_out (t : Int) (h : t < 0 ∨ 315360000000000 < t) (w : World) : Calls Tryd.prog 9 #[.int .i64 t] w (Same (.tuple #[.string ⟨#[]⟩, .int .i64 2]) w) := by
  by_cases h0 : t < 0
  · have d0 : decide (t < 0) = true := decide_eq_true h0
    go_enter Tryd.func9, Tryd.ntmps9
    go_wp2_with fail
    go_ret2
    exact ⟨rfl, rfl⟩
  · have d0 : decide (t < 0) = false := decide_eq_false h0
    have d1 : decide (315360000000000 < t) = true := decide_eq_true (by omega)
    go_enter Tryd.func9, Tryd.ntmps9
    go_wp2_with fail
    go_ret2
    exact ⟨rfl, rfl⟩
theorem reftext_zero (w : World) : Calls Tryd.prog 9 #[.int .i64 0] w (Same (.tuple #[.string ⟨#[48, 115]⟩, .int .i64 0]) w) := by
  go_enter Tryd.func9, Tryd.ntmps9
  go_wp2_with fail
  go_ret2
  exact ⟨rfl, rfl⟩

set_option maxHeartbeats 4000000 in
set_option maxRecDepth 100000 in
theorem reftext_any (m : Nat) (h0 : 0 < m) (h1 : m ≤ 315360000000000) (w : World) :
    Calls Tryd.prog 9 #[.int .i64 (m : Int)] w (TextRet m w) := by
  have d0 : decide ((m : Int) < 0) = false := decide_eq_false (by omega)
  have d1 : decide ((315360000000000 : Int) < (m : Int)) = false := decide_eq_false (by omega)
  have d2 : ((m : Int) == 0) = false := by simp; omega
  go_enter Tryd.func9, Tryd.ntmps9
  go_wp2_with fail
  obtain ⟨W0, hW0⟩ : ∃ W0, W0 = w.alloc (.cells namesV 48) := ⟨_, rfl⟩
  go_loopw [0, 5, 6] (RTextRel m W0) (fun _ _ vu _ => (7 - intOf vu).toNat)
  case atStart => exact ⟨0, by omega, rfl, rfl, rfl, by rw [hW0]; exact Below.refl _ _⟩
  case round =>
    obtain ⟨u, hu, rfl, rfl, rfl, bw⟩ := hrel
    clear d0 d1 d2
    have hB0 : w.heap.size + 1 = W0.heap.size := by rw [hW0]; simp
    have hsz := bw.size
    by_cases hlt : u < 7
    · have hc : wr.cell? ⟨w.heap.size, u, none⟩ = some (.string ⟨(nmL u).toArray⟩) := by
        rw [bw.cell (p := ⟨w.heap.size, u, none⟩) (by show w.heap.size < W0.heap.size; omega), hW0, World.cell?_alloc_at _ _ _ _ rfl]
        exact names_at u hlt
      have HB0 := Lib.hid hB0
      clear hW0 hB0
      have HL : Hid ((tx u m).length ≤ 60) := tx_len m h1 u hu
      have hr := rst_le u m
      have hs := szN_pos u
      have HU : Hid (rst (u + 1) m = rst u m % szN u) := rfl
      have HX : Hid (tx (u + 1) m = tx u m ++ (if rst u m / szN u = 0 then [] else decDigits (rst u m / szN u) ++ nmL u)) := rfl
      have HUN : Hid (∀ w, Calls Tryd.prog 27 #[.string ⟨(nmL u).toArray⟩, .int .i64 0] w (Same (.tuple #[.int .i64 (((nmL u).length : Nat) : Int), .int .i64 ((szN u : Nat) : Int), .int .i64 ((u + 1 : Nat) : Int)]) w)) := fun w => by
        have := refunit_any ⟨(nmL u).toArray⟩ 0 w (by rw [size_list]; have := nm_len u; omega)
        rw [unit_nm u hlt] at this
        exact this
      have HNL : Hid ((nmL u).length ≤ 2) := (nm_len u).2
      generalize tx u m = l at *
      generalize rst u m = r at *
      generalize szN u = sz at *
      generalize nmL u = nm at *
      have hq : r / sz ≤ r := Nat.div_le_self _ _
      have hdm := Nat.div_add_mod r sz
      obtain ⟨q, hqe⟩ : ∃ q, q = r / sz := ⟨_, rfl⟩
      obtain ⟨k, hke⟩ : ∃ q, q = r % sz := ⟨_, rfl⟩
      have hqi : (r : Int) / (sz : Int) = (q : Int) := by rw [hqe, Int.natCast_ediv]
      have hpi : (q : Int) * (sz : Int) = ((q * sz : Nat) : Int) := by rw [Int.natCast_mul]
      obtain ⟨p, hpe⟩ : ∃ p, p = q * sz := ⟨_, rfl⟩
      rw [← hpe] at hpi
      have hsum : p + k = r := by rw [hpe, hke, hqe, Nat.mul_comm]; exact hdm
      have HSUM := Lib.hid hsum
      have HQE := Lib.hid hqe
      have HKE := Lib.hid hke
      have hp2 : p ≤ r := by omega
      have hq2 : q ≤ r := by rw [hqe]; exact hq
      clear hq hdm hqe hke hpe hsum
      have HX3 : Hid (tx (u + 1) m = l ++ (if q = 0 then [] else decDigits q ++ nm)) := by show _ = _; rw [HQE.out]; exact HX.out
      have HU3 : Hid (rst (u + 1) m = k) := by show _ = _; rw [HKE.out]; exact HU.out
      clear HX HU
      by_cases hz : q = 0
      · have HX2 : Hid (tx (u + 1) m = l) := by show _ = _; rw [HX3.out, if_pos hz, List.append_nil]
        subst hz
        have hsp := hs.1
        have S0 : Hid (p = 0) := by
          show p = 0
          have : ((0 : Nat) : Int) * (sz : Int) = (p : Int) := hpi
          omega
        clear hs
        go_wp2_with (first | (go_at_call 27; ((with_reducible refine (HUN.out _).mono ?_); rintro e w' ⟨rfl, rfl⟩)))
        go_roundw
        case rel => exact ⟨u + 1, by omega, by go_num, by rw [HU3.out]; have := HSUM.out; have := S0.out; rw [show k = r by omega], by rw [HX2.out], bw⟩
        case measure => simp [intOf]; omega
      · have HX2 : Hid (tx (u + 1) m = l ++ (decDigits q ++ nm)) := by show _ = _; rw [HX3.out, if_neg hz]
        have hdl : (decDigits q).length ≤ 100 := by
          have := dec_len 17 q (by omega)
          omega
        have HDE : Hid (∀ w1, Calls Tryd.prog 28 #[.int .u64 (q : Int), .int .i64 1] w1 (TextW (decDigits q) w1)) := fun w1 => by
          have := decimal_any q 1 (by omega) (by rw [dcm_one]; omega) w1
          rw [dcm_one] at this
          exact this
        have s1 : (⟨l.toArray⟩ : ByteArray).size ≤ 60 := by rw [size_list]; exact HL.out
        have s2 : (⟨nm.toArray⟩ : ByteArray).size ≤ 2 := by rw [size_list]; exact HNL.out
        have s3 : (⟨(decDigits q).toArray⟩ : ByteArray).size ≤ 100 := by rw [size_list]; exact hdl
        have HCAT : Hid ((⟨l.toArray⟩ : ByteArray) ++ ((⟨(decDigits q).toArray⟩ : ByteArray) ++ (⟨nm.toArray⟩ : ByteArray)) = ⟨(l ++ (decDigits q ++ nm)).toArray⟩) := by
          show _ = _
          rw [cat_list, cat_list]
        unfold TextW at HDE
        generalize (⟨l.toArray⟩ : ByteArray) = SL at *
        generalize (⟨nm.toArray⟩ : ByteArray) = SN at *
        generalize (⟨(decDigits q).toArray⟩ : ByteArray) = SD at *
        have ad1 := fun w' => run_string_add_sum (P := Tryd.prog) (w := w') SD SN (by omega)
        have s4 : (SD ++ SN).size ≤ 102 := by rw [ByteArray.size_append]; omega
        have ad2 := fun w' => run_string_add_sum (P := Tryd.prog) (w := w') SL (SD ++ SN) (by omega)
        have HRK : Hid ((r : Int) - (p : Int) = (k : Int)) := by show _ = _; have := HSUM.out; omega
        have hrk : 0 ≤ (r : Int) - (p : Int) := by omega
        have hsp := hs.1
        have hq0 : 0 < q := by omega
        have hwr : IntKind.u64.wrap (q : Int) = (q : Int) := by rw [IntKind.wrap_u64]; omega
        clear hs s1 s2 s3 s4 hdl
        have BD : Below wr.heap.size wr wr.drew := (Below.refl _ _).drewN' 1
        have KEEP : Hid (∀ W', Below wr.heap.size wr W' → (Below wr.heap.size wr W' ∧ W'.cell? ⟨w.heap.size, u, none⟩ = some (.string SN))) := fun W' hb => ⟨hb, by rw [hb.cell (p := ⟨w.heap.size, u, none⟩) (by show w.heap.size < wr.heap.size; have := HB0.out; omega)]; exact hc⟩
        go_wp2_with (first | (go_at_call 27; ((with_reducible refine (HUN.out _).mono ?_); rintro e w' ⟨rfl, rfl⟩)))
        go_region_held3 (fun w' => Below wr.heap.size wr w' ∧ w'.cell? ⟨w.heap.size, u, none⟩ = some (.string SN)) (first | exact KEEP.out _ bb | exact KEEP.out _ BD) (first | (go_at_call 28; (with_reducible refine (HDE.out _).mono ?_); rintro e w1 ⟨rfl, b1⟩; have bb := BD.trans b1))
        have BBH := Lib.hid bb
        go_wp2_with fail
        go_roundw
        case rel => exact ⟨u + 1, by omega, by go_num, by rw [HU3.out, ← HRK.out]; try rfl, by rw [HX2.out, ← HCAT.out], bw.trans (BBH.out.mono hsz)⟩
        case measure => simp [intOf]; omega
    · obtain rfl : u = 7 := by omega
      go_wp2_with fail
      go_ret2
      exact ⟨rfl, (show Below w.heap.size w W0 by rw [hW0]; exact (Below.refl _ _).alloc (Nat.le_refl _) _).trans (bw.mono (by omega))⟩
end Go.Proofs.YtmgnhekpgeahmaaDoor

namespace Go.Proofs.YtmgnhekpgeahmaaDoor
open Go.Dur Go.Fl Go.Rel Go.RowKit
open Go.Lib (decDigits)

def LeftRel (r : Nat) (S1 S2 S3 : ByteArray) (w1 : World) (v : Value) (wr : World) : Prop :=
  ∃ k, wr = w1.drewN k ∧ (v = .string S3 ∨ (r % 10 = 0 ∧ v = .string S2) ∨ (r % 10 = 0 ∧ r / 10 % 10 = 0 ∧ v = .string S1) ∨ (r = 0 ∧ v = .string ⟨#[]⟩))

def strLen (v : Value) : Nat := match v with | .string s => s.size | _ => 0

theorem ext_list (l m : List UInt8) : (⟨(l ++ m).toArray⟩ : ByteArray).extract 0 l.length = ⟨l.toArray⟩ := by
  apply ByteArray.ext
  rw [ByteArray.data_extract]
  apply Array.ext'
  simp
theorem ba_nonempty2 {s : ByteArray} (h : s.size ≠ 0) : s.toList.isEmpty = false := by
  rw [ByteArray.toList_eq]
  obtain ⟨⟨l⟩⟩ := s
  cases l with
  | nil => exact absurd rfl h
  | cons a r => rfl

set_option maxHeartbeats 8000000 in
set_option maxRecDepth 100000 in
theorem refsecs_any (t : Int) (h0 : -9223372036854775808 ≤ t) (h1 : t ≤ 9223372036854775807) (w : World) :
    Calls Tryd.prog 12 #[.int .i64 t] w (TextW (secL t) w) := by
  obtain ⟨n, hn⟩ : ∃ n : Nat, n = t.natAbs := ⟨_, rfl⟩
  have hnb : n ≤ 9223372036854775808 := by omega
  have HDE : Hid (∀ w1, Calls Tryd.prog 28 #[.int .u64 ((n : Int) / 1000), .int .i64 1] w1 (TextW (decDigits (n / 1000)) w1)) := fun w1 => by
    have hd := dec_len 17 (n / 1000) (by omega)
    have := decimal_any (n / 1000) 1 (by omega) (by rw [dcm_one]; omega) w1
    rw [dcm_one, show ((n / 1000 : Nat) : Int) = (n : Int) / 1000 by omega] at this
    exact this
  obtain ⟨r, hr⟩ : ∃ r, r = n % 1000 := ⟨_, rfl⟩
  have HD3 : Hid (∀ w1, Calls Tryd.prog 28 #[.int .u64 ((n : Int) % 1000), .int .i64 3] w1 (TextW (dig3 r) w1)) := fun w1 => by
    have := decimal_any r 3 (by omega) (by rw [dcm_three (by omega)]; simp [dig3]) w1
    rw [dcm_three (by omega), show (r : Int) = (n : Int) % 1000 by omega] at this
    exact this
  have hr3 : r ≤ 999 := by omega
  have HSEC : Hid (secL t = sgL t ++ decDigits (n / 1000) ++ frL r) := by show _ = _; rw [hr, hn]; rfl
  have HFR : Hid (frL r = if r = 0 then [] else 46 :: (if r % 10 ≠ 0 then [dgt r 100, dgt r 10, dgt r 1] else if r / 10 % 10 ≠ 0 then [dgt r 100, dgt r 10] else [dgt r 100])) := rfl
  obtain ⟨S3, hS3⟩ : ∃ S : ByteArray, S = ⟨(dig3 r).toArray⟩ := ⟨_, rfl⟩
  obtain ⟨S2, hS2⟩ : ∃ S : ByteArray, S = ⟨([dgt r 100, dgt r 10] : List UInt8).toArray⟩ := ⟨_, rfl⟩
  obtain ⟨S1, hS1⟩ : ∃ S : ByteArray, S = ⟨([dgt r 100] : List UInt8).toArray⟩ := ⟨_, rfl⟩
  have z3 : S3.size = 3 := by rw [hS3]; rfl
  have z2 : S2.size = 2 := by rw [hS2]; rfl
  have z1 : S1.size = 1 := by rw [hS1]; rfl
  have b3 := bt_get S3 (show 2 < S3.size by omega)
  have b2 := bt_get S2 (show 1 < S2.size by omega)
  have b1 := bt_get S1 (show 0 < S1.size by omega)
  have V3 : Hid (bt S3 2 = 48 + r % 10) := by show _ = _; rw [hS3]; show (dgt r 1).toNat = _; rw [dgt_nat]; omega
  have V2 : Hid (bt S2 1 = 48 + r / 10 % 10) := by show _ = _; rw [hS2]; show (dgt r 10).toNat = _; rw [dgt_nat]
  have V1 : Hid (bt S1 0 = 48 + r / 100 % 10) := by show _ = _; rw [hS1]; show (dgt r 100).toNat = _; rw [dgt_nat]
  have sl3 := fun w' => slice_head S3 2 2 w' rfl (by omega)
  have sl2 := fun w' => slice_head S2 1 1 w' rfl (by omega)
  have sl1 := fun w' => slice_head S1 0 0 w' rfl (by omega)
  have x3 : S3.extract 0 2 = S2 := by rw [hS3, hS2]; exact ext_list [dgt r 100, dgt r 10] [dgt r 1]
  have x2 : S2.extract 0 1 = S1 := by rw [hS2, hS1]; exact ext_list [dgt r 100] [dgt r 10]
  have x1 : S1.extract 0 0 = ⟨#[]⟩ := by rw [hS1]; exact ext_list [] [dgt r 100]
  rw [x3] at sl3
  rw [x2] at sl2
  rw [x1] at sl1
  have e3 := ba_nonempty2 (s := S3) (by omega)
  have e2 := ba_nonempty2 (s := S2) (by omega)
  have e1 := ba_nonempty2 (s := S1) (by omega)
  obtain ⟨SG, hSG⟩ : ∃ S : ByteArray, S = ⟨(sgL t).toArray⟩ := ⟨_, rfl⟩
  obtain ⟨SD, hSD⟩ : ∃ S : ByteArray, S = ⟨(decDigits (n / 1000)).toArray⟩ := ⟨_, rfl⟩
  have g1 : SG.size ≤ 1 := by rw [hSG, size_list]; unfold sgL; split <;> simp
  have g2 : SD.size ≤ 100 := by rw [hSD, size_list]; have := dec_len 17 (n / 1000) (by omega); omega
  have HE0 : Hid (r = 0 → SG ++ SD = ⟨(secL t).toArray⟩) := fun hz => by
    rw [hSG, hSD, cat_list, HSEC.out, HFR.out, if_pos hz, List.append_nil]
  have HE : Hid (∀ (S : ByteArray) (l : List UInt8), S = ⟨l.toArray⟩ → frL r = 46 :: l → SG ++ SD ++ ⟨#[46]⟩ ++ S = ⟨(secL t).toArray⟩) := fun S l hS hl => by
    rw [hSG, hSD, cat_list, HSEC.out, hl, hS, show (⟨#[46]⟩ : ByteArray) = ⟨([46] : List UInt8).toArray⟩ from rfl, cat_list, cat_list]
    simp
  have HS3 := Lib.hid hS3
  have HS2 := Lib.hid hS2
  have HS1 := Lib.hid hS1
  have HN := Lib.hid hn
  unfold TextW at HDE HD3
  rw [← hSD] at HDE
  rw [← hS3] at HD3
  have ad1 := fun w' => run_string_add_sum (P := Tryd.prog) (w := w') SG SD (by omega)
  have sg1 : (SG ++ SD).size ≤ 101 := by rw [ByteArray.size_append]; omega
  have ad2 := fun w' => run_string_add_sum (P := Tryd.prog) (w := w') (SG ++ SD) (⟨#[46]⟩ : ByteArray) (by have : (⟨#[46]⟩ : ByteArray).size = 1 := rfl; omega)
  have sg2 : (SG ++ SD ++ ⟨#[46]⟩).size ≤ 102 := by rw [ByteArray.size_append]; have : (⟨#[46]⟩ : ByteArray).size = 1 := rfl; omega
  have ad33 := fun w' => run_string_add_sum (P := Tryd.prog) (w := w') (SG ++ SD ++ ⟨#[46]⟩) S3 (by omega)
  have ad32 := fun w' => run_string_add_sum (P := Tryd.prog) (w := w') (SG ++ SD ++ ⟨#[46]⟩) S2 (by omega)
  have ad31 := fun w' => run_string_add_sum (P := Tryd.prog) (w := w') (SG ++ SD ++ ⟨#[46]⟩) S1 (by omega)
  have HSGe := Lib.hid hSG
  clear hS3 hS2 hS1 hn hSG hSD sg1 sg2 x1 x2 x3 g1 g2 hr

  by_cases hneg : t < 0
  · have hd : decide (t < 0) = true := decide_eq_true hneg
    have hsg : SG = ⟨#[45]⟩ := by rw [HSGe.out]; unfold sgL; rw [if_pos hneg]
    have hw1 : IntKind.u64.wrap t = 18446744073709551616 - (n : Int) := by have := HN.out; rw [IntKind.wrap_u64]; omega
    have hw2 : IntKind.u64.wrap (-(18446744073709551616 - (n : Int))) = (n : Int) := by rw [IntKind.wrap_u64]; omega
    subst hsg
    clear hneg
    go_enter Tryd.func12, Tryd.ntmps12
    go_wp2_with (first | (go_at_call 28; ((with_reducible refine (HDE.out _).mono ?_); rintro e w1 ⟨rfl, c1⟩)) | (go_at_call 28; ((with_reducible refine (HD3.out _).mono ?_); rintro e w2 ⟨rfl, c2⟩)))
    obtain ⟨W1, hW1⟩ : ∃ W1, W1 = w2 := ⟨_, rfl⟩
    rw [← hW1]
    have BW : Hid (Below w.heap.size w W1) := by show Below w.heap.size w W1; rw [hW1]; exact c1.trans (c2.mono c1.size)
    clear hW1 c1 c2
    go_loopw [5] (LeftRel r S1 S2 S3 W1) (fun v _ => strLen v)
    case atStart => exact ⟨0, rfl, .inl rfl⟩
    case round =>
      obtain ⟨k, rfl, hrel⟩ := hrel
      rcases hrel with rfl | ⟨a1, rfl⟩ | ⟨a1, a2, rfl⟩ | ⟨a1, rfl⟩
      · by_cases h : r % 10 = 0
        · have q1 : ((bt S3 2 : Int) == 48) = true := eqb (k := 48) (by have := V3.out; omega)
          have HH := Lib.hid h
          clear h
          go_wp2_with fail
          go_roundw
          case rel => exact ⟨k, rfl, .inr (.inl ⟨HH.out, rfl⟩)⟩
          case measure => show S2.size < S3.size; omega
        · have q1 : ((bt S3 2 : Int) == 48) = false := neb (k := 48) (by have := V3.out; omega)
          have HH := Lib.hid h
          clear h
          go_wp2_with fail
          go_ret
          refine ⟨?_, BW.out.drewN' k⟩
          have := HE.out S3 _ HS3.out (by rw [HFR.out, if_neg (by have := HH.out; omega), if_pos HH.out]; rfl)
          rw [← this]; rfl
      · by_cases h : r / 10 % 10 = 0
        · have q1 : ((bt S2 1 : Int) == 48) = true := eqb (k := 48) (by have := V2.out; omega)
          have HH := Lib.hid h
          have HA := Lib.hid a1
          clear h a1
          go_wp2_with fail
          go_roundw
          case rel => exact ⟨k, rfl, .inr (.inr (.inl ⟨HA.out, HH.out, rfl⟩))⟩
          case measure => show S1.size < S2.size; omega
        · have q1 : ((bt S2 1 : Int) == 48) = false := neb (k := 48) (by have := V2.out; omega)
          have HH := Lib.hid h
          have HA := Lib.hid a1
          clear h a1
          go_wp2_with fail
          go_ret
          refine ⟨?_, BW.out.drewN' k⟩
          have := HE.out S2 _ HS2.out (by rw [HFR.out, if_neg (by have := HH.out; omega), if_neg (by have := HA.out; omega), if_pos HH.out])
          rw [← this]; rfl
      · by_cases h : r / 100 % 10 = 0
        · have q1 : ((bt S1 0 : Int) == 48) = true := eqb (k := 48) (by have := V1.out; omega)
          have HH : Hid (r = 0) := by show r = 0; omega
          clear h a1 a2
          go_wp2_with fail
          go_roundw
          case rel => exact ⟨k, rfl, .inr (.inr (.inr ⟨HH.out, rfl⟩))⟩
          case measure => show 0 < S1.size; omega
        · have q1 : ((bt S1 0 : Int) == 48) = false := neb (k := 48) (by have := V1.out; omega)
          have HH := Lib.hid h
          have HA : Hid (r % 10 = 0 ∧ r / 10 % 10 = 0) := ⟨a1, a2⟩
          clear h a1 a2
          go_wp2_with fail
          go_ret
          refine ⟨?_, BW.out.drewN' k⟩
          have := HE.out S1 _ HS1.out (by rw [HFR.out, if_neg (by have := HH.out; omega), if_neg (by have := HA.out; omega), if_neg (by have := HA.out; omega)])
          rw [← this]; rfl
      · have HH := Lib.hid a1
        clear a1
        go_wp2_with fail
        go_ret
        refine ⟨?_, BW.out.drewN' k⟩
        rw [← HE0.out HH.out]; rfl
  · have hd : decide (t < 0) = false := decide_eq_false hneg
    have hsg : SG = ⟨#[]⟩ := by rw [HSGe.out]; unfold sgL; rw [if_neg hneg]
    obtain rfl : t = (n : Int) := by have := HN.out; omega
    have hw1 : IntKind.u64.wrap (n : Int) = (n : Int) := by rw [IntKind.wrap_u64]; omega
    subst hsg
    clear hneg
    go_enter Tryd.func12, Tryd.ntmps12
    go_wp2_with (first | (go_at_call 28; ((with_reducible refine (HDE.out _).mono ?_); rintro e w1 ⟨rfl, c1⟩)) | (go_at_call 28; ((with_reducible refine (HD3.out _).mono ?_); rintro e w2 ⟨rfl, c2⟩)))
    obtain ⟨W1, hW1⟩ : ∃ W1, W1 = w2 := ⟨_, rfl⟩
    rw [← hW1]
    have BW : Hid (Below w.heap.size w W1) := by show Below w.heap.size w W1; rw [hW1]; exact c1.trans (c2.mono c1.size)
    clear hW1 c1 c2
    go_loopw [5] (LeftRel r S1 S2 S3 W1) (fun v _ => strLen v)
    case atStart => exact ⟨0, rfl, .inl rfl⟩
    case round =>
      obtain ⟨k, rfl, hrel⟩ := hrel
      rcases hrel with rfl | ⟨a1, rfl⟩ | ⟨a1, a2, rfl⟩ | ⟨a1, rfl⟩
      · by_cases h : r % 10 = 0
        · have q1 : ((bt S3 2 : Int) == 48) = true := eqb (k := 48) (by have := V3.out; omega)
          have HH := Lib.hid h
          clear h
          go_wp2_with fail
          go_roundw
          case rel => exact ⟨k, rfl, .inr (.inl ⟨HH.out, rfl⟩)⟩
          case measure => show S2.size < S3.size; omega
        · have q1 : ((bt S3 2 : Int) == 48) = false := neb (k := 48) (by have := V3.out; omega)
          have HH := Lib.hid h
          clear h
          go_wp2_with fail
          go_ret
          refine ⟨?_, BW.out.drewN' k⟩
          have := HE.out S3 _ HS3.out (by rw [HFR.out, if_neg (by have := HH.out; omega), if_pos HH.out]; rfl)
          rw [← this]; rfl
      · by_cases h : r / 10 % 10 = 0
        · have q1 : ((bt S2 1 : Int) == 48) = true := eqb (k := 48) (by have := V2.out; omega)
          have HH := Lib.hid h
          have HA := Lib.hid a1
          clear h a1
          go_wp2_with fail
          go_roundw
          case rel => exact ⟨k, rfl, .inr (.inr (.inl ⟨HA.out, HH.out, rfl⟩))⟩
          case measure => show S1.size < S2.size; omega
        · have q1 : ((bt S2 1 : Int) == 48) = false := neb (k := 48) (by have := V2.out; omega)
          have HH := Lib.hid h
          have HA := Lib.hid a1
          clear h a1
          go_wp2_with fail
          go_ret
          refine ⟨?_, BW.out.drewN' k⟩
          have := HE.out S2 _ HS2.out (by rw [HFR.out, if_neg (by have := HH.out; omega), if_neg (by have := HA.out; omega), if_pos HH.out])
          rw [← this]; rfl
      · by_cases h : r / 100 % 10 = 0
        · have q1 : ((bt S1 0 : Int) == 48) = true := eqb (k := 48) (by have := V1.out; omega)
          have HH : Hid (r = 0) := by show r = 0; omega
          clear h a1 a2
          go_wp2_with fail
          go_roundw
          case rel => exact ⟨k, rfl, .inr (.inr (.inr ⟨HH.out, rfl⟩))⟩
          case measure => show 0 < S1.size; omega
        · have q1 : ((bt S1 0 : Int) == 48) = false := neb (k := 48) (by have := V1.out; omega)
          have HH := Lib.hid h
          have HA : Hid (r % 10 = 0 ∧ r / 10 % 10 = 0) := ⟨a1, a2⟩
          clear h a1 a2
          go_wp2_with fail
          go_ret
          refine ⟨?_, BW.out.drewN' k⟩
          have := HE.out S1 _ HS1.out (by rw [HFR.out, if_neg (by have := HH.out; omega), if_neg (by have := HA.out; omega), if_neg (by have := HA.out; omega)])
          rw [← this]; rfl
      · have HH := Lib.hid a1
        clear a1
        go_wp2_with fail
        go_ret
        refine ⟨?_, BW.out.drewN' k⟩
        rw [← HE0.out HH.out]; rfl
end Go.Proofs.YtmgnhekpgeahmaaDoor

namespace Go.Proofs.YtmgnhekpgeahmaaDoor
open Go.Fl Go.Rel Go.RowKit

theorem reffloor_any (a b : Int) (hb : 0 < b) (ha : -9223372036854775808 ≤ a) (ha' : a ≤ 9223372036854775807) (hb' : b ≤ 9223372036854775807) (w : World) :
    Calls Tryd.prog 30 #[.int .i64 a, .int .i64 b] w fun e w' => e = .returned (.tuple #[.int .i64 (a / b), .int .i64 (a % b)]) ∧ ∃ n, w' = w.drewN n := by
  have hb0 : (b == 0) = false := by simp; omega
  have b1 := Ar.ediv_bounds a b hb
  have r1 := Int.emod_nonneg a (show b ≠ 0 by omega)
  have r2 := Int.emod_lt_of_pos a hb
  by_cases h : 0 ≤ a
  · have b2 := b1.1 h
    clear b1
    go_enter Tryd.func30, Tryd.ntmps30
    go_wp2_with fail
    go_quiet (fail)
    go_wp2_with fail
    go_ret2
    exact ⟨rfl, _, rfl⟩
  · have b2 := b1.2 (by omega)
    clear b1
    rcases Ar.tdiv_cases a b (by omega) hb with ⟨t1, t2, t3⟩ | ⟨t1, t2, t3⟩
    · have T2 := Lib.hid t2
      have T3 := Lib.hid t3
      have t4 : a ≤ a.tdiv b - 1 := by omega
      have t5 : a.tdiv b - 1 < 0 := by omega
      have t6 : 0 ≤ a.tmod b + b := by omega
      have t7 : a.tmod b + b < b := by omega
      clear t2 t3 b2 r1 r2
      go_enter Tryd.func30, Tryd.ntmps30
      go_wp2_with fail
      go_quiet (fail)
      go_wp2_with fail
      go_ret2
      exact ⟨ret_int2 T2.out.symm T3.out.symm, _, rfl⟩
    · have T2 := Lib.hid t2
      have T3 := Lib.hid t3
      have T1 := Lib.hid t1
      have t4 : 0 ≤ a.tmod b := by omega
      clear t1 t2 t3 b2 r1 r2
      go_enter Tryd.func30, Tryd.ntmps30
      go_wp2_with fail
      go_quiet (fail)
      go_wp2_with fail
      go_ret2
      exact ⟨ret_int2 T2.out.symm (by rw [T1.out, T3.out]), _, rfl⟩

theorem reffloor_ex (a b : Int) (hb : 0 < b) (ha : -9223372036854775808 ≤ a) (ha' : a ≤ 9223372036854775807) (hb' : b ≤ 9223372036854775807) (w : World) :
    Calls Tryd.prog 30 #[.int .i64 a, .int .i64 b] w fun e w' => ∃ q r n, e = .returned (.tuple #[.int .i64 q, .int .i64 r]) ∧ Hid (q = a / b ∧ r = a % b) ∧ 0 ≤ r ∧ r < b ∧ w' = w.drewN n :=
  (reffloor_any a b hb ha ha' hb' w).mono fun e w' ⟨he, n, hw⟩ => ⟨_, _, n, he, ⟨rfl, rfl⟩, Int.emod_nonneg _ (by omega), Int.emod_lt_of_pos _ hb, hw⟩

theorem bef_400 : bef 400 = 146097 - 719528 := by decide +kernel
theorem bef_mono (a k : Nat) : bef a + 365 * (k : Int) ≤ bef (a + k) := by
  induction k with
  | zero => simp
  | succ k ih =>
    have := ydays_bd ((a + k : Nat) : Int)
    show _ ≤ bef (a + k) + ydays ((a + k : Nat) : Int)
    omega
theorem leap_cycle (c y : Int) : leapB (400 * c + y) = leapB y := by
  rw [Bool.eq_iff_iff, leap_iff, leap_iff]
  omega
theorem mdays_cycle (c y m : Int) : mdays (400 * c + y) m = mdays y m := by unfold mdays; rw [leap_cycle]
theorem ydays_cycle (c y : Int) : ydays (400 * c + y) = ydays y := by unfold ydays; rw [leap_cycle]
theorem mcum_cycle (c y : Int) (k : Nat) : mcum (400 * c + y) k = mcum y k := by
  induction k with
  | zero => rfl
  | succ k ih => rw [mcum, mcum, ih, mdays_cycle]
theorem dayNum_cycle (c y m d : Int) : dayNum (400 * c + y) m d = dayNum y m d + 146097 * c := by
  unfold dayNum
  by_cases h : m ≤ 2
  · simp only [if_pos h]; omega
  · simp only [if_neg h]; omega

/-- The days that are left when the years up to y are off. -/
def YearRel (d0 : Int) (vd vy : Value) : Prop := ∃ y : Nat, vy = .int .i64 (y : Int) ∧ vd = .int .i64 (d0 - (bef y + 719528)) ∧ 0 ≤ d0 - (bef y + 719528) ∧ y ≤ 399
def MonRel (d1 Y wk yd : Int) (y : Int) (R B : Nat) (w0 : World) (vd : Value) (wr : World) : Prop :=
  ∃ k : Nat, k ≤ 11 ∧ vd = .int .i64 (d1 - mcum y k) ∧ 0 ≤ d1 - mcum y k ∧ Bk.Is wr B #[.int .i64 Y, .int .i64 ((k : Int) + 1), .int .i64 0, .int .i64 0, .int .i64 0, .int .i64 0, .int .i64 0, .int .i64 wk, .int .i64 yd, .int .i64 0] 27 ∧ Bk.Is wr R #[.int .i64 0, .int .i64 0, .int .i64 0, .int .i64 0, .int .i64 0, .int .i64 0, .int .i64 0, .int .i64 0, .int .i64 0, .int .i64 0] 27 ∧ Below R w0 wr

set_option maxHeartbeats 4000000 in
set_option maxRecDepth 100000 in
theorem refcivil_any (t : Int) (h0 : -9223372036854775808 ≤ t) (h1 : t ≤ 9223372036854775807) (w : World) : Calls Tryd.prog 13 #[.int .i64 t] w (CivRet t w) := by
  go_enter Tryd.func13, Tryd.ntmps13
  go_wp2_with fail
  refine (reffloor_ex _ _ (by omega) (by omega) (by omega) (by omega) _).mono ?_
  rintro e w1 ⟨n, r, k1, rfl, H1, r0, r1, rfl⟩
  have n0 : -106751991168 ≤ n := by have := H1.out; omega
  have n1 : n ≤ 106751991168 := by have := H1.out; omega
  go_wp2_with fail
  refine (reffloor_ex _ _ (by omega) (by omega) (by omega) (by omega) _).mono ?_
  rintro e w1 ⟨q2, wk, k2, rfl, H2, wk0, wk1, rfl⟩
  go_wp2_with fail
  refine (reffloor_ex _ _ (by omega) (by omega) (by omega) (by omega) _).mono ?_
  rintro e w1 ⟨cy, d0, k3, rfl, H3, d00, d01, rfl⟩
  have cy0 : -740000 ≤ cy := by have := H3.out; omega
  have cy1 : cy ≤ 740000 := by have := H3.out; omega
  go_wp2_with fail
  go_loop [8, 9] (YearRel d0) (fun vd _ => (intOf vd).toNat)
  case atStart => exact ⟨0, rfl, by show _ = Value.int .i64 (d0 - (-719528 + 719528)); congr 1; omega, by show 0 ≤ d0 - (-719528 + 719528); omega, by omega⟩
  case round =>
    obtain ⟨y, rfl, hvd, hd0, hy⟩ := hrel
    obtain ⟨d, hde⟩ : ∃ d, d = d0 - (bef y + 719528) := ⟨_, rfl⟩
    rw [← hde] at hvd hd0
    subst hvd
    have hyd := ydays_bd y
    have hnext : Hid (bef (y + 1) = bef y + ydays y) := rfl
    have HDE := Lib.hid hde
    have hd1 : d < 146097 := by
      have := bef_mono 0 y
      have h00 : bef 0 = -719528 := rfl
      rw [Nat.zero_add] at this
      omega
    clear hde
    have HYD : Hid (∀ w, Calls Tryd.prog 31 #[.int .i64 (y : Int)] w fun e w' => e = .returned (.int .i64 (ydays y)) ∧ w = w') := fun w => ydays_any y w
    obtain ⟨yd, hyde⟩ : ∃ q, q = ydays (y : Int) := ⟨_, rfl⟩
    have HYE := Lib.hid hyde
    rw [← hyde] at HYD hyd
    clear hyde
    by_cases hge : yd ≤ d
    · go_wp2_with (first | (go_at_call 31; ((with_reducible refine (HYD.out _).mono ?_); rintro e w' ⟨rfl, rfl⟩)))
      go_round
      case rel =>
        refine ⟨y + 1, by go_num, ?_, ?_, ?_⟩
        · have := HDE.out; have := hnext.out; have := HYE.out
          rw [hnext.out, ← HYE.out, HDE.out]; congr 1; omega
        · have := HDE.out; have := hnext.out; have := HYE.out
          omega
        · refine Classical.byContradiction fun hc => ?_
          have hy399 : y = 399 := by omega
          have h400 := bef_400
          have := HDE.out; have := hnext.out; have := HYE.out
          rw [hy399] at this
          subst hy399
          have e : bef (399 + 1) = bef 400 := rfl
          omega
      case measure => simp [intOf]; omega
    · go_wp2_with (first | (go_at_call 31; ((with_reducible refine (HYD.out _).mono ?_); rintro e w' ⟨rfl, rfl⟩)))
      obtain ⟨Y, hY⟩ : ∃ Y : Int, Y = 400 * cy + (y : Int) := ⟨_, rfl⟩
      have HY := Lib.hid hY
      have Yb0 : -1000000000 ≤ Y := by omega
      have Yb1 : Y ≤ 1000000000 := by omega
      rw [← hY]
      obtain ⟨yd1, hyd1⟩ : ∃ q, q = d + 1 := ⟨_, rfl⟩
      have HYD1 := Lib.hid hyd1
      rw [← hyd1]
      obtain ⟨W, hW⟩ : ∃ W, W = ((w.alloc (.cells #[.int .i64 0, .int .i64 0, .int .i64 0, .int .i64 0, .int .i64 0, .int .i64 0, .int .i64 0, .int .i64 0, .int .i64 0, .int .i64 0] 27)).drewN (k1 + k2 + k3)).alloc (.cells #[.int .i64 Y, .int .i64 1, .int .i64 0, .int .i64 0, .int .i64 0, .int .i64 0, .int .i64 0, .int .i64 wk, .int .i64 yd1, .int .i64 0] 27) := ⟨_, rfl⟩
      rw [← hW]
      have HB : Bk.Is W (w.heap.size + 1) #[.int .i64 Y, .int .i64 1, .int .i64 0, .int .i64 0, .int .i64 0, .int .i64 0, .int .i64 0, .int .i64 wk, .int .i64 yd1, .int .i64 0] 27 := by
        rw [hW]
        have := Bk.Is.made ((w.alloc (.cells #[.int .i64 0, .int .i64 0, .int .i64 0, .int .i64 0, .int .i64 0, .int .i64 0, .int .i64 0, .int .i64 0, .int .i64 0, .int .i64 0] 27)).drewN (k1 + k2 + k3)) #[.int .i64 Y, .int .i64 1, .int .i64 0, .int .i64 0, .int .i64 0, .int .i64 0, .int .i64 0, .int .i64 wk, .int .i64 yd1, .int .i64 0] 27
        simpa using this
      have HR : Bk.Is W w.heap.size #[.int .i64 0, .int .i64 0, .int .i64 0, .int .i64 0, .int .i64 0, .int .i64 0, .int .i64 0, .int .i64 0, .int .i64 0, .int .i64 0] 27 := by
        rw [hW]
        exact ((Bk.Is.made w #[.int .i64 0, .int .i64 0, .int .i64 0, .int .i64 0, .int .i64 0, .int .i64 0, .int .i64 0, .int .i64 0, .int .i64 0, .int .i64 0] 27).drewN _).alloc _
      have BW : Below w.heap.size w W := by rw [hW]; exact (((Below.refl _ _).alloc (Nat.le_refl _) _).drewN' _).alloc (by simp) _
      have HS := Lib.hid (And.intro HB (And.intro HR BW))
      have hlt : d < yd := by omega
      clear hW hY hyd1 HB HR BW hge HYD
      go_loopw [8] (MonRel d Y wk yd1 y w.heap.size (w.heap.size + 1) w) (fun vd _ => (intOf vd).toNat)
      case atStart => exact ⟨0, by omega, by show _ = Value.int .i64 (d - 0); rw [Int.sub_zero], by show 0 ≤ d - 0; omega, HS.out.1, HS.out.2.1, HS.out.2.2⟩
      case round =>
        obtain ⟨k, hk, hvd, he0, hb, hr, bw⟩ := hrel
        have hmn : Hid (mcum y (k + 1) = mcum y k + mdays y ((k : Int) + 1)) := mcum_next y k _ rfl
        have hmc := mcum_bd y k
        obtain ⟨e, hee⟩ : ∃ e, e = d - mcum y k := ⟨_, rfl⟩
        rw [← hee] at hvd he0
        subst hvd
        have he1 : e ≤ d := by omega
        have HEE := Lib.hid hee
        have hmd := mdays_bd y ((k : Int) + 1)
        have HMD : Hid (∀ w, Calls Tryd.prog 32 #[.int .i64 (y : Int), .int .i64 ((k : Int) + 1)] w fun e w' => e = .returned (.int .i64 (mdays y ((k : Int) + 1))) ∧ w = w') := fun w => refmdays_any y _ w
        obtain ⟨md, hmde⟩ : ∃ q, q = mdays (y : Int) ((k : Int) + 1) := ⟨_, rfl⟩
        have HME := Lib.hid hmde
        rw [← hmde] at HMD hmd
        have c1 : wr.cell? ⟨w.heap.size + 1, 1, none⟩ = some (.int .i64 ((k : Int) + 1)) := hb.cell 1
        have cf : ∀ j, wr.frozen? ⟨w.heap.size + 1, j, none⟩ = false := hb.free
        have HBK := Lib.hid hb
        have HRK := Lib.hid hr
        have BWK := Lib.hid bw
        clear hmde hee hb hr bw hmc
        by_cases hge2 : md ≤ e
        · go_wp2_with (first | (go_at_call 32; ((with_reducible refine (HMD.out _).mono ?_); rintro e w' ⟨rfl, rfl⟩)))
          go_roundw
          case rel =>
            refine ⟨k + 1, ?_, ?_, ?_, ?_, ?_, ?_⟩
            · refine Classical.byContradiction fun hc => ?_
              have hk11 : k = 11 := by omega
              have h12 := mcum_year y
              have := HEE.out; have h3 := hmn.out; have := HME.out; have := HYE.out
              rw [hk11] at h3
              rw [show 11 + 1 = 12 from rfl] at h3
              subst hk11
              omega
            · rw [hmn.out, ← HME.out, HEE.out]; congr 1; omega
            · have := HEE.out; rw [hmn.out, ← HME.out]; omega
            · have := HBK.out.set 1 (.int .i64 ((k : Int) + 1 + 1))
              rw [show (((k + 1 : Nat) : Int) + 1) = (k : Int) + 1 + 1 by omega]
              exact this
            · exact HRK.out.other (by simp) _
            · exact BWK.out.setCell (by simp) _
          case measure => simp [intOf]; omega
        · have c2 : wr.cell? ⟨w.heap.size + 1, 2, none⟩ = some (.int .i64 0) := HBK.out.cell 2
          have c3 : wr.cell? ⟨w.heap.size + 1, 3, none⟩ = some (.int .i64 0) := HBK.out.cell 3
          have c4 : wr.cell? ⟨w.heap.size + 1, 4, none⟩ = some (.int .i64 0) := HBK.out.cell 4
          have c5 : wr.cell? ⟨w.heap.size + 1, 5, none⟩ = some (.int .i64 0) := HBK.out.cell 5
          have c6 : wr.cell? ⟨w.heap.size + 1, 6, none⟩ = some (.int .i64 0) := HBK.out.cell 6
          have c9 : wr.cell? ⟨w.heap.size + 1, 9, none⟩ = some (.int .i64 0) := HBK.out.cell 9
          go_upto_region 15 with (first | (go_at_call 32; ((with_reducible refine (HMD.out _).mono ?_); rintro e w' ⟨rfl, rfl⟩)))
          obtain ⟨W3, hW3⟩ : ∃ W3, W3 = (((((wr.setCell ⟨w.heap.size + 1, 2, none⟩ (.int .i64 (e + 1))).setCell ⟨w.heap.size + 1, 9, none⟩ (.int .i64 md)).setCell ⟨w.heap.size + 1, 3, none⟩ (.int .i64 (r / 3600000))).setCell ⟨w.heap.size + 1, 4, none⟩ (.int .i64 (r / 60000 % 60))).setCell ⟨w.heap.size + 1, 5, none⟩ (.int .i64 (r / 1000 % 60))).setCell ⟨w.heap.size + 1, 6, none⟩ (.int .i64 (r % 1000)) := ⟨_, rfl⟩
          rw [← hW3]
          have HB3 : Bk.Is W3 (w.heap.size + 1) #[.int .i64 Y, .int .i64 ((k : Int) + 1), .int .i64 (e + 1), .int .i64 (r / 3600000), .int .i64 (r / 60000 % 60), .int .i64 (r / 1000 % 60), .int .i64 (r % 1000), .int .i64 wk, .int .i64 yd1, .int .i64 md] 27 := by
            rw [hW3]
            exact (((((HBK.out.set 2 (.int .i64 (e + 1))).set 9 (.int .i64 md)).set 3 (.int .i64 (r / 3600000))).set 4 (.int .i64 (r / 60000 % 60))).set 5 (.int .i64 (r / 1000 % 60))).set 6 (.int .i64 (r % 1000))
          have HR3 : Bk.Is W3 w.heap.size #[.int .i64 0, .int .i64 0, .int .i64 0, .int .i64 0, .int .i64 0, .int .i64 0, .int .i64 0, .int .i64 0, .int .i64 0, .int .i64 0] 27 := by
            rw [hW3]
            exact (((((HRK.out.other (by simp) _).other (by simp) _).other (by simp) _).other (by simp) _).other (by simp) _).other (by simp) _
          have BW3 : Below w.heap.size w W3 := by
            rw [hW3]
            exact (((((BWK.out.setCell (by simp) _).setCell (by simp) _).setCell (by simp) _).setCell (by simp) _).setCell (by simp) _).setCell (by simp) _
          have HS3 := Lib.hid (And.intro HB3 (And.intro HR3 BW3))
          clear hW3 HB3 HR3 BW3 c1 c2 c3 c4 c5 c6 c9 cf
          go_wp2_with (first | (refine wpList_load_row rfl 27 (.tmp 10) rfl (w.heap.size + 1) rfl 27 #[.int .i64 Y, .int .i64 ((k : Int) + 1), .int .i64 (e + 1), .int .i64 (r / 3600000), .int .i64 (r / 60000 % 60), .int .i64 (r / 1000 % 60), .int .i64 (r % 1000), .int .i64 wk, .int .i64 yd1, .int .i64 md] (0, 0) _ HS3.out.1 Tryd.underlying27 rfl (by kernel_rfl) ?_) | (refine wpList_store_row rfl 27 (.tmp 2) (.tmp 84) rfl w.heap.size #[.int .i64 Y, .int .i64 ((k : Int) + 1), .int .i64 (e + 1), .int .i64 (r / 3600000), .int .i64 (r / 60000 % 60), .int .i64 (r / 1000 % 60), .int .i64 (r % 1000), .int .i64 wk, .int .i64 yd1, .int .i64 md] rfl rfl 27 #[.int .i64 0, .int .i64 0, .int .i64 0, .int .i64 0, .int .i64 0, .int .i64 0, .int .i64 0, .int .i64 0, .int .i64 0, .int .i64 0] HS3.out.2.1 (by kernel_rfl) rfl (by kernel_rfl) ?_))
          refine Bk.ret_block (HS3.out.2.1.setRow #[.int .i64 Y, .int .i64 ((k : Int) + 1), .int .i64 (e + 1), .int .i64 (r / 3600000), .int .i64 (r / 60000 % 60), .int .i64 (r / 1000 % 60), .int .i64 (r % 1000), .int .i64 wk, .int .i64 yd1, .int .i64 md]) rfl rfl Tryd.underlying27 rfl (by kernel_rfl) rfl ?_
          obtain ⟨rfl, rfl⟩ := H1.out
          obtain ⟨hq2, rfl⟩ := H2.out
          obtain ⟨hcy, hd0e⟩ := H3.out
          have f1 := HDE.out
          have f2 := HEE.out
          have f3 := dayNum_bef y
          have f4 := dayNum_cycle cy y 1 1
          have f5 := dayNum_cycle cy y ((k : Int) + 1) (e + 1)
          have f6 := dayNum_cum (y : Int) (e + 1) k hk
          have f7 := dayNum_day (y : Int) 1 1 e
          rw [show (1 : Int) + e = e + 1 by omega] at f7
          have f8 := mdays_cycle cy y ((k : Int) + 1)
          have f9 := HME.out
          rw [← HY.out] at f4 f5 f8
          have hyd : yd1 = t / 86400000 - dayNum Y 1 1 + 1 := by rw [HYD1.out, f4, f3]; omega
          have hdn : dayNum Y ((k : Int) + 1) (e + 1) = t / 86400000 := by rw [f5, f6, f7, f3]; omega
          exact ⟨Y, (k : Int) + 1, e + 1, by rw [← hyd, f8, ← f9], by omega, by omega, by omega, by rw [f8, ← f9]; omega, hdn, Yb0, Yb1, Bk.below_setRow HS3.out.2.2 (Nat.le_refl _) _⟩
end Go.Proofs.YtmgnhekpgeahmaaDoor

namespace Go.Proofs.YtmgnhekpgeahmaaDoor
open Go.Dur Go.Fl Go.Rel Go.RowKit

theorem refdate_out (t : Int) (h : t < -62167219200000 ∨ 253402300799999 < t) (w : World) : Calls Tryd.prog 11 #[.int .i64 t] w (Same (.tuple #[.string ⟨#[]⟩, .int .i64 33]) w) := by
  by_cases h0 : t < -62167219200000
  · have d0 : decide (t < -62167219200000) = true := decide_eq_true h0
    go_enter Tryd.func11, Tryd.ntmps11
    go_wp2_with fail
    go_ret2
    exact ⟨rfl, rfl⟩
  · have d0 : decide (t < -62167219200000) = false := decide_eq_false h0
    have d1 : decide (253402300799999 < t) = true := decide_eq_true (by omega)
    go_enter Tryd.func11, Tryd.ntmps11
    go_wp2_with fail
    go_ret2
    exact ⟨rfl, rfl⟩

theorem dec2_any (n : Nat) (hn : n ≤ 99) (w : World) : Calls Tryd.prog 28 #[.int .u64 (n : Int), .int .i64 2] w (TextW (dig2 n) w) := by
  have := decimal_any n 2 (by omega) (by rw [dcm_two hn]; simp [dig2]) w
  rw [dcm_two hn] at this
  exact this
theorem dec3_any (n : Nat) (hn : n ≤ 999) (w : World) : Calls Tryd.prog 28 #[.int .u64 (n : Int), .int .i64 3] w (TextW (dig3 n) w) := by
  have := decimal_any n 3 (by omega) (by rw [dcm_three hn]; simp [dig3]) w
  rw [dcm_three hn] at this
  exact this
theorem dec4_any (n : Nat) (hn : n ≤ 9999) (w : World) : Calls Tryd.prog 28 #[.int .u64 (n : Int), .int .i64 4] w (TextW (dig4 n) w) := by
  have := decimal_any n 4 (by omega) (by rw [dcm_four hn]; simp [dig4]) w
  rw [dcm_four hn] at this
  exact this

set_option maxHeartbeats 8000000 in
set_option maxRecDepth 100000 in
theorem refdate_any (t : Int) (h0 : -62167219200000 ≤ t) (h1 : t ≤ 253402300799999) (w : World) : Calls Tryd.prog 11 #[.int .i64 t] w (DateWRet t w) := by
  have d0 : decide (t < -62167219200000) = false := decide_eq_false (by omega)
  have d1 : decide (253402300799999 < t) = false := decide_eq_false (by omega)
  go_enter Tryd.func11, Tryd.ntmps11
  go_wp2_with fail
  refine (refcivil_any t (by omega) (by omega) _).mono ?_
  rintro e w1 ⟨y, mo, d, rfl, m0, m1, e0, e1, hdn, -, -, b1⟩
  obtain ⟨y0, y1⟩ := year_range m0 m1 e0 e1 hdn h0 h1
  have hmd := mdays_bd y mo
  obtain ⟨h, hh⟩ : ∃ h : Nat, t % 86400000 / 3600000 = (h : Int) := ⟨(t % 86400000 / 3600000).toNat, by omega⟩
  obtain ⟨mi, hmi⟩ : ∃ h : Nat, t % 86400000 / 60000 % 60 = (h : Int) := ⟨(t % 86400000 / 60000 % 60).toNat, by omega⟩
  obtain ⟨s, hs⟩ : ∃ h : Nat, t % 86400000 / 1000 % 60 = (h : Int) := ⟨(t % 86400000 / 1000 % 60).toNat, by omega⟩
  obtain ⟨ms, hms⟩ : ∃ h : Nat, t % 86400000 % 1000 = (h : Int) := ⟨(t % 86400000 % 1000).toNat, by omega⟩
  obtain ⟨y, rfl⟩ := Int.eq_ofNat_of_zero_le y0
  obtain ⟨mo, rfl⟩ := Int.eq_ofNat_of_zero_le (show 0 ≤ mo by omega)
  obtain ⟨d, rfl⟩ := Int.eq_ofNat_of_zero_le (show 0 ≤ d by omega)
  have bh : h ≤ 23 := by omega
  have bmi : mi ≤ 59 := by omega
  have bs : s ≤ 59 := by omega
  have bms : ms ≤ 999 := by omega
  have HEND : Hid ((y ≤ 9999 ∧ 1 ≤ mo ∧ mo ≤ 12 ∧ 1 ≤ d ∧ (d : Int) ≤ mdays y mo ∧ dayNum y mo d = t / 86400000) ∧
    ((h : Int) = t % 86400000 / 3600000 ∧ (mi : Int) = t % 86400000 / 60000 % 60 ∧ (s : Int) = t % 86400000 / 1000 % 60 ∧ (ms : Int) = t % 86400000 % 1000)) := ⟨⟨by omega, by omega, by omega, by omega, e1, hdn⟩, hh.symm, hmi.symm, hs.symm, hms.symm⟩
  rw [hh, hmi, hs, hms]
  have by1 : y ≤ 9999 := by omega
  have bmo : mo ≤ 12 := by omega
  have bd : d ≤ 31 := by omega
  clear m0 m1 e0 e1 hdn hh hmi hs hms y0 y1 hmd
  generalize mdays (y : Int) (mo : Int) = q9
  generalize t / 86400000 - dayNum (y : Int) 1 1 + 1 = q8
  generalize (t / 86400000 + 4) % 7 = q7
  go_wp2_with (first | (refine Bk.is_store 27 rfl ?_; refine Bk.wpList_store_box (w0 := w1) (N := 0) rfl 27 _ _ rfl #[.int .i64 (y : Int), .int .i64 (mo : Int), .int .i64 (d : Int), .int .i64 (h : Int), .int .i64 (mi : Int), .int .i64 (s : Int), .int .i64 (ms : Int), .int .i64 q7, .int .i64 q8, .int .i64 q9] #[.int .i64 0, .int .i64 0, .int .i64 0, .int .i64 0, .int .i64 0, .int .i64 0, .int .i64 0, .int .i64 0, .int .i64 0, .int .i64 0] 27 rfl rfl (by kernel_rfl) rfl (by kernel_rfl) ?_; intro W hIs bW; have c0 : W.cell? ⟨w1.heap.size, 0, none⟩ = some (.int .i64 (y : Int)) := hIs.cell 0; have c1 : W.cell? ⟨w1.heap.size, 1, none⟩ = some (.int .i64 (mo : Int)) := hIs.cell 1; have c2 : W.cell? ⟨w1.heap.size, 2, none⟩ = some (.int .i64 (d : Int)) := hIs.cell 2; have c3 : W.cell? ⟨w1.heap.size, 3, none⟩ = some (.int .i64 (h : Int)) := hIs.cell 3; have c4 : W.cell? ⟨w1.heap.size, 4, none⟩ = some (.int .i64 (mi : Int)) := hIs.cell 4; have c5 : W.cell? ⟨w1.heap.size, 5, none⟩ = some (.int .i64 (s : Int)) := hIs.cell 5; have c6 : W.cell? ⟨w1.heap.size, 6, none⟩ = some (.int .i64 (ms : Int)) := hIs.cell 6))
  have hlt := hIs.lt
  have HIS := Lib.hid hIs
  have BWH := Lib.hid bW
  clear hIs bW
  obtain ⟨D0, hD0⟩ : ∃ S : ByteArray, S = ⟨(dig4 y).toArray⟩ := ⟨_, rfl⟩
  have HD0 : Hid (∀ w1, Calls Tryd.prog 28 #[.int .u64 (y : Int), .int .i64 4] w1 fun e w' => e = .returned (.string D0) ∧ Below w1.heap.size w1 w') := fun w1 => by rw [hD0]; exact dec4_any y (by omega) w1
  have z0 : D0.size ≤ 4 := by rw [hD0, size_list]; simp [dig4]
  have hw0 : IntKind.u64.wrap (y : Int) = (y : Int) := by rw [IntKind.wrap_u64]; omega
  obtain ⟨D1, hD1⟩ : ∃ S : ByteArray, S = ⟨(dig2 mo).toArray⟩ := ⟨_, rfl⟩
  have HD1 : Hid (∀ w1, Calls Tryd.prog 28 #[.int .u64 (mo : Int), .int .i64 2] w1 fun e w' => e = .returned (.string D1) ∧ Below w1.heap.size w1 w') := fun w1 => by rw [hD1]; exact dec2_any mo (by omega) w1
  have z1 : D1.size ≤ 4 := by rw [hD1, size_list]; simp [dig2]
  have hw1 : IntKind.u64.wrap (mo : Int) = (mo : Int) := by rw [IntKind.wrap_u64]; omega
  obtain ⟨D2, hD2⟩ : ∃ S : ByteArray, S = ⟨(dig2 d).toArray⟩ := ⟨_, rfl⟩
  have HD2 : Hid (∀ w1, Calls Tryd.prog 28 #[.int .u64 (d : Int), .int .i64 2] w1 fun e w' => e = .returned (.string D2) ∧ Below w1.heap.size w1 w') := fun w1 => by rw [hD2]; exact dec2_any d (by omega) w1
  have z2 : D2.size ≤ 4 := by rw [hD2, size_list]; simp [dig2]
  have hw2 : IntKind.u64.wrap (d : Int) = (d : Int) := by rw [IntKind.wrap_u64]; omega
  obtain ⟨D3, hD3⟩ : ∃ S : ByteArray, S = ⟨(dig2 h).toArray⟩ := ⟨_, rfl⟩
  have HD3 : Hid (∀ w1, Calls Tryd.prog 28 #[.int .u64 (h : Int), .int .i64 2] w1 fun e w' => e = .returned (.string D3) ∧ Below w1.heap.size w1 w') := fun w1 => by rw [hD3]; exact dec2_any h (by omega) w1
  have z3 : D3.size ≤ 4 := by rw [hD3, size_list]; simp [dig2]
  have hw3 : IntKind.u64.wrap (h : Int) = (h : Int) := by rw [IntKind.wrap_u64]; omega
  obtain ⟨D4, hD4⟩ : ∃ S : ByteArray, S = ⟨(dig2 mi).toArray⟩ := ⟨_, rfl⟩
  have HD4 : Hid (∀ w1, Calls Tryd.prog 28 #[.int .u64 (mi : Int), .int .i64 2] w1 fun e w' => e = .returned (.string D4) ∧ Below w1.heap.size w1 w') := fun w1 => by rw [hD4]; exact dec2_any mi (by omega) w1
  have z4 : D4.size ≤ 4 := by rw [hD4, size_list]; simp [dig2]
  have hw4 : IntKind.u64.wrap (mi : Int) = (mi : Int) := by rw [IntKind.wrap_u64]; omega
  obtain ⟨D5, hD5⟩ : ∃ S : ByteArray, S = ⟨(dig2 s).toArray⟩ := ⟨_, rfl⟩
  have HD5 : Hid (∀ w1, Calls Tryd.prog 28 #[.int .u64 (s : Int), .int .i64 2] w1 fun e w' => e = .returned (.string D5) ∧ Below w1.heap.size w1 w') := fun w1 => by rw [hD5]; exact dec2_any s (by omega) w1
  have z5 : D5.size ≤ 4 := by rw [hD5, size_list]; simp [dig2]
  have hw5 : IntKind.u64.wrap (s : Int) = (s : Int) := by rw [IntKind.wrap_u64]; omega
  obtain ⟨T1, hT1⟩ : ∃ S : ByteArray, S = D0 ++ ⟨#[45]⟩ := ⟨_, rfl⟩
  have y1 : T1.size ≤ 5 := by rw [hT1, ByteArray.size_append]; have : (⟨#[45]⟩ : ByteArray).size = 1 := rfl; omega
  have ad1 := fun w' => run_string_add_sum (P := Tryd.prog) (w := w') D0 (⟨#[45]⟩ : ByteArray) (by have : (⟨#[45]⟩ : ByteArray).size = 1 := rfl; omega)
  rw [← hT1] at ad1
  obtain ⟨T2, hT2⟩ : ∃ S : ByteArray, S = T1 ++ D1 := ⟨_, rfl⟩
  have y2 : T2.size ≤ 9 := by rw [hT2, ByteArray.size_append]; omega
  have ad2 := fun w' => run_string_add_sum (P := Tryd.prog) (w := w') T1 D1 (by omega)
  rw [← hT2] at ad2
  obtain ⟨T3, hT3⟩ : ∃ S : ByteArray, S = T2 ++ ⟨#[45]⟩ := ⟨_, rfl⟩
  have y3 : T3.size ≤ 10 := by rw [hT3, ByteArray.size_append]; have : (⟨#[45]⟩ : ByteArray).size = 1 := rfl; omega
  have ad3 := fun w' => run_string_add_sum (P := Tryd.prog) (w := w') T2 (⟨#[45]⟩ : ByteArray) (by have : (⟨#[45]⟩ : ByteArray).size = 1 := rfl; omega)
  rw [← hT3] at ad3
  obtain ⟨T4, hT4⟩ : ∃ S : ByteArray, S = T3 ++ D2 := ⟨_, rfl⟩
  have y4 : T4.size ≤ 14 := by rw [hT4, ByteArray.size_append]; omega
  have ad4 := fun w' => run_string_add_sum (P := Tryd.prog) (w := w') T3 D2 (by omega)
  rw [← hT4] at ad4
  obtain ⟨T5, hT5⟩ : ∃ S : ByteArray, S = T4 ++ ⟨#[84]⟩ := ⟨_, rfl⟩
  have y5 : T5.size ≤ 15 := by rw [hT5, ByteArray.size_append]; have : (⟨#[84]⟩ : ByteArray).size = 1 := rfl; omega
  have ad5 := fun w' => run_string_add_sum (P := Tryd.prog) (w := w') T4 (⟨#[84]⟩ : ByteArray) (by have : (⟨#[84]⟩ : ByteArray).size = 1 := rfl; omega)
  rw [← hT5] at ad5
  obtain ⟨T6, hT6⟩ : ∃ S : ByteArray, S = T5 ++ D3 := ⟨_, rfl⟩
  have y6 : T6.size ≤ 19 := by rw [hT6, ByteArray.size_append]; omega
  have ad6 := fun w' => run_string_add_sum (P := Tryd.prog) (w := w') T5 D3 (by omega)
  rw [← hT6] at ad6
  obtain ⟨T7, hT7⟩ : ∃ S : ByteArray, S = T6 ++ ⟨#[58]⟩ := ⟨_, rfl⟩
  have y7 : T7.size ≤ 20 := by rw [hT7, ByteArray.size_append]; have : (⟨#[58]⟩ : ByteArray).size = 1 := rfl; omega
  have ad7 := fun w' => run_string_add_sum (P := Tryd.prog) (w := w') T6 (⟨#[58]⟩ : ByteArray) (by have : (⟨#[58]⟩ : ByteArray).size = 1 := rfl; omega)
  rw [← hT7] at ad7
  obtain ⟨T8, hT8⟩ : ∃ S : ByteArray, S = T7 ++ D4 := ⟨_, rfl⟩
  have y8 : T8.size ≤ 24 := by rw [hT8, ByteArray.size_append]; omega
  have ad8 := fun w' => run_string_add_sum (P := Tryd.prog) (w := w') T7 D4 (by omega)
  rw [← hT8] at ad8
  obtain ⟨T9, hT9⟩ : ∃ S : ByteArray, S = T8 ++ ⟨#[58]⟩ := ⟨_, rfl⟩
  have y9 : T9.size ≤ 25 := by rw [hT9, ByteArray.size_append]; have : (⟨#[58]⟩ : ByteArray).size = 1 := rfl; omega
  have ad9 := fun w' => run_string_add_sum (P := Tryd.prog) (w := w') T8 (⟨#[58]⟩ : ByteArray) (by have : (⟨#[58]⟩ : ByteArray).size = 1 := rfl; omega)
  rw [← hT9] at ad9
  obtain ⟨T10, hT10⟩ : ∃ S : ByteArray, S = T9 ++ D5 := ⟨_, rfl⟩
  have y10 : T10.size ≤ 29 := by rw [hT10, ByteArray.size_append]; omega
  have ad10 := fun w' => run_string_add_sum (P := Tryd.prog) (w := w') T9 D5 (by omega)
  rw [← hT10] at ad10
  have HT : Hid (T10 = ⟨(dateL y mo d h mi s).toArray⟩) := by
    show _ = _
    rw [hT10, hT9, hT8, hT7, hT6, hT5, hT4, hT3, hT2, hT1, hD0, hD1, hD2, hD3, hD4, hD5]
    rw [show (⟨#[45]⟩ : ByteArray) = ⟨([45] : List UInt8).toArray⟩ from rfl]
    rw [show (⟨#[84]⟩ : ByteArray) = ⟨([84] : List UInt8).toArray⟩ from rfl]
    rw [show (⟨#[58]⟩ : ByteArray) = ⟨([58] : List UInt8).toArray⟩ from rfl]
    simp only [cat_list]
    rfl
  clear hT1 hT2 hT3 hT4 hT5 hT6 hT7 hT8 hT9 hT10 hD0 hD1 hD2 hD3 hD4 hD5
  have KEEP : Hid (∀ w', Below W.heap.size W w' → (Below W.heap.size W w' ∧ w'.cell? ⟨w1.heap.size, 0, none⟩ = some (.int .i64 (y : Int)) ∧ w'.cell? ⟨w1.heap.size, 1, none⟩ = some (.int .i64 (mo : Int)) ∧ w'.cell? ⟨w1.heap.size, 2, none⟩ = some (.int .i64 (d : Int)) ∧ w'.cell? ⟨w1.heap.size, 3, none⟩ = some (.int .i64 (h : Int)) ∧ w'.cell? ⟨w1.heap.size, 4, none⟩ = some (.int .i64 (mi : Int)) ∧ w'.cell? ⟨w1.heap.size, 5, none⟩ = some (.int .i64 (s : Int)) ∧ w'.cell? ⟨w1.heap.size, 6, none⟩ = some (.int .i64 (ms : Int)))) := fun w' hb => ⟨hb, by rw [hb.cell (p := ⟨w1.heap.size, 0, none⟩) hlt]; exact c0, by rw [hb.cell (p := ⟨w1.heap.size, 1, none⟩) hlt]; exact c1, by rw [hb.cell (p := ⟨w1.heap.size, 2, none⟩) hlt]; exact c2, by rw [hb.cell (p := ⟨w1.heap.size, 3, none⟩) hlt]; exact c3, by rw [hb.cell (p := ⟨w1.heap.size, 4, none⟩) hlt]; exact c4, by rw [hb.cell (p := ⟨w1.heap.size, 5, none⟩) hlt]; exact c5, by rw [hb.cell (p := ⟨w1.heap.size, 6, none⟩) hlt]; exact c6⟩
  have BD : Below W.heap.size W W.drew := (Below.refl _ _).drewN' 1
  go_region_held3 (fun w' => Below W.heap.size W w' ∧ w'.cell? ⟨w1.heap.size, 0, none⟩ = some (.int .i64 (y : Int)) ∧ w'.cell? ⟨w1.heap.size, 1, none⟩ = some (.int .i64 (mo : Int)) ∧ w'.cell? ⟨w1.heap.size, 2, none⟩ = some (.int .i64 (d : Int)) ∧ w'.cell? ⟨w1.heap.size, 3, none⟩ = some (.int .i64 (h : Int)) ∧ w'.cell? ⟨w1.heap.size, 4, none⟩ = some (.int .i64 (mi : Int)) ∧ w'.cell? ⟨w1.heap.size, 5, none⟩ = some (.int .i64 (s : Int)) ∧ w'.cell? ⟨w1.heap.size, 6, none⟩ = some (.int .i64 (ms : Int))) (first | exact KEEP.out _ bb5 | exact KEEP.out _ bb4 | exact KEEP.out _ bb3 | exact KEEP.out _ bb2 | exact KEEP.out _ bb1 | exact KEEP.out _ bb0 | exact KEEP.out _ BD) (first | (go_at_call 28; (with_reducible refine (HD0.out _).mono ?_); rintro e x0 ⟨rfl, bx0⟩; have bb0 := BD.trans (bx0.mono BD.size)) | (go_at_call 28; (with_reducible refine (HD1.out _).mono ?_); rintro e x1 ⟨rfl, bx1⟩; have bb1 := bb0.trans (bx1.mono bb0.size)) | (go_at_call 28; (with_reducible refine (HD2.out _).mono ?_); rintro e x2 ⟨rfl, bx2⟩; have bb2 := bb1.trans (bx2.mono bb1.size)) | (go_at_call 28; (with_reducible refine (HD3.out _).mono ?_); rintro e x3 ⟨rfl, bx3⟩; have bb3 := bb2.trans (bx3.mono bb2.size)) | (go_at_call 28; (with_reducible refine (HD4.out _).mono ?_); rintro e x4 ⟨rfl, bx4⟩; have bb4 := bb3.trans (bx4.mono bb3.size)) | (go_at_call 28; (with_reducible refine (HD5.out _).mono ?_); rintro e x5 ⟨rfl, bx5⟩; have bb5 := bb4.trans (bx5.mono bb4.size)))
  have hk := KEEP.out _ bb5
  obtain ⟨-, -, -, -, -, -, -, k6⟩ := hk
  have HB5 := Lib.hid (BWH.out.trans (bb5.mono BWH.out.size))
  clear c0 c1 c2 c3 c4 c5 c6 KEEP BD bb0 bb1 bb2 bb3 bb4 bb5 bx0 bx1 bx2 bx3 bx4 bx5 ad1 ad2 ad3 ad4 ad5 ad6 ad7 ad8 ad9 ad10 y1 y2 y3 y4 y5 y6 y7 y8 y9
  obtain ⟨D6, hD6⟩ : ∃ S : ByteArray, S = ⟨(dig3 ms).toArray⟩ := ⟨_, rfl⟩
  have HD6 : Hid (∀ w1, Calls Tryd.prog 28 #[.int .u64 (ms : Int), .int .i64 3] w1 fun e w' => e = .returned (.string D6) ∧ Below w1.heap.size w1 w') := fun w1 => by rw [hD6]; exact dec3_any ms (by omega) w1
  have z6 : D6.size ≤ 4 := by rw [hD6, size_list]; simp [dig3]
  have hw6 : IntKind.u64.wrap (ms : Int) = (ms : Int) := by rw [IntKind.wrap_u64]; omega
  have az1 := fun w' => run_string_add_sum (P := Tryd.prog) (w := w') T10 (⟨#[90]⟩ : ByteArray) (by have : (⟨#[90]⟩ : ByteArray).size = 1 := rfl; omega)
  have az2 := fun w' => run_string_add_sum (P := Tryd.prog) (w := w') (⟨#[46]⟩ : ByteArray) D6 (by have : (⟨#[46]⟩ : ByteArray).size = 1 := rfl; omega)
  have zz : ((⟨#[46]⟩ : ByteArray) ++ D6).size ≤ 5 := by rw [ByteArray.size_append]; have : (⟨#[46]⟩ : ByteArray).size = 1 := rfl; omega
  have az3 := fun w' => run_string_add_sum (P := Tryd.prog) (w := w') T10 ((⟨#[46]⟩ : ByteArray) ++ D6) (by omega)
  have zz2 : (T10 ++ ((⟨#[46]⟩ : ByteArray) ++ D6)).size ≤ 50 := by rw [ByteArray.size_append]; omega
  have az4 := fun w' => run_string_add_sum (P := Tryd.prog) (w := w') (T10 ++ ((⟨#[46]⟩ : ByteArray) ++ D6)) (⟨#[90]⟩ : ByteArray) (by have : (⟨#[90]⟩ : ByteArray).size = 1 := rfl; omega)
  have HF0 : Hid (ms = 0 → T10 ++ ⟨#[90]⟩ = ⟨(wholeL y mo d h mi s ms [90]).toArray⟩) := fun hz => by
    rw [HT.out, show (⟨#[90]⟩ : ByteArray) = ⟨([90] : List UInt8).toArray⟩ from rfl, cat_list]
    unfold wholeL thL
    rw [if_pos hz, List.append_nil]
  have HF1 : Hid (ms ≠ 0 → T10 ++ ((⟨#[46]⟩ : ByteArray) ++ D6) ++ ⟨#[90]⟩ = ⟨(wholeL y mo d h mi s ms [90]).toArray⟩) := fun hz => by
    rw [HT.out, hD6, show (⟨#[90]⟩ : ByteArray) = ⟨([90] : List UInt8).toArray⟩ from rfl, show (⟨#[46]⟩ : ByteArray) = ⟨([46] : List UInt8).toArray⟩ from rfl, cat_list, cat_list, cat_list]
    unfold wholeL thL
    rw [if_neg hz]
    rfl
  clear hD6 zz zz2 y10
  by_cases hms : ms = 0
  · have HF2 := Lib.hid (HF0.out hms)
    have HE2 := HEND.out
    rw [hms] at HE2
    have HE3 := Lib.hid HE2
    rw [hms] at HF2
    clear HE2 HF0 HF1
    subst hms
    go_wp2_with fail
    go_ret2
    refine ⟨y, mo, d, h, mi, s, 0, ?_, HE3.out.1, HE3.out.2, ?_⟩
    · rw [← HF2.out]; rfl
    · exact b1.trans (HB5.out.mono b1.size)
  · go_wp2_with (first | (go_at_call 28; ((with_reducible refine (HD6.out _).mono ?_); rintro e x6 ⟨rfl, bx6⟩)))
    go_ret2
    refine ⟨y, mo, d, h, mi, s, ms, ?_, HEND.out.1, HEND.out.2, ?_⟩
    · rw [← HF1.out hms]; rfl
    · have B6 := b1.trans (HB5.out.mono b1.size)
      exact B6.trans (bx6.mono B6.size)
end Go.Proofs.YtmgnhekpgeahmaaDoor
