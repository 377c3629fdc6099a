/- A date with an offset: what it is read as. -/
import Derived.Test.YtmgnhekpgeahmaaDoorDateW
import Derived.Test.YtmgnhekpgeahmaaDoorStamps
namespace Go.Proofs.YtmgnhekpgeahmaaDoor
open Go.Dur Go.Fl Go.Rel Go.RowKit

theorem cat_list (a b : List UInt8) : ((⟨a.toArray⟩ : ByteArray) ++ (⟨b.toArray⟩ : ByteArray)) = ⟨(a ++ b).toArray⟩ := by
  apply ByteArray.ext
  rw [ByteArray.data_append]
  simp

/-- An offset's text. -/
def zoL (sg : UInt8) (m : Nat) : List UInt8 := sg :: (dig2 (m / 60) ++ 58 :: dig2 (m % 60))
theorem zone_text (sg : UInt8) (m : Nat) (hs : sg = 43 ∨ sg = 45) (hm : m ≤ 1439) : zoneR ⟨(zoL sg m).toArray⟩ = (if sg = 45 then -((m : Int) * 60000) else (m : Int) * 60000, true) := by
  have hne : (⟨(zoL sg m).toArray⟩ : ByteArray) ≠ ⟨#[90]⟩ := fun e => by
    have := congrArg ByteArray.size e
    have h6 : (⟨(zoL sg m).toArray⟩ : ByteArray).size = 6 := rfl
    rw [h6] at this
    exact absurd (show (6 : Nat) = 1 from this) (by omega)
  have hsz : (⟨(zoL sg m).toArray⟩ : ByteArray).size = 6 := rfl
  have b0 : bt ⟨(zoL sg m).toArray⟩ 0 = sg.toNat := rfl
  have b3 : bt ⟨(zoL sg m).toArray⟩ 3 = 58 := rfl
  have p1 : pairN ⟨(zoL sg m).toArray⟩ 1 = ((m / 60 : Nat) : Int) := pair_dig (by rw [hsz]; omega) rfl rfl (by omega)
  have p4 : pairN ⟨(zoL sg m).toArray⟩ 4 = ((m % 60 : Nat) : Int) := pair_dig (by rw [hsz]; omega) rfl rfl (by omega)
  unfold zoneR
  rw [if_neg hne, hsz, b0, b3, p1, p4]
  rcases hs with rfl | rfl
  · have hv : (((m / 60 : Nat) : Int) * 60 + ((m % 60 : Nat) : Int)) * 60000 = (m : Int) * 60000 := by omega
    rw [if_neg (by decide), if_neg (by omega), if_neg (by decide), if_neg (by decide), hv]
  · have hv : (((m / 60 : Nat) : Int) * 60 + ((m % 60 : Nat) : Int)) * 60000 = (m : Int) * 60000 := by omega
    rw [if_neg (by decide), if_neg (by omega), if_pos (by decide), if_pos rfl, hv]

/-- What the law asks of a date with an offset. -/
theorem stamp_offset {t : Int} {y mo d h mi s ms : Nat} (hd : y ≤ 9999 ∧ 1 ≤ mo ∧ mo ≤ 12 ∧ 1 ≤ d ∧ (d : Int) ≤ mdays y mo ∧ dayNum y mo d = t / 86400000)
    (hh : (h : Int) = t % 86400000 / 3600000 ∧ (mi : Int) = t % 86400000 / 60000 % 60 ∧ (s : Int) = t % 86400000 / 1000 % 60 ∧ (ms : Int) = t % 86400000 % 1000)
    {Z : List UInt8} {z : Nat} (hz0 : Z.getD 0 0 = UInt8.ofNat z) (hzz : z = 90 ∨ z = 43 ∨ z = 45) (hz1 : 1 ≤ Z.length) (hz2 : Z.length ≤ 6) {o : Int} (hz : zoneR ⟨Z.toArray⟩ = (o, true)) :
    stN ⟨(wholeL y mo d h mi s ms Z).toArray⟩ = rng (t - o) := by
  obtain ⟨d1, d2, d3, d4, d5, d6⟩ := hd
  obtain ⟨h1, h2, h3, h4⟩ := hh
  have hmd := mdays_bd y mo
  have hok : momR y mo d h mi s 0 = (momVal y mo d h mi s 0, 0) := by
    unfold momR
    rw [if_neg (by omega), if_pos (by omega)]
  have hv : momVal y mo d h mi s 0 + (ms : Int) = t := by
    unfold momVal
    rw [d6]
    omega
  rw [stN_date ⟨d1, by omega, by omega, by omega, by omega, by omega, by omega⟩ hz0 hzz hz1 hz2 (by rw [hz]) (by rw [hok]), hok, hz]
  show rng (momVal y mo d h mi s 0 + (ms : Int) - o) = _
  rw [hv]

theorem slice_head (s : ByteArray) (b : Int) (B : Nat) (w : World) (hb : b = (B : Int)) (hB : B ≤ s.size) :
    (Instr.slice 9 (.string s) none (some (.int .i64 b)) none).run Tryd.prog w = .ok (.string (s.extract 0 B)) w := by
  subst hb
  rw [run_slice_string_to_if w 9 s .i64 _ Tryd.underlying9, if_pos (by omega)]
  simp
end Go.Proofs.YtmgnhekpgeahmaaDoor
