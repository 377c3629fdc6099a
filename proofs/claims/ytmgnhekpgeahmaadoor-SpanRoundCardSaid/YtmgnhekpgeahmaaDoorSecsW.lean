/- span.Seconds: what it answers. -/
import Derived.Test.YtmgnhekpgeahmaaDoorAppD
import Derived.Test.YtmgnhekpgeahmaaDoorThouB
import Derived.Test.YtmgnhekpgeahmaaDoorSecText
namespace Go.Proofs.YtmgnhekpgeahmaaDoor
open Go.Dur Go.Fl Go.Rel Go.RowKit
open Go.Lib (decDigits)

theorem OwnB.shrink {B : Nat} {w : World} {g cap n : Nat} {l : List UInt8} (h : OwnB B w (.slice (some ⟨g, 0, none⟩) n cap) l) (k : Nat) (hk : k ≤ l.length) : OwnB B w (.slice (some ⟨g, 0, none⟩) k cap) (l.take k) := by
  unfold OwnB at h ⊢
  obtain ⟨h1, h2⟩ := h
  rcases h2 with ⟨h0, -⟩ | ⟨g', cap', cur, he, hg, hb, hlc, hcm, hcs, ht⟩
  · cases h0
  · injection he with e1 e2 e3
    injection e1 with e1
    injection e1 with e1
    subst e1
    subst e3
    have hl : (l.take k).length = k := by rw [List.length_take]; omega
    rw [hl]
    refine ⟨by rw [Lib.byteCells_length, hl]; omega, .inr ⟨g, cap, cur, rfl, hg, hb, by omega, hcm, hcs, ?_⟩⟩
    have : Lib.byteCells (l.take k) = (Lib.byteCells l).take k := by unfold Lib.byteCells; rw [List.map_take]
    rw [this, ← ht, List.take_take]
    congr 1
    omega

def sliceLen (v : Value) : Nat := match v with | .slice _ n _ => n | _ => 0

def StripRel (g cap p n : Nat) (w1 : World) (v : Value) (wr : World) : Prop :=
  ∃ k, wr = w1.drewN k ∧ (v = .slice (some ⟨g, 0, none⟩) (p + 4) cap ∨ (n % 10 = 0 ∧ v = .slice (some ⟨g, 0, none⟩) (p + 3) cap) ∨ (n % 10 = 0 ∧ n / 10 % 10 = 0 ∧ v = .slice (some ⟨g, 0, none⟩) (p + 2) cap))

set_option maxHeartbeats 4000000 in
theorem thouB_strip (n : Nat) (hn0 : n ≠ 0) (hn : n ≤ 999) (B : Nat) (v : Value) (l : List UInt8) (w : World) (hB : B ≤ w.heap.size) (hown : OwnB B w v l) (hl : l.length ≤ 1000000) :
    Calls Tryd.prog 23 #[v, .int .i64 (n : Int), .bool false] w (OwnRet B w (l ++ frL n)) := by
  have HO := Lib.hid hown
  have hz : ((n : Int) == 0) = false := by simp; omega
  clear hown
  have HF : Hid (frL n = 46 :: frG n) := by show _ = _; unfold frL; rw [if_neg hn0]
  have HG : Hid (frG n = if n % 10 ≠ 0 then [dgt n 100, dgt n 10, dgt n 1] else if n / 10 % 10 ≠ 0 then [dgt n 100, dgt n 10] else [dgt n 100]) := rfl
  have V0 := Lib.hid (dgt_nat n 100)
  have V1 := Lib.hid (dgt_nat n 10)
  have V2 := Lib.hid (dgt_nat n 1)
  generalize dgt n 100 = y0 at *
  generalize dgt n 10 = y1 at *
  generalize dgt n 1 = y2 at *
  go_enter Tryd.func23, Tryd.ntmps23
  go_wp2_with (at_builtin; refine wpList_append_b rfl (.tmp 10) (.tmp 24) rfl B _ l rfl (OwnB.alloc HO.out _) w.heap.size _ [46, y0, y1, y2] 4 rfl rfl (byte_four _ _ _ _ _ _ _ _ _ _ rfl (by have := V0.out; omega) (by have := V1.out; omega) (by have := V2.out; omega)) (by omega) (by simp; omega) ?_; intro v' w' hown' hg hv)
  have bw' := (OwnB.alloc HO.out _).below ((Below.refl B w).alloc hB _) hg (by simp; omega)
  obtain ⟨g, cap, rfl, hgB, hcap, hcell⟩ := hown'.form (by simp)
  have HO' := Lib.hid hown'
  have hlen : (l ++ [46, y0, y1, y2]).length = l.length + 4 := by simp
  have c3 : w'.cell? ⟨g, l.length + 3, none⟩ = some (.int .u8 (y2.toNat : Int)) := by rw [hcell (l.length + 3) (by rw [hlen]; omega)]; simp
  have c2 : w'.cell? ⟨g, l.length + 2, none⟩ = some (.int .u8 (y1.toNat : Int)) := by rw [hcell (l.length + 2) (by rw [hlen]; omega)]; simp
  have c1 : w'.cell? ⟨g, l.length + 1, none⟩ = some (.int .u8 (y0.toNat : Int)) := by rw [hcell (l.length + 1) (by rw [hlen]; omega)]; simp
  rw [hlen] at hcap HO' ⊢
  clear hown' hg hv hcell hlen
  have hp : l.length ≤ 1000000 := hl
  have hg2 := bw'.size
  obtain ⟨p, hpe⟩ : ∃ p, p = l.length := ⟨_, rfl⟩
  have HP := Lib.hid hpe
  rw [← hpe] at c1 c2 c3 hcap hp ⊢
  have HO2 : Hid (OwnB B w' (.slice (some ⟨g, 0, none⟩) (p + 4) cap) (l ++ [46, y0, y1, y2])) := by rw [hpe]; exact HO'.out
  clear hpe hl HO' HO
  go_loopw [0] (StripRel g cap p n w') (fun v _ => sliceLen v)
  case atStart => exact ⟨0, rfl, .inl rfl⟩
  case round =>
    obtain ⟨k, rfl, hrel⟩ := hrel
    rcases hrel with rfl | ⟨a1, rfl⟩ | ⟨a1, a2, rfl⟩
    · by_cases h : n % 10 = 0
      · have ht : ((y2.toNat : Int) == 48) = true := by have := V2.out; simp; omega
        go_wp2_with fail
        go_roundw
        case rel => exact ⟨k, rfl, .inr (.inl ⟨h, rfl⟩)⟩
        case measure => show p + 4 - 1 < p + 4; omega
      · have ht : ((y2.toNat : Int) == 48) = false := by have := V2.out; simp; omega
        go_wp2_with fail
        go_ret
        refine ⟨_, rfl, ?_, bw'.drewN' k⟩
        rw [HF.out, HG.out, if_pos h]
        exact HO2.out.drewN k
    · have ht : ((y2.toNat : Int) == 48) = true := by have := V2.out; simp; omega
      by_cases h : n / 10 % 10 = 0
      · have ht1 : ((y1.toNat : Int) == 48) = true := by have := V1.out; simp; omega
        go_wp2_with fail
        go_roundw
        case rel => exact ⟨k, rfl, .inr (.inr ⟨a1, h, rfl⟩)⟩
        case measure => show p + 3 - 1 < p + 3; omega
      · have ht1 : ((y1.toNat : Int) == 48) = false := by have := V1.out; simp; omega
        go_wp2_with fail
        go_ret
        refine ⟨_, rfl, ?_, bw'.drewN' k⟩
        rw [HF.out, HG.out, if_neg (by omega), if_pos h]
        have := (HO2.out.drewN k).shrink (p + 3) (by rw [HP.out]; simp)
        rw [show (l ++ [46, y0, y1, y2]).take (p + 3) = l ++ [46, y0, y1] by rw [HP.out, List.take_length_add_append]; rfl] at this
        exact this
    · have ht : ((y0.toNat : Int) == 48) = false := by have := V0.out; simp; omega
      go_wp2_with fail
      go_ret
      refine ⟨_, rfl, ?_, bw'.drewN' k⟩
      rw [HF.out, HG.out, if_neg (by omega), if_neg (by omega)]
      have := (HO2.out.drewN k).shrink (p + 2) (by rw [HP.out]; simp)
      rw [show (l ++ [46, y0, y1, y2]).take (p + 2) = l ++ [46, y0] by rw [HP.out, List.take_length_add_append]; rfl] at this
      exact this

theorem thouB_less (n : Nat) (hn : n ≤ 999) (B : Nat) (v : Value) (l : List UInt8) (w : World) (hB : B ≤ w.heap.size) (hown : OwnB B w v l) (hl : l.length ≤ 1000000) :
    Calls Tryd.prog 23 #[v, .int .i64 (n : Int), .bool false] w (OwnRet B w (l ++ frL n)) := by
  by_cases h0 : n = 0
  · subst h0
    have := thouB_zero B v l false w hown
    rw [show l ++ frL 0 = l from List.append_nil l]
    exact this
  · exact thouB_strip n h0 hn B v l w hB hown hl

def TextW (l : List UInt8) (w : World) (e : Ending) (w' : World) : Prop := e = .returned (.string ⟨l.toArray⟩) ∧ Below w.heap.size w w'

set_option maxHeartbeats 4000000 in
set_option maxRecDepth 100000 in
theorem secsW_any (t : Int) (h0 : -9223372036854775808 ≤ t) (h1 : t ≤ 9223372036854775807) (w : World) (ht : Tab w.heap.size w) :
    Calls Tryd.prog 7 #[.int .i64 t] w (TextW (secL t) w) := by
  have HT := Lib.hid ht
  have HNE := Lib.hid (secL_ne t)
  obtain ⟨n, hn⟩ : ∃ n : Nat, n = t.natAbs := ⟨_, rfl⟩
  have hnb : n ≤ 9223372036854775808 := by omega
  have HA1 : Hid (∀ v w1, w.heap.size ≤ w1.heap.size → OwnB w.heap.size w1 v (sgL t) → Tab w.heap.size w1 → Calls Tryd.prog 22 #[v, .int .u64 ((n : Int) / 1000), .int .i64 10] w1 (OwnRet w.heap.size w1 (sgL t ++ decDigits (n / 1000)))) := fun v w1 g1 g2 g3 => appendUint_any (n / 1000) _ (by omega) (by omega) _ v _ w1 g1 g2 (by unfold sgL; split <;> simp) g3
  have HA2 : Hid (∀ v w1, w.heap.size ≤ w1.heap.size → OwnB w.heap.size w1 v (sgL t ++ decDigits (n / 1000)) → Calls Tryd.prog 23 #[v, .int .i64 ((n : Int) % 1000), .bool false] w1 (OwnRet w.heap.size w1 (secL t))) := fun v w1 g1 g2 => by
    have hl : (sgL t ++ decDigits (n / 1000)).length ≤ 1000000 := by
      have := dec_len 17 (n / 1000) (by omega)
      have : (sgL t).length ≤ 1 := by unfold sgL; split <;> simp
      rw [List.length_append]; omega
    have := thouB_less (n % 1000) (by omega) _ v _ w1 g1 g2 hl
    rw [show ((n % 1000 : Nat) : Int) = (n : Int) % 1000 by omega] at this
    unfold secL
    rw [← hn]
    exact this
  have HN := Lib.hid hn
  clear ht hn
  by_cases hneg : t < 0
  · have hd : decide (t < 0) = true := decide_eq_true hneg
    have HSG : Hid (sgL t = [45]) := by show _ = _; unfold sgL; rw [if_pos hneg]
    have hw1 : IntKind.u64.wrap t = 18446744073709551616 - (n : Int) := by have := HN.out; rw [IntKind.wrap_u64]; omega
    have hw2 : IntKind.u64.wrap (-(18446744073709551616 - (n : Int))) = (n : Int) := by rw [IntKind.wrap_u64]; omega
    rw [HSG.out] at HA1 HA2
    go_enter Tryd.func7, Tryd.ntmps7
    go_wp2_with (first | (at_builtin; refine wpList_append_b rfl (.tmp 9) (.tmp 10) rfl w.heap.size _ [] rfl (ownB_nil _ _) w.heap.size _ [45] 1 rfl rfl (byte_one _ _ _ _ rfl) (by simp) (by simp) ?_; intro v' w' hown' hg hv; have HO1 := Lib.hid hown'; have bw1 : Below w.heap.size w w' := (ownB_nil _ _).below ((Below.refl w.heap.size w).alloc (Nat.le_refl _) _) hg (by simp); clear hown' hg hv) | (go_at_call 22; ((with_reducible refine (HA1.out _ _ (bw1.size) (HO1.out) (HT.out.on bw1)).mono ?_); rintro e w2 ⟨v2, rfl, ho2, b2⟩; have HO2 := Lib.hid ho2; have bw2 := bw1.trans b2; clear ho2)) | (go_at_call 23; ((with_reducible refine (HA2.out _ _ bw2.size HO2.out).mono ?_); rintro e w3 ⟨v3, rfl, ho3, b3⟩; have htx := ho3.text HNE.out; have bw3 := bw2.trans b3; clear ho3)))
    go_ret
    exact ⟨rfl, bw3⟩
  · have hd : decide (t < 0) = false := decide_eq_false hneg
    have HSG : Hid (sgL t = []) := by show _ = _; unfold sgL; rw [if_neg hneg]
    rw [HSG.out] at HA1 HA2
    obtain rfl : t = (n : Int) := by have := HN.out; omega
    go_enter Tryd.func7, Tryd.ntmps7
    go_wp2_with (first | (go_at_call 22; ((with_reducible refine (HA1.out _ _ (Nat.le_refl _) (ownB_nil _ _) (HT.out)).mono ?_); rintro e w2 ⟨v2, rfl, ho2, b2⟩; have HO2 := Lib.hid ho2; have bw2 := b2; clear ho2)) | (go_at_call 23; ((with_reducible refine (HA2.out _ _ bw2.size HO2.out).mono ?_); rintro e w3 ⟨v3, rfl, ho3, b3⟩; have htx := ho3.text HNE.out; have bw3 := bw2.trans b3; clear ho3)))
    go_ret
    exact ⟨rfl, bw3⟩
end Go.Proofs.YtmgnhekpgeahmaaDoor
