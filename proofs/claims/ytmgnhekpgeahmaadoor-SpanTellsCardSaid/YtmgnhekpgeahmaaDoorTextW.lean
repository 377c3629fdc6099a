/- span.Text: what it answers. span.Seconds: what it answers. -/
import Derived.Test.YtmgnhekpgeahmaaDoorAppD
import Derived.Test.YtmgnhekpgeahmaaDoorDurMeas
import Derived.Test.YtmgnhekpgeahmaaDoorThouB
import Derived.Test.YtmgnhekpgeahmaaDoorSecText
namespace Go.Proofs.YtmgnhekpgeahmaaDoor
open Go.Dur Go.Fl Go.Rel Go.RowKit
open Go.Lib (decDigits)

theorem unit_sz (u : Nat) : unitMs u = szN u := by
  match u with
  | 0 | 1 | 2 | 3 | 4 | 5 => rfl
  | u + 6 => rfl

theorem nameL_any (u : Nat) (h : u ≤ 6) (w : World) : Calls Tryd.prog 21 #[.int .i64 (u : Int)] w (Same (.string ⟨(nmL u).toArray⟩) w) := by
  match u, h with
  | 0, _ | 1, _ | 2, _ | 3, _ | 4, _ | 5, _ | 6, _ =>
    go_enter Tryd.func21, Tryd.ntmps21
    go_wp2_with fail
    go_ret
    exact ⟨rfl, rfl⟩

def TextRel (m : Nat) (B : Nat) (w0 : World) (vm vb vu : Value) (wr : World) : Prop :=
  ∃ u : Nat, u ≤ 7 ∧ vu = .int .i64 (u : Int) ∧ vm = .int .i64 ((rst u m : Nat) : Int) ∧ OwnB B wr vb (tx u m) ∧ Below B w0 wr

theorem rst_le (u m : Nat) : rst u m ≤ m := by
  induction u with
  | zero => exact Nat.le_refl _
  | succ u ih => exact Nat.le_trans (Nat.mod_le _ _) ih

def TextRet (m : Nat) (w : World) (e : Ending) (w' : World) : Prop := e = .returned (.tuple #[.string ⟨(tx 7 m).toArray⟩, .int .i64 0]) ∧ Below w.heap.size w w'

set_option maxHeartbeats 4000000 in
theorem text_any (m : Nat) (h0 : 0 < m) (h1 : m ≤ 315360000000000) (w : World) (ht : Tab w.heap.size w) :
    Calls Tryd.prog 6 #[.int .i64 (m : Int)] w (TextRet m w) := by
  have HT := Lib.hid ht
  have HNE : Hid (tx 7 m ≠ []) := by rw [tx_all]; exact txt_ne m h0
  clear ht
  have d0 : decide ((m : Int) < 0) = false := decide_eq_false (by omega)
  have d1 : decide ((315360000000000 : Int) < (m : Int)) = false := decide_eq_false (by omega)
  have d2 : ((m : Int) == 0) = false := by simp; omega
  go_enter Tryd.func6, Tryd.ntmps6
  go_wp2_with fail
  go_loopw [0, 4, 5] (TextRel m w.heap.size w) (fun _ _ vu _ => (7 - intOf vu).toNat)
  case atStart => exact ⟨0, by omega, rfl, rfl, ownB_nil _ _, Below.refl _ _⟩
  case round =>
    obtain ⟨u, hu, rfl, rfl, hob, bw⟩ := hrel
    have HOB := Lib.hid hob
    have hsz := bw.size
    clear hob d0 d1 d2
    by_cases hlt : u < 7
    · have HL : Hid ((tx u m).length ≤ 60) := tx_len m h1 u hu
      have hr := rst_le u m
      have hs := szN_pos u
      have HU : Hid (rst (u + 1) m = rst u m % szN u) := rfl
      have HX : Hid (tx (u + 1) m = tx u m ++ (if rst u m / szN u = 0 then [] else decDigits (rst u m / szN u) ++ nmL u)) := rfl
      have HS : Hid (∀ w, Calls Tryd.prog 19 #[.int .i64 (u : Int)] w (Same (.int .i64 ((szN u : Nat) : Int)) w)) := fun w => by rw [← unit_sz]; exact size_any u (by omega) w
      have HN : Hid (∀ w, Calls Tryd.prog 21 #[.int .i64 (u : Int)] w (Same (.string ⟨(nmL u).toArray⟩) w)) := fun w => nameL_any u (by omega) w
      have HNL : Hid ((nmL u).length ≤ 2) := (nm_len u).2
      generalize tx u m = l at *
      generalize rst u m = r at *
      generalize szN u = sz at *
      generalize nmL u = nm at *
      have hq : r / sz ≤ r := Nat.div_le_self _ _
      have hqi : (r : Int) / (sz : Int) = ((r / sz : Nat) : Int) := by rw [Int.natCast_ediv]
      have hri : (r : Int) % (sz : Int) = ((r % sz : Nat) : Int) := by rw [Int.natCast_emod]
      have HQI := Lib.hid hqi
      have HRI := Lib.hid hri
      have q0 : 0 ≤ (r : Int) / (sz : Int) := by rw [hqi]; exact Int.natCast_nonneg _
      have q1 : (r : Int) / (sz : Int) ≤ 315360000000000 := by rw [hqi]; omega
      have e0 : 0 ≤ (r : Int) % (sz : Int) := by rw [hri]; exact Int.natCast_nonneg _
      have e1 : (r : Int) % (sz : Int) ≤ 315360000000000 := by
        rw [hri]
        have := Nat.mod_le r sz
        omega
      by_cases hz : r / sz = 0
      · have dz : decide (0 < (r : Int) / (sz : Int)) = false := decide_eq_false (by rw [hqi, hz]; decide)
        have HX2 : Hid (tx (u + 1) m = l) := by show _ = _; rw [HX.out, if_pos hz, List.append_nil]
        have HR2 : Hid (rst (u + 1) m = r) := by
          show _ = _
          rw [HU.out]
          have := Nat.div_add_mod r sz
          rw [hz, Nat.mul_zero, Nat.zero_add] at this
          exact this
        have hsp := hs.1
        clear hqi hri HX HU hz hq hs
        go_wp2_with (first | (go_at_call 19; refine (HS.out _).mono ?_; rintro e w' ⟨rfl, rfl⟩))
        go_roundw
        case rel => exact ⟨u + 1, by omega, by go_num, by rw [HR2.out], by rw [HX2.out]; exact HOB.out, bw⟩
        case measure => simp [intOf]; omega
      · have dz : decide (0 < (r : Int) / (sz : Int)) = true := decide_eq_true (by rw [hqi]; exact Int.natCast_pos.2 (Nat.pos_of_ne_zero hz))
        have HX2 : Hid (tx (u + 1) m = l ++ (decDigits (r / sz) ++ nm)) := by show _ = _; rw [HX.out, if_neg hz]
        have HDL : Hid ((decDigits (r / sz)).length ≤ 100) := by
          show _ ≤ _
          have := dec_len 17 (r / sz) (by omega)
          omega
        have HAI : Hid (∀ v w1, w.heap.size ≤ w1.heap.size → OwnB w.heap.size w1 v l → Tab w.heap.size w1 → Calls Tryd.prog 20 #[v, .int .i64 ((r : Int) / (sz : Int)), .int .i64 10] w1 (OwnRet w.heap.size w1 (l ++ decDigits (r / sz)))) := fun v w1 g1 g2 g3 => appendInt_any (r / sz) _ HQI.out (by omega) _ v l w1 g1 g2 (by have := HL.out; omega) g3
        have HTW : Hid (∀ w1, Below w.heap.size w w1 → Tab w.heap.size w1) := fun w1 hb => HT.out.on hb
        have hsp := hs.1
        clear hqi hri HX hz hq hs
        go_wp2_with (first | (go_at_call 19; ((with_reducible refine (HS.out _).mono ?_); rintro e w' ⟨rfl, rfl⟩)) | (go_at_call 20; ((with_reducible refine (HAI.out _ _ hsz HOB.out (HTW.out _ bw)).mono ?_); rintro e w1 ⟨v1, rfl, ho1, b1⟩; have HO1 := Lib.hid ho1; have bw1 := bw.trans b1; have hsz1 := bw1.size; clear ho1)) | (go_at_call 21; ((with_reducible refine (HN.out _).mono ?_); rintro e w' ⟨rfl, rfl⟩)) | (at_builtin; refine wpList_append_s rfl (.tmp 28) (.tmp 30) rfl w.heap.size v1 (l ++ decDigits (r / sz)) rfl HO1.out nm rfl (by rw [List.length_append]; have := HL.out; have := HDL.out; have := HNL.out; omega) hsz1 ?_; intro v2 w2 ho2 hg2; have HO2 := Lib.hid ho2; have bw2 := HO1.out.below bw1 hg2 hsz1; have hsz2 := bw2.size; clear ho2 hg2))
        go_roundw
        case rel => exact ⟨u + 1, by omega, by go_num, by rw [HU.out, ← HRI.out], by rw [HX2.out, ← List.append_assoc]; exact HO2.out, bw2⟩
        case measure => simp [intOf]; omega
    · obtain rfl : u = 7 := by omega
      have htx := HOB.out.text HNE.out
      go_wp2_with fail
      go_ret2
      exact ⟨rfl, bw⟩
end Go.Proofs.YtmgnhekpgeahmaaDoor

namespace Go.Proofs.YtmgnhekpgeahmaaDoor
open Go.Dur Go.Fl Go.Rel Go.RowKit
open Go.Lib (decDigits)

theorem OwnB.shrink {B : Nat} {w : World} {g cap n : Nat} {l : List UInt8} (h : OwnB B w (.slice (some ⟨g, 0, none⟩) n cap) l) (k : Nat) (hk : k ≤ l.length) : OwnB B w (.slice (some ⟨g, 0, none⟩) k cap) (l.take k) := by
  unfold OwnB at h ⊢
  obtain ⟨h1, h2⟩ := h
  rcases h2 with ⟨h0, -⟩ | ⟨g', cap', cur, he, hg, hb, hlc, hcm, hcs, ht⟩
  · cases h0
  · injection he with e1 e2 e3
    injection e1 with e1
    injection e1 with e1
    subst e1
    subst e3
    have hl : (l.take k).length = k := by rw [List.length_take]; omega
    rw [hl]
    refine ⟨by rw [Lib.byteCells_length, hl]; omega, .inr ⟨g, cap, cur, rfl, hg, hb, by omega, hcm, hcs, ?_⟩⟩
    have : Lib.byteCells (l.take k) = (Lib.byteCells l).take k := by unfold Lib.byteCells; rw [List.map_take]
    rw [this, ← ht, List.take_take]
    congr 1
    omega

def sliceLen (v : Value) : Nat := match v with | .slice _ n _ => n | _ => 0

def StripRel (g cap p n : Nat) (w1 : World) (v : Value) (wr : World) : Prop :=
  ∃ k, wr = w1.drewN k ∧ (v = .slice (some ⟨g, 0, none⟩) (p + 4) cap ∨ (n % 10 = 0 ∧ v = .slice (some ⟨g, 0, none⟩) (p + 3) cap) ∨ (n % 10 = 0 ∧ n / 10 % 10 = 0 ∧ v = .slice (some ⟨g, 0, none⟩) (p + 2) cap))

set_option maxHeartbeats 4000000 in
theorem thouB_strip (n : Nat) (hn0 : n ≠ 0) (hn : n ≤ 999) (B : Nat) (v : Value) (l : List UInt8) (w : World) (hB : B ≤ w.heap.size) (hown : OwnB B w v l) (hl : l.length ≤ 1000000) :
    Calls Tryd.prog 23 #[v, .int .i64 (n : Int), .bool false] w (OwnRet B w (l ++ frL n)) := by
  have HO := Lib.hid hown
  have hz : ((n : Int) == 0) = false := by simp; omega
  clear hown
  have HF : Hid (frL n = 46 :: frG n) := by show _ = _; unfold frL; rw [if_neg hn0]
  have HG : Hid (frG n = if n % 10 ≠ 0 then [dgt n 100, dgt n 10, dgt n 1] else if n / 10 % 10 ≠ 0 then [dgt n 100, dgt n 10] else [dgt n 100]) := rfl
  have V0 := Lib.hid (dgt_nat n 100)
  have V1 := Lib.hid (dgt_nat n 10)
  have V2 := Lib.hid (dgt_nat n 1)
  generalize dgt n 100 = y0 at *
  generalize dgt n 10 = y1 at *
  generalize dgt n 1 = y2 at *
  go_enter Tryd.func23, Tryd.ntmps23
  go_wp2_with (at_builtin; refine wpList_append_b rfl (.tmp 10) (.tmp 24) rfl B _ l rfl (OwnB.alloc HO.out _) w.heap.size _ [46, y0, y1, y2] 4 rfl rfl (byte_four _ _ _ _ _ _ _ _ _ _ rfl (by have := V0.out; omega) (by have := V1.out; omega) (by have := V2.out; omega)) (by omega) (by simp; omega) ?_; intro v' w' hown' hg hv)
  have bw' := (OwnB.alloc HO.out _).below ((Below.refl B w).alloc hB _) hg (by simp; omega)
  obtain ⟨g, cap, rfl, hgB, hcap, hcell⟩ := hown'.form (by simp)
  have HO' := Lib.hid hown'
  have hlen : (l ++ [46, y0, y1, y2]).length = l.length + 4 := by simp
  have c3 : w'.cell? ⟨g, l.length + 3, none⟩ = some (.int .u8 (y2.toNat : Int)) := by rw [hcell (l.length + 3) (by rw [hlen]; omega)]; simp
  have c2 : w'.cell? ⟨g, l.length + 2, none⟩ = some (.int .u8 (y1.toNat : Int)) := by rw [hcell (l.length + 2) (by rw [hlen]; omega)]; simp
  have c1 : w'.cell? ⟨g, l.length + 1, none⟩ = some (.int .u8 (y0.toNat : Int)) := by rw [hcell (l.length + 1) (by rw [hlen]; omega)]; simp
  rw [hlen] at hcap HO' ⊢
  clear hown' hg hv hcell hlen
  have hp : l.length ≤ 1000000 := hl
  have hg2 := bw'.size
  obtain ⟨p, hpe⟩ : ∃ p, p = l.length := ⟨_, rfl⟩
  have HP := Lib.hid hpe
  rw [← hpe] at c1 c2 c3 hcap hp ⊢
  have HO2 : Hid (OwnB B w' (.slice (some ⟨g, 0, none⟩) (p + 4) cap) (l ++ [46, y0, y1, y2])) := by rw [hpe]; exact HO'.out
  clear hpe hl HO' HO
  go_loopw [0] (StripRel g cap p n w') (fun v _ => sliceLen v)
  case atStart => exact ⟨0, rfl, .inl rfl⟩
  case round =>
    obtain ⟨k, rfl, hrel⟩ := hrel
    rcases hrel with rfl | ⟨a1, rfl⟩ | ⟨a1, a2, rfl⟩
    · by_cases h : n % 10 = 0
      · have ht : ((y2.toNat : Int) == 48) = true := by have := V2.out; simp; omega
        go_wp2_with fail
        go_roundw
        case rel => exact ⟨k, rfl, .inr (.inl ⟨h, rfl⟩)⟩
        case measure => show p + 4 - 1 < p + 4; omega
      · have ht : ((y2.toNat : Int) == 48) = false := by have := V2.out; simp; omega
        go_wp2_with fail
        go_ret
        refine ⟨_, rfl, ?_, bw'.drewN' k⟩
        rw [HF.out, HG.out, if_pos h]
        exact HO2.out.drewN k
    · have ht : ((y2.toNat : Int) == 48) = true := by have := V2.out; simp; omega
      by_cases h : n / 10 % 10 = 0
      · have ht1 : ((y1.toNat : Int) == 48) = true := by have := V1.out; simp; omega
        go_wp2_with fail
        go_roundw
        case rel => exact ⟨k, rfl, .inr (.inr ⟨a1, h, rfl⟩)⟩
        case measure => show p + 3 - 1 < p + 3; omega
      · have ht1 : ((y1.toNat : Int) == 48) = false := by have := V1.out; simp; omega
        go_wp2_with fail
        go_ret
        refine ⟨_, rfl, ?_, bw'.drewN' k⟩
        rw [HF.out, HG.out, if_neg (by omega), if_pos h]
        have := (HO2.out.drewN k).shrink (p + 3) (by rw [HP.out]; simp)
        rw [show (l ++ [46, y0, y1, y2]).take (p + 3) = l ++ [46, y0, y1] by rw [HP.out, List.take_length_add_append]; rfl] at this
        exact this
    · have ht : ((y0.toNat : Int) == 48) = false := by have := V0.out; simp; omega
      go_wp2_with fail
      go_ret
      refine ⟨_, rfl, ?_, bw'.drewN' k⟩
      rw [HF.out, HG.out, if_neg (by omega), if_neg (by omega)]
      have := (HO2.out.drewN k).shrink (p + 2) (by rw [HP.out]; simp)
      rw [show (l ++ [46, y0, y1, y2]).take (p + 2) = l ++ [46, y0] by rw [HP.out, List.take_length_add_append]; rfl] at this
      exact this

theorem thouB_less (n : Nat) (hn : n ≤ 999) (B : Nat) (v : Value) (l : List UInt8) (w : World) (hB : B ≤ w.heap.size) (hown : OwnB B w v l) (hl : l.length ≤ 1000000) :
    Calls Tryd.prog 23 #[v, .int .i64 (n : Int), .bool false] w (OwnRet B w (l ++ frL n)) := by
  by_cases h0 : n = 0
  · subst h0
    have := thouB_zero B v l false w hown
    rw [show l ++ frL 0 = l from List.append_nil l]
    exact this
  · exact thouB_strip n h0 hn B v l w hB hown hl

def TextW (l : List UInt8) (w : World) (e : Ending) (w' : World) : Prop := e = .returned (.string ⟨l.toArray⟩) ∧ Below w.heap.size w w'

set_option maxHeartbeats 4000000 in
set_option maxRecDepth 100000 in
theorem secsW_any (t : Int) (h0 : -9223372036854775808 ≤ t) (h1 : t ≤ 9223372036854775807) (w : World) (ht : Tab w.heap.size w) :
    Calls Tryd.prog 7 #[.int .i64 t] w (TextW (secL t) w) := by
  have HT := Lib.hid ht
  have HNE := Lib.hid (secL_ne t)
  obtain ⟨n, hn⟩ : ∃ n : Nat, n = t.natAbs := ⟨_, rfl⟩
  have hnb : n ≤ 9223372036854775808 := by omega
  have HA1 : Hid (∀ v w1, w.heap.size ≤ w1.heap.size → OwnB w.heap.size w1 v (sgL t) → Tab w.heap.size w1 → Calls Tryd.prog 22 #[v, .int .u64 ((n : Int) / 1000), .int .i64 10] w1 (OwnRet w.heap.size w1 (sgL t ++ decDigits (n / 1000)))) := fun v w1 g1 g2 g3 => appendUint_any (n / 1000) _ (by omega) (by omega) _ v _ w1 g1 g2 (by unfold sgL; split <;> simp) g3
  have HA2 : Hid (∀ v w1, w.heap.size ≤ w1.heap.size → OwnB w.heap.size w1 v (sgL t ++ decDigits (n / 1000)) → Calls Tryd.prog 23 #[v, .int .i64 ((n : Int) % 1000), .bool false] w1 (OwnRet w.heap.size w1 (secL t))) := fun v w1 g1 g2 => by
    have hl : (sgL t ++ decDigits (n / 1000)).length ≤ 1000000 := by
      have := dec_len 17 (n / 1000) (by omega)
      have : (sgL t).length ≤ 1 := by unfold sgL; split <;> simp
      rw [List.length_append]; omega
    have := thouB_less (n % 1000) (by omega) _ v _ w1 g1 g2 hl
    rw [show ((n % 1000 : Nat) : Int) = (n : Int) % 1000 by omega] at this
    unfold secL
    rw [← hn]
    exact this
  have HN := Lib.hid hn
  clear ht hn
  by_cases hneg : t < 0
  · have hd : decide (t < 0) = true := decide_eq_true hneg
    have HSG : Hid (sgL t = [45]) := by show _ = _; unfold sgL; rw [if_pos hneg]
    have hw1 : IntKind.u64.wrap t = 18446744073709551616 - (n : Int) := by have := HN.out; rw [IntKind.wrap_u64]; omega
    have hw2 : IntKind.u64.wrap (-(18446744073709551616 - (n : Int))) = (n : Int) := by rw [IntKind.wrap_u64]; omega
    rw [HSG.out] at HA1 HA2
    go_enter Tryd.func7, Tryd.ntmps7
    go_wp2_with (first | (at_builtin; refine wpList_append_b rfl (.tmp 9) (.tmp 10) rfl w.heap.size _ [] rfl (ownB_nil _ _) w.heap.size _ [45] 1 rfl rfl (byte_one _ _ _ _ rfl) (by simp) (by simp) ?_; intro v' w' hown' hg hv; have HO1 := Lib.hid hown'; have bw1 : Below w.heap.size w w' := (ownB_nil _ _).below ((Below.refl w.heap.size w).alloc (Nat.le_refl _) _) hg (by simp); clear hown' hg hv) | (go_at_call 22; ((with_reducible refine (HA1.out _ _ (bw1.size) (HO1.out) (HT.out.on bw1)).mono ?_); rintro e w2 ⟨v2, rfl, ho2, b2⟩; have HO2 := Lib.hid ho2; have bw2 := bw1.trans b2; clear ho2)) | (go_at_call 23; ((with_reducible refine (HA2.out _ _ bw2.size HO2.out).mono ?_); rintro e w3 ⟨v3, rfl, ho3, b3⟩; have htx := ho3.text HNE.out; have bw3 := bw2.trans b3; clear ho3)))
    go_ret
    exact ⟨rfl, bw3⟩
  · have hd : decide (t < 0) = false := decide_eq_false hneg
    have HSG : Hid (sgL t = []) := by show _ = _; unfold sgL; rw [if_neg hneg]
    rw [HSG.out] at HA1 HA2
    obtain rfl : t = (n : Int) := by have := HN.out; omega
    go_enter Tryd.func7, Tryd.ntmps7
    go_wp2_with (first | (go_at_call 22; ((with_reducible refine (HA1.out _ _ (Nat.le_refl _) (ownB_nil _ _) (HT.out)).mono ?_); rintro e w2 ⟨v2, rfl, ho2, b2⟩; have HO2 := Lib.hid ho2; have bw2 := b2; clear ho2)) | (go_at_call 23; ((with_reducible refine (HA2.out _ _ bw2.size HO2.out).mono ?_); rintro e w3 ⟨v3, rfl, ho3, b3⟩; have htx := ho3.text HNE.out; have bw3 := bw2.trans b3; clear ho3)))
    go_ret
    exact ⟨rfl, bw3⟩
end Go.Proofs.YtmgnhekpgeahmaaDoor
