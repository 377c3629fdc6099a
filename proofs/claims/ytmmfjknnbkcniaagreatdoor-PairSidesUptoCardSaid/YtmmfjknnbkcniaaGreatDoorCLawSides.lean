/- PairSides: the law. (Printed by tools/gensides.py.) -/
import Derived.Test.YtmmfjknnbkcniaaGreatDoorCSidesP
import Derived.Deep.Cut
namespace Go.Proofs.YtmmfjknnbkcniaaGreatDoor
open Go.Fl Go.Rel Go.RowKit Go.Sort
set_option linter.unusedSimpArgs false
set_option linter.unusedVariables false

set_option maxHeartbeats 16000000 in
set_option maxRecDepth 100000 in
theorem law_sides (a b : Option Addr) (na ca nb cb : Nat) (la lb : List Er) (m : Mt) (yes : Bool) (w : World) (ha : ERow w a na la) (hb : ERow w b nb lb) (hM : MtOk w m)
    (hfa : FitK m.on m.ns m.im (la.map Er.key)) (hfb : FitK m.on m.ns m.im (lb.map Er.key)) (hn : na + nb ≤ 4398046511000) (hi : (m.im : Int) ≤ 9223372036854775807) (hT : Tab w.heap.size w) :
    Calls Tryz.prog 7 #[.slice a na ca, .slice b nb cb, m.v, .bool yes] w fun e w' => e = .returned (.bool true) ∧ Below w.heap.size w w' := by
  have HV : Hid (∀ (u : ByteArray) (c : Int) (y : Bool) (ka kb : List Ek) (W : World) (x : Option Addr) (cx : Nat) (O : List Er) (z : Option Addr) (cz : Nat) (Q : List Er), Below w.heap.size w W → FitK m.on m.ns m.im ka → FitK m.on m.ns m.im kb → ka.length + kb.length ≤ 4398046511000 → ERow W x O.length O → O.map Er.key = ka → ERow W z Q.length Q → Q.map Er.key = kb → Calls Tryz.prog 13 #[.string u, .slice x O.length cx, .slice z Q.length cz, Mt.v { m with card := c }, .bool y] W (AnsN (vecsE u.toList m.on m.ns m.inc c y ka kb) (vecsV u.toList m.on m.ns m.inc c y ka kb).length (vecsV u.toList m.on m.ns m.inc c y ka kb) W)) := Lib.hid fun u c y ka kb W x cx O z cz Q h f1 f2 hl ho hk hq hk2 => by
    subst hk hk2
    rw [List.length_map, List.length_map] at hl
    exact (vectors_any u x z O.length cx Q.length cz O Q { m with card := c } y W ho hq (hM.below h) f1 f2 (fun w' h2 => hT w' (h.trans (h2.mono h.size))) hl).mono fun e w' h => h.n
  have HAW : Hid (∀ W, Below w.heap.size w W → Calls Tryz.prog 9 #[] W fun e w' => e = .returned (.bool true) ∧ Below W.heap.size W w') := Lib.hid fun W h => awake_any W (fun w' h2 => hT w' (h.trans (h2.mono h.size)))
  have HGR : Hid (∀ W, Calls Tryz.prog 10 #[.slice a na ca, .slice b nb cb, m.v] W fun e w' => (∃ d, e = .returned (.bool d)) ∧ Below W.heap.size W w') := Lib.hid fun W => great_any a b na ca nb cb m W hi hn
  have HCL : Hid (∀ W, Below w.heap.size w W → Calls Tryz.prog 11 #[.slice a na ca] W (CopyOf la W)) := Lib.hid fun W h => copied21_any a na ca la W (ha.below h)
  have HCR : Hid (∀ W, Below w.heap.size w W → Calls Tryz.prog 11 #[.slice b nb cb] W (CopyOf lb W)) := Lib.hid fun W h => copied21_any b nb cb lb W (hb.below h)
  have hlen : (la.map Er.key).length + (lb.map Er.key).length ≤ 4398046511000 := by rw [List.length_map, List.length_map, ha.1, hb.1]; exact hn
  have hlen2 : (lb.map Er.key).length + (la.map Er.key).length ≤ 4398046511000 := by omega
  have t43 : (⟨#[43]⟩ : ByteArray).toList = [43] := by rw [ByteArray.toList_eq]
  have t42 : (⟨#[42]⟩ : ByteArray).toList = [42] := by rw [ByteArray.toList_eq]
  have t60 : (⟨#[60]⟩ : ByteArray).toList = [60] := by rw [ByteArray.toList_eq]
  have t62 : (⟨#[62]⟩ : ByteArray).toList = [62] := by rw [ByteArray.toList_eq]
  obtain ⟨E1, hE1⟩ : ∃ E, E = vecsE [43] m.on m.ns m.inc 1 yes (la.map Er.key) (lb.map Er.key) := ⟨_, rfl⟩
  obtain ⟨V1, hV1⟩ : ∃ V, V = vecsV [43] m.on m.ns m.inc 1 yes (la.map Er.key) (lb.map Er.key) := ⟨_, rfl⟩
  obtain ⟨N1, hN1⟩ : ∃ n, n = V1.length := ⟨_, rfl⟩
  have HP1 : Hid (∀ W x cx (O : List Er) z cz (Q : List Er), Below w.heap.size w W → ERow W x O.length O → O.map Er.key = la.map Er.key → ERow W z Q.length Q → Q.map Er.key = lb.map Er.key → Calls Tryz.prog 13 #[.string ⟨#[43]⟩, .slice x O.length cx, .slice z Q.length cz, Mt.v { m with card := 1 }, .bool yes] W (AnsN E1 N1 V1 W)) := Lib.hid fun W x cx O z cz Q h ho hk hq hk2 => by
    have h1 := HV.out ⟨#[43]⟩ 1 yes _ _ W x cx O z cz Q h hfa hfb hlen ho hk hq hk2
    rw [t43, ← hE1, ← hV1, ← hN1] at h1; exact h1
  have HQ1 : Hid (∀ W x cx (O : List Er) z cz (Q : List Er), Below w.heap.size w W → ERow W x O.length O → O.map Er.key = lb.map Er.key → ERow W z Q.length Q → Q.map Er.key = la.map Er.key → Calls Tryz.prog 13 #[.string ⟨#[43]⟩, .slice x O.length cx, .slice z Q.length cz, Mt.v { m with card := 2 }, .bool (!yes)] W (AnsN E1 N1 V1 W)) := Lib.hid fun W x cx O z cz Q h ho hk hq hk2 => by
    have h1 := HV.out ⟨#[43]⟩ 2 (!yes) _ _ W x cx O z cz Q h hfb hfa hlen2 ho hk hq hk2
    have h2 := sides_sum m.on m.ns m.inc yes (la.map Er.key) (lb.map Er.key)
    rw [t43, ← h2.1, ← h2.2, ← hE1, ← hV1, ← hN1] at h1; exact h1
  obtain ⟨E2, hE2⟩ : ∃ E, E = vecsE [42] m.on m.ns m.inc 1 yes (la.map Er.key) (lb.map Er.key) := ⟨_, rfl⟩
  obtain ⟨V2, hV2⟩ : ∃ V, V = vecsV [42] m.on m.ns m.inc 1 yes (la.map Er.key) (lb.map Er.key) := ⟨_, rfl⟩
  obtain ⟨N2, hN2⟩ : ∃ n, n = V2.length := ⟨_, rfl⟩
  have HP2 : Hid (∀ W x cx (O : List Er) z cz (Q : List Er), Below w.heap.size w W → ERow W x O.length O → O.map Er.key = la.map Er.key → ERow W z Q.length Q → Q.map Er.key = lb.map Er.key → Calls Tryz.prog 13 #[.string ⟨#[42]⟩, .slice x O.length cx, .slice z Q.length cz, Mt.v { m with card := 1 }, .bool yes] W (AnsN E2 N2 V2 W)) := Lib.hid fun W x cx O z cz Q h ho hk hq hk2 => by
    have h1 := HV.out ⟨#[42]⟩ 1 yes _ _ W x cx O z cz Q h hfa hfb hlen ho hk hq hk2
    rw [t42, ← hE2, ← hV2, ← hN2] at h1; exact h1
  have HQ2 : Hid (∀ W x cx (O : List Er) z cz (Q : List Er), Below w.heap.size w W → ERow W x O.length O → O.map Er.key = lb.map Er.key → ERow W z Q.length Q → Q.map Er.key = la.map Er.key → Calls Tryz.prog 13 #[.string ⟨#[42]⟩, .slice x O.length cx, .slice z Q.length cz, Mt.v { m with card := 2 }, .bool yes] W (AnsN E2 N2 V2 W)) := Lib.hid fun W x cx O z cz Q h ho hk hq hk2 => by
    have h1 := HV.out ⟨#[42]⟩ 2 yes _ _ W x cx O z cz Q h hfb hfa hlen2 ho hk hq hk2
    have h2 := sides_mul m.on m.ns m.inc yes (la.map Er.key) (lb.map Er.key)
    rw [t42, ← h2.1, ← h2.2, ← hE2, ← hV2, ← hN2] at h1; exact h1
  obtain ⟨E3, hE3⟩ : ∃ E, E = vecsE [60] m.on m.ns m.inc 1 true (la.map Er.key) (lb.map Er.key) := ⟨_, rfl⟩
  obtain ⟨V3, hV3⟩ : ∃ V, V = vecsV [60] m.on m.ns m.inc 1 true (la.map Er.key) (lb.map Er.key) := ⟨_, rfl⟩
  obtain ⟨N3, hN3⟩ : ∃ n, n = V3.length := ⟨_, rfl⟩
  have HP3 : Hid (∀ W x cx (O : List Er) z cz (Q : List Er), Below w.heap.size w W → ERow W x O.length O → O.map Er.key = la.map Er.key → ERow W z Q.length Q → Q.map Er.key = lb.map Er.key → Calls Tryz.prog 13 #[.string ⟨#[60]⟩, .slice x O.length cx, .slice z Q.length cz, Mt.v { m with card := 1 }, .bool true] W (AnsN E3 N3 V3 W)) := Lib.hid fun W x cx O z cz Q h ho hk hq hk2 => by
    have h1 := HV.out ⟨#[60]⟩ 1 true _ _ W x cx O z cz Q h hfa hfb hlen ho hk hq hk2
    rw [t60, ← hE3, ← hV3, ← hN3] at h1; exact h1
  have HQ3 : Hid (∀ W x cx (O : List Er) z cz (Q : List Er), Below w.heap.size w W → ERow W x O.length O → O.map Er.key = lb.map Er.key → ERow W z Q.length Q → Q.map Er.key = la.map Er.key → Calls Tryz.prog 13 #[.string ⟨#[62]⟩, .slice x O.length cx, .slice z Q.length cz, Mt.v { m with card := 2 }, .bool true] W (AnsN E3 N3 V3 W)) := Lib.hid fun W x cx O z cz Q h ho hk hq hk2 => by
    have h1 := HV.out ⟨#[62]⟩ 2 true _ _ W x cx O z cz Q h hfb hfa hlen2 ho hk hq hk2
    have h2 := sides_less m.on m.ns m.inc (la.map Er.key) (lb.map Er.key)
    rw [t62, ← h2.1, ← h2.2, ← hE3, ← hV3, ← hN3] at h1; exact h1
  obtain ⟨given, on, ma, mn, mc, card, ia, im, ic, ns, inc⟩ := m
  dsimp only [Mt.v] at HGR HP1 HQ1 HP2 HQ2 HP3 HQ3 ⊢
  obtain ⟨W0, hW0⟩ : ∃ W0, W0 = w.alloc (.cells #[.bool given, .bool on, .slice ma mn mc, .int .i64 card, .slice ia im ic] 25) := ⟨_, rfl⟩
  have HI0 : Hid (Bk.Is W0 w.heap.size #[.bool given, .bool on, .slice ma mn mc, .int .i64 card, .slice ia im ic] 25) := Lib.hid (by rw [hW0]; exact Bk.Is.made w _ _)
  have HB0 : Hid (Below w.heap.size w W0) := Lib.hid (by rw [hW0]; exact (Below.refl _ _).alloc (Nat.le_refl _) _)
  have HW0 := Lib.hid hW0
  clear ha hb hM hfa hfb hn hi hT hlen hlen2 t43 t42 t60 t62 hE1 hV1 hN1 hE2 hV2 hN2 hE3 hV3 hN3 HV hW0
  go_enter Tryz.func7, Tryz.ntmps7
  go_upto_region 1 with fail
  rw [← HW0.out]
  go_wp2_with fail
  refine (HAW.out _ HB0.out).mono ?_
  rintro e w1 ⟨rfl, b1⟩
  have K1 := Lib.hid (HB0.out.trans (b1.mono HB0.out.size))
  have HI1 := Lib.hid (HI0.out.below b1 HI0.out.lt)
  clear b1 HI0 HB0
  have p0 := HI1.out.cell 0
  have p1 := HI1.out.cell 1
  have p2 := HI1.out.cell 2
  have p3 := HI1.out.cell 3
  have p4 := HI1.out.cell 4
  simp at p0 p1 p2 p3 p4
  go_wp2_with fail
  refine (HGR.out _).mono ?_
  rintro e w2 ⟨⟨d, rfl⟩, b2⟩
  have K2 := Lib.hid (K1.out.trans (b2.mono K1.out.size))
  have HI2 := Lib.hid (HI1.out.below b2 HI1.out.lt)
  clear b2 K1 HI1 p0 p1 p2 p3 p4
  cases d
  · have p0 := HI2.out.cell 0
    have p1 := HI2.out.cell 1
    have p2 := HI2.out.cell 2
    have p3 := HI2.out.cell 3
    have p4 := HI2.out.cell 4
    simp at p0 p1 p2 p3 p4
    have pf := HI2.out.free 3
    go_upto_region 6 with fail
    have HI3 : Hid (Bk.Is (w2.setCell ⟨w.heap.size, 3, none⟩ (.int .i64 1)) w.heap.size #[.bool given, .bool on, .slice ma mn mc, .int .i64 1, .slice ia im ic] 25) := Lib.hid (HI2.out.set 3 (.int .i64 1))
    have K3 : Hid (Below w.heap.size w (w2.setCell ⟨w.heap.size, 3, none⟩ (.int .i64 1))) := Lib.hid (K2.out.setCell (p := ⟨w.heap.size, 3, none⟩) (Nat.le_refl _) _)
    clear p0 p1 p2 p3 p4 pf HI2 K2
    generalize w2.setCell ⟨w.heap.size, 3, none⟩ (.int .i64 1) = w3 at *
    have p0 := HI3.out.cell 0
    have p1 := HI3.out.cell 1
    have p2 := HI3.out.cell 2
    have p3 := HI3.out.cell 3
    have p4 := HI3.out.cell 4
    simp at p0 p1 p2 p3 p4
    go_upto_region 7 with (refine Bk.is_store 25 rfl ?_; refine Bk.wpList_store_box (w0 := w3) (N := 0) rfl 25 _ _ rfl #[.bool given, .bool on, .slice ma mn mc, .int .i64 1, .slice ia im ic] #[.bool false, .bool false, .slice none 0 0, .int .i64 0, .slice none 0 0] 25 rfl rfl (by kernel_rfl) rfl (by kernel_rfl) ?_; intro w4 hI hB; have HJ4 := Lib.hid hI; have HI4 := Lib.hid (HI3.out.below hB HI3.out.lt); have K4 := Lib.hid (K3.out.trans (hB.mono K3.out.size)); have hnb := Lib.hid (show w3.heap.size ≠ w.heap.size from (by have := HI3.out.lt; omega)); clear hI hB)
    obtain ⟨B, hB⟩ : ∃ B, B = w3.heap.size := ⟨_, rfl⟩
    rw [← hB] at HJ4 hnb ⊢
    have hBK : Hid (w.heap.size ≤ B) := Lib.hid (by rw [hB]; exact K3.out.size)
    clear hB p0 p1 p2 p3 p4 HI3 K3
    have p0 := HJ4.out.cell 0
    have p1 := HJ4.out.cell 1
    have p2 := HJ4.out.cell 2
    have p3 := HJ4.out.cell 3
    have p4 := HJ4.out.cell 4
    simp at p0 p1 p2 p3 p4
    have pf := HJ4.out.free 3
    go_upto_region 8 with fail
    have HJ5 : Hid (Bk.Is (w4.setCell ⟨B, 3, none⟩ (.int .i64 2)) B #[.bool given, .bool on, .slice ma mn mc, .int .i64 2, .slice ia im ic] 25) := Lib.hid (HJ4.out.set 3 (.int .i64 2))
    have HI5 : Hid (Bk.Is (w4.setCell ⟨B, 3, none⟩ (.int .i64 2)) w.heap.size #[.bool given, .bool on, .slice ma mn mc, .int .i64 1, .slice ia im ic] 25) := Lib.hid (HI4.out.other (a := ⟨B, 3, none⟩) hnb.out _)
    have K5 : Hid (Below w.heap.size w (w4.setCell ⟨B, 3, none⟩ (.int .i64 2))) := Lib.hid (K4.out.setCell (p := ⟨B, 3, none⟩) hBK.out _)
    clear p0 p1 p2 p3 p4 pf HJ4 HI4 K4
    generalize w4.setCell ⟨B, 3, none⟩ (.int .i64 2) = w5 at *
    go_wp2_with fail
    have p0 := HI5.out.cell 0
    have p1 := HI5.out.cell 1
    have p2 := HI5.out.cell 2
    have p3 := HI5.out.cell 3
    have p4 := HI5.out.cell 4
    simp at p0 p1 p2 p3 p4
    have s0 : w5.drew.cell? ⟨w.heap.size, 0, none⟩ = some (.bool given) ∧ w5.drew.cell? ⟨w.heap.size, 1, none⟩ = some (.bool on) ∧ w5.drew.cell? ⟨w.heap.size, 2, none⟩ = some (.slice ma mn mc) ∧ w5.drew.cell? ⟨w.heap.size, 3, none⟩ = some (.int .i64 1) ∧ w5.drew.cell? ⟨w.heap.size, 4, none⟩ = some (.slice ia im ic) := ⟨p0, p1, p2, p3, p4⟩
    have KD : Hid (Below w.heap.size w w5.drew) := Lib.hid (K5.out.drewN' 1)
    have GD : Hid (Below w5.heap.size w5 w5.drew) := Lib.hid ((Below.refl _ w5).drewN' 1)
    go_region_held3 (fun w' => w'.cell? ⟨w.heap.size, 0, none⟩ = some (.bool given) ∧ w'.cell? ⟨w.heap.size, 1, none⟩ = some (.bool on) ∧ w'.cell? ⟨w.heap.size, 2, none⟩ = some (.slice ma mn mc) ∧ w'.cell? ⟨w.heap.size, 3, none⟩ = some (.int .i64 1) ∧ w'.cell? ⟨w.heap.size, 4, none⟩ = some (.slice ia im ic)) (first | assumption) (first | (go_at_call 11; (with_reducible refine (HCL.out _ KD.out).mono ?_); rintro e x1 ⟨ax, cx, O, rfl, _, rx, kx, bx⟩; have s1 := keep5 s0 bx; have KX := Lib.hid (KD.out.trans (bx.mono KD.out.size)); have GX := Lib.hid (GD.out.trans bx)) | (go_at_call 11; (with_reducible refine (HCR.out _ KX.out).mono ?_); rintro e x2 ⟨ay, cy, Q, rfl, _, ry, ky, by'⟩; have s2 := keep5 s1 by'; have KY := Lib.hid (KX.out.trans (by'.mono KX.out.size)); have GY := Lib.hid (GX.out.trans (by'.mono GX.out.size)); have rx' := rx.below by') | (go_at_call 13; refine (HP1.out _ ax cx O ay cy Q KY.out rx' kx ry ky).mono ?_; rintro e w6 ⟨a6, c6, e6, rfl, rz, kz, bz⟩; have s3 := keep5 s2 bz; have K6 := Lib.hid (KY.out.trans (bz.mono KY.out.size)); have G6 := Lib.hid (GY.out.trans (bz.mono GY.out.size)); have R6 := Lib.hid rz; have KE6 := Lib.hid kz))
    rename_i hHeld
    clear hHeld s0 s1 s2 s3 rx kx bx rx' ry ky by' rz kz bz KD GD KX GX KY GY p0 p1 p2 p3 p4
    have HI6 := Lib.hid (HI5.out.below G6.out HI5.out.lt)
    have HJ6 := Lib.hid (HJ5.out.below G6.out HJ5.out.lt)
    clear HI5 HJ5 G6 K5
    go_wp2_with fail
    have p0 := HJ6.out.cell 0
    have p1 := HJ6.out.cell 1
    have p2 := HJ6.out.cell 2
    have p3 := HJ6.out.cell 3
    have p4 := HJ6.out.cell 4
    simp at p0 p1 p2 p3 p4
    have s0 : w6.drew.cell? ⟨B, 0, none⟩ = some (.bool given) ∧ w6.drew.cell? ⟨B, 1, none⟩ = some (.bool on) ∧ w6.drew.cell? ⟨B, 2, none⟩ = some (.slice ma mn mc) ∧ w6.drew.cell? ⟨B, 3, none⟩ = some (.int .i64 2) ∧ w6.drew.cell? ⟨B, 4, none⟩ = some (.slice ia im ic) := ⟨p0, p1, p2, p3, p4⟩
    have KD : Hid (Below w.heap.size w w6.drew) := Lib.hid (K6.out.drewN' 1)
    have GD : Hid (Below w6.heap.size w6 w6.drew) := Lib.hid ((Below.refl _ w6).drewN' 1)
    go_region_held3 (fun w' => w'.cell? ⟨B, 0, none⟩ = some (.bool given) ∧ w'.cell? ⟨B, 1, none⟩ = some (.bool on) ∧ w'.cell? ⟨B, 2, none⟩ = some (.slice ma mn mc) ∧ w'.cell? ⟨B, 3, none⟩ = some (.int .i64 2) ∧ w'.cell? ⟨B, 4, none⟩ = some (.slice ia im ic)) (first | assumption) (first | (go_at_call 11; (with_reducible refine (HCR.out _ KD.out).mono ?_); rintro e x1 ⟨ax, cx, O, rfl, _, rx, kx, bx⟩; have s1 := keep5 s0 bx; have KX := Lib.hid (KD.out.trans (bx.mono KD.out.size)); have GX := Lib.hid (GD.out.trans bx)) | (go_at_call 11; (with_reducible refine (HCL.out _ KX.out).mono ?_); rintro e x2 ⟨ay, cy, Q, rfl, _, ry, ky, by'⟩; have s2 := keep5 s1 by'; have KY := Lib.hid (KX.out.trans (by'.mono KX.out.size)); have GY := Lib.hid (GX.out.trans (by'.mono GX.out.size)); have rx' := rx.below by') | (go_at_call 13; refine (HQ1.out _ ax cx O ay cy Q KY.out rx' kx ry ky).mono ?_; rintro e w7 ⟨a7, c7, e7, rfl, rz, kz, bz⟩; have s3 := keep5 s2 bz; have K7 := Lib.hid (KY.out.trans (bz.mono KY.out.size)); have G7 := Lib.hid (GY.out.trans (bz.mono GY.out.size)); have R7 := Lib.hid rz; have KE7 := Lib.hid kz))
    rename_i hHeld
    clear hHeld s0 s1 s2 s3 rx kx bx rx' ry ky by' rz kz bz KD GD KX GX KY GY p0 p1 p2 p3 p4
    have HI7 := Lib.hid (HI6.out.below G7.out HI6.out.lt)
    have HJ7 := Lib.hid (HJ6.out.below G7.out HJ6.out.lt)
    have R6' := Lib.hid (R6.out.below G7.out)
    clear HI6 HJ6 G7 K6 R6
    go_wp2_with fail
    refine (same_yes a6 a7 N1 c6 c7 e6 e7 _ R6'.out R7.out (by rw [KE6.out, KE7.out])).mono ?_
    rintro e x9 ⟨rfl, m9, rfl⟩
    have g9 : Below w7.heap.size w7 (w7.drewN m9) := (Below.refl _ _).drewN' m9
    have HI8 := Lib.hid (HI7.out.below g9 HI7.out.lt)
    have HJ8 := Lib.hid (HJ7.out.below g9 HJ7.out.lt)
    have K8 := Lib.hid (K7.out.trans (g9.mono K7.out.size))
    clear HI7 HJ7 K7 R6' R7 KE6 KE7 g9
    generalize w7.drewN m9 = w8 at *
    go_wp2_with fail
    have p0 := HI8.out.cell 0
    have p1 := HI8.out.cell 1
    have p2 := HI8.out.cell 2
    have p3 := HI8.out.cell 3
    have p4 := HI8.out.cell 4
    simp at p0 p1 p2 p3 p4
    have s0 : w8.drew.cell? ⟨w.heap.size, 0, none⟩ = some (.bool given) ∧ w8.drew.cell? ⟨w.heap.size, 1, none⟩ = some (.bool on) ∧ w8.drew.cell? ⟨w.heap.size, 2, none⟩ = some (.slice ma mn mc) ∧ w8.drew.cell? ⟨w.heap.size, 3, none⟩ = some (.int .i64 1) ∧ w8.drew.cell? ⟨w.heap.size, 4, none⟩ = some (.slice ia im ic) := ⟨p0, p1, p2, p3, p4⟩
    have KD : Hid (Below w.heap.size w w8.drew) := Lib.hid (K8.out.drewN' 1)
    have GD : Hid (Below w8.heap.size w8 w8.drew) := Lib.hid ((Below.refl _ w8).drewN' 1)
    go_region_held3 (fun w' => w'.cell? ⟨w.heap.size, 0, none⟩ = some (.bool given) ∧ w'.cell? ⟨w.heap.size, 1, none⟩ = some (.bool on) ∧ w'.cell? ⟨w.heap.size, 2, none⟩ = some (.slice ma mn mc) ∧ w'.cell? ⟨w.heap.size, 3, none⟩ = some (.int .i64 1) ∧ w'.cell? ⟨w.heap.size, 4, none⟩ = some (.slice ia im ic)) (first | assumption) (first | (go_at_call 11; (with_reducible refine (HCL.out _ KD.out).mono ?_); rintro e x1 ⟨ax, cx, O, rfl, _, rx, kx, bx⟩; have s1 := keep5 s0 bx; have KX := Lib.hid (KD.out.trans (bx.mono KD.out.size)); have GX := Lib.hid (GD.out.trans bx)) | (go_at_call 11; (with_reducible refine (HCR.out _ KX.out).mono ?_); rintro e x2 ⟨ay, cy, Q, rfl, _, ry, ky, by'⟩; have s2 := keep5 s1 by'; have KY := Lib.hid (KX.out.trans (by'.mono KX.out.size)); have GY := Lib.hid (GX.out.trans (by'.mono GX.out.size)); have rx' := rx.below by') | (go_at_call 13; refine (HP2.out _ ax cx O ay cy Q KY.out rx' kx ry ky).mono ?_; rintro e w9 ⟨a9, c9, e9, rfl, rz, kz, bz⟩; have s3 := keep5 s2 bz; have K9 := Lib.hid (KY.out.trans (bz.mono KY.out.size)); have G9 := Lib.hid (GY.out.trans (bz.mono GY.out.size)); have R9 := Lib.hid rz; have KE9 := Lib.hid kz))
    rename_i hHeld
    clear hHeld s0 s1 s2 s3 rx kx bx rx' ry ky by' rz kz bz KD GD KX GX KY GY p0 p1 p2 p3 p4
    have HI9 := Lib.hid (HI8.out.below G9.out HI8.out.lt)
    have HJ9 := Lib.hid (HJ8.out.below G9.out HJ8.out.lt)
    clear HI8 HJ8 G9 K8
    go_wp2_with fail
    have p0 := HJ9.out.cell 0
    have p1 := HJ9.out.cell 1
    have p2 := HJ9.out.cell 2
    have p3 := HJ9.out.cell 3
    have p4 := HJ9.out.cell 4
    simp at p0 p1 p2 p3 p4
    have s0 : w9.drew.cell? ⟨B, 0, none⟩ = some (.bool given) ∧ w9.drew.cell? ⟨B, 1, none⟩ = some (.bool on) ∧ w9.drew.cell? ⟨B, 2, none⟩ = some (.slice ma mn mc) ∧ w9.drew.cell? ⟨B, 3, none⟩ = some (.int .i64 2) ∧ w9.drew.cell? ⟨B, 4, none⟩ = some (.slice ia im ic) := ⟨p0, p1, p2, p3, p4⟩
    have KD : Hid (Below w.heap.size w w9.drew) := Lib.hid (K9.out.drewN' 1)
    have GD : Hid (Below w9.heap.size w9 w9.drew) := Lib.hid ((Below.refl _ w9).drewN' 1)
    go_region_held3 (fun w' => w'.cell? ⟨B, 0, none⟩ = some (.bool given) ∧ w'.cell? ⟨B, 1, none⟩ = some (.bool on) ∧ w'.cell? ⟨B, 2, none⟩ = some (.slice ma mn mc) ∧ w'.cell? ⟨B, 3, none⟩ = some (.int .i64 2) ∧ w'.cell? ⟨B, 4, none⟩ = some (.slice ia im ic)) (first | assumption) (first | (go_at_call 11; (with_reducible refine (HCR.out _ KD.out).mono ?_); rintro e x1 ⟨ax, cx, O, rfl, _, rx, kx, bx⟩; have s1 := keep5 s0 bx; have KX := Lib.hid (KD.out.trans (bx.mono KD.out.size)); have GX := Lib.hid (GD.out.trans bx)) | (go_at_call 11; (with_reducible refine (HCL.out _ KX.out).mono ?_); rintro e x2 ⟨ay, cy, Q, rfl, _, ry, ky, by'⟩; have s2 := keep5 s1 by'; have KY := Lib.hid (KX.out.trans (by'.mono KX.out.size)); have GY := Lib.hid (GX.out.trans (by'.mono GX.out.size)); have rx' := rx.below by') | (go_at_call 13; refine (HQ2.out _ ax cx O ay cy Q KY.out rx' kx ry ky).mono ?_; rintro e w10 ⟨a10, c10, e10, rfl, rz, kz, bz⟩; have s3 := keep5 s2 bz; have K10 := Lib.hid (KY.out.trans (bz.mono KY.out.size)); have G10 := Lib.hid (GY.out.trans (bz.mono GY.out.size)); have R10 := Lib.hid rz; have KE10 := Lib.hid kz))
    rename_i hHeld
    clear hHeld s0 s1 s2 s3 rx kx bx rx' ry ky by' rz kz bz KD GD KX GX KY GY p0 p1 p2 p3 p4
    have HI10 := Lib.hid (HI9.out.below G10.out HI9.out.lt)
    have HJ10 := Lib.hid (HJ9.out.below G10.out HJ9.out.lt)
    have R9' := Lib.hid (R9.out.below G10.out)
    clear HI9 HJ9 G10 K9 R9
    go_wp2_with fail
    refine (same_yes a9 a10 N2 c9 c10 e9 e10 _ R9'.out R10.out (by rw [KE9.out, KE10.out])).mono ?_
    rintro e x9 ⟨rfl, m9, rfl⟩
    have g9 : Below w10.heap.size w10 (w10.drewN m9) := (Below.refl _ _).drewN' m9
    have HI11 := Lib.hid (HI10.out.below g9 HI10.out.lt)
    have HJ11 := Lib.hid (HJ10.out.below g9 HJ10.out.lt)
    have K11 := Lib.hid (K10.out.trans (g9.mono K10.out.size))
    clear HI10 HJ10 K10 R9' R10 KE9 KE10 g9
    generalize w10.drewN m9 = w11 at *
    go_wp2_with fail
    have p0 := HI11.out.cell 0
    have p1 := HI11.out.cell 1
    have p2 := HI11.out.cell 2
    have p3 := HI11.out.cell 3
    have p4 := HI11.out.cell 4
    simp at p0 p1 p2 p3 p4
    have s0 : w11.drew.cell? ⟨w.heap.size, 0, none⟩ = some (.bool given) ∧ w11.drew.cell? ⟨w.heap.size, 1, none⟩ = some (.bool on) ∧ w11.drew.cell? ⟨w.heap.size, 2, none⟩ = some (.slice ma mn mc) ∧ w11.drew.cell? ⟨w.heap.size, 3, none⟩ = some (.int .i64 1) ∧ w11.drew.cell? ⟨w.heap.size, 4, none⟩ = some (.slice ia im ic) := ⟨p0, p1, p2, p3, p4⟩
    have KD : Hid (Below w.heap.size w w11.drew) := Lib.hid (K11.out.drewN' 1)
    have GD : Hid (Below w11.heap.size w11 w11.drew) := Lib.hid ((Below.refl _ w11).drewN' 1)
    go_region_held3 (fun w' => w'.cell? ⟨w.heap.size, 0, none⟩ = some (.bool given) ∧ w'.cell? ⟨w.heap.size, 1, none⟩ = some (.bool on) ∧ w'.cell? ⟨w.heap.size, 2, none⟩ = some (.slice ma mn mc) ∧ w'.cell? ⟨w.heap.size, 3, none⟩ = some (.int .i64 1) ∧ w'.cell? ⟨w.heap.size, 4, none⟩ = some (.slice ia im ic)) (first | assumption) (first | (go_at_call 11; (with_reducible refine (HCL.out _ KD.out).mono ?_); rintro e x1 ⟨ax, cx, O, rfl, _, rx, kx, bx⟩; have s1 := keep5 s0 bx; have KX := Lib.hid (KD.out.trans (bx.mono KD.out.size)); have GX := Lib.hid (GD.out.trans bx)) | (go_at_call 11; (with_reducible refine (HCR.out _ KX.out).mono ?_); rintro e x2 ⟨ay, cy, Q, rfl, _, ry, ky, by'⟩; have s2 := keep5 s1 by'; have KY := Lib.hid (KX.out.trans (by'.mono KX.out.size)); have GY := Lib.hid (GX.out.trans (by'.mono GX.out.size)); have rx' := rx.below by') | (go_at_call 13; refine (HP3.out _ ax cx O ay cy Q KY.out rx' kx ry ky).mono ?_; rintro e w12 ⟨a12, c12, e12, rfl, rz, kz, bz⟩; have s3 := keep5 s2 bz; have K12 := Lib.hid (KY.out.trans (bz.mono KY.out.size)); have G12 := Lib.hid (GY.out.trans (bz.mono GY.out.size)); have R12 := Lib.hid rz; have KE12 := Lib.hid kz))
    rename_i hHeld
    clear hHeld s0 s1 s2 s3 rx kx bx rx' ry ky by' rz kz bz KD GD KX GX KY GY p0 p1 p2 p3 p4
    have HI12 := Lib.hid (HI11.out.below G12.out HI11.out.lt)
    have HJ12 := Lib.hid (HJ11.out.below G12.out HJ11.out.lt)
    clear HI11 HJ11 G12 K11
    go_wp2_with fail
    have p0 := HJ12.out.cell 0
    have p1 := HJ12.out.cell 1
    have p2 := HJ12.out.cell 2
    have p3 := HJ12.out.cell 3
    have p4 := HJ12.out.cell 4
    simp at p0 p1 p2 p3 p4
    have s0 : w12.drew.cell? ⟨B, 0, none⟩ = some (.bool given) ∧ w12.drew.cell? ⟨B, 1, none⟩ = some (.bool on) ∧ w12.drew.cell? ⟨B, 2, none⟩ = some (.slice ma mn mc) ∧ w12.drew.cell? ⟨B, 3, none⟩ = some (.int .i64 2) ∧ w12.drew.cell? ⟨B, 4, none⟩ = some (.slice ia im ic) := ⟨p0, p1, p2, p3, p4⟩
    have KD : Hid (Below w.heap.size w w12.drew) := Lib.hid (K12.out.drewN' 1)
    have GD : Hid (Below w12.heap.size w12 w12.drew) := Lib.hid ((Below.refl _ w12).drewN' 1)
    go_region_held3 (fun w' => w'.cell? ⟨B, 0, none⟩ = some (.bool given) ∧ w'.cell? ⟨B, 1, none⟩ = some (.bool on) ∧ w'.cell? ⟨B, 2, none⟩ = some (.slice ma mn mc) ∧ w'.cell? ⟨B, 3, none⟩ = some (.int .i64 2) ∧ w'.cell? ⟨B, 4, none⟩ = some (.slice ia im ic)) (first | assumption) (first | (go_at_call 11; (with_reducible refine (HCR.out _ KD.out).mono ?_); rintro e x1 ⟨ax, cx, O, rfl, _, rx, kx, bx⟩; have s1 := keep5 s0 bx; have KX := Lib.hid (KD.out.trans (bx.mono KD.out.size)); have GX := Lib.hid (GD.out.trans bx)) | (go_at_call 11; (with_reducible refine (HCL.out _ KX.out).mono ?_); rintro e x2 ⟨ay, cy, Q, rfl, _, ry, ky, by'⟩; have s2 := keep5 s1 by'; have KY := Lib.hid (KX.out.trans (by'.mono KX.out.size)); have GY := Lib.hid (GX.out.trans (by'.mono GX.out.size)); have rx' := rx.below by') | (go_at_call 13; refine (HQ3.out _ ax cx O ay cy Q KY.out rx' kx ry ky).mono ?_; rintro e w13 ⟨a13, c13, e13, rfl, rz, kz, bz⟩; have s3 := keep5 s2 bz; have K13 := Lib.hid (KY.out.trans (bz.mono KY.out.size)); have G13 := Lib.hid (GY.out.trans (bz.mono GY.out.size)); have R13 := Lib.hid rz; have KE13 := Lib.hid kz))
    rename_i hHeld
    clear hHeld s0 s1 s2 s3 rx kx bx rx' ry ky by' rz kz bz KD GD KX GX KY GY p0 p1 p2 p3 p4
    have HI13 := Lib.hid (HI12.out.below G13.out HI12.out.lt)
    have HJ13 := Lib.hid (HJ12.out.below G13.out HJ12.out.lt)
    have R12' := Lib.hid (R12.out.below G13.out)
    clear HI12 HJ12 G13 K12 R12
    go_wp2_with fail
    refine (same_yes a12 a13 N3 c12 c13 e12 e13 _ R12'.out R13.out (by rw [KE12.out, KE13.out])).mono ?_
    rintro e x9 ⟨rfl, m9, rfl⟩
    go_wp2_with fail
    go_ret
    exact ⟨rfl, K13.out.drewN' m9⟩
  · go_wp2_with fail
    go_ret
    exact ⟨rfl, K2.out⟩
end Go.Proofs.YtmmfjknnbkcniaaGreatDoor
