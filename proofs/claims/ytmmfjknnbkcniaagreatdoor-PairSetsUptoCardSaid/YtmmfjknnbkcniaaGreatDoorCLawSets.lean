/- PairSets: the law. (Printed by tools/gensets21.py.) -/
import Derived.Test.YtmmfjknnbkcniaaGreatDoorCCopyO
import Derived.Deep.Cut
namespace Go.Proofs.YtmmfjknnbkcniaaGreatDoor
open Go.Fl Go.Rel Go.RowKit Go.Sort
set_option linter.unusedSimpArgs false
set_option linter.unusedVariables false

def RetX (n : Nat) (V : List Ek) (w : World) (e : Ending) (w' : World) : Prop := ∃ a cap es, e = .returned (.tuple #[.slice a n cap, .int .i64 0]) ∧ ERow w' a n es ∧ es.map Er.key = V ∧ Below w.heap.size w w'
theorem AnsX.x {V : List Ek} {w w' : World} {e : Ending} (h : AnsX 0 V w e w') : RetX V.length V w e w' := by
  obtain ⟨a, cap, es, g1, g2, g3, g4, g5, g6⟩ := h
  have hl : es.length = V.length := by rw [← g4, List.length_map]
  rw [hl] at g1 g3
  exact ⟨a, cap, es, g1, g3, g4, g6⟩
theorem vecX_any {a : Option Addr} {n cap : Nat} {es : List Er} {V : List Ek} {w : World} (hr : ERow w a n es) (hv : vecK (es.map Er.key) = some V) : Calls Tryz.prog 19 #[.slice a n cap] w (RetX V.length V w) := by
  have h := vector_any a n cap es w hr
  unfold VecRet at h
  rw [hv] at h
  refine h.mono fun e w' hg => ?_
  obtain ⟨g, c, es2, h1, h2, h3, h4⟩ := VecGood.row2 hg
  have hl : es2.length = V.length := by rw [← h3, List.length_map]
  rw [hl] at h1 h2
  exact ⟨_, c, es2, h1, h2, h3, h4⟩
def VBad (z : Int) (w : World) (e : Ending) (w' : World) : Prop := ∃ a n cap, e = .returned (.tuple #[.slice a n cap, .int .i64 z]) ∧ Below w.heap.size w w'
theorem vecB_any {a : Option Addr} {n cap : Nat} {es : List Er} {w : World} (hr : ERow w a n es) : Calls Tryz.prog 19 #[.slice a n cap] w (VBad (match vecK (es.map Er.key) with | none => 5 | some _ => 0) w) := by
  have h := vector_any a n cap es w hr
  unfold VecRet at h
  refine h.mono fun e w' hg => ?_
  cases hv : vecK (es.map Er.key) with
  | none => rw [hv] at hg; exact ⟨none, 0, 0, hg.1, hg.2⟩
  | some V =>
    rw [hv] at hg
    obtain ⟨g, c, es2, h1, h2, h3, h4⟩ := VecGood.row2 hg
    exact ⟨_, _, c, h1, h4⟩

set_option maxHeartbeats 16000000 in
set_option maxRecDepth 100000 in
theorem sets_bad (a b : Option Addr) (na ca nb cb : Nat) (la lb : List Er) (m : Mt) (w : World) (ha : ERow w a na la) (hsa : SlK a na ca) (hb : ERow w b nb lb) (hsb : SlK b nb cb) (hM : MtOk w m)
    (hfa : FitK m.on m.ns m.im (la.map Er.key)) (hfb : FitK m.on m.ns m.im (lb.map Er.key)) (hn : na + nb ≤ 4398046511000) (hi : (m.im : Int) ≤ 9223372036854775807) (hT : Tab w.heap.size w) (hbad : vecK (la.map Er.key) = none ∨ vecK (lb.map Er.key) = none) :
    Calls Tryz.prog 6 #[.slice a na ca, .slice b nb cb, m.v] w fun e w' => e = .returned (.bool true) ∧ Below w.heap.size w w' := by
  have HAW : Hid (∀ W, Below w.heap.size w W → Calls Tryz.prog 9 #[] W fun e w' => e = .returned (.bool true) ∧ Below W.heap.size W w') := Lib.hid fun W h => awake_any W (fun w' h2 => hT w' (h.trans (h2.mono h.size)))
  have HCL : Hid (∀ W, Below w.heap.size w W → Calls Tryz.prog 11 #[.slice a na ca] W (CopyOf la W)) := Lib.hid fun W h => copied21_any a na ca la W (ha.below h)
  have HCR : Hid (∀ W, Below w.heap.size w W → Calls Tryz.prog 11 #[.slice b nb cb] W (CopyOf lb W)) := Lib.hid fun W h => copied21_any b nb cb lb W (hb.below h)
  have hlen : (la.map Er.key).length + (lb.map Er.key).length ≤ 4398046511000 := by rw [List.length_map, List.length_map, ha.1, hb.1]; exact hn
  have tand : (⟨#[97, 110, 100]⟩ : ByteArray).toList = [97, 110, 100] := by rw [ByteArray.toList_eq]
  have tor : (⟨#[111, 114]⟩ : ByteArray).toList = [111, 114] := by rw [ByteArray.toList_eq]
  have tun : (⟨#[117, 110, 108, 101, 115, 115]⟩ : ByteArray).toList = [117, 110, 108, 101, 115, 115] := by rw [ByteArray.toList_eq]
  have HP1 : Hid (∀ W x cx (O : List Er) z cz (Q : List Er), Below w.heap.size w W → ERow W x O.length O → O.map Er.key = la.map Er.key → ERow W z Q.length Q → Q.map Er.key = lb.map Er.key → Calls Tryz.prog 13 #[.string ⟨#[97, 110, 100]⟩, .slice x O.length cx, .slice z Q.length cz, Mt.v { m with card := 0 }, .bool false] W (AnsN 5 0 [] W)) := Lib.hid fun W x cx O z cz Q h ho hk hq hk2 => by
    have hl : O.length + Q.length ≤ 4398046511000 := by have e1 := congrArg List.length hk; have e2 := congrArg List.length hk2; rw [List.length_map] at e1 e2; omega
    have h1 := vectors_any ⟨#[97, 110, 100]⟩ x z O.length cx Q.length cz O Q { m with card := 0 } false W ho hq (hM.below h) (hfa.key hk) (hfb.key hk2) (fun w' h2 => hT w' (h.trans (h2.mono h.size))) hl
    have hb2 : vecK (O.map Er.key) = none ∨ vecK (Q.map Er.key) = none := by rw [hk, hk2]; exact hbad
    rw [(vecs_five hb2).1, (vecs_five hb2).2] at h1
    exact h1.mono fun e w' h => h.n
  have HP2 : Hid (∀ W x cx (O : List Er) z cz (Q : List Er), Below w.heap.size w W → ERow W x O.length O → O.map Er.key = la.map Er.key → ERow W z Q.length Q → Q.map Er.key = lb.map Er.key → Calls Tryz.prog 13 #[.string ⟨#[117, 110, 108, 101, 115, 115]⟩, .slice x O.length cx, .slice z Q.length cz, Mt.v { m with card := 0 }, .bool false] W (AnsN 5 0 [] W)) := Lib.hid fun W x cx O z cz Q h ho hk hq hk2 => by
    have hl : O.length + Q.length ≤ 4398046511000 := by have e1 := congrArg List.length hk; have e2 := congrArg List.length hk2; rw [List.length_map] at e1 e2; omega
    have h1 := vectors_any ⟨#[117, 110, 108, 101, 115, 115]⟩ x z O.length cx Q.length cz O Q { m with card := 0 } false W ho hq (hM.below h) (hfa.key hk) (hfb.key hk2) (fun w' h2 => hT w' (h.trans (h2.mono h.size))) hl
    have hb2 : vecK (O.map Er.key) = none ∨ vecK (Q.map Er.key) = none := by rw [hk, hk2]; exact hbad
    rw [(vecs_five hb2).1, (vecs_five hb2).2] at h1
    exact h1.mono fun e w' h => h.n
  have HP3 : Hid (∀ W x cx (O : List Er) z cz (Q : List Er), Below w.heap.size w W → ERow W x O.length O → O.map Er.key = la.map Er.key → ERow W z Q.length Q → Q.map Er.key = lb.map Er.key → Calls Tryz.prog 13 #[.string ⟨#[111, 114]⟩, .slice x O.length cx, .slice z Q.length cz, Mt.v { m with card := 0 }, .bool true] W (AnsN 5 0 [] W)) := Lib.hid fun W x cx O z cz Q h ho hk hq hk2 => by
    have hl : O.length + Q.length ≤ 4398046511000 := by have e1 := congrArg List.length hk; have e2 := congrArg List.length hk2; rw [List.length_map] at e1 e2; omega
    have h1 := vectors_any ⟨#[111, 114]⟩ x z O.length cx Q.length cz O Q { m with card := 0 } true W ho hq (hM.below h) (hfa.key hk) (hfb.key hk2) (fun w' h2 => hT w' (h.trans (h2.mono h.size))) hl
    have hb2 : vecK (O.map Er.key) = none ∨ vecK (Q.map Er.key) = none := by rw [hk, hk2]; exact hbad
    rw [(vecs_five hb2).1, (vecs_five hb2).2] at h1
    exact h1.mono fun e w' h => h.n
  have HP4 : Hid (∀ W x cx (O : List Er) z cz (Q : List Er), Below w.heap.size w W → ERow W x O.length O → O.map Er.key = lb.map Er.key → ERow W z Q.length Q → Q.map Er.key = la.map Er.key → Calls Tryz.prog 13 #[.string ⟨#[117, 110, 108, 101, 115, 115]⟩, .slice x O.length cx, .slice z Q.length cz, Mt.v { m with card := 0 }, .bool true] W (AnsN 5 0 [] W)) := Lib.hid fun W x cx O z cz Q h ho hk hq hk2 => by
    have hl : O.length + Q.length ≤ 4398046511000 := by have e1 := congrArg List.length hk; have e2 := congrArg List.length hk2; rw [List.length_map] at e1 e2; omega
    have h1 := vectors_any ⟨#[117, 110, 108, 101, 115, 115]⟩ x z O.length cx Q.length cz O Q { m with card := 0 } true W ho hq (hM.below h) (hfb.key hk) (hfa.key hk2) (fun w' h2 => hT w' (h.trans (h2.mono h.size))) hl
    have hb2 : vecK (O.map Er.key) = none ∨ vecK (Q.map Er.key) = none := by rw [hk, hk2]; exact hbad.symm
    rw [(vecs_five hb2).1, (vecs_five hb2).2] at h1
    exact h1.mono fun e w' h => h.n
  obtain ⟨zl, hzl⟩ : ∃ z : Int, z = (match vecK (la.map Er.key) with | none => 5 | some _ => 0) := ⟨_, rfl⟩
  obtain ⟨zr, hzr⟩ : ∃ z : Int, z = (match vecK (lb.map Er.key) with | none => 5 | some _ => 0) := ⟨_, rfl⟩
  have hz : zl = 5 ∨ (zl = 0 ∧ zr = 5) := by
    rcases hbad with h | h
    · rw [h] at hzl; exact .inl hzl
    · rw [h] at hzr
      cases hv : vecK (la.map Er.key) with
      | none => rw [hv] at hzl; exact .inl hzl
      | some V => rw [hv] at hzl; exact .inr ⟨hzl, hzr⟩
  have HVL : Hid (∀ W x cx (O : List Er), ERow W x O.length O → O.map Er.key = la.map Er.key → Calls Tryz.prog 19 #[.slice x O.length cx] W (VBad zl W)) := Lib.hid fun W x cx O ho hk => by
    rw [hzl, ← hk]; exact vecB_any ho
  have HVR : Hid (∀ W x cx (O : List Er), ERow W x O.length O → O.map Er.key = lb.map Er.key → Calls Tryz.prog 19 #[.slice x O.length cx] W (VBad zr W)) := Lib.hid fun W x cx O ho hk => by
    rw [hzr, ← hk]; exact vecB_any ho
  obtain ⟨given, on, ma, mn, mc, card, ia, im, ic, ns, inc⟩ := m
  dsimp only [Mt.v] at HP1 HP2 HP3 HP4 ⊢
  obtain ⟨W0, hW0⟩ : ∃ W0, W0 = w.alloc (.cells #[.bool given, .bool on, .slice ma mn mc, .int .i64 card, .slice ia im ic] 25) := ⟨_, rfl⟩
  have HI0 : Hid (Bk.Is W0 w.heap.size #[.bool given, .bool on, .slice ma mn mc, .int .i64 card, .slice ia im ic] 25) := Lib.hid (by rw [hW0]; exact Bk.Is.made w _ _)
  have HB0 : Hid (Below w.heap.size w W0) := Lib.hid (by rw [hW0]; exact (Below.refl _ _).alloc (Nat.le_refl _) _)
  have HW0 := Lib.hid hW0
  clear ha hsa hb hsb hM hfa hfb hn hi hT hlen tand tor tun hzl hzr hbad hW0
  rcases hz with rfl | ⟨rfl, rfl⟩
  · go_enter Tryz.func6, Tryz.ntmps6
    go_upto_region 1 with fail
    rw [← HW0.out]
    go_wp2_with fail
    refine (HAW.out _ HB0.out).mono ?_
    rintro e w1 ⟨rfl, b1⟩
    have K1 := Lib.hid (HB0.out.trans (b1.mono HB0.out.size))
    have HI1 := Lib.hid (HI0.out.below b1 HI0.out.lt)
    clear b1 HI0 HB0
    have p0 := HI1.out.cell 0
    have p1 := HI1.out.cell 1
    have p2 := HI1.out.cell 2
    have p3 := HI1.out.cell 3
    have p4 := HI1.out.cell 4
    simp at p0 p1 p2 p3 p4
    have pf := HI1.out.free 3
    go_upto_region 4 with fail
    have HI2 : Hid (Bk.Is (w1.setCell ⟨w.heap.size, 3, none⟩ (.int .i64 0)) w.heap.size #[.bool given, .bool on, .slice ma mn mc, .int .i64 0, .slice ia im ic] 25) := Lib.hid (HI1.out.set 3 (.int .i64 0))
    have K2 : Hid (Below w.heap.size w (w1.setCell ⟨w.heap.size, 3, none⟩ (.int .i64 0))) := Lib.hid (K1.out.setCell (p := ⟨w.heap.size, 3, none⟩) (Nat.le_refl _) _)
    clear p0 p1 p2 p3 p4 pf HI1 K1
    generalize w1.setCell ⟨w.heap.size, 3, none⟩ (.int .i64 0) = w2 at *
    go_wp2_with fail
    have p0 := HI2.out.cell 0
    have p1 := HI2.out.cell 1
    have p2 := HI2.out.cell 2
    have p3 := HI2.out.cell 3
    have p4 := HI2.out.cell 4
    simp at p0 p1 p2 p3 p4
    have s0 : w2.drew.cell? ⟨w.heap.size, 0, none⟩ = some (.bool given) ∧ w2.drew.cell? ⟨w.heap.size, 1, none⟩ = some (.bool on) ∧ w2.drew.cell? ⟨w.heap.size, 2, none⟩ = some (.slice ma mn mc) ∧ w2.drew.cell? ⟨w.heap.size, 3, none⟩ = some (.int .i64 0) ∧ w2.drew.cell? ⟨w.heap.size, 4, none⟩ = some (.slice ia im ic) := ⟨p0, p1, p2, p3, p4⟩
    have KD : Hid (Below w.heap.size w w2.drew) := Lib.hid (K2.out.drewN' 1)
    have GD : Hid (Below w2.heap.size w2 w2.drew) := Lib.hid ((Below.refl _ w2).drewN' 1)
    go_region_held3 (fun w' => w'.cell? ⟨w.heap.size, 0, none⟩ = some (.bool given) ∧ w'.cell? ⟨w.heap.size, 1, none⟩ = some (.bool on) ∧ w'.cell? ⟨w.heap.size, 2, none⟩ = some (.slice ma mn mc) ∧ w'.cell? ⟨w.heap.size, 3, none⟩ = some (.int .i64 0) ∧ w'.cell? ⟨w.heap.size, 4, none⟩ = some (.slice ia im ic)) (first | assumption) (first | (go_at_call 11; (with_reducible refine (HCL.out _ KD.out).mono ?_); rintro e x1 ⟨ax, cx, O, rfl, _, rx, kx, bx⟩; have s1 := keep5 s0 bx; have KX := Lib.hid (KD.out.trans (bx.mono KD.out.size)); have GX := Lib.hid (GD.out.trans bx)) | (go_at_call 11; (with_reducible refine (HCR.out _ KX.out).mono ?_); rintro e x2 ⟨ay, cy, Q, rfl, _, ry, ky, by'⟩; have s2 := keep5 s1 by'; have KY := Lib.hid (KX.out.trans (by'.mono KX.out.size)); have GY := Lib.hid (GX.out.trans (by'.mono GX.out.size)); have rx' := rx.below by') | (go_at_call 13; refine (HP1.out _ ax cx O ay cy Q KY.out rx' kx ry ky).mono ?_; rintro e w3 ⟨a3, c3, e3, rfl, rz, kz, bz⟩; have s3 := keep5 s2 bz; have K3 := Lib.hid (KY.out.trans (bz.mono KY.out.size)); have G3 := Lib.hid (GY.out.trans (bz.mono GY.out.size)); have R3 := Lib.hid rz; have KE3 := Lib.hid kz))
    rename_i hHeld
    clear hHeld s0 s1 s2 s3 rx kx bx rx' ry ky by' rz kz bz KD GD KX GX KY GY p0 p1 p2 p3 p4
    have HI3 := Lib.hid (HI2.out.below G3.out HI2.out.lt)
    clear R3 KE3
    clear HI2 G3 K2
    go_wp2_with fail
    have p0 := HI3.out.cell 0
    have p1 := HI3.out.cell 1
    have p2 := HI3.out.cell 2
    have p3 := HI3.out.cell 3
    have p4 := HI3.out.cell 4
    simp at p0 p1 p2 p3 p4
    have s0 : w3.drew.cell? ⟨w.heap.size, 0, none⟩ = some (.bool given) ∧ w3.drew.cell? ⟨w.heap.size, 1, none⟩ = some (.bool on) ∧ w3.drew.cell? ⟨w.heap.size, 2, none⟩ = some (.slice ma mn mc) ∧ w3.drew.cell? ⟨w.heap.size, 3, none⟩ = some (.int .i64 0) ∧ w3.drew.cell? ⟨w.heap.size, 4, none⟩ = some (.slice ia im ic) := ⟨p0, p1, p2, p3, p4⟩
    have KD : Hid (Below w.heap.size w w3.drew) := Lib.hid (K3.out.drewN' 1)
    have GD : Hid (Below w3.heap.size w3 w3.drew) := Lib.hid ((Below.refl _ w3).drewN' 1)
    go_region_held3 (fun w' => w'.cell? ⟨w.heap.size, 0, none⟩ = some (.bool given) ∧ w'.cell? ⟨w.heap.size, 1, none⟩ = some (.bool on) ∧ w'.cell? ⟨w.heap.size, 2, none⟩ = some (.slice ma mn mc) ∧ w'.cell? ⟨w.heap.size, 3, none⟩ = some (.int .i64 0) ∧ w'.cell? ⟨w.heap.size, 4, none⟩ = some (.slice ia im ic)) (first | assumption) (first | (go_at_call 11; (with_reducible refine (HCL.out _ KD.out).mono ?_); rintro e x1 ⟨ax, cx, O, rfl, _, rx, kx, bx⟩; have s1 := keep5 s0 bx; have KX := Lib.hid (KD.out.trans (bx.mono KD.out.size)); have GX := Lib.hid (GD.out.trans bx)) | (go_at_call 11; (with_reducible refine (HCR.out _ KX.out).mono ?_); rintro e x2 ⟨ay, cy, Q, rfl, _, ry, ky, by'⟩; have s2 := keep5 s1 by'; have KY := Lib.hid (KX.out.trans (by'.mono KX.out.size)); have GY := Lib.hid (GX.out.trans (by'.mono GX.out.size)); have rx' := rx.below by') | (go_at_call 13; refine (HP2.out _ ax cx O ay cy Q KY.out rx' kx ry ky).mono ?_; rintro e w4 ⟨a4, c4, e4, rfl, rz, kz, bz⟩; have s3 := keep5 s2 bz; have K4 := Lib.hid (KY.out.trans (bz.mono KY.out.size)); have G4 := Lib.hid (GY.out.trans (bz.mono GY.out.size)); have R4 := Lib.hid rz; have KE4 := Lib.hid kz))
    rename_i hHeld
    clear hHeld s0 s1 s2 s3 rx kx bx rx' ry ky by' rz kz bz KD GD KX GX KY GY p0 p1 p2 p3 p4
    have HI4 := Lib.hid (HI3.out.below G4.out HI3.out.lt)
    clear R4 KE4
    clear HI3 G4 K3
    go_wp2_with fail
    have p0 := HI4.out.cell 0
    have p1 := HI4.out.cell 1
    have p2 := HI4.out.cell 2
    have p3 := HI4.out.cell 3
    have p4 := HI4.out.cell 4
    simp at p0 p1 p2 p3 p4
    have s0 : w4.drew.cell? ⟨w.heap.size, 0, none⟩ = some (.bool given) ∧ w4.drew.cell? ⟨w.heap.size, 1, none⟩ = some (.bool on) ∧ w4.drew.cell? ⟨w.heap.size, 2, none⟩ = some (.slice ma mn mc) ∧ w4.drew.cell? ⟨w.heap.size, 3, none⟩ = some (.int .i64 0) ∧ w4.drew.cell? ⟨w.heap.size, 4, none⟩ = some (.slice ia im ic) := ⟨p0, p1, p2, p3, p4⟩
    have KD : Hid (Below w.heap.size w w4.drew) := Lib.hid (K4.out.drewN' 1)
    have GD : Hid (Below w4.heap.size w4 w4.drew) := Lib.hid ((Below.refl _ w4).drewN' 1)
    go_region_held3 (fun w' => w'.cell? ⟨w.heap.size, 0, none⟩ = some (.bool given) ∧ w'.cell? ⟨w.heap.size, 1, none⟩ = some (.bool on) ∧ w'.cell? ⟨w.heap.size, 2, none⟩ = some (.slice ma mn mc) ∧ w'.cell? ⟨w.heap.size, 3, none⟩ = some (.int .i64 0) ∧ w'.cell? ⟨w.heap.size, 4, none⟩ = some (.slice ia im ic)) (first | assumption) (first | (go_at_call 11; (with_reducible refine (HCL.out _ KD.out).mono ?_); rintro e x1 ⟨ax, cx, O, rfl, _, rx, kx, bx⟩; have s1 := keep5 s0 bx; have KX := Lib.hid (KD.out.trans (bx.mono KD.out.size)); have GX := Lib.hid (GD.out.trans bx)) | (go_at_call 11; (with_reducible refine (HCR.out _ KX.out).mono ?_); rintro e x2 ⟨ay, cy, Q, rfl, _, ry, ky, by'⟩; have s2 := keep5 s1 by'; have KY := Lib.hid (KX.out.trans (by'.mono KX.out.size)); have GY := Lib.hid (GX.out.trans (by'.mono GX.out.size)); have rx' := rx.below by') | (go_at_call 13; refine (HP3.out _ ax cx O ay cy Q KY.out rx' kx ry ky).mono ?_; rintro e w5 ⟨a5, c5, e5, rfl, rz, kz, bz⟩; have s3 := keep5 s2 bz; have K5 := Lib.hid (KY.out.trans (bz.mono KY.out.size)); have G5 := Lib.hid (GY.out.trans (bz.mono GY.out.size)); have R5 := Lib.hid rz; have KE5 := Lib.hid kz))
    rename_i hHeld
    clear hHeld s0 s1 s2 s3 rx kx bx rx' ry ky by' rz kz bz KD GD KX GX KY GY p0 p1 p2 p3 p4
    have HI5 := Lib.hid (HI4.out.below G5.out HI4.out.lt)
    clear R5 KE5
    clear HI4 G5 K4
    go_wp2_with fail
    have p0 := HI5.out.cell 0
    have p1 := HI5.out.cell 1
    have p2 := HI5.out.cell 2
    have p3 := HI5.out.cell 3
    have p4 := HI5.out.cell 4
    simp at p0 p1 p2 p3 p4
    have s0 : w5.drew.cell? ⟨w.heap.size, 0, none⟩ = some (.bool given) ∧ w5.drew.cell? ⟨w.heap.size, 1, none⟩ = some (.bool on) ∧ w5.drew.cell? ⟨w.heap.size, 2, none⟩ = some (.slice ma mn mc) ∧ w5.drew.cell? ⟨w.heap.size, 3, none⟩ = some (.int .i64 0) ∧ w5.drew.cell? ⟨w.heap.size, 4, none⟩ = some (.slice ia im ic) := ⟨p0, p1, p2, p3, p4⟩
    have KD : Hid (Below w.heap.size w w5.drew) := Lib.hid (K5.out.drewN' 1)
    have GD : Hid (Below w5.heap.size w5 w5.drew) := Lib.hid ((Below.refl _ w5).drewN' 1)
    go_region_held3 (fun w' => w'.cell? ⟨w.heap.size, 0, none⟩ = some (.bool given) ∧ w'.cell? ⟨w.heap.size, 1, none⟩ = some (.bool on) ∧ w'.cell? ⟨w.heap.size, 2, none⟩ = some (.slice ma mn mc) ∧ w'.cell? ⟨w.heap.size, 3, none⟩ = some (.int .i64 0) ∧ w'.cell? ⟨w.heap.size, 4, none⟩ = some (.slice ia im ic)) (first | assumption) (first | (go_at_call 11; (with_reducible refine (HCR.out _ KD.out).mono ?_); rintro e x1 ⟨ax, cx, O, rfl, _, rx, kx, bx⟩; have s1 := keep5 s0 bx; have KX := Lib.hid (KD.out.trans (bx.mono KD.out.size)); have GX := Lib.hid (GD.out.trans bx)) | (go_at_call 11; (with_reducible refine (HCL.out _ KX.out).mono ?_); rintro e x2 ⟨ay, cy, Q, rfl, _, ry, ky, by'⟩; have s2 := keep5 s1 by'; have KY := Lib.hid (KX.out.trans (by'.mono KX.out.size)); have GY := Lib.hid (GX.out.trans (by'.mono GX.out.size)); have rx' := rx.below by') | (go_at_call 13; refine (HP4.out _ ax cx O ay cy Q KY.out rx' kx ry ky).mono ?_; rintro e w6 ⟨a6, c6, e6, rfl, rz, kz, bz⟩; have s3 := keep5 s2 bz; have K6 := Lib.hid (KY.out.trans (bz.mono KY.out.size)); have G6 := Lib.hid (GY.out.trans (bz.mono GY.out.size)); have R6 := Lib.hid rz; have KE6 := Lib.hid kz))
    rename_i hHeld
    clear hHeld s0 s1 s2 s3 rx kx bx rx' ry ky by' rz kz bz KD GD KX GX KY GY p0 p1 p2 p3 p4
    have HI6 := Lib.hid (HI5.out.below G6.out HI5.out.lt)
    clear R6 KE6
    clear HI5 G6 K5
    go_wp2_with (first | (go_at_call 11; (with_reducible refine (HCL.out _ K6.out).mono ?_); rintro e x1 ⟨ax, cx, O, rfl, _, rx, kx, bx⟩; have KX := Lib.hid (K6.out.trans (bx.mono K6.out.size)); have HV1 := Lib.hid (HVL.out x1 ax cx O rx kx); clear bx) | (go_at_call 19; (with_reducible refine HV1.out.mono ?_); rintro e x2 ⟨av, nv, cv, rfl, bv⟩; have KV := Lib.hid (KX.out.trans (bv.mono KX.out.size)); clear bv) | (go_at_call 11; (with_reducible refine (HCR.out _ KV.out).mono ?_); rintro e x3 ⟨ay, cy, Q, rfl, _, ry, ky, by'⟩; have KY := Lib.hid (KV.out.trans (by'.mono KV.out.size)); have HV2 := Lib.hid (HVR.out x3 ay cy Q ry ky); clear by') | (go_at_call 19; (with_reducible refine HV2.out.mono ?_); rintro e x4 ⟨aw, nw, cw, rfl, bw⟩; have KW := Lib.hid (KY.out.trans (bw.mono KY.out.size)); clear bw))
    go_ret
    exact ⟨rfl, KW.out⟩
  · go_enter Tryz.func6, Tryz.ntmps6
    go_upto_region 1 with fail
    rw [← HW0.out]
    go_wp2_with fail
    refine (HAW.out _ HB0.out).mono ?_
    rintro e w1 ⟨rfl, b1⟩
    have K1 := Lib.hid (HB0.out.trans (b1.mono HB0.out.size))
    have HI1 := Lib.hid (HI0.out.below b1 HI0.out.lt)
    clear b1 HI0 HB0
    have p0 := HI1.out.cell 0
    have p1 := HI1.out.cell 1
    have p2 := HI1.out.cell 2
    have p3 := HI1.out.cell 3
    have p4 := HI1.out.cell 4
    simp at p0 p1 p2 p3 p4
    have pf := HI1.out.free 3
    go_upto_region 4 with fail
    have HI2 : Hid (Bk.Is (w1.setCell ⟨w.heap.size, 3, none⟩ (.int .i64 0)) w.heap.size #[.bool given, .bool on, .slice ma mn mc, .int .i64 0, .slice ia im ic] 25) := Lib.hid (HI1.out.set 3 (.int .i64 0))
    have K2 : Hid (Below w.heap.size w (w1.setCell ⟨w.heap.size, 3, none⟩ (.int .i64 0))) := Lib.hid (K1.out.setCell (p := ⟨w.heap.size, 3, none⟩) (Nat.le_refl _) _)
    clear p0 p1 p2 p3 p4 pf HI1 K1
    generalize w1.setCell ⟨w.heap.size, 3, none⟩ (.int .i64 0) = w2 at *
    go_wp2_with fail
    have p0 := HI2.out.cell 0
    have p1 := HI2.out.cell 1
    have p2 := HI2.out.cell 2
    have p3 := HI2.out.cell 3
    have p4 := HI2.out.cell 4
    simp at p0 p1 p2 p3 p4
    have s0 : w2.drew.cell? ⟨w.heap.size, 0, none⟩ = some (.bool given) ∧ w2.drew.cell? ⟨w.heap.size, 1, none⟩ = some (.bool on) ∧ w2.drew.cell? ⟨w.heap.size, 2, none⟩ = some (.slice ma mn mc) ∧ w2.drew.cell? ⟨w.heap.size, 3, none⟩ = some (.int .i64 0) ∧ w2.drew.cell? ⟨w.heap.size, 4, none⟩ = some (.slice ia im ic) := ⟨p0, p1, p2, p3, p4⟩
    have KD : Hid (Below w.heap.size w w2.drew) := Lib.hid (K2.out.drewN' 1)
    have GD : Hid (Below w2.heap.size w2 w2.drew) := Lib.hid ((Below.refl _ w2).drewN' 1)
    go_region_held3 (fun w' => w'.cell? ⟨w.heap.size, 0, none⟩ = some (.bool given) ∧ w'.cell? ⟨w.heap.size, 1, none⟩ = some (.bool on) ∧ w'.cell? ⟨w.heap.size, 2, none⟩ = some (.slice ma mn mc) ∧ w'.cell? ⟨w.heap.size, 3, none⟩ = some (.int .i64 0) ∧ w'.cell? ⟨w.heap.size, 4, none⟩ = some (.slice ia im ic)) (first | assumption) (first | (go_at_call 11; (with_reducible refine (HCL.out _ KD.out).mono ?_); rintro e x1 ⟨ax, cx, O, rfl, _, rx, kx, bx⟩; have s1 := keep5 s0 bx; have KX := Lib.hid (KD.out.trans (bx.mono KD.out.size)); have GX := Lib.hid (GD.out.trans bx)) | (go_at_call 11; (with_reducible refine (HCR.out _ KX.out).mono ?_); rintro e x2 ⟨ay, cy, Q, rfl, _, ry, ky, by'⟩; have s2 := keep5 s1 by'; have KY := Lib.hid (KX.out.trans (by'.mono KX.out.size)); have GY := Lib.hid (GX.out.trans (by'.mono GX.out.size)); have rx' := rx.below by') | (go_at_call 13; refine (HP1.out _ ax cx O ay cy Q KY.out rx' kx ry ky).mono ?_; rintro e w3 ⟨a3, c3, e3, rfl, rz, kz, bz⟩; have s3 := keep5 s2 bz; have K3 := Lib.hid (KY.out.trans (bz.mono KY.out.size)); have G3 := Lib.hid (GY.out.trans (bz.mono GY.out.size)); have R3 := Lib.hid rz; have KE3 := Lib.hid kz))
    rename_i hHeld
    clear hHeld s0 s1 s2 s3 rx kx bx rx' ry ky by' rz kz bz KD GD KX GX KY GY p0 p1 p2 p3 p4
    have HI3 := Lib.hid (HI2.out.below G3.out HI2.out.lt)
    clear R3 KE3
    clear HI2 G3 K2
    go_wp2_with fail
    have p0 := HI3.out.cell 0
    have p1 := HI3.out.cell 1
    have p2 := HI3.out.cell 2
    have p3 := HI3.out.cell 3
    have p4 := HI3.out.cell 4
    simp at p0 p1 p2 p3 p4
    have s0 : w3.drew.cell? ⟨w.heap.size, 0, none⟩ = some (.bool given) ∧ w3.drew.cell? ⟨w.heap.size, 1, none⟩ = some (.bool on) ∧ w3.drew.cell? ⟨w.heap.size, 2, none⟩ = some (.slice ma mn mc) ∧ w3.drew.cell? ⟨w.heap.size, 3, none⟩ = some (.int .i64 0) ∧ w3.drew.cell? ⟨w.heap.size, 4, none⟩ = some (.slice ia im ic) := ⟨p0, p1, p2, p3, p4⟩
    have KD : Hid (Below w.heap.size w w3.drew) := Lib.hid (K3.out.drewN' 1)
    have GD : Hid (Below w3.heap.size w3 w3.drew) := Lib.hid ((Below.refl _ w3).drewN' 1)
    go_region_held3 (fun w' => w'.cell? ⟨w.heap.size, 0, none⟩ = some (.bool given) ∧ w'.cell? ⟨w.heap.size, 1, none⟩ = some (.bool on) ∧ w'.cell? ⟨w.heap.size, 2, none⟩ = some (.slice ma mn mc) ∧ w'.cell? ⟨w.heap.size, 3, none⟩ = some (.int .i64 0) ∧ w'.cell? ⟨w.heap.size, 4, none⟩ = some (.slice ia im ic)) (first | assumption) (first | (go_at_call 11; (with_reducible refine (HCL.out _ KD.out).mono ?_); rintro e x1 ⟨ax, cx, O, rfl, _, rx, kx, bx⟩; have s1 := keep5 s0 bx; have KX := Lib.hid (KD.out.trans (bx.mono KD.out.size)); have GX := Lib.hid (GD.out.trans bx)) | (go_at_call 11; (with_reducible refine (HCR.out _ KX.out).mono ?_); rintro e x2 ⟨ay, cy, Q, rfl, _, ry, ky, by'⟩; have s2 := keep5 s1 by'; have KY := Lib.hid (KX.out.trans (by'.mono KX.out.size)); have GY := Lib.hid (GX.out.trans (by'.mono GX.out.size)); have rx' := rx.below by') | (go_at_call 13; refine (HP2.out _ ax cx O ay cy Q KY.out rx' kx ry ky).mono ?_; rintro e w4 ⟨a4, c4, e4, rfl, rz, kz, bz⟩; have s3 := keep5 s2 bz; have K4 := Lib.hid (KY.out.trans (bz.mono KY.out.size)); have G4 := Lib.hid (GY.out.trans (bz.mono GY.out.size)); have R4 := Lib.hid rz; have KE4 := Lib.hid kz))
    rename_i hHeld
    clear hHeld s0 s1 s2 s3 rx kx bx rx' ry ky by' rz kz bz KD GD KX GX KY GY p0 p1 p2 p3 p4
    have HI4 := Lib.hid (HI3.out.below G4.out HI3.out.lt)
    clear R4 KE4
    clear HI3 G4 K3
    go_wp2_with fail
    have p0 := HI4.out.cell 0
    have p1 := HI4.out.cell 1
    have p2 := HI4.out.cell 2
    have p3 := HI4.out.cell 3
    have p4 := HI4.out.cell 4
    simp at p0 p1 p2 p3 p4
    have s0 : w4.drew.cell? ⟨w.heap.size, 0, none⟩ = some (.bool given) ∧ w4.drew.cell? ⟨w.heap.size, 1, none⟩ = some (.bool on) ∧ w4.drew.cell? ⟨w.heap.size, 2, none⟩ = some (.slice ma mn mc) ∧ w4.drew.cell? ⟨w.heap.size, 3, none⟩ = some (.int .i64 0) ∧ w4.drew.cell? ⟨w.heap.size, 4, none⟩ = some (.slice ia im ic) := ⟨p0, p1, p2, p3, p4⟩
    have KD : Hid (Below w.heap.size w w4.drew) := Lib.hid (K4.out.drewN' 1)
    have GD : Hid (Below w4.heap.size w4 w4.drew) := Lib.hid ((Below.refl _ w4).drewN' 1)
    go_region_held3 (fun w' => w'.cell? ⟨w.heap.size, 0, none⟩ = some (.bool given) ∧ w'.cell? ⟨w.heap.size, 1, none⟩ = some (.bool on) ∧ w'.cell? ⟨w.heap.size, 2, none⟩ = some (.slice ma mn mc) ∧ w'.cell? ⟨w.heap.size, 3, none⟩ = some (.int .i64 0) ∧ w'.cell? ⟨w.heap.size, 4, none⟩ = some (.slice ia im ic)) (first | assumption) (first | (go_at_call 11; (with_reducible refine (HCL.out _ KD.out).mono ?_); rintro e x1 ⟨ax, cx, O, rfl, _, rx, kx, bx⟩; have s1 := keep5 s0 bx; have KX := Lib.hid (KD.out.trans (bx.mono KD.out.size)); have GX := Lib.hid (GD.out.trans bx)) | (go_at_call 11; (with_reducible refine (HCR.out _ KX.out).mono ?_); rintro e x2 ⟨ay, cy, Q, rfl, _, ry, ky, by'⟩; have s2 := keep5 s1 by'; have KY := Lib.hid (KX.out.trans (by'.mono KX.out.size)); have GY := Lib.hid (GX.out.trans (by'.mono GX.out.size)); have rx' := rx.below by') | (go_at_call 13; refine (HP3.out _ ax cx O ay cy Q KY.out rx' kx ry ky).mono ?_; rintro e w5 ⟨a5, c5, e5, rfl, rz, kz, bz⟩; have s3 := keep5 s2 bz; have K5 := Lib.hid (KY.out.trans (bz.mono KY.out.size)); have G5 := Lib.hid (GY.out.trans (bz.mono GY.out.size)); have R5 := Lib.hid rz; have KE5 := Lib.hid kz))
    rename_i hHeld
    clear hHeld s0 s1 s2 s3 rx kx bx rx' ry ky by' rz kz bz KD GD KX GX KY GY p0 p1 p2 p3 p4
    have HI5 := Lib.hid (HI4.out.below G5.out HI4.out.lt)
    clear R5 KE5
    clear HI4 G5 K4
    go_wp2_with fail
    have p0 := HI5.out.cell 0
    have p1 := HI5.out.cell 1
    have p2 := HI5.out.cell 2
    have p3 := HI5.out.cell 3
    have p4 := HI5.out.cell 4
    simp at p0 p1 p2 p3 p4
    have s0 : w5.drew.cell? ⟨w.heap.size, 0, none⟩ = some (.bool given) ∧ w5.drew.cell? ⟨w.heap.size, 1, none⟩ = some (.bool on) ∧ w5.drew.cell? ⟨w.heap.size, 2, none⟩ = some (.slice ma mn mc) ∧ w5.drew.cell? ⟨w.heap.size, 3, none⟩ = some (.int .i64 0) ∧ w5.drew.cell? ⟨w.heap.size, 4, none⟩ = some (.slice ia im ic) := ⟨p0, p1, p2, p3, p4⟩
    have KD : Hid (Below w.heap.size w w5.drew) := Lib.hid (K5.out.drewN' 1)
    have GD : Hid (Below w5.heap.size w5 w5.drew) := Lib.hid ((Below.refl _ w5).drewN' 1)
    go_region_held3 (fun w' => w'.cell? ⟨w.heap.size, 0, none⟩ = some (.bool given) ∧ w'.cell? ⟨w.heap.size, 1, none⟩ = some (.bool on) ∧ w'.cell? ⟨w.heap.size, 2, none⟩ = some (.slice ma mn mc) ∧ w'.cell? ⟨w.heap.size, 3, none⟩ = some (.int .i64 0) ∧ w'.cell? ⟨w.heap.size, 4, none⟩ = some (.slice ia im ic)) (first | assumption) (first | (go_at_call 11; (with_reducible refine (HCR.out _ KD.out).mono ?_); rintro e x1 ⟨ax, cx, O, rfl, _, rx, kx, bx⟩; have s1 := keep5 s0 bx; have KX := Lib.hid (KD.out.trans (bx.mono KD.out.size)); have GX := Lib.hid (GD.out.trans bx)) | (go_at_call 11; (with_reducible refine (HCL.out _ KX.out).mono ?_); rintro e x2 ⟨ay, cy, Q, rfl, _, ry, ky, by'⟩; have s2 := keep5 s1 by'; have KY := Lib.hid (KX.out.trans (by'.mono KX.out.size)); have GY := Lib.hid (GX.out.trans (by'.mono GX.out.size)); have rx' := rx.below by') | (go_at_call 13; refine (HP4.out _ ax cx O ay cy Q KY.out rx' kx ry ky).mono ?_; rintro e w6 ⟨a6, c6, e6, rfl, rz, kz, bz⟩; have s3 := keep5 s2 bz; have K6 := Lib.hid (KY.out.trans (bz.mono KY.out.size)); have G6 := Lib.hid (GY.out.trans (bz.mono GY.out.size)); have R6 := Lib.hid rz; have KE6 := Lib.hid kz))
    rename_i hHeld
    clear hHeld s0 s1 s2 s3 rx kx bx rx' ry ky by' rz kz bz KD GD KX GX KY GY p0 p1 p2 p3 p4
    have HI6 := Lib.hid (HI5.out.below G6.out HI5.out.lt)
    clear R6 KE6
    clear HI5 G6 K5
    go_wp2_with (first | (go_at_call 11; (with_reducible refine (HCL.out _ K6.out).mono ?_); rintro e x1 ⟨ax, cx, O, rfl, _, rx, kx, bx⟩; have KX := Lib.hid (K6.out.trans (bx.mono K6.out.size)); have HV1 := Lib.hid (HVL.out x1 ax cx O rx kx); clear bx) | (go_at_call 19; (with_reducible refine HV1.out.mono ?_); rintro e x2 ⟨av, nv, cv, rfl, bv⟩; have KV := Lib.hid (KX.out.trans (bv.mono KX.out.size)); clear bv) | (go_at_call 11; (with_reducible refine (HCR.out _ KV.out).mono ?_); rintro e x3 ⟨ay, cy, Q, rfl, _, ry, ky, by'⟩; have KY := Lib.hid (KV.out.trans (by'.mono KV.out.size)); have HV2 := Lib.hid (HVR.out x3 ay cy Q ry ky); clear by') | (go_at_call 19; (with_reducible refine HV2.out.mono ?_); rintro e x4 ⟨aw, nw, cw, rfl, bw⟩; have KW := Lib.hid (KY.out.trans (bw.mono KY.out.size)); clear bw))
    go_ret
    exact ⟨rfl, KW.out⟩

set_option maxHeartbeats 16000000 in
set_option maxRecDepth 100000 in
theorem sets_ok (a b : Option Addr) (na ca nb cb : Nat) (la lb : List Er) (m : Mt) (w : World) (ha : ERow w a na la) (hsa : SlK a na ca) (hb : ERow w b nb lb) (hsb : SlK b nb cb) (hM : MtOk w m)
    (hfa : FitK m.on m.ns m.im (la.map Er.key)) (hfb : FitK m.on m.ns m.im (lb.map Er.key)) (hn : na + nb ≤ 4398046511000) (hi : (m.im : Int) ≤ 9223372036854775807) (hT : Tab w.heap.size w) (ml mr : List Ek) (hva : vecK (la.map Er.key) = some ml) (hvb : vecK (lb.map Er.key) = some mr) :
    Calls Tryz.prog 6 #[.slice a na ca, .slice b nb cb, m.v] w fun e w' => e = .returned (.bool true) ∧ Below w.heap.size w w' := by
  have cl := canon_of hva
  have cr := canon_of hvb
  obtain ⟨V1, hV1⟩ : ∃ V, V = nearK m.on m.ns ml mr := ⟨_, rfl⟩
  obtain ⟨V2, hV2⟩ : ∃ V, V = farK m.on m.ns ml mr := ⟨_, rfl⟩
  obtain ⟨V4, hV4⟩ : ∃ V, V = farK m.on m.ns mr ml := ⟨_, rfl⟩
  obtain ⟨V3, hV3⟩ : ∃ V, V = sortK (ml ++ V4) := ⟨_, rfl⟩
  have hor : vecK (ml ++ V4) = some V3 := by rw [hV3, hV4]; exact or_vec cl cr
  have hS1 : setE (nearK m.on m.ns ml mr) = 0 ∧ setV (nearK m.on m.ns ml mr) = V1 := by rw [hV1]; exact set_canon (cl.filter _)
  have hS2 : setE (farK m.on m.ns ml mr) = 0 ∧ setV (farK m.on m.ns ml mr) = V2 := by rw [hV2]; exact set_canon (cl.filter _)
  have hS4 : setE (farK m.on m.ns mr ml) = 0 ∧ setV (farK m.on m.ns mr ml) = V4 := by rw [hV4]; exact set_canon (cr.filter _)
  have hS3 : setE (ml ++ farK m.on m.ns mr ml) = 0 ∧ setV (ml ++ farK m.on m.ns mr ml) = V3 := by rw [← hV4]; unfold setE setV; rw [hor]; exact ⟨rfl, rfl⟩
  obtain ⟨N1, hN1⟩ : ∃ n, n = V1.length := ⟨_, rfl⟩
  obtain ⟨N2, hN2⟩ : ∃ n, n = V2.length := ⟨_, rfl⟩
  obtain ⟨N3, hN3⟩ : ∃ n, n = V3.length := ⟨_, rfl⟩
  obtain ⟨N4, hN4⟩ : ∃ n, n = V4.length := ⟨_, rfl⟩
  obtain ⟨NL, hNL⟩ : ∃ n, n = ml.length := ⟨_, rfl⟩
  have hnl : ml.length = na := by rw [vecK_len hva, List.length_map, ha.1]
  have hna : na ≤ 4398046511000 := by omega
  have h4n : N4 ≤ nb := by rw [hN4, hV4, ← hb.1, ← List.length_map (f := Er.key), ← vecK_len hvb]; exact List.length_filter_le _ _
  have hw1 : IntKind.i64.wrap ((N1 : Int) + (N2 : Int)) = (na : Int) := by
    have h := near_far_len m.on m.ns ml mr
    rw [← hV1, ← hV2, ← hN1, ← hN2, hnl] at h
    rw [IntKind.wrap_i64]; omega
  have hw2 : IntKind.i64.wrap ((na : Int) + (N4 : Int)) = (N3 : Int) := by
    have h : V3.length = ml.length + V4.length := by rw [hV3]; unfold sortK; rw [List.length_mergeSort, List.length_append]
    rw [← hN3, ← hN4, hnl] at h
    rw [IntKind.wrap_i64]; omega
  have hperm : vecK (V1 ++ V2) = some ml := by rw [hV1, hV2]; exact vecK_perm cl (near_far_perm _ _ _ _)
  have hl12 : V1.length + V2.length ≤ 4398046511104 := by have h := near_far_len m.on m.ns ml mr; rw [← hV1, ← hV2] at h; omega
  have hl34 : ml.length + V4.length ≤ 4398046511104 := by omega
  have HAW : Hid (∀ W, Below w.heap.size w W → Calls Tryz.prog 9 #[] W fun e w' => e = .returned (.bool true) ∧ Below W.heap.size W w') := Lib.hid fun W h => awake_any W (fun w' h2 => hT w' (h.trans (h2.mono h.size)))
  have HCL : Hid (∀ W, Below w.heap.size w W → Calls Tryz.prog 11 #[.slice a na ca] W (CopyOf la W)) := Lib.hid fun W h => copied21_any a na ca la W (ha.below h)
  have HCR : Hid (∀ W, Below w.heap.size w W → Calls Tryz.prog 11 #[.slice b nb cb] W (CopyOf lb W)) := Lib.hid fun W h => copied21_any b nb cb lb W (hb.below h)
  have hlen : (la.map Er.key).length + (lb.map Er.key).length ≤ 4398046511000 := by rw [List.length_map, List.length_map, ha.1, hb.1]; exact hn
  have tand : (⟨#[97, 110, 100]⟩ : ByteArray).toList = [97, 110, 100] := by rw [ByteArray.toList_eq]
  have tor : (⟨#[111, 114]⟩ : ByteArray).toList = [111, 114] := by rw [ByteArray.toList_eq]
  have tun : (⟨#[117, 110, 108, 101, 115, 115]⟩ : ByteArray).toList = [117, 110, 108, 101, 115, 115] := by rw [ByteArray.toList_eq]
  have HP1 : Hid (∀ W x cx (O : List Er) z cz (Q : List Er), Below w.heap.size w W → ERow W x O.length O → O.map Er.key = la.map Er.key → ERow W z Q.length Q → Q.map Er.key = lb.map Er.key → Calls Tryz.prog 13 #[.string ⟨#[97, 110, 100]⟩, .slice x O.length cx, .slice z Q.length cz, Mt.v { m with card := 0 }, .bool false] W (RetX N1 V1 W)) := Lib.hid fun W x cx O z cz Q h ho hk hq hk2 => by
    have hl : O.length + Q.length ≤ 4398046511000 := by have e1 := congrArg List.length hk; have e2 := congrArg List.length hk2; rw [List.length_map] at e1 e2; omega
    have h1 := vecsX_se ⟨#[97, 110, 100]⟩ x z O.length cx Q.length cz O Q { m with card := 0 } false W ho hq (hM.below h) (hfa.key hk) (hfb.key hk2) (fun w' h2 => hT w' (h.trans (h2.mono h.size))) hl ml mr (by rw [hk]; exact hva) (by rw [hk2]; exact hvb) (by rw [tand]; decide) (by rw [tand]; decide) rfl
    rw [tand] at h1
    dsimp only at h1
    rw [setL_and, (hS1).1, (hS1).2] at h1
    rw [hN1]; exact h1.mono fun e w' h => h.x
  have HP2 : Hid (∀ W x cx (O : List Er) z cz (Q : List Er), Below w.heap.size w W → ERow W x O.length O → O.map Er.key = la.map Er.key → ERow W z Q.length Q → Q.map Er.key = lb.map Er.key → Calls Tryz.prog 13 #[.string ⟨#[117, 110, 108, 101, 115, 115]⟩, .slice x O.length cx, .slice z Q.length cz, Mt.v { m with card := 0 }, .bool false] W (RetX N2 V2 W)) := Lib.hid fun W x cx O z cz Q h ho hk hq hk2 => by
    have hl : O.length + Q.length ≤ 4398046511000 := by have e1 := congrArg List.length hk; have e2 := congrArg List.length hk2; rw [List.length_map] at e1 e2; omega
    have h1 := vecsX_se ⟨#[117, 110, 108, 101, 115, 115]⟩ x z O.length cx Q.length cz O Q { m with card := 0 } false W ho hq (hM.below h) (hfa.key hk) (hfb.key hk2) (fun w' h2 => hT w' (h.trans (h2.mono h.size))) hl ml mr (by rw [hk]; exact hva) (by rw [hk2]; exact hvb) (by rw [tun]; decide) (by rw [tun]; decide) rfl
    rw [tun] at h1
    dsimp only at h1
    rw [setL_unless, (hS2).1, (hS2).2] at h1
    rw [hN2]; exact h1.mono fun e w' h => h.x
  have HP3 : Hid (∀ W x cx (O : List Er) z cz (Q : List Er), Below w.heap.size w W → ERow W x O.length O → O.map Er.key = la.map Er.key → ERow W z Q.length Q → Q.map Er.key = lb.map Er.key → Calls Tryz.prog 13 #[.string ⟨#[111, 114]⟩, .slice x O.length cx, .slice z Q.length cz, Mt.v { m with card := 0 }, .bool true] W (RetX N3 V3 W)) := Lib.hid fun W x cx O z cz Q h ho hk hq hk2 => by
    have hl : O.length + Q.length ≤ 4398046511000 := by have e1 := congrArg List.length hk; have e2 := congrArg List.length hk2; rw [List.length_map] at e1 e2; omega
    have h1 := vecsX_se ⟨#[111, 114]⟩ x z O.length cx Q.length cz O Q { m with card := 0 } true W ho hq (hM.below h) (hfa.key hk) (hfb.key hk2) (fun w' h2 => hT w' (h.trans (h2.mono h.size))) hl ml mr (by rw [hk]; exact hva) (by rw [hk2]; exact hvb) (by rw [tor]; decide) (by rw [tor]; decide) rfl
    rw [tor] at h1
    dsimp only at h1
    rw [setL_or, (hS3).1, (hS3).2] at h1
    rw [hN3]; exact h1.mono fun e w' h => h.x
  have HP4 : Hid (∀ W x cx (O : List Er) z cz (Q : List Er), Below w.heap.size w W → ERow W x O.length O → O.map Er.key = lb.map Er.key → ERow W z Q.length Q → Q.map Er.key = la.map Er.key → Calls Tryz.prog 13 #[.string ⟨#[117, 110, 108, 101, 115, 115]⟩, .slice x O.length cx, .slice z Q.length cz, Mt.v { m with card := 0 }, .bool true] W (RetX N4 V4 W)) := Lib.hid fun W x cx O z cz Q h ho hk hq hk2 => by
    have hl : O.length + Q.length ≤ 4398046511000 := by have e1 := congrArg List.length hk; have e2 := congrArg List.length hk2; rw [List.length_map] at e1 e2; omega
    have h1 := vecsX_se ⟨#[117, 110, 108, 101, 115, 115]⟩ x z O.length cx Q.length cz O Q { m with card := 0 } true W ho hq (hM.below h) (hfb.key hk) (hfa.key hk2) (fun w' h2 => hT w' (h.trans (h2.mono h.size))) hl mr ml (by rw [hk]; exact hvb) (by rw [hk2]; exact hva) (by rw [tun]; decide) (by rw [tun]; decide) rfl
    rw [tun] at h1
    dsimp only at h1
    rw [setL_unless, (hS4).1, (hS4).2] at h1
    rw [hN4]; exact h1.mono fun e w' h => h.x
  have HVL : Hid (∀ W x cx (O : List Er), ERow W x O.length O → O.map Er.key = la.map Er.key → Calls Tryz.prog 19 #[.slice x O.length cx] W (RetX NL ml W)) := Lib.hid fun W x cx O ho hk => by
    rw [hNL]; exact vecX_any ho (by rw [hk]; exact hva)
  have HVR : Hid (∀ W x cx (O : List Er), ERow W x O.length O → O.map Er.key = lb.map Er.key → Calls Tryz.prog 19 #[.slice x O.length cx] W (VBad 0 W)) := Lib.hid fun W x cx O ho hk => by
    have h := vecB_any (cap := cx) ho
    rw [hk, hvb] at h; exact h
  have HVP : Hid (∀ W x n cx (O : List Er), ERow W x n O → O.map Er.key = V1 ++ V2 → Calls Tryz.prog 19 #[.slice x n cx] W (RetX NL ml W)) := Lib.hid fun W x n cx O ho hk => by
    rw [hNL]; exact vecX_any ho (by rw [hk]; exact hperm)
  have HVW : Hid (∀ W x n cx (O : List Er), ERow W x n O → O.map Er.key = ml ++ V4 → Calls Tryz.prog 19 #[.slice x n cx] W (RetX N3 V3 W)) := Lib.hid fun W x n cx O ho hk => by
    rw [hN3]; exact vecX_any ho (by rw [hk]; exact hor)
  have HL12 := Lib.hid hl12
  have HL34 := Lib.hid hl34
  obtain ⟨given, on, ma, mn, mc, card, ia, im, ic, ns, inc⟩ := m
  dsimp only [Mt.v] at HP1 HP2 HP3 HP4 ⊢
  obtain ⟨W0, hW0⟩ : ∃ W0, W0 = w.alloc (.cells #[.bool given, .bool on, .slice ma mn mc, .int .i64 card, .slice ia im ic] 25) := ⟨_, rfl⟩
  have HI0 : Hid (Bk.Is W0 w.heap.size #[.bool given, .bool on, .slice ma mn mc, .int .i64 card, .slice ia im ic] 25) := Lib.hid (by rw [hW0]; exact Bk.Is.made w _ _)
  have HB0 : Hid (Below w.heap.size w W0) := Lib.hid (by rw [hW0]; exact (Below.refl _ _).alloc (Nat.le_refl _) _)
  have HW0 := Lib.hid hW0
  clear ha hsa hb hsb hM hfa hfb hn hi hT hlen tand tor tun hW0 cl cr hV1 hV2 hV3 hV4 hor hS1 hS2 hS3 hS4 hN1 hN2 hN3 hN4 hNL hnl hna h4n hperm hl12 hl34 hva hvb
  go_enter Tryz.func6, Tryz.ntmps6
  go_upto_region 1 with fail
  rw [← HW0.out]
  go_wp2_with fail
  refine (HAW.out _ HB0.out).mono ?_
  rintro e w1 ⟨rfl, b1⟩
  have K1 := Lib.hid (HB0.out.trans (b1.mono HB0.out.size))
  have HI1 := Lib.hid (HI0.out.below b1 HI0.out.lt)
  clear b1 HI0 HB0
  have p0 := HI1.out.cell 0
  have p1 := HI1.out.cell 1
  have p2 := HI1.out.cell 2
  have p3 := HI1.out.cell 3
  have p4 := HI1.out.cell 4
  simp at p0 p1 p2 p3 p4
  have pf := HI1.out.free 3
  go_upto_region 4 with fail
  have HI2 : Hid (Bk.Is (w1.setCell ⟨w.heap.size, 3, none⟩ (.int .i64 0)) w.heap.size #[.bool given, .bool on, .slice ma mn mc, .int .i64 0, .slice ia im ic] 25) := Lib.hid (HI1.out.set 3 (.int .i64 0))
  have K2 : Hid (Below w.heap.size w (w1.setCell ⟨w.heap.size, 3, none⟩ (.int .i64 0))) := Lib.hid (K1.out.setCell (p := ⟨w.heap.size, 3, none⟩) (Nat.le_refl _) _)
  clear p0 p1 p2 p3 p4 pf HI1 K1
  generalize w1.setCell ⟨w.heap.size, 3, none⟩ (.int .i64 0) = w2 at *
  go_wp2_with fail
  have p0 := HI2.out.cell 0
  have p1 := HI2.out.cell 1
  have p2 := HI2.out.cell 2
  have p3 := HI2.out.cell 3
  have p4 := HI2.out.cell 4
  simp at p0 p1 p2 p3 p4
  have s0 : w2.drew.cell? ⟨w.heap.size, 0, none⟩ = some (.bool given) ∧ w2.drew.cell? ⟨w.heap.size, 1, none⟩ = some (.bool on) ∧ w2.drew.cell? ⟨w.heap.size, 2, none⟩ = some (.slice ma mn mc) ∧ w2.drew.cell? ⟨w.heap.size, 3, none⟩ = some (.int .i64 0) ∧ w2.drew.cell? ⟨w.heap.size, 4, none⟩ = some (.slice ia im ic) := ⟨p0, p1, p2, p3, p4⟩
  have KD : Hid (Below w.heap.size w w2.drew) := Lib.hid (K2.out.drewN' 1)
  have GD : Hid (Below w2.heap.size w2 w2.drew) := Lib.hid ((Below.refl _ w2).drewN' 1)
  go_region_held3 (fun w' => w'.cell? ⟨w.heap.size, 0, none⟩ = some (.bool given) ∧ w'.cell? ⟨w.heap.size, 1, none⟩ = some (.bool on) ∧ w'.cell? ⟨w.heap.size, 2, none⟩ = some (.slice ma mn mc) ∧ w'.cell? ⟨w.heap.size, 3, none⟩ = some (.int .i64 0) ∧ w'.cell? ⟨w.heap.size, 4, none⟩ = some (.slice ia im ic)) (first | assumption) (first | (go_at_call 11; (with_reducible refine (HCL.out _ KD.out).mono ?_); rintro e x1 ⟨ax, cx, O, rfl, _, rx, kx, bx⟩; have s1 := keep5 s0 bx; have KX := Lib.hid (KD.out.trans (bx.mono KD.out.size)); have GX := Lib.hid (GD.out.trans bx)) | (go_at_call 11; (with_reducible refine (HCR.out _ KX.out).mono ?_); rintro e x2 ⟨ay, cy, Q, rfl, _, ry, ky, by'⟩; have s2 := keep5 s1 by'; have KY := Lib.hid (KX.out.trans (by'.mono KX.out.size)); have GY := Lib.hid (GX.out.trans (by'.mono GX.out.size)); have rx' := rx.below by') | (go_at_call 13; refine (HP1.out _ ax cx O ay cy Q KY.out rx' kx ry ky).mono ?_; rintro e w3 ⟨a3, c3, e3, rfl, rz, kz, bz⟩; have s3 := keep5 s2 bz; have K3 := Lib.hid (KY.out.trans (bz.mono KY.out.size)); have G3 := Lib.hid (GY.out.trans (bz.mono GY.out.size)); have R3 := Lib.hid rz; have KE3 := Lib.hid kz))
  rename_i hHeld
  clear hHeld s0 s1 s2 s3 rx kx bx rx' ry ky by' rz kz bz KD GD KX GX KY GY p0 p1 p2 p3 p4
  have HI3 := Lib.hid (HI2.out.below G3.out HI2.out.lt)
  clear HI2 G3 K2
  go_wp2_with fail
  have p0 := HI3.out.cell 0
  have p1 := HI3.out.cell 1
  have p2 := HI3.out.cell 2
  have p3 := HI3.out.cell 3
  have p4 := HI3.out.cell 4
  simp at p0 p1 p2 p3 p4
  have s0 : w3.drew.cell? ⟨w.heap.size, 0, none⟩ = some (.bool given) ∧ w3.drew.cell? ⟨w.heap.size, 1, none⟩ = some (.bool on) ∧ w3.drew.cell? ⟨w.heap.size, 2, none⟩ = some (.slice ma mn mc) ∧ w3.drew.cell? ⟨w.heap.size, 3, none⟩ = some (.int .i64 0) ∧ w3.drew.cell? ⟨w.heap.size, 4, none⟩ = some (.slice ia im ic) := ⟨p0, p1, p2, p3, p4⟩
  have KD : Hid (Below w.heap.size w w3.drew) := Lib.hid (K3.out.drewN' 1)
  have GD : Hid (Below w3.heap.size w3 w3.drew) := Lib.hid ((Below.refl _ w3).drewN' 1)
  go_region_held3 (fun w' => w'.cell? ⟨w.heap.size, 0, none⟩ = some (.bool given) ∧ w'.cell? ⟨w.heap.size, 1, none⟩ = some (.bool on) ∧ w'.cell? ⟨w.heap.size, 2, none⟩ = some (.slice ma mn mc) ∧ w'.cell? ⟨w.heap.size, 3, none⟩ = some (.int .i64 0) ∧ w'.cell? ⟨w.heap.size, 4, none⟩ = some (.slice ia im ic)) (first | assumption) (first | (go_at_call 11; (with_reducible refine (HCL.out _ KD.out).mono ?_); rintro e x1 ⟨ax, cx, O, rfl, _, rx, kx, bx⟩; have s1 := keep5 s0 bx; have KX := Lib.hid (KD.out.trans (bx.mono KD.out.size)); have GX := Lib.hid (GD.out.trans bx)) | (go_at_call 11; (with_reducible refine (HCR.out _ KX.out).mono ?_); rintro e x2 ⟨ay, cy, Q, rfl, _, ry, ky, by'⟩; have s2 := keep5 s1 by'; have KY := Lib.hid (KX.out.trans (by'.mono KX.out.size)); have GY := Lib.hid (GX.out.trans (by'.mono GX.out.size)); have rx' := rx.below by') | (go_at_call 13; refine (HP2.out _ ax cx O ay cy Q KY.out rx' kx ry ky).mono ?_; rintro e w4 ⟨a4, c4, e4, rfl, rz, kz, bz⟩; have s3 := keep5 s2 bz; have K4 := Lib.hid (KY.out.trans (bz.mono KY.out.size)); have G4 := Lib.hid (GY.out.trans (bz.mono GY.out.size)); have R4 := Lib.hid rz; have KE4 := Lib.hid kz))
  rename_i hHeld
  clear hHeld s0 s1 s2 s3 rx kx bx rx' ry ky by' rz kz bz KD GD KX GX KY GY p0 p1 p2 p3 p4
  have HI4 := Lib.hid (HI3.out.below G4.out HI3.out.lt)
  have R3 := Lib.hid (R3.out.below G4.out)
  clear HI3 G4 K3
  go_wp2_with fail
  have p0 := HI4.out.cell 0
  have p1 := HI4.out.cell 1
  have p2 := HI4.out.cell 2
  have p3 := HI4.out.cell 3
  have p4 := HI4.out.cell 4
  simp at p0 p1 p2 p3 p4
  have s0 : w4.drew.cell? ⟨w.heap.size, 0, none⟩ = some (.bool given) ∧ w4.drew.cell? ⟨w.heap.size, 1, none⟩ = some (.bool on) ∧ w4.drew.cell? ⟨w.heap.size, 2, none⟩ = some (.slice ma mn mc) ∧ w4.drew.cell? ⟨w.heap.size, 3, none⟩ = some (.int .i64 0) ∧ w4.drew.cell? ⟨w.heap.size, 4, none⟩ = some (.slice ia im ic) := ⟨p0, p1, p2, p3, p4⟩
  have KD : Hid (Below w.heap.size w w4.drew) := Lib.hid (K4.out.drewN' 1)
  have GD : Hid (Below w4.heap.size w4 w4.drew) := Lib.hid ((Below.refl _ w4).drewN' 1)
  go_region_held3 (fun w' => w'.cell? ⟨w.heap.size, 0, none⟩ = some (.bool given) ∧ w'.cell? ⟨w.heap.size, 1, none⟩ = some (.bool on) ∧ w'.cell? ⟨w.heap.size, 2, none⟩ = some (.slice ma mn mc) ∧ w'.cell? ⟨w.heap.size, 3, none⟩ = some (.int .i64 0) ∧ w'.cell? ⟨w.heap.size, 4, none⟩ = some (.slice ia im ic)) (first | assumption) (first | (go_at_call 11; (with_reducible refine (HCL.out _ KD.out).mono ?_); rintro e x1 ⟨ax, cx, O, rfl, _, rx, kx, bx⟩; have s1 := keep5 s0 bx; have KX := Lib.hid (KD.out.trans (bx.mono KD.out.size)); have GX := Lib.hid (GD.out.trans bx)) | (go_at_call 11; (with_reducible refine (HCR.out _ KX.out).mono ?_); rintro e x2 ⟨ay, cy, Q, rfl, _, ry, ky, by'⟩; have s2 := keep5 s1 by'; have KY := Lib.hid (KX.out.trans (by'.mono KX.out.size)); have GY := Lib.hid (GX.out.trans (by'.mono GX.out.size)); have rx' := rx.below by') | (go_at_call 13; refine (HP3.out _ ax cx O ay cy Q KY.out rx' kx ry ky).mono ?_; rintro e w5 ⟨a5, c5, e5, rfl, rz, kz, bz⟩; have s3 := keep5 s2 bz; have K5 := Lib.hid (KY.out.trans (bz.mono KY.out.size)); have G5 := Lib.hid (GY.out.trans (bz.mono GY.out.size)); have R5 := Lib.hid rz; have KE5 := Lib.hid kz))
  rename_i hHeld
  clear hHeld s0 s1 s2 s3 rx kx bx rx' ry ky by' rz kz bz KD GD KX GX KY GY p0 p1 p2 p3 p4
  have HI5 := Lib.hid (HI4.out.below G5.out HI4.out.lt)
  have R3 := Lib.hid (R3.out.below G5.out)
  have R4 := Lib.hid (R4.out.below G5.out)
  clear HI4 G5 K4
  go_wp2_with fail
  have p0 := HI5.out.cell 0
  have p1 := HI5.out.cell 1
  have p2 := HI5.out.cell 2
  have p3 := HI5.out.cell 3
  have p4 := HI5.out.cell 4
  simp at p0 p1 p2 p3 p4
  have s0 : w5.drew.cell? ⟨w.heap.size, 0, none⟩ = some (.bool given) ∧ w5.drew.cell? ⟨w.heap.size, 1, none⟩ = some (.bool on) ∧ w5.drew.cell? ⟨w.heap.size, 2, none⟩ = some (.slice ma mn mc) ∧ w5.drew.cell? ⟨w.heap.size, 3, none⟩ = some (.int .i64 0) ∧ w5.drew.cell? ⟨w.heap.size, 4, none⟩ = some (.slice ia im ic) := ⟨p0, p1, p2, p3, p4⟩
  have KD : Hid (Below w.heap.size w w5.drew) := Lib.hid (K5.out.drewN' 1)
  have GD : Hid (Below w5.heap.size w5 w5.drew) := Lib.hid ((Below.refl _ w5).drewN' 1)
  go_region_held3 (fun w' => w'.cell? ⟨w.heap.size, 0, none⟩ = some (.bool given) ∧ w'.cell? ⟨w.heap.size, 1, none⟩ = some (.bool on) ∧ w'.cell? ⟨w.heap.size, 2, none⟩ = some (.slice ma mn mc) ∧ w'.cell? ⟨w.heap.size, 3, none⟩ = some (.int .i64 0) ∧ w'.cell? ⟨w.heap.size, 4, none⟩ = some (.slice ia im ic)) (first | assumption) (first | (go_at_call 11; (with_reducible refine (HCR.out _ KD.out).mono ?_); rintro e x1 ⟨ax, cx, O, rfl, _, rx, kx, bx⟩; have s1 := keep5 s0 bx; have KX := Lib.hid (KD.out.trans (bx.mono KD.out.size)); have GX := Lib.hid (GD.out.trans bx)) | (go_at_call 11; (with_reducible refine (HCL.out _ KX.out).mono ?_); rintro e x2 ⟨ay, cy, Q, rfl, _, ry, ky, by'⟩; have s2 := keep5 s1 by'; have KY := Lib.hid (KX.out.trans (by'.mono KX.out.size)); have GY := Lib.hid (GX.out.trans (by'.mono GX.out.size)); have rx' := rx.below by') | (go_at_call 13; refine (HP4.out _ ax cx O ay cy Q KY.out rx' kx ry ky).mono ?_; rintro e w6 ⟨a6, c6, e6, rfl, rz, kz, bz⟩; have s3 := keep5 s2 bz; have K6 := Lib.hid (KY.out.trans (bz.mono KY.out.size)); have G6 := Lib.hid (GY.out.trans (bz.mono GY.out.size)); have R6 := Lib.hid rz; have KE6 := Lib.hid kz))
  rename_i hHeld
  clear hHeld s0 s1 s2 s3 rx kx bx rx' ry ky by' rz kz bz KD GD KX GX KY GY p0 p1 p2 p3 p4
  have HI6 := Lib.hid (HI5.out.below G6.out HI5.out.lt)
  have R3 := Lib.hid (R3.out.below G6.out)
  have R4 := Lib.hid (R4.out.below G6.out)
  have R5 := Lib.hid (R5.out.below G6.out)
  clear HI5 G6 K5
  clear HI6
  go_upto_region 14 with (first | (go_at_call 11; (with_reducible refine (HCL.out _ K6.out).mono ?_); rintro e x1 ⟨ax, cx, O, rfl, _, rx, kx, bx⟩; have KX := Lib.hid (K6.out.trans (bx.mono K6.out.size)); have GX := Lib.hid bx; have HV1 := Lib.hid (HVL.out x1 ax cx O rx kx); clear bx rx kx) | (go_at_call 19; (with_reducible refine HV1.out.mono ?_); rintro e x2 ⟨av, cv, ev, rfl, rv, kv, bv⟩; have KV := Lib.hid (KX.out.trans (bv.mono KX.out.size)); have GV := Lib.hid (GX.out.trans (bv.mono GX.out.size)); have RV := Lib.hid rv; have KEV := Lib.hid kv; clear bv rv kv) | (go_at_call 11; (with_reducible refine (HCR.out _ KV.out).mono ?_); rintro e x3 ⟨ay, cy, Q, rfl, _, ry, ky, by'⟩; have KY := Lib.hid (KV.out.trans (by'.mono KV.out.size)); have GY := Lib.hid (GV.out.trans (by'.mono GV.out.size)); have RV2 := Lib.hid (RV.out.below by'); have HV2 := Lib.hid (HVR.out x3 ay cy Q ry ky); clear by' ry ky) | (go_at_call 19; (with_reducible refine HV2.out.mono ?_); rintro e x4 ⟨aw, nw, cw, rfl, bw⟩; have KW := Lib.hid (KY.out.trans (bw.mono KY.out.size)); have GW := Lib.hid (GY.out.trans (bw.mono GY.out.size)); have RV3 := Lib.hid (RV2.out.below bw); clear bw))
  have R3 := Lib.hid (R3.out.below GW.out)
  have R4 := Lib.hid (R4.out.below GW.out)
  have R5 := Lib.hid (R5.out.below GW.out)
  have R6 := Lib.hid (R6.out.below GW.out)
  clear hw1 hw2 HCL HCR HVL HVR HV1 HV2 RV RV2 KX KV KY GX GV GY GW HP1 HP2 HP3 HP4 K6
  have HC1 : Hid (Calls Tryz.prog 11 #[.slice a3 N1 c3] x4 (CopyOwn e3 x4)) := Lib.hid (copiedO_any a3 N1 c3 e3 x4 R3.out)
  have HC2 : Hid (∀ W, Below x4.heap.size x4 W → Calls Tryz.prog 11 #[.slice a4 N2 c4] W (CopyOwn e4 W)) := Lib.hid fun W h => copiedO_any a4 N2 c4 e4 W (R4.out.below h)
  go_upto_region 15 with (first | (go_at_call 11; (with_reducible refine HC1.out.mono ?_); rintro e y1 ⟨v1, O1, rfl, o1, k1, z1, b1⟩; have OW1 := Lib.hid o1; have OK1 := Lib.hid k1; have KZ1 := Lib.hid z1; have BZ1 := Lib.hid b1; clear o1 k1 z1 b1) | (go_at_call 11; (with_reducible refine (HC2.out _ BZ1.out).mono ?_); rintro e y2 ⟨v2, O2, rfl, o2, k2, z2, b2⟩; have OW2 := Lib.hid o2; have OK2 := Lib.hid k2; have KZ2 := Lib.hid z2; have BZ2 := Lib.hid b2; have OW1' := Lib.hid (OW1.out.below b2); have OK1' : Hid (∀ e ∈ O1, ErOwn x4.heap.size y2 e) := Lib.hid (fun e he => (OK1.out e he).below b2); have BZ3 := Lib.hid (BZ1.out.trans (b2.mono BZ1.out.size)); have HLL : Hid (O1.length + O2.length ≤ 4398046511104) := Lib.hid (by have e1 := congrArg List.length (KZ1.out.trans KE3.out); have e2 := congrArg List.length (KZ2.out.trans KE4.out); have := HL12.out; rw [List.length_map] at e1 e2; omega); clear o2 k2 z2 b2) | (at_builtin; refine wpList_append_own2 rfl (.tmp 128) (.tmp 130) rfl x4.heap.size v1 O1 rfl OW1'.out y1.heap.size v2 O2 rfl OW2.out HLL.out BZ3.out.size ?_; intro v3 y3 o3 g3; obtain ⟨a3, c3, hv3, hs3, hr3⟩ := o3.row (fun e he => (by rcases List.mem_append.1 he with h | h; exact ((OK1'.out e h).grown OW1'.out g3).ok; exact ((OK2.out e h).grown OW1'.out g3).ok)) (by rw [List.length_append]; exact HLL.out); have HV3 := Lib.hid (HVP.out y3 a3 _ c3 (O1 ++ O2) hr3 (by rw [List.map_append, KZ1.out, KZ2.out, KE3.out, KE4.out])); have BZ4 := Lib.hid (BZ3.out.grown g3 BZ3.out.size (fun b hb => (OW1'.out.lt b hb).1)); obtain ⟨n3, hn3⟩ : ∃ n3, n3 = (O1 ++ O2).length := ⟨_, rfl⟩; rw [← hn3] at HV3 hv3; subst hv3; clear hs3 hr3 o3 g3 hn3) | (go_at_call 19; (with_reducible refine HV3.out.mono ?_); rintro e x5 ⟨aP, cP, eP, rfl, r4, k4, b4⟩; have RP := Lib.hid r4; have KEP := Lib.hid k4; have GP := Lib.hid (BZ4.out.trans (b4.mono BZ4.out.size)); have KP := Lib.hid (KW.out.trans ((BZ4.out.trans (b4.mono BZ4.out.size)).mono KW.out.size)); clear r4 k4 b4))
  clear HC1 HC2 OW1 OK1 KZ1 BZ1 OW2 OK2 KZ2 BZ2 OW1' OK1' BZ3 BZ4 HLL HV3
  have RV4 := Lib.hid (RV3.out.below GP.out)
  have R5 := Lib.hid (R5.out.below GP.out)
  have R6 := Lib.hid (R6.out.below GP.out)
  clear RV3 R3 R4 KE3 KE4 GP KW
  have HC1 : Hid (Calls Tryz.prog 11 #[.slice av NL cv] x5 (CopyOwn ev x5)) := Lib.hid (copiedO_any av NL cv ev x5 RV4.out)
  have HC2 : Hid (∀ W, Below x5.heap.size x5 W → Calls Tryz.prog 11 #[.slice a6 N4 c6] W (CopyOwn e6 W)) := Lib.hid fun W h => copiedO_any a6 N4 c6 e6 W (R6.out.below h)
  go_upto_region 16 with (first | (go_at_call 11; (with_reducible refine HC1.out.mono ?_); rintro e y1 ⟨v1, O1, rfl, o1, k1, z1, b1⟩; have OW1 := Lib.hid o1; have OK1 := Lib.hid k1; have KZ1 := Lib.hid z1; have BZ1 := Lib.hid b1; clear o1 k1 z1 b1) | (go_at_call 11; (with_reducible refine (HC2.out _ BZ1.out).mono ?_); rintro e y2 ⟨v2, O2, rfl, o2, k2, z2, b2⟩; have OW2 := Lib.hid o2; have OK2 := Lib.hid k2; have KZ2 := Lib.hid z2; have BZ2 := Lib.hid b2; have OW1' := Lib.hid (OW1.out.below b2); have OK1' : Hid (∀ e ∈ O1, ErOwn x5.heap.size y2 e) := Lib.hid (fun e he => (OK1.out e he).below b2); have BZ3 := Lib.hid (BZ1.out.trans (b2.mono BZ1.out.size)); have HLL : Hid (O1.length + O2.length ≤ 4398046511104) := Lib.hid (by have e1 := congrArg List.length (KZ1.out.trans KEV.out); have e2 := congrArg List.length (KZ2.out.trans KE6.out); have := HL34.out; rw [List.length_map] at e1 e2; omega); clear o2 k2 z2 b2) | (at_builtin; refine wpList_append_own2 rfl (.tmp 137) (.tmp 139) rfl x5.heap.size v1 O1 rfl OW1'.out y1.heap.size v2 O2 rfl OW2.out HLL.out BZ3.out.size ?_; intro v3 y3 o3 g3; obtain ⟨a3, c3, hv3, hs3, hr3⟩ := o3.row (fun e he => (by rcases List.mem_append.1 he with h | h; exact ((OK1'.out e h).grown OW1'.out g3).ok; exact ((OK2.out e h).grown OW1'.out g3).ok)) (by rw [List.length_append]; exact HLL.out); have HV3 := Lib.hid (HVW.out y3 a3 _ c3 (O1 ++ O2) hr3 (by rw [List.map_append, KZ1.out, KZ2.out, KEV.out, KE6.out])); have BZ4 := Lib.hid (BZ3.out.grown g3 BZ3.out.size (fun b hb => (OW1'.out.lt b hb).1)); obtain ⟨n3, hn3⟩ : ∃ n3, n3 = (O1 ++ O2).length := ⟨_, rfl⟩; rw [← hn3] at HV3 hv3; subst hv3; clear hs3 hr3 o3 g3 hn3) | (go_at_call 19; (with_reducible refine HV3.out.mono ?_); rintro e x6 ⟨aQ, cQ, eQ, rfl, r4, k4, b4⟩; have RQ := Lib.hid r4; have KEQ := Lib.hid k4; have GQ := Lib.hid (BZ4.out.trans (b4.mono BZ4.out.size)); have KQ := Lib.hid (KP.out.trans ((BZ4.out.trans (b4.mono BZ4.out.size)).mono KP.out.size)); clear r4 k4 b4))
  clear HC1 HC2 OW1 OK1 KZ1 BZ1 OW2 OK2 KZ2 BZ2 OW1' OK1' BZ3 BZ4 HLL HV3
  have RV5 := Lib.hid (RV4.out.below GQ.out)
  have R5 := Lib.hid (R5.out.below GQ.out)
  have RP := Lib.hid (RP.out.below GQ.out)
  clear RV4 R6 KE6 GQ KP
  have HS1 : Hid (Calls Tryz.prog 16 #[.slice aP NL cP, .slice av NL cv] x6 fun e w' => e = .returned (.bool true) ∧ ∃ m, w' = x6.drewN m) := Lib.hid (same_yes aP av NL cP cv eP ev _ RP.out RV5.out (by
    have e1 := congrArg (List.map clK) KEP.out
    have e2 := congrArg (List.map clK) KEV.out
    rw [List.map_map] at e1 e2
    exact e1.trans e2.symm))
  have HS2 : Hid (∀ n, Calls Tryz.prog 16 #[.slice aQ N3 cQ, .slice a5 N3 c5] (x6.drewN n) fun e w' => e = .returned (.bool true) ∧ ∃ m, w' = (x6.drewN n).drewN m) := Lib.hid fun n => same_yes aQ a5 N3 cQ c5 eQ e5 _ (RQ.out.below ((Below.refl _ _).drewN' n)) (R5.out.below ((Below.refl _ _).drewN' n)) (by
    have e1 := congrArg (List.map clK) KEQ.out
    have e2 := congrArg (List.map clK) KE5.out
    rw [List.map_map] at e1 e2
    exact e1.trans e2.symm)
  go_wp2_with (first | (go_at_call 16; (with_reducible refine HS1.out.mono ?_); rintro e y9 ⟨rfl, m9, rfl⟩) | (go_at_call 16; (with_reducible refine (HS2.out _).mono ?_); rintro e y9 ⟨rfl, m8, rfl⟩))
  go_ret
  exact ⟨rfl, KQ.out.drewN' (m9 + m8)⟩

theorem law_sets (a b : Option Addr) (na ca nb cb : Nat) (la lb : List Er) (m : Mt) (w : World) (ha : ERow w a na la) (hsa : SlK a na ca) (hb : ERow w b nb lb) (hsb : SlK b nb cb) (hM : MtOk w m)
    (hfa : FitK m.on m.ns m.im (la.map Er.key)) (hfb : FitK m.on m.ns m.im (lb.map Er.key)) (hn : na + nb ≤ 4398046511000) (hi : (m.im : Int) ≤ 9223372036854775807) (hT : Tab w.heap.size w) :
    Calls Tryz.prog 6 #[.slice a na ca, .slice b nb cb, m.v] w fun e w' => e = .returned (.bool true) ∧ Below w.heap.size w w' := by
  cases hva : vecK (la.map Er.key) with
  | none => exact sets_bad a b na ca nb cb la lb m w ha hsa hb hsb hM hfa hfb hn hi hT (.inl hva)
  | some ml =>
    cases hvb : vecK (lb.map Er.key) with
    | none => exact sets_bad a b na ca nb cb la lb m w ha hsa hb hsb hM hfa hfb hn hi hT (.inr hvb)
    | some mr => exact sets_ok a b na ca nb cb la lb m w ha hsa hb hsb hM hfa hfb hn hi hT ml mr hva hvb
end Go.Proofs.YtmmfjknnbkcniaaGreatDoor
