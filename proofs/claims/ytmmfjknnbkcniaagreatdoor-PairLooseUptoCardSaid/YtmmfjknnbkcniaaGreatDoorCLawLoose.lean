/- PairLoose: the law. (Printed by tools/genloose.py.) -/
import Derived.Test.YtmmfjknnbkcniaaGreatDoorCLooseP
import Derived.Deep.Cut
namespace Go.Proofs.YtmmfjknnbkcniaaGreatDoor
open Go.Fl Go.Rel Go.RowKit Go.Sort
set_option linter.unusedSimpArgs false
set_option linter.unusedVariables false

/-- Where the two sides are sound: and answers just the elements that meet. -/
def NearRet (V : List Ek) (w : World) (e : Ending) (w' : World) : Prop := ∃ a cap es, e = .returned (.tuple #[.slice a es.length cap, .int .i64 0]) ∧ ERow w' a es.length es ∧ es.map Er.key = V ∧ Below w.heap.size w w'

set_option maxHeartbeats 16000000 in
set_option maxRecDepth 100000 in
theorem loose_skip (u : ByteArray) (a b : Option Addr) (na ca nb cb : Nat) (la lb : List Er) (m : Mt) (yes : Bool) (w : World) (ha : ERow w a na la) (hsa : SlK a na ca) (hb : ERow w b nb lb) (hsb : SlK b nb cb) (hM : MtOk w m)
    (hfa : FitK m.on m.ns m.im (la.map Er.key)) (hfb : FitK m.on m.ns m.im (lb.map Er.key)) (hn : na + nb ≤ 4398046511000) (hi : (m.im : Int) ≤ 9223372036854775807) (hT : Tab w.heap.size w) (hsk : (u.toList == [111, 114]) = true ∨ (u.toList == [117, 110, 108, 101, 115, 115]) = true ∨ m.card = 2) :
    Calls Tryz.prog 8 #[bothV u (.slice a na ca) (.slice b nb cb) m yes] w fun e w' => e = .returned (.bool true) ∧ Below w.heap.size w w' := by
  have HAW : Hid (∀ W, Below w.heap.size w W → Calls Tryz.prog 9 #[] W fun e w' => e = .returned (.bool true) ∧ Below W.heap.size W w') := Lib.hid fun W h => awake_any W (fun w' h2 => hT w' (h.trans (h2.mono h.size)))
  have HGR : Hid (∀ W, Calls Tryz.prog 10 #[.slice a na ca, .slice b nb cb, m.v] W fun e w' => (∃ d, e = .returned (.bool d)) ∧ Below W.heap.size W w') := Lib.hid fun W => great_any a b na ca nb cb m W hi hn
  have HCL : Hid (∀ W, Below w.heap.size w W → Calls Tryz.prog 11 #[.slice a na ca] W (CopyOf la W)) := Lib.hid fun W h => copied21_any a na ca la W (ha.below h)
  have HCR : Hid (∀ W, Below w.heap.size w W → Calls Tryz.prog 11 #[.slice b nb cb] W (CopyOf lb W)) := Lib.hid fun W h => copied21_any b nb cb lb W (hb.below h)
  have hlen : (la.map Er.key).length + (lb.map Er.key).length ≤ 4398046511000 := by rw [List.length_map, List.length_map, ha.1, hb.1]; exact hn
  obtain ⟨given, on, ma, mn, mc, card, ia, im, ic, ns, inc⟩ := m
  dsimp only [Mt.v, bothV] at HGR ⊢
  dsimp only at hsk
  obtain ⟨W0, hW0⟩ : ∃ W0, W0 = w.alloc (.cells #[.string u, .slice a na ca, .slice b nb cb, .bool given, .bool on, .slice ma mn mc, .int .i64 card, .slice ia im ic, .bool yes] 27) := ⟨_, rfl⟩
  have HB0 : Hid (Below w.heap.size w W0) := Lib.hid (by rw [hW0]; exact (Below.refl _ _).alloc (Nat.le_refl _) _)
  have HX0 : Hid (W0.cell? ⟨w.heap.size, 0, none⟩ = some (.string u) ∧ W0.cell? ⟨w.heap.size, 1, none⟩ = some (.slice a na ca) ∧ W0.cell? ⟨w.heap.size, 2, none⟩ = some (.slice b nb cb) ∧ W0.cell? ⟨w.heap.size, 3, none⟩ = some (.bool given) ∧ W0.cell? ⟨w.heap.size, 4, none⟩ = some (.bool on) ∧ W0.cell? ⟨w.heap.size, 5, none⟩ = some (.slice ma mn mc) ∧ W0.cell? ⟨w.heap.size, 6, none⟩ = some (.int .i64 card) ∧ W0.cell? ⟨w.heap.size, 7, none⟩ = some (.slice ia im ic) ∧ W0.cell? ⟨w.heap.size, 8, none⟩ = some (.bool yes)) := Lib.hid (by
    have hi0 : Bk.Is W0 w.heap.size #[.string u, .slice a na ca, .slice b nb cb, .bool given, .bool on, .slice ma mn mc, .int .i64 card, .slice ia im ic, .bool yes] 27 := by rw [hW0]; exact Bk.Is.made w _ _
    have q0 := hi0.cell 0
    have q1 := hi0.cell 1
    have q2 := hi0.cell 2
    have q3 := hi0.cell 3
    have q4 := hi0.cell 4
    have q5 := hi0.cell 5
    have q6 := hi0.cell 6
    have q7 := hi0.cell 7
    have q8 := hi0.cell 8
    simp at q0 q1 q2 q3 q4 q5 q6 q7 q8
    exact ⟨q0, q1, q2, q3, q4, q5, q6, q7, q8⟩)
  have HW0 := Lib.hid hW0
  clear ha hsa hb hsb hM hfa hfb hn hi hT hW0 hlen
  cases ho : (u.toList == [111, 114])
  · cases hu : (u.toList == [117, 110, 108, 101, 115, 115])
    · obtain rfl : card = 2 := by
        rcases hsk with h | h | h
        · rw [ho] at h; cases h
        · rw [hu] at h; cases h
        · exact h
      go_enter Tryz.func8, Tryz.ntmps8
      go_upto_region 1 with fail
      rw [← HW0.out]
      go_wp2_with fail
      refine (HAW.out _ HB0.out).mono ?_
      rintro e w1 ⟨rfl, b1⟩
      have K1 := Lib.hid (HB0.out.trans (b1.mono HB0.out.size))
      have X1 := Lib.hid (keep9 HX0.out b1)
      clear b1 HX0 HB0
      obtain ⟨x0, x1, x2, x3, x4, x5, x6, x7, x8⟩ := X1.out
      go_wp2_with fail
      refine (HGR.out _).mono ?_
      rintro e w2 ⟨⟨d, rfl⟩, b2⟩
      have K2 := Lib.hid (K1.out.trans (b2.mono K1.out.size))
      have X2 := Lib.hid (keep9 X1.out b2)
      clear b2 K1 X1 x0 x1 x2 x3 x4 x5 x6 x7 x8
      obtain ⟨x0, x1, x2, x3, x4, x5, x6, x7, x8⟩ := X2.out
      cases d
      · go_wp2_with fail
        go_ret
        exact ⟨rfl, K2.out⟩
      · go_wp2_with fail
        go_ret
        exact ⟨rfl, K2.out⟩
    · clear hsk
      go_enter Tryz.func8, Tryz.ntmps8
      go_upto_region 1 with fail
      rw [← HW0.out]
      go_wp2_with fail
      refine (HAW.out _ HB0.out).mono ?_
      rintro e w1 ⟨rfl, b1⟩
      have K1 := Lib.hid (HB0.out.trans (b1.mono HB0.out.size))
      have X1 := Lib.hid (keep9 HX0.out b1)
      clear b1 HX0 HB0
      obtain ⟨x0, x1, x2, x3, x4, x5, x6, x7, x8⟩ := X1.out
      go_wp2_with fail
      refine (HGR.out _).mono ?_
      rintro e w2 ⟨⟨d, rfl⟩, b2⟩
      have K2 := Lib.hid (K1.out.trans (b2.mono K1.out.size))
      have X2 := Lib.hid (keep9 X1.out b2)
      clear b2 K1 X1 x0 x1 x2 x3 x4 x5 x6 x7 x8
      obtain ⟨x0, x1, x2, x3, x4, x5, x6, x7, x8⟩ := X2.out
      cases d
      · go_wp2_with fail
        go_ret
        exact ⟨rfl, K2.out⟩
      · go_wp2_with fail
        go_ret
        exact ⟨rfl, K2.out⟩
  · clear hsk
    go_enter Tryz.func8, Tryz.ntmps8
    go_upto_region 1 with fail
    rw [← HW0.out]
    go_wp2_with fail
    refine (HAW.out _ HB0.out).mono ?_
    rintro e w1 ⟨rfl, b1⟩
    have K1 := Lib.hid (HB0.out.trans (b1.mono HB0.out.size))
    have X1 := Lib.hid (keep9 HX0.out b1)
    clear b1 HX0 HB0
    obtain ⟨x0, x1, x2, x3, x4, x5, x6, x7, x8⟩ := X1.out
    go_wp2_with fail
    refine (HGR.out _).mono ?_
    rintro e w2 ⟨⟨d, rfl⟩, b2⟩
    have K2 := Lib.hid (K1.out.trans (b2.mono K1.out.size))
    have X2 := Lib.hid (keep9 X1.out b2)
    clear b2 K1 X1 x0 x1 x2 x3 x4 x5 x6 x7 x8
    obtain ⟨x0, x1, x2, x3, x4, x5, x6, x7, x8⟩ := X2.out
    cases d
    · go_wp2_with fail
      go_ret
      exact ⟨rfl, K2.out⟩
    · go_wp2_with fail
      go_ret
      exact ⟨rfl, K2.out⟩

set_option maxHeartbeats 16000000 in
set_option maxRecDepth 100000 in
theorem loose_bad (u : ByteArray) (a b : Option Addr) (na ca nb cb : Nat) (la lb : List Er) (m : Mt) (yes : Bool) (w : World) (ha : ERow w a na la) (hsa : SlK a na ca) (hb : ERow w b nb lb) (hsb : SlK b nb cb) (hM : MtOk w m)
    (hfa : FitK m.on m.ns m.im (la.map Er.key)) (hfb : FitK m.on m.ns m.im (lb.map Er.key)) (hn : na + nb ≤ 4398046511000) (hi : (m.im : Int) ≤ 9223372036854775807) (hT : Tab w.heap.size w) (ho : (u.toList == [111, 114]) = false) (hu : (u.toList == [117, 110, 108, 101, 115, 115]) = false) (hc0 : ¬ m.card = 2) (hbad : vecK (la.map Er.key) = none ∨ vecK (lb.map Er.key) = none) :
    Calls Tryz.prog 8 #[bothV u (.slice a na ca) (.slice b nb cb) m yes] w fun e w' => e = .returned (.bool true) ∧ Below w.heap.size w w' := by
  have HAW : Hid (∀ W, Below w.heap.size w W → Calls Tryz.prog 9 #[] W fun e w' => e = .returned (.bool true) ∧ Below W.heap.size W w') := Lib.hid fun W h => awake_any W (fun w' h2 => hT w' (h.trans (h2.mono h.size)))
  have HGR : Hid (∀ W, Calls Tryz.prog 10 #[.slice a na ca, .slice b nb cb, m.v] W fun e w' => (∃ d, e = .returned (.bool d)) ∧ Below W.heap.size W w') := Lib.hid fun W => great_any a b na ca nb cb m W hi hn
  have HCL : Hid (∀ W, Below w.heap.size w W → Calls Tryz.prog 11 #[.slice a na ca] W (CopyOf la W)) := Lib.hid fun W h => copied21_any a na ca la W (ha.below h)
  have HCR : Hid (∀ W, Below w.heap.size w W → Calls Tryz.prog 11 #[.slice b nb cb] W (CopyOf lb W)) := Lib.hid fun W h => copied21_any b nb cb lb W (hb.below h)
  have hlen : (la.map Er.key).length + (lb.map Er.key).length ≤ 4398046511000 := by rw [List.length_map, List.length_map, ha.1, hb.1]; exact hn
  have tand : (⟨#[97, 110, 100]⟩ : ByteArray).toList = [97, 110, 100] := by rw [ByteArray.toList_eq]
  have hM0 : ∀ W, Below w.heap.size w W → MtOk W ⟨m.given, m.on, m.la, m.ln, m.lc, 0, none, 0, 0, m.ns, []⟩ := fun W h => ⟨(hM.below h).1, ⟨rfl, (show (0 : Nat) ≤ 9223372036854775807 by omega), fun s hs => absurd hs List.not_mem_nil, fun h => absurd (show (0 : Nat) < 0 from h) (by omega)⟩⟩
  have hf0a : FitK m.on m.ns 0 (la.map Er.key) := fun k hk => ⟨(hfa k hk).1, (hfa k hk).2.1, by have := (hfa k hk).2.2; omega⟩
  have hf0b : FitK m.on m.ns 0 (lb.map Er.key) := fun k hk => ⟨(hfb k hk).1, (hfb k hk).2.1, by have := (hfb k hk).2.2; omega⟩
  have HV : Hid (∀ (ka kb : List Ek) (W : World) (x : Option Addr) (cx : Nat) (O : List Er) (z : Option Addr) (cz : Nat) (Q : List Er), Below w.heap.size w W → FitK m.on m.ns m.im ka → FitK m.on m.ns m.im kb → ka.length + kb.length ≤ 4398046511000 → ERow W x O.length O → O.map Er.key = ka → ERow W z Q.length Q → Q.map Er.key = kb → Calls Tryz.prog 13 #[.string u, .slice x O.length cx, .slice z Q.length cz, m.v, .bool yes] W (AnsN (vecsE u.toList m.on m.ns m.inc m.card yes ka kb) (vecsV u.toList m.on m.ns m.inc m.card yes ka kb).length (vecsV u.toList m.on m.ns m.inc m.card yes ka kb) W)) := Lib.hid fun ka kb W x cx O z cz Q h f1 f2 hl ho hk hq hk2 => by
    subst hk hk2
    rw [List.length_map, List.length_map] at hl
    exact (vectors_any u x z O.length cx Q.length cz O Q m yes W ho hq (hM.below h) f1 f2 (fun w' h2 => hT w' (h.trans (h2.mono h.size))) hl).mono fun e w' h => h.n
  have HP1 : Hid (∀ W x cx (O : List Er) z cz (Q : List Er), Below w.heap.size w W → ERow W x O.length O → O.map Er.key = la.map Er.key → ERow W z Q.length Q → Q.map Er.key = lb.map Er.key → Calls Tryz.prog 13 #[.string ⟨#[97, 110, 100]⟩, .slice x O.length cx, .slice z Q.length cz, Mt.v ⟨m.given, m.on, m.la, m.ln, m.lc, 0, none, 0, 0, m.ns, []⟩, .bool false] W (AnsN 5 0 [] W)) := Lib.hid fun W x cx O z cz Q h ho hk hq hk2 => by
    have h1 := vectors_any ⟨#[97, 110, 100]⟩ x z O.length cx Q.length cz O Q ⟨m.given, m.on, m.la, m.ln, m.lc, 0, none, 0, 0, m.ns, []⟩ false W ho hq (hM0 W h) (hf0a.key hk) (hf0b.key hk2) (fun w' h2 => hT w' (h.trans (h2.mono h.size))) (by have e1 := congrArg List.length hk; have e2 := congrArg List.length hk2; rw [List.length_map] at e1 e2; omega)
    rw [(vecs_five (by rw [hk, hk2]; exact hbad)).1, (vecs_five (by rw [hk, hk2]; exact hbad)).2] at h1
    exact h1.mono fun e w' h => h.n
  have HP2 : Hid (∀ W x cx (O : List Er) z cz (Q : List Er), Below w.heap.size w W → ERow W x O.length O → O.map Er.key = la.map Er.key → ERow W z Q.length Q → Q.map Er.key = lb.map Er.key → Calls Tryz.prog 13 #[.string u, .slice x O.length cx, .slice z Q.length cz, m.v, .bool yes] W (AnsN 5 0 [] W)) := Lib.hid fun W x cx O z cz Q h ho hk hq hk2 => by
    have h1 := HV.out _ _ W x cx O z cz Q h hfa hfb hlen ho hk hq hk2
    rw [(vecs_five hbad).1, (vecs_five hbad).2] at h1
    exact h1
  obtain ⟨given, on, ma, mn, mc, card, ia, im, ic, ns, inc⟩ := m
  dsimp only [Mt.v, bothV] at HGR HP1 HP2 ⊢
  dsimp only at hc0
  have hcb : (card == 2) = false := by simpa using hc0
  obtain ⟨W0, hW0⟩ : ∃ W0, W0 = w.alloc (.cells #[.string u, .slice a na ca, .slice b nb cb, .bool given, .bool on, .slice ma mn mc, .int .i64 card, .slice ia im ic, .bool yes] 27) := ⟨_, rfl⟩
  have HB0 : Hid (Below w.heap.size w W0) := Lib.hid (by rw [hW0]; exact (Below.refl _ _).alloc (Nat.le_refl _) _)
  have HX0 : Hid (W0.cell? ⟨w.heap.size, 0, none⟩ = some (.string u) ∧ W0.cell? ⟨w.heap.size, 1, none⟩ = some (.slice a na ca) ∧ W0.cell? ⟨w.heap.size, 2, none⟩ = some (.slice b nb cb) ∧ W0.cell? ⟨w.heap.size, 3, none⟩ = some (.bool given) ∧ W0.cell? ⟨w.heap.size, 4, none⟩ = some (.bool on) ∧ W0.cell? ⟨w.heap.size, 5, none⟩ = some (.slice ma mn mc) ∧ W0.cell? ⟨w.heap.size, 6, none⟩ = some (.int .i64 card) ∧ W0.cell? ⟨w.heap.size, 7, none⟩ = some (.slice ia im ic) ∧ W0.cell? ⟨w.heap.size, 8, none⟩ = some (.bool yes)) := Lib.hid (by
    have hi0 : Bk.Is W0 w.heap.size #[.string u, .slice a na ca, .slice b nb cb, .bool given, .bool on, .slice ma mn mc, .int .i64 card, .slice ia im ic, .bool yes] 27 := by rw [hW0]; exact Bk.Is.made w _ _
    have q0 := hi0.cell 0
    have q1 := hi0.cell 1
    have q2 := hi0.cell 2
    have q3 := hi0.cell 3
    have q4 := hi0.cell 4
    have q5 := hi0.cell 5
    have q6 := hi0.cell 6
    have q7 := hi0.cell 7
    have q8 := hi0.cell 8
    simp at q0 q1 q2 q3 q4 q5 q6 q7 q8
    exact ⟨q0, q1, q2, q3, q4, q5, q6, q7, q8⟩)
  have HW0 := Lib.hid hW0
  clear ha hsa hb hsb hM hfa hfb hn hi hT hW0 hlen tand hM0 hf0a hf0b HV hbad hc0
  go_enter Tryz.func8, Tryz.ntmps8
  go_upto_region 1 with fail
  rw [← HW0.out]
  go_wp2_with fail
  refine (HAW.out _ HB0.out).mono ?_
  rintro e w1 ⟨rfl, b1⟩
  have K1 := Lib.hid (HB0.out.trans (b1.mono HB0.out.size))
  have X1 := Lib.hid (keep9 HX0.out b1)
  clear b1 HX0 HB0
  obtain ⟨x0, x1, x2, x3, x4, x5, x6, x7, x8⟩ := X1.out
  go_wp2_with fail
  refine (HGR.out _).mono ?_
  rintro e w2 ⟨⟨d, rfl⟩, b2⟩
  have K2 := Lib.hid (K1.out.trans (b2.mono K1.out.size))
  have X2 := Lib.hid (keep9 X1.out b2)
  clear b2 K1 X1 x0 x1 x2 x3 x4 x5 x6 x7 x8
  obtain ⟨x0, x1, x2, x3, x4, x5, x6, x7, x8⟩ := X2.out
  cases d
  · go_wp2_with fail
    clear x0 x1 x2 x3 x4 x5 x6 x7 x8
    have s0 : w2.drew.cell? ⟨w.heap.size, 0, none⟩ = some (.string u) ∧ w2.drew.cell? ⟨w.heap.size, 1, none⟩ = some (.slice a na ca) ∧ w2.drew.cell? ⟨w.heap.size, 2, none⟩ = some (.slice b nb cb) ∧ w2.drew.cell? ⟨w.heap.size, 3, none⟩ = some (.bool given) ∧ w2.drew.cell? ⟨w.heap.size, 4, none⟩ = some (.bool on) ∧ w2.drew.cell? ⟨w.heap.size, 5, none⟩ = some (.slice ma mn mc) ∧ w2.drew.cell? ⟨w.heap.size, 6, none⟩ = some (.int .i64 card) ∧ w2.drew.cell? ⟨w.heap.size, 7, none⟩ = some (.slice ia im ic) ∧ w2.drew.cell? ⟨w.heap.size, 8, none⟩ = some (.bool yes) := X2.out
    have KD : Hid (Below w.heap.size w w2.drew) := Lib.hid (K2.out.drewN' 1)
    have GD : Hid (Below w2.heap.size w2 w2.drew) := Lib.hid ((Below.refl _ w2).drewN' 1)
    go_region_held3 (fun w' => w'.cell? ⟨w.heap.size, 0, none⟩ = some (.string u) ∧ w'.cell? ⟨w.heap.size, 1, none⟩ = some (.slice a na ca) ∧ w'.cell? ⟨w.heap.size, 2, none⟩ = some (.slice b nb cb) ∧ w'.cell? ⟨w.heap.size, 3, none⟩ = some (.bool given) ∧ w'.cell? ⟨w.heap.size, 4, none⟩ = some (.bool on) ∧ w'.cell? ⟨w.heap.size, 5, none⟩ = some (.slice ma mn mc) ∧ w'.cell? ⟨w.heap.size, 6, none⟩ = some (.int .i64 card) ∧ w'.cell? ⟨w.heap.size, 7, none⟩ = some (.slice ia im ic) ∧ w'.cell? ⟨w.heap.size, 8, none⟩ = some (.bool yes)) (first | assumption) (first | (go_at_call 11; (with_reducible refine (HCL.out _ KD.out).mono ?_); rintro e x1 ⟨ax, cx, O, rfl, _, rx, kx, bx⟩; have s1 := keep9 s0 bx; have KX := Lib.hid (KD.out.trans (bx.mono KD.out.size)); have GX := Lib.hid (GD.out.trans bx)) | (go_at_call 11; (with_reducible refine (HCR.out _ KX.out).mono ?_); rintro e x2 ⟨ay, cy, Q, rfl, _, ry, ky, by'⟩; have s2 := keep9 s1 by'; have KY := Lib.hid (KX.out.trans (by'.mono KX.out.size)); have GY := Lib.hid (GX.out.trans (by'.mono GX.out.size)); have rx' := rx.below by') | (go_at_call 13; refine (HP1.out _ ax cx O ay cy Q KY.out rx' kx ry ky).mono ?_; rintro e w3 ⟨a3, c3, e3, rfl, rz, kz, bz⟩; have s3 := keep9 s2 bz; have K3 := Lib.hid (KY.out.trans (bz.mono KY.out.size)); have G3 := Lib.hid (GY.out.trans (bz.mono GY.out.size)); have R3 := Lib.hid rz; have KE3 := Lib.hid kz; have X3 := Lib.hid s3; clear rz kz))
    rename_i hHeld
    clear hHeld s0 s1 s2 s3 rx kx bx rx' ry ky by' bz KD GD KX GX KY GY
    obtain ⟨x0, x1, x2, x3, x4, x5, x6, x7, x8⟩ := X3.out
    clear R3 KE3 K2 X2
    go_wp2_with fail
    clear x0 x1 x2 x3 x4 x5 x6 x7 x8
    have s0 : w3.drew.cell? ⟨w.heap.size, 0, none⟩ = some (.string u) ∧ w3.drew.cell? ⟨w.heap.size, 1, none⟩ = some (.slice a na ca) ∧ w3.drew.cell? ⟨w.heap.size, 2, none⟩ = some (.slice b nb cb) ∧ w3.drew.cell? ⟨w.heap.size, 3, none⟩ = some (.bool given) ∧ w3.drew.cell? ⟨w.heap.size, 4, none⟩ = some (.bool on) ∧ w3.drew.cell? ⟨w.heap.size, 5, none⟩ = some (.slice ma mn mc) ∧ w3.drew.cell? ⟨w.heap.size, 6, none⟩ = some (.int .i64 card) ∧ w3.drew.cell? ⟨w.heap.size, 7, none⟩ = some (.slice ia im ic) ∧ w3.drew.cell? ⟨w.heap.size, 8, none⟩ = some (.bool yes) := X3.out
    have KD : Hid (Below w.heap.size w w3.drew) := Lib.hid (K3.out.drewN' 1)
    have GD : Hid (Below w3.heap.size w3 w3.drew) := Lib.hid ((Below.refl _ w3).drewN' 1)
    go_region_held3 (fun w' => w'.cell? ⟨w.heap.size, 0, none⟩ = some (.string u) ∧ w'.cell? ⟨w.heap.size, 1, none⟩ = some (.slice a na ca) ∧ w'.cell? ⟨w.heap.size, 2, none⟩ = some (.slice b nb cb) ∧ w'.cell? ⟨w.heap.size, 3, none⟩ = some (.bool given) ∧ w'.cell? ⟨w.heap.size, 4, none⟩ = some (.bool on) ∧ w'.cell? ⟨w.heap.size, 5, none⟩ = some (.slice ma mn mc) ∧ w'.cell? ⟨w.heap.size, 6, none⟩ = some (.int .i64 card) ∧ w'.cell? ⟨w.heap.size, 7, none⟩ = some (.slice ia im ic) ∧ w'.cell? ⟨w.heap.size, 8, none⟩ = some (.bool yes)) (first | assumption) (first | (go_at_call 11; (with_reducible refine (HCL.out _ KD.out).mono ?_); rintro e x1 ⟨ax, cx, O, rfl, _, rx, kx, bx⟩; have s1 := keep9 s0 bx; have KX := Lib.hid (KD.out.trans (bx.mono KD.out.size)); have GX := Lib.hid (GD.out.trans bx)) | (go_at_call 11; (with_reducible refine (HCR.out _ KX.out).mono ?_); rintro e x2 ⟨ay, cy, Q, rfl, _, ry, ky, by'⟩; have s2 := keep9 s1 by'; have KY := Lib.hid (KX.out.trans (by'.mono KX.out.size)); have GY := Lib.hid (GX.out.trans (by'.mono GX.out.size)); have rx' := rx.below by') | (go_at_call 13; refine (HP2.out _ ax cx O ay cy Q KY.out rx' kx ry ky).mono ?_; rintro e w4 ⟨a4, c4, e4, rfl, rz, kz, bz⟩; have s3 := keep9 s2 bz; have K4 := Lib.hid (KY.out.trans (bz.mono KY.out.size)); have G4 := Lib.hid (GY.out.trans (bz.mono GY.out.size)); have R4 := Lib.hid rz; have KE4 := Lib.hid kz; have X4 := Lib.hid s3; clear rz kz))
    rename_i hHeld
    clear hHeld s0 s1 s2 s3 rx kx bx rx' ry ky by' bz KD GD KX GX KY GY
    go_wp2_with fail
    go_ret
    exact ⟨rfl, K4.out⟩
  · go_wp2_with fail
    go_ret
    exact ⟨rfl, K2.out⟩

set_option maxHeartbeats 16000000 in
set_option maxRecDepth 100000 in
theorem loose_ok (u : ByteArray) (a b : Option Addr) (na ca nb cb : Nat) (la lb : List Er) (m : Mt) (yes : Bool) (w : World) (ha : ERow w a na la) (hsa : SlK a na ca) (hb : ERow w b nb lb) (hsb : SlK b nb cb) (hM : MtOk w m)
    (hfa : FitK m.on m.ns m.im (la.map Er.key)) (hfb : FitK m.on m.ns m.im (lb.map Er.key)) (hn : na + nb ≤ 4398046511000) (hi : (m.im : Int) ≤ 9223372036854775807) (hT : Tab w.heap.size w) (ho : (u.toList == [111, 114]) = false) (hu : (u.toList == [117, 110, 108, 101, 115, 115]) = false) (hc0 : ¬ m.card = 2) (ml mr : List Ek) (hva : vecK (la.map Er.key) = some ml) (hvb : vecK (lb.map Er.key) = some mr) :
    Calls Tryz.prog 8 #[bothV u (.slice a na ca) (.slice b nb cb) m yes] w fun e w' => e = .returned (.bool true) ∧ Below w.heap.size w w' := by
  have HAW : Hid (∀ W, Below w.heap.size w W → Calls Tryz.prog 9 #[] W fun e w' => e = .returned (.bool true) ∧ Below W.heap.size W w') := Lib.hid fun W h => awake_any W (fun w' h2 => hT w' (h.trans (h2.mono h.size)))
  have HGR : Hid (∀ W, Calls Tryz.prog 10 #[.slice a na ca, .slice b nb cb, m.v] W fun e w' => (∃ d, e = .returned (.bool d)) ∧ Below W.heap.size W w') := Lib.hid fun W => great_any a b na ca nb cb m W hi hn
  have HCL : Hid (∀ W, Below w.heap.size w W → Calls Tryz.prog 11 #[.slice a na ca] W (CopyOf la W)) := Lib.hid fun W h => copied21_any a na ca la W (ha.below h)
  have HCR : Hid (∀ W, Below w.heap.size w W → Calls Tryz.prog 11 #[.slice b nb cb] W (CopyOf lb W)) := Lib.hid fun W h => copied21_any b nb cb lb W (hb.below h)
  have hlen : (la.map Er.key).length + (lb.map Er.key).length ≤ 4398046511000 := by rw [List.length_map, List.length_map, ha.1, hb.1]; exact hn
  have tand : (⟨#[97, 110, 100]⟩ : ByteArray).toList = [97, 110, 100] := by rw [ByteArray.toList_eq]
  have hM0 : ∀ W, Below w.heap.size w W → MtOk W ⟨m.given, m.on, m.la, m.ln, m.lc, 0, none, 0, 0, m.ns, []⟩ := fun W h => ⟨(hM.below h).1, ⟨rfl, (show (0 : Nat) ≤ 9223372036854775807 by omega), fun s hs => absurd hs List.not_mem_nil, fun h => absurd (show (0 : Nat) < 0 from h) (by omega)⟩⟩
  have hf0a : FitK m.on m.ns 0 (la.map Er.key) := fun k hk => ⟨(hfa k hk).1, (hfa k hk).2.1, by have := (hfa k hk).2.2; omega⟩
  have hf0b : FitK m.on m.ns 0 (lb.map Er.key) := fun k hk => ⟨(hfb k hk).1, (hfb k hk).2.1, by have := (hfb k hk).2.2; omega⟩
  have HV : Hid (∀ (ka kb : List Ek) (W : World) (x : Option Addr) (cx : Nat) (O : List Er) (z : Option Addr) (cz : Nat) (Q : List Er), Below w.heap.size w W → FitK m.on m.ns m.im ka → FitK m.on m.ns m.im kb → ka.length + kb.length ≤ 4398046511000 → ERow W x O.length O → O.map Er.key = ka → ERow W z Q.length Q → Q.map Er.key = kb → Calls Tryz.prog 13 #[.string u, .slice x O.length cx, .slice z Q.length cz, m.v, .bool yes] W (AnsN (vecsE u.toList m.on m.ns m.inc m.card yes ka kb) (vecsV u.toList m.on m.ns m.inc m.card yes ka kb).length (vecsV u.toList m.on m.ns m.inc m.card yes ka kb) W)) := Lib.hid fun ka kb W x cx O z cz Q h f1 f2 hl ho hk hq hk2 => by
    subst hk hk2
    rw [List.length_map, List.length_map] at hl
    exact (vectors_any u x z O.length cx Q.length cz O Q m yes W ho hq (hM.below h) f1 f2 (fun w' h2 => hT w' (h.trans (h2.mono h.size))) hl).mono fun e w' h => h.n
  obtain ⟨F, hF⟩ : ∃ F, F = nearK m.on m.ns ml mr := ⟨_, rfl⟩
  have hcan : Canon F := by rw [hF]; exact (canon_of hva).filter _
  have hFl : F.length ≤ la.length := by rw [hF, ← List.length_map (f := Er.key), ← vecK_len hva]; exact List.length_filter_le _ _
  have hfF : FitK m.on m.ns m.im F := fun k hk => by rw [hF] at hk; exact hfa.of hva k (List.mem_filter.1 hk).1
  have HP1 : Hid (∀ W x cx (O : List Er) z cz (Q : List Er), Below w.heap.size w W → ERow W x O.length O → O.map Er.key = la.map Er.key → ERow W z Q.length Q → Q.map Er.key = lb.map Er.key → Calls Tryz.prog 13 #[.string ⟨#[97, 110, 100]⟩, .slice x O.length cx, .slice z Q.length cz, Mt.v ⟨m.given, m.on, m.la, m.ln, m.lc, 0, none, 0, 0, m.ns, []⟩, .bool false] W (NearRet F W)) := Lib.hid fun W x cx O z cz Q h ho hk hq hk2 => by
    have h1 := vecsX_se ⟨#[97, 110, 100]⟩ x z O.length cx Q.length cz O Q ⟨m.given, m.on, m.la, m.ln, m.lc, 0, none, 0, 0, m.ns, []⟩ false W ho hq (hM0 W h) (hf0a.key hk) (hf0b.key hk2) (fun w' h2 => hT w' (h.trans (h2.mono h.size))) (by have e1 := congrArg List.length hk; have e2 := congrArg List.length hk2; rw [List.length_map] at e1 e2; omega) ml mr (by rw [hk]; exact hva) (by rw [hk2]; exact hvb) (by rw [tand]; decide) (by rw [tand]; decide) rfl
    rw [tand] at h1
    dsimp only at h1
    rw [setL_and, ← hF, (set_canon hcan).1, (set_canon hcan).2] at h1
    exact h1.mono fun e w' ⟨a, cap, es, g1, g2, g3, g4, g5, g6⟩ => ⟨a, cap, es, g1, g3, g4, g6⟩
  obtain ⟨E, hE⟩ : ∃ E, E = vecsE u.toList m.on m.ns m.inc m.card yes (la.map Er.key) (lb.map Er.key) := ⟨_, rfl⟩
  obtain ⟨V, hV⟩ : ∃ V, V = vecsV u.toList m.on m.ns m.inc m.card yes (la.map Er.key) (lb.map Er.key) := ⟨_, rfl⟩
  obtain ⟨N1, hN⟩ : ∃ n, n = V.length := ⟨_, rfl⟩
  have HP2 : Hid (∀ W x cx (O : List Er) z cz (Q : List Er), Below w.heap.size w W → ERow W x O.length O → O.map Er.key = la.map Er.key → ERow W z Q.length Q → Q.map Er.key = lb.map Er.key → Calls Tryz.prog 13 #[.string u, .slice x O.length cx, .slice z Q.length cz, m.v, .bool yes] W (AnsN E N1 V W)) := Lib.hid fun W x cx O z cz Q h ho hk hq hk2 => by
    have h1 := HV.out _ _ W x cx O z cz Q h hfa hfb hlen ho hk hq hk2
    rw [← hE, ← hV, ← hN] at h1
    exact h1
  have HP3 : Hid (∀ W x cx (O : List Er) z cz (Q : List Er), Below w.heap.size w W → ERow W x O.length O → O.map Er.key = F → ERow W z Q.length Q → Q.map Er.key = lb.map Er.key → Calls Tryz.prog 13 #[.string u, .slice x O.length cx, .slice z Q.length cz, m.v, .bool yes] W (AnsN E N1 V W)) := Lib.hid fun W x cx O z cz Q h ho2 hk hq hk2 => by
    have h1 := HV.out _ _ W x cx O z cz Q h hfF hfb (by rw [List.length_map] at hlen; omega) ho2 hk hq hk2
    have h2 := vecs_near (u := u.toList) m.on m.ns m.inc (card := m.card) yes hva hvb ho hu hc0
    rw [hF, h2.1, h2.2, ← hE, ← hV, ← hN] at h1
    exact h1
  obtain ⟨given, on, ma, mn, mc, card, ia, im, ic, ns, inc⟩ := m
  dsimp only [Mt.v, bothV] at HGR HP1 HP2 HP3 ⊢
  dsimp only at hc0
  have hcb : (card == 2) = false := by simpa using hc0
  obtain ⟨W0, hW0⟩ : ∃ W0, W0 = w.alloc (.cells #[.string u, .slice a na ca, .slice b nb cb, .bool given, .bool on, .slice ma mn mc, .int .i64 card, .slice ia im ic, .bool yes] 27) := ⟨_, rfl⟩
  have HB0 : Hid (Below w.heap.size w W0) := Lib.hid (by rw [hW0]; exact (Below.refl _ _).alloc (Nat.le_refl _) _)
  have HX0 : Hid (W0.cell? ⟨w.heap.size, 0, none⟩ = some (.string u) ∧ W0.cell? ⟨w.heap.size, 1, none⟩ = some (.slice a na ca) ∧ W0.cell? ⟨w.heap.size, 2, none⟩ = some (.slice b nb cb) ∧ W0.cell? ⟨w.heap.size, 3, none⟩ = some (.bool given) ∧ W0.cell? ⟨w.heap.size, 4, none⟩ = some (.bool on) ∧ W0.cell? ⟨w.heap.size, 5, none⟩ = some (.slice ma mn mc) ∧ W0.cell? ⟨w.heap.size, 6, none⟩ = some (.int .i64 card) ∧ W0.cell? ⟨w.heap.size, 7, none⟩ = some (.slice ia im ic) ∧ W0.cell? ⟨w.heap.size, 8, none⟩ = some (.bool yes)) := Lib.hid (by
    have hi0 : Bk.Is W0 w.heap.size #[.string u, .slice a na ca, .slice b nb cb, .bool given, .bool on, .slice ma mn mc, .int .i64 card, .slice ia im ic, .bool yes] 27 := by rw [hW0]; exact Bk.Is.made w _ _
    have q0 := hi0.cell 0
    have q1 := hi0.cell 1
    have q2 := hi0.cell 2
    have q3 := hi0.cell 3
    have q4 := hi0.cell 4
    have q5 := hi0.cell 5
    have q6 := hi0.cell 6
    have q7 := hi0.cell 7
    have q8 := hi0.cell 8
    simp at q0 q1 q2 q3 q4 q5 q6 q7 q8
    exact ⟨q0, q1, q2, q3, q4, q5, q6, q7, q8⟩)
  have HW0 := Lib.hid hW0
  clear ha hsa hb hsb hM hfa hfb hn hi hT hW0 hlen tand hM0 hf0a hf0b HV hc0 hF hcan hFl hfF hE hV hN hva hvb
  go_enter Tryz.func8, Tryz.ntmps8
  go_upto_region 1 with fail
  rw [← HW0.out]
  go_wp2_with fail
  refine (HAW.out _ HB0.out).mono ?_
  rintro e w1 ⟨rfl, b1⟩
  have K1 := Lib.hid (HB0.out.trans (b1.mono HB0.out.size))
  have X1 := Lib.hid (keep9 HX0.out b1)
  clear b1 HX0 HB0
  obtain ⟨x0, x1, x2, x3, x4, x5, x6, x7, x8⟩ := X1.out
  go_wp2_with fail
  refine (HGR.out _).mono ?_
  rintro e w2 ⟨⟨d, rfl⟩, b2⟩
  have K2 := Lib.hid (K1.out.trans (b2.mono K1.out.size))
  have X2 := Lib.hid (keep9 X1.out b2)
  clear b2 K1 X1 x0 x1 x2 x3 x4 x5 x6 x7 x8
  obtain ⟨x0, x1, x2, x3, x4, x5, x6, x7, x8⟩ := X2.out
  cases d
  · go_wp2_with fail
    clear x0 x1 x2 x3 x4 x5 x6 x7 x8
    have s0 : w2.drew.cell? ⟨w.heap.size, 0, none⟩ = some (.string u) ∧ w2.drew.cell? ⟨w.heap.size, 1, none⟩ = some (.slice a na ca) ∧ w2.drew.cell? ⟨w.heap.size, 2, none⟩ = some (.slice b nb cb) ∧ w2.drew.cell? ⟨w.heap.size, 3, none⟩ = some (.bool given) ∧ w2.drew.cell? ⟨w.heap.size, 4, none⟩ = some (.bool on) ∧ w2.drew.cell? ⟨w.heap.size, 5, none⟩ = some (.slice ma mn mc) ∧ w2.drew.cell? ⟨w.heap.size, 6, none⟩ = some (.int .i64 card) ∧ w2.drew.cell? ⟨w.heap.size, 7, none⟩ = some (.slice ia im ic) ∧ w2.drew.cell? ⟨w.heap.size, 8, none⟩ = some (.bool yes) := X2.out
    have KD : Hid (Below w.heap.size w w2.drew) := Lib.hid (K2.out.drewN' 1)
    have GD : Hid (Below w2.heap.size w2 w2.drew) := Lib.hid ((Below.refl _ w2).drewN' 1)
    go_region_held3 (fun w' => w'.cell? ⟨w.heap.size, 0, none⟩ = some (.string u) ∧ w'.cell? ⟨w.heap.size, 1, none⟩ = some (.slice a na ca) ∧ w'.cell? ⟨w.heap.size, 2, none⟩ = some (.slice b nb cb) ∧ w'.cell? ⟨w.heap.size, 3, none⟩ = some (.bool given) ∧ w'.cell? ⟨w.heap.size, 4, none⟩ = some (.bool on) ∧ w'.cell? ⟨w.heap.size, 5, none⟩ = some (.slice ma mn mc) ∧ w'.cell? ⟨w.heap.size, 6, none⟩ = some (.int .i64 card) ∧ w'.cell? ⟨w.heap.size, 7, none⟩ = some (.slice ia im ic) ∧ w'.cell? ⟨w.heap.size, 8, none⟩ = some (.bool yes)) (first | assumption) (first | (go_at_call 11; (with_reducible refine (HCL.out _ KD.out).mono ?_); rintro e x1 ⟨ax, cx, O, rfl, _, rx, kx, bx⟩; have s1 := keep9 s0 bx; have KX := Lib.hid (KD.out.trans (bx.mono KD.out.size)); have GX := Lib.hid (GD.out.trans bx)) | (go_at_call 11; (with_reducible refine (HCR.out _ KX.out).mono ?_); rintro e x2 ⟨ay, cy, Q, rfl, _, ry, ky, by'⟩; have s2 := keep9 s1 by'; have KY := Lib.hid (KX.out.trans (by'.mono KX.out.size)); have GY := Lib.hid (GX.out.trans (by'.mono GX.out.size)); have rx' := rx.below by') | (go_at_call 13; refine (HP1.out _ ax cx O ay cy Q KY.out rx' kx ry ky).mono ?_; rintro e w3 ⟨an, cn', en, rfl, rz, kz, bz⟩; have s3 := keep9 s2 bz; have K3 := Lib.hid (KY.out.trans (bz.mono KY.out.size)); have G3 := Lib.hid (GY.out.trans (bz.mono GY.out.size)); have RN0 := Lib.hid rz; have KEN := Lib.hid kz; have X3 := Lib.hid s3; clear rz kz))
    rename_i hHeld
    clear hHeld s0 s1 s2 s3 rx kx bx rx' ry ky by' bz KD GD KX GX KY GY
    obtain ⟨NN, hNN⟩ : ∃ NN, NN = en.length := ⟨_, rfl⟩
    have RN := RN0
    rw [← hNN] at RN ⊢
    clear hNN RN0
    obtain ⟨x0, x1, x2, x3, x4, x5, x6, x7, x8⟩ := X3.out
    clear K2 X2
    go_wp2_with fail
    clear x0 x1 x2 x3 x4 x5 x6 x7 x8
    have s0 : w3.drew.cell? ⟨w.heap.size, 0, none⟩ = some (.string u) ∧ w3.drew.cell? ⟨w.heap.size, 1, none⟩ = some (.slice a na ca) ∧ w3.drew.cell? ⟨w.heap.size, 2, none⟩ = some (.slice b nb cb) ∧ w3.drew.cell? ⟨w.heap.size, 3, none⟩ = some (.bool given) ∧ w3.drew.cell? ⟨w.heap.size, 4, none⟩ = some (.bool on) ∧ w3.drew.cell? ⟨w.heap.size, 5, none⟩ = some (.slice ma mn mc) ∧ w3.drew.cell? ⟨w.heap.size, 6, none⟩ = some (.int .i64 card) ∧ w3.drew.cell? ⟨w.heap.size, 7, none⟩ = some (.slice ia im ic) ∧ w3.drew.cell? ⟨w.heap.size, 8, none⟩ = some (.bool yes) := X3.out
    have KD : Hid (Below w.heap.size w w3.drew) := Lib.hid (K3.out.drewN' 1)
    have GD : Hid (Below w3.heap.size w3 w3.drew) := Lib.hid ((Below.refl _ w3).drewN' 1)
    go_region_held3 (fun w' => w'.cell? ⟨w.heap.size, 0, none⟩ = some (.string u) ∧ w'.cell? ⟨w.heap.size, 1, none⟩ = some (.slice a na ca) ∧ w'.cell? ⟨w.heap.size, 2, none⟩ = some (.slice b nb cb) ∧ w'.cell? ⟨w.heap.size, 3, none⟩ = some (.bool given) ∧ w'.cell? ⟨w.heap.size, 4, none⟩ = some (.bool on) ∧ w'.cell? ⟨w.heap.size, 5, none⟩ = some (.slice ma mn mc) ∧ w'.cell? ⟨w.heap.size, 6, none⟩ = some (.int .i64 card) ∧ w'.cell? ⟨w.heap.size, 7, none⟩ = some (.slice ia im ic) ∧ w'.cell? ⟨w.heap.size, 8, none⟩ = some (.bool yes)) (first | assumption) (first | (go_at_call 11; (with_reducible refine (HCL.out _ KD.out).mono ?_); rintro e x1 ⟨ax, cx, O, rfl, _, rx, kx, bx⟩; have s1 := keep9 s0 bx; have KX := Lib.hid (KD.out.trans (bx.mono KD.out.size)); have GX := Lib.hid (GD.out.trans bx)) | (go_at_call 11; (with_reducible refine (HCR.out _ KX.out).mono ?_); rintro e x2 ⟨ay, cy, Q, rfl, _, ry, ky, by'⟩; have s2 := keep9 s1 by'; have KY := Lib.hid (KX.out.trans (by'.mono KX.out.size)); have GY := Lib.hid (GX.out.trans (by'.mono GX.out.size)); have rx' := rx.below by') | (go_at_call 13; refine (HP2.out _ ax cx O ay cy Q KY.out rx' kx ry ky).mono ?_; rintro e w4 ⟨a4, c4, e4, rfl, rz, kz, bz⟩; have s3 := keep9 s2 bz; have K4 := Lib.hid (KY.out.trans (bz.mono KY.out.size)); have G4 := Lib.hid (GY.out.trans (bz.mono GY.out.size)); have R4 := Lib.hid rz; have KE4 := Lib.hid kz; have X4 := Lib.hid s3; clear rz kz))
    rename_i hHeld
    clear hHeld s0 s1 s2 s3 rx kx bx rx' ry ky by' bz KD GD KX GX KY GY
    obtain ⟨x0, x1, x2, x3, x4, x5, x6, x7, x8⟩ := X4.out
    have RN := Lib.hid (RN.out.below G4.out)
    clear K3 X3
    go_wp2_with fail
    clear x0 x1 x2 x3 x4 x5 x6 x7 x8
    have s0 : w4.drew.cell? ⟨w.heap.size, 0, none⟩ = some (.string u) ∧ w4.drew.cell? ⟨w.heap.size, 1, none⟩ = some (.slice a na ca) ∧ w4.drew.cell? ⟨w.heap.size, 2, none⟩ = some (.slice b nb cb) ∧ w4.drew.cell? ⟨w.heap.size, 3, none⟩ = some (.bool given) ∧ w4.drew.cell? ⟨w.heap.size, 4, none⟩ = some (.bool on) ∧ w4.drew.cell? ⟨w.heap.size, 5, none⟩ = some (.slice ma mn mc) ∧ w4.drew.cell? ⟨w.heap.size, 6, none⟩ = some (.int .i64 card) ∧ w4.drew.cell? ⟨w.heap.size, 7, none⟩ = some (.slice ia im ic) ∧ w4.drew.cell? ⟨w.heap.size, 8, none⟩ = some (.bool yes) := X4.out
    have KD : Hid (Below w.heap.size w w4.drew) := Lib.hid (K4.out.drewN' 1)
    have GD : Hid (Below w4.heap.size w4 w4.drew) := Lib.hid ((Below.refl _ w4).drewN' 1)
    have ND : Hid (ERow w4.drew an NN en) := Lib.hid (RN.out.below GD.out)
    have HCN : Hid (Calls Tryz.prog 11 #[.slice an NN cn'] w4.drew (CopyOf en w4.drew)) := Lib.hid (copied21_any an NN cn' en w4.drew ND.out)
    go_region_held3 (fun w' => w'.cell? ⟨w.heap.size, 0, none⟩ = some (.string u) ∧ w'.cell? ⟨w.heap.size, 1, none⟩ = some (.slice a na ca) ∧ w'.cell? ⟨w.heap.size, 2, none⟩ = some (.slice b nb cb) ∧ w'.cell? ⟨w.heap.size, 3, none⟩ = some (.bool given) ∧ w'.cell? ⟨w.heap.size, 4, none⟩ = some (.bool on) ∧ w'.cell? ⟨w.heap.size, 5, none⟩ = some (.slice ma mn mc) ∧ w'.cell? ⟨w.heap.size, 6, none⟩ = some (.int .i64 card) ∧ w'.cell? ⟨w.heap.size, 7, none⟩ = some (.slice ia im ic) ∧ w'.cell? ⟨w.heap.size, 8, none⟩ = some (.bool yes)) (first | assumption) (first | (go_at_call 11; (with_reducible refine HCN.out.mono ?_); rintro e x1 ⟨ax, cx, O, rfl, _, rx, kx, bx⟩; have s1 := keep9 s0 bx; have KX := Lib.hid (KD.out.trans (bx.mono KD.out.size)); have GX := Lib.hid (GD.out.trans bx)) | (go_at_call 11; (with_reducible refine (HCR.out _ KX.out).mono ?_); rintro e x2 ⟨ay, cy, Q, rfl, _, ry, ky, by'⟩; have s2 := keep9 s1 by'; have KY := Lib.hid (KX.out.trans (by'.mono KX.out.size)); have GY := Lib.hid (GX.out.trans (by'.mono GX.out.size)); have rx' := rx.below by') | (go_at_call 13; refine (HP3.out _ ax cx O ay cy Q KY.out rx' (kx.trans KEN.out) ry ky).mono ?_; rintro e w5 ⟨a5, c5, e5, rfl, rz, kz, bz⟩; have s3 := keep9 s2 bz; have K5 := Lib.hid (KY.out.trans (bz.mono KY.out.size)); have G5 := Lib.hid (GY.out.trans (bz.mono GY.out.size)); have R5 := Lib.hid rz; have KE5 := Lib.hid kz; have X5 := Lib.hid s3; clear rz kz))
    rename_i hHeld
    clear hHeld s0 s1 s2 s3 rx kx bx rx' ry ky by' bz KD GD KX GX KY GY
    have R4' := Lib.hid (R4.out.below G5.out)
    go_wp2_with fail
    refine (same_yes a4 a5 N1 c4 c5 e4 e5 _ R4'.out R5.out (by rw [KE4.out, KE5.out])).mono ?_
    rintro e x9 ⟨rfl, m9, rfl⟩
    go_wp2_with fail
    go_ret
    exact ⟨rfl, K5.out.drewN' m9⟩
  · go_wp2_with fail
    go_ret
    exact ⟨rfl, K2.out⟩

theorem law_loose (u : ByteArray) (a b : Option Addr) (na ca nb cb : Nat) (la lb : List Er) (m : Mt) (yes : Bool) (w : World) (ha : ERow w a na la) (hsa : SlK a na ca) (hb : ERow w b nb lb) (hsb : SlK b nb cb) (hM : MtOk w m)
    (hfa : FitK m.on m.ns m.im (la.map Er.key)) (hfb : FitK m.on m.ns m.im (lb.map Er.key)) (hn : na + nb ≤ 4398046511000) (hi : (m.im : Int) ≤ 9223372036854775807) (hT : Tab w.heap.size w) :
    Calls Tryz.prog 8 #[bothV u (.slice a na ca) (.slice b nb cb) m yes] w fun e w' => e = .returned (.bool true) ∧ Below w.heap.size w w' := by
  cases ho : (u.toList == [111, 114])
  · cases hu : (u.toList == [117, 110, 108, 101, 115, 115])
    · by_cases hc : m.card = 2
      · exact loose_skip u a b na ca nb cb la lb m yes w ha hsa hb hsb hM hfa hfb hn hi hT (.inr (.inr hc))
      · cases hva : vecK (la.map Er.key) with
        | none => exact loose_bad u a b na ca nb cb la lb m yes w ha hsa hb hsb hM hfa hfb hn hi hT ho hu hc (.inl hva)
        | some ml =>
          cases hvb : vecK (lb.map Er.key) with
          | none => exact loose_bad u a b na ca nb cb la lb m yes w ha hsa hb hsb hM hfa hfb hn hi hT ho hu hc (.inr hvb)
          | some mr => exact loose_ok u a b na ca nb cb la lb m yes w ha hsa hb hsb hM hfa hfb hn hi hT ho hu hc ml mr hva hvb
    · exact loose_skip u a b na ca nb cb la lb m yes w ha hsa hb hsb hM hfa hfb hn hi hT (.inr (.inl hu))
  · exact loose_skip u a b na ca nb cb la lb m yes w ha hsa hb hsb hM hfa hfb hn hi hT (.inl ho)
end Go.Proofs.YtmmfjknnbkcniaaGreatDoor
