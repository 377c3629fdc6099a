/- slices.symMergeCmpFunc at weir/api.Elem: two sorted parts merged. -/
import Derived.Test.YtmmfjknnbkcniaaGreatDoorV24
import Derived.Test.YtmmfjknnbkcniaaGreatDoorProg
import Derived.Shelf.SlSortCmp.KitK
import Derived.Sort.WalkB2
import Derived.Sort.WalkB12
import Derived.Deep.LoopGhost
set_option maxHeartbeats 64000000
set_option maxRecDepth 100000
namespace Go.Proofs.YtmmfjknnbkcniaaGreatDoor
open Go.Shelf Go.RowKit Go.Lib Go.Sort Go.Stab
set_option linter.unusedVariables false
set_option linter.unusedSimpArgs false
section
variable {enc : Nat → List Value} {k blk off cap : Nat} {d0 : Array Nat} {w0 : World}
def SymOKE (Rr : Nat → Nat → Prop) (enc : Nat → List Value) (k : Nat) (w0 : World) (blk off cap sz g : Nat) (cb : Array Value) (N : Nat) : Prop :=
 ∀ (a m b : Nat) (d : Array Nat) (w : World), b - a ≤ N → d.size = sz → SWK enc k w0 blk off d w → a < m → m < b → b ≤ sz → SortedR Rr a m d → SortedR Rr m b d → Cross a m b d →
  Calls Tryz.prog 91 #[.slice (some ⟨blk, off, none⟩) sz cap, .int .i64 a, .int .i64 m, .int .i64 b, .func (.func g) #[] cb] w (SymPostE Rr enc k w0 blk off a b d)
theorem symMidE (aE : ∀ w, (isAgg 34).run Tryz.prog w = .ok true w) (zE : ∀ w, (Go.sizeOf 34).run Tryz.prog w = .ok k w) (Rr : Nat → Nat → Prop) (O : Ord Rr) (cf : Nat → Nat → Int) (g : Nat) (cb : Array Value) (eg : ∀ args w, (callFunc g args).run Tryz.prog w = .ok (.enter g args) w) (hcmp : CmpLays Tryz.prog g cb enc k cf blk off d0.size w0) (HR : ∀ x y, x < y → (cf y x < 0 ↔ Rr y x)) (R : RowK enc k w0 blk off d0)
  (a m b : Nat) (d : Array Nat) (w : World) (hs : d0.size = d.size) (S : SWK enc k w0 blk off d w) (ham : a < m) (hmb : m < b) (hb : b ≤ d.size) (hsz : d.size < 2305843009213693952) (s1 : SortedR Rr a m d) (s2 : SortedR Rr m b d) (hc : Cross a m b d) (hne : m ≠ a + 1) (hne2 : b ≠ m + 1) (ih : SymOKE Rr enc k w0 blk off cap d.size g cb (b - a - 1)) :
  Calls Tryz.prog 91 #[.slice (some ⟨blk, off, none⟩) d.size cap, .int .i64 a, .int .i64 m, .int .i64 b, .func (.func g) #[] cb] w (SymPostE Rr enc k w0 blk off a b d) := by
 have mixed : Tryz.prog.follows .mixedOrders = true := by kernel_rfl
 have HC : Aside _ := hcmp
 have S0 : Aside (SWK enc k w0 blk off d w) := S
 have HRR : Hid (∀ x y, x < y → (cf y x < 0 ↔ Rr y x)) := HR
 have HS1 : Hid _ := s1
 have HS2 : Hid _ := s2
 have HX : Hid _ := hc
 have HO : Hid _ := O
 clear hcmp S HR s1 s2 hc O
 have IH : Hid _ := ih
 have c1 : ((m : Int) - (a : Int) == 1) = false := by simp; omega
 have c2 : ((b : Int) - (m : Int) == 1) = false := by simp; omega
 clear ih hne hne2
 obtain ⟨mid, hmid⟩ : ∃ zz, zz = (a + b) / 2 := ⟨_, rfl⟩
 obtain ⟨n, hn⟩ : ∃ zz, zz = mid + m := ⟨_, rfl⟩
 obtain ⟨pN, hpN⟩ : ∃ zz, zz = n - 1 := ⟨_, rfl⟩
 obtain ⟨s0, r0, h0⟩ : ∃ s0 r0 : Nat, (mid < m ∧ s0 = n - b ∧ r0 = mid) ∨ (m ≤ mid ∧ s0 = a ∧ r0 = m) := by
  rcases Nat.lt_or_ge mid m with h | h
  ·exact ⟨_, _, .inl ⟨h, rfl, rfl⟩⟩
  ·exact ⟨_, _, .inr ⟨h, rfl, rfl⟩⟩
 have zm : ((a : Int) + (b : Int)) / 2 = (mid : Int) := by omega
 have zn : (mid : Int) + (m : Int) = (n : Int) := by omega
 have zp : (n : Int) - 1 = (pN : Int) := by omega
 have H0 : Hid _ := h0
 rcases h0 with ⟨g1, g2, g3⟩ | ⟨g1, g2, g3⟩
 all_goals
  have GG : Hid (mid = (a + b) / 2 ∧ n = mid + m ∧ pN = n - 1 ∧ _ ∧ _) := ⟨hmid, hn, hpN, g2, g3⟩
  first
   | (have gz : (mid : Int) < (m : Int) := by omega
      have zs : (n : Int) - (b : Int) = (s0 : Int) := by omega
      clear hmid hn hpN g2 g3
      go_enter Tryz.func91, Tryz.ntmps91
      go_wp2)
   | (have gz : ¬ (mid : Int) < (m : Int) := by omega
      clear hmid hn hpN g2 g3
      go_enter Tryz.func91, Tryz.ntmps91
      go_wp2)
  go_loopg [20, 21] b (fun kx s20 s21 wr => ∃ i j : Nat, s20 = .int .i64 i ∧ s21 = .int .i64 j ∧ s0 ≤ i ∧ i ≤ j ∧ j ≤ r0 ∧ j - i ≤ kx ∧ Aside (SWK enc k w0 blk off d wr) ∧ Hid (∀ t, s0 ≤ t → t < i → ¬ Rr d[pN - t]! d[t]!) ∧ Hid (∀ t, j ≤ t → t < r0 → Rr d[pN - t]! d[t]!))
  case atStart =>
   obtain ⟨hmid, hn, hpN, g2, g3⟩ := GG.out
   exact ⟨s0, r0, by first | rfl | (rw [g2]), by first | rfl | (rw [g3]), by omega, by omega, by omega, by omega, S0, (fun t h1 h2 => by omega), (fun t h1 h2 => by omega)⟩
  case round =>
   clear S0
   obtain ⟨i, j, rfl, rfl, him, hij, hjb, hkx, S1, Q1, Q2⟩ := hrel
   by_cases hlt : i < j
   ·have hltz : (i : Int) < (j : Int) := by omega
    obtain ⟨k1, k2, k3, k4, k5⟩ : a ≤ (i + j) / 2 ∧ (i + j) / 2 < m ∧ m ≤ pN - (i + j) / 2 ∧ pN - (i + j) / 2 < b ∧ (i + j) / 2 ≤ pN := by
     obtain ⟨hmid, hn, hpN, g2, g3⟩ := GG.out
     omega
    obtain ⟨c, hcq⟩ : ∃ zz, zz = (i + j) / 2 := ⟨_, rfl⟩
    obtain ⟨pc, hpc⟩ : ∃ zz, zz = pN - (i + j) / 2 := ⟨_, rfl⟩
    have zc : ((i : Int) + (j : Int)) / 2 = (c : Int) := by omega
    have zpc : (pN : Int) - (c : Int) = (pc : Int) := by omega
    rw [← hpc] at k3 k4
    rw [← hcq] at k1 k2 k5
    have X1 : d[c]! < d[pc]! := HX.out c pc k1 k2 k3 k4
    have HQ : Hid (c = (i + j) / 2 ∧ pc = pN - c) := ⟨hcq, by rw [hpc, hcq]⟩
    have k6 : i ≤ c ∧ c < j := by omega
    clear hcq hpc
    clear zm zn zp g1
    (try clear zs)
    have XR := HRR.out _ _ X1
    have HXR : Hid _ := XR
    clear XR X1
    by_cases hv : cf d[pc]! d[c]! < 0
    ·have HV : Hid _ := hv
     clear hv
     obtain ⟨x1, hx1⟩ : ∃ zz, zz = d[pc]! := ⟨_, rfl⟩
     obtain ⟨y1, hy1⟩ : ∃ zz, zz = d[c]! := ⟨_, rfl⟩
     have ea1 : ((pc : Int)).toNat = pc := by omega
     have ec1 : ((c : Int)).toNat = c := by omega
     have pa1 : (0 : Int) ≤ (pc : Int) := by omega
     have ba1 : (pc : Int) < (d.size : Int) := by omega
     have ra1 : IntKind.i64.wrap ((pc : Int)) = (pc : Int) := by rw [IntKind.wrap_i64]; omega
     have pc1 : (0 : Int) ≤ (c : Int) := by omega
     have bc1 : (c : Int) < (d.size : Int) := by omega
     have rc1 : IntKind.i64.wrap ((c : Int)) = (c : Int) := by rw [IntKind.wrap_i64]; omega
     have l1a := S1.out.ld R (by omega) Tryz.prog (pc) (by omega)
     have l1b := S1.out.ld R (by omega) Tryz.prog (c) (by omega)
     rw [← hx1] at l1a
     rw [← hy1] at l1b
     have hc1 := S1.out.cmp HC.out (by omega) x1 y1
     have hv1 : cf x1 y1 < 0 := by rw [hx1, hy1]; exact HV.out
     have hd1 : decide (cf x1 y1 < 0) = true := decide_eq_true hv1
     clear hx1 hy1
     go_wp2_with fail
     go_quiet_grown (first | (go_at_fn g; refine Calls.grown_of (hc1 _ _)))
     have S2 : Aside (SWK enc k w0 blk off d (grow (wr.drewN nq) osq)) := S1.out.grown nq osq
     clear l1a l1b hc1 S1
     generalize grow (wr.drewN nq) osq = w2 at S2 ⊢
     clear nq osq
     go_wp2
     go_roundg (c - i)
     case measure => omega
     case rel =>
      refine ⟨i, c, rfl, rfl, him, by omega, by omega, Nat.le_refl _, S2, Q1, (fun t h1 h2 => ?_)⟩
      obtain ⟨hmid, hn, hpN, g2, g3⟩ := GG.out
      have h00 := H0.out
      have hq := HQ.out
      exact search_yes HO.out HS1.out HS2.out (c := c) k1 h1 (by omega) (by omega) (by omega) (by rw [← hq.2]; exact HXR.out.1 HV.out)
    ·have HV : Hid _ := hv
     clear hv
     obtain ⟨x2, hx2⟩ : ∃ zz, zz = d[pc]! := ⟨_, rfl⟩
     obtain ⟨y2, hy2⟩ : ∃ zz, zz = d[c]! := ⟨_, rfl⟩
     have ea2 : ((pc : Int)).toNat = pc := by omega
     have ec2 : ((c : Int)).toNat = c := by omega
     have pa2 : (0 : Int) ≤ (pc : Int) := by omega
     have ba2 : (pc : Int) < (d.size : Int) := by omega
     have ra2 : IntKind.i64.wrap ((pc : Int)) = (pc : Int) := by rw [IntKind.wrap_i64]; omega
     have pc2 : (0 : Int) ≤ (c : Int) := by omega
     have bc2 : (c : Int) < (d.size : Int) := by omega
     have rc2 : IntKind.i64.wrap ((c : Int)) = (c : Int) := by rw [IntKind.wrap_i64]; omega
     have l2a := S1.out.ld R (by omega) Tryz.prog (pc) (by omega)
     have l2b := S1.out.ld R (by omega) Tryz.prog (c) (by omega)
     rw [← hx2] at l2a
     rw [← hy2] at l2b
     have hc2 := S1.out.cmp HC.out (by omega) x2 y2
     have hv2 : ¬ cf x2 y2 < 0 := by rw [hx2, hy2]; exact HV.out
     have hd2 : decide (cf x2 y2 < 0) = false := decide_eq_false hv2
     clear hx2 hy2
     go_wp2_with fail
     go_quiet_grown (first | (go_at_fn g; refine Calls.grown_of (hc2 _ _)))
     have S2 : Aside (SWK enc k w0 blk off d (grow (wr.drewN nq) osq)) := S1.out.grown nq osq
     clear l2a l2b hc2 S1
     generalize grow (wr.drewN nq) osq = w2 at S2 ⊢
     clear nq osq
     go_wp2
     go_roundg (j - (c + 1))
     case measure => omega
     case rel =>
      refine ⟨c + 1, j, by go_num, rfl, by omega, by omega, hjb, Nat.le_refl _, S2, (fun t h1 h2 => ?_), Q2⟩
      obtain ⟨hmid, hn, hpN, g2, g3⟩ := GG.out
      have h00 := H0.out
      have hq := HQ.out
      exact search_no HO.out HS1.out HS2.out (c := c) (by omega) (by omega) k2 (by omega) (by omega) (by rw [← hq.2]; exact (fun h => HV.out (HXR.out.2 h)))
   ·have hltz : ¬ (i : Int) < (j : Int) := by omega
    have hij2 : j = i := by omega
    subst hij2
    obtain ⟨hmid, hn, hpN, g2, g3⟩ := GG.out
    obtain ⟨e, he⟩ : ∃ zz, zz = n - j := ⟨_, rfl⟩
    have ze : (n : Int) - (j : Int) = (e : Int) := by omega
    have par := fun (d' : Array Nat) (hd : ∀ t, d'[t]! = rotF (fun t => d[t]!) j m e t) => parted (d' := d') HO.out ham hmb HS1.out HS2.out HX.out hmid hn H0.out him hjb he (fun t h1 h2 => by rw [← hpN]; exact Q1.out t h1 h2) (fun t h1 h2 => by rw [← hpN]; exact Q2.out t h1 h2) hd
    have PAR : Hid _ := par
    have h00 := H0.out
    have bnd : a ≤ j ∧ j ≤ mid ∧ mid ≤ e ∧ e ≤ b ∧ j ≤ m ∧ m ≤ e ∧ a < mid ∧ mid < b := by omega
    obtain ⟨b1, b2, b3, b4, b5, b6, b7, b8⟩ := bnd
    clear h00
    have REST : Hid (∀ (d1 : Array Nat), d1.size = d.size → (∀ t, d1[t]! = rotF (fun t => d[t]!) j m e t) → PermIn a b d d1 → ∀ d2 d3 : Array Nat, PermIn a mid d1 d2 → SortedR Rr a mid d2 → PermIn mid b d2 d3 → SortedR Rr mid b d3 → PermIn a b d d3 ∧ SortedR Rr a b d3) := fun d1 hz hd hp d2 d3 p1 q1 p2 q2 => by
     have P := PAR.out d1 hd
     have J := joined (R := Rr) (b := b) (by omega) (by omega) (by omega) P.2.2.1 p1 q1 p2 q2
     exact ⟨permIn_trans _ _ _ _ _ hp J.1, J.2⟩
    clear par Q1 Q2 hkx him hjb zm zn zp g2 g3 hmid hn hpN he eg
    by_cases hrot : j < m ∧ m < e
    ·have hr1 : (j : Int) < (m : Int) := by omega
     have hr2 : (m : Int) < (e : Int) := by omega
     go_wp2_with fail
     refine (rotateE aE zE g cb j m e d _ R hs S1.out hrot.1 hrot.2 (by omega) hsz).mono ?_
     rintro e1 w1 ⟨rfl, d1, T1, hz1, hd1, hp1⟩
     have S3 : Aside (SWK enc k w0 blk off d1 w1) := T1
     have P := PAR.out d1 hd1
     have HP : Hid _ := P
     have FIN : Hid _ := REST.out d1 hz1 hd1 (permIn_mono _ _ _ _ _ _ b1 b4 hb hp1)
     have SZ : Hid (d1.size = d0.size) := hz1.trans hs.symm
     clear S1 T1 P hd1 hp1 hz1 PAR REST HS1 HS2 HX
     by_cases hl : a < j ∧ j < mid
     ·have hl1 : (a : Int) < (j : Int) := by omega
      have hl2 : (j : Int) < (mid : Int) := by omega
      go_wp2_with fail
      refine (IH.out a j mid d1 _ (by omega) (SZ.out.trans hs) S3.out hl.1 hl.2 (by omega) HP.out.1.2.1 HP.out.1.2.2 HP.out.1.1).mono ?_
      rintro e2 w2 ⟨rfl, d2, T2, hz2, hp2, hs2⟩
      have S4 : Aside (SWK enc k w0 blk off d2 w2) := T2
      have LEFT : Hid (d2.size = d0.size ∧ PermIn a mid d1 d2 ∧ SortedR Rr a mid d2) := ⟨hz2.trans SZ.out, hp2, hs2⟩
      clear S3 T2 hz2 hp2 hs2
      by_cases hh : mid < e ∧ e < b
      ·have hh1 : (mid : Int) < (e : Int) := by omega
       have hh2 : (e : Int) < (b : Int) := by omega
       go_wp2_with fail
       refine (IH.out mid e b d2 _ (by omega) (LEFT.out.1.trans hs) S4.out hh.1 hh.2 (by omega) (keep_sorted LEFT.out.2.1 HP.out.2.1.2.1) (keep_sorted LEFT.out.2.1 HP.out.2.1.2.2 b3) (keep_cross LEFT.out.2.1 HP.out.2.1.1)).mono ?_
       rintro e3 w3 ⟨rfl, d3, T3, hz3, hp3, hs3⟩
       go_wp2_with fail
       first | go_end0 | ((try simp only [Exit.inBlock, Exit.then]); refine bodyPost_ret (results_none rfl _ _ _) rfl ?_)
       have F := FIN.out d2 d3 LEFT.out.2.1 LEFT.out.2.2 hp3 hs3
       exact ⟨rfl, d3, T3, hz3.trans (LEFT.out.1.trans hs), F.1, F.2⟩
      ·have hs3 : SortedR Rr mid b d2 := none_left hh b3 b4 (keep_sorted LEFT.out.2.1 HP.out.2.1.2.1) (keep_sorted LEFT.out.2.1 HP.out.2.1.2.2 b3)
       have F := FIN.out d2 d2 LEFT.out.2.1 LEFT.out.2.2 (permIn_refl _ _ _) hs3
       have HF : Hid _ := F
       clear F hs3 HP FIN
       by_cases hh1 : mid < e
       ·have hh2 : ¬ e < b := fun h => hh ⟨hh1, h⟩
        have hh3 : (mid : Int) < (e : Int) := by omega
        have hh4 : ¬ (e : Int) < (b : Int) := by omega
        clear hh
        go_wp2_with fail
        first | go_end0 | ((try simp only [Exit.inBlock, Exit.then]); refine bodyPost_ret (results_none rfl _ _ _) rfl ?_)
        exact ⟨rfl, d2, S4.out, LEFT.out.1.trans hs, HF.out.1, HF.out.2⟩
       ·have hh3 : ¬ (mid : Int) < (e : Int) := by omega
        clear hh
        go_wp2_with fail
        first | go_end0 | ((try simp only [Exit.inBlock, Exit.then]); refine bodyPost_ret (results_none rfl _ _ _) rfl ?_)
        exact ⟨rfl, d2, S4.out, LEFT.out.1.trans hs, HF.out.1, HF.out.2⟩
     ·have hs2 : SortedR Rr a mid d1 := none_left hl b1 b2 HP.out.1.2.1 HP.out.1.2.2
      have LEFT : Hid (d1.size = d0.size ∧ PermIn a mid d1 d1 ∧ SortedR Rr a mid d1) := ⟨SZ.out, permIn_refl _ _ _, hs2⟩
      clear hs2
      by_cases hl1 : a < j
      ·have hl2 : ¬ j < mid := fun h => hl ⟨hl1, h⟩
       have hl3 : (a : Int) < (j : Int) := by omega
       have hl4 : ¬ (j : Int) < (mid : Int) := by omega
       clear hl
       by_cases hh : mid < e ∧ e < b
       ·have hh1 : (mid : Int) < (e : Int) := by omega
        have hh2 : (e : Int) < (b : Int) := by omega
        go_wp2_with fail
        refine (IH.out mid e b d1 _ (by omega) (LEFT.out.1.trans hs) S3.out hh.1 hh.2 (by omega) (keep_sorted LEFT.out.2.1 HP.out.2.1.2.1) (keep_sorted LEFT.out.2.1 HP.out.2.1.2.2 b3) (keep_cross LEFT.out.2.1 HP.out.2.1.1)).mono ?_
        rintro e3 w3 ⟨rfl, d3, T3, hz3, hp3, hs3⟩
        go_wp2_with fail
        first | go_end0 | ((try simp only [Exit.inBlock, Exit.then]); refine bodyPost_ret (results_none rfl _ _ _) rfl ?_)
        have F := FIN.out d1 d3 LEFT.out.2.1 LEFT.out.2.2 hp3 hs3
        exact ⟨rfl, d3, T3, hz3.trans (LEFT.out.1.trans hs), F.1, F.2⟩
       ·have hs3 : SortedR Rr mid b d1 := none_left hh b3 b4 (keep_sorted LEFT.out.2.1 HP.out.2.1.2.1) (keep_sorted LEFT.out.2.1 HP.out.2.1.2.2 b3)
        have F := FIN.out d1 d1 LEFT.out.2.1 LEFT.out.2.2 (permIn_refl _ _ _) hs3
        have HF : Hid _ := F
        clear F hs3 HP FIN
        by_cases hh1 : mid < e
        ·have hh2 : ¬ e < b := fun h => hh ⟨hh1, h⟩
         have hh3 : (mid : Int) < (e : Int) := by omega
         have hh4 : ¬ (e : Int) < (b : Int) := by omega
         clear hh
         go_wp2_with fail
         first | go_end0 | ((try simp only [Exit.inBlock, Exit.then]); refine bodyPost_ret (results_none rfl _ _ _) rfl ?_)
         exact ⟨rfl, d1, S3.out, LEFT.out.1.trans hs, HF.out.1, HF.out.2⟩
        ·have hh3 : ¬ (mid : Int) < (e : Int) := by omega
         clear hh
         go_wp2_with fail
         first | go_end0 | ((try simp only [Exit.inBlock, Exit.then]); refine bodyPost_ret (results_none rfl _ _ _) rfl ?_)
         exact ⟨rfl, d1, S3.out, LEFT.out.1.trans hs, HF.out.1, HF.out.2⟩
      ·have hl3 : ¬ (a : Int) < (j : Int) := by omega
       clear hl
       by_cases hh : mid < e ∧ e < b
       ·have hh1 : (mid : Int) < (e : Int) := by omega
        have hh2 : (e : Int) < (b : Int) := by omega
        go_wp2_with fail
        refine (IH.out mid e b d1 _ (by omega) (LEFT.out.1.trans hs) S3.out hh.1 hh.2 (by omega) (keep_sorted LEFT.out.2.1 HP.out.2.1.2.1) (keep_sorted LEFT.out.2.1 HP.out.2.1.2.2 b3) (keep_cross LEFT.out.2.1 HP.out.2.1.1)).mono ?_
        rintro e3 w3 ⟨rfl, d3, T3, hz3, hp3, hs3⟩
        go_wp2_with fail
        first | go_end0 | ((try simp only [Exit.inBlock, Exit.then]); refine bodyPost_ret (results_none rfl _ _ _) rfl ?_)
        have F := FIN.out d1 d3 LEFT.out.2.1 LEFT.out.2.2 hp3 hs3
        exact ⟨rfl, d3, T3, hz3.trans (LEFT.out.1.trans hs), F.1, F.2⟩
       ·have hs3 : SortedR Rr mid b d1 := none_left hh b3 b4 (keep_sorted LEFT.out.2.1 HP.out.2.1.2.1) (keep_sorted LEFT.out.2.1 HP.out.2.1.2.2 b3)
        have F := FIN.out d1 d1 LEFT.out.2.1 LEFT.out.2.2 (permIn_refl _ _ _) hs3
        have HF : Hid _ := F
        clear F hs3 HP FIN
        by_cases hh1 : mid < e
        ·have hh2 : ¬ e < b := fun h => hh ⟨hh1, h⟩
         have hh3 : (mid : Int) < (e : Int) := by omega
         have hh4 : ¬ (e : Int) < (b : Int) := by omega
         clear hh
         go_wp2_with fail
         first | go_end0 | ((try simp only [Exit.inBlock, Exit.then]); refine bodyPost_ret (results_none rfl _ _ _) rfl ?_)
         exact ⟨rfl, d1, S3.out, LEFT.out.1.trans hs, HF.out.1, HF.out.2⟩
        ·have hh3 : ¬ (mid : Int) < (e : Int) := by omega
         clear hh
         go_wp2_with fail
         first | go_end0 | ((try simp only [Exit.inBlock, Exit.then]); refine bodyPost_ret (results_none rfl _ _ _) rfl ?_)
         exact ⟨rfl, d1, S3.out, LEFT.out.1.trans hs, HF.out.1, HF.out.2⟩
    ·have hid : ∀ t, d[t]! = rotF (fun t => d[t]!) j m e t := fun t => by
      by_cases h : j = m
      ·subst h; exact (rotF_none1 _ t (by omega)).symm
      ·have : m = e := by omega
       subst this; exact (rotF_none2 _ t (by omega)).symm
     have P := PAR.out d hid
     have HP : Hid _ := P
     have FIN : Hid _ := REST.out d rfl hid (permIn_refl _ _ _)
     have SZ : Hid (d.size = d0.size) := hs.symm
     clear P PAR REST HS1 HS2 HX hid
     by_cases hr1 : j < m
     ·have hr2 : ¬ m < e := fun h => hrot ⟨hr1, h⟩
      have hr3 : (j : Int) < (m : Int) := by omega
      have hr4 : ¬ (m : Int) < (e : Int) := by omega
      clear hrot
      by_cases hl : a < j ∧ j < mid
      ·have hl1 : (a : Int) < (j : Int) := by omega
       have hl2 : (j : Int) < (mid : Int) := by omega
       go_wp2_with fail
       refine (IH.out a j mid d _ (by omega) (SZ.out.trans hs) S1.out hl.1 hl.2 (by omega) HP.out.1.2.1 HP.out.1.2.2 HP.out.1.1).mono ?_
       rintro e2 w2 ⟨rfl, d2, T2, hz2, hp2, hs2⟩
       have S4 : Aside (SWK enc k w0 blk off d2 w2) := T2
       have LEFT : Hid (d2.size = d0.size ∧ PermIn a mid d d2 ∧ SortedR Rr a mid d2) := ⟨hz2.trans SZ.out, hp2, hs2⟩
       clear S1 T2 hz2 hp2 hs2
       by_cases hh : mid < e ∧ e < b
       ·have hh1 : (mid : Int) < (e : Int) := by omega
        have hh2 : (e : Int) < (b : Int) := by omega
        go_wp2_with fail
        refine (IH.out mid e b d2 _ (by omega) (LEFT.out.1.trans hs) S4.out hh.1 hh.2 (by omega) (keep_sorted LEFT.out.2.1 HP.out.2.1.2.1) (keep_sorted LEFT.out.2.1 HP.out.2.1.2.2 b3) (keep_cross LEFT.out.2.1 HP.out.2.1.1)).mono ?_
        rintro e3 w3 ⟨rfl, d3, T3, hz3, hp3, hs3⟩
        go_wp2_with fail
        first | go_end0 | ((try simp only [Exit.inBlock, Exit.then]); refine bodyPost_ret (results_none rfl _ _ _) rfl ?_)
        have F := FIN.out d2 d3 LEFT.out.2.1 LEFT.out.2.2 hp3 hs3
        exact ⟨rfl, d3, T3, hz3.trans (LEFT.out.1.trans hs), F.1, F.2⟩
       ·have hs3 : SortedR Rr mid b d2 := none_left hh b3 b4 (keep_sorted LEFT.out.2.1 HP.out.2.1.2.1) (keep_sorted LEFT.out.2.1 HP.out.2.1.2.2 b3)
        have F := FIN.out d2 d2 LEFT.out.2.1 LEFT.out.2.2 (permIn_refl _ _ _) hs3
        have HF : Hid _ := F
        clear F hs3 HP FIN
        by_cases hh1 : mid < e
        ·have hh2 : ¬ e < b := fun h => hh ⟨hh1, h⟩
         have hh3 : (mid : Int) < (e : Int) := by omega
         have hh4 : ¬ (e : Int) < (b : Int) := by omega
         clear hh
         go_wp2_with fail
         first | go_end0 | ((try simp only [Exit.inBlock, Exit.then]); refine bodyPost_ret (results_none rfl _ _ _) rfl ?_)
         exact ⟨rfl, d2, S4.out, LEFT.out.1.trans hs, HF.out.1, HF.out.2⟩
        ·have hh3 : ¬ (mid : Int) < (e : Int) := by omega
         clear hh
         go_wp2_with fail
         first | go_end0 | ((try simp only [Exit.inBlock, Exit.then]); refine bodyPost_ret (results_none rfl _ _ _) rfl ?_)
         exact ⟨rfl, d2, S4.out, LEFT.out.1.trans hs, HF.out.1, HF.out.2⟩
      ·have hs2 : SortedR Rr a mid d := none_left hl b1 b2 HP.out.1.2.1 HP.out.1.2.2
       have LEFT : Hid (d.size = d0.size ∧ PermIn a mid d d ∧ SortedR Rr a mid d) := ⟨SZ.out, permIn_refl _ _ _, hs2⟩
       clear hs2
       by_cases hl1 : a < j
       ·have hl2 : ¬ j < mid := fun h => hl ⟨hl1, h⟩
        have hl3 : (a : Int) < (j : Int) := by omega
        have hl4 : ¬ (j : Int) < (mid : Int) := by omega
        clear hl
        by_cases hh : mid < e ∧ e < b
        ·have hh1 : (mid : Int) < (e : Int) := by omega
         have hh2 : (e : Int) < (b : Int) := by omega
         go_wp2_with fail
         refine (IH.out mid e b d _ (by omega) (LEFT.out.1.trans hs) S1.out hh.1 hh.2 (by omega) (keep_sorted LEFT.out.2.1 HP.out.2.1.2.1) (keep_sorted LEFT.out.2.1 HP.out.2.1.2.2 b3) (keep_cross LEFT.out.2.1 HP.out.2.1.1)).mono ?_
         rintro e3 w3 ⟨rfl, d3, T3, hz3, hp3, hs3⟩
         go_wp2_with fail
         first | go_end0 | ((try simp only [Exit.inBlock, Exit.then]); refine bodyPost_ret (results_none rfl _ _ _) rfl ?_)
         have F := FIN.out d d3 LEFT.out.2.1 LEFT.out.2.2 hp3 hs3
         exact ⟨rfl, d3, T3, hz3.trans (LEFT.out.1.trans hs), F.1, F.2⟩
        ·have hs3 : SortedR Rr mid b d := none_left hh b3 b4 (keep_sorted LEFT.out.2.1 HP.out.2.1.2.1) (keep_sorted LEFT.out.2.1 HP.out.2.1.2.2 b3)
         have F := FIN.out d d LEFT.out.2.1 LEFT.out.2.2 (permIn_refl _ _ _) hs3
         have HF : Hid _ := F
         clear F hs3 HP FIN
         by_cases hh1 : mid < e
         ·have hh2 : ¬ e < b := fun h => hh ⟨hh1, h⟩
          have hh3 : (mid : Int) < (e : Int) := by omega
          have hh4 : ¬ (e : Int) < (b : Int) := by omega
          clear hh
          go_wp2_with fail
          first | go_end0 | ((try simp only [Exit.inBlock, Exit.then]); refine bodyPost_ret (results_none rfl _ _ _) rfl ?_)
          exact ⟨rfl, d, S1.out, LEFT.out.1.trans hs, HF.out.1, HF.out.2⟩
         ·have hh3 : ¬ (mid : Int) < (e : Int) := by omega
          clear hh
          go_wp2_with fail
          first | go_end0 | ((try simp only [Exit.inBlock, Exit.then]); refine bodyPost_ret (results_none rfl _ _ _) rfl ?_)
          exact ⟨rfl, d, S1.out, LEFT.out.1.trans hs, HF.out.1, HF.out.2⟩
       ·have hl3 : ¬ (a : Int) < (j : Int) := by omega
        clear hl
        by_cases hh : mid < e ∧ e < b
        ·have hh1 : (mid : Int) < (e : Int) := by omega
         have hh2 : (e : Int) < (b : Int) := by omega
         go_wp2_with fail
         refine (IH.out mid e b d _ (by omega) (LEFT.out.1.trans hs) S1.out hh.1 hh.2 (by omega) (keep_sorted LEFT.out.2.1 HP.out.2.1.2.1) (keep_sorted LEFT.out.2.1 HP.out.2.1.2.2 b3) (keep_cross LEFT.out.2.1 HP.out.2.1.1)).mono ?_
         rintro e3 w3 ⟨rfl, d3, T3, hz3, hp3, hs3⟩
         go_wp2_with fail
         first | go_end0 | ((try simp only [Exit.inBlock, Exit.then]); refine bodyPost_ret (results_none rfl _ _ _) rfl ?_)
         have F := FIN.out d d3 LEFT.out.2.1 LEFT.out.2.2 hp3 hs3
         exact ⟨rfl, d3, T3, hz3.trans (LEFT.out.1.trans hs), F.1, F.2⟩
        ·have hs3 : SortedR Rr mid b d := none_left hh b3 b4 (keep_sorted LEFT.out.2.1 HP.out.2.1.2.1) (keep_sorted LEFT.out.2.1 HP.out.2.1.2.2 b3)
         have F := FIN.out d d LEFT.out.2.1 LEFT.out.2.2 (permIn_refl _ _ _) hs3
         have HF : Hid _ := F
         clear F hs3 HP FIN
         by_cases hh1 : mid < e
         ·have hh2 : ¬ e < b := fun h => hh ⟨hh1, h⟩
          have hh3 : (mid : Int) < (e : Int) := by omega
          have hh4 : ¬ (e : Int) < (b : Int) := by omega
          clear hh
          go_wp2_with fail
          first | go_end0 | ((try simp only [Exit.inBlock, Exit.then]); refine bodyPost_ret (results_none rfl _ _ _) rfl ?_)
          exact ⟨rfl, d, S1.out, LEFT.out.1.trans hs, HF.out.1, HF.out.2⟩
         ·have hh3 : ¬ (mid : Int) < (e : Int) := by omega
          clear hh
          go_wp2_with fail
          first | go_end0 | ((try simp only [Exit.inBlock, Exit.then]); refine bodyPost_ret (results_none rfl _ _ _) rfl ?_)
          exact ⟨rfl, d, S1.out, LEFT.out.1.trans hs, HF.out.1, HF.out.2⟩
     ·have hr3 : ¬ (j : Int) < (m : Int) := by omega
      clear hrot
      by_cases hl : a < j ∧ j < mid
      ·have hl1 : (a : Int) < (j : Int) := by omega
       have hl2 : (j : Int) < (mid : Int) := by omega
       go_wp2_with fail
       refine (IH.out a j mid d _ (by omega) (SZ.out.trans hs) S1.out hl.1 hl.2 (by omega) HP.out.1.2.1 HP.out.1.2.2 HP.out.1.1).mono ?_
       rintro e2 w2 ⟨rfl, d2, T2, hz2, hp2, hs2⟩
       have S4 : Aside (SWK enc k w0 blk off d2 w2) := T2
       have LEFT : Hid (d2.size = d0.size ∧ PermIn a mid d d2 ∧ SortedR Rr a mid d2) := ⟨hz2.trans SZ.out, hp2, hs2⟩
       clear S1 T2 hz2 hp2 hs2
       by_cases hh : mid < e ∧ e < b
       ·have hh1 : (mid : Int) < (e : Int) := by omega
        have hh2 : (e : Int) < (b : Int) := by omega
        go_wp2_with fail
        refine (IH.out mid e b d2 _ (by omega) (LEFT.out.1.trans hs) S4.out hh.1 hh.2 (by omega) (keep_sorted LEFT.out.2.1 HP.out.2.1.2.1) (keep_sorted LEFT.out.2.1 HP.out.2.1.2.2 b3) (keep_cross LEFT.out.2.1 HP.out.2.1.1)).mono ?_
        rintro e3 w3 ⟨rfl, d3, T3, hz3, hp3, hs3⟩
        go_wp2_with fail
        first | go_end0 | ((try simp only [Exit.inBlock, Exit.then]); refine bodyPost_ret (results_none rfl _ _ _) rfl ?_)
        have F := FIN.out d2 d3 LEFT.out.2.1 LEFT.out.2.2 hp3 hs3
        exact ⟨rfl, d3, T3, hz3.trans (LEFT.out.1.trans hs), F.1, F.2⟩
       ·have hs3 : SortedR Rr mid b d2 := none_left hh b3 b4 (keep_sorted LEFT.out.2.1 HP.out.2.1.2.1) (keep_sorted LEFT.out.2.1 HP.out.2.1.2.2 b3)
        have F := FIN.out d2 d2 LEFT.out.2.1 LEFT.out.2.2 (permIn_refl _ _ _) hs3
        have HF : Hid _ := F
        clear F hs3 HP FIN
        by_cases hh1 : mid < e
        ·have hh2 : ¬ e < b := fun h => hh ⟨hh1, h⟩
         have hh3 : (mid : Int) < (e : Int) := by omega
         have hh4 : ¬ (e : Int) < (b : Int) := by omega
         clear hh
         go_wp2_with fail
         first | go_end0 | ((try simp only [Exit.inBlock, Exit.then]); refine bodyPost_ret (results_none rfl _ _ _) rfl ?_)
         exact ⟨rfl, d2, S4.out, LEFT.out.1.trans hs, HF.out.1, HF.out.2⟩
        ·have hh3 : ¬ (mid : Int) < (e : Int) := by omega
         clear hh
         go_wp2_with fail
         first | go_end0 | ((try simp only [Exit.inBlock, Exit.then]); refine bodyPost_ret (results_none rfl _ _ _) rfl ?_)
         exact ⟨rfl, d2, S4.out, LEFT.out.1.trans hs, HF.out.1, HF.out.2⟩
      ·have hs2 : SortedR Rr a mid d := none_left hl b1 b2 HP.out.1.2.1 HP.out.1.2.2
       have LEFT : Hid (d.size = d0.size ∧ PermIn a mid d d ∧ SortedR Rr a mid d) := ⟨SZ.out, permIn_refl _ _ _, hs2⟩
       clear hs2
       by_cases hl1 : a < j
       ·have hl2 : ¬ j < mid := fun h => hl ⟨hl1, h⟩
        have hl3 : (a : Int) < (j : Int) := by omega
        have hl4 : ¬ (j : Int) < (mid : Int) := by omega
        clear hl
        by_cases hh : mid < e ∧ e < b
        ·have hh1 : (mid : Int) < (e : Int) := by omega
         have hh2 : (e : Int) < (b : Int) := by omega
         go_wp2_with fail
         refine (IH.out mid e b d _ (by omega) (LEFT.out.1.trans hs) S1.out hh.1 hh.2 (by omega) (keep_sorted LEFT.out.2.1 HP.out.2.1.2.1) (keep_sorted LEFT.out.2.1 HP.out.2.1.2.2 b3) (keep_cross LEFT.out.2.1 HP.out.2.1.1)).mono ?_
         rintro e3 w3 ⟨rfl, d3, T3, hz3, hp3, hs3⟩
         go_wp2_with fail
         first | go_end0 | ((try simp only [Exit.inBlock, Exit.then]); refine bodyPost_ret (results_none rfl _ _ _) rfl ?_)
         have F := FIN.out d d3 LEFT.out.2.1 LEFT.out.2.2 hp3 hs3
         exact ⟨rfl, d3, T3, hz3.trans (LEFT.out.1.trans hs), F.1, F.2⟩
        ·have hs3 : SortedR Rr mid b d := none_left hh b3 b4 (keep_sorted LEFT.out.2.1 HP.out.2.1.2.1) (keep_sorted LEFT.out.2.1 HP.out.2.1.2.2 b3)
         have F := FIN.out d d LEFT.out.2.1 LEFT.out.2.2 (permIn_refl _ _ _) hs3
         have HF : Hid _ := F
         clear F hs3 HP FIN
         by_cases hh1 : mid < e
         ·have hh2 : ¬ e < b := fun h => hh ⟨hh1, h⟩
          have hh3 : (mid : Int) < (e : Int) := by omega
          have hh4 : ¬ (e : Int) < (b : Int) := by omega
          clear hh
          go_wp2_with fail
          first | go_end0 | ((try simp only [Exit.inBlock, Exit.then]); refine bodyPost_ret (results_none rfl _ _ _) rfl ?_)
          exact ⟨rfl, d, S1.out, LEFT.out.1.trans hs, HF.out.1, HF.out.2⟩
         ·have hh3 : ¬ (mid : Int) < (e : Int) := by omega
          clear hh
          go_wp2_with fail
          first | go_end0 | ((try simp only [Exit.inBlock, Exit.then]); refine bodyPost_ret (results_none rfl _ _ _) rfl ?_)
          exact ⟨rfl, d, S1.out, LEFT.out.1.trans hs, HF.out.1, HF.out.2⟩
       ·have hl3 : ¬ (a : Int) < (j : Int) := by omega
        clear hl
        by_cases hh : mid < e ∧ e < b
        ·have hh1 : (mid : Int) < (e : Int) := by omega
         have hh2 : (e : Int) < (b : Int) := by omega
         go_wp2_with fail
         refine (IH.out mid e b d _ (by omega) (LEFT.out.1.trans hs) S1.out hh.1 hh.2 (by omega) (keep_sorted LEFT.out.2.1 HP.out.2.1.2.1) (keep_sorted LEFT.out.2.1 HP.out.2.1.2.2 b3) (keep_cross LEFT.out.2.1 HP.out.2.1.1)).mono ?_
         rintro e3 w3 ⟨rfl, d3, T3, hz3, hp3, hs3⟩
         go_wp2_with fail
         first | go_end0 | ((try simp only [Exit.inBlock, Exit.then]); refine bodyPost_ret (results_none rfl _ _ _) rfl ?_)
         have F := FIN.out d d3 LEFT.out.2.1 LEFT.out.2.2 hp3 hs3
         exact ⟨rfl, d3, T3, hz3.trans (LEFT.out.1.trans hs), F.1, F.2⟩
        ·have hs3 : SortedR Rr mid b d := none_left hh b3 b4 (keep_sorted LEFT.out.2.1 HP.out.2.1.2.1) (keep_sorted LEFT.out.2.1 HP.out.2.1.2.2 b3)
         have F := FIN.out d d LEFT.out.2.1 LEFT.out.2.2 (permIn_refl _ _ _) hs3
         have HF : Hid _ := F
         clear F hs3 HP FIN
         by_cases hh1 : mid < e
         ·have hh2 : ¬ e < b := fun h => hh ⟨hh1, h⟩
          have hh3 : (mid : Int) < (e : Int) := by omega
          have hh4 : ¬ (e : Int) < (b : Int) := by omega
          clear hh
          go_wp2_with fail
          first | go_end0 | ((try simp only [Exit.inBlock, Exit.then]); refine bodyPost_ret (results_none rfl _ _ _) rfl ?_)
          exact ⟨rfl, d, S1.out, LEFT.out.1.trans hs, HF.out.1, HF.out.2⟩
         ·have hh3 : ¬ (mid : Int) < (e : Int) := by omega
          clear hh
          go_wp2_with fail
          first | go_end0 | ((try simp only [Exit.inBlock, Exit.then]); refine bodyPost_ret (results_none rfl _ _ _) rfl ?_)
          exact ⟨rfl, d, S1.out, LEFT.out.1.trans hs, HF.out.1, HF.out.2⟩
end
end Go.Proofs.YtmmfjknnbkcniaaGreatDoor
