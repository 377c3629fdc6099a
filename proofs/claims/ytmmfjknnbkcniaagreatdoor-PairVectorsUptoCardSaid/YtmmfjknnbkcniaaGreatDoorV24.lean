/- slices.symMergeCmpFunc at weir/api.Elem: two sorted parts merged. -/
import Derived.Test.YtmmfjknnbkcniaaGreatDoorV23
import Derived.Test.YtmmfjknnbkcniaaGreatDoorProg
import Derived.Shelf.SlSortCmp.KitK
import Derived.Sort.WalkB2
import Derived.Sort.WalkB12
import Derived.Deep.LoopGhost
set_option maxHeartbeats 64000000
set_option maxRecDepth 100000
namespace Go.Proofs.YtmmfjknnbkcniaaGreatDoor
open Go.Shelf Go.RowKit Go.Lib Go.Sort Go.Stab
set_option linter.unusedVariables false
set_option linter.unusedSimpArgs false
section
variable {enc : Nat → List Value} {k blk off cap : Nat} {d0 : Array Nat} {w0 : World}
def SymPostE (Rr : Nat → Nat → Prop) (enc : Nat → List Value) (k : Nat) (w0 : World) (blk off a b : Nat) (d : Array Nat) (e : Ending) (w' : World) : Prop :=
 e = .returned (.tuple #[]) ∧ ∃ d' : Array Nat, SWK enc k w0 blk off d' w' ∧ d'.size = d.size ∧ PermIn a b d d' ∧ SortedR Rr a b d'
theorem symOneE (aE : ∀ w, (isAgg 34).run Tryz.prog w = .ok true w) (zE : ∀ w, (Go.sizeOf 34).run Tryz.prog w = .ok k w) (Rr : Nat → Nat → Prop) (O : Ord Rr) (cf : Nat → Nat → Int) (g : Nat) (cb : Array Value) (eg : ∀ args w, (callFunc g args).run Tryz.prog w = .ok (.enter g args) w) (hcmp : CmpLays Tryz.prog g cb enc k cf blk off d0.size w0) (HR : ∀ x y, x < y → (cf y x < 0 ↔ Rr y x)) (R : RowK enc k w0 blk off d0)
  (a m b : Nat) (d : Array Nat) (w : World) (hs : d0.size = d.size) (S : SWK enc k w0 blk off d w) (ham : a < m) (hmb : m < b) (hb : b ≤ d.size) (hsz : d.size < 2305843009213693952) (s1 : SortedR Rr a m d) (s2 : SortedR Rr m b d) (hc : Cross a m b d) (hone : m = a + 1) :
  Calls Tryz.prog 91 #[.slice (some ⟨blk, off, none⟩) d.size cap, .int .i64 a, .int .i64 m, .int .i64 b, .func (.func g) #[] cb] w (SymPostE Rr enc k w0 blk off a b d) := by
 have mixed : Tryz.prog.follows .mixedOrders = true := by kernel_rfl
 have HC : Aside _ := hcmp
 have S0 : Aside (SWK enc k w0 blk off d w) := S
 have HRR : Hid (∀ x y, x < y → (cf y x < 0 ↔ Rr y x)) := HR
 have HS1 : Hid _ := s1
 have HS2 : Hid _ := s2
 have HX : Hid _ := hc
 have HO : Hid _ := O
 clear hcmp S HR s1 s2 hc O
 have c1 : ((m : Int) - (a : Int) == 1) = true := by simp; omega
 have HONE : Hid _ := hone
 clear hone
 go_enter Tryz.func91, Tryz.ntmps91
 go_wp2
 go_loopg [10, 11] b (fun kx s10 s11 wr => ∃ i j : Nat, s10 = .int .i64 i ∧ s11 = .int .i64 j ∧ m ≤ i ∧ i ≤ j ∧ j ≤ b ∧ j - i ≤ kx ∧ Aside (SWK enc k w0 blk off d wr) ∧ Hid (∀ t, m ≤ t → t < i → Rr d[t]! d[a]!) ∧ Hid (∀ t, j ≤ t → t < b → ¬ Rr d[t]! d[a]!))
 case atStart => exact ⟨m, b, rfl, rfl, by omega, by omega, by omega, by omega, S0, (fun t h1 h2 => by omega), (fun t h1 h2 => by omega)⟩
 case round =>
  clear S0
  obtain ⟨i, j, rfl, rfl, him, hij, hjb, hkx, S1, Q1, Q2⟩ := hrel
  by_cases hlt : i < j
  ·have hltz : (i : Int) < (j : Int) := by omega
   have X1 : d[a]! < d[(i + j) / 2]! := HX.out a ((i + j) / 2) (by omega) (by omega) (by omega) (by omega)
   have XR := HRR.out _ _ X1
   have HXR : Hid _ := XR
   clear XR X1
   by_cases hv : cf d[(i + j) / 2]! d[a]! < 0
   ·have HV : Hid _ := hv
    clear hv
    obtain ⟨x1, hx1⟩ : ∃ zz, zz = d[(i + j) / 2]! := ⟨_, rfl⟩
    obtain ⟨y1, hy1⟩ : ∃ zz, zz = d[a]! := ⟨_, rfl⟩
    have ea1 : (((i : Int) + (j : Int)) / 2).toNat = (i + j) / 2 := by omega
    have ec1 : ((a : Int)).toNat = a := by omega
    have pa1 : (0 : Int) ≤ ((i : Int) + (j : Int)) / 2 := by omega
    have ba1 : ((i : Int) + (j : Int)) / 2 < (d.size : Int) := by omega
    have ra1 : IntKind.i64.wrap (((i : Int) + (j : Int)) / 2) = ((i : Int) + (j : Int)) / 2 := by rw [IntKind.wrap_i64]; omega
    have pc1 : (0 : Int) ≤ (a : Int) := by omega
    have bc1 : (a : Int) < (d.size : Int) := by omega
    have rc1 : IntKind.i64.wrap ((a : Int)) = (a : Int) := by rw [IntKind.wrap_i64]; omega
    have l1a := S1.out.ld R (by omega) Tryz.prog ((i + j) / 2) (by omega)
    have l1b := S1.out.ld R (by omega) Tryz.prog (a) (by omega)
    rw [← hx1] at l1a
    rw [← hy1] at l1b
    have hc1 := S1.out.cmp HC.out (by omega) x1 y1
    have hv1 : cf x1 y1 < 0 := by rw [hx1, hy1]; exact HV.out
    have hd1 : decide (cf x1 y1 < 0) = true := decide_eq_true hv1
    clear hx1 hy1
    go_wp2_with fail
    go_quiet_grown (first | (go_at_fn g; refine Calls.grown_of (hc1 _ _)))
    have S2 : Aside (SWK enc k w0 blk off d (grow (wr.drewN nq) osq)) := S1.out.grown nq osq
    clear l1a l1b hc1 S1
    generalize grow (wr.drewN nq) osq = w2 at S2 ⊢
    clear nq osq
    go_wp2
    go_roundg (j - ((i + j) / 2 + 1))
    case measure => omega
    case rel =>
     refine ⟨(i + j) / 2 + 1, j, by rw [show ((i : Int) + (j : Int)) / 2 + 1 = (((i + j) / 2 + 1 : Nat) : Int) by omega], rfl, by omega, by omega, hjb, Nat.le_refl _, S2, (fun t h1 h2 => ?_), Q2⟩
     have hy := HXR.out.1 HV.out
     rcases SortedR.le HS2.out (i := t) (j := (i + j) / 2) h1 (by omega) (by omega) with e | e
     ·rw [e]; exact hy
     ·exact HO.out.trans _ _ _ e hy
   ·have HV : Hid _ := hv
    clear hv
    obtain ⟨x2, hx2⟩ : ∃ zz, zz = d[(i + j) / 2]! := ⟨_, rfl⟩
    obtain ⟨y2, hy2⟩ : ∃ zz, zz = d[a]! := ⟨_, rfl⟩
    have ea2 : (((i : Int) + (j : Int)) / 2).toNat = (i + j) / 2 := by omega
    have ec2 : ((a : Int)).toNat = a := by omega
    have pa2 : (0 : Int) ≤ ((i : Int) + (j : Int)) / 2 := by omega
    have ba2 : ((i : Int) + (j : Int)) / 2 < (d.size : Int) := by omega
    have ra2 : IntKind.i64.wrap (((i : Int) + (j : Int)) / 2) = ((i : Int) + (j : Int)) / 2 := by rw [IntKind.wrap_i64]; omega
    have pc2 : (0 : Int) ≤ (a : Int) := by omega
    have bc2 : (a : Int) < (d.size : Int) := by omega
    have rc2 : IntKind.i64.wrap ((a : Int)) = (a : Int) := by rw [IntKind.wrap_i64]; omega
    have l2a := S1.out.ld R (by omega) Tryz.prog ((i + j) / 2) (by omega)
    have l2b := S1.out.ld R (by omega) Tryz.prog (a) (by omega)
    rw [← hx2] at l2a
    rw [← hy2] at l2b
    have hc2 := S1.out.cmp HC.out (by omega) x2 y2
    have hv2 : ¬ cf x2 y2 < 0 := by rw [hx2, hy2]; exact HV.out
    have hd2 : decide (cf x2 y2 < 0) = false := decide_eq_false hv2
    clear hx2 hy2
    go_wp2_with fail
    go_quiet_grown (first | (go_at_fn g; refine Calls.grown_of (hc2 _ _)))
    have S2 : Aside (SWK enc k w0 blk off d (grow (wr.drewN nq) osq)) := S1.out.grown nq osq
    clear l2a l2b hc2 S1
    generalize grow (wr.drewN nq) osq = w2 at S2 ⊢
    clear nq osq
    go_wp2
    go_roundg ((i + j) / 2 - i)
    case measure => omega
    case rel =>
     refine ⟨i, (i + j) / 2, rfl, by rw [show ((i : Int) + (j : Int)) / 2 = (((i + j) / 2 : Nat) : Int) by omega], him, by omega, by omega, Nat.le_refl _, S2, Q1, (fun t h1 h2 hy => ?_)⟩
     refine HV.out (HXR.out.2 ?_)
     rcases SortedR.le HS2.out (i := (i + j) / 2) (j := t) (by omega) h1 (by omega) with e | e
     ·rw [e]; exact hy
     ·exact HO.out.trans _ _ _ e hy
  ·have hltz : ¬ (i : Int) < (j : Int) := by omega
   have hij2 : j = i := by omega
   subst hij2
   go_wp2
   go_loopg [13] b (fun kx s13 wr => ∃ (q : Nat) (dk : Array Nat), s13 = .int .i64 q ∧ a ≤ q ∧ q + 1 ≤ j ∧ j - q ≤ kx ∧ dk.size = d.size ∧ Aside (SWK enc k w0 blk off dk wr) ∧ Hid (∀ t, dk[t]! = rotF (fun t => d[t]!) a (a + 1) (q + 1) t) ∧ Hid (PermIn a b d dk))
   case atStart => exact ⟨a, d, rfl, by omega, by omega, by omega, rfl, S1, (fun t => (rotF_none2 _ t (by omega)).symm), permIn_refl _ _ _⟩
   case round =>
    clear S1
    obtain ⟨q, dk, rfl, hqa, hqi, hkx2, hds, S1, HD, HP⟩ := hrel
    by_cases hlt2 : q + 1 < j
    ·have hltz2 : (q : Int) < (j : Int) - 1 := by omega
     go_wp2
     have ea3 : ((q : Int)).toNat = q := by omega
     have pa3 : (0 : Int) ≤ (q : Int) := by omega
     have ba3 : (q : Int) < (d.size : Int) := by omega
     have ra3 : IntKind.i64.wrap ((q : Int)) = (q : Int) := by rw [IntKind.wrap_i64]; omega
     have ec3 : ((q : Int) + 1).toNat = q + 1 := by omega
     have pc3 : (0 : Int) ≤ (q : Int) + 1 := by omega
     have bc3 : (q : Int) + 1 < (d.size : Int) := by omega
     have rc3 : IntKind.i64.wrap ((q : Int) + 1) = (q : Int) + 1 := by rw [IntKind.wrap_i64]; omega
     have S2 : Aside (SWK enc k w0 blk off (swp dk (q) (q + 1)) ((wr.drew.setCells blk (off + (q) * k) (enc dk[q + 1]!)).setCells blk (off + (q + 1) * k) (enc dk[q]!))) := S1.out.swapped R (q) (q + 1) (by omega) (by omega)
     have l3a := S1.out.ld1 R (by omega) Tryz.prog (q) (by omega)
     have l3b := S1.out.ld1 R (by omega) Tryz.prog (q + 1) (by omega)
     have s3a := S1.out.st1 R (by omega) Tryz.prog (q) (by omega) dk[q + 1]!
     have s3b := S1.out.st2 R (by omega) Tryz.prog (q) (q + 1) (by omega) (by omega) dk[q + 1]! dk[q]!
     have n3a : (enc dk[q]!).length = k := R.hk _
     have n3b : (enc dk[q + 1]!).length = k := R.hk _
     generalize enc dk[q]! = cI3 at S2 l3a s3b n3a
     generalize enc dk[q + 1]! = cJ3 at S2 l3b s3a s3b n3b
     clear S1
     go_wp2_with fail
     go_big_region
     clear l3a l3b s3a s3b
     generalize (wr.drew.setCells blk (off + (q) * k) cJ3).setCells blk (off + (q + 1) * k) cI3 = w2 at S2 ⊢
     go_wp2
     go_roundg (j - (q + 1))
     case measure => omega
     case rel =>
      refine ⟨q + 1, swp dk q (q + 1), by go_num, by omega, by omega, Nat.le_refl _, by rw [size_swp]; exact hds, S2, (fun t => ?_), permIn_trans _ _ _ _ _ HP.out (swp_permIn _ _ _ _ _ (by omega) (by omega) (by omega) (by omega) (by omega))⟩
      rw [swp_get dk (by omega) (by omega), HD.out q, HD.out (q + 1), HD.out t]
      exact rot_up _ hqa t
    ·have hltz2 : ¬ (q : Int) < (j : Int) - 1 := by omega
     have hq : q + 1 = j := by omega
     go_wp2
     first | go_end0 | ((try simp only [Exit.inBlock, Exit.then]); refine bodyPost_ret (results_none rfl _ _ _) rfl ?_)
     have hone := HONE.out
     subst hone
     subst hq
     exact ⟨rfl, dk, S1, hds, HP.out, ins_left HO.out HS2.out HX.out (i := q + 1) (by omega) (by omega) Q1.out Q2.out HD.out⟩
theorem symLastE (aE : ∀ w, (isAgg 34).run Tryz.prog w = .ok true w) (zE : ∀ w, (Go.sizeOf 34).run Tryz.prog w = .ok k w) (Rr : Nat → Nat → Prop) (O : Ord Rr) (cf : Nat → Nat → Int) (g : Nat) (cb : Array Value) (eg : ∀ args w, (callFunc g args).run Tryz.prog w = .ok (.enter g args) w) (hcmp : CmpLays Tryz.prog g cb enc k cf blk off d0.size w0) (HR : ∀ x y, x < y → (cf y x < 0 ↔ Rr y x)) (R : RowK enc k w0 blk off d0)
  (a m b : Nat) (d : Array Nat) (w : World) (hs : d0.size = d.size) (S : SWK enc k w0 blk off d w) (ham : a < m) (hmb : m < b) (hb : b ≤ d.size) (hsz : d.size < 2305843009213693952) (s1 : SortedR Rr a m d) (s2 : SortedR Rr m b d) (hc : Cross a m b d) (hne : m ≠ a + 1) (hone : b = m + 1) :
  Calls Tryz.prog 91 #[.slice (some ⟨blk, off, none⟩) d.size cap, .int .i64 a, .int .i64 m, .int .i64 b, .func (.func g) #[] cb] w (SymPostE Rr enc k w0 blk off a b d) := by
 have mixed : Tryz.prog.follows .mixedOrders = true := by kernel_rfl
 have HC : Aside _ := hcmp
 have S0 : Aside (SWK enc k w0 blk off d w) := S
 have HRR : Hid (∀ x y, x < y → (cf y x < 0 ↔ Rr y x)) := HR
 have HS1 : Hid _ := s1
 have HS2 : Hid _ := s2
 have HX : Hid _ := hc
 have HO : Hid _ := O
 clear hcmp S HR s1 s2 hc O
 have c1 : ((m : Int) - (a : Int) == 1) = false := by simp; omega
 have c2 : ((b : Int) - (m : Int) == 1) = true := by simp; omega
 have HONE : Hid _ := hone
 clear hone hne
 go_enter Tryz.func91, Tryz.ntmps91
 go_wp2
 go_loopg [14, 15] b (fun kx s14 s15 wr => ∃ i j : Nat, s14 = .int .i64 i ∧ s15 = .int .i64 j ∧ a ≤ i ∧ i ≤ j ∧ j ≤ m ∧ j - i ≤ kx ∧ Aside (SWK enc k w0 blk off d wr) ∧ Hid (∀ t, a ≤ t → t < i → ¬ Rr d[m]! d[t]!) ∧ Hid (∀ t, j ≤ t → t < m → Rr d[m]! d[t]!))
 case atStart => exact ⟨a, m, rfl, rfl, by omega, by omega, by omega, by omega, S0, (fun t h1 h2 => by omega), (fun t h1 h2 => by omega)⟩
 case round =>
  clear S0
  obtain ⟨i, j, rfl, rfl, him, hij, hjb, hkx, S1, Q1, Q2⟩ := hrel
  by_cases hlt : i < j
  ·have hltz : (i : Int) < (j : Int) := by omega
   have X1 : d[(i + j) / 2]! < d[m]! := HX.out ((i + j) / 2) m (by omega) (by omega) (by omega) (by omega)
   have XR := HRR.out _ _ X1
   have HXR : Hid _ := XR
   clear XR X1
   by_cases hv : cf d[m]! d[(i + j) / 2]! < 0
   ·have HV : Hid _ := hv
    clear hv
    obtain ⟨x4, hx4⟩ : ∃ zz, zz = d[m]! := ⟨_, rfl⟩
    obtain ⟨y4, hy4⟩ : ∃ zz, zz = d[(i + j) / 2]! := ⟨_, rfl⟩
    have ea4 : ((m : Int)).toNat = m := by omega
    have ec4 : (((i : Int) + (j : Int)) / 2).toNat = (i + j) / 2 := by omega
    have pa4 : (0 : Int) ≤ (m : Int) := by omega
    have ba4 : (m : Int) < (d.size : Int) := by omega
    have ra4 : IntKind.i64.wrap ((m : Int)) = (m : Int) := by rw [IntKind.wrap_i64]; omega
    have pc4 : (0 : Int) ≤ ((i : Int) + (j : Int)) / 2 := by omega
    have bc4 : ((i : Int) + (j : Int)) / 2 < (d.size : Int) := by omega
    have rc4 : IntKind.i64.wrap (((i : Int) + (j : Int)) / 2) = ((i : Int) + (j : Int)) / 2 := by rw [IntKind.wrap_i64]; omega
    have l4a := S1.out.ld R (by omega) Tryz.prog (m) (by omega)
    have l4b := S1.out.ld R (by omega) Tryz.prog ((i + j) / 2) (by omega)
    rw [← hx4] at l4a
    rw [← hy4] at l4b
    have hc4 := S1.out.cmp HC.out (by omega) x4 y4
    have hv4 : cf x4 y4 < 0 := by rw [hx4, hy4]; exact HV.out
    have hd4 : decide (cf x4 y4 < 0) = true := decide_eq_true hv4
    clear hx4 hy4
    go_wp2_with fail
    go_quiet_grown (first | (go_at_fn g; refine Calls.grown_of (hc4 _ _)))
    have S2 : Aside (SWK enc k w0 blk off d (grow (wr.drewN nq) osq)) := S1.out.grown nq osq
    clear l4a l4b hc4 S1
    generalize grow (wr.drewN nq) osq = w2 at S2 ⊢
    clear nq osq
    go_wp2
    go_roundg ((i + j) / 2 - i)
    case measure => omega
    case rel =>
     refine ⟨i, (i + j) / 2, rfl, by rw [show ((i : Int) + (j : Int)) / 2 = (((i + j) / 2 : Nat) : Int) by omega], him, by omega, by omega, Nat.le_refl _, S2, Q1, (fun t h1 h2 => ?_)⟩
     have hy := HXR.out.1 HV.out
     rcases SortedR.le HS1.out (i := (i + j) / 2) (j := t) (by omega) h1 (by omega) with e | e
     ·rw [← e]; exact hy
     ·exact HO.out.trans _ _ _ hy e
   ·have HV : Hid _ := hv
    clear hv
    obtain ⟨x5, hx5⟩ : ∃ zz, zz = d[m]! := ⟨_, rfl⟩
    obtain ⟨y5, hy5⟩ : ∃ zz, zz = d[(i + j) / 2]! := ⟨_, rfl⟩
    have ea5 : ((m : Int)).toNat = m := by omega
    have ec5 : (((i : Int) + (j : Int)) / 2).toNat = (i + j) / 2 := by omega
    have pa5 : (0 : Int) ≤ (m : Int) := by omega
    have ba5 : (m : Int) < (d.size : Int) := by omega
    have ra5 : IntKind.i64.wrap ((m : Int)) = (m : Int) := by rw [IntKind.wrap_i64]; omega
    have pc5 : (0 : Int) ≤ ((i : Int) + (j : Int)) / 2 := by omega
    have bc5 : ((i : Int) + (j : Int)) / 2 < (d.size : Int) := by omega
    have rc5 : IntKind.i64.wrap (((i : Int) + (j : Int)) / 2) = ((i : Int) + (j : Int)) / 2 := by rw [IntKind.wrap_i64]; omega
    have l5a := S1.out.ld R (by omega) Tryz.prog (m) (by omega)
    have l5b := S1.out.ld R (by omega) Tryz.prog ((i + j) / 2) (by omega)
    rw [← hx5] at l5a
    rw [← hy5] at l5b
    have hc5 := S1.out.cmp HC.out (by omega) x5 y5
    have hv5 : ¬ cf x5 y5 < 0 := by rw [hx5, hy5]; exact HV.out
    have hd5 : decide (cf x5 y5 < 0) = false := decide_eq_false hv5
    clear hx5 hy5
    go_wp2_with fail
    go_quiet_grown (first | (go_at_fn g; refine Calls.grown_of (hc5 _ _)))
    have S2 : Aside (SWK enc k w0 blk off d (grow (wr.drewN nq) osq)) := S1.out.grown nq osq
    clear l5a l5b hc5 S1
    generalize grow (wr.drewN nq) osq = w2 at S2 ⊢
    clear nq osq
    go_wp2
    go_roundg (j - ((i + j) / 2 + 1))
    case measure => omega
    case rel =>
     refine ⟨(i + j) / 2 + 1, j, by rw [show ((i : Int) + (j : Int)) / 2 + 1 = (((i + j) / 2 + 1 : Nat) : Int) by omega], rfl, by omega, by omega, hjb, Nat.le_refl _, S2, (fun t h1 h2 hy => ?_), Q2⟩
     refine HV.out (HXR.out.2 ?_)
     rcases SortedR.le HS1.out (i := t) (j := (i + j) / 2) h1 (by omega) (by omega) with e | e
     ·rw [← e]; exact hy
     ·exact HO.out.trans _ _ _ hy e
  ·have hltz : ¬ (i : Int) < (j : Int) := by omega
   have hij2 : j = i := by omega
   subst hij2
   go_wp2
   go_loopg [17] b (fun kx s17 wr => ∃ (q : Nat) (dk : Array Nat), s17 = .int .i64 q ∧ j ≤ q ∧ q ≤ m ∧ q ≤ kx ∧ dk.size = d.size ∧ Aside (SWK enc k w0 blk off dk wr) ∧ Hid (∀ t, dk[t]! = rotF (fun t => d[t]!) q m (m + 1) t) ∧ Hid (PermIn a b d dk))
   case atStart => exact ⟨m, d, rfl, by omega, by omega, by omega, rfl, S1, (fun t => (rotF_none1 _ t (by omega)).symm), permIn_refl _ _ _⟩
   case round =>
    clear S1
    obtain ⟨q, dk, rfl, hqa, hqi, hkx2, hds, S1, HD, HP⟩ := hrel
    by_cases hlt2 : j < q
    ·have hltz2 : (j : Int) < (q : Int) := by omega
     obtain ⟨qp, rfl⟩ : ∃ qp, q = qp + 1 := ⟨q - 1, by omega⟩
     have eqp : ((qp + 1 : Nat) : Int) - 1 = (qp : Int) := by omega
     go_wp2
     have ea6 : ((qp : Int) + 1).toNat = qp + 1 := by omega
     have pa6 : (0 : Int) ≤ (qp : Int) + 1 := by omega
     have ba6 : (qp : Int) + 1 < (d.size : Int) := by omega
     have ra6 : IntKind.i64.wrap ((qp : Int) + 1) = (qp : Int) + 1 := by rw [IntKind.wrap_i64]; omega
     have ec6 : ((qp : Int)).toNat = qp := by omega
     have pc6 : (0 : Int) ≤ (qp : Int) := by omega
     have bc6 : (qp : Int) < (d.size : Int) := by omega
     have rc6 : IntKind.i64.wrap ((qp : Int)) = (qp : Int) := by rw [IntKind.wrap_i64]; omega
     have S2 : Aside (SWK enc k w0 blk off (swp dk (qp + 1) (qp)) ((wr.drew.setCells blk (off + (qp + 1) * k) (enc dk[qp]!)).setCells blk (off + (qp) * k) (enc dk[qp + 1]!))) := S1.out.swapped R (qp + 1) (qp) (by omega) (by omega)
     have l6a := S1.out.ld1 R (by omega) Tryz.prog (qp + 1) (by omega)
     have l6b := S1.out.ld1 R (by omega) Tryz.prog (qp) (by omega)
     have s6a := S1.out.st1 R (by omega) Tryz.prog (qp + 1) (by omega) dk[qp]!
     have s6b := S1.out.st2 R (by omega) Tryz.prog (qp + 1) (qp) (by omega) (by omega) dk[qp]! dk[qp + 1]!
     have n6a : (enc dk[qp + 1]!).length = k := R.hk _
     have n6b : (enc dk[qp]!).length = k := R.hk _
     generalize enc dk[qp + 1]! = cI6 at S2 l6a s6b n6a
     generalize enc dk[qp]! = cJ6 at S2 l6b s6a s6b n6b
     clear S1
     go_wp2_with fail
     go_big_region
     clear l6a l6b s6a s6b
     generalize (wr.drew.setCells blk (off + (qp + 1) * k) cJ6).setCells blk (off + (qp) * k) cI6 = w2 at S2 ⊢
     go_wp2
     go_roundg qp
     case measure => omega
     case rel =>
      refine ⟨qp, swp dk (qp + 1) qp, by go_num, by omega, by omega, Nat.le_refl _, by rw [size_swp]; exact hds, S2, (fun t => ?_), permIn_trans _ _ _ _ _ HP.out (swp_permIn _ _ _ _ _ (by omega) (by omega) (by omega) (by omega) (by omega))⟩
      rw [swp_get dk (by omega) (by omega), HD.out qp, HD.out (qp + 1), HD.out t]
      exact rot_down _ hqi t
    ·have hltz2 : ¬ (j : Int) < (q : Int) := by omega
     have hq : q = j := by omega
     go_wp2
     first | go_end0 | ((try simp only [Exit.inBlock, Exit.then]); refine bodyPost_ret (results_none rfl _ _ _) rfl ?_)
     have hone := HONE.out
     subst hone
     subst hq
     exact ⟨rfl, dk, S1, hds, HP.out, ins_right HO.out HS1.out HX.out (i := q) (by omega) (by omega) Q1.out Q2.out HD.out⟩
end
end Go.Proofs.YtmmfjknnbkcniaaGreatDoor
