/- slices.insertionSortCmpFunc at weir/api.Elem: a block sorted, equals by their places. slices.SortStableFunc at weir/api.Elem: the row sorted, equals by their places. slices.SortStableFunc at weir/api.Elem: what the row holds is the list, sorted by merging. weirref16.Valid: is this a label set? -/
import Derived.Test.YtmmfjknnbkcniaaGreatDoorV24
import Derived.Test.YtmmfjknnbkcniaaGreatDoorProg
import Derived.Shelf.SlSortCmp.KitK
import Derived.Sort.WalkB2
import Derived.Sort.WalkB12
import Derived.Deep.LoopGhost
import Derived.Test.YtmmfjknnbkcniaaGreatDoorV25
import Derived.Test.YtmmfjknnbkcniaaGreatDoorV05
import Derived.Test.YtmmfjknnbkcniaaGreatDoorV04
set_option maxHeartbeats 64000000
set_option maxRecDepth 100000
namespace Go.Proofs.YtmmfjknnbkcniaaGreatDoor
open Go.Shelf Go.RowKit Go.Lib Go.Sort Go.Stab
set_option linter.unusedVariables false
set_option linter.unusedSimpArgs false
section
variable {enc : Nat → List Value} {k blk off cap : Nat} {d0 : Array Nat} {w0 : World}
theorem insSortE (aE : ∀ w, (isAgg 34).run Tryz.prog w = .ok true w) (zE : ∀ w, (Go.sizeOf 34).run Tryz.prog w = .ok k w) (Rr : Nat → Nat → Prop) (O : Ord Rr) (cf : Nat → Nat → Int) (g : Nat) (cb : Array Value) (eg : ∀ args w, (callFunc g args).run Tryz.prog w = .ok (.enter g args) w) (hcmp : CmpLays Tryz.prog g cb enc k cf blk off d0.size w0) (HR : ∀ x y, x < y → (cf y x < 0 ↔ Rr y x)) (R : RowK enc k w0 blk off d0)
  (a b : Nat) (d : Array Nat) (w : World) (hs : d0.size = d.size) (S : SWK enc k w0 blk off d w) (hab : a ≤ b) (hb : b ≤ d.size) (hsz : d.size < 2305843009213693952) (hasc : ∀ i j, a ≤ i → i < j → j < b → d[i]! < d[j]!) :
  Calls Tryz.prog 90 #[.slice (some ⟨blk, off, none⟩) d.size cap, .int .i64 a, .int .i64 b, .func (.func g) #[] cb] w (SymPostE Rr enc k w0 blk off a b d) := by
 have mixed : Tryz.prog.follows .mixedOrders = true := by kernel_rfl
 have HC : Aside _ := hcmp
 have S0 : Aside (SWK enc k w0 blk off d w) := S
 have HRR : Hid (∀ x y, x < y → (cf y x < 0 ↔ Rr y x)) := HR
 have HX : Hid _ := hasc
 have HO : Hid _ := O
 clear hcmp S HR hasc O
 go_enter Tryz.func90, Tryz.ntmps90
 go_wp2
 go_loopg [8] (b - a) (fun kx s8 wr => ∃ (i : Nat) (dk : Array Nat), s8 = .int .i64 i ∧ a < i ∧ i ≤ b + 1 ∧ b - i ≤ kx ∧ dk.size = d.size ∧ Aside (SWK enc k w0 blk off dk wr) ∧ Hid (SortedR Rr a (min i b) dk) ∧ Hid (PermIn a (min i b) d dk))
 case atStart => exact ⟨a + 1, d, by go_num, by omega, by omega, by omega, rfl, S0, (fun x y h1 h2 h3 => by omega), permIn_refl _ _ _⟩
 case round =>
  clear S0
  obtain ⟨i, dk, rfl, hai, hib, hkx, hds, S1, HS, HP⟩ := hrel
  by_cases hlt : i < b
  ·have hltz : (i : Int) < (b : Int) := by omega
   have hmin : min i b = i := Nat.min_eq_left (Nat.le_of_lt hlt)
   rw [hmin] at HS HP
   have HX2 : Hid (Cross a i (i + 1) dk) := fun t t' h1 h2 h3 h4 => by
    have e : t' = i := by omega
    subst e
    rw [HP.out.2.1 t' (by omega)]
    exact permIn_all d dk a t' (fun x => x < d[t']!) (by omega) HP.out (fun q hq hq' => HX.out q t' hq hq' hlt) t h1 h2
   clear hmin
   go_wp2
   go_loopg [9] i (fun kx2 s9 wr => ∃ (j : Nat) (dj : Array Nat), s9 = .int .i64 j ∧ a ≤ j ∧ j ≤ i ∧ j ≤ kx2 ∧ dj.size = d.size ∧ Aside (SWK enc k w0 blk off dj wr) ∧ Hid (∀ t, dj[t]! = rotF (fun t => dk[t]!) j i (i + 1) t) ∧ Hid (∀ t, j ≤ t → t < i → Rr dk[i]! dk[t]!) ∧ Hid (PermIn a (i + 1) d dj))
   case atStart => exact ⟨i, dk, rfl, by omega, by omega, by omega, hds, S1, (fun t => (rotF_none1 _ t (by omega)).symm), (fun t h1 h2 => by omega), permIn_mono _ _ _ _ _ _ (by omega) (by omega) (by omega) HP.out⟩
   case round =>
    clear S1
    obtain ⟨j, dj, rfl, haj, hji, hkx2, hdj, S1, HD, HQ, HP2⟩ := hrel
    -- the way out of the inner loop
    have OUT : Hid ((∀ t, a ≤ t → t < j → ¬ Rr dk[i]! dk[t]!) → SortedR Rr a (min (i + 1) b) dj ∧ PermIn a (min (i + 1) b) d dj) := fun hq => by
     rw [Nat.min_eq_left (by omega)]
     exact ⟨ins_right HO.out HS.out HX2.out (i := j) haj hji hq HQ.out HD.out, HP2.out⟩
    by_cases hja : a < j
    ·obtain ⟨jp, rfl⟩ : ∃ jp, j = jp + 1 := ⟨j - 1, by omega⟩
     have hjaz : (a : Int) < (jp : Int) + 1 := by omega
     have hjd : decide ((jp : Int) + 1 > (a : Int)) = true := decide_eq_true hjaz
     have v1 : dj[jp + 1]! = dk[i]! := by rw [HD.out]; unfold rotF; rw [if_pos (by omega)]; congr 1; omega
     have v2 : dj[jp]! = dk[jp]! := by rw [HD.out]; unfold rotF; rw [if_neg (by omega), if_neg (by omega)]
     have XR := HRR.out _ _ (HX2.out jp i (by omega) (by omega) (by omega) (by omega))
     rw [← v1, ← v2] at XR
     have HXR : Hid _ := XR
     have HV12 : Hid (dj[jp + 1]! = dk[i]! ∧ dj[jp]! = dk[jp]!) := ⟨v1, v2⟩
     clear XR v1 v2
     by_cases hv : cf dj[jp + 1]! dj[jp]! < 0
     ·have HV : Hid _ := hv
      clear hv
      obtain ⟨x1, hx1⟩ : ∃ zz, zz = dj[jp + 1]! := ⟨_, rfl⟩
      obtain ⟨y1, hy1⟩ : ∃ zz, zz = dj[jp]! := ⟨_, rfl⟩
      have ea1 : ((jp : Int) + 1).toNat = jp + 1 := by omega
      have ec1 : ((jp : Int)).toNat = jp := by omega
      have pa1 : (0 : Int) ≤ (jp : Int) + 1 := by omega
      have ba1 : (jp : Int) + 1 < (d.size : Int) := by omega
      have ra1 : IntKind.i64.wrap ((jp : Int) + 1) = (jp : Int) + 1 := by rw [IntKind.wrap_i64]; omega
      have pc1 : (0 : Int) ≤ (jp : Int) := by omega
      have bc1 : (jp : Int) < (d.size : Int) := by omega
      have rc1 : IntKind.i64.wrap ((jp : Int)) = (jp : Int) := by rw [IntKind.wrap_i64]; omega
      have l1a := S1.out.ld R (by omega) Tryz.prog (jp + 1) (by omega)
      have l1b := S1.out.ld R (by omega) Tryz.prog (jp) (by omega)
      rw [← hx1] at l1a
      rw [← hy1] at l1b
      have hc1 := S1.out.cmp HC.out (by omega) x1 y1
      have hv1 : cf x1 y1 < 0 := by rw [hx1, hy1]; exact HV.out
      have hd1 : decide (cf x1 y1 < 0) = true := decide_eq_true hv1
      clear hx1 hy1
      go_wp2_with fail
      go_quiet_grown (first | (go_at_fn g; refine Calls.grown_of (hc1 _ _)))
      have S2 : Aside (SWK enc k w0 blk off dj (grow (wr.drewN nq) osq)) := S1.out.grown nq osq
      clear l1a l1b hc1 S1
      generalize grow (wr.drewN nq) osq = w2 at S2 ⊢
      clear nq osq
      go_wp2_with fail
      have ea3 : ((jp : Int) + 1).toNat = jp + 1 := by omega
      have pa3 : (0 : Int) ≤ (jp : Int) + 1 := by omega
      have ba3 : (jp : Int) + 1 < (d.size : Int) := by omega
      have ra3 : IntKind.i64.wrap ((jp : Int) + 1) = (jp : Int) + 1 := by rw [IntKind.wrap_i64]; omega
      have ec3 : ((jp : Int)).toNat = jp := by omega
      have pc3 : (0 : Int) ≤ (jp : Int) := by omega
      have bc3 : (jp : Int) < (d.size : Int) := by omega
      have rc3 : IntKind.i64.wrap ((jp : Int)) = (jp : Int) := by rw [IntKind.wrap_i64]; omega
      have S3 : Aside (SWK enc k w0 blk off (swp dj (jp + 1) (jp)) ((w2.drew.setCells blk (off + (jp + 1) * k) (enc dj[jp]!)).setCells blk (off + (jp) * k) (enc dj[jp + 1]!))) := S2.out.swapped R (jp + 1) (jp) (by omega) (by omega)
      have l3a := S2.out.ld1 R (by omega) Tryz.prog (jp + 1) (by omega)
      have l3b := S2.out.ld1 R (by omega) Tryz.prog (jp) (by omega)
      have s3a := S2.out.st1 R (by omega) Tryz.prog (jp + 1) (by omega) dj[jp]!
      have s3b := S2.out.st2 R (by omega) Tryz.prog (jp + 1) (jp) (by omega) (by omega) dj[jp]! dj[jp + 1]!
      have n3a : (enc dj[jp + 1]!).length = k := R.hk _
      have n3b : (enc dj[jp]!).length = k := R.hk _
      generalize enc dj[jp + 1]! = cI3 at S3 l3a s3b n3a
      generalize enc dj[jp]! = cJ3 at S3 l3b s3a s3b n3b
      clear S2
      go_wp2_with fail
      go_big_region
      clear l3a l3b s3a s3b
      generalize (w2.drew.setCells blk (off + (jp + 1) * k) cJ3).setCells blk (off + (jp) * k) cI3 = w3 at S3 ⊢
      go_wp2
      go_roundg jp
      case measure => omega
      case rel =>
       refine ⟨jp, swp dj (jp + 1) jp, by go_num, by omega, by omega, Nat.le_refl _, by rw [size_swp]; exact hdj, S3, (fun t => ?_), (fun t h1 h2 => ?_), permIn_trans _ _ _ _ _ HP2.out (swp_permIn _ _ _ _ _ (by omega) (by omega) (by omega) (by omega) (by omega))⟩
       ·rw [swp_get dj (by omega) (by omega), HD.out jp, HD.out (jp + 1), HD.out t]
        exact rot_down _ hji t
       ·by_cases h3 : t = jp
        ·subst h3
         have := HXR.out.1 HV.out
         rwa [HV12.out.1, HV12.out.2] at this
        ·exact HQ.out t (by omega) h2
     ·have HV : Hid _ := hv
      clear hv
      obtain ⟨x2, hx2⟩ : ∃ zz, zz = dj[jp + 1]! := ⟨_, rfl⟩
      obtain ⟨y2, hy2⟩ : ∃ zz, zz = dj[jp]! := ⟨_, rfl⟩
      have ea2 : ((jp : Int) + 1).toNat = jp + 1 := by omega
      have ec2 : ((jp : Int)).toNat = jp := by omega
      have pa2 : (0 : Int) ≤ (jp : Int) + 1 := by omega
      have ba2 : (jp : Int) + 1 < (d.size : Int) := by omega
      have ra2 : IntKind.i64.wrap ((jp : Int) + 1) = (jp : Int) + 1 := by rw [IntKind.wrap_i64]; omega
      have pc2 : (0 : Int) ≤ (jp : Int) := by omega
      have bc2 : (jp : Int) < (d.size : Int) := by omega
      have rc2 : IntKind.i64.wrap ((jp : Int)) = (jp : Int) := by rw [IntKind.wrap_i64]; omega
      have l2a := S1.out.ld R (by omega) Tryz.prog (jp + 1) (by omega)
      have l2b := S1.out.ld R (by omega) Tryz.prog (jp) (by omega)
      rw [← hx2] at l2a
      rw [← hy2] at l2b
      have hc2 := S1.out.cmp HC.out (by omega) x2 y2
      have hv2 : ¬ cf x2 y2 < 0 := by rw [hx2, hy2]; exact HV.out
      have hd2 : decide (cf x2 y2 < 0) = false := decide_eq_false hv2
      clear hx2 hy2
      go_wp2_with fail
      go_quiet_grown (first | (go_at_fn g; refine Calls.grown_of (hc2 _ _)))
      have S2 : Aside (SWK enc k w0 blk off dj (grow (wr.drewN nq) osq)) := S1.out.grown nq osq
      clear l2a l2b hc2 S1
      generalize grow (wr.drewN nq) osq = w2 at S2 ⊢
      clear nq osq
      go_wp2
      go_roundg (b - (i + 1))
      case measure => omega
      case rel =>
       have F := OUT.out (fun t h1 h2 hy => by
        refine HV.out (HXR.out.2 ?_)
        rw [HV12.out.1, HV12.out.2]
        rcases SortedR.le HS.out (i := t) (j := jp) h1 (by omega) (by omega) with e | e
        ·rw [← e]; exact hy
        ·exact HO.out.trans _ _ _ hy e)
       exact ⟨i + 1, dj, by go_num, by omega, by omega, Nat.le_refl _, hdj, S2, F.1, F.2⟩
    ·have hjaz : ¬ (a : Int) < (j : Int) := by omega
     have hjd : decide ((j : Int) > (a : Int)) = false := decide_eq_false hjaz
     have S2 : Aside (SWK enc k w0 blk off dj wr.drew) := S1.out.drew
     clear S1
     go_wp2_with fail
     go_big_region
     all_goals go_wp2
     go_roundg (b - (i + 1))
     case measure => omega
     case rel =>
      have F := OUT.out (fun t h1 h2 => by omega)
      exact ⟨i + 1, dj, by go_num, by omega, by omega, Nat.le_refl _, hdj, S2, F.1, F.2⟩
  ·have hltz : ¬ (i : Int) < (b : Int) := by omega
   go_wp2
   go_end0
   have hmin : min i b = b := Nat.min_eq_right (by omega)
   rw [hmin] at HS HP
   exact ⟨rfl, dk, S1, hds, HP.out, HS.out⟩
end
end Go.Proofs.YtmmfjknnbkcniaaGreatDoor
namespace Go.Proofs.YtmmfjknnbkcniaaGreatDoor
open Go.Shelf Go.RowKit Go.Lib Go.Sort Go.Stab
set_option linter.unusedVariables false
set_option linter.unusedSimpArgs false
section
variable {enc : Nat → List Value} {k blk off cap : Nat} {d0 : Array Nat} {w0 : World}
theorem symAllE (aE : ∀ w, (isAgg 34).run Tryz.prog w = .ok true w) (zE : ∀ w, (Go.sizeOf 34).run Tryz.prog w = .ok k w) (Rr : Nat → Nat → Prop) (O : Ord Rr) (cf : Nat → Nat → Int) (g : Nat) (cb : Array Value) (eg : ∀ args w, (callFunc g args).run Tryz.prog w = .ok (.enter g args) w) (hcmp : CmpLays Tryz.prog g cb enc k cf blk off d0.size w0) (HR : ∀ x y, x < y → (cf y x < 0 ↔ Rr y x)) (R : RowK enc k w0 blk off d0) (hsz : d0.size < 2305843009213693952) : ∀ N, SymOKE Rr enc k w0 blk off cap d0.size g cb N := by
 intro N
 induction N with
 | zero => intro a m b d w hN _ _ h1 h2; omega
 | succ N ih =>
  intro a m b d w hN hd S ham hmb hb s1 s2 hc
  rw [← hd] at hb hsz ⊢
  by_cases c1 : m = a + 1
  ·exact symOneE aE zE Rr O cf g cb eg hcmp HR R a m b d w hd.symm S ham hmb hb hsz s1 s2 hc c1
  ·by_cases c2 : b = m + 1
   ·exact symLastE aE zE Rr O cf g cb eg hcmp HR R a m b d w hd.symm S ham hmb hb hsz s1 s2 hc c1 c2
   ·refine symMidE aE zE Rr O cf g cb eg hcmp HR R a m b d w hd.symm S ham hmb hb hsz s1 s2 hc c1 c2 ?_
    intro a' m' b' d' w' hN' hd'
    rw [hd]
    rw [hd] at hd'
    exact ih a' m' b' d' w' (by omega) hd'
theorem stableE (aE : ∀ w, (isAgg 34).run Tryz.prog w = .ok true w) (zE : ∀ w, (Go.sizeOf 34).run Tryz.prog w = .ok k w) (Rr : Nat → Nat → Prop) (O : Ord Rr) (cf : Nat → Nat → Int) (g : Nat) (cb : Array Value) (eg : ∀ args w, (callFunc g args).run Tryz.prog w = .ok (.enter g args) w) (hcmp : CmpLays Tryz.prog g cb enc k cf blk off d0.size w0) (HR : ∀ x y, x < y → (cf y x < 0 ↔ Rr y x)) (R : RowK enc k w0 blk off d0)
  (d : Array Nat) (w : World) (hs : d0.size = d.size) (S : SWK enc k w0 blk off d w) (hsz : d.size < 2305843009213693952) (hid : ∀ i, i < d.size → d[i]! = i) :
  Calls Tryz.prog 55 #[.slice (some ⟨blk, off, none⟩) d.size cap, .int .i64 d.size, .func (.func g) #[] cb] w (SymPostE Rr enc k w0 blk off 0 d.size d) := by
 have sym := symAllE (cap := cap) aE zE Rr O cf g cb eg hcmp HR R (by omega)
 have INS : Hid _ := insSortE (cap := cap) aE zE Rr O cf g cb eg hcmp HR R
 have S0 : Aside (SWK enc k w0 blk off d w) := S
 have HID : Hid (∀ i, i < d.size → d[i]! = i) := hid
 obtain ⟨n, hn⟩ : ∃ zz, zz = d.size := ⟨_, rfl⟩
 clear hcmp S HR eg hid
 rw [← hn] at hsz hs
 rw [hs] at sym
 have SYM : Hid (∀ N, SymOKE Rr enc k w0 blk off cap n g cb N) := sym
 clear sym
 have hD : Hid (n = d.size) := hn
 rw [← hn]
 rw [← hn] at HID
 clear hn
 go_enter Tryz.func55, Tryz.ntmps55
 go_wp2
 go_loopg [7, 8] n (fun kx s7 s8 wr => ∃ (a b q : Nat) (dk : Array Nat), s7 = .int .i64 a ∧ s8 = .int .i64 b ∧ Hid (a = q * 20 ∧ b = a + 20) ∧ a ≤ n ∧ n - a ≤ kx ∧ dk.size = n ∧ Aside (SWK enc k w0 blk off dk wr) ∧ Hid (Blocks Rr 20 0 (q * 20) dk) ∧ Hid (∀ i, q * 20 ≤ i → i < n → dk[i]! = i) ∧ Hid (PermIn 0 n d dk))
 case atStart => exact ⟨0, 20, 0, d, rfl, rfl, ⟨by omega, by omega⟩, by omega, by omega, hD.out.symm, S0, ⟨fun i h1 h2 => by omega, fun i j h1 h2 h3 => by omega⟩, (fun i _ h => HID.out i h), permIn_refl _ _ _⟩
 case round =>
  clear S0
  obtain ⟨a, b, q, dk, rfl, rfl, HAB, han, hkx, hdk, S1, HB, HI, HP⟩ := hrel
  have k1 : a < b ∧ b ≤ a + 20 ∧ a + 20 ≤ b := by have := HAB.out; omega
  have HAQ : Hid (q * 20 = a) := HAB.out.1.symm
  by_cases hbn : b ≤ n
  ·have hbz : (b : Int) ≤ (n : Int) := by omega
   go_wp2_with fail
   rw [← hdk]
   refine (INS.out a b dk _ (by omega) S1.out (by omega) (by omega) (by omega) (fun i j h1 h2 h3 => by rw [HI.out i (by rw [HAQ.out]; omega) (by omega), HI.out j (by rw [HAQ.out]; omega) (by omega)]; exact h2)).mono ?_
   rintro e w1 ⟨rfl, d1, T1, hz1, hp1, hs1⟩
   have haq := HAQ.out
   subst haq
   have BI := blocks_ins (s := 20) (n := n) (by omega) (by omega) HB.out HI.out (by omega) (by omega) hbn hp1 hs1
   have HBI : Hid _ := BI
   have S2 : Aside (SWK enc k w0 blk off d1 w1) := T1
   have HP2 : Hid (PermIn 0 n d d1) := permIn_trans _ _ _ _ _ HP.out (permIn_mono _ _ _ _ _ _ (by omega) hbn (by omega) hp1)
   clear BI S1 T1 hp1 hs1 HB HI HP
   rw [hdk] at hz1 ⊢
   go_wp2_with fail
   go_roundg (n - b)
   case measure => omega
   case rel =>
    refine ⟨b, b + 20, q + 1, d1, rfl, by go_num, ⟨by omega, rfl⟩, hbn, Nat.le_refl _, hz1, S2, ?_, ?_, HP2.out⟩
    ·show Hid _
     rw [show (q + 1) * 20 = b by omega]; exact HBI.out.1
    ·show Hid _
     rw [show (q + 1) * 20 = b by omega]; exact HBI.out.2.1
  ·have hbz : ¬ (b : Int) ≤ (n : Int) := by omega
   go_wp2_with fail
   rw [← hdk]
   refine (INS.out a dk.size dk _ (by omega) S1.out (by omega) (by omega) (by omega) (fun i j h1 h2 h3 => by rw [HI.out i (by rw [HAQ.out]; omega) (by omega), HI.out j (by rw [HAQ.out]; omega) (by omega)]; exact h2)).mono ?_
   rintro e w1 ⟨rfl, d1, T1, hz1, hp1, hs1⟩
   rw [hdk] at hp1 hs1 hz1
   have haq := HAQ.out
   subst haq
   have BI := blocks_ins (s := 20) (n := n) (by omega) (by omega) HB.out HI.out (by omega) (by omega) (Nat.le_refl _) hp1 hs1
   have HBI : Hid (Blocks Rr 20 0 n d1) := BI.1
   have S2 : Aside (SWK enc k w0 blk off d1 w1) := T1
   have HP2 : Hid (PermIn 0 n d d1) := permIn_trans _ _ _ _ _ HP.out (permIn_mono _ _ _ _ _ _ (by omega) (Nat.le_refl _) (by omega) hp1)
   clear BI S1 T1 hp1 hs1 HB HI HP HID
   rw [hdk]
   clear hdk
   go_wp2_with fail
   go_loopg [6] n (fun kx s6 wr => ∃ (s : Nat) (dk : Array Nat), s6 = .int .i64 s ∧ 0 < s ∧ s < 4611686018427387904 ∧ n - s ≤ kx ∧ dk.size = n ∧ Aside (SWK enc k w0 blk off dk wr) ∧ Hid (Blocks Rr s 0 n dk) ∧ Hid (PermIn 0 n d dk))
   case atStart => exact ⟨20, d1, rfl, by omega, by omega, by omega, hz1, S2, HBI, HP2⟩
   case round =>
    clear S2 HBI HP2 hz1
    obtain ⟨s, dk, rfl, hs0, hs1, hkx3, hdk, S1, HB, HP⟩ := hrel
    by_cases hsn : s < n
    ·have hsz2 : (s : Int) < (n : Int) := by omega
     go_wp2_with fail
     go_loopg [7, 8] n (fun kx s7 s8 wr => ∃ (a b q : Nat) (dj : Array Nat), s7 = .int .i64 a ∧ s8 = .int .i64 b ∧ Hid (a = q * (2 * s) ∧ b = a + 2 * s) ∧ a ≤ n ∧ n - a ≤ kx ∧ dj.size = n ∧ Aside (SWK enc k w0 blk off dj wr) ∧ Hid (Blocks Rr (2 * s) 0 (q * (2 * s)) dj) ∧ Hid (Blocks Rr s (q * (2 * s)) n dj) ∧ Hid (PermIn 0 n d dj))
     case atStart => exact ⟨0, 2 * s, 0, dk, rfl, by go_num, ⟨by omega, by omega⟩, by omega, by omega, hdk, S1, ⟨fun i h1 h2 => by omega, fun i j h1 h2 h3 => by omega⟩, (show Hid _ from by rw [Nat.zero_mul]; exact HB.out), HP⟩
     case round =>
      clear S1 HB HP hdk
      obtain ⟨a, b, q, dj, rfl, rfl, HAB, han, hkx4, hdj, S1, HB, HC2, HP⟩ := hrel
      have k1 : a + s < b ∧ b ≤ a + 2 * s ∧ a + 2 * s ≤ b := by have := HAB.out; omega
      have HAQ : Hid (q * (2 * s) = a) := HAB.out.1.symm
      have HQQ : Hid ((q + 1) * (2 * s) = b) := by show _ = _; rw [Nat.add_mul, Nat.one_mul, HAQ.out]; omega
      by_cases hbn2 : b ≤ n
      ·have hbz2 : (b : Int) ≤ (n : Int) := by omega
       obtain ⟨m, hm0⟩ : ∃ zz, zz = a + s := ⟨_, rfl⟩
       have ez : (a : Int) + (s : Int) = (m : Int) := by omega
       have HM : Hid (m = a + s) := hm0
       clear hm0
       have BM := blocks_merge (q := q) (b := b) hs0 (by omega) HB.out HC2.out (by rw [HAQ.out]; omega) (by rw [HAQ.out]; omega) hbn2
       rw [HAQ.out] at BM
       rw [← HM.out] at BM
       have HBM : Hid _ := BM
       have k2 : a < m ∧ m < b := by rw [HM.out]; omega
       clear BM
       go_wp2_with fail
       refine (SYM.out (b - a) a m b dj _ (Nat.le_refl _) hdj S1.out (by omega) (by omega) hbn2 HBM.out.1.1 HBM.out.1.2.1 HBM.out.1.2.2).mono ?_
       rintro e w1 ⟨rfl, d1, T1, hz1, hp1, hs1⟩
       have HBI : Hid _ := HBM.out.2 d1 hp1 hs1
       have S2 : Aside (SWK enc k w0 blk off d1 w1) := T1
       have HP2 : Hid (PermIn 0 n d d1) := permIn_trans _ _ _ _ _ HP.out (permIn_mono _ _ _ _ _ _ (by omega) hbn2 (by omega) hp1)
       clear HBM S1 T1 hp1 hs1 HB HC2 HP
       rw [hdj] at hz1
       obtain ⟨b2, hb2⟩ : ∃ zz, zz = b + 2 * s := ⟨_, rfl⟩
       have ezb : (b : Int) + 2 * (s : Int) = (b2 : Int) := by omega
       have HB2 : Hid (b2 = b + 2 * s) := hb2
       clear hb2
       go_wp2_with fail
       go_roundg (n - b)
       case measure => omega
       case rel =>
        refine ⟨b, b2, q + 1, d1, rfl, rfl, ⟨HQQ.out.symm, HB2.out⟩, hbn2, Nat.le_refl _, hz1, S2, ?_, ?_, HP2⟩
        ·show Hid _
         rw [HQQ.out]; exact HBI.out.1
        ·show Hid _
         rw [HQQ.out]; exact HBI.out.2.1
      ·have hbz2 : ¬ (b : Int) ≤ (n : Int) := by omega
       obtain ⟨m, hm0⟩ : ∃ zz, zz = a + s := ⟨_, rfl⟩
       have ez : (a : Int) + (s : Int) = (m : Int) := by omega
       have HM : Hid (m = a + s) := hm0
       clear hm0
       by_cases hm : a + s < n
       ·have hmz : (m : Int) < (n : Int) := by rw [HM.out]; omega
        have BM := blocks_merge (q := q) (b := n) hs0 (by omega) HB.out HC2.out (by rw [HAQ.out]; omega) (by rw [HAQ.out]; omega) (Nat.le_refl _)
        rw [HAQ.out] at BM
        rw [← HM.out] at BM
        have HBM : Hid _ := BM
        have k2 : a < m ∧ m < n := by rw [HM.out]; omega
        clear BM
        go_wp2_with fail
        refine (SYM.out (n - a) a m n dj _ (Nat.le_refl _) hdj S1.out (by omega) (by omega) (Nat.le_refl _) HBM.out.1.1 HBM.out.1.2.1 HBM.out.1.2.2).mono ?_
        rintro e w1 ⟨rfl, d1, T1, hz1, hp1, hs1⟩
        rw [hdj] at hz1
        have HBI : Hid _ := HBM.out.2 d1 hp1 hs1
        have S2 : Aside (SWK enc k w0 blk off d1 w1) := T1
        have HP2 : Hid (PermIn 0 n d d1) := permIn_trans _ _ _ _ _ HP.out (permIn_mono _ _ _ _ _ _ (by omega) (Nat.le_refl _) (by omega) hp1)
        clear HBM S1 T1 hp1 hs1 HB HC2 HP
        go_wp2_with fail
        go_roundg (n - 2 * s)
        case measure => omega
        case rel => exact ⟨2 * s, d1, by go_num, by omega, by omega, Nat.le_refl _, hz1, S2, HBI.out.1, HP2⟩
       ·have hmz : ¬ (m : Int) < (n : Int) := by rw [HM.out]; omega
        have HBI : Hid (Blocks Rr (2 * s) 0 n dj) := blocks_rest hs0 HB.out HC2.out (by rw [HAQ.out]; omega)
        go_wp2_with fail
        go_roundg (n - 2 * s)
        case measure => omega
        case rel => exact ⟨2 * s, dj, by go_num, by omega, by omega, Nat.le_refl _, hdj, S1, HBI, HP⟩
    ·have hsz2 : ¬ (s : Int) < (n : Int) := by omega
     go_wp2_with fail
     go_end0
     exact ⟨rfl, dk, S1.out, by rw [hdk]; exact hD.out, HP.out, blocks_all HB.out (by omega)⟩
end
end Go.Proofs.YtmmfjknnbkcniaaGreatDoor
namespace Go.Proofs.YtmmfjknnbkcniaaGreatDoor
open Go.Shelf Go.RowKit Go.Lib Go.Sort Go.Stab
set_option linter.unusedVariables false
set_option linter.unusedSimpArgs false
section
variable {enc : Nat → List Value} {k blk off cap : Nat} {d0 : Array Nat} {w0 : World}
end
theorem sortStableE {β : Type} [Inhabited β] (enc0 : β → List Value) (k : Nat) (hk : ∀ x, (enc0 x).length = k) (h1 : ∀ x, ∀ v ∈ enc0 x, v.oneCell' = true)  (aE : ∀ w, (isAgg 34).run Tryz.prog w = .ok true w) (zE : ∀ w, (Go.sizeOf 34).run Tryz.prog w = .ok k w) (cf : β → β → Int) (hO : SWO (ltOf cf)) (g : Nat) (cb : Array Value) (eg : ∀ args w, (callFunc g args).run Tryz.prog w = .ok (.enter g args) w) (blk off cap : Nat) (vs : Array β) (w0 : World)
  (hH : HoldsK enc0 k w0 blk off vs) (hblk : blk < w0.heap.size) (hsz : vs.size < 2305843009213693952)
  (hcmp : ∀ (W : World) (i j : Nat), KeptButF blk w0 W → Calls Tryz.prog g (#[.agg (enc0 vs[i]!).toArray, .agg (enc0 vs[j]!).toArray] ++ cb) W fun e w' => e = .returned (.int .i64 (cf vs[i]! vs[j]!)) ∧ ∃ q os', w' = grow (W.drewN q) os') :
  Calls Tryz.prog 38 #[.slice (some ⟨blk, off, none⟩) vs.size cap, .func (.func g) #[] cb] w0 fun e w' => e = .returned (.tuple #[]) ∧ KeptButF blk w0 w' ∧
   ∃ ms : List β, ms = vs.toList.mergeSort (fun x y => !ltOf cf y x) ∧ ms.length = vs.size ∧ ∀ i, i < vs.size → (∀ c, c < k → w'.cell? ⟨blk, off + i * k + c, none⟩ = some (enc0 (ms.getD i default))[c]! ∧ w'.frozen? ⟨blk, off + i * k + c, none⟩ = false) := by
 obtain ⟨d, hd⟩ : ∃ d, d = Array.range vs.size := ⟨_, rfl⟩
 have hds : d.size = vs.size := by rw [hd]; simp
 have hid : ∀ i, i < d.size → d[i]! = i := fun i hi => by rw [hds] at hi; rw [hd]; simp [hi]
 obtain ⟨enc, henc⟩ : ∃ enc : Nat → List Value, enc = fun t => enc0 vs[t]! := ⟨_, rfl⟩
 have hget : ∀ t, enc t = enc0 vs[t]! := fun t => by rw [henc]
 have hflat : flatK enc k d = flatK enc0 k vs := by
  unfold flatK
  rw [hds]
  refine Array.map_congr_left fun t ht => ?_
  have ht2 : t < vs.size * k := Array.mem_range.1 ht
  have : t / k < vs.size := Nat.div_lt_of_lt_mul (by rwa [Nat.mul_comm] at ht2)
  rw [hget, hid _ (by omega)]
 have hHd : HoldsK enc k w0 blk off d := by unfold HoldsK; rw [hflat]; exact hH
 have R : RowK enc k w0 blk off d := ⟨fun x => by rw [hget]; exact hk _, fun x => by rw [hget]; exact h1 _, hHd, hblk⟩
 have S0 : SWK enc k w0 blk off d w0 := SWK.start hHd
 have hC : CmpLays Tryz.prog g cb enc k (fun s t => cf vs[s]! vs[t]!) blk off d.size w0 := fun m os dk _ x y => by
  have := hcmp _ x y (keptBut_sortWorldK enc k w0 blk off m dk os)
  rw [← hget, ← hget] at this
  exact this
 have HR : ∀ x y, x < y → ((fun s t => cf vs[s]! vs[t]!) y x < 0 ↔ lexR (ltOf cf) vs y x) := fun x y hxy => by
  rw [lexR_later _ _ hxy]; simp [ltOf]
 have hst := stableE (cap := cap) aE zE (lexR (ltOf cf) vs) (lexR_ord _ _ hO) (fun s t => cf vs[s]! vs[t]!) g cb eg hC HR R d w0 rfl S0 (by rw [hds]; exact hsz) hid
 rw [hds] at hst
 have HST : Hid (Calls _ _ _ _ _) := hst
 have HGET : Hid (∀ t, enc t = enc0 vs[t]!) := hget
 clear hst HR hC hcmp eg henc hget
 go_enter Tryz.func38, Tryz.ntmps38
 go_wp2_with fail
 refine Calls.mono HST.out ?_
 rintro e w1 ⟨rfl, p, ⟨n, os, rfl⟩, hp, hperm, hsort⟩
 have hps : p.size = vs.size := by rw [hp, hds]
 have hp' : PermIn 0 vs.size (Array.range vs.size) p := by rw [← hd]; exact hperm
 have key := sorted_is (ltOf cf) vs hO hp' hsort
 have HH : HoldsK enc k (sortWorldK enc k w0 blk off n p os) blk off p := SWK.holds ⟨n, os, rfl⟩ hblk R.hH hp
 have HHH : Hid _ := HH
 have KEY : Hid _ := key
 have HKB : Hid _ := keptBut_sortWorldK enc k w0 blk off n p os
 clear HST hperm hsort hp' key HH R S0 hH
 go_wp2_with fail
 go_end0
 refine ⟨rfl, HKB.out, _, rfl, by simp, fun i hi => ?_⟩
 intro c hc
 have h2 := HoldsK.cell HHH.out (i := i) (c := c) (by omega) hc
 refine ⟨?_, h2.2⟩
 rw [h2.1, HGET.out]
 congr 3
 have : (p.toList.map (fun t => vs[t]!))[i]? = some vs[p[i]!]! := by simp [hps, hi]
 rw [KEY.out] at this
 simp [List.getD, this]
end Go.Proofs.YtmmfjknnbkcniaaGreatDoor
namespace Go.Proofs.YtmmfjknnbkcniaaGreatDoor
open Go.Fl Go.Rel Go.RowKit Go.Utf
set_option linter.unusedSimpArgs false
set_option linter.unusedVariables false
theorem okL_first {ls : List Lb} {N V : ByteArray} (hN : N = nL ls 0) (hV : V = vL ls 0) (h1 : labB N = true) (h2 : ¬ V.size = 0) (h3 : utf8B V = true) : okL ls 0 = true := by
 unfold okL; rw [← hN, ← hV, h1, h3, decide_eq_false h2]; simp
theorem rvalid_any (a : Option Addr) (n cap : Nat) (ls : List Lb) (w : World) (hr : LRow w a n ls) :
  Calls Tryz.prog 60 #[.slice a n cap] w fun e w' => e = .returned (.bool ((List.range n).all (okL ls))) ∧ Below w.heap.size w w' := by
 have HR := qh hr
 have hl := hr.1
 have n1 : (n : Int) ≤ 9223372036854775807 := by have := hr.2.1; omega
 clear hr
 go_enter Tryz.func60, Tryz.ntmps60
 go_wp2_with fail
 go_loopw [3] (ValidRel ls w) (fun v _ => n - (intOf v).toNat)
 case atStart => exact ⟨0, rfl, by omega, fun j h => by omega, Below.refl _ _⟩
 case round =>
  obtain ⟨k, rfl, hk, hok, bel⟩ := hrel
  have hrw := HR.out.below bel
  by_cases hlt : k < n
  ·obtain ⟨b, off, ha, hbl, hcell⟩ := hrw.2.2.2 (by omega)
   subst ha
   obtain ⟨c0, c1⟩ := hcell k hlt
   have hsm := hrw.2.2.1 k
   obtain ⟨N, hN⟩ : ∃ N, N = nL ls k := ⟨_, rfl⟩
   obtain ⟨V, hV⟩ : ∃ V, V = vL ls k := ⟨_, rfl⟩
   rw [← hN] at c0 hsm
   rw [← hV] at c1 hsm
   have k1 : (0 : Int) ≤ (k : Int) := by omega
   have k2 : (k : Int) < (n : Int) := by omega
   have HUV : Hid (∀ W, Calls Tryz.prog 94 #[.string V] W fun e w' => e = .returned (.bool (utf8B V)) ∧ Below W.heap.size W w') := qh (fun W => rutf_any V W hsm.2)
   have HIL : Hid (∀ W, Calls Tryz.prog 93 #[.string N] W fun e w' => e = .returned (.bool (labB N)) ∧ W = w') := qh (fun W => rislabel_any N W hsm.1)
   have hem := empty_iff V
   have HN := qh hN
   have HV := qh hV
   have HOK := qh hok
   have HB := qh bel
   have Hcell := qh hcell
   clear hcell hN hV hsm hok hrw bel
   cases h1 : labB N
   ·have HE : Hid ((List.range n).all (okL ls) = false) := qh (by
     rw [List.all_eq_false]
     exact ⟨k, List.mem_range.2 hlt, by unfold okL; rw [← HN.out, ← HV.out, h1]; simp⟩)
    rw [h1] at HIL
    go_wp2_with (go_at_call 93; refine (HIL.out _).mono ?_; rintro e w' ⟨rfl, rfl⟩)
    go_ret
    exact ⟨by rw [HE.out]; rfl, HB.out⟩
   by_cases h2 : V.size = 0
   ·have HE : Hid ((List.range n).all (okL ls) = false) := qh (by
     rw [List.all_eq_false]
     exact ⟨k, List.mem_range.2 hlt, by unfold okL; rw [← HN.out, ← HV.out, h1, decide_eq_true h2]; simp⟩)
    rw [h1] at HIL
    rw [decide_eq_true h2] at hem
    go_wp2_with (go_at_call 93; refine (HIL.out _).mono ?_; rintro e w' ⟨rfl, rfl⟩)
    go_ret
    exact ⟨by rw [HE.out]; rfl, HB.out⟩
   rw [decide_eq_false h2] at hem
   rw [h1] at HIL
   cases h3 : utf8B V
   ·have HE : Hid ((List.range n).all (okL ls) = false) := qh (by
     rw [List.all_eq_false]
     exact ⟨k, List.mem_range.2 hlt, by unfold okL; rw [← HN.out, ← HV.out, h1, h3]; simp⟩)
    rw [h3] at HUV
    go_wp2_with (first | (go_at_call 93; refine (HIL.out _).mono ?_; rintro e w' ⟨rfl, rfl⟩) | (go_at_call 94; refine (HUV.out _).mono ?_; rintro e w2 ⟨rfl, bel2⟩; have HB2 := qh bel2; clear bel2))
    go_ret
    exact ⟨by rw [HE.out]; rfl, HB.out.trans (HB2.out.mono HB.out.size)⟩
   rw [h3] at HUV
   by_cases hkz : k = 0
   ·subst hkz
    have HK : Hid (okL ls 0 = true) := okL_first HN.out HV.out h1 h2 h3
    have c0' : wr.cell? ⟨b, off, none⟩ = some (.string N) := by simpa using c0
    have c1' : wr.cell? ⟨b, off + 1, none⟩ = some (.string V) := by simpa using c1
    go_wp2_with (first | (go_at_call 93; refine (HIL.out _).mono ?_; rintro e w' ⟨rfl, rfl⟩) | (go_at_call 94; refine (HUV.out _).mono ?_; rintro e w2 ⟨rfl, bel2⟩; have HB2 := qh bel2; clear bel2))
    refine wp_region_rel (fun wd => ∃ nd, wd = w2.drewN nd) (fun _ _ _ => False) (by kernel_rfl) (by kernel_rfl) (by repeat (first | exact ⟨_, rfl⟩ | refine drew_class _ _ ?_ | refine drewN_class _ _ _ ?_)) (LidK.out ?_)
    iterate 3 (refine wpRel_guardK (by rfl) (by kernel_rfl) ?_; intro K hK; have hK2 := LidK.mk hK; clear hK; go_big_quiet_step (fail); refine wpQuiet_nil ?_; refine hK2.out _ ?_; clear hK2 K)
    iterate 12 (refine wpRel_skipK w2 ⟨0, rfl⟩ (by kernel_rfl) ?_; intro K hK; have hK2 := LidK.mk hK; clear hK; go_big_quiet_step (fail); refine wpQuiet_nil ?_; refine hK2.out _ ?_; clear hK2 K)
    (refine wpRel_guardK (by rfl) (by kernel_rfl) ?_; intro K hK; have hK2 := LidK.mk hK; clear hK; go_big_quiet_step (fail); refine wpQuiet_nil ?_; refine hK2.out _ ?_; clear hK2 K)
    refine LidK.mk (wpRel_nil ?_)
    rintro w3 ⟨m3, rfl⟩
    go_wp2_with fail
    go_roundw
    case rel => exact ⟨0 + 1, by first | rfl | (congr 1; omega), by omega, fun j hj => by rw [show j = 0 by omega]; exact HK.out, (HB.out.trans (HB2.out.mono HB.out.size)).drewN' m3⟩
    case measure => simp [intOf]; omega
   ·obtain ⟨q, hq⟩ : ∃ q, k = q + 1 := ⟨k - 1, by omega⟩
    obtain ⟨Pn, hPn⟩ : ∃ Pn, Pn = nL ls (k - 1) := ⟨_, rfl⟩
    have cP := (Hcell.out q (by omega)).1
    rw [show nL ls q = Pn by rw [hPn, hq]; rfl] at cP
    have HP := qh hPn
    have HQ := qh hq
    have hk0 : (0 : Int) < (k : Int) := by omega
    have hk0n : 0 < k := by omega
    have kq : (k : Int) - 1 = (q : Int) := by omega
    have q1 : (0 : Int) ≤ (q : Int) := by omega
    have q2 : (q : Int) < (n : Int) := by omega
    have kw : IntKind.i64.wrap (q : Int) = (q : Int) := by rw [IntKind.wrap_i64]; omega
    have HLT := qh hlt
    have CP : Hid (∀ wd, Below wr.heap.size wr wd → wd.cell? ⟨b, off + q * 2, none⟩ = some (.string Pn)) := qh fun wd hb => cell_stayL cP hb
    have CN : Hid (∀ wd, Below wr.heap.size wr wd → wd.cell? ⟨b, off + k * 2, none⟩ = some (.string N)) := qh fun wd hb => cell_stayL c0 hb
    have HK : Hid (okL ls k = Op.bytesLess Pn.toList N.toList) := qh (by
     unfold okL; rw [← HN.out, ← HV.out, h1, h3, decide_eq_false h2, decide_eq_false hkz, HP.out]; simp)
    clear hPn hq cP hkz
    cases hlex : Op.bytesLess Pn.toList N.toList
    ·have HE : Hid ((List.range n).all (okL ls) = false) := qh (by
      rw [List.all_eq_false]
      exact ⟨k, List.mem_range.2 hlt, by rw [HK.out, hlex]; simp⟩)
     go_wp2_with (first | (go_at_call 93; refine (HIL.out _).mono ?_; rintro e w' ⟨rfl, rfl⟩) | (go_at_call 94; refine (HUV.out _).mono ?_; rintro e w2 ⟨rfl, bel2⟩; have d0 := CP.out _ bel2; have d1 := CN.out _ bel2; clear c0 c1; have HB2 := qh bel2; clear bel2))
     refine wp_region_rel (fun wd => ∃ nd, wd = w2.drewN nd) (fun _ _ _ => False) (by kernel_rfl) (by kernel_rfl) (by repeat (first | exact ⟨_, rfl⟩ | refine drew_class _ _ ?_ | refine drewN_class _ _ _ ?_)) (LidK.out ?_)
     iterate 16 (refine wpRel_guardK (by rfl) (by kernel_rfl) ?_; intro K hK; have hK2 := LidK.mk hK; clear hK; go_big_quiet_step (fail); refine wpQuiet_nil ?_; refine hK2.out _ ?_; clear hK2 K)
     refine LidK.mk (wpRel_nil ?_)
     rintro w3 ⟨m3, rfl⟩
     go_wp2_with fail
     go_ret
     exact ⟨by rw [HE.out]; rfl, (HB.out.trans (HB2.out.mono HB.out.size)).drewN' m3⟩
    ·go_wp2_with (first | (go_at_call 93; refine (HIL.out _).mono ?_; rintro e w' ⟨rfl, rfl⟩) | (go_at_call 94; refine (HUV.out _).mono ?_; rintro e w2 ⟨rfl, bel2⟩; have d0 := CP.out _ bel2; have d1 := CN.out _ bel2; clear c0 c1; have HB2 := qh bel2; clear bel2))
     refine wp_region_rel (fun wd => ∃ nd, wd = w2.drewN nd) (fun _ _ _ => False) (by kernel_rfl) (by kernel_rfl) (by repeat (first | exact ⟨_, rfl⟩ | refine drew_class _ _ ?_ | refine drewN_class _ _ _ ?_)) (LidK.out ?_)
     iterate 16 (refine wpRel_guardK (by rfl) (by kernel_rfl) ?_; intro K hK; have hK2 := LidK.mk hK; clear hK; go_big_quiet_step (fail); refine wpQuiet_nil ?_; refine hK2.out _ ?_; clear hK2 K)
     refine LidK.mk (wpRel_nil ?_)
     rintro w3 ⟨m3, rfl⟩
     go_wp2_with fail
     go_roundw
     case rel => exact ⟨k + 1, by first | rfl | (congr 1; omega), by omega, fun j hj => by
      by_cases hjk : j = k
      ·rw [hjk, HK.out, hlex]
      ·exact HOK.out j (by omega), (HB.out.trans (HB2.out.mono HB.out.size)).drewN' m3⟩
     case measure => simp [intOf]; omega
  ·have HE : Hid ((List.range n).all (okL ls) = true) := qh (by
    rw [List.all_eq_true]
    exact fun j hj => hok j (by have := List.mem_range.1 hj; omega))
   clear hok hrw
   have hkn : ¬ (k : Int) < (n : Int) := by omega
   go_wp2_with fail
   go_ret
   exact ⟨by rw [HE.out]; rfl, bel⟩
end Go.Proofs.YtmmfjknnbkcniaaGreatDoor
