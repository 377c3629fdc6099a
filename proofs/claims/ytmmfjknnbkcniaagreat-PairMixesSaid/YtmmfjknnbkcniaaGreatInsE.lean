/- slices.insertionSortCmpFunc at weir/api.Elem: a block sorted, equals by their places. -/
import Derived.Test.YtmmfjknnbkcniaaGreatSymE
import Derived.Test.YtmmfjknnbkcniaaGreatProg
import Derived.Shelf.SlSortCmp.KitK
import Derived.Sort.WalkB2
import Derived.Sort.WalkB12
import Derived.Deep.LoopGhost
namespace Go.Proofs.YtmmfjknnbkcniaaGreat
open Go.Shelf Go.RowKit Go.Lib Go.Sort Go.Stab
set_option linter.unusedVariables false
set_option linter.unusedSimpArgs false

section
variable {enc : Nat → List Value} {k blk off cap : Nat} {d0 : Array Nat} {w0 : World}

set_option maxHeartbeats 4000000 in
set_option maxRecDepth 1000000 in
theorem insSortE (aE : ∀ w, (isAgg 31).run Tryz.prog w = .ok true w) (zE : ∀ w, (Go.sizeOf 31).run Tryz.prog w = .ok k w) (Rr : Nat → Nat → Prop) (O : Ord Rr) (cf : Nat → Nat → Int) (g : Nat) (cb : Array Value) (eg : ∀ args w, (callFunc g args).run Tryz.prog w = .ok (.enter g args) w) (hcmp : CmpLays Tryz.prog g cb enc k cf blk off d0.size w0) (HR : ∀ x y, x < y → (cf y x < 0 ↔ Rr y x)) (R : RowK enc k w0 blk off d0)
    (a b : Nat) (d : Array Nat) (w : World) (hs : d0.size = d.size) (S : SWK enc k w0 blk off d w) (hab : a ≤ b) (hb : b ≤ d.size) (hsz : d.size < 2305843009213693952) (hasc : ∀ i j, a ≤ i → i < j → j < b → d[i]! < d[j]!) :
    Calls Tryz.prog 60 #[.slice (some ⟨blk, off, none⟩) d.size cap, .int .i64 a, .int .i64 b, .func (.func g) #[] cb] w (SymPostE Rr enc k w0 blk off a b d) := by
  have mixed : Tryz.prog.follows .mixedOrders = true := by kernel_rfl
  have HC : Aside _ := hcmp
  have S0 : Aside (SWK enc k w0 blk off d w) := S
  have HRR : Hid (∀ x y, x < y → (cf y x < 0 ↔ Rr y x)) := HR
  have HX : Hid _ := hasc
  have HO : Hid _ := O
  clear hcmp S HR hasc O
  go_enter Tryz.func60, Tryz.ntmps60
  go_wp2
  go_loopg [8] (b - a) (fun kx s8 wr => ∃ (i : Nat) (dk : Array Nat), s8 = .int .i64 i ∧ a < i ∧ i ≤ b + 1 ∧ b - i ≤ kx ∧ dk.size = d.size ∧ Aside (SWK enc k w0 blk off dk wr) ∧ Hid (SortedR Rr a (min i b) dk) ∧ Hid (PermIn a (min i b) d dk))
  case atStart => exact ⟨a + 1, d, by go_num, by omega, by omega, by omega, rfl, S0, (fun x y h1 h2 h3 => by omega), permIn_refl _ _ _⟩
  case round =>
    clear S0
    obtain ⟨i, dk, rfl, hai, hib, hkx, hds, S1, HS, HP⟩ := hrel
    by_cases hlt : i < b
    · have hltz : (i : Int) < (b : Int) := by omega
      have hmin : min i b = i := Nat.min_eq_left (Nat.le_of_lt hlt)
      rw [hmin] at HS HP
      have HX2 : Hid (Cross a i (i + 1) dk) := fun t t' h1 h2 h3 h4 => by
        have e : t' = i := by omega
        subst e
        rw [HP.out.2.1 t' (by omega)]
        exact permIn_all d dk a t' (fun x => x < d[t']!) (by omega) HP.out (fun q hq hq' => HX.out q t' hq hq' hlt) t h1 h2
      clear hmin
      go_wp2
      go_loopg [9] i (fun kx2 s9 wr => ∃ (j : Nat) (dj : Array Nat), s9 = .int .i64 j ∧ a ≤ j ∧ j ≤ i ∧ j ≤ kx2 ∧ dj.size = d.size ∧ Aside (SWK enc k w0 blk off dj wr) ∧ Hid (∀ t, dj[t]! = rotF (fun t => dk[t]!) j i (i + 1) t) ∧ Hid (∀ t, j ≤ t → t < i → Rr dk[i]! dk[t]!) ∧ Hid (PermIn a (i + 1) d dj))
      case atStart => exact ⟨i, dk, rfl, by omega, by omega, by omega, hds, S1, (fun t => (rotF_none1 _ t (by omega)).symm), (fun t h1 h2 => by omega), permIn_mono _ _ _ _ _ _ (by omega) (by omega) (by omega) HP.out⟩
      case round =>
        clear S1
        obtain ⟨j, dj, rfl, haj, hji, hkx2, hdj, S1, HD, HQ, HP2⟩ := hrel
        -- the way out of the inner loop
        have OUT : Hid ((∀ t, a ≤ t → t < j → ¬ Rr dk[i]! dk[t]!) → SortedR Rr a (min (i + 1) b) dj ∧ PermIn a (min (i + 1) b) d dj) := fun hq => by
          rw [Nat.min_eq_left (by omega)]
          exact ⟨ins_right HO.out HS.out HX2.out (i := j) haj hji hq HQ.out HD.out, HP2.out⟩
        by_cases hja : a < j
        · obtain ⟨jp, rfl⟩ : ∃ jp, j = jp + 1 := ⟨j - 1, by omega⟩
          have hjaz : (a : Int) < (jp : Int) + 1 := by omega
          have hjd : decide ((jp : Int) + 1 > (a : Int)) = true := decide_eq_true hjaz
          have v1 : dj[jp + 1]! = dk[i]! := by rw [HD.out]; unfold rotF; rw [if_pos (by omega)]; congr 1; omega
          have v2 : dj[jp]! = dk[jp]! := by rw [HD.out]; unfold rotF; rw [if_neg (by omega), if_neg (by omega)]
          have XR := HRR.out _ _ (HX2.out jp i (by omega) (by omega) (by omega) (by omega))
          rw [← v1, ← v2] at XR
          have HXR : Hid _ := XR
          have HV12 : Hid (dj[jp + 1]! = dk[i]! ∧ dj[jp]! = dk[jp]!) := ⟨v1, v2⟩
          clear XR v1 v2
          by_cases hv : cf dj[jp + 1]! dj[jp]! < 0
          · have HV : Hid _ := hv
            clear hv
            obtain ⟨x1, hx1⟩ : ∃ zz, zz = dj[jp + 1]! := ⟨_, rfl⟩
            obtain ⟨y1, hy1⟩ : ∃ zz, zz = dj[jp]! := ⟨_, rfl⟩
            have ea1 : ((jp : Int) + 1).toNat = jp + 1 := by omega
            have ec1 : ((jp : Int)).toNat = jp := by omega
            have pa1 : (0 : Int) ≤ (jp : Int) + 1 := by omega
            have ba1 : (jp : Int) + 1 < (d.size : Int) := by omega
            have ra1 : IntKind.i64.wrap ((jp : Int) + 1) = (jp : Int) + 1 := by rw [IntKind.wrap_i64]; omega
            have pc1 : (0 : Int) ≤ (jp : Int) := by omega
            have bc1 : (jp : Int) < (d.size : Int) := by omega
            have rc1 : IntKind.i64.wrap ((jp : Int)) = (jp : Int) := by rw [IntKind.wrap_i64]; omega
            have l1a := S1.out.ld R (by omega) Tryz.prog (jp + 1) (by omega)
            have l1b := S1.out.ld R (by omega) Tryz.prog (jp) (by omega)
            rw [← hx1] at l1a
            rw [← hy1] at l1b
            have hc1 := S1.out.cmp HC.out (by omega) x1 y1
            have hv1 : cf x1 y1 < 0 := by rw [hx1, hy1]; exact HV.out
            have hd1 : decide (cf x1 y1 < 0) = true := decide_eq_true hv1
            clear hx1 hy1
            go_wp2_with fail
            go_quiet_grown (first | (go_at_fn g; refine Calls.grown_of (hc1 _ _)))
            have S2 : Aside (SWK enc k w0 blk off dj (grow (wr.drewN nq) osq)) := S1.out.grown nq osq
            clear l1a l1b hc1 S1
            generalize grow (wr.drewN nq) osq = w2 at S2 ⊢
            clear nq osq
            go_wp2_with fail
            have ea3 : ((jp : Int) + 1).toNat = jp + 1 := by omega
            have pa3 : (0 : Int) ≤ (jp : Int) + 1 := by omega
            have ba3 : (jp : Int) + 1 < (d.size : Int) := by omega
            have ra3 : IntKind.i64.wrap ((jp : Int) + 1) = (jp : Int) + 1 := by rw [IntKind.wrap_i64]; omega
            have ec3 : ((jp : Int)).toNat = jp := by omega
            have pc3 : (0 : Int) ≤ (jp : Int) := by omega
            have bc3 : (jp : Int) < (d.size : Int) := by omega
            have rc3 : IntKind.i64.wrap ((jp : Int)) = (jp : Int) := by rw [IntKind.wrap_i64]; omega
            have S3 : Aside (SWK enc k w0 blk off (swp dj (jp + 1) (jp)) ((w2.drew.setCells blk (off + (jp + 1) * k) (enc dj[jp]!)).setCells blk (off + (jp) * k) (enc dj[jp + 1]!))) := S2.out.swapped R (jp + 1) (jp) (by omega) (by omega)
            have l3a := S2.out.ld1 R (by omega) Tryz.prog (jp + 1) (by omega)
            have l3b := S2.out.ld1 R (by omega) Tryz.prog (jp) (by omega)
            have s3a := S2.out.st1 R (by omega) Tryz.prog (jp + 1) (by omega) dj[jp]!
            have s3b := S2.out.st2 R (by omega) Tryz.prog (jp + 1) (jp) (by omega) (by omega) dj[jp]! dj[jp + 1]!
            have n3a : (enc dj[jp + 1]!).length = k := R.hk _
            have n3b : (enc dj[jp]!).length = k := R.hk _
            generalize enc dj[jp + 1]! = cI3 at S3 l3a s3b n3a
            generalize enc dj[jp]! = cJ3 at S3 l3b s3a s3b n3b
            clear S2
            go_wp2_with fail
            go_big_region
            clear l3a l3b s3a s3b
            generalize (w2.drew.setCells blk (off + (jp + 1) * k) cJ3).setCells blk (off + (jp) * k) cI3 = w3 at S3 ⊢
            go_wp2
            go_roundg jp
            case measure => omega
            case rel =>
              refine ⟨jp, swp dj (jp + 1) jp, by go_num, by omega, by omega, Nat.le_refl _, by rw [size_swp]; exact hdj, S3, (fun t => ?_), (fun t h1 h2 => ?_), permIn_trans _ _ _ _ _ HP2.out (swp_permIn _ _ _ _ _ (by omega) (by omega) (by omega) (by omega) (by omega))⟩
              · rw [swp_get dj (by omega) (by omega), HD.out jp, HD.out (jp + 1), HD.out t]
                exact rot_down _ hji t
              · by_cases h3 : t = jp
                · subst h3
                  have := HXR.out.1 HV.out
                  rwa [HV12.out.1, HV12.out.2] at this
                · exact HQ.out t (by omega) h2
          · have HV : Hid _ := hv
            clear hv
            obtain ⟨x2, hx2⟩ : ∃ zz, zz = dj[jp + 1]! := ⟨_, rfl⟩
            obtain ⟨y2, hy2⟩ : ∃ zz, zz = dj[jp]! := ⟨_, rfl⟩
            have ea2 : ((jp : Int) + 1).toNat = jp + 1 := by omega
            have ec2 : ((jp : Int)).toNat = jp := by omega
            have pa2 : (0 : Int) ≤ (jp : Int) + 1 := by omega
            have ba2 : (jp : Int) + 1 < (d.size : Int) := by omega
            have ra2 : IntKind.i64.wrap ((jp : Int) + 1) = (jp : Int) + 1 := by rw [IntKind.wrap_i64]; omega
            have pc2 : (0 : Int) ≤ (jp : Int) := by omega
            have bc2 : (jp : Int) < (d.size : Int) := by omega
            have rc2 : IntKind.i64.wrap ((jp : Int)) = (jp : Int) := by rw [IntKind.wrap_i64]; omega
            have l2a := S1.out.ld R (by omega) Tryz.prog (jp + 1) (by omega)
            have l2b := S1.out.ld R (by omega) Tryz.prog (jp) (by omega)
            rw [← hx2] at l2a
            rw [← hy2] at l2b
            have hc2 := S1.out.cmp HC.out (by omega) x2 y2
            have hv2 : ¬ cf x2 y2 < 0 := by rw [hx2, hy2]; exact HV.out
            have hd2 : decide (cf x2 y2 < 0) = false := decide_eq_false hv2
            clear hx2 hy2
            go_wp2_with fail
            go_quiet_grown (first | (go_at_fn g; refine Calls.grown_of (hc2 _ _)))
            have S2 : Aside (SWK enc k w0 blk off dj (grow (wr.drewN nq) osq)) := S1.out.grown nq osq
            clear l2a l2b hc2 S1
            generalize grow (wr.drewN nq) osq = w2 at S2 ⊢
            clear nq osq
            go_wp2
            go_roundg (b - (i + 1))
            case measure => omega
            case rel =>
              have F := OUT.out (fun t h1 h2 hy => by
                refine HV.out (HXR.out.2 ?_)
                rw [HV12.out.1, HV12.out.2]
                rcases SortedR.le HS.out (i := t) (j := jp) h1 (by omega) (by omega) with e | e
                · rw [← e]; exact hy
                · exact HO.out.trans _ _ _ hy e)
              exact ⟨i + 1, dj, by go_num, by omega, by omega, Nat.le_refl _, hdj, S2, F.1, F.2⟩
        · have hjaz : ¬ (a : Int) < (j : Int) := by omega
          have hjd : decide ((j : Int) > (a : Int)) = false := decide_eq_false hjaz
          have S2 : Aside (SWK enc k w0 blk off dj wr.drew) := S1.out.drew
          clear S1
          go_wp2_with fail
          go_big_region
          all_goals go_wp2
          go_roundg (b - (i + 1))
          case measure => omega
          case rel =>
            have F := OUT.out (fun t h1 h2 => by omega)
            exact ⟨i + 1, dj, by go_num, by omega, by omega, Nat.le_refl _, hdj, S2, F.1, F.2⟩
    · have hltz : ¬ (i : Int) < (b : Int) := by omega
      go_wp2
      go_end0
      have hmin : min i b = b := Nat.min_eq_right (by omega)
      rw [hmin] at HS HP
      exact ⟨rfl, dk, S1, hds, HP.out, HS.out⟩

end
end Go.Proofs.YtmmfjknnbkcniaaGreat
