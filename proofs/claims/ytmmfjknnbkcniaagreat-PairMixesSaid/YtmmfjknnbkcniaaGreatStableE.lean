/- slices.SortStableFunc at weir/api.Elem: the row sorted, equals by their places. -/
import Derived.Test.YtmmfjknnbkcniaaGreatSymME
import Derived.Test.YtmmfjknnbkcniaaGreatInsE
import Derived.Test.YtmmfjknnbkcniaaGreatProg
import Derived.Shelf.SlSortCmp.KitK
import Derived.Sort.WalkB2
import Derived.Sort.WalkB12
import Derived.Deep.LoopGhost
namespace Go.Proofs.YtmmfjknnbkcniaaGreat
open Go.Shelf Go.RowKit Go.Lib Go.Sort Go.Stab
set_option linter.unusedVariables false
set_option linter.unusedSimpArgs false

section
variable {enc : Nat → List Value} {k blk off cap : Nat} {d0 : Array Nat} {w0 : World}

theorem symAllE (aE : ∀ w, (isAgg 31).run Tryz.prog w = .ok true w) (zE : ∀ w, (Go.sizeOf 31).run Tryz.prog w = .ok k w) (Rr : Nat → Nat → Prop) (O : Ord Rr) (cf : Nat → Nat → Int) (g : Nat) (cb : Array Value) (eg : ∀ args w, (callFunc g args).run Tryz.prog w = .ok (.enter g args) w) (hcmp : CmpLays Tryz.prog g cb enc k cf blk off d0.size w0) (HR : ∀ x y, x < y → (cf y x < 0 ↔ Rr y x)) (R : RowK enc k w0 blk off d0) (hsz : d0.size < 2305843009213693952) : ∀ N, SymOKE Rr enc k w0 blk off cap d0.size g cb N := by
  intro N
  induction N with
  | zero => intro a m b d w hN _ _ h1 h2; omega
  | succ N ih =>
    intro a m b d w hN hd S ham hmb hb s1 s2 hc
    rw [← hd] at hb hsz ⊢
    by_cases c1 : m = a + 1
    · exact symOneE aE zE Rr O cf g cb eg hcmp HR R a m b d w hd.symm S ham hmb hb hsz s1 s2 hc c1
    · by_cases c2 : b = m + 1
      · exact symLastE aE zE Rr O cf g cb eg hcmp HR R a m b d w hd.symm S ham hmb hb hsz s1 s2 hc c1 c2
      · refine symMidE aE zE Rr O cf g cb eg hcmp HR R a m b d w hd.symm S ham hmb hb hsz s1 s2 hc c1 c2 ?_
        intro a' m' b' d' w' hN' hd'
        rw [hd]
        rw [hd] at hd'
        exact ih a' m' b' d' w' (by omega) hd'

set_option maxHeartbeats 4000000 in
set_option maxRecDepth 1000000 in
theorem stableE (aE : ∀ w, (isAgg 31).run Tryz.prog w = .ok true w) (zE : ∀ w, (Go.sizeOf 31).run Tryz.prog w = .ok k w) (Rr : Nat → Nat → Prop) (O : Ord Rr) (cf : Nat → Nat → Int) (g : Nat) (cb : Array Value) (eg : ∀ args w, (callFunc g args).run Tryz.prog w = .ok (.enter g args) w) (hcmp : CmpLays Tryz.prog g cb enc k cf blk off d0.size w0) (HR : ∀ x y, x < y → (cf y x < 0 ↔ Rr y x)) (R : RowK enc k w0 blk off d0)
    (d : Array Nat) (w : World) (hs : d0.size = d.size) (S : SWK enc k w0 blk off d w) (hsz : d.size < 2305843009213693952) (hid : ∀ i, i < d.size → d[i]! = i) :
    Calls Tryz.prog 45 #[.slice (some ⟨blk, off, none⟩) d.size cap, .int .i64 d.size, .func (.func g) #[] cb] w (SymPostE Rr enc k w0 blk off 0 d.size d) := by
  have sym := symAllE (cap := cap) aE zE Rr O cf g cb eg hcmp HR R (by omega)
  have INS : Hid _ := insSortE (cap := cap) aE zE Rr O cf g cb eg hcmp HR R
  have S0 : Aside (SWK enc k w0 blk off d w) := S
  have HID : Hid (∀ i, i < d.size → d[i]! = i) := hid
  obtain ⟨n, hn⟩ : ∃ zz, zz = d.size := ⟨_, rfl⟩
  clear hcmp S HR eg hid
  rw [← hn] at hsz hs
  rw [hs] at sym
  have SYM : Hid (∀ N, SymOKE Rr enc k w0 blk off cap n g cb N) := sym
  clear sym
  have hD : Hid (n = d.size) := hn
  rw [← hn]
  rw [← hn] at HID
  clear hn
  go_enter Tryz.func45, Tryz.ntmps45
  go_wp2
  go_loopg [7, 8] n (fun kx s7 s8 wr => ∃ (a b q : Nat) (dk : Array Nat), s7 = .int .i64 a ∧ s8 = .int .i64 b ∧ Hid (a = q * 20 ∧ b = a + 20) ∧ a ≤ n ∧ n - a ≤ kx ∧ dk.size = n ∧ Aside (SWK enc k w0 blk off dk wr) ∧ Hid (Blocks Rr 20 0 (q * 20) dk) ∧ Hid (∀ i, q * 20 ≤ i → i < n → dk[i]! = i) ∧ Hid (PermIn 0 n d dk))
  case atStart => exact ⟨0, 20, 0, d, rfl, rfl, ⟨by omega, by omega⟩, by omega, by omega, hD.out.symm, S0, ⟨fun i h1 h2 => by omega, fun i j h1 h2 h3 => by omega⟩, (fun i _ h => HID.out i h), permIn_refl _ _ _⟩
  case round =>
    clear S0
    obtain ⟨a, b, q, dk, rfl, rfl, HAB, han, hkx, hdk, S1, HB, HI, HP⟩ := hrel
    have k1 : a < b ∧ b ≤ a + 20 ∧ a + 20 ≤ b := by have := HAB.out; omega
    have HAQ : Hid (q * 20 = a) := HAB.out.1.symm
    by_cases hbn : b ≤ n
    · have hbz : (b : Int) ≤ (n : Int) := by omega
      go_wp2_with fail
      rw [← hdk]
      refine (INS.out a b dk _ (by omega) S1.out (by omega) (by omega) (by omega) (fun i j h1 h2 h3 => by rw [HI.out i (by rw [HAQ.out]; omega) (by omega), HI.out j (by rw [HAQ.out]; omega) (by omega)]; exact h2)).mono ?_
      rintro e w1 ⟨rfl, d1, T1, hz1, hp1, hs1⟩
      have haq := HAQ.out
      subst haq
      have BI := blocks_ins (s := 20) (n := n) (by omega) (by omega) HB.out HI.out (by omega) (by omega) hbn hp1 hs1
      have HBI : Hid _ := BI
      have S2 : Aside (SWK enc k w0 blk off d1 w1) := T1
      have HP2 : Hid (PermIn 0 n d d1) := permIn_trans _ _ _ _ _ HP.out (permIn_mono _ _ _ _ _ _ (by omega) hbn (by omega) hp1)
      clear BI S1 T1 hp1 hs1 HB HI HP
      rw [hdk] at hz1 ⊢
      go_wp2_with fail
      go_roundg (n - b)
      case measure => omega
      case rel =>
        refine ⟨b, b + 20, q + 1, d1, rfl, by go_num, ⟨by omega, rfl⟩, hbn, Nat.le_refl _, hz1, S2, ?_, ?_, HP2.out⟩
        · show Hid _
          rw [show (q + 1) * 20 = b by omega]; exact HBI.out.1
        · show Hid _
          rw [show (q + 1) * 20 = b by omega]; exact HBI.out.2.1
    · have hbz : ¬ (b : Int) ≤ (n : Int) := by omega
      go_wp2_with fail
      rw [← hdk]
      refine (INS.out a dk.size dk _ (by omega) S1.out (by omega) (by omega) (by omega) (fun i j h1 h2 h3 => by rw [HI.out i (by rw [HAQ.out]; omega) (by omega), HI.out j (by rw [HAQ.out]; omega) (by omega)]; exact h2)).mono ?_
      rintro e w1 ⟨rfl, d1, T1, hz1, hp1, hs1⟩
      rw [hdk] at hp1 hs1 hz1
      have haq := HAQ.out
      subst haq
      have BI := blocks_ins (s := 20) (n := n) (by omega) (by omega) HB.out HI.out (by omega) (by omega) (Nat.le_refl _) hp1 hs1
      have HBI : Hid (Blocks Rr 20 0 n d1) := BI.1
      have S2 : Aside (SWK enc k w0 blk off d1 w1) := T1
      have HP2 : Hid (PermIn 0 n d d1) := permIn_trans _ _ _ _ _ HP.out (permIn_mono _ _ _ _ _ _ (by omega) (Nat.le_refl _) (by omega) hp1)
      clear BI S1 T1 hp1 hs1 HB HI HP HID
      rw [hdk]
      clear hdk
      go_wp2_with fail
      go_loopg [6] n (fun kx s6 wr => ∃ (s : Nat) (dk : Array Nat), s6 = .int .i64 s ∧ 0 < s ∧ s < 4611686018427387904 ∧ n - s ≤ kx ∧ dk.size = n ∧ Aside (SWK enc k w0 blk off dk wr) ∧ Hid (Blocks Rr s 0 n dk) ∧ Hid (PermIn 0 n d dk))
      case atStart => exact ⟨20, d1, rfl, by omega, by omega, by omega, hz1, S2, HBI, HP2⟩
      case round =>
        clear S2 HBI HP2 hz1
        obtain ⟨s, dk, rfl, hs0, hs1, hkx3, hdk, S1, HB, HP⟩ := hrel
        by_cases hsn : s < n
        · have hsz2 : (s : Int) < (n : Int) := by omega
          go_wp2_with fail
          go_loopg [7, 8] n (fun kx s7 s8 wr => ∃ (a b q : Nat) (dj : Array Nat), s7 = .int .i64 a ∧ s8 = .int .i64 b ∧ Hid (a = q * (2 * s) ∧ b = a + 2 * s) ∧ a ≤ n ∧ n - a ≤ kx ∧ dj.size = n ∧ Aside (SWK enc k w0 blk off dj wr) ∧ Hid (Blocks Rr (2 * s) 0 (q * (2 * s)) dj) ∧ Hid (Blocks Rr s (q * (2 * s)) n dj) ∧ Hid (PermIn 0 n d dj))
          case atStart => exact ⟨0, 2 * s, 0, dk, rfl, by go_num, ⟨by omega, by omega⟩, by omega, by omega, hdk, S1, ⟨fun i h1 h2 => by omega, fun i j h1 h2 h3 => by omega⟩, (show Hid _ from by rw [Nat.zero_mul]; exact HB.out), HP⟩
          case round =>
            clear S1 HB HP hdk
            obtain ⟨a, b, q, dj, rfl, rfl, HAB, han, hkx4, hdj, S1, HB, HC2, HP⟩ := hrel
            have k1 : a + s < b ∧ b ≤ a + 2 * s ∧ a + 2 * s ≤ b := by have := HAB.out; omega
            have HAQ : Hid (q * (2 * s) = a) := HAB.out.1.symm
            have HQQ : Hid ((q + 1) * (2 * s) = b) := by show _ = _; rw [Nat.add_mul, Nat.one_mul, HAQ.out]; omega
            by_cases hbn2 : b ≤ n
            · have hbz2 : (b : Int) ≤ (n : Int) := by omega
              obtain ⟨m, hm0⟩ : ∃ zz, zz = a + s := ⟨_, rfl⟩
              have ez : (a : Int) + (s : Int) = (m : Int) := by omega
              have HM : Hid (m = a + s) := hm0
              clear hm0
              have BM := blocks_merge (q := q) (b := b) hs0 (by omega) HB.out HC2.out (by rw [HAQ.out]; omega) (by rw [HAQ.out]; omega) hbn2
              rw [HAQ.out] at BM
              rw [← HM.out] at BM
              have HBM : Hid _ := BM
              have k2 : a < m ∧ m < b := by rw [HM.out]; omega
              clear BM
              go_wp2_with fail
              refine (SYM.out (b - a) a m b dj _ (Nat.le_refl _) hdj S1.out (by omega) (by omega) hbn2 HBM.out.1.1 HBM.out.1.2.1 HBM.out.1.2.2).mono ?_
              rintro e w1 ⟨rfl, d1, T1, hz1, hp1, hs1⟩
              have HBI : Hid _ := HBM.out.2 d1 hp1 hs1
              have S2 : Aside (SWK enc k w0 blk off d1 w1) := T1
              have HP2 : Hid (PermIn 0 n d d1) := permIn_trans _ _ _ _ _ HP.out (permIn_mono _ _ _ _ _ _ (by omega) hbn2 (by omega) hp1)
              clear HBM S1 T1 hp1 hs1 HB HC2 HP
              rw [hdj] at hz1
              obtain ⟨b2, hb2⟩ : ∃ zz, zz = b + 2 * s := ⟨_, rfl⟩
              have ezb : (b : Int) + 2 * (s : Int) = (b2 : Int) := by omega
              have HB2 : Hid (b2 = b + 2 * s) := hb2
              clear hb2
              go_wp2_with fail
              go_roundg (n - b)
              case measure => omega
              case rel =>
                refine ⟨b, b2, q + 1, d1, rfl, rfl, ⟨HQQ.out.symm, HB2.out⟩, hbn2, Nat.le_refl _, hz1, S2, ?_, ?_, HP2⟩
                · show Hid _
                  rw [HQQ.out]; exact HBI.out.1
                · show Hid _
                  rw [HQQ.out]; exact HBI.out.2.1
            · have hbz2 : ¬ (b : Int) ≤ (n : Int) := by omega
              obtain ⟨m, hm0⟩ : ∃ zz, zz = a + s := ⟨_, rfl⟩
              have ez : (a : Int) + (s : Int) = (m : Int) := by omega
              have HM : Hid (m = a + s) := hm0
              clear hm0
              by_cases hm : a + s < n
              · have hmz : (m : Int) < (n : Int) := by rw [HM.out]; omega
                have BM := blocks_merge (q := q) (b := n) hs0 (by omega) HB.out HC2.out (by rw [HAQ.out]; omega) (by rw [HAQ.out]; omega) (Nat.le_refl _)
                rw [HAQ.out] at BM
                rw [← HM.out] at BM
                have HBM : Hid _ := BM
                have k2 : a < m ∧ m < n := by rw [HM.out]; omega
                clear BM
                go_wp2_with fail
                refine (SYM.out (n - a) a m n dj _ (Nat.le_refl _) hdj S1.out (by omega) (by omega) (Nat.le_refl _) HBM.out.1.1 HBM.out.1.2.1 HBM.out.1.2.2).mono ?_
                rintro e w1 ⟨rfl, d1, T1, hz1, hp1, hs1⟩
                rw [hdj] at hz1
                have HBI : Hid _ := HBM.out.2 d1 hp1 hs1
                have S2 : Aside (SWK enc k w0 blk off d1 w1) := T1
                have HP2 : Hid (PermIn 0 n d d1) := permIn_trans _ _ _ _ _ HP.out (permIn_mono _ _ _ _ _ _ (by omega) (Nat.le_refl _) (by omega) hp1)
                clear HBM S1 T1 hp1 hs1 HB HC2 HP
                go_wp2_with fail
                go_roundg (n - 2 * s)
                case measure => omega
                case rel => exact ⟨2 * s, d1, by go_num, by omega, by omega, Nat.le_refl _, hz1, S2, HBI.out.1, HP2⟩
              · have hmz : ¬ (m : Int) < (n : Int) := by rw [HM.out]; omega
                have HBI : Hid (Blocks Rr (2 * s) 0 n dj) := blocks_rest hs0 HB.out HC2.out (by rw [HAQ.out]; omega)
                go_wp2_with fail
                go_roundg (n - 2 * s)
                case measure => omega
                case rel => exact ⟨2 * s, dj, by go_num, by omega, by omega, Nat.le_refl _, hdj, S1, HBI, HP⟩
        · have hsz2 : ¬ (s : Int) < (n : Int) := by omega
          go_wp2_with fail
          go_end0
          exact ⟨rfl, dk, S1.out, by rw [hdk]; exact hD.out, HP.out, blocks_all HB.out (by omega)⟩

end
end Go.Proofs.YtmmfjknnbkcniaaGreat
