/- weirlaw06.CalcHistograms returns true whatever comes in. -/
import Derived.Test.YtllphokepjekpaaHBuckR
namespace Go.Proofs.Ytllphokepjekpaa
open Go.Fl Go.Rel Go.RowKit

instance decHb : DecidableEq Hb := fun a b => if h : a.u = b.u ∧ a.c = b.c then isTrue (by obtain ⟨u, c⟩ := a; obtain ⟨u', c'⟩ := b; obtain ⟨h1, h2⟩ := h; dsimp only at h1 h2; rw [h1, h2]) else isFalse (by rintro rfl; exact h ⟨rfl, rfl⟩)

def bsC : List Hb := [⟨4607182418800017408, 4607182418800017408⟩, ⟨9218868437227405312, 4611686018427387904⟩]
theorem tog_closed : hTog bsC = bsC := by
  have h1 : kept bsC = bsC := by decide +kernel
  have h2 : bsC.mergeSort leH = bsC := by
    refine List.mergeSort_of_pairwise ?_
    unfold bsC
    rw [List.pairwise_cons]
    refine ⟨fun y hy => ?_, List.pairwise_singleton _ _⟩
    rw [List.mem_singleton] at hy
    subst hy
    decide +kernel
  unfold hTog
  rw [h1, h2]
  decide +kernel
theorem hist_closed : bucketsS (cn 4602678819172646912) bsC = 4607182418800017408 := by
  have hq : isN 4602678819172646912 = false := by decide +kernel
  have h1 : (ford 4602678819172646912 0 == some .lt) = false := by decide +kernel
  have h2 : (ford 4602678819172646912 w1 == some .gt) = false := by decide +kernel
  have hl : levels bsC = bsC := by decide +kernel
  have hm : bsC = bsC.map clsB := by decide +kernel
  rw [buck_in hq h1 h2 (by rw [tog_closed]; decide +kernel), tog_closed, hl, hm,
    val_in (r := 4607182418800017408) (b := 0) (by decide) (by decide +kernel) (by decide +kernel) ⟨by decide, fun j hj => by omega, fun _ => by decide +kernel⟩]
  decide +kernel

theorem hrow_C (w : World) : HRow (w.alloc (.cells #[.float .f64 4607182418800017408, .float .f64 4607182418800017408, .float .f64 9218868437227405312, .float .f64 4611686018427387904] 46)) (some ⟨w.heap.size, 0, none⟩) 2 bsC := by
  refine ⟨rfl, by omega, fun _ => ⟨_, _, rfl, fun i hi => ?_⟩⟩
  match i, hi with
  | 0, _ => exact ⟨by rw [World.cell?_alloc_at _ _ _ _ rfl]; rfl, by rw [World.cell?_alloc_at _ _ _ _ rfl]; rfl⟩
  | 1, _ => exact ⟨by rw [World.cell?_alloc_at _ _ _ _ rfl]; rfl, by rw [World.cell?_alloc_at _ _ _ _ rfl]; rfl⟩

set_option maxHeartbeats 4000000 in
set_option maxRecDepth 100000 in
theorem law_hist (q : Nat) (a : Option Addr) (n cap : Nat) (bs : List Hb) (w : World) (hr : HRow w a n bs) (hs : SlOk a n cap) (hb : n < 8796093022208) :
    Calls Try.prog 10 #[.float .f64 q, .slice a n cap] w fun e w' => e = .returned (.bool true) ∧ Below w.heap.size w w' := by
  have hne : (FloatKind.f64.format.order 4607182418800017408 4607182418800017408 != some .eq) = false := by decide +kernel
  have HR := Lib.hid hr
  have HS := Lib.hid hs
  clear hr hs
  go_enter Try.func10, Try.ntmps10
  go_wp2_with (go_at_call 42; refine (inf_up _).mono ?_; rintro e w' ⟨rfl, rfl⟩)
  refine (buckets_any _ _ 2 2 bsC _ (hrow_C _) (by omega)).mono ?_
  rintro e w2 ⟨r2, rfl, h2, b2⟩
  rw [hist_closed] at h2
  have := eq_of_cn h2 (by decide +kernel)
  subst this
  clear h2
  have c2 : Below w.heap.size w w2 := ((Below.refl _ _).alloc (Nat.le_refl _) _).trans (b2.mono (by simp))
  have HR2 := Lib.hid (HR.out.below c2)
  clear b2
  go_wp2_with fail
  refine (refbuckets_any q a n cap bs _ HR2.out HS.out hb).mono ?_
  rintro e w3 ⟨r3, rfl, h3, b3⟩
  have c3 := c2.trans (b3.mono c2.size)
  have HR3 := Lib.hid (HR.out.below c3)
  have H3 := Lib.hid h3
  clear h3 b3
  go_wp2_with fail
  refine (buckets_any q a n cap bs _ HR3.out hb).mono ?_
  rintro e w4 ⟨r4, rfl, h4, b4⟩
  have c4 := c3.trans (b4.mono c3.size)
  have HE : (cn r4 == cn r3) = true := by rw [h4, H3.out]; simp
  have HEQ := Lib.hid HE
  clear h4 b4 HE
  go_wp2_with (go_at_call 17; refine (alike_any _ _ _).mono ?_; rintro e w' ⟨rfl, rfl⟩; rw [HEQ.out])
  go_ret
  exact ⟨rfl, c4⟩
end Go.Proofs.Ytllphokepjekpaa
