/- weirref21.Vectors where the sides meet, Card 1. (Printed by tools/genrv.py.) -/
import Derived.Test.YtmmfjknnbkcniaaGreatDoorV42
import Derived.Deep.RegionWith
import Derived.Deep.Cut
import Derived.StillTailTactics
set_option maxHeartbeats 64000000
set_option maxRecDepth 100000
namespace Go.Proofs.YtmmfjknnbkcniaaGreatDoor
open Go.Fl Go.Rel Go.RowKit Go.Maps Go.WideMaps Go.Sort Go.Shelf
set_option linter.unusedSimpArgs false
set_option linter.unusedVariables false
theorem rmet_c1 (u : ByteArray) (a b : Option Addr) (na ca nb cb : Nat) (la0 lb0 : List Er) (ml mr : List Ek) (m : Mt) (yes : Bool) (kc : Int) (w : World) (ha : ERow w a na la0) (hsa : SlK a na ca) (hb : ERow w b nb lb0) (hsb : SlK b nb cb) (hM : MtOk w m)
  (hva : vecK (la0.map Er.key) = some ml) (hvb : vecK (lb0.map Er.key) = some mr) (hfl : ∀ k ∈ ml, W64 k.2) (hfr : ∀ k ∈ mr, W64 k.2) (him : ∀ k ∈ ml, k.1.length + m.im ≤ 4398046511000) (hk : opK u.toList < 12) (hcd : m.card = 1) :
  Calls Tryz.prog 21 #[.string u, .slice a na ca, .slice b nb cb, m.v, .bool yes] w (AnsRet (metE (opK u.toList) m.on m.ns m.inc 1 yes ml mr) (metV (opK u.toList) m.on m.ns m.inc 1 yes ml mr) w) := by
 have HVA : Hid (∀ W, Below w.heap.size w W → Calls Tryz.prog 41 #[.slice a na ca] W (RVecRet la0 W)) := qh fun W h => rvector_any a na ca la0 W (ha.below h) hsa
 have HVB : Hid (∀ W, Below w.heap.size w W → Calls Tryz.prog 41 #[.slice b nb cb] W (RVecRet lb0 W)) := qh fun W h => rvector_any b nb cb lb0 W (hb.below h) hsb
 unfold RVecRet at HVA HVB
 rw [hva] at HVA
 rw [hvb] at HVB
 dsimp only at HVA HVB
 have HM := qh hM
 have HFL := qh hfl
 have HFR := qh hfr
 have HIM := qh him
 have HK := qh hk
 have HKD : Hid (∀ w, _) := qh fun w => kindY_any u w hk
 obtain ⟨kk, hkk⟩ : ∃ kk, kk = kindS (opK u.toList) := ⟨_, rfl⟩
 rw [← hkk] at HKD
 have k0 : (kk == 0) = false := by rw [hkk]; unfold kindS; split <;> rfl
 have k3 : (kk == 3) = false := by rw [hkk]; unfold kindS; split <;> rfl
 obtain ⟨given, on, ma, mn, mc, card, ia, im, ic, ns, inc⟩ := m
 dsimp only at hcd
 subst hcd
 dsimp only [Mt.v] at HIM ⊢
 obtain ⟨W0, hW0⟩ : ∃ W0, W0 = w.alloc (.cells #[.bool given, .bool on, .slice ma mn mc, .int .i64 1, .slice ia im ic] 25) := ⟨_, rfl⟩
 have HI0 : Hid (Bk.Is W0 w.heap.size #[.bool given, .bool on, .slice ma mn mc, .int .i64 1, .slice ia im ic] 25) := qh (by rw [hW0]; exact Bk.Is.made w _ _)
 have HB0 : Hid (Below w.heap.size w W0) := qh (by rw [hW0]; exact (Below.refl _ _).alloc (Nat.le_refl _) _)
 have HW0 := qh hW0
 clear ha hb hsa hsb hM hva hvb hfl hfr him hk hkk hW0
 go_enter Tryz.func21, Tryz.ntmps21
 go_upto_region 1 with fail
 rw [← HW0.out]
 go_upto_region 12 with (first | (go_at_call 41; (with_reducible refine (HVA.out _ HB0.out).mono ?_); rintro e w1 ⟨a1, c1, la, rfl, sl1, r1, ky1, _, b1⟩; have HSA := qh sl1; have HA1 := qh r1; have HKA := qh ky1; have HB01 := qh b1; have HB1 := qh (HB0.out.trans (b1.mono HB0.out.size)); have hw0 : w.heap.size < W0.heap.size := HI0.out.lt; have HI1 := qh (HI0.out.below b1 hw0); clear sl1 r1 ky1 b1) | (go_at_call 41; (with_reducible refine (HVB.out _ HB1.out).mono ?_); rintro e w2 ⟨a2, c2, lb, rfl, sl2, r2, ky2, _, b2⟩; have HSB := qh sl2; have HA := qh (HA1.out.below b2); have HBR := qh r2; have HKB := qh ky2; have HB2 := qh (HB1.out.trans (b2.mono HB1.out.size)); have HI2 := qh (HI1.out.below b2 (Nat.lt_of_lt_of_le hw0 HB01.out.size)); have q0 := HI2.out.cell 0; have q1 := HI2.out.cell 1; have q2 := HI2.out.cell 2; have q3 := HI2.out.cell 3; have q4 := HI2.out.cell 4; simp at q0 q1 q2 q3 q4; clear sl2 r2 ky2 b2) | (go_at_call 42; refine (HKD.out _).mono ?_; rintro e wk ⟨rfl, rfl⟩))
 have HSMM : Hid (∀ e ∈ la, e.n + im ≤ 4398046511000) := qh fun e he => by
  have h1 := HIM.out e.key (by rw [← HKA.out]; exact List.mem_map_of_mem he)
  have h2 := (HA.out.2.2.1 e he).1.1
  rw [← h2]; exact h1
 have HF1 : Hid (∀ e ∈ la, W64 e.f) := qh fun e he => HFL.out e.key (by rw [← HKA.out]; exact List.mem_map_of_mem he)
 have HF2 : Hid (∀ e ∈ lb, W64 e.f) := qh fun e he => HFR.out e.key (by rw [← HKB.out]; exact List.mem_map_of_mem he)
 have n1 : (la.length : Int) ≤ 4398046511104 := by have := HA.out.2.1; omega
 have n2 : (lb.length : Int) ≤ 4398046511104 := by have := HBR.out.2.1; omega
 have HM2 := qh (HM.out.below HB2.out)
 clear HI1 HA1 HB01 HB1 HB0 HI0 hw0 HVA HVB k0 k3 HKD HM
 have hka := HKA.out
 have hkb := HKB.out
 clear HFL HFR HIM HKA HKB
 subst hka hkb
 go_upto_region 15 with fail
 go_wp2_with fail
 go_loopw [17] (DupARel ⟨given, on, ma, mn, mc, 1, ia, im, ic, ns, inc⟩ lb w2) (fun v _ => lb.length - (intOf v).toNat)
 case atStart => exact ⟨0, rfl, by omega, fun i h => by omega, Below.refl _ _⟩
 case round =>
  obtain ⟨k, rfl, hk, nd, bel⟩ := hrel
  have HND := qh nd
  have HB3 := qh bel
  have hrw := HBR.out.below bel
  have hix := HI2.out.below bel HI2.out.lt
  have HMW := qh (HM2.out.below bel)
  clear nd bel
  by_cases hlt : k < lb.length
  ·have q0 := hix.cell 0
   have q1 := hix.cell 1
   have q2 := hix.cell 2
   have q3 := hix.cell 3
   have q4 := hix.cell 4
   simp at q0 q1 q2 q3 q4
   obtain ⟨bb, off, hab, hbb, hc⟩ := hrw.2.2.2 (by omega)
   first | subst hab | cases hab
   obtain ⟨x0, x1⟩ := hc k hlt
   have k1 : (0 : Int) ≤ (k : Int) := by omega
   have k2 : (k : Int) < (lb.length : Int) := by omega
   have hsl := slice_hiE bb off lb.length c2 k (k : Int) rfl (by have := HSB.out.1; omega)
   have HTK := qh (hrw.take (by omega : k ≤ lb.length))
   have hyo : ErOk wr (erAt lb k) := hrw.2.2.1 _ (by rw [erAt_get (by omega)]; exact List.getElem_mem _)
   have HSC : Hid (∀ d, meetsK on ns (erAt lb k).ls ((lb.take k).map Er.ls) = d → d = false → NoDupM ⟨given, on, ma, mn, mc, 1, ia, im, ic, ns, inc⟩ lb (k + 1)) := qh fun d hd hf i hi => by
    by_cases hik : i = k
    ·rw [hik]; exact hd.trans hf
    ·exact HND.out i (by omega)
   have HSD : Hid (meetsK on ns (erAt lb k).ls ((lb.take k).map Er.ls) = true → dupM on ns (lb.map Er.key) = true) := qh fun h => by
    rw [dupM_er ⟨given, on, ma, mn, mc, 1, ia, im, ic, ns, inc⟩ lb, List.any_eq_true]
    exact ⟨k, List.mem_range.2 hlt, h⟩
   generalize erAt lb k = x at *
   obtain ⟨xa, xn, xc, xf, xl⟩ := x
   dsimp only at x0 HSC HSD
   have HWD : Hid (Below wr.heap.size wr wr.drew) := qh ((Below.refl _ wr).drewN' 1)
   have HMT := qh (meets_any xa xn xc xl (some ⟨bb, off, none⟩) k c2 (lb.take k) ⟨given, on, ma, mn, mc, 1, ia, im, ic, ns, inc⟩ wr.drew (hyo.1.below HWD.out) (HTK.out.below HWD.out) (HMW.out.below HWD.out) hyo.2.2)
   dsimp only [Mt.v] at HMT
   generalize meetsK on ns xl ((lb.take k).map Er.ls) = d at *
   clear hc hrw hyo hix
   cases d
   ·have HN2 := qh (HSC.out false rfl rfl)
    clear HSC HSD
    go_wp2_with fail
    go_still_tail 9, (by kernel_rfl)
    change wpList _ _ _ _ _ wr.drew
    go_wp2_with (go_at_call 44; refine HMT.out.mono ?_; rintro e w5 ⟨rfl, b5⟩; have HB5 := qh (HWD.out.trans b5); clear b5)
    go_roundw
    case rel => exact ⟨k + 1, by first | rfl | (congr 1; omega), by omega, HN2.out, HB3.out.trans (HB5.out.mono HB3.out.size)⟩
    case measure => simp [intOf]; omega
   ·have HD := qh (HSD.out rfl)
    clear HSC HSD
    go_wp2_with fail
    go_still_tail 9, (by kernel_rfl)
    change wpList _ _ _ _ _ wr.drew
    go_wp2_with (go_at_call 44; refine HMT.out.mono ?_; rintro e w5 ⟨rfl, b5⟩; have HB5 := qh (HWD.out.trans b5); clear b5)
    go_ret2
    rw [(met_dup HD.out).1, (met_dup HD.out).2]
    exact ⟨none, 0, [], rfl, ⟨Nat.le_refl _, fun _ => rfl⟩, ERow.nothing _, rfl, HB2.out.trans ((HB3.out.trans (HB5.out.mono HB3.out.size)).mono HB2.out.size)⟩
  ·have hkn : ¬ (k : Int) < (lb.length : Int) := by omega
   obtain rfl : k = lb.length := by omega
   obtain ⟨WA, rfl⟩ : ∃ WA, WA = wr := ⟨_, rfl⟩
   have HDN : Hid (dupM on ns (lb.map Er.key) = false) := qh (dupM_no (m := ⟨given, on, ma, mn, mc, 1, ia, im, ic, ns, inc⟩) HND.out)
   have HBW := qh (HB2.out.trans (HB3.out.mono HB2.out.size))
   have HI3 := qh hix
   have HAw := qh (HA.out.below HB3.out)
   have HOw := qh (HBR.out.below HB3.out)
   clear hrw hix hkn hlt q0 q1 q2 q3 q4
   go_wp2_with fail
   go_loopw [18, 19, 20] (ManyRel false ⟨given, on, ma, mn, mc, 1, ia, im, ic, ns, inc⟩ lb la WA) (fun _ _ v _ => la.length - (intOf v).toNat)
   case atStart => exact ⟨0, rfl, by omega, ownE_nil _ _, ownE_nil _ _, fun g h => by simp [Value.ownBlock] at h, fun _ k h => by omega, Below.refl _ _⟩
   case round =>
    obtain ⟨i, rfl, hi, own1, own2, hne, hon, bel⟩ := hrel
    have HO1 := qh own1
    have HO2 := qh own2
    have HNE := qh hne
    have HON := qh trivial
    have HB4 := qh bel
    clear own1 own2 hne hon bel
    by_cases hlt : i < la.length
    ·have i1 : (0 : Int) ≤ (i : Int) := by omega
     have i2 : (i : Int) < (la.length : Int) := by omega
     have HPS := qh (pairs_snoc ⟨given, on, ma, mn, mc, 1, ia, im, ic, ns, inc⟩ lb la hlt)
     go_wp2_with fail
     go_loopw [18, 19, 21] (InnerRel false ⟨given, on, ma, mn, mc, 1, ia, im, ic, ns, inc⟩ lb la i WA) (fun _ _ v _ => lb.length - (intOf v).toNat)
     case atStart => exact ⟨0, rfl, by omega, by simpa [onePair, partR] using HO1.out, by simpa [onePair, partR] using HO2.out, HNE.out, fun _ h => absurd (by rfl) h, HB4.out⟩
     case round =>
      obtain ⟨j, rfl, hj, own1, own2, hne, hon2, bel⟩ := hrel
      have HO3 := qh own1
      have HO4 := qh own2
      have HNE4 := qh hne
      have HON4 := qh trivial
      have HB5 := qh bel
      have hrm := HAw.out.below bel
      have hro := HOw.out.below bel
      have hix := HI3.out.below bel HI3.out.lt
      have HMW4 := qh ((HMW.out).below bel)
      have q0 := hix.cell 0
      have q1 := hix.cell 1
      have q2 := hix.cell 2
      have q3 := hix.cell 3
      have q4 := hix.cell 4
      simp at q0 q1 q2 q3 q4
      clear own1 own2 hne hon2 bel hix
      by_cases hjt : j < lb.length
      ·have j1 : (0 : Int) ≤ (j : Int) := by omega
       have j2 : (j : Int) < (lb.length : Int) := by omega
       obtain ⟨bb, off, hab, hbb, hc⟩ := hrm.2.2.2 (by omega)
       first | subst hab | cases hab
       obtain ⟨x0, x1⟩ := hc i hlt
       obtain ⟨bo, offo, hao, hbo, hco⟩ := hro.2.2.2 (by omega)
       first | subst hao | cases hao
       obtain ⟨y0, y1⟩ := hco j hjt
       have hboA : bo < WA.heap.size := by
        obtain ⟨b', o', e', h', _⟩ := HOw.out.2.2.2 (by omega)
        cases e'; exact h'
       have hxo : ErOk WA (erAt la i) := HAw.out.2.2.1 _ (by rw [erAt_get hlt]; exact List.getElem_mem _)
       have hyo : ErOk WA (erAt lb j) := HOw.out.2.2.1 _ (by rw [erAt_get hjt]; exact List.getElem_mem _)
       have HST := qh (one_step ⟨given, on, ma, mn, mc, 1, ia, im, ic, ns, inc⟩ lb (erAt la i) hjt)
       have HTN : Hid (meetL on ns (erAt la i).ls (erAt lb j).ls = true → partR ⟨given, on, ma, mn, mc, 1, ia, im, ic, ns, inc⟩ (lb.take j) (erAt la i) = none) := qh fun h => part_take_none HND.out hjt h
       have HMT := qh (meet_any (erAt la i).a (erAt lb j).a (erAt la i).n (erAt la i).c (erAt lb j).n (erAt lb j).c (erAt la i).ls (erAt lb j).ls ⟨given, on, ma, mn, mc, 1, ia, im, ic, ns, inc⟩ wr.drew ((hxo.1.below HB5.out).below ((Below.refl _ wr).drewN' 1)) ((hyo.1.below HB5.out).below ((Below.refl _ wr).drewN' 1)) (HMW4.out.below ((Below.refl _ wr).drewN' 1)) hxo.2.2 hyo.2.2)
       dsimp only [Mt.v] at HMT HST HTN
       have HLP : Hid ((pairsR ⟨given, on, ma, mn, mc, 1, ia, im, ic, ns, inc⟩ lb (la.take i)).length ≤ i) := qh (Nat.le_trans (pairs_len _ _ _) (by rw [List.length_take]; omega))
       have HXI : Hid (erAt la i = erAt la i) := qh rfl
       obtain ⟨x, hx⟩ : ∃ x, x = erAt la i := ⟨_, rfl⟩
       obtain ⟨y, hy⟩ : ∃ y, y = erAt lb j := ⟨_, rfl⟩
       rw [← hx, ← hy] at HST HMT HTN
       rw [← hx] at x0 x1 HO3 HO4
       rw [← hy] at y0 y1
       have HX := qh hx
       obtain ⟨xa, xn, xc, xf, xl⟩ := x
       obtain ⟨oa, on_, oc, of, ol⟩ := y
       dsimp only at x0 x1 y0 y1 HMT HST HTN
       have HWD : Hid (Below wr.heap.size wr wr.drew) := qh ((Below.refl _ wr).drewN' 1)
       have HXL : Hid (xn ≤ 4398046511104) := qh (by have := hxo.2.2; rw [← hx] at this; exact this)
       have HXR : Hid (LRow WA xa xn xl) := qh (by have := hxo.1; rw [← hx] at this; exact this)
       clear hx hy hc hco hrm hro hxo hyo
       generalize meetL on ns xl ol = d at *
       cases d
       ·have HS2 : Hid (onePair ⟨given, on, ma, mn, mc, 1, ia, im, ic, ns, inc⟩ (lb.take (j + 1)) ⟨xa, xn, xc, xf, xl⟩ = onePair ⟨given, on, ma, mn, mc, 1, ia, im, ic, ns, inc⟩ (lb.take j) ⟨xa, xn, xc, xf, xl⟩) := qh (by
         rw [HST.out]; unfold onePair; cases partR ⟨given, on, ma, mn, mc, 1, ia, im, ic, ns, inc⟩ (lb.take j) ⟨xa, xn, xc, xf, xl⟩ <;> rfl)
        clear HST HTN
        go_wp2_with fail
        go_still_tail 11, (by kernel_rfl)
        change wpList _ _ _ _ _ wr.drew
        go_wp2_with (go_at_call 45; refine HMT.out.mono ?_; rintro e w5 ⟨rfl, b5⟩; have HB6 := qh (HWD.out.trans b5); clear b5)
        go_roundw
        case rel => exact ⟨j + 1, by first | rfl | (congr 1; omega), by omega, by rw [← HX.out, HS2.out]; exact HO3.out.below HB6.out, by rw [← HX.out, HS2.out]; exact HO4.out.below HB6.out, HNE4.out, fun h => (by cases h), HB5.out.trans (HB6.out.mono HB5.out.size)⟩
        case measure => simp [intOf]; omega
       ·have HP0 : Hid (onePair ⟨given, on, ma, mn, mc, 1, ia, im, ic, ns, inc⟩ (lb.take j) ⟨xa, xn, xc, xf, xl⟩ = []) := qh (by unfold onePair; rw [HTN.out rfl])
        have HS2 : Hid (onePair ⟨given, on, ma, mn, mc, 1, ia, im, ic, ns, inc⟩ (lb.take (j + 1)) ⟨xa, xn, xc, xf, xl⟩ = [(⟨xa, xn, xc, xf, xl⟩, ⟨oa, on_, oc, of, ol⟩)]) := qh (by
         rw [HST.out, HTN.out rfl]; rfl)
        have HO5 : Hid (OwnE WA.heap.size wr u18 ((pairsR ⟨given, on, ma, mn, mc, 1, ia, im, ic, ns, inc⟩ lb (la.take i)).map Prod.fst)) := qh (by have := HO3.out; rw [HP0.out, List.append_nil] at this; exact this)
        have HO6 : Hid (OwnE WA.heap.size wr u19 ((pairsR ⟨given, on, ma, mn, mc, 1, ia, im, ic, ns, inc⟩ lb (la.take i)).map Prod.snd)) := qh (by have := HO4.out; rw [HP0.out, List.append_nil] at this; exact this)
        clear HST HTN HO3 HO4
        go_wp2_with fail
        go_still_tail 11, (by kernel_rfl)
        change wpList _ _ _ _ _ wr.drew
        go_upto_region 29 with (go_at_call 45; refine HMT.out.mono ?_; rintro e w5 ⟨rfl, b5⟩; have HB6 := qh (HWD.out.trans b5); have x0 := cell_stayL x0 HB6.out; have x1 := cell_stayL x1 HB6.out; have y0 := cell_stayL y0 HB6.out; have y1 := cell_stayL y1 HB6.out; have q0 := cell_stayL q0 HB6.out; have q1 := cell_stayL q1 HB6.out; have q2 := cell_stayL q2 HB6.out; have q3 := cell_stayL q3 HB6.out; have q4 := cell_stayL q4 HB6.out; clear b5)
        have s3 : ∀ n os, (grow (w5.drewN n) os).cell? ⟨w.heap.size, 3, none⟩ = some (.int .i64 1) := fun n os => cell_grown (World.block_lt_of_cell? _ _ q3) q3 n os
        refine wp_region_rel (fun wd => ∃ p : GrownBy, wd = grow (w5.drewN p.n) p.os) (fun f _ v => False) (by kernel_rfl) (by kernel_rfl) ⟨⟨1, #[]⟩, by rw [grow_empty]; rfl⟩ (LidK.out ?_)
        iterate 4 (refine wpRel_guardK (by rfl) (by kernel_rfl) ?_; intro K hK; have hK2 := LidK.mk hK; clear hK; go_big_quiet_step (fail); refine wpQuiet_nil ?_; refine hK2.out _ ?_; clear hK2 K)
        iterate 8 (refine wpRel_skipK w5 ⟨⟨0, #[]⟩, by rw [grow_empty]; rfl⟩ (by kernel_rfl) ?_; intro K hK; have hK2 := LidK.mk hK; clear hK; go_big_quiet_step (fail); refine wpQuiet_nil ?_; refine hK2.out _ ?_; clear hK2 K)
        iterate 1 (refine wpRel_guardK (by rfl) (by kernel_rfl) ?_; intro K hK; have hK2 := LidK.mk hK; clear hK; go_big_quiet_step (fail); refine wpQuiet_nil ?_; refine hK2.out _ ?_; clear hK2 K)
        refine LidK.mk (wpRel_nil ?_)
        rintro w6 ⟨⟨nq, osq⟩, rfl⟩
        have gq : Below w5.heap.size w5 (grow (w5.drewN nq) osq) := Grn.below ⟨nq, osq, rfl⟩
        have x0 := cell_stayL x0 gq
        have x1 := cell_stayL x1 gq
        have y0 := cell_stayL y0 gq
        have y1 := cell_stayL y1 gq
        have HB10 := qh (HB6.out.trans (gq.mono HB6.out.size))
        clear gq s3 q0 q1 q2 q3 q4
        generalize grow (w5.drewN nq) osq = W6 at *
        have HQ1 := qh (HO5.out.below HB10.out)
        have HQ2 := qh (HO6.out.below HB10.out)
        have HB7 := qh (HB5.out.trans (HB10.out.mono HB5.out.size))
        have HZ0 := qh y0
        have HZ1 := qh y1
        go_upto_region 32 with (first | (at_builtin; refine wpList_append_er rfl (.tmp 133) (.tmp 138) rfl WA.heap.size u18 _ rfl (HQ1.out.alloc _) W6.heap.size _ ⟨xa, xn, xc, xf, xl⟩ rfl (by rw [World.cell?_alloc_at _ _ _ _ (by rfl)]; rfl) (by rw [World.cell?_alloc_at _ _ _ _ (by rfl)]; rfl) (by rw [List.length_map]; have := HLP.out; omega) (Nat.le_trans HB7.out.size (by simp)) ?_; intro v8 w8 own8 gb8 hv8; have HO8 := qh own8; have HO9 := qh ((HQ2.out.alloc _).grownNe (HQ1.out.alloc _) (fun g h1 h2 => HNE4.out g h2 h1) gb8); have HB8 := qh ((HB7.out.alloc HB7.out.size _).grown gb8 (Nat.le_trans HB7.out.size (by simp)) (fun b hb => (HQ1.out.lt b hb).1)); have hne1 : some bo ≠ (u18 : Value).ownBlock := (fun h => by have h1 := (HQ1.out.lt bo h.symm).1; omega); have z0 := gb8.cell (cell_oldL HZ0.out _) hne1; have z1 := gb8.cell (cell_oldL HZ1.out _) hne1; have HN8 : Hid (∀ g, v8.ownBlock = some g → u19.ownBlock ≠ some g) := qh (fun g h1 h2 => by rcases hv8 with h | h; exact HNE4.out g (by rw [← h]; exact h1) h2; exact absurd (HQ2.out.lt g h2).2 (by rw [h1] at h; injection h with h; rw [h]; simp)); clear own8 gb8 hv8))
        clear y0 y1
        go_wp2_with (first | (at_builtin; refine wpList_append_er rfl (.tmp 140) (.tmp 145) rfl WA.heap.size u19 _ rfl (HO9.out.alloc _) w8.heap.size _ ⟨oa, on_, oc, of, ol⟩ rfl (by rw [World.cell?_alloc_at _ _ _ _ (by rfl)]; rfl) (by rw [World.cell?_alloc_at _ _ _ _ (by rfl)]; rfl) (by rw [List.length_map]; have := HLP.out; omega) (Nat.le_trans HB8.out.size (by simp)) ?_; intro v9 w9 own9 gb9 hv9; have HO10 := qh own9; have HO11 := qh ((HO8.out.alloc _).grownNe (HO9.out.alloc _) (fun g h1 h2 => HN8.out g h1 h2) gb9); have HB9 := qh ((HB8.out.alloc HB8.out.size _).grown gb9 (Nat.le_trans HB8.out.size (by simp)) (fun b hb => (HO9.out.lt b hb).1)); have HN9 : Hid (∀ g, v8.ownBlock = some g → v9.ownBlock ≠ some g) := qh (fun g h1 h2 => by rcases hv9 with h | h; exact HN8.out g h1 (by rw [← h]; exact h2); exact absurd (HO8.out.lt g h1).2 (by rw [h2] at h; injection h with h; rw [h]; simp)); clear own9 gb9 hv9))
        go_roundw
        case rel => exact ⟨j + 1, by first | rfl | (congr 1; omega), by omega, by rw [← HX.out, HS2.out, List.map_append]; exact HO11.out, by rw [← HX.out, HS2.out, List.map_append]; exact HO10.out, HN9.out, fun h _ => (by cases h), HB9.out⟩
        case measure => simp [intOf]; omega
      ·have hjn : ¬ (j : Int) < (lb.length : Int) := by omega
       have HE : Hid (lb.take j = lb) := qh (List.take_of_length_le (by omega))
       have HO5 : Hid (OwnE WA.heap.size wr u18 ((pairsR ⟨given, on, ma, mn, mc, 1, ia, im, ic, ns, inc⟩ lb (la.take (i + 1))).map Prod.fst)) := qh (by have := HO3.out; rw [HE.out, ← HPS.out] at this; exact this)
       have HO6 : Hid (OwnE WA.heap.size wr u19 ((pairsR ⟨given, on, ma, mn, mc, 1, ia, im, ic, ns, inc⟩ lb (la.take (i + 1))).map Prod.snd)) := qh (by have := HO4.out; rw [HE.out, ← HPS.out] at this; exact this)
       have HON5 : Hid (True) := qh (trivial)
       clear hrm hro q0 q1 q2 q3 q4
       go_wp2_with fail
       go_roundw
       case rel => exact ⟨i + 1, by first | rfl | (congr 1; omega), by omega, HO5.out, HO6.out, HNE4.out, fun h => (by cases h), HB5.out⟩
       case measure => simp [intOf]; omega
    ·have hkn : ¬ (i : Int) < (la.length : Int) := by omega
     have HE : Hid (la.take i = la) := qh (List.take_of_length_le (by omega))
     rw [HE.out] at HO1 HO2
     have HLP : Hid ((pairsR ⟨given, on, ma, mn, mc, 1, ia, im, ic, ns, inc⟩ lb la).length ≤ la.length) := qh (pairs_len _ _ _)
     obtain ⟨MS, hMS⟩ : ∃ MS, MS = (pairsR ⟨given, on, ma, mn, mc, 1, ia, im, ic, ns, inc⟩ lb la).map Prod.fst := ⟨_, rfl⟩
     obtain ⟨BS, hBS⟩ : ∃ BS, BS = (pairsR ⟨given, on, ma, mn, mc, 1, ia, im, ic, ns, inc⟩ lb la).map Prod.snd := ⟨_, rfl⟩
     have HLM : Hid (MS.length ≤ 4398046511104) := qh (by rw [hMS, List.length_map]; have := HLP.out; omega)
     have HLB : Hid (BS.length = MS.length) := qh (by rw [hMS, hBS, List.length_map, List.length_map])
     have HPO : Hid (∀ k, outP k on ns inc 1 yes (MS.map Er.key) (BS.map Er.key) = metL k on ns inc 1 yes (la.map Er.key) (lb.map Er.key)) := qh fun k => by
      rw [hMS, hBS]; exact pairs_out k inc 1 yes ⟨given, on, ma, mn, mc, 1, ia, im, ic, ns, inc⟩ lb la
     have HMM : Hid (∀ e ∈ MS, e ∈ la) := qh fun e he => by
      rw [hMS] at he
      obtain ⟨p, hp, rfl⟩ := List.mem_map.1 he
      exact (pairs_mem hp).1
     have HBB : Hid (∀ e ∈ BS, e ∈ lb) := qh fun e he => by
      rw [hBS] at he
      obtain ⟨p, hp, rfl⟩ := List.mem_map.1 he
      exact (pairs_mem hp).2.1
     rw [← hMS] at HO1
     rw [← hBS] at HO2
     clear hMS hBS HLP
     obtain ⟨x1, y1, hv1, hs1, hr1⟩ := HO1.out.row (fun e he => (HAw.out.2.2.1 e (HMM.out e he)).below HB4.out) HLM.out
     obtain ⟨x2, y2, hv2, hs2, hr2⟩ := HO2.out.row (fun e he => (HOw.out.2.2.1 e (HBB.out e he)).below HB4.out) (by rw [HLB.out]; exact HLM.out)
     subst hv1 hv2
     rw [HLB.out] at hr2 HO2
     have hix := HI3.out.below HB4.out HI3.out.lt
     have q0 := hix.cell 0
     have q1 := hix.cell 1
     have q2 := hix.cell 2
     have q3 := hix.cell 3
     have q4 := hix.cell 4
     simp at q0 q1 q2 q3 q4
     have HOT := qh (out_any u x1 x2 MS.length y1 y2 MS BS ⟨given, on, ma, mn, mc, 1, ia, im, ic, ns, inc⟩ yes wr hr1 hr2 ((HMW.out).below HB4.out) (fun e he => HF1.out e (HMM.out e he)) (fun e he => HF2.out e (HBB.out e he)) (fun e he => HSMM.out e (HMM.out e he)) HK.out)
     dsimp only [Mt.v] at HOT
     rw [HPO.out] at HOT
     have HOK := qh (met_ok (many := la.map Er.key) (k := opK u.toList) (inc := inc) (yes := yes) (card := 1) HDN.out (fun h => absurd h (by decide)))
     clear hs1 hs2 hr1 hr2 hix hkn
     have hlb2 := HLB.out
     go_wp2_with (go_at_call 46; refine HOT.out.mono ?_; rintro e w5 ⟨a5, c5, es5, rfl, h1, h2, h3, h4⟩; have HH := qh (And.intro h1 (And.intro h2 (And.intro h3 h4))); clear h1 h2 h3 h4)
     go_ret2
     obtain ⟨h1, h2, h3, h4⟩ := HH.out
     rw [HOK.out.1, HOK.out.2]
     exact ⟨a5, c5, es5, rfl, h1, h2, h3, (HBW.out.trans (HB4.out.mono HBW.out.size)).trans (h4.mono (Nat.le_trans HBW.out.size HB4.out.size))⟩
end Go.Proofs.YtmmfjknnbkcniaaGreatDoor
