/- weirref21.out: a comparison, at any card. weirref21.out at any card; pairs that meet. (Printed by tools/genrv.py.) -/
import Derived.Test.YtmmfjknnbkcniaaGreatDoorV41
import Derived.Test.YtmmfjknnbkcniaaGreatDoorV36
set_option maxHeartbeats 64000000
set_option maxRecDepth 100000
namespace Go.Proofs.YtmmfjknnbkcniaaGreatDoor
open Go.Fl Go.Rel Go.RowKit Go.Maps Go.WideMaps Go.Sort Go.Shelf
set_option linter.unusedSimpArgs false
set_option linter.unusedVariables false
theorem out_co_y (u : ByteArray) (a b : Option Addr) (n ca cb : Nat) (ms bs : List Er) (m : Mt) (w : World) (ha : ERow w a n ms) (hb : ERow w b n bs) (hM : MtOk w m) (hfa : ∀ e ∈ ms, W64 e.f) (hfb : ∀ e ∈ bs, W64 e.f) (him : ∀ e ∈ ms, e.n + m.im ≤ 4398046511000) (h6 : ¬ opK u.toList < 6) (hk : opK u.toList < 12) :
  Calls Tryz.prog 46 #[.string u, .slice a n ca, .slice b n cb, m.v, .bool true] w (AnsRet (setE (outP (opK u.toList) m.on m.ns m.inc m.card true (ms.map Er.key) (bs.map Er.key))) (setV (outP (opK u.toList) m.on m.ns m.inc m.card true (ms.map Er.key) (bs.map Er.key))) w) := by
 have HA := qh ha
 have HBR := qh hb
 have HM := qh hM
 have HFA := qh hfa
 have HFB := qh hfb
 have HIM := qh him
 have hk12 : opK u.toList < 12 := by omega
 have HKD : Hid (∀ w, _) := qh fun w => kindY_any u w hk12
 rw [show kindS (opK u.toList) = 2 from if_neg h6] at HKD
 have hal := ha.1
 have hbl := hb.1
 have n1 : (n : Int) ≤ 4398046511104 := by have := ha.2.1; omega
 obtain ⟨given, on, ma, mn, mc, card, ia, im, ic, ns, inc⟩ := m
 dsimp only [Mt.v] at HIM ⊢
 subst hal
 have HLN : Hid (bs.length = ms.length) := qh hbl
 obtain ⟨W0, hW0⟩ : ∃ W0, W0 = w.alloc (.cells #[.bool given, .bool on, .slice ma mn mc, .int .i64 card, .slice ia im ic] 25) := ⟨_, rfl⟩
 have HI0 : Hid (Bk.Is W0 w.heap.size #[.bool given, .bool on, .slice ma mn mc, .int .i64 card, .slice ia im ic] 25) := qh (by rw [hW0]; exact Bk.Is.made w _ _)
 have HB0 : Hid (Below w.heap.size w W0) := qh (by rw [hW0]; exact (Below.refl _ _).alloc (Nat.le_refl _) _)
 have HW0 := qh hW0
 obtain ⟨FL, hFL⟩ : ∃ FL, FL = stepF (opK u.toList) true := ⟨_, rfl⟩
 obtain ⟨F, hF⟩ : ∃ F : Ek × Ek → Option Ek, F = fun p => outK (opK u.toList) on ns inc card true p.1 p.2 := ⟨_, rfl⟩
 have HFF : Hid (∀ ks ls, outP (opK u.toList) on ns inc card true ks ls = (ks.zip ls).filterMap F) := qh fun ks ls => by rw [hF]; rfl
 have HRL : Hid (∀ (xa : Option Addr) (xn xc : Nat) (xl : List Lb) (oa : Option Addr) (on_ oc : Nat) (ol : List Lb) (W : World), Below w.heap.size w W → LRow W xa xn xl → SlK xa xn xc → LRow W oa on_ ol → xn + im ≤ 4398046511000 → Calls Tryz.prog 68 #[.string u, .slice xa xn xc, .slice oa on_ oc, .agg #[.bool given, .bool on, .slice ma mn mc, .int .i64 card, .slice ia im ic], .bool true] W (ToldRet ⟨xa, xn, xc, 0, xl⟩ on ns inc card FL xl ol W)) := qh fun xa xn xc xl oa on_ oc ol W hW h1 h2 h3 h4 => by
  have h := rlabels_any u xa xn xc xl oa on_ oc ol ⟨given, on, ma, mn, mc, card, ia, im, ic, ns, inc⟩ true W h1 h2 h3 (HM.out.below hW) h4 hk12
  dsimp only [Mt.v] at h
  rw [if_neg h6, ← hFL] at h
  exact h
 have hcb : (card == 2) = true ∨ (card == 2) = false := by cases card == 2 <;> simp
 have HHO : Hid (∀ a b w, _) := qh fun a b w => rhold_any u a b w h6 hk
 have HYN := qh yesno_any
 have HPQ : Hid (∀ xa xn xc xf xl oa on_ oc of ol, F (Er.key ⟨xa, xn, xc, xf, xl⟩, Er.key ⟨oa, on_, oc, of, ol⟩) = some (toldL on ns inc card FL xl ol, if holdsS (opK u.toList) (if card == 2 then of else xf) (if card == 2 then xf else of) then w1 else 0)) := qh fun xa xn xc xf xl oa on_ oc of ol => by
  have hso : ∀ a b, stepO (opK u.toList) a b true = true := fun a b => (if_neg h6).trans (if_pos rfl)
  have hsv : ∀ a b c, stepV (opK u.toList) a b c true = if holdsS (opK u.toList) a b then w1 else 0 := fun a b c => (if_neg h6).trans (if_pos rfl)
  rw [hF, hFL]
  show outK _ _ _ _ _ _ (Er.key ⟨xa, xn, xc, xf, xl⟩) (Er.key ⟨oa, on_, oc, of, ol⟩) = _
  unfold outK
  rw [hso, hsv, if_pos rfl]
  by_cases hc : card = 2
  ·have e : (card == 2) = true := by simpa using hc
   rw [e, if_pos hc, if_pos hc]
   all_goals rfl
  ·have e : (card == 2) = false := by simpa using hc
   rw [e, if_neg hc, if_neg hc]
   all_goals rfl
 clear ha hb hM hfa hfb him hW0 hbl h6 hk hk12 hFL hF
 rw [HFF.out]
 rcases hcb with hcb | hcb
 all_goals
  go_enter Tryz.func46, Tryz.ntmps46
  go_upto_region 2 with fail
  rw [← HW0.out]
  go_wp2_with fail
  go_loopw [12, 13] (OutPR ms bs F W0) (fun _ v _ => ms.length - (intOf v).toNat)
  case atStart => exact ⟨0, [], rfl, by omega, ownE_nil _ _, fun e he => absurd he List.not_mem_nil, rfl, by simp, Below.refl _ _⟩
  case round =>
   obtain ⟨j, O, rfl, hj, own, hok, hkey, hol, bel⟩ := hrel
   have HO := qh own
   have HOK := qh hok
   have HKEY := qh hkey
   have HOL := qh hol
   have HB := qh bel
   have HBT := qh (HB0.out.trans (bel.mono HB0.out.size))
   have hrw := HA.out.below HBT.out
   have hro := HBR.out.below HBT.out
   have hir := HI0.out.below bel HI0.out.lt
   have m0 := hir.cell 0
   have m1 := hir.cell 1
   have m2 := hir.cell 2
   have m3 := hir.cell 3
   have m4 := hir.cell 4
   simp at m0 m1 m2 m3 m4
   clear own hok hkey hol bel hir
   by_cases hlt : j < ms.length
   ·obtain ⟨bb, off, hab, hbb, hc⟩ := hrw.2.2.2 (by omega)
    subst hab
    obtain ⟨x0, x1⟩ := hc j hlt
    obtain ⟨bo, offo, hao, hbo, hco⟩ := hro.2.2.2 (by omega)
    subst hao
    obtain ⟨y0, y1⟩ := hco j hlt
    have j1 : (0 : Int) ≤ (j : Int) := by omega
    have j2 : (j : Int) < (ms.length : Int) := by omega
    have hjb : j < bs.length := by have := HLN.out; omega
    have HFS := qh (zip_snoc (f := F) hlt hjb)
    have hmx : erAt ms j ∈ ms := by rw [erAt_get hlt]; exact List.getElem_mem _
    have hmo : erAt bs j ∈ bs := by rw [erAt_get hjb]; exact List.getElem_mem _
    have HYO : Hid (ErOk W0 (erAt ms j)) := qh ((HA.out.below HB0.out).2.2.1 _ hmx)
    have HZO : Hid (ErOk W0 (erAt bs j)) := qh ((HBR.out.below HB0.out).2.2.1 _ hmo)
    have hxf := HFA.out _ hmx
    have hof := HFB.out _ hmo
    have hxn := HIM.out _ hmx
    clear hmx hmo hjb
    generalize erAt ms j = x at *
    generalize erAt bs j = y at *
    obtain ⟨xa, xn, xc, xf, xl⟩ := x
    obtain ⟨oa, on_, oc, of, ol⟩ := y
    dsimp only at x0 x1 y0 y1 hxf hof hxn
    rw [HPQ.out] at HFS
    have HTD := qh fun W (h : Below W0.heap.size W0 W) =>
     HRL.out xa xn xc xl oa on_ oc ol W (HB0.out.trans (h.mono HB0.out.size)) (HYO.out.1.below h) HYO.out.2.1 (HZO.out.1.below h) hxn
    have HHV : Hid (∀ w, _) := qh fun w => HHO.out (if card == 2 then of else xf) (if card == 2 then xf else of) w
    generalize holdsS (opK u.toList) (if card == 2 then of else xf) (if card == 2 then xf else of) = hh at *
    simp only [hcb, if_true, if_false, Bool.false_eq_true] at HHV
    clear hc hrw hro hco hxf hof hxn
    go_wp2_with fail
    go_quiet (fail)
    have gq : Below wr.heap.size wr (wr.drewN nq) := (Below.refl _ _).drewN' nq
    have x0 := cell_stayL x0 gq
    have y0 := cell_stayL y0 gq
    have m0 := cell_stayL m0 gq
    have m1 := cell_stayL m1 gq
    have m2 := cell_stayL m2 gq
    have m3 := cell_stayL m3 gq
    have m4 := cell_stayL m4 gq
    have HQ := qh gq
    clear gq x1 y1
    generalize wr.drewN nq = W at *
    go_wp2_with (first | (go_at_call 42; refine (HKD.out _).mono ?_; rintro e wk ⟨rfl, rfl⟩) | (go_at_call 67; refine (HHV.out _).mono ?_; rintro e wv ⟨rfl, rfl⟩) | (go_at_call 66; refine (HYN.out _ _).mono ?_; rintro e wv ⟨rfl, rfl⟩))
    have s0 := cellG x0
    have s1 := cellG y0
    have s2 := cellG m0
    have s3 := cellG m1
    have s4 := cellG m2
    have s5 := cellG m3
    have s6 := cellG m4
    refine wp_region_rel_tail3 (fun wd => ∃ p : GrownBy, wd = grow (W.drewN p.n) p.os) (fun f _ v => f = 42 ∧ v = .int .i64 2) (by kernel_rfl) (by kernel_rfl) rfl rfl rfl rfl ⟨⟨1, #[]⟩, by rw [grow_empty]; rfl⟩ (LidK.out ?_)
    iterate 15 (refine wpRel_guardK (by rfl) (by kernel_rfl) ?_; intro K hK; have hK2 := LidK.mk hK; clear hK; go_big_quiet_step (fail); refine wpQuiet_nil ?_; refine hK2.out _ ?_; clear hK2 K)
    iterate 1 (refine wpRel_callK 42 Tryz.f42 _ _ #[.string u] (by kernel_rfl) Tryz.func42 (by kernel_rfl) (by kernel_rfl) (by simp only [List.map_toArray, List.map]; rfl) (fun wd hd => (HKD.out wd).mono fun e w2 ⟨g1, g2⟩ => ⟨_, g1, ⟨rfl, rfl⟩, by rw [← g2]; exact hd⟩) ?_; rintro v ⟨_, rfl⟩; intro K hK; have hK2 := LidK.mk hK; clear hK; go_big_quiet_step (fail); refine wpQuiet_nil ?_; refine hK2.out _ ?_; clear hK2 K)
    iterate 3 (refine wpRel_guardK (by rfl) (by kernel_rfl) ?_; intro K hK; have hK2 := LidK.mk hK; clear hK; go_big_quiet_step (fail); refine wpQuiet_nil ?_; refine hK2.out _ ?_; clear hK2 K)
    iterate 3 (refine wpRel_skipK W ⟨⟨0, #[]⟩, by rw [grow_empty]; rfl⟩ (by kernel_rfl) ?_; intro K hK; have hK2 := LidK.mk hK; clear hK; go_big_quiet_step (fail); refine wpQuiet_nil ?_; refine hK2.out _ ?_; clear hK2 K)
    iterate 1 (refine wpRel_guardK (by rfl) (by kernel_rfl) ?_; intro K hK; have hK2 := LidK.mk hK; clear hK; go_big_quiet_step (fail); refine wpQuiet_nil ?_; refine hK2.out _ ?_; clear hK2 K)
    refine LidK.mk (wpRel_nil ?_)
    rintro w3 ⟨⟨nq2, osq⟩, rfl⟩
    have HW := qh (HQ.out.trans ((Grn.below ⟨nq2, osq, rfl⟩ : Below W.heap.size W (grow (W.drewN nq2) osq)).mono HQ.out.size))
    clear s0 s1 s2 s3 s4 s5 s6 x0 y0 m0 m1 m2 m3 m4
    generalize grow (W.drewN nq2) osq = W3 at HW ⊢
    have HBD : Hid (Below W0.heap.size W0 W3) := qh (HB.out.trans (HW.out.mono HB.out.size))
    go_wp2_with (first | (go_at_call 68; refine (HTD.out _ HBD.out).mono ?_; rintro e W7 ⟨ta, tn, tc, rfl, hkm, b7⟩; have HKM := qh hkm; have HO7 := qh ((HO.out.below HW.out).below b7); have HB7 := qh (HBD.out.trans (b7.mono HBD.out.size)); have HOK7 : Hid (∀ e ∈ O, ErKeep W0 W7 e) := qh fun e he => ((HOK.out e he).below HW.out).below b7; clear hkm b7) | (at_builtin; refine wpList_append_er rfl (.tmp 82) (.tmp 86) rfl W0.heap.size _ O rfl (HO7.out.alloc _) W7.heap.size _ ⟨ta, tn, tc, (tru hh), toldL on ns inc card FL xl ol⟩ rfl (by rw [World.cell?_alloc_at _ _ _ _ (by rfl)]; rfl) (by rw [World.cell?_alloc_at _ _ _ _ (by rfl)]; rfl) (by have := HOL.out; omega) (Nat.le_trans HB7.out.size (by simp)) ?_; intro v8 w8 own8 gb8 hv8; have HO8 := qh own8; have HG8 := qh gb8; clear own8 gb8 hv8))
    go_roundw
    case rel =>
     refine ⟨j + 1, O ++ [⟨ta, tn, tc, (tru hh), toldL on ns inc card FL xl ol⟩], by first | rfl | (congr 1; omega), by omega, HO8.out, ?_, ?_, by have := HOL.out; simp; omega, (HB7.out.alloc HB7.out.size _).grown HG8.out (Nat.le_trans HB7.out.size (by simp)) (fun b hb => (HO.out.lt b hb).1)⟩
     ·intro e he
      rcases List.mem_append.1 he with he | he
      ·exact ((HOK7.out e he).below ((Below.refl _ _).alloc (Nat.le_refl _) _)).grown (HO7.out.alloc _) HG8.out
      ·obtain rfl : e = ⟨ta, tn, tc, (tru hh), toldL on ns inc card FL xl ol⟩ := by simpa using he
       rcases HKM.out with hkm | hkm
       ·injection hkm with h1 h2 h3 h4 h5
        rw [h1, h2, h3, h5]
        exact .inl HYO.out
       ·exact .inr (((show ErOwn W0.heap.size W7 ⟨ta, tn, tc, (tru hh), toldL on ns inc card FL xl ol⟩ from ⟨hkm.1.mono HBD.out.size, hkm.2⟩).below ((Below.refl _ _).alloc (Nat.le_refl _) _)).grown (HO7.out.alloc _) HG8.out)
     ·rw [HFS.out, List.map_append, HKEY.out]; simp [clK, Er.key, cn_tru]
    case measure => simp [intOf]; omega
   ·have hkn : ¬ (j : Int) < (ms.length : Int) := by omega
    have HE : Hid (O.map (fun x => clK x.key) = ((ms.map Er.key).zip (bs.map Er.key)).filterMap F) := qh (by
     rw [HKEY.out, List.take_of_length_le (by simp; omega)]; all_goals rfl)
    obtain ⟨ao, co, hvo, hso, hro2⟩ := HO.out.row (fun e he => (HOK.out e he).ok HB.out) (by have := HOL.out; omega)
    subst hvo
    have HSET := qh (done_any ao O.length co O _ wr hro2 hso HE.out)
    clear hso hro2 hrw hro
    go_wp2_with (go_at_call 63; refine HSET.out.mono ?_; rintro e w5 ⟨a5, c5, es5, rfl, h1, h2, h3, h4⟩; have HH := qh (And.intro h1 (And.intro h2 (And.intro h3 h4))); clear h1 h2 h3 h4)
    go_ret2
    obtain ⟨h1, h2, h3, h4⟩ := HH.out
    exact ⟨a5, c5, es5, rfl, h1, h2, h3, HBT.out.trans (h4.mono HBT.out.size)⟩
theorem out_co_n (u : ByteArray) (a b : Option Addr) (n ca cb : Nat) (ms bs : List Er) (m : Mt) (w : World) (ha : ERow w a n ms) (hb : ERow w b n bs) (hM : MtOk w m) (hfa : ∀ e ∈ ms, W64 e.f) (hfb : ∀ e ∈ bs, W64 e.f) (him : ∀ e ∈ ms, e.n + m.im ≤ 4398046511000) (h6 : ¬ opK u.toList < 6) (hk : opK u.toList < 12) :
  Calls Tryz.prog 46 #[.string u, .slice a n ca, .slice b n cb, m.v, .bool false] w (AnsRet (setE (outP (opK u.toList) m.on m.ns m.inc m.card false (ms.map Er.key) (bs.map Er.key))) (setV (outP (opK u.toList) m.on m.ns m.inc m.card false (ms.map Er.key) (bs.map Er.key))) w) := by
 have HA := qh ha
 have HBR := qh hb
 have HM := qh hM
 have HFA := qh hfa
 have HFB := qh hfb
 have HIM := qh him
 have hk12 : opK u.toList < 12 := by omega
 have HKD : Hid (∀ w, _) := qh fun w => kindY_any u w hk12
 rw [show kindS (opK u.toList) = 2 from if_neg h6] at HKD
 have hal := ha.1
 have hbl := hb.1
 have n1 : (n : Int) ≤ 4398046511104 := by have := ha.2.1; omega
 obtain ⟨given, on, ma, mn, mc, card, ia, im, ic, ns, inc⟩ := m
 dsimp only [Mt.v] at HIM ⊢
 subst hal
 have HLN : Hid (bs.length = ms.length) := qh hbl
 obtain ⟨W0, hW0⟩ : ∃ W0, W0 = w.alloc (.cells #[.bool given, .bool on, .slice ma mn mc, .int .i64 card, .slice ia im ic] 25) := ⟨_, rfl⟩
 have HI0 : Hid (Bk.Is W0 w.heap.size #[.bool given, .bool on, .slice ma mn mc, .int .i64 card, .slice ia im ic] 25) := qh (by rw [hW0]; exact Bk.Is.made w _ _)
 have HB0 : Hid (Below w.heap.size w W0) := qh (by rw [hW0]; exact (Below.refl _ _).alloc (Nat.le_refl _) _)
 have HW0 := qh hW0
 obtain ⟨FL, hFL⟩ : ∃ FL, FL = stepF (opK u.toList) false := ⟨_, rfl⟩
 obtain ⟨F, hF⟩ : ∃ F : Ek × Ek → Option Ek, F = fun p => outK (opK u.toList) on ns inc card false p.1 p.2 := ⟨_, rfl⟩
 have HFF : Hid (∀ ks ls, outP (opK u.toList) on ns inc card false ks ls = (ks.zip ls).filterMap F) := qh fun ks ls => by rw [hF]; rfl
 have HRL : Hid (∀ (xa : Option Addr) (xn xc : Nat) (xl : List Lb) (oa : Option Addr) (on_ oc : Nat) (ol : List Lb) (W : World), Below w.heap.size w W → LRow W xa xn xl → SlK xa xn xc → LRow W oa on_ ol → xn + im ≤ 4398046511000 → Calls Tryz.prog 68 #[.string u, .slice xa xn xc, .slice oa on_ oc, .agg #[.bool given, .bool on, .slice ma mn mc, .int .i64 card, .slice ia im ic], .bool false] W (ToldRet ⟨xa, xn, xc, 0, xl⟩ on ns inc card FL xl ol W)) := qh fun xa xn xc xl oa on_ oc ol W hW h1 h2 h3 h4 => by
  have h := rlabels_any u xa xn xc xl oa on_ oc ol ⟨given, on, ma, mn, mc, card, ia, im, ic, ns, inc⟩ false W h1 h2 h3 (HM.out.below hW) h4 hk12
  dsimp only [Mt.v] at h
  rw [if_neg h6, ← hFL] at h
  exact h
 have hcb : (card == 2) = true ∨ (card == 2) = false := by cases card == 2 <;> simp
 have HHO : Hid (∀ a b w, _) := qh fun a b w => rhold_any u a b w h6 hk
 have HPQ : Hid (∀ xa xn xc xf xl oa on_ oc of ol, F (Er.key ⟨xa, xn, xc, xf, xl⟩, Er.key ⟨oa, on_, oc, of, ol⟩) = if holdsS (opK u.toList) (if card == 2 then of else xf) (if card == 2 then xf else of) then some (toldL on ns inc card FL xl ol, cn (if card == 2 then of else xf)) else none) := qh fun xa xn xc xf xl oa on_ oc of ol => by
  have hso : ∀ a b, stepO (opK u.toList) a b false = holdsS (opK u.toList) a b := fun a b => (if_neg h6).trans (if_neg (by simp))
  have hsv : ∀ a b c, stepV (opK u.toList) a b c false = cn c := fun a b c => (if_neg h6).trans (if_neg (by simp))
  rw [hF, hFL]
  show outK _ _ _ _ _ _ (Er.key ⟨xa, xn, xc, xf, xl⟩) (Er.key ⟨oa, on_, oc, of, ol⟩) = _
  unfold outK
  rw [hso, hsv]
  by_cases hc : card = 2
  ·have e : (card == 2) = true := by simpa using hc
   rw [e, if_pos hc, if_pos hc]
   all_goals rfl
  ·have e : (card == 2) = false := by simpa using hc
   rw [e, if_neg hc, if_neg hc]
   all_goals rfl
 clear ha hb hM hfa hfb him hW0 hbl h6 hk hk12 hFL hF
 rw [HFF.out]
 rcases hcb with hcb | hcb
 all_goals
  go_enter Tryz.func46, Tryz.ntmps46
  go_upto_region 2 with fail
  rw [← HW0.out]
  go_wp2_with fail
  go_loopw [12, 13] (OutPR ms bs F W0) (fun _ v _ => ms.length - (intOf v).toNat)
  case atStart => exact ⟨0, [], rfl, by omega, ownE_nil _ _, fun e he => absurd he List.not_mem_nil, rfl, by simp, Below.refl _ _⟩
  case round =>
   obtain ⟨j, O, rfl, hj, own, hok, hkey, hol, bel⟩ := hrel
   have HO := qh own
   have HOK := qh hok
   have HKEY := qh hkey
   have HOL := qh hol
   have HB := qh bel
   have HBT := qh (HB0.out.trans (bel.mono HB0.out.size))
   have hrw := HA.out.below HBT.out
   have hro := HBR.out.below HBT.out
   have hir := HI0.out.below bel HI0.out.lt
   have m0 := hir.cell 0
   have m1 := hir.cell 1
   have m2 := hir.cell 2
   have m3 := hir.cell 3
   have m4 := hir.cell 4
   simp at m0 m1 m2 m3 m4
   clear own hok hkey hol bel hir
   by_cases hlt : j < ms.length
   ·obtain ⟨bb, off, hab, hbb, hc⟩ := hrw.2.2.2 (by omega)
    subst hab
    obtain ⟨x0, x1⟩ := hc j hlt
    obtain ⟨bo, offo, hao, hbo, hco⟩ := hro.2.2.2 (by omega)
    subst hao
    obtain ⟨y0, y1⟩ := hco j hlt
    have j1 : (0 : Int) ≤ (j : Int) := by omega
    have j2 : (j : Int) < (ms.length : Int) := by omega
    have hjb : j < bs.length := by have := HLN.out; omega
    have HFS := qh (zip_snoc (f := F) hlt hjb)
    have hmx : erAt ms j ∈ ms := by rw [erAt_get hlt]; exact List.getElem_mem _
    have hmo : erAt bs j ∈ bs := by rw [erAt_get hjb]; exact List.getElem_mem _
    have HYO : Hid (ErOk W0 (erAt ms j)) := qh ((HA.out.below HB0.out).2.2.1 _ hmx)
    have HZO : Hid (ErOk W0 (erAt bs j)) := qh ((HBR.out.below HB0.out).2.2.1 _ hmo)
    have hxf := HFA.out _ hmx
    have hof := HFB.out _ hmo
    have hxn := HIM.out _ hmx
    clear hmx hmo hjb
    generalize erAt ms j = x at *
    generalize erAt bs j = y at *
    obtain ⟨xa, xn, xc, xf, xl⟩ := x
    obtain ⟨oa, on_, oc, of, ol⟩ := y
    dsimp only at x0 x1 y0 y1 hxf hof hxn
    rw [HPQ.out] at HFS
    have HTD := qh fun W (h : Below W0.heap.size W0 W) =>
     HRL.out xa xn xc xl oa on_ oc ol W (HB0.out.trans (h.mono HB0.out.size)) (HYO.out.1.below h) HYO.out.2.1 (HZO.out.1.below h) hxn
    have HHV : Hid (∀ w, _) := qh fun w => HHO.out (if card == 2 then of else xf) (if card == 2 then xf else of) w
    generalize holdsS (opK u.toList) (if card == 2 then of else xf) (if card == 2 then xf else of) = hh at *
    have hkf : ∃ kf, kf = (if card == 2 then of else xf) := ⟨_, rfl⟩
    simp only [hcb, if_true, if_false, Bool.false_eq_true] at HHV HFS hkf
    obtain ⟨kf, rfl⟩ := hkf
    clear hc hrw hro hco hxf hof hxn
    go_wp2_with fail
    go_quiet (fail)
    have gq : Below wr.heap.size wr (wr.drewN nq) := (Below.refl _ _).drewN' nq
    have x0 := cell_stayL x0 gq
    have y0 := cell_stayL y0 gq
    have m0 := cell_stayL m0 gq
    have m1 := cell_stayL m1 gq
    have m2 := cell_stayL m2 gq
    have m3 := cell_stayL m3 gq
    have m4 := cell_stayL m4 gq
    have HQ := qh gq
    clear gq x1 y1
    generalize wr.drewN nq = W at *
    cases hh with
    | false =>
     go_wp2_with (first | (go_at_call 42; refine (HKD.out _).mono ?_; rintro e wk ⟨rfl, rfl⟩) | (go_at_call 67; refine (HHV.out _).mono ?_; rintro e wv ⟨rfl, rfl⟩))
     go_roundw
     case rel => exact ⟨j + 1, O, by first | rfl | (congr 1; omega), by omega, HO.out.below HQ.out, fun e he => (HOK.out e he).below HQ.out, by rw [HFS.out, HKEY.out]; simp, by have := HOL.out; omega, HB.out.trans (HQ.out.mono HB.out.size)⟩
     case measure => simp [intOf]; omega
    | true =>
     go_wp2_with (first | (go_at_call 42; refine (HKD.out _).mono ?_; rintro e wk ⟨rfl, rfl⟩) | (go_at_call 67; refine (HHV.out _).mono ?_; rintro e wv ⟨rfl, rfl⟩))
     have s0 := cellG x0
     have s1 := cellG y0
     have s2 := cellG m0
     have s3 := cellG m1
     have s4 := cellG m2
     have s5 := cellG m3
     have s6 := cellG m4
     refine wp_region_rel_tail3 (fun wd => ∃ p : GrownBy, wd = grow (W.drewN p.n) p.os) (fun f _ v => f = 42 ∧ v = .int .i64 2) (by kernel_rfl) (by kernel_rfl) rfl rfl rfl rfl ⟨⟨1, #[]⟩, by rw [grow_empty]; rfl⟩ (LidK.out ?_)
     iterate 14 (refine wpRel_guardK (by rfl) (by kernel_rfl) ?_; intro K hK; have hK2 := LidK.mk hK; clear hK; go_big_quiet_step (fail); refine wpQuiet_nil ?_; refine hK2.out _ ?_; clear hK2 K)
     iterate 3 (refine wpRel_skipK W ⟨⟨0, #[]⟩, by rw [grow_empty]; rfl⟩ (by kernel_rfl) ?_; intro K hK; have hK2 := LidK.mk hK; clear hK; go_big_quiet_step (fail); refine wpQuiet_nil ?_; refine hK2.out _ ?_; clear hK2 K)
     iterate 3 (refine wpRel_guardK (by rfl) (by kernel_rfl) ?_; intro K hK; have hK2 := LidK.mk hK; clear hK; go_big_quiet_step (fail); refine wpQuiet_nil ?_; refine hK2.out _ ?_; clear hK2 K)
     iterate 1 (refine wpRel_callK 42 Tryz.f42 _ _ #[.string u] (by kernel_rfl) Tryz.func42 (by kernel_rfl) (by kernel_rfl) (by simp only [List.map_toArray, List.map]; rfl) (fun wd hd => (HKD.out wd).mono fun e w2 ⟨g1, g2⟩ => ⟨_, g1, ⟨rfl, rfl⟩, by rw [← g2]; exact hd⟩) ?_; rintro v ⟨_, rfl⟩; intro K hK; have hK2 := LidK.mk hK; clear hK; go_big_quiet_step (fail); refine wpQuiet_nil ?_; refine hK2.out _ ?_; clear hK2 K)
     iterate 2 (refine wpRel_guardK (by rfl) (by kernel_rfl) ?_; intro K hK; have hK2 := LidK.mk hK; clear hK; go_big_quiet_step (fail); refine wpQuiet_nil ?_; refine hK2.out _ ?_; clear hK2 K)
     refine LidK.mk (wpRel_nil ?_)
     rintro w3 ⟨⟨nq2, osq⟩, rfl⟩
     have HW := qh (HQ.out.trans ((Grn.below ⟨nq2, osq, rfl⟩ : Below W.heap.size W (grow (W.drewN nq2) osq)).mono HQ.out.size))
     clear s0 s1 s2 s3 s4 s5 s6 x0 y0 m0 m1 m2 m3 m4
     generalize grow (W.drewN nq2) osq = W3 at HW ⊢
     have HBD : Hid (Below W0.heap.size W0 W3) := qh (HB.out.trans (HW.out.mono HB.out.size))
     go_wp2_with (first | (go_at_call 68; refine (HTD.out _ HBD.out).mono ?_; rintro e W7 ⟨ta, tn, tc, rfl, hkm, b7⟩; have HKM := qh hkm; have HO7 := qh ((HO.out.below HW.out).below b7); have HB7 := qh (HBD.out.trans (b7.mono HBD.out.size)); have HOK7 : Hid (∀ e ∈ O, ErKeep W0 W7 e) := qh fun e he => ((HOK.out e he).below HW.out).below b7; clear hkm b7) | (at_builtin; refine wpList_append_er rfl (.tmp 82) (.tmp 86) rfl W0.heap.size _ O rfl (HO7.out.alloc _) W7.heap.size _ ⟨ta, tn, tc, kf, toldL on ns inc card FL xl ol⟩ rfl (by rw [World.cell?_alloc_at _ _ _ _ (by rfl)]; rfl) (by rw [World.cell?_alloc_at _ _ _ _ (by rfl)]; rfl) (by have := HOL.out; omega) (Nat.le_trans HB7.out.size (by simp)) ?_; intro v8 w8 own8 gb8 hv8; have HO8 := qh own8; have HG8 := qh gb8; clear own8 gb8 hv8))
     go_roundw
     case rel =>
      refine ⟨j + 1, O ++ [⟨ta, tn, tc, kf, toldL on ns inc card FL xl ol⟩], by first | rfl | (congr 1; omega), by omega, HO8.out, ?_, ?_, by have := HOL.out; simp; omega, (HB7.out.alloc HB7.out.size _).grown HG8.out (Nat.le_trans HB7.out.size (by simp)) (fun b hb => (HO.out.lt b hb).1)⟩
      ·intro e he
       rcases List.mem_append.1 he with he | he
       ·exact ((HOK7.out e he).below ((Below.refl _ _).alloc (Nat.le_refl _) _)).grown (HO7.out.alloc _) HG8.out
       ·obtain rfl : e = ⟨ta, tn, tc, kf, toldL on ns inc card FL xl ol⟩ := by simpa using he
        rcases HKM.out with hkm | hkm
        ·injection hkm with h1 h2 h3 h4 h5
         rw [h1, h2, h3, h5]
         exact .inl HYO.out
        ·exact .inr (((show ErOwn W0.heap.size W7 ⟨ta, tn, tc, kf, toldL on ns inc card FL xl ol⟩ from ⟨hkm.1.mono HBD.out.size, hkm.2⟩).below ((Below.refl _ _).alloc (Nat.le_refl _) _)).grown (HO7.out.alloc _) HG8.out)
      ·rw [HFS.out, List.map_append, HKEY.out]; simp [clK, Er.key, ]
     case measure => simp [intOf]; omega
   ·have hkn : ¬ (j : Int) < (ms.length : Int) := by omega
    have HE : Hid (O.map (fun x => clK x.key) = ((ms.map Er.key).zip (bs.map Er.key)).filterMap F) := qh (by
     rw [HKEY.out, List.take_of_length_le (by simp; omega)]; all_goals rfl)
    obtain ⟨ao, co, hvo, hso, hro2⟩ := HO.out.row (fun e he => (HOK.out e he).ok HB.out) (by have := HOL.out; omega)
    subst hvo
    have HSET := qh (done_any ao O.length co O _ wr hro2 hso HE.out)
    clear hso hro2 hrw hro
    go_wp2_with (go_at_call 63; refine HSET.out.mono ?_; rintro e w5 ⟨a5, c5, es5, rfl, h1, h2, h3, h4⟩; have HH := qh (And.intro h1 (And.intro h2 (And.intro h3 h4))); clear h1 h2 h3 h4)
    go_ret2
    obtain ⟨h1, h2, h3, h4⟩ := HH.out
    exact ⟨a5, c5, es5, rfl, h1, h2, h3, HBT.out.trans (h4.mono HBT.out.size)⟩
end Go.Proofs.YtmmfjknnbkcniaaGreatDoor
namespace Go.Proofs.YtmmfjknnbkcniaaGreatDoor
open Go.Fl Go.Rel Go.RowKit Go.Maps Go.WideMaps Go.Sort Go.Shelf
set_option linter.unusedSimpArgs false
set_option linter.unusedVariables false
theorem out_any (u : ByteArray) (a b : Option Addr) (n ca cb : Nat) (ms bs : List Er) (m : Mt) (yes : Bool) (w : World) (ha : ERow w a n ms) (hb : ERow w b n bs) (hM : MtOk w m) (hfa : ∀ e ∈ ms, W64 e.f) (hfb : ∀ e ∈ bs, W64 e.f) (him : ∀ e ∈ ms, e.n + m.im ≤ 4398046511000) (hk : opK u.toList < 12) :
  Calls Tryz.prog 46 #[.string u, .slice a n ca, .slice b n cb, m.v, .bool yes] w (AnsRet (setE (outP (opK u.toList) m.on m.ns m.inc m.card yes (ms.map Er.key) (bs.map Er.key))) (setV (outP (opK u.toList) m.on m.ns m.inc m.card yes (ms.map Er.key) (bs.map Er.key))) w) := by
 by_cases h6 : opK u.toList < 6
 ·exact out_ar u a b n ca cb ms bs m yes w ha hb hM hfa hfb him h6
 ·cases yes
  ·exact out_co_n u a b n ca cb ms bs m w ha hb hM hfa hfb him h6 hk
  ·exact out_co_y u a b n ca cb ms bs m w ha hb hM hfa hfb him h6 hk
def partR (m : Mt) (ss : List Er) (x : Er) : Option Er := ss.find? fun y => meetL m.on m.ns x.ls y.ls
def onePair (m : Mt) (ss : List Er) (x : Er) : List (Er × Er) := match partR m ss x with | some y => [(x, y)] | none => []
def pairsR (m : Mt) (ss l : List Er) : List (Er × Er) := l.flatMap (onePair m ss)
theorem pairs_snoc (m : Mt) (ss l : List Er) {i : Nat} (h : i < l.length) : pairsR m ss (l.take (i + 1)) = pairsR m ss (l.take i) ++ onePair m ss (erAt l i) := by
 unfold pairsR
 rw [List.take_add_one, List.getElem?_eq_getElem h, List.flatMap_append, erAt_get h]; simp
theorem partR_key (m : Mt) (ss : List Er) (x : Er) : partK m.on m.ns (ss.map Er.key) x.key = (partR m ss x).map Er.key := by
 unfold partK partR
 rw [List.find?_map]; rfl
theorem pairs_out (k : Nat) (inc : List ByteArray) (card : Int) (yes : Bool) (m : Mt) (ss l : List Er) : outP k m.on m.ns inc card yes (((pairsR m ss l).map Prod.fst).map Er.key) (((pairsR m ss l).map Prod.snd).map Er.key) = metL k m.on m.ns inc card yes (l.map Er.key) (ss.map Er.key) := by
 unfold outP metL pairsR
 rw [List.map_map, List.map_map]
 induction l with
 | nil => rfl
 | cons x l ih =>
  rw [List.flatMap_cons, List.map_append, List.map_append, List.zip_append (by simp), List.filterMap_append, ih, List.map_cons, List.filterMap_cons]
  unfold roundK onePair
  rw [partR_key]
  cases partR m ss x with
  | none => rfl
  | some y =>
   simp only [List.map_cons, List.map_nil, List.zip_cons_cons, List.zip_nil_right, List.filterMap_cons, List.filterMap_nil, Option.map_some, Option.bind_some, Function.comp]
   cases outK k m.on m.ns inc card yes x.key y.key <;> rfl
theorem pairs_len (m : Mt) (ss l : List Er) : (pairsR m ss l).length ≤ l.length := by
 induction l with
 | nil => simp [pairsR]
 | cons x l ih =>
  have h1 : (onePair m ss x).length ≤ 1 := by unfold onePair; cases partR m ss x <;> simp
  have h2 : pairsR m ss (x :: l) = onePair m ss x ++ pairsR m ss l := rfl
  rw [h2, List.length_append, List.length_cons]; omega
theorem pairs_mem {m : Mt} {ss l : List Er} {p : Er × Er} (h : p ∈ pairsR m ss l) : p.1 ∈ l ∧ p.2 ∈ ss ∧ partR m ss p.1 = some p.2 := by
 unfold pairsR at h
 obtain ⟨x, hx, hp⟩ := List.mem_flatMap.1 h
 unfold onePair at hp
 cases hy : partR m ss x with
 | none => rw [hy] at hp; cases hp
 | some y =>
  rw [hy] at hp
  obtain rfl : p = (x, y) := by simpa using hp
  exact ⟨hx, List.mem_of_find?_eq_some hy, hy⟩
theorem part_take_none {m : Mt} {ss : List Er} (hd : NoDupM m ss ss.length) {x : Er} {j : Nat} (hj : j < ss.length) (h : meetL m.on m.ns x.ls (erAt ss j).ls = true) : partR m (ss.take j) x = none := by
 unfold partR
 rw [List.find?_eq_none]
 intro y hy hm
 obtain ⟨i, hi, rfl⟩ := List.getElem_of_mem hy
 have h1 := hd j hj
 unfold meetsK at h1
 rw [List.any_eq_false] at h1
 refine h1 ((ss.take j)[i]).ls (List.mem_map_of_mem (List.getElem_mem hi)) ?_
 rw [← meet_same h]; exact hm
theorem one_step (m : Mt) (ss : List Er) (x : Er) {j : Nat} (hj : j < ss.length) : onePair m (ss.take (j + 1)) x = match partR m (ss.take j) x with | some y => [(x, y)] | none => if meetL m.on m.ns x.ls (erAt ss j).ls then [(x, erAt ss j)] else [] := by
 unfold onePair partR
 rw [List.take_add_one, List.getElem?_eq_getElem hj, List.find?_append, ← erAt_get hj]
 cases List.find? (fun y => meetL m.on m.ns x.ls y.ls) (ss.take j) with
 | some y => rfl
 | none =>
  simp only [Option.none_or, Option.toList_some, List.find?_cons, List.find?_nil]
  cases meetL m.on m.ns x.ls (erAt ss j).ls <;> rfl
def OneEach (m : Mt) (ss l : List Er) (i : Nat) : Prop := ∀ k, k < i → (partR m ss (erAt l k)).isSome = true → meetsK m.on m.ns (erAt l k).ls (((pairsR m ss (l.take k)).map Prod.fst).map Er.ls) = false
theorem cnt_two {p : Er → Bool} {l : List Er} (h : 1 < l.countP p) : ∃ i j, i < j ∧ j < l.length ∧ p (erAt l i) = true ∧ p (erAt l j) = true := by
 induction l with
 | nil => simp at h
 | cons x l ih =>
  by_cases hx : p x = true
  ·rw [List.countP_cons_of_pos hx] at h
   have : 0 < l.countP p := by omega
   obtain ⟨y, hy, hpy⟩ := List.countP_pos_iff.1 this
   obtain ⟨j, hj, rfl⟩ := List.getElem_of_mem hy
   refine ⟨0, j + 1, by omega, by simp; omega, by simpa [erAt] using hx, ?_⟩
   rw [erAt_get (by simp; omega), List.getElem_cons_succ]; exact hpy
  ·rw [List.countP_cons_of_neg hx] at h
   obtain ⟨i, j, h1, h2, h3, h4⟩ := ih h
   refine ⟨i + 1, j + 1, by omega, by simp; omega, ?_, ?_⟩
   ·rw [erAt_get (by simp; omega), List.getElem_cons_succ, ← erAt_get (by omega)]; exact h3
   ·rw [erAt_get (by simp; omega), List.getElem_cons_succ, ← erAt_get (by omega)]; exact h4
theorem two_cnt {p : Er → Bool} {l : List Er} {i j : Nat} (hij : i < j) (hj : j < l.length) (h1 : p (erAt l i) = true) (h2 : p (erAt l j) = true) : 1 < l.countP p := by
 induction l generalizing i j with
 | nil => simp at hj
 | cons x l ih =>
  obtain ⟨j', rfl⟩ : ∃ j', j = j' + 1 := ⟨j - 1, by omega⟩
  have hj' : j' < l.length := by simpa using hj
  rw [erAt_get hj, List.getElem_cons_succ] at h2
  cases i with
  | zero =>
   have hx : p x = true := by simpa [erAt] using h1
   rw [List.countP_cons_of_pos hx]
   have : 0 < l.countP p := List.countP_pos_iff.2 ⟨l[j'], List.getElem_mem _, h2⟩
   omega
  | succ i' =>
   have hi' : i' < l.length := by omega
   rw [erAt_get (by simp; omega), List.getElem_cons_succ, ← erAt_get hi'] at h1
   rw [← erAt_get hj'] at h2
   have := ih (i := i') (j := j') (by omega) hj' h1 h2
   rw [List.countP_cons]; omega
theorem part_same {m : Mt} {ss : List Er} {x y : Er} (h : meetL m.on m.ns x.ls y.ls = true) : partR m ss x = partR m ss y := by
 unfold partR
 congr 1
 funext z
 exact meet_same h _
theorem mem_pairs {m : Mt} {ss l : List Er} {x : Er} (hx : x ∈ l) (h : (partR m ss x).isSome = true) : x.ls ∈ ((pairsR m ss l).map Prod.fst).map Er.ls := by
 obtain ⟨y, hy⟩ := Option.isSome_iff_exists.1 h
 rw [List.map_map]
 refine List.mem_map.2 ⟨(x, y), ?_, rfl⟩
 unfold pairsR
 refine List.mem_flatMap.2 ⟨x, hx, ?_⟩
 unfold onePair
 rw [hy]; simp
theorem mult_no {m : Mt} {ss l : List Er} (h : OneEach m ss l l.length) : multM m.on m.ns (l.map Er.key) (ss.map Er.key) = false := by
 unfold multM
 rw [List.any_eq_false]
 intro k hk hbad
 obtain ⟨x, hx, rfl⟩ := List.mem_map.1 hk
 rw [Bool.and_eq_true, decide_eq_true_eq, List.countP_map, partR_key, Option.isSome_map] at hbad
 obtain ⟨hp, hc⟩ := hbad
 obtain ⟨i, j, hij, hj, h1, h2⟩ := cnt_two hc
 have h1 : meetL m.on m.ns x.ls (erAt l i).ls = true := h1
 have h2 : meetL m.on m.ns x.ls (erAt l j).ls = true := h2
 have hpj : (partR m ss (erAt l j)).isSome = true := by rw [← part_same h2]; exact hp
 have hpi : (partR m ss (erAt l i)).isSome = true := by rw [← part_same h1]; exact hp
 have h3 := h j hj hpj
 unfold meetsK at h3
 rw [List.any_eq_false] at h3
 refine h3 _ (mem_pairs (x := erAt l i) (by rw [erAt_get (by omega)]; exact List.mem_take_iff_getElem.2 ⟨i, by omega, rfl⟩) hpi) ?_
 rw [← meet_same h2]; exact h1
theorem mult_yes {m : Mt} {ss l : List Er} {i : Nat} (hi : i < l.length) (hp : (partR m ss (erAt l i)).isSome = true) (h : meetsK m.on m.ns (erAt l i).ls (((pairsR m ss (l.take i)).map Prod.fst).map Er.ls) = true) : multM m.on m.ns (l.map Er.key) (ss.map Er.key) = true := by
 unfold meetsK at h
 rw [List.any_eq_true] at h
 obtain ⟨b, hb, hm⟩ := h
 rw [List.map_map] at hb
 obtain ⟨p, hpp, rfl⟩ := List.mem_map.1 hb
 obtain ⟨h1, h2, h3⟩ := pairs_mem hpp
 obtain ⟨k, hk, hkx⟩ := List.getElem_of_mem h1
 have hki : k < i := by simp at hk; omega
 unfold multM
 rw [List.any_eq_true]
 refine ⟨(erAt l i).key, List.mem_map_of_mem (by rw [erAt_get hi]; exact List.getElem_mem _), ?_⟩
 rw [Bool.and_eq_true, decide_eq_true_eq, List.countP_map, partR_key, Option.isSome_map]
 refine ⟨hp, two_cnt (i := k) (j := i) hki hi ?_ (meet_refl _ _ _)⟩
 show meetL m.on m.ns (erAt l i).ls (erAt l k).ls = true
 have : erAt l k = p.1 := by rw [← hkx, List.getElem_take, erAt_get (by omega)]
 rw [this]; exact hm
def DupARel (m : Mt) (ss : List Er) (w : World) (v17 : Value) (wr : World) : Prop := ∃ k : Nat, v17 = .int .i64 (k : Int) ∧ k ≤ ss.length ∧ NoDupM m ss k ∧ Below w.heap.size w wr
def ManyRel (one : Bool) (m : Mt) (ss l : List Er) (w : World) (v18 v19 v20 : Value) (wr : World) : Prop :=
 ∃ i : Nat, v20 = .int .i64 (i : Int) ∧ i ≤ l.length ∧ OwnE w.heap.size wr v18 ((pairsR m ss (l.take i)).map Prod.fst) ∧ OwnE w.heap.size wr v19 ((pairsR m ss (l.take i)).map Prod.snd) ∧
  (∀ g, v18.ownBlock = some g → v19.ownBlock ≠ some g) ∧ (one = true → OneEach m ss l i) ∧ Below w.heap.size w wr
def InnerRel (one : Bool) (m : Mt) (ss l : List Er) (i : Nat) (w : World) (v18 v19 v21 : Value) (wr : World) : Prop :=
 ∃ j : Nat, v21 = .int .i64 (j : Int) ∧ j ≤ ss.length ∧ OwnE w.heap.size wr v18 ((pairsR m ss (l.take i) ++ onePair m (ss.take j) (erAt l i)).map Prod.fst) ∧ OwnE w.heap.size wr v19 ((pairsR m ss (l.take i) ++ onePair m (ss.take j) (erAt l i)).map Prod.snd) ∧
  (∀ g, v18.ownBlock = some g → v19.ownBlock ≠ some g) ∧ (one = true → (onePair m (ss.take j) (erAt l i) ≠ [] → meetsK m.on m.ns (erAt l i).ls (((pairsR m ss (l.take i)).map Prod.fst).map Er.ls) = false)) ∧ Below w.heap.size w wr
theorem OwnE.grownNe {B C : Nat} {w w' : World} {v u : Value} {es fs : List Er} (h : OwnE B w v es) (hu : OwnE C w u fs) (hne : ∀ g, v.ownBlock = some g → u.ownBlock ≠ some g) (hg : w.grownBy w' u.ownBlock) : OwnE B w' v es :=
 World.ownsRow.kept h hg (by
  cases hb : v.ownBlock with
  | none =>
   cases hq : u.ownBlock with
   | none => exact .inl rfl
   | some k => exact .inr (fun g => by cases g)
  | some g => exact .inr (fun e => hne g hb e.symm))
end Go.Proofs.YtmmfjknnbkcniaaGreatDoor
