/- pair.met at Card 2: the walk. (Printed by tools/genmet.py.) -/
import Derived.Test.YtmmfjknnbkcniaaGreatDoorV36
import Derived.Deep.RegionWith
import Derived.Deep.Cut
set_option maxHeartbeats 64000000
set_option maxRecDepth 100000
namespace Go.Proofs.YtmmfjknnbkcniaaGreatDoor
open Go.Fl Go.Rel Go.RowKit Go.Maps Go.WideMaps
set_option linter.unusedSimpArgs false
set_option linter.unusedVariables false
theorem met_c2 (u : ByteArray) (ada adb : Addr) (na ca nb cb : Nat) (la lb : List Er) (m : Mt) (yes : Bool) (w : World) (ha : ERow w (some ada) na la) (hb : ERow w (some adb) nb lb) (hM : MtOk w m) (hla : KeyFits m.on m.ns la) (hlb : KeyFits m.on m.ns lb) (hT : Tab w.heap.size w) (hn : na + nb ≤ 4398046511000)
  (hfa : ∀ e ∈ la, W64 e.f) (hfb : ∀ e ∈ lb, W64 e.f) (him : ∀ e ∈ lb, e.n + m.im ≤ 4398046511000) (hk : opK u.toList < 12) (hcd : m.card = 2) :
  Calls Tryz.prog 26 #[.string u, .slice (some ada) na ca, .slice (some adb) nb cb, m.v, .bool yes] w (AnsO (metE (opK u.toList) m.on m.ns m.inc m.card yes (lb.map Er.key) (la.map Er.key)) (metV (opK u.toList) m.on m.ns m.inc m.card yes (lb.map Er.key) (la.map Er.key)) w) := by
 have HA := qh ha
 have HBR := qh hb
 have HM := qh hM
 have HFA := qh hfa
 have HFB := qh hfb
 have HIM := qh him
 have HK := qh hk
 have hal := ha.1
 have hbl := hb.1
 subst hal
 subst hbl
 have n1 : (la.length : Int) ≤ 4398046511000 := by omega
 have n2 : (lb.length : Int) ≤ 4398046511000 := by omega
 have HKO : Hid (∀ W, Below w.heap.size w W → Calls Tryz.prog 47 #[.slice (some ada) la.length ca, m.v] W (KeysRet m la W)) := qh fun W h => keys_any _ la.length ca la m W (ha.below h) (hM.below h) hla (fun w' h2 => hT w' (h.trans (h2.mono h.size)))
 have HKM : Hid (∀ W, Below w.heap.size w W → Calls Tryz.prog 47 #[.slice (some adb) lb.length cb, m.v] W (KeysRet m lb W)) := qh fun W h => keys_any _ lb.length cb lb m W (hb.below h) (hM.below h) hlb (fun w' h2 => hT w' (h.trans (h2.mono h.size)))
 obtain ⟨given, on, ma, mn, mc, card, ia, im, ic, ns, inc⟩ := m
 dsimp only at hcd
 subst hcd
 dsimp only [Mt.v] at HKO HKM HIM ⊢
 obtain ⟨W0, hW0⟩ : ∃ W0, W0 = w.alloc (.cells #[.bool given, .bool on, .slice ma mn mc, .int .i64 2, .slice ia im ic] 25) := ⟨_, rfl⟩
 have hI0 : Bk.Is W0 w.heap.size #[.bool given, .bool on, .slice ma mn mc, .int .i64 2, .slice ia im ic] 25 := by rw [hW0]; exact Bk.Is.made w _ _
 have HI0 := qh hI0
 have HB0 : Hid (Below w.heap.size w W0) := qh (by rw [hW0]; exact (Below.refl _ _).alloc (Nat.le_refl _) _)
 have HS0 : Hid (W0.heap.size = w.heap.size + 1) := qh (by rw [hW0]; simp)
 have q0 := hI0.cell 0
 have q1 := hI0.cell 1
 have q2 := hI0.cell 2
 have q3 := hI0.cell 3
 have q4 := hI0.cell 4
 simp at q0 q1 q2 q3 q4
 have HW0 := qh hW0
 clear ha hb hM hla hlb hT hI0 hW0 hfa hfb him
 go_enter Tryz.func26, Tryz.ntmps26
 go_upto_region 1 with fail
 rw [← HW0.out]
 have hmk : (Instr.makeMap 79 none).run Tryz.prog W0 = .ok (.map (some W0.heap.size)) (W0.alloc (.map #[] 0)) := run_makeMap_plain (P := Tryz.prog) (w := W0) 79
 have HB1 : Hid (Below w.heap.size w (W0.alloc (.map #[] 0))) := qh (HB0.out.alloc HB0.out.size _)
 have HMP := qh (MapF.made W0)
 have p0 := cell_oldL q0 (.map #[] 0)
 have p1 := cell_oldL q1 (.map #[] 0)
 have p2 := cell_oldL q2 (.map #[] 0)
 have p3 := cell_oldL q3 (.map #[] 0)
 have p4 := cell_oldL q4 (.map #[] 0)
 go_wp2_with (go_at_call 47; refine (HKO.out _ HB1.out).mono ?_; rintro e w2 ⟨g1, rfl, r1, b2⟩; have HR1 := qh r1; have HM2 := qh (HMP.out.below b2 (by simp)); have HB2 := qh (b2.mono (show W0.heap.size ≤ (W0.alloc (.map #[] 0)).heap.size by simp)); clear r1 b2)
 have HBA : Hid (Below W0.heap.size W0 w2) := qh (((Below.refl W0.heap.size W0).alloc (Nat.le_refl _) _).trans HB2.out)
 clear p0 p1 p2 p3 p4 hmk HB1 HMP
 go_loopw [39] (PartRel ⟨given, on, ma, mn, mc, 2, ia, im, ic, ns, inc⟩ la W0.heap.size g1 W0) (fun v _ => la.length - (intOf v).toNat)
 case atStart => exact ⟨0, _, rfl, by omega, HM2.out, PartF.nil _, fun i h => by omega, HR1.out, HBA.out⟩
 case round =>
  obtain ⟨k, F, rfl, hk1, mf, pf, nd, nr, bel⟩ := hrel
  have HMF := qh mf
  have HPF := qh pf
  have HND := qh nd
  have HNR := qh nr
  have HB3 := qh bel
  clear mf pf nd nr bel
  by_cases hlt : k < la.length
  ·have k1 : (0 : Int) ≤ (k : Int) := by omega
   have k2 : (k : Int) < (la.length : Int) := by omega
   have z0 : wr.cell? ⟨g1, k, none⟩ = some (.string (keyE ⟨given, on, ma, mn, mc, 2, ia, im, ic, ns, inc⟩ (erAt la k))) := by
    obtain ⟨b1, o1, hb1, _, hc1⟩ := HNR.out.2.2.2 (by omega)
    cases hb1
    have := hc1 k (by omega)
    rw [nsAt_keys _ _ (by omega), Nat.zero_add] at this
    exact this
   have hsz : (keyE ⟨given, on, ma, mn, mc, 2, ia, im, ic, ns, inc⟩ (erAt la k)).size ≤ maxLen := by
    have := HNR.out.2.2.1 _ (List.mem_map_of_mem (f := keyE ⟨given, on, ma, mn, mc, 2, ia, im, ic, ns, inc⟩) (show erAt la k ∈ la by rw [erAt_get (by omega)]; exact List.getElem_mem _))
    unfold SmallT at this; unfold maxLen; omega
   have hF := HPF.out (erAt la k)
   have HSN : Hid (F (keyE ⟨given, on, ma, mn, mc, 2, ia, im, ic, ns, inc⟩ (erAt la k)) = 0 → PartF ⟨given, on, ma, mn, mc, 2, ia, im, ic, ns, inc⟩ (la.take (k + 1)) (fun t => if t.data.toList = (keyE ⟨given, on, ma, mn, mc, 2, ia, im, ic, ns, inc⟩ (erAt la k)).data.toList then (k : Int) + 1 else F t)) := qh fun h0 => HPF.out.snoc (by omega) h0
   obtain ⟨S, hS⟩ : ∃ S, S = keyE ⟨given, on, ma, mn, mc, 2, ia, im, ic, ns, inc⟩ (erAt la k) := ⟨_, rfl⟩
   rw [← hS] at z0 hsz hF HSN
   have HS := qh hsz
   have hcw : IntKind.i64.wrap ((k : Int) + 1) = (k : Int) + 1 := by rw [IntKind.wrap_i64]; omega
   clear hsz hS
   rcases hF with ⟨hFS, hno⟩ | ⟨j, hj, hFS, hme⟩
   ·have HNO := qh hno
    have HP2 := qh (HSN.out hFS)
    clear hno HSN
    go_wp2_with (first | (at_lookup; refine wpList_lookup_F rfl _ _ rfl W0.heap.size k F rfl HMF.out S rfl HS.out ?_; rw [hFS]) | (at_mapUpdate; refine wpList_update_F rfl _ _ _ rfl W0.heap.size k F rfl HMF.out (by unfold maxLen; omega) S rfl HS.out ((k : Int) + 1) rfl (by omega) ?_; intro w5 hm5 hg5; have HM5 := qh hm5; have HG5 := qh hg5; clear hm5 hg5))
    go_roundw
    case rel =>
     refine ⟨k + 1, _, by first | rfl | (congr 1; omega), by omega, HM5.out, HP2.out, fun i hi => ?_, HNR.out.grown HMF.out HG5.out, HB3.out.grown HG5.out HB3.out.size (fun b hb => by injection hb with hb; omega)⟩
     by_cases hik : i = k
     ·rw [hik]; exact HNO.out
     ·exact HND.out i (by omega)
    case measure => simp [intOf]; omega
   ·have hjk : j < k := by simp at hj; omega
    have HD : Hid (dupM on ns (la.map Er.key) = true) := qh (dupM_yes (m := ⟨given, on, ma, mn, mc, 2, ia, im, ic, ns, inc⟩) (i := k) (j := j) (by omega) hjk (by rw [erAt_take _ hjk] at hme; exact hme))
    have hc3 : decide ((0 : Int) < (j : Int) + 1) = true := decide_eq_true (by omega)
    clear hme hj HSN
    go_wp2_with (first | (at_lookup; refine wpList_lookup_F rfl _ _ rfl W0.heap.size k F rfl HMF.out S rfl HS.out ?_; rw [hFS]))
    go_ret2
    unfold metE metV
    rw [HD.out, if_pos rfl, if_pos rfl]
    exact AnsO.nil _ 0 (HB0.out.trans (HB3.out.mono HB0.out.size)) rfl
  ·have hkn : ¬ (k : Int) < (la.length : Int) := by omega
   obtain rfl : k = la.length := by omega
   have HPF2 : Hid (PartF ⟨given, on, ma, mn, mc, 2, ia, im, ic, ns, inc⟩ la F) := qh (by have := HPF.out; rw [List.take_length] at this; exact this)
   have HDN : Hid (dupM on ns (la.map Er.key) = false) := qh (dupM_no HND.out)
   have HBW : Hid (Below w.heap.size w wr) := qh (HB0.out.trans (HB3.out.mono HB0.out.size))
   have hl0 : w.heap.size < W0.heap.size := by have := HS0.out; omega
   have HI3 := qh (HI0.out.below HB3.out hl0)
   have p0 := HI3.out.cell 0
   have p1 := HI3.out.cell 1
   have p2 := HI3.out.cell 2
   have p3 := HI3.out.cell 3
   have p4 := HI3.out.cell 4
   simp at p0 p1 p2 p3 p4
   obtain ⟨F2, hF2⟩ : ∃ F2 : ByteArray → Int, F2 = fun t => (cntT (lb.map (keyE ⟨given, on, ma, mn, mc, 2, ia, im, ic, ns, inc⟩)) t : Int) := ⟨_, rfl⟩
   obtain ⟨NC, hNC⟩ : ∃ NC, NC = (lb.map (keyE ⟨given, on, ma, mn, mc, 2, ia, im, ic, ns, inc⟩)).length := ⟨_, rfl⟩
   have HCN : Hid (∀ W g, NRow W (some ⟨g, 0, none⟩) lb.length (lb.map (keyE ⟨given, on, ma, mn, mc, 2, ia, im, ic, ns, inc⟩)) → Calls Tryz.prog 48 #[.slice (some ⟨g, 0, none⟩) lb.length lb.length] W fun e w' => e = .returned (.map (some W.heap.size)) ∧ MapF w' W.heap.size NC F2 ∧ Below W.heap.size W w') := qh (by
    rw [hF2, hNC]
    exact fun W g h => counted_any _ _ _ _ W h (by omega))
   have HF2 : Hid (∀ e : Er, F2 (keyE ⟨given, on, ma, mn, mc, 2, ia, im, ic, ns, inc⟩ e) = ((((lb.map Er.key).countP fun y => meetL on ns e.key.1 y.1) : Nat) : Int)) := qh fun e => by
    rw [hF2]; dsimp only; rw [cnt_many]
   clear hkn HPF hF2 hNC hlt
   go_wp2_with (first | (go_at_call 47; refine (HKM.out _ HBW.out).mono ?_; rintro e w4 ⟨g2, rfl, r4, b4⟩; have HR4 := qh r4; have HB4 := qh b4; clear r4 b4) | (go_at_call 48; refine (HCN.out _ _ HR4.out).mono ?_; rintro e w5 ⟨rfl, m5, b5⟩; have HC5 := qh m5; have HBC := qh (HB4.out.trans (b5.mono HB4.out.size)); have HR5 := qh (HR4.out.below b5); clear m5 b5))
   have HB5 := qh (HBW.out.trans (HBC.out.mono HBW.out.size))
   have HP5 := qh (HMF.out.below HBC.out HMF.out.lt)
   have hlw : w.heap.size < wr.heap.size := by have := HB3.out.size; omega
   have HI5 := qh (HI3.out.below HBC.out hlw)
   obtain ⟨OKF, hOKF⟩ : ∃ OKF : Ek → Bool, OKF = fun x => !((partK on ns (la.map Er.key) x).isSome && decide (1 < (lb.map Er.key).countP fun y => meetL on ns x.1 y.1)) := ⟨_, rfl⟩
   have HOKF := qh hOKF
   clear hOKF p0 p1 p2 p3 p4 HR4 HB4 HBC HMF HI3 q0 q1 q2 q3 q4 HKO HKM HCN HM2
   go_loopw [19, 60] (MetRel lb (roundK (opK u.toList) on ns inc 2 yes (la.map Er.key)) (fun _ => true) w5) (fun _ v _ => lb.length - (intOf v).toNat)
   case atStart => exact ⟨0, [], rfl, by omega, ownE_nil _ _, fun e he => absurd he List.not_mem_nil, rfl, by simp, fun i h => by omega, Below.refl _ _⟩
   case round =>
    obtain ⟨j, O, rfl, hj, own, hok, hkey, hol, hcard, bel⟩ := hrel
    have HO := qh own
    have HOK := qh hok
    have HKEY := qh hkey
    have HOL := qh hol
    have HCD := qh hcard
    have HBR2 := qh bel
    have HBT := qh (HB5.out.trans (bel.mono HB5.out.size))
    have HPR := qh (HP5.out.below bel HP5.out.lt)
    have HCR := qh (HC5.out.below bel HC5.out.lt)
    have hrw := HBR.out.below HBT.out
    have hro := HA.out.below HBT.out
    have hlw5 : w.heap.size < w5.heap.size := HI5.out.lt
    have hi5 := HI5.out.below bel HI5.out.lt
    have HIR := qh hi5
    have p3 := hi5.cell 3
    simp at p3
    clear own hok hkey hol hcard hi5
    by_cases hlt : j < lb.length
    ·obtain ⟨bb, off, hab, hbb, hc⟩ := hrw.2.2.2 (by omega)
     first | subst hab | cases hab
     obtain ⟨x0, x1⟩ := hc j (by omega)
     have j1 : (0 : Int) ≤ (j : Int) := by omega
     have j2 : (j : Int) < (lb.length : Int) := by omega
     have j3 : (j : Int) < (lb.length : Int) := by omega
     have z0 : wr.cell? ⟨g2, j, none⟩ = some (.string (keyE ⟨given, on, ma, mn, mc, 2, ia, im, ic, ns, inc⟩ (erAt lb j))) := by
      have hkr := HR5.out.below bel
      obtain ⟨b1, o1, hb1, _, hc1⟩ := hkr.2.2.2 (by omega)
      cases hb1
      have := hc1 j (by omega)
      rw [nsAt_keys _ _ (by omega), Nat.zero_add] at this
      exact this
     have hmem : erAt lb j ∈ lb := by rw [erAt_get hlt]; exact List.getElem_mem _
     have hsz : (keyE ⟨given, on, ma, mn, mc, 2, ia, im, ic, ns, inc⟩ (erAt lb j)).size ≤ maxLen := by
      have := HR5.out.2.2.1 _ (List.mem_map_of_mem (f := keyE ⟨given, on, ma, mn, mc, 2, ia, im, ic, ns, inc⟩) hmem)
      unfold SmallT at this; unfold maxLen; omega
     have HFS := qh (filt_snoc (f := roundK (opK u.toList) on ns inc 2 yes (la.map Er.key)) hlt)
     have hF := HPF2.out (erAt lb j)
     have hG := HF2.out (erAt lb j)
     have HYO : Hid (ErOk w5 (erAt lb j)) := qh ((HBR.out.below HB5.out).2.2.1 _ hmem)
     have hyf : W64 (erAt lb j).f := HFB.out _ hmem
     have hyn : (erAt lb j).n + im ≤ 4398046511000 := HIM.out _ hmem
     generalize hxx : erAt lb j = x at x0 x1 z0 hsz HFS hF hG HYO hyf hyn
     have HXX := qh hxx
     obtain ⟨S, hS⟩ : ∃ S, S = keyE ⟨given, on, ma, mn, mc, 2, ia, im, ic, ns, inc⟩ x := ⟨_, rfl⟩
     rw [← hS] at z0 hsz hF hG
     have HS := qh hsz
     clear hS hsz hc hrw bel hxx
     rcases hF with ⟨hFS, hno⟩ | ⟨i, hi, hFS, hme⟩
     ·have HPN : Hid (roundK (opK u.toList) on ns inc 2 yes (la.map Er.key) x.key = none) := qh (by unfold roundK; rw [part_none (m := ⟨given, on, ma, mn, mc, 2, ia, im, ic, ns, inc⟩) hno]; rfl)
      skip
      obtain ⟨xa, xn, xc, xf, xl⟩ := x
      dsimp only at x0 x1
      clear hno hG hyf hyn
      go_wp2_with (first | (refine Bk.is_store 34 rfl ?_; refine Bk.wpList_store_box (w0 := wr) (N := 0) rfl 34 _ _ rfl #[.slice xa xn xc, .float .f64 xf] #[.slice none 0 0, .float .f64 0] 34 rfl rfl (by kernel_rfl) rfl (by kernel_rfl) ?_; intro W hI hB; have e0 : W.cell? ⟨wr.heap.size, 0, none⟩ = some (.slice xa xn xc) := (by rw [hI.cell]; rfl); have e1 : W.cell? ⟨wr.heap.size, 1, none⟩ = some (.float .f64 xf) := (by rw [hI.cell]; rfl); have HEI := qh hI; have HW := qh hB; have z1 := cell_stayL z0 hB; have pw3 := cell_stayL p3 hB; have HPW := qh (HPR.out.below hB HPR.out.lt); have HCW := qh (HCR.out.below hB HCR.out.lt); clear hI hB) | (at_lookup; (with_reducible refine wpList_lookup_F rfl _ _ rfl W0.heap.size _ F rfl HPW.out S rfl HS.out ?_); rw [hFS]))
      go_roundw
      case rel => exact ⟨j + 1, O, by first | rfl | (congr 1; omega), by omega, HO.out.below HW.out, fun e he => (HOK.out e he).below HW.out, by rw [HFS.out, HKEY.out, HPN.out]; simp, by have := HOL.out; omega, fun i hi => rfl, HBR2.out.trans (HW.out.mono HBR2.out.size)⟩
      case measure => simp [intOf]; omega
     ·have HPS := qh (part_of (m := ⟨given, on, ma, mn, mc, 2, ia, im, ic, ns, inc⟩) HND.out hi hme)
      have i1 : (0 : Int) ≤ (i : Int) := by omega
      have i2 : (i : Int) < (la.length : Int) := by omega
      have kq : (i : Int) + 1 - 1 = (i : Int) := by omega
      have kw : IntKind.i64.wrap (i : Int) = (i : Int) := by rw [IntKind.wrap_i64]; omega
      have kb : ((i : Int) + 1 == 0) = false := by simpa using (show ¬ (i : Int) + 1 = 0 by omega)
      have kd : decide ((i : Int) + 1 = 0) = false := decide_eq_false (by omega)
      obtain ⟨bo, offo, hao, hbo, hco⟩ := hro.2.2.2 (by omega)
      first | subst hao | cases hao
      obtain ⟨y0, y1⟩ := hco i (by omega)
      have hmo : erAt la i ∈ la := by rw [erAt_get hi]; exact List.getElem_mem _
      have HZO : Hid (ErOk w5 (erAt la i)) := qh ((HA.out.below HB5.out).2.2.1 _ hmo)
      have hzf : W64 (erAt la i).f := HFA.out _ hmo
      generalize erAt la i = y at *
      obtain ⟨xa, xn, xc, xf, xl⟩ := x
      obtain ⟨oa, on_, oc, of, ol⟩ := y
      dsimp only at x0 x1 y0 y1 hyf hyn hzf
      have HWK : Hid (∀ W, Calls Tryz.prog 29 #[.string u, .float .f64 of, .float .f64 xf, .float .f64 of, .bool yes] W (WorkRet (opK u.toList) of xf of yes W)) := qh fun W => worked_any u _ _ of yes W hzf hyf HK.out
      have HTD : Hid (∀ W fl, Below w5.heap.size w5 W → Calls Tryz.prog 49 #[.slice xa xn xc, .slice oa on_ oc, .agg #[.bool given, .bool on, .slice ma mn mc, .int .i64 2, .slice ia im ic], .bool fl] W (ToldRet ⟨xa, xn, xc, 0, xl⟩ on ns inc 2 fl xl ol W)) := qh fun W fl h =>
       told_any xa xn xc xl oa on_ oc ol ⟨given, on, ma, mn, mc, 2, ia, im, ic, ns, inc⟩ fl W (HYO.out.1.below h) HYO.out.2.1 (HZO.out.1.below h) (HM.out.below (HB5.out.trans (h.mono HB5.out.size))) hyn
      have HST : Hid (roundK (opK u.toList) on ns inc 2 yes (la.map Er.key) (Er.key ⟨xa, xn, xc, xf, xl⟩) = if stepO (opK u.toList) of xf yes then some (toldL on ns inc 2 (stepF (opK u.toList) yes) xl ol, stepV (opK u.toList) of xf of yes) else none) := qh (by
       unfold roundK; rw [HPS.out]; rfl)
      rw [HST.out] at HFS
      clear HST
      unfold WorkRet at HWK
      generalize stepO (opK u.toList) of xf yes = o at *
      generalize stepF (opK u.toList) yes = fl at *
      generalize stepV (opK u.toList) of xf of yes = V at *
      clear hro hco hme hyf hzf hyn
      go_wp2_with (first | (refine Bk.is_store 34 rfl ?_; refine Bk.wpList_store_box (w0 := wr) (N := 0) rfl 34 _ _ rfl #[.slice xa xn xc, .float .f64 xf] #[.slice none 0 0, .float .f64 0] 34 rfl rfl (by kernel_rfl) rfl (by kernel_rfl) ?_; intro W hI hB; have e0 : W.cell? ⟨wr.heap.size, 0, none⟩ = some (.slice xa xn xc) := (by rw [hI.cell]; rfl); have e1 : W.cell? ⟨wr.heap.size, 1, none⟩ = some (.float .f64 xf) := (by rw [hI.cell]; rfl); have HEI := qh hI; have HW := qh hB; have z1 := cell_stayL z0 hB; have pw3 := cell_stayL p3 hB; have HPW := qh (HPR.out.below hB HPR.out.lt); have HCW := qh (HCR.out.below hB HCR.out.lt); have yw0 := cell_stayL y0 hB; have yw1 := cell_stayL y1 hB; clear hI hB) | (at_lookup; (with_reducible refine wpList_lookup_F rfl _ _ rfl W0.heap.size _ F rfl HPW.out S rfl HS.out ?_); rw [hFS]) | (refine Bk.is_store 34 rfl ?_; refine Bk.wpList_store_box (w0 := W) (N := 0) rfl 34 _ _ rfl #[.slice oa on_ oc, .float .f64 of] #[.slice none 0 0, .float .f64 0] 34 rfl rfl (by kernel_rfl) rfl (by kernel_rfl) ?_; intro W2 hI2 hB2; have o0 : W2.cell? ⟨W.heap.size, 0, none⟩ = some (.slice oa on_ oc) := (by rw [hI2.cell]; rfl); have o1 : W2.cell? ⟨W.heap.size, 1, none⟩ = some (.float .f64 of) := (by rw [hI2.cell]; rfl); have e02 := cell_stayL e0 hB2; have e12 := cell_stayL e1 hB2; have pw32 := cell_stayL pw3 hB2; have HOI := qh hI2; have HW2 := qh (HW.out.trans (hB2.mono HW.out.size)); clear hI2 hB2 e0 e1 pw3))
      go_quiet (fail)
      have gq : Below W2.heap.size W2 (W2.drewN nq) := (Below.refl _ _).drewN' nq
      have e02 := cell_stayL e02 gq
      have e12 := cell_stayL e12 gq
      have o0 := cell_stayL o0 gq
      have o1 := cell_stayL o1 gq
      have pw32 := cell_stayL pw32 gq
      have HOI := qh (HOI.out.below gq HOI.out.lt)
      have HW2 := qh (HW2.out.trans (gq.mono HW2.out.size))
      clear gq
      generalize W2.drewN nq = W2 at *
      go_wp2_with fail
      go_quiet (fail)
      have gq : Below W2.heap.size W2 (W2.drewN nq) := (Below.refl _ _).drewN' nq
      have e02 := cell_stayL e02 gq
      have e12 := cell_stayL e12 gq
      have o0 := cell_stayL o0 gq
      have o1 := cell_stayL o1 gq
      have HOI := qh (HOI.out.below gq HOI.out.lt)
      have HW2 := qh (HW2.out.trans (gq.mono HW2.out.size))
      clear gq
      generalize W2.drewN nq = W2 at *
      cases o with
      | false =>
       go_wp2_with (first | (go_at_call 29; refine (HWK.out _).mono ?_; rintro e W5 ⟨r, rfl, hr, b5⟩; have c0 := cell_stayL e02 b5; have c1 := cell_stayL o0 b5; have HR := qh hr; have HW5 := qh (HW2.out.trans (b5.mono HW2.out.size)); have HL5 : Hid (W.heap.size < W5.heap.size) := qh (Nat.lt_of_lt_of_le HOI.out.lt b5.size); clear hr b5) | (refine Bk.is_store 59 rfl ?_; refine Bk.wpList_store_box (w0 := W5) (N := 0) rfl 59 _ _ rfl #[.float .f64 r, .bool false, .bool fl] #[.float .f64 0, .bool false, .bool false] 59 rfl rfl (by kernel_rfl) rfl (by kernel_rfl) ?_; intro W6 hI6 hB6; have g0 : W6.cell? ⟨W5.heap.size, 0, none⟩ = some (.float .f64 r) := (by rw [hI6.cell]; rfl); have g1 : W6.cell? ⟨W5.heap.size, 1, none⟩ = some (.bool false) := (by rw [hI6.cell]; rfl); have g2' : W6.cell? ⟨W5.heap.size, 2, none⟩ = some (.bool fl) := (by rw [hI6.cell]; rfl); have c0' := cell_stayL c0 hB6; have c1' := cell_stayL c1 hB6; have HJ6 := qh hI6; have HW6 := qh (HW5.out.trans (hB6.mono HW5.out.size)); clear hI6 hB6 c0 c1))
       go_roundw
       case rel => exact ⟨j + 1, O, by first | rfl | (congr 1; omega), by omega, HO.out.below HW6.out, fun e he => (HOK.out e he).below HW6.out, by rw [HFS.out, HKEY.out]; simp, by have := HOL.out; omega, fun i hi => rfl, HBR2.out.trans (HW6.out.mono HBR2.out.size)⟩
       case measure => simp [intOf]; omega
      | true =>
       go_wp2_with (first | (go_at_call 29; refine (HWK.out _).mono ?_; rintro e W5 ⟨r, rfl, hr, b5⟩; have c0 := cell_stayL e02 b5; have c1 := cell_stayL o0 b5; have HR := qh hr; have HW5 := qh (HW2.out.trans (b5.mono HW2.out.size)); have HL5 : Hid (W.heap.size < W5.heap.size) := qh (Nat.lt_of_lt_of_le HOI.out.lt b5.size); clear hr b5) | (refine Bk.is_store 59 rfl ?_; refine Bk.wpList_store_box (w0 := W5) (N := 0) rfl 59 _ _ rfl #[.float .f64 r, .bool true, .bool fl] #[.float .f64 0, .bool false, .bool false] 59 rfl rfl (by kernel_rfl) rfl (by kernel_rfl) ?_; intro W6 hI6 hB6; have g0 : W6.cell? ⟨W5.heap.size, 0, none⟩ = some (.float .f64 r) := (by rw [hI6.cell]; rfl); have g1 : W6.cell? ⟨W5.heap.size, 1, none⟩ = some (.bool true) := (by rw [hI6.cell]; rfl); have g2' : W6.cell? ⟨W5.heap.size, 2, none⟩ = some (.bool fl) := (by rw [hI6.cell]; rfl); have c0' := cell_stayL c0 hB6; have c1' := cell_stayL c1 hB6; have HJ6 := qh hI6; have HW6 := qh (HW5.out.trans (hB6.mono HW5.out.size)); clear hI6 hB6 c0 c1))
       have hir := HIR.out.below HW6.out HIR.out.lt
       have m0 := hir.cell 0
       have m1 := hir.cell 1
       have m2 := hir.cell 2
       have m3 := hir.cell 3
       have m4 := hir.cell 4
       simp at m0 m1 m2 m3 m4
       have s0 : W6.drew.cell? ⟨wr.heap.size, 0, none⟩ = some (.slice xa xn xc) ∧ W6.drew.cell? ⟨W.heap.size, 0, none⟩ = some (.slice oa on_ oc) ∧ W6.drew.cell? ⟨w.heap.size, 0, none⟩ = some (.bool given) ∧ W6.drew.cell? ⟨w.heap.size, 1, none⟩ = some (.bool on) ∧ W6.drew.cell? ⟨w.heap.size, 2, none⟩ = some (.slice ma mn mc) ∧ W6.drew.cell? ⟨w.heap.size, 3, none⟩ = some (.int .i64 2) ∧ W6.drew.cell? ⟨w.heap.size, 4, none⟩ = some (.slice ia im ic) ∧ W6.drew.cell? ⟨W5.heap.size, 2, none⟩ = some (.bool fl) ∧ W6.drew.cell? ⟨W5.heap.size, 0, none⟩ = some (.float .f64 r) := ⟨c0', c1', m0, m1, m2, m3, m4, g2', g0⟩
       have HW6D : Hid (Below wr.heap.size wr W6.drew) := qh (HW6.out.drewN' 1)
       have HB6D : Hid (Below w5.heap.size w5 W6.drew) := qh (HBR2.out.trans (HW6D.out.mono HBR2.out.size))
       have HNE : Hid (some wr.heap.size ≠ u19.ownBlock ∧ some W.heap.size ≠ u19.ownBlock ∧ some w.heap.size ≠ u19.ownBlock ∧ some W5.heap.size ≠ u19.ownBlock) := qh (by
        have hl : ∀ b, u19.ownBlock = some b → w5.heap.size ≤ b ∧ b < wr.heap.size := fun b hb => HO.out.lt b hb
        have h1 := HW.out.size
        have h2 := HL5.out
        refine ⟨fun h => ?_, fun h => ?_, fun h => ?_, fun h => ?_⟩ <;> (have := hl _ h.symm; omega))
       go_region_held3 (fun w' => w'.cell? ⟨wr.heap.size, 0, none⟩ = some (.slice xa xn xc) ∧ w'.cell? ⟨W.heap.size, 0, none⟩ = some (.slice oa on_ oc) ∧ w'.cell? ⟨w.heap.size, 0, none⟩ = some (.bool given) ∧ w'.cell? ⟨w.heap.size, 1, none⟩ = some (.bool on) ∧ w'.cell? ⟨w.heap.size, 2, none⟩ = some (.slice ma mn mc) ∧ w'.cell? ⟨w.heap.size, 3, none⟩ = some (.int .i64 2) ∧ w'.cell? ⟨w.heap.size, 4, none⟩ = some (.slice ia im ic) ∧ w'.cell? ⟨W5.heap.size, 2, none⟩ = some (.bool fl) ∧ w'.cell? ⟨W5.heap.size, 0, none⟩ = some (.float .f64 r)) (first | assumption | exact keepA9 s3 _) (first | (go_at_call 49; refine (HTD.out _ _ HB6D.out).mono ?_; rintro e W7 ⟨ta, tn, tc, rfl, hkm, b7⟩; have s3 := keep9 s0 b7) | (refine step_append_er rfl (.tmp 109) (.tmp 121) rfl w5.heap.size _ O rfl (((HO.out.below HW6D.out).below b7).alloc _) _ _ ⟨ta, tn, tc, r, toldL on ns inc 2 fl xl ol⟩ rfl (by show (World.alloc _ _).cell? _ = _; rw [World.cell?_alloc_at _ _ _ _ (by rfl)]; rfl) (by show (World.alloc _ _).cell? _ = _; rw [World.cell?_alloc_at _ _ _ _ (by rfl)]; rfl) (by have := HOL.out; omega) (Nat.le_trans HB6D.out.size (Nat.le_trans b7.size (by simp))) ?_; intro g7 cap7 w8 own8 gb8; have s8 := keepG9 (keepA9 s3 _) gb8 HNE.out))
       have hbw7 : Below w5.heap.size w5 W7 := HB6D.out.trans (b7.mono HB6D.out.size)
       have HNEW : Hid (MetRel lb (roundK (opK u.toList) on ns inc 2 yes (la.map Er.key)) (fun _ => true) w5 (.slice (some ⟨g7, 0, none⟩) (O.length + 1) cap7) (.int .i64 ((j : Int) + 1)) w8) := qh (by
        refine ⟨j + 1, O ++ [⟨ta, tn, tc, r, toldL on ns inc 2 fl xl ol⟩], by first | rfl | (congr 1; omega), by omega, own8, ?_, ?_, by have := HOL.out; simp; omega, fun i hi => rfl, (hbw7.alloc hbw7.size _).grown gb8 (Nat.le_trans hbw7.size (by simp)) (fun b hb => (HO.out.lt b hb).1)⟩
        ·intro e he
         rcases List.mem_append.1 he with he | he
         ·exact ((((HOK.out e he).below HW6D.out).below b7).below ((Below.refl _ _).alloc (Nat.le_refl _) _)).grown (((HO.out.below HW6D.out).below b7).alloc _) gb8
         ·obtain rfl : e = ⟨ta, tn, tc, r, toldL on ns inc 2 fl xl ol⟩ := by simpa using he
          rcases hkm with hkm | hkm
          ·injection hkm with h1 h2 h3 h4 h5
           rw [h1, h2, h3, h5]
           exact .inl HYO.out
          ·exact .inr (((show ErOwn w5.heap.size W7 ⟨ta, tn, tc, r, toldL on ns inc 2 fl xl ol⟩ from ⟨hkm.1.mono HB6D.out.size, hkm.2⟩).below ((Below.refl _ _).alloc (Nat.le_refl _) _)).grown (((HO.out.below HW6D.out).below b7).alloc _) gb8)
        ·rw [HFS.out, List.map_append, HKEY.out]; simp [clK, Er.key, HR.out])
       clear own8 gb8 s0 s3 s8 hkm b7 hbw7
       go_wp2_with fail
       go_roundw
       case rel => exact HNEW.out
       case measure => simp [intOf]; omega
    ·have hkn : ¬ (j : Int) < (lb.length : Int) := by omega
     have hkn2 : ¬ (j : Int) < (lb.length : Int) := by omega
     have HE : Hid (O.map (fun x => clK x.key) = metL (opK u.toList) on ns inc 2 yes (lb.map Er.key) (la.map Er.key)) := qh (by
      rw [HKEY.out, List.take_of_length_le (by omega)]; rfl)
     have HMU : Hid (True) := qh (by
      trivial)
     obtain ⟨ao, co, hvo, hso, hro2⟩ := HO.out.row (fun e he => (HOK.out e he).ok HBR2.out) (by have := HOL.out; omega)
     subst hvo
     have HSET := qh (settledO_any ao _ co O _ wr hro2 HE.out)
     clear hso hro2 hrw hro
     go_wp2_with (go_at_call 28; refine HSET.out.mono ?_; rintro e W5 ⟨xs5, hx5, a5, c5, es5, rfl, hh⟩; have HH := qh (And.intro hx5 hh); clear hx5 hh)
     go_ret2
     rw [(met_ok HDN.out (fun h => absurd h (by decide))).1, (met_ok HDN.out (fun h => absurd h (by decide))).2]
     exact AnsO.from ⟨xs5, HH.out.1, a5, c5, es5, rfl, HH.out.2⟩ HBT.out
end Go.Proofs.YtmmfjknnbkcniaaGreatDoor
