/- pair.joined: the walk. (Printed by tools/genjoin.py.) -/
import Derived.Test.YtmmfjknnbkcniaaGreatDoorV34
set_option maxHeartbeats 64000000
set_option maxRecDepth 100000
namespace Go.Proofs.YtmmfjknnbkcniaaGreatDoor
open Go.Fl Go.Rel Go.RowKit Go.Maps Go.WideMaps
set_option linter.unusedSimpArgs false
set_option linter.unusedVariables false
theorem joined_any (u : ByteArray) (ad : Addr) (b : Option Addr) (na ca nb cb : Nat) (la lb : List Er) (m : Mt) (w : World) (ha : ERow w (some ad) na la) (hb : ERow w b nb lb) (hM : MtOk w m) (hla : KeyFits m.on m.ns la) (hlb : KeyFits m.on m.ns lb) (hT : Tab w.heap.size w) (hn : na + nb ≤ 4398046511000) :
  Calls Tryz.prog 25 #[.string u, .slice (some ad) na ca, .slice b nb cb, m.v] w (AnsX (setE (setL u.toList m.on m.ns (la.map Er.key) (lb.map Er.key))) (setV (setL u.toList m.on m.ns (la.map Er.key) (lb.map Er.key))) w) := by
 have HA := qh ha
 have HBR := qh hb
 have HM := qh hM
 have hal := ha.1
 have hbl := hb.1
 subst hal
 subst hbl
 have n1 : (la.length : Int) ≤ 4398046511000 := by omega
 have n2 : (lb.length : Int) ≤ 4398046511000 := by omega
 have HKA : Hid (∀ W, Below w.heap.size w W → Calls Tryz.prog 47 #[.slice (some ad) la.length ca, m.v] W (KeysRet m la W)) := qh fun W h => keys_any _ la.length ca la m W (ha.below h) (hM.below h) hla (fun w' h2 => hT w' (h.trans (h2.mono h.size)))
 have HKB : Hid (∀ W, Below w.heap.size w W → Calls Tryz.prog 47 #[.slice b lb.length cb, m.v] W (KeysRet m lb W)) := qh fun W h => keys_any _ lb.length cb lb m W (hb.below h) (hM.below h) hlb (fun w' h2 => hT w' (h.trans (h2.mono h.size)))
 obtain ⟨given, on, ma, mn, mc, card, ia, im, ic, ns, inc⟩ := m
 dsimp only [Mt.v] at HKA HKB ⊢
 obtain ⟨W0, hW0⟩ : ∃ W0, W0 = w.alloc (.cells #[.bool given, .bool on, .slice ma mn mc, .int .i64 card, .slice ia im ic] 25) := ⟨_, rfl⟩
 have hI0 : Bk.Is W0 w.heap.size #[.bool given, .bool on, .slice ma mn mc, .int .i64 card, .slice ia im ic] 25 := by rw [hW0]; exact Bk.Is.made w _ _
 have hB0 : Below w.heap.size w W0 := by rw [hW0]; exact (Below.refl _ _).alloc (Nat.le_refl _) _
 have q0 := hI0.cell 0
 have q1 := hI0.cell 1
 have q2 := hI0.cell 2
 have q3 := hI0.cell 3
 have q4 := hI0.cell 4
 simp at q0 q1 q2 q3 q4
 have HW0 := qh hW0
 have KD : Hid (Below w.heap.size w W0.drew) := qh (hB0.drewN' 1)
 have HFL : Hid (∀ W, Below w.heap.size w W → ∀ j v, (la.flatMap erCells)[j]? = some v → W.cell? (ad.add j) = some v) := qh fun W h j v hv => by
  by_cases h0 : 0 < la.length
  ·have hr2 := ha.below h
   obtain ⟨b, off, ha, _⟩ := hr2.2.2.2 h0
   cases ha
   exact hr2.flat h0 j v hv
  ·have : la = [] := List.length_eq_zero_iff.1 (by omega)
   subst this; simp at hv
 clear ha hb hM hla hlb hT hI0 hB0 hW0
 have s0 : W0.drew.cell? ⟨w.heap.size, 0, none⟩ = some (.bool given) ∧ W0.drew.cell? ⟨w.heap.size, 1, none⟩ = some (.bool on) ∧ W0.drew.cell? ⟨w.heap.size, 2, none⟩ = some (.slice ma mn mc) ∧ W0.drew.cell? ⟨w.heap.size, 3, none⟩ = some (.int .i64 card) ∧ W0.drew.cell? ⟨w.heap.size, 4, none⟩ = some (.slice ia im ic) := ⟨q0, q1, q2, q3, q4⟩
 cases hor : (u.toList == [111, 114])
 ·cases hand : (u.toList == [97, 110, 100])
  ·go_enter Tryz.func25, Tryz.ntmps25
   go_wp2_with fail
   rw [← HW0.out]
   go_region_held3 (fun w' => w'.cell? ⟨w.heap.size, 0, none⟩ = some (.bool given) ∧ w'.cell? ⟨w.heap.size, 1, none⟩ = some (.bool on) ∧ w'.cell? ⟨w.heap.size, 2, none⟩ = some (.slice ma mn mc) ∧ w'.cell? ⟨w.heap.size, 3, none⟩ = some (.int .i64 card) ∧ w'.cell? ⟨w.heap.size, 4, none⟩ = some (.slice ia im ic)) (first | assumption) (first | (go_at_call 47; (with_reducible refine (HKA.out _ KD.out).mono ?_); rintro e w1 ⟨g1, rfl, r1, b1⟩; have s1 := keep5 s0 b1; have KD1 := qh (KD.out.trans (b1.mono KD.out.size))) | (go_at_call 47; (with_reducible refine (HKB.out _ KD1.out).mono ?_); rintro e w2 ⟨g2, rfl, r2, b2⟩; have s2 := keep5 s1 b2; have HB2 := qh (KD1.out.trans (b2.mono KD1.out.size)); have HR1 := qh (r1.below b2); have HR2 := qh r2))
   rename_i hHeld
   clear hHeld s0 s1 s2 r1 b1 r2 b2 q0 q1 q2 q3 q4 KD KD1
   obtain ⟨F, hF⟩ : ∃ F : ByteArray → Int, F = fun t => (cntT (lb.map (keyE ⟨given, on, ma, mn, mc, card, ia, im, ic, ns, inc⟩)) t : Int) := ⟨_, rfl⟩
   have HFF : Hid (∀ e : Er, (F (keyE ⟨given, on, ma, mn, mc, card, ia, im, ic, ns, inc⟩ e) = 0 ∧ meetsK on ns e.ls (lb.map Er.ls) = false) ∨ ((∃ c : Int, F (keyE ⟨given, on, ma, mn, mc, card, ia, im, ic, ns, inc⟩ e) = c ∧ 0 < c) ∧ meetsK on ns e.ls (lb.map Er.ls) = true)) := qh (fun e => cnt_cases ⟨given, on, ma, mn, mc, card, ia, im, ic, ns, inc⟩ lb F hF e)
   obtain ⟨NM, hNM⟩ : ∃ NM, NM = (lb.map (keyE ⟨given, on, ma, mn, mc, card, ia, im, ic, ns, inc⟩)).length := ⟨_, rfl⟩
   have HCN : Hid (Calls Tryz.prog 48 #[.slice (some ⟨g2, 0, none⟩) lb.length lb.length] w2 fun e w' => e = .returned (.map (some w2.heap.size)) ∧ MapF w' w2.heap.size NM F ∧ Below w2.heap.size w2 w') := qh (by
    rw [hF, hNM]
    exact counted_any _ _ _ _ w2 HR2.out (by omega))
   clear hF hNM
   go_wp2_with (go_at_call 48; refine HCN.out.mono ?_; rintro e w3 ⟨rfl, mf, b3⟩; have HMF := qh mf; have HML0 : Hid (w2.heap.size < w3.heap.size) := qh mf.lt; have HB3 := qh (HB2.out.trans (b3.mono HB2.out.size)); have HK1 := qh (HR1.out.below b3); clear mf b3)
   go_loopw [12, 59] (SelRel [] (fun e : Er => false == meetsK on ns e.ls (lb.map Er.ls)) la w3) (fun _ v _ => la.length - (intOf v).toNat)
   case atStart => exact ⟨0, rfl, by omega, ownE_nil _ _, Below.refl _ _⟩
   case round =>
    obtain ⟨k, rfl, hk, own, bel⟩ := hrel
    have HO := qh own
    have HBW := qh bel
    have HBT := qh (HB3.out.trans (bel.mono HB3.out.size))
    have hrw := HA.out.below HBT.out
    have hkr := HK1.out.below bel
    have HMR := qh (HMF.out.below bel HML0.out)
    have HML : Hid (w2.heap.size < wr.heap.size) := qh HMR.out.lt
    clear own bel
    have HL : Hid (([] ++ (la.take k).filter (fun e : Er => false == meetsK on ns e.ls (lb.map Er.ls))).length ≤ 0 + k) := qh (by
     have h1 : ((la.take k).filter (fun e : Er => false == meetsK on ns e.ls (lb.map Er.ls))).length ≤ k := Nat.le_trans (List.length_filter_le ..) (by rw [List.length_take]; omega)
     rw [List.length_append]
     first | omega | (rw [List.length_nil]; omega))
    by_cases hlt : k < la.length
    ·obtain ⟨bb, off, hab, hbb, hc⟩ := hrw.2.2.2 (by omega)
     first | subst hab | cases hab
     obtain ⟨x0, x1⟩ := hc k hlt
     have z0 : wr.cell? ⟨g1, k, none⟩ = some (.string (keyE ⟨given, on, ma, mn, mc, card, ia, im, ic, ns, inc⟩ (erAt la k))) := by
      obtain ⟨b1, o1, hb1, _, hc1⟩ := hkr.2.2.2 (by omega)
      cases hb1
      have := hc1 k (by omega)
      rw [nsAt_keys _ _ (by omega), Nat.zero_add] at this
      exact this
     have hsz : (keyE ⟨given, on, ma, mn, mc, card, ia, im, ic, ns, inc⟩ (erAt la k)).size ≤ maxLen := by
      have := hkr.2.2.1 _ (List.mem_map_of_mem (f := keyE ⟨given, on, ma, mn, mc, card, ia, im, ic, ns, inc⟩) (show erAt la k ∈ la by rw [erAt_get (by omega)]; exact List.getElem_mem _))
      unfold SmallT at this; unfold maxLen; omega
     have k1 : (0 : Int) ≤ (k : Int) := by omega
     have k2 : (k : Int) < (la.length : Int) := by omega
     have k3 : (k : Int) < (la.length : Int) := by omega
     have HE := qh (filt_er (fun e : Er => false == meetsK on ns e.ls (lb.map Er.ls)) la (by omega : k < la.length))
     have hF := HFF.out (erAt la k)
     generalize erAt la k = x at *
     obtain ⟨S, hS⟩ : ∃ S, S = keyE ⟨given, on, ma, mn, mc, card, ia, im, ic, ns, inc⟩ x := ⟨_, rfl⟩
     rw [← hS] at z0 hsz hF
     have HS := qh hsz
     obtain ⟨xa, xn, xc, xf, xl⟩ := x
     dsimp only at x0 x1 hF HE
     generalize meetsK on ns xl (lb.map Er.ls) = d at *
     clear hc hrw hkr hsz hS
     rcases hF with ⟨hFS, rfl⟩ | ⟨⟨c, hFS, hc0⟩, rfl⟩
     ·go_wp2_with (first | (refine Bk.is_store 34 rfl ?_; refine Bk.wpList_store_box (w0 := wr) (N := 0) rfl 34 _ _ rfl #[.slice xa xn xc, .float .f64 xf] #[.slice none 0 0, .float .f64 0] 34 rfl rfl (by kernel_rfl) rfl (by kernel_rfl) ?_; intro W hI hB; have e0 : W.cell? ⟨wr.heap.size, 0, none⟩ = some (.slice xa xn xc) := (by rw [hI.cell]; rfl); have e1 : W.cell? ⟨wr.heap.size, 1, none⟩ = some (.float .f64 xf) := (by rw [hI.cell]; rfl); have HW := qh hB; have y0 := cell_stayL z0 hB; have HMW := qh (HMR.out.below hB HML.out); clear hI hB) | (at_lookup; refine wpList_lookup_F rfl _ _ rfl w2.heap.size NM F rfl HMW.out S rfl HS.out ?_; rw [hFS]) | (at_builtin; refine wpList_append_er rfl (.tmp 74) (.tmp 76) rfl w3.heap.size _ _ rfl ((HO.out.below HW.out).alloc _) W.heap.size _ ⟨xa, xn, xc, xf, xl⟩ rfl (by rw [World.cell?_alloc_at _ _ _ _ (by rfl)]; rfl) (by rw [World.cell?_alloc_at _ _ _ _ (by rfl)]; rfl) (by have := HL.out; omega) (Nat.le_trans HBW.out.size (Nat.le_trans HW.out.size (by simp))) ?_; intro v6 w6 own6 gb6 hv6; have HO6 := qh own6; have HB6 := qh (((HO.out.below HW.out).alloc _).grown ((HBW.out.trans (HW.out.mono HBW.out.size)).alloc (Nat.le_trans HBW.out.size HW.out.size) _) gb6 (Nat.le_trans HBW.out.size (Nat.le_trans HW.out.size (by simp)))); clear own6 gb6 hv6))
      go_roundw
      case rel => exact ⟨k + 1, by first | rfl | (congr 1; omega), by omega, by rw [HE.out, ← List.append_assoc]; exact HO6.out, HB6.out⟩
      case measure => simp [intOf]; omega
     ·have hc1 : (c == 0) = false := by simpa using (show ¬ c = 0 by omega)
      have hc2 : decide (c = 0) = false := decide_eq_false (by omega)
      have hc3 : decide (0 < c) = true := decide_eq_true hc0
      go_wp2_with (first | (refine Bk.is_store 34 rfl ?_; refine Bk.wpList_store_box (w0 := wr) (N := 0) rfl 34 _ _ rfl #[.slice xa xn xc, .float .f64 xf] #[.slice none 0 0, .float .f64 0] 34 rfl rfl (by kernel_rfl) rfl (by kernel_rfl) ?_; intro W hI hB; have e0 : W.cell? ⟨wr.heap.size, 0, none⟩ = some (.slice xa xn xc) := (by rw [hI.cell]; rfl); have e1 : W.cell? ⟨wr.heap.size, 1, none⟩ = some (.float .f64 xf) := (by rw [hI.cell]; rfl); have HW := qh hB; have y0 := cell_stayL z0 hB; have HMW := qh (HMR.out.below hB HML.out); clear hI hB) | (at_lookup; refine wpList_lookup_F rfl _ _ rfl w2.heap.size NM F rfl HMW.out S rfl HS.out ?_; rw [hFS]))
      go_roundw
      case rel => exact ⟨k + 1, by first | rfl | (congr 1; omega), by omega, by rw [HE.out]; simpa using HO.out.below HW.out, HBW.out.trans (HW.out.mono HBW.out.size)⟩
      case measure => simp [intOf]; omega
    ·have hkn : ¬ (k : Int) < (la.length : Int) := by omega
     have hkn2 : ¬ (k : Int) < (la.length : Int) := by omega
     have HE : Hid (la.take k = la) := qh (List.take_of_length_le (by omega))
     rw [HE.out] at HO
     have HLO : Hid (([] ++ la.filter (fun e : Er => false == meetsK on ns e.ls (lb.map Er.ls))).length ≤ 4398046511104) := qh (by have := HL.out; rw [HE.out] at this; omega)
     obtain ⟨O, hO⟩ : ∃ O, O = [] ++ la.filter (fun e : Er => false == meetsK on ns e.ls (lb.map Er.ls)) := ⟨_, rfl⟩
     rw [← hO] at HO HLO
     have HOO := qh hO
     clear hO
     obtain ⟨ao, co, hvo, hso, hro⟩ := HO.out.row (fun e he => (by
      rw [HOO.out] at he
      rcases List.mem_append.1 he with h | h
      ·first | exact absurd h List.not_mem_nil | exact (HA.out.2.2.1 e h).below HBT.out
      ·exact (HA.out.2.2.1 e (List.mem_filter.1 h).1).below HBT.out)) HLO.out
     subst hvo
     have HSET := qh (settledX_any ao O.length co O wr hro)
     clear hso hro hrw hkr hkn
     go_wp2_with (go_at_call 28; refine HSET.out.mono ?_; rintro e w5 ⟨a5, c5, es5, rfl, hh⟩; have HH := qh hh; clear hh)
     go_ret2
     have hks : setL u.toList on ns (la.map Er.key) (lb.map Er.key) = O.map Er.key := by
      rw [HOO.out]
      unfold setL
      rw [hor]
      simp only [Bool.false_eq_true, if_false, List.nil_append]
      rw [← filter_key, hand]
      simp only [meetsE_er]
     rw [hks]
     exact AnsX.from ⟨a5, c5, es5, rfl, HH.out⟩ HBT.out
  ·go_enter Tryz.func25, Tryz.ntmps25
   go_wp2_with fail
   rw [← HW0.out]
   go_region_held3 (fun w' => w'.cell? ⟨w.heap.size, 0, none⟩ = some (.bool given) ∧ w'.cell? ⟨w.heap.size, 1, none⟩ = some (.bool on) ∧ w'.cell? ⟨w.heap.size, 2, none⟩ = some (.slice ma mn mc) ∧ w'.cell? ⟨w.heap.size, 3, none⟩ = some (.int .i64 card) ∧ w'.cell? ⟨w.heap.size, 4, none⟩ = some (.slice ia im ic)) (first | assumption) (first | (go_at_call 47; (with_reducible refine (HKA.out _ KD.out).mono ?_); rintro e w1 ⟨g1, rfl, r1, b1⟩; have s1 := keep5 s0 b1; have KD1 := qh (KD.out.trans (b1.mono KD.out.size))) | (go_at_call 47; (with_reducible refine (HKB.out _ KD1.out).mono ?_); rintro e w2 ⟨g2, rfl, r2, b2⟩; have s2 := keep5 s1 b2; have HB2 := qh (KD1.out.trans (b2.mono KD1.out.size)); have HR1 := qh (r1.below b2); have HR2 := qh r2))
   rename_i hHeld
   clear hHeld s0 s1 s2 r1 b1 r2 b2 q0 q1 q2 q3 q4 KD KD1
   obtain ⟨F, hF⟩ : ∃ F : ByteArray → Int, F = fun t => (cntT (lb.map (keyE ⟨given, on, ma, mn, mc, card, ia, im, ic, ns, inc⟩)) t : Int) := ⟨_, rfl⟩
   have HFF : Hid (∀ e : Er, (F (keyE ⟨given, on, ma, mn, mc, card, ia, im, ic, ns, inc⟩ e) = 0 ∧ meetsK on ns e.ls (lb.map Er.ls) = false) ∨ ((∃ c : Int, F (keyE ⟨given, on, ma, mn, mc, card, ia, im, ic, ns, inc⟩ e) = c ∧ 0 < c) ∧ meetsK on ns e.ls (lb.map Er.ls) = true)) := qh (fun e => cnt_cases ⟨given, on, ma, mn, mc, card, ia, im, ic, ns, inc⟩ lb F hF e)
   obtain ⟨NM, hNM⟩ : ∃ NM, NM = (lb.map (keyE ⟨given, on, ma, mn, mc, card, ia, im, ic, ns, inc⟩)).length := ⟨_, rfl⟩
   have HCN : Hid (Calls Tryz.prog 48 #[.slice (some ⟨g2, 0, none⟩) lb.length lb.length] w2 fun e w' => e = .returned (.map (some w2.heap.size)) ∧ MapF w' w2.heap.size NM F ∧ Below w2.heap.size w2 w') := qh (by
    rw [hF, hNM]
    exact counted_any _ _ _ _ w2 HR2.out (by omega))
   clear hF hNM
   go_wp2_with (go_at_call 48; refine HCN.out.mono ?_; rintro e w3 ⟨rfl, mf, b3⟩; have HMF := qh mf; have HML0 : Hid (w2.heap.size < w3.heap.size) := qh mf.lt; have HB3 := qh (HB2.out.trans (b3.mono HB2.out.size)); have HK1 := qh (HR1.out.below b3); clear mf b3)
   go_loopw [12, 59] (SelRel [] (fun e : Er => true == meetsK on ns e.ls (lb.map Er.ls)) la w3) (fun _ v _ => la.length - (intOf v).toNat)
   case atStart => exact ⟨0, rfl, by omega, ownE_nil _ _, Below.refl _ _⟩
   case round =>
    obtain ⟨k, rfl, hk, own, bel⟩ := hrel
    have HO := qh own
    have HBW := qh bel
    have HBT := qh (HB3.out.trans (bel.mono HB3.out.size))
    have hrw := HA.out.below HBT.out
    have hkr := HK1.out.below bel
    have HMR := qh (HMF.out.below bel HML0.out)
    have HML : Hid (w2.heap.size < wr.heap.size) := qh HMR.out.lt
    clear own bel
    have HL : Hid (([] ++ (la.take k).filter (fun e : Er => true == meetsK on ns e.ls (lb.map Er.ls))).length ≤ 0 + k) := qh (by
     have h1 : ((la.take k).filter (fun e : Er => true == meetsK on ns e.ls (lb.map Er.ls))).length ≤ k := Nat.le_trans (List.length_filter_le ..) (by rw [List.length_take]; omega)
     rw [List.length_append]
     first | omega | (rw [List.length_nil]; omega))
    by_cases hlt : k < la.length
    ·obtain ⟨bb, off, hab, hbb, hc⟩ := hrw.2.2.2 (by omega)
     first | subst hab | cases hab
     obtain ⟨x0, x1⟩ := hc k hlt
     have z0 : wr.cell? ⟨g1, k, none⟩ = some (.string (keyE ⟨given, on, ma, mn, mc, card, ia, im, ic, ns, inc⟩ (erAt la k))) := by
      obtain ⟨b1, o1, hb1, _, hc1⟩ := hkr.2.2.2 (by omega)
      cases hb1
      have := hc1 k (by omega)
      rw [nsAt_keys _ _ (by omega), Nat.zero_add] at this
      exact this
     have hsz : (keyE ⟨given, on, ma, mn, mc, card, ia, im, ic, ns, inc⟩ (erAt la k)).size ≤ maxLen := by
      have := hkr.2.2.1 _ (List.mem_map_of_mem (f := keyE ⟨given, on, ma, mn, mc, card, ia, im, ic, ns, inc⟩) (show erAt la k ∈ la by rw [erAt_get (by omega)]; exact List.getElem_mem _))
      unfold SmallT at this; unfold maxLen; omega
     have k1 : (0 : Int) ≤ (k : Int) := by omega
     have k2 : (k : Int) < (la.length : Int) := by omega
     have k3 : (k : Int) < (la.length : Int) := by omega
     have HE := qh (filt_er (fun e : Er => true == meetsK on ns e.ls (lb.map Er.ls)) la (by omega : k < la.length))
     have hF := HFF.out (erAt la k)
     generalize erAt la k = x at *
     obtain ⟨S, hS⟩ : ∃ S, S = keyE ⟨given, on, ma, mn, mc, card, ia, im, ic, ns, inc⟩ x := ⟨_, rfl⟩
     rw [← hS] at z0 hsz hF
     have HS := qh hsz
     obtain ⟨xa, xn, xc, xf, xl⟩ := x
     dsimp only at x0 x1 hF HE
     generalize meetsK on ns xl (lb.map Er.ls) = d at *
     clear hc hrw hkr hsz hS
     rcases hF with ⟨hFS, rfl⟩ | ⟨⟨c, hFS, hc0⟩, rfl⟩
     ·go_wp2_with (first | (refine Bk.is_store 34 rfl ?_; refine Bk.wpList_store_box (w0 := wr) (N := 0) rfl 34 _ _ rfl #[.slice xa xn xc, .float .f64 xf] #[.slice none 0 0, .float .f64 0] 34 rfl rfl (by kernel_rfl) rfl (by kernel_rfl) ?_; intro W hI hB; have e0 : W.cell? ⟨wr.heap.size, 0, none⟩ = some (.slice xa xn xc) := (by rw [hI.cell]; rfl); have e1 : W.cell? ⟨wr.heap.size, 1, none⟩ = some (.float .f64 xf) := (by rw [hI.cell]; rfl); have HW := qh hB; have y0 := cell_stayL z0 hB; have HMW := qh (HMR.out.below hB HML.out); clear hI hB) | (at_lookup; refine wpList_lookup_F rfl _ _ rfl w2.heap.size NM F rfl HMW.out S rfl HS.out ?_; rw [hFS]))
      go_roundw
      case rel => exact ⟨k + 1, by first | rfl | (congr 1; omega), by omega, by rw [HE.out]; simpa using HO.out.below HW.out, HBW.out.trans (HW.out.mono HBW.out.size)⟩
      case measure => simp [intOf]; omega
     ·have hc1 : (c == 0) = false := by simpa using (show ¬ c = 0 by omega)
      have hc2 : decide (c = 0) = false := decide_eq_false (by omega)
      have hc3 : decide (0 < c) = true := decide_eq_true hc0
      go_wp2_with (first | (refine Bk.is_store 34 rfl ?_; refine Bk.wpList_store_box (w0 := wr) (N := 0) rfl 34 _ _ rfl #[.slice xa xn xc, .float .f64 xf] #[.slice none 0 0, .float .f64 0] 34 rfl rfl (by kernel_rfl) rfl (by kernel_rfl) ?_; intro W hI hB; have e0 : W.cell? ⟨wr.heap.size, 0, none⟩ = some (.slice xa xn xc) := (by rw [hI.cell]; rfl); have e1 : W.cell? ⟨wr.heap.size, 1, none⟩ = some (.float .f64 xf) := (by rw [hI.cell]; rfl); have HW := qh hB; have y0 := cell_stayL z0 hB; have HMW := qh (HMR.out.below hB HML.out); clear hI hB) | (at_lookup; refine wpList_lookup_F rfl _ _ rfl w2.heap.size NM F rfl HMW.out S rfl HS.out ?_; rw [hFS]) | (at_builtin; refine wpList_append_er rfl (.tmp 74) (.tmp 76) rfl w3.heap.size _ _ rfl ((HO.out.below HW.out).alloc _) W.heap.size _ ⟨xa, xn, xc, xf, xl⟩ rfl (by rw [World.cell?_alloc_at _ _ _ _ (by rfl)]; rfl) (by rw [World.cell?_alloc_at _ _ _ _ (by rfl)]; rfl) (by have := HL.out; omega) (Nat.le_trans HBW.out.size (Nat.le_trans HW.out.size (by simp))) ?_; intro v6 w6 own6 gb6 hv6; have HO6 := qh own6; have HB6 := qh (((HO.out.below HW.out).alloc _).grown ((HBW.out.trans (HW.out.mono HBW.out.size)).alloc (Nat.le_trans HBW.out.size HW.out.size) _) gb6 (Nat.le_trans HBW.out.size (Nat.le_trans HW.out.size (by simp)))); clear own6 gb6 hv6))
      go_roundw
      case rel => exact ⟨k + 1, by first | rfl | (congr 1; omega), by omega, by rw [HE.out, ← List.append_assoc]; exact HO6.out, HB6.out⟩
      case measure => simp [intOf]; omega
    ·have hkn : ¬ (k : Int) < (la.length : Int) := by omega
     have hkn2 : ¬ (k : Int) < (la.length : Int) := by omega
     have HE : Hid (la.take k = la) := qh (List.take_of_length_le (by omega))
     rw [HE.out] at HO
     have HLO : Hid (([] ++ la.filter (fun e : Er => true == meetsK on ns e.ls (lb.map Er.ls))).length ≤ 4398046511104) := qh (by have := HL.out; rw [HE.out] at this; omega)
     obtain ⟨O, hO⟩ : ∃ O, O = [] ++ la.filter (fun e : Er => true == meetsK on ns e.ls (lb.map Er.ls)) := ⟨_, rfl⟩
     rw [← hO] at HO HLO
     have HOO := qh hO
     clear hO
     obtain ⟨ao, co, hvo, hso, hro⟩ := HO.out.row (fun e he => (by
      rw [HOO.out] at he
      rcases List.mem_append.1 he with h | h
      ·first | exact absurd h List.not_mem_nil | exact (HA.out.2.2.1 e h).below HBT.out
      ·exact (HA.out.2.2.1 e (List.mem_filter.1 h).1).below HBT.out)) HLO.out
     subst hvo
     have HSET := qh (settledX_any ao O.length co O wr hro)
     clear hso hro hrw hkr hkn
     go_wp2_with (go_at_call 28; refine HSET.out.mono ?_; rintro e w5 ⟨a5, c5, es5, rfl, hh⟩; have HH := qh hh; clear hh)
     go_ret2
     have hks : setL u.toList on ns (la.map Er.key) (lb.map Er.key) = O.map Er.key := by
      rw [HOO.out]
      unfold setL
      rw [hor]
      simp only [Bool.false_eq_true, if_false, List.nil_append]
      rw [← filter_key, hand]
      simp only [meetsE_er]
     rw [hks]
     exact AnsX.from ⟨a5, c5, es5, rfl, HH.out⟩ HBT.out
 ·go_enter Tryz.func25, Tryz.ntmps25
  go_wp2_with fail
  rw [← HW0.out]
  go_region_held3 (fun w' => w'.cell? ⟨w.heap.size, 0, none⟩ = some (.bool given) ∧ w'.cell? ⟨w.heap.size, 1, none⟩ = some (.bool on) ∧ w'.cell? ⟨w.heap.size, 2, none⟩ = some (.slice ma mn mc) ∧ w'.cell? ⟨w.heap.size, 3, none⟩ = some (.int .i64 card) ∧ w'.cell? ⟨w.heap.size, 4, none⟩ = some (.slice ia im ic)) (first | assumption) (first | (go_at_call 47; (with_reducible refine (HKA.out _ KD.out).mono ?_); rintro e w1 ⟨g1, rfl, r1, b1⟩; have s1 := keep5 s0 b1; have KD1 := qh (KD.out.trans (b1.mono KD.out.size))) | (go_at_call 47; (with_reducible refine (HKB.out _ KD1.out).mono ?_); rintro e w2 ⟨g2, rfl, r2, b2⟩; have s2 := keep5 s1 b2; have HB2 := qh (KD1.out.trans (b2.mono KD1.out.size)); have HR1 := qh (r1.below b2); have HR2 := qh r2))
  rename_i hHeld
  clear hHeld s0 s1 s2 r1 b1 r2 b2 q0 q1 q2 q3 q4 KD KD1
  obtain ⟨F, hF⟩ : ∃ F : ByteArray → Int, F = fun t => (cntT (la.map (keyE ⟨given, on, ma, mn, mc, card, ia, im, ic, ns, inc⟩)) t : Int) := ⟨_, rfl⟩
  have HFF : Hid (∀ e : Er, (F (keyE ⟨given, on, ma, mn, mc, card, ia, im, ic, ns, inc⟩ e) = 0 ∧ meetsK on ns e.ls (la.map Er.ls) = false) ∨ ((∃ c : Int, F (keyE ⟨given, on, ma, mn, mc, card, ia, im, ic, ns, inc⟩ e) = c ∧ 0 < c) ∧ meetsK on ns e.ls (la.map Er.ls) = true)) := qh (fun e => cnt_cases ⟨given, on, ma, mn, mc, card, ia, im, ic, ns, inc⟩ la F hF e)
  obtain ⟨NM, hNM⟩ : ∃ NM, NM = (la.map (keyE ⟨given, on, ma, mn, mc, card, ia, im, ic, ns, inc⟩)).length := ⟨_, rfl⟩
  have HCN : Hid (Calls Tryz.prog 48 #[.slice (some ⟨g1, 0, none⟩) la.length la.length] w2 fun e w' => e = .returned (.map (some w2.heap.size)) ∧ MapF w' w2.heap.size NM F ∧ Below w2.heap.size w2 w') := qh (by
   rw [hF, hNM]
   exact counted_any _ _ _ _ w2 HR1.out (by omega))
  clear hF hNM
  go_wp2_with (first | (go_at_call 48; refine HCN.out.mono ?_; rintro e w3 ⟨rfl, mf, b3⟩; have HMF0 := qh mf; have HB3 := qh (HB2.out.trans (b3.mono HB2.out.size)); have HK20 := qh (HR2.out.below b3); have HFW := HFL.out w3 HB3.out; clear mf b3) | (at_builtin; refine wpList_append_ers rfl (.tmp 29) (.tmp 30) rfl w3.heap.size _ _ rfl (ownE_nil w3.heap.size w3) ad la.length ca la rfl rfl HFW (by simp; omega) (Nat.le_refl _) ?_; intro v4 w4 own4 gb4 hv4; have HO4 := qh own4; have HB4 := qh ((ownE_nil w3.heap.size w3).grown (Below.refl _ _) gb4 (Nat.le_refl _)); clear own4 gb4 hv4))
  have HMF := HMF0
  have HML0 : Hid (w2.heap.size < w3.heap.size) := qh HMF0.out.lt
  have HK2 := HK20
  go_loopw [12, 34] (SelRel la (fun e : Er => !meetsK on ns e.ls (la.map Er.ls)) lb w3) (fun _ v _ => lb.length - (intOf v).toNat)
  case atStart => exact ⟨0, rfl, by omega, by simpa using HO4.out, HB4.out⟩
  case round =>
   obtain ⟨k, rfl, hk, own, bel⟩ := hrel
   have HO := qh own
   have HBW := qh bel
   have HBT := qh (HB3.out.trans (bel.mono HB3.out.size))
   have hrw := HBR.out.below HBT.out
   have hkr := HK2.out.below bel
   have HMR := qh (HMF.out.below bel HML0.out)
   have HML : Hid (w2.heap.size < wr.heap.size) := qh HMR.out.lt
   clear own bel
   have HL : Hid ((la ++ (lb.take k).filter (fun e : Er => !meetsK on ns e.ls (la.map Er.ls))).length ≤ la.length + k) := qh (by
    have h1 : ((lb.take k).filter (fun e : Er => !meetsK on ns e.ls (la.map Er.ls))).length ≤ k := Nat.le_trans (List.length_filter_le ..) (by rw [List.length_take]; omega)
    rw [List.length_append]
    first | omega | (rw [List.length_nil]; omega))
   by_cases hlt : k < lb.length
   ·obtain ⟨bb, off, hab, hbb, hc⟩ := hrw.2.2.2 (by omega)
    first | subst hab | cases hab
    obtain ⟨x0, x1⟩ := hc k hlt
    have z0 : wr.cell? ⟨g2, k, none⟩ = some (.string (keyE ⟨given, on, ma, mn, mc, card, ia, im, ic, ns, inc⟩ (erAt lb k))) := by
     obtain ⟨b1, o1, hb1, _, hc1⟩ := hkr.2.2.2 (by omega)
     cases hb1
     have := hc1 k (by omega)
     rw [nsAt_keys _ _ (by omega), Nat.zero_add] at this
     exact this
    have hsz : (keyE ⟨given, on, ma, mn, mc, card, ia, im, ic, ns, inc⟩ (erAt lb k)).size ≤ maxLen := by
     have := hkr.2.2.1 _ (List.mem_map_of_mem (f := keyE ⟨given, on, ma, mn, mc, card, ia, im, ic, ns, inc⟩) (show erAt lb k ∈ lb by rw [erAt_get (by omega)]; exact List.getElem_mem _))
     unfold SmallT at this; unfold maxLen; omega
    have k1 : (0 : Int) ≤ (k : Int) := by omega
    have k2 : (k : Int) < (lb.length : Int) := by omega
    have k3 : (k : Int) < (lb.length : Int) := by omega
    have HE := qh (filt_er (fun e : Er => !meetsK on ns e.ls (la.map Er.ls)) lb (by omega : k < lb.length))
    have hF := HFF.out (erAt lb k)
    generalize erAt lb k = x at *
    obtain ⟨S, hS⟩ : ∃ S, S = keyE ⟨given, on, ma, mn, mc, card, ia, im, ic, ns, inc⟩ x := ⟨_, rfl⟩
    rw [← hS] at z0 hsz hF
    have HS := qh hsz
    obtain ⟨xa, xn, xc, xf, xl⟩ := x
    dsimp only at x0 x1 hF HE
    generalize meetsK on ns xl (la.map Er.ls) = d at *
    clear hc hrw hkr hsz hS
    rcases hF with ⟨hFS, rfl⟩ | ⟨⟨c, hFS, hc0⟩, rfl⟩
    ·go_wp2_with (first | (refine Bk.is_store 34 rfl ?_; refine Bk.wpList_store_box (w0 := wr) (N := 0) rfl 34 _ _ rfl #[.slice xa xn xc, .float .f64 xf] #[.slice none 0 0, .float .f64 0] 34 rfl rfl (by kernel_rfl) rfl (by kernel_rfl) ?_; intro W hI hB; have e0 : W.cell? ⟨wr.heap.size, 0, none⟩ = some (.slice xa xn xc) := (by rw [hI.cell]; rfl); have e1 : W.cell? ⟨wr.heap.size, 1, none⟩ = some (.float .f64 xf) := (by rw [hI.cell]; rfl); have HW := qh hB; have y0 := cell_stayL z0 hB; have HMW := qh (HMR.out.below hB HML.out); clear hI hB) | (at_lookup; refine wpList_lookup_F rfl _ _ rfl w2.heap.size NM F rfl HMW.out S rfl HS.out ?_; rw [hFS]) | (at_builtin; refine wpList_append_er rfl (.tmp 46) (.tmp 48) rfl w3.heap.size _ _ rfl ((HO.out.below HW.out).alloc _) W.heap.size _ ⟨xa, xn, xc, xf, xl⟩ rfl (by rw [World.cell?_alloc_at _ _ _ _ (by rfl)]; rfl) (by rw [World.cell?_alloc_at _ _ _ _ (by rfl)]; rfl) (by have := HL.out; omega) (Nat.le_trans HBW.out.size (Nat.le_trans HW.out.size (by simp))) ?_; intro v6 w6 own6 gb6 hv6; have HO6 := qh own6; have HB6 := qh (((HO.out.below HW.out).alloc _).grown ((HBW.out.trans (HW.out.mono HBW.out.size)).alloc (Nat.le_trans HBW.out.size HW.out.size) _) gb6 (Nat.le_trans HBW.out.size (Nat.le_trans HW.out.size (by simp)))); clear own6 gb6 hv6))
     go_roundw
     case rel => exact ⟨k + 1, by first | rfl | (congr 1; omega), by omega, by rw [HE.out, ← List.append_assoc]; exact HO6.out, HB6.out⟩
     case measure => simp [intOf]; omega
    ·have hc1 : (c == 0) = false := by simpa using (show ¬ c = 0 by omega)
     have hc2 : decide (c = 0) = false := decide_eq_false (by omega)
     have hc3 : decide (0 < c) = true := decide_eq_true hc0
     go_wp2_with (first | (refine Bk.is_store 34 rfl ?_; refine Bk.wpList_store_box (w0 := wr) (N := 0) rfl 34 _ _ rfl #[.slice xa xn xc, .float .f64 xf] #[.slice none 0 0, .float .f64 0] 34 rfl rfl (by kernel_rfl) rfl (by kernel_rfl) ?_; intro W hI hB; have e0 : W.cell? ⟨wr.heap.size, 0, none⟩ = some (.slice xa xn xc) := (by rw [hI.cell]; rfl); have e1 : W.cell? ⟨wr.heap.size, 1, none⟩ = some (.float .f64 xf) := (by rw [hI.cell]; rfl); have HW := qh hB; have y0 := cell_stayL z0 hB; have HMW := qh (HMR.out.below hB HML.out); clear hI hB) | (at_lookup; refine wpList_lookup_F rfl _ _ rfl w2.heap.size NM F rfl HMW.out S rfl HS.out ?_; rw [hFS]))
     go_roundw
     case rel => exact ⟨k + 1, by first | rfl | (congr 1; omega), by omega, by rw [HE.out]; simpa using HO.out.below HW.out, HBW.out.trans (HW.out.mono HBW.out.size)⟩
     case measure => simp [intOf]; omega
   ·have hkn : ¬ (k : Int) < (lb.length : Int) := by omega
    have hkn2 : ¬ (k : Int) < (lb.length : Int) := by omega
    have HE : Hid (lb.take k = lb) := qh (List.take_of_length_le (by omega))
    rw [HE.out] at HO
    have HLO : Hid ((la ++ lb.filter (fun e : Er => !meetsK on ns e.ls (la.map Er.ls))).length ≤ 4398046511104) := qh (by have := HL.out; rw [HE.out] at this; omega)
    obtain ⟨O, hO⟩ : ∃ O, O = la ++ lb.filter (fun e : Er => !meetsK on ns e.ls (la.map Er.ls)) := ⟨_, rfl⟩
    rw [← hO] at HO HLO
    have HOO := qh hO
    clear hO
    obtain ⟨ao, co, hvo, hso, hro⟩ := HO.out.row (fun e he => (by
     rw [HOO.out] at he
     rcases List.mem_append.1 he with h | h
     ·first | exact absurd h List.not_mem_nil | exact (HA.out.2.2.1 e h).below HBT.out
     ·exact (HBR.out.2.2.1 e (List.mem_filter.1 h).1).below HBT.out)) HLO.out
    subst hvo
    have HSET := qh (settledX_any ao O.length co O wr hro)
    clear hso hro hrw hkr hkn
    go_wp2_with (go_at_call 28; refine HSET.out.mono ?_; rintro e w5 ⟨a5, c5, es5, rfl, hh⟩; have HH := qh hh; clear hh)
    go_ret2
    have hks : setL u.toList on ns (la.map Er.key) (lb.map Er.key) = O.map Er.key := by
     rw [HOO.out]
     unfold setL
     rw [if_pos hor, ← filter_key, List.map_append]
     simp only [meetsE_er]
    rw [hks]
    exact AnsX.from ⟨a5, c5, es5, rfl, HH.out⟩ HBT.out
end Go.Proofs.YtmmfjknnbkcniaaGreatDoor
