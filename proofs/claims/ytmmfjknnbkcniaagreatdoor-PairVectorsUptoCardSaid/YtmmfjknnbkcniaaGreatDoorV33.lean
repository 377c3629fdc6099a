/- weirref21.sets. -/
import Derived.Test.YtmmfjknnbkcniaaGreatDoorV32
set_option maxHeartbeats 64000000
set_option maxRecDepth 100000
namespace Go.Fl
theorem filt_er (p : Er → Bool) (es : List Er) {k : Nat} (h : k < es.length) : (es.take (k + 1)).filter p = (es.take k).filter p ++ (if p (erAt es k) then [erAt es k] else []) := by
 rw [List.take_add_one, List.getElem?_eq_getElem h, List.filter_append, erAt_get h]
 congr 1
 by_cases e : p es[k]
 ·rw [if_pos e]; simp [e]
 ·rw [if_neg e]; simp [e]
end Go.Fl
namespace Go.Proofs.YtmmfjknnbkcniaaGreatDoor
open Go.Fl Go.Rel Go.RowKit Go.Maps Go.WideMaps
set_option linter.unusedSimpArgs false
set_option linter.unusedVariables false
def meetsE (on : Bool) (ns : List ByteArray) (ks : List Ek) (x : Ek) : Bool := meetsK on ns x.1 (ks.map (·.1))
def setL (u : List UInt8) (on : Bool) (ns : List ByteArray) (ls rs : List Ek) : List Ek :=
 if u == [111, 114] then ls ++ rs.filter (fun y => !meetsE on ns ls y) else ls.filter (fun x => (u == [97, 110, 100]) == meetsE on ns rs x)
theorem meetsE_er (on : Bool) (ns : List ByteArray) (es : List Er) (x : Er) : meetsE on ns (es.map Er.key) x.key = meetsK on ns x.ls (es.map Er.ls) := by
 unfold meetsE; rw [List.map_map]; rfl
theorem filter_key (p : Ek → Bool) (es : List Er) : (es.filter fun e => p e.key).map Er.key = (es.map Er.key).filter p := by
 rw [List.filter_map]; rfl
def AtOnce (x : Value) (w : World) (v10 v12 : Value) (wr : World) : Prop := v10 = x ∧ wr = w
theorem keepS {q0 q1 q2 q3 q4 q5 : Addr} {v0 v1 v2 v3 v4 v5 : Value} {z w w' : World} (h : w.cell? q0 = some v0 ∧ w.cell? q1 = some v1 ∧ w.cell? q2 = some v2 ∧ w.cell? q3 = some v3 ∧ w.cell? q4 = some v4 ∧ w.cell? q5 = some v5 ∧ Below z.heap.size z w) (hb : Below w.heap.size w w') : w'.cell? q0 = some v0 ∧ w'.cell? q1 = some v1 ∧ w'.cell? q2 = some v2 ∧ w'.cell? q3 = some v3 ∧ w'.cell? q4 = some v4 ∧ w'.cell? q5 = some v5 ∧ Below z.heap.size z w' :=
 ⟨cell_stayL h.1 hb, cell_stayL h.2.1 hb, cell_stayL h.2.2.1 hb, cell_stayL h.2.2.2.1 hb, cell_stayL h.2.2.2.2.1 hb, cell_stayL h.2.2.2.2.2.1 hb, h.2.2.2.2.2.2.trans (hb.mono h.2.2.2.2.2.2.size)⟩
def SelRel (Z : List Er) (p : Er → Bool) (es : List Er) (w : World) (v10 v11 : Value) (wr : World) : Prop :=
 ∃ k : Nat, v11 = .int .i64 (k : Int) ∧ k ≤ es.length ∧ OwnE w.heap.size wr v10 (Z ++ (es.take k).filter p) ∧ Below w.heap.size w wr
theorem sets_any (u : ByteArray) (a b : Option Addr) (na ca nb cb : Nat) (la lb : List Er) (m : Mt) (w : World) (ha : ERow w a na la) (hb : ERow w b nb lb) (hM : MtOk w m) (hn : na + nb ≤ 4398046511000) :
  Calls Tryz.prog 43 #[.string u, .slice a na ca, .slice b nb cb, m.v] w (AnsRet (setE ((setL u.toList m.on m.ns (la.map Er.key) (lb.map Er.key)).map clK)) (setV ((setL u.toList m.on m.ns (la.map Er.key) (lb.map Er.key)).map clK)) w) := by
 have HA := qh ha
 have HBR := qh hb
 have HM := qh hM
 have hla := ha.1
 have hlb := hb.1
 have n1 : (na : Int) ≤ 4398046511000 := by omega
 have n2 : (nb : Int) ≤ 4398046511000 := by omega
 obtain ⟨given, on, ma, mn, mc, card, ia, im, ic, ns, inc⟩ := m
 dsimp only [Mt.v]
 obtain ⟨W0, hW0⟩ : ∃ W0, W0 = w.alloc (.cells #[.bool given, .bool on, .slice ma mn mc, .int .i64 card, .slice ia im ic] 25) := ⟨_, rfl⟩
 have hI0 : Bk.Is W0 w.heap.size #[.bool given, .bool on, .slice ma mn mc, .int .i64 card, .slice ia im ic] 25 := by rw [hW0]; exact Bk.Is.made w _ _
 have hB0 : Below w.heap.size w W0 := by rw [hW0]; exact (Below.refl _ _).alloc (Nat.le_refl _) _
 have HI := qh hI0
 have HB := qh hB0
 have HW0 := qh hW0
 clear ha hb hM hI0 hB0 hW0
 cases hor : (u.toList == [111, 114])
 ·cases hand : (u.toList == [97, 110, 100])
  ·go_enter Tryz.func43, Tryz.ntmps43
   go_wp2_with fail
   rw [← HW0.out]
   go_loopw [10, 11] (SelRel [] (fun e : Er => !meetsK on ns e.ls (lb.map Er.ls)) la W0) (fun _ v _ => na - (intOf v).toNat)
   case atStart => exact ⟨0, rfl, by omega, ownE_nil _ _, Below.refl _ _⟩
   case round =>
    obtain ⟨k, rfl, hk, own, bel⟩ := hrel
    have HO := qh own
    have HBW := qh bel
    have HBT := qh (HB.out.trans (bel.mono HB.out.size))
    have hrw := HA.out.below HBT.out
    have hix := HI.out.below bel HI.out.lt
    have q0 := hix.cell 0
    have q1 := hix.cell 1
    have q2 := hix.cell 2
    have q3 := hix.cell 3
    have q4 := hix.cell 4
    simp at q0 q1 q2 q3 q4
    clear own bel hix
    have HL : Hid (([] ++ (la.take k).filter (fun e : Er => !meetsK on ns e.ls (lb.map Er.ls))).length ≤ 0 + k) := qh (by
     have h1 : ((la.take k).filter (fun e : Er => !meetsK on ns e.ls (lb.map Er.ls))).length ≤ k := Nat.le_trans (List.length_filter_le ..) (by simp; omega)
     rw [List.length_append]; simp; omega)
    by_cases hlt : k < na
    ·obtain ⟨bb, off, hab, hbb, hc⟩ := hrw.2.2.2 (by omega)
     subst hab
     obtain ⟨x0, x1⟩ := hc k hlt
     have k1 : (0 : Int) ≤ (k : Int) := by omega
     have k2 : (k : Int) < (na : Int) := by omega
     have hyo : ErOk wr (erAt la k) := hrw.2.2.1 _ (by rw [erAt_get (by omega)]; exact List.getElem_mem _)
     have HE := qh (filt_er (fun e : Er => !meetsK on ns e.ls (lb.map Er.ls)) la (by omega : k < la.length))
     generalize erAt la k = x at *
     obtain ⟨xa, xn, xc, xf, xl⟩ := x
     dsimp only at x0 x1
     have HWD : Hid (Below wr.heap.size wr wr.drew) := qh ((Below.refl _ wr).drewN' 1)
     have HBD : Hid (Below W0.heap.size W0 wr.drew) := qh (HBW.out.trans (HWD.out.mono HBW.out.size))
     have z0 : wr.drew.cell? ⟨bb, off + k * 2, none⟩ = some (.slice xa xn xc) := x0
     have z1 : wr.drew.cell? ⟨bb, off + k * 2 + 1, none⟩ = some (.float .f64 xf) := x1
     have HMT := qh (meets_any xa xn xc xl b nb cb lb ⟨given, on, ma, mn, mc, card, ia, im, ic, ns, inc⟩ wr.drew (hyo.1.below HWD.out) (HBR.out.below (HBT.out.trans (HWD.out.mono HBT.out.size))) (HM.out.below (HBT.out.trans (HWD.out.mono HBT.out.size))) hyo.2.2)
     dsimp only [Mt.v] at HMT
     dsimp only at HE
     generalize meetsK on ns xl (lb.map Er.ls) = d at *
     clear hc hrw hyo
     cases d
     ·go_wp2_with fail
      have s0 : wr.drew.cell? ⟨bb, off + k * 2, none⟩ = some (.slice xa xn xc) ∧ wr.drew.cell? ⟨w.heap.size, 0, none⟩ = some (.bool given) ∧ wr.drew.cell? ⟨w.heap.size, 1, none⟩ = some (.bool on) ∧ wr.drew.cell? ⟨w.heap.size, 2, none⟩ = some (.slice ma mn mc) ∧ wr.drew.cell? ⟨w.heap.size, 3, none⟩ = some (.int .i64 card) ∧ wr.drew.cell? ⟨w.heap.size, 4, none⟩ = some (.slice ia im ic) ∧ Below wr.heap.size wr wr.drew := ⟨x0, q0, q1, q2, q3, q4, HWD.out⟩
      go_region_held3 (fun w' => w'.cell? ⟨bb, off + k * 2, none⟩ = some (.slice xa xn xc) ∧ w'.cell? ⟨w.heap.size, 0, none⟩ = some (.bool given) ∧ w'.cell? ⟨w.heap.size, 1, none⟩ = some (.bool on) ∧ w'.cell? ⟨w.heap.size, 2, none⟩ = some (.slice ma mn mc) ∧ w'.cell? ⟨w.heap.size, 3, none⟩ = some (.int .i64 card) ∧ w'.cell? ⟨w.heap.size, 4, none⟩ = some (.slice ia im ic) ∧ Below wr.heap.size wr w') (first | assumption) (first | (go_at_call 44; refine HMT.out.mono ?_; rintro e w5 ⟨rfl, b5⟩; have s5 := keepS s0 b5))
      have y0 := s5.1
      have y1 := cell_stayL z1 b5
      have HB5 := qh (HBD.out.trans (b5.mono HBD.out.size))
      have HO5 := qh ((HO.out.below HWD.out).below b5)
      clear b5 s0 s5 q0 q1 q2 q3 q4 x0 x1 z0 z1
      go_wp2_with (first | (at_builtin; refine wpList_append_er rfl (.tmp 34) (.tmp 39) rfl W0.heap.size _ _ rfl (HO5.out.alloc _) w5.heap.size _ ⟨xa, xn, xc, xf, xl⟩ rfl (by rw [World.cell?_alloc_at _ _ _ _ (by rfl)]; rfl) (by rw [World.cell?_alloc_at _ _ _ _ (by rfl)]; rfl) (by have := HL.out; omega) (by have := HB5.out.size; simp at this ⊢; omega) ?_; intro v6 w6 own6 gb6 hv6; have HO6 := qh own6; have HB6 := qh ((HO5.out.alloc _).grown (HB5.out.alloc HB5.out.size _) gb6 (by have := HB5.out.size; simp at this ⊢; omega)); clear own6 gb6 hv6))
      go_roundw
      case rel => exact ⟨k + 1, by first | rfl | (congr 1; omega), by omega, by rw [HE.out, ← List.append_assoc]; exact HO6.out, HB6.out⟩
      case measure => simp [intOf]; omega
     ·go_wp2_with fail
      have s0 : wr.drew.cell? ⟨bb, off + k * 2, none⟩ = some (.slice xa xn xc) ∧ wr.drew.cell? ⟨w.heap.size, 0, none⟩ = some (.bool given) ∧ wr.drew.cell? ⟨w.heap.size, 1, none⟩ = some (.bool on) ∧ wr.drew.cell? ⟨w.heap.size, 2, none⟩ = some (.slice ma mn mc) ∧ wr.drew.cell? ⟨w.heap.size, 3, none⟩ = some (.int .i64 card) ∧ wr.drew.cell? ⟨w.heap.size, 4, none⟩ = some (.slice ia im ic) ∧ Below wr.heap.size wr wr.drew := ⟨x0, q0, q1, q2, q3, q4, HWD.out⟩
      go_region_held3 (fun w' => w'.cell? ⟨bb, off + k * 2, none⟩ = some (.slice xa xn xc) ∧ w'.cell? ⟨w.heap.size, 0, none⟩ = some (.bool given) ∧ w'.cell? ⟨w.heap.size, 1, none⟩ = some (.bool on) ∧ w'.cell? ⟨w.heap.size, 2, none⟩ = some (.slice ma mn mc) ∧ w'.cell? ⟨w.heap.size, 3, none⟩ = some (.int .i64 card) ∧ w'.cell? ⟨w.heap.size, 4, none⟩ = some (.slice ia im ic) ∧ Below wr.heap.size wr w') (first | assumption) (first | (go_at_call 44; refine HMT.out.mono ?_; rintro e w5 ⟨rfl, b5⟩; have s5 := keepS s0 b5))
      have y0 := s5.1
      have y1 := cell_stayL z1 b5
      have HB5 := qh (HBD.out.trans (b5.mono HBD.out.size))
      have HO5 := qh ((HO.out.below HWD.out).below b5)
      clear b5 s0 s5 q0 q1 q2 q3 q4 x0 x1 z0 z1
      go_wp2_with (first | (at_builtin; refine wpList_append_er rfl (.tmp 34) (.tmp 39) rfl W0.heap.size _ _ rfl (HO5.out.alloc _) w5.heap.size _ ⟨xa, xn, xc, xf, xl⟩ rfl (by rw [World.cell?_alloc_at _ _ _ _ (by rfl)]; rfl) (by rw [World.cell?_alloc_at _ _ _ _ (by rfl)]; rfl) (by have := HL.out; omega) (by have := HB5.out.size; simp at this ⊢; omega) ?_; intro v6 w6 own6 gb6 hv6; have HO6 := qh own6; have HB6 := qh ((HO5.out.alloc _).grown (HB5.out.alloc HB5.out.size _) gb6 (by have := HB5.out.size; simp at this ⊢; omega)); clear own6 gb6 hv6))
      go_roundw
      case rel => exact ⟨k + 1, by first | rfl | (congr 1; omega), by omega, by rw [HE.out]; simpa using HO5.out, HB5.out⟩
      case measure => simp [intOf]; omega
    ·have hkn : ¬ (k : Int) < (na : Int) := by omega
     have HE : Hid (la.take k = la) := qh (List.take_of_length_le (by omega))
     rw [HE.out] at HO
     clear hrw hkn
     have hbnd : (la.filter (fun e : Er => !meetsK on ns e.ls (lb.map Er.ls))).length ≤ 4398046511000 := by have := HL.out; rw [HE.out, List.nil_append] at this; omega
     have HBND := qh hbnd
     clear hbnd HL
     go_wp2_with fail
     go_loopw [10, 12] (AtOnce u10 wr) (fun _ _ _ => 0)
     case atStart => exact ⟨rfl, rfl⟩
     case round =>
      obtain ⟨rfl, rfl⟩ := hrel
      go_wp2_with fail
      obtain ⟨ao, co, hvo, hso, hro⟩ := HO.out.row (fun e he => (HA.out.2.2.1 e (by rw [List.nil_append] at he; exact (List.mem_filter.1 he).1)).below HBT.out) (by rw [List.nil_append]; have := HBND.out; omega)
      subst hvo
      have HSET := qh (done_any ao _ co _ _ wr hro hso rfl)
      clear hso hro
      go_wp2_with (go_at_call 63; refine HSET.out.mono ?_; rintro e w5 ⟨a5, c5, es5, rfl, h1, h2, h3, h4⟩; have HH := qh (And.intro h1 (And.intro h2 (And.intro h3 h4))); clear h1 h2 h3 h4)
      go_ret2
      obtain ⟨h1, h2, h3, h4⟩ := HH.out
      have hks : (setL u.toList on ns (la.map Er.key) (lb.map Er.key)).map clK = ([] ++ la.filter (fun e : Er => !meetsK on ns e.ls (lb.map Er.ls))).map (fun x : Er => clK x.key) := by
       unfold setL
       rw [if_neg (by rw [hor]; simp), hand, List.nil_append, ← filter_key, List.map_map]
       simp only [meetsE_er]
       simp
       try rfl
      rw [hks]
      first | exact ⟨a5, c5, es5, rfl, h1, h2, h3, HBT.out.trans (h4.mono HBT.out.size)⟩ | (rw [List.map_append] at h3 ⊢; exact ⟨a5, c5, es5, rfl, h1, h2, h3, HBT.out.trans (h4.mono HBT.out.size)⟩)
  ·go_enter Tryz.func43, Tryz.ntmps43
   go_wp2_with fail
   rw [← HW0.out]
   go_loopw [10, 11] (SelRel [] (fun e : Er => meetsK on ns e.ls (lb.map Er.ls)) la W0) (fun _ v _ => na - (intOf v).toNat)
   case atStart => exact ⟨0, rfl, by omega, ownE_nil _ _, Below.refl _ _⟩
   case round =>
    obtain ⟨k, rfl, hk, own, bel⟩ := hrel
    have HO := qh own
    have HBW := qh bel
    have HBT := qh (HB.out.trans (bel.mono HB.out.size))
    have hrw := HA.out.below HBT.out
    have hix := HI.out.below bel HI.out.lt
    have q0 := hix.cell 0
    have q1 := hix.cell 1
    have q2 := hix.cell 2
    have q3 := hix.cell 3
    have q4 := hix.cell 4
    simp at q0 q1 q2 q3 q4
    clear own bel hix
    have HL : Hid (([] ++ (la.take k).filter (fun e : Er => meetsK on ns e.ls (lb.map Er.ls))).length ≤ 0 + k) := qh (by
     have h1 : ((la.take k).filter (fun e : Er => meetsK on ns e.ls (lb.map Er.ls))).length ≤ k := Nat.le_trans (List.length_filter_le ..) (by simp; omega)
     rw [List.length_append]; simp; omega)
    by_cases hlt : k < na
    ·obtain ⟨bb, off, hab, hbb, hc⟩ := hrw.2.2.2 (by omega)
     subst hab
     obtain ⟨x0, x1⟩ := hc k hlt
     have k1 : (0 : Int) ≤ (k : Int) := by omega
     have k2 : (k : Int) < (na : Int) := by omega
     have hyo : ErOk wr (erAt la k) := hrw.2.2.1 _ (by rw [erAt_get (by omega)]; exact List.getElem_mem _)
     have HE := qh (filt_er (fun e : Er => meetsK on ns e.ls (lb.map Er.ls)) la (by omega : k < la.length))
     generalize erAt la k = x at *
     obtain ⟨xa, xn, xc, xf, xl⟩ := x
     dsimp only at x0 x1
     have HWD : Hid (Below wr.heap.size wr wr.drew) := qh ((Below.refl _ wr).drewN' 1)
     have HBD : Hid (Below W0.heap.size W0 wr.drew) := qh (HBW.out.trans (HWD.out.mono HBW.out.size))
     have z0 : wr.drew.cell? ⟨bb, off + k * 2, none⟩ = some (.slice xa xn xc) := x0
     have z1 : wr.drew.cell? ⟨bb, off + k * 2 + 1, none⟩ = some (.float .f64 xf) := x1
     have HMT := qh (meets_any xa xn xc xl b nb cb lb ⟨given, on, ma, mn, mc, card, ia, im, ic, ns, inc⟩ wr.drew (hyo.1.below HWD.out) (HBR.out.below (HBT.out.trans (HWD.out.mono HBT.out.size))) (HM.out.below (HBT.out.trans (HWD.out.mono HBT.out.size))) hyo.2.2)
     dsimp only [Mt.v] at HMT
     dsimp only at HE
     generalize meetsK on ns xl (lb.map Er.ls) = d at *
     clear hc hrw hyo
     cases d
     ·go_wp2_with fail
      have s0 : wr.drew.cell? ⟨bb, off + k * 2, none⟩ = some (.slice xa xn xc) ∧ wr.drew.cell? ⟨w.heap.size, 0, none⟩ = some (.bool given) ∧ wr.drew.cell? ⟨w.heap.size, 1, none⟩ = some (.bool on) ∧ wr.drew.cell? ⟨w.heap.size, 2, none⟩ = some (.slice ma mn mc) ∧ wr.drew.cell? ⟨w.heap.size, 3, none⟩ = some (.int .i64 card) ∧ wr.drew.cell? ⟨w.heap.size, 4, none⟩ = some (.slice ia im ic) ∧ Below wr.heap.size wr wr.drew := ⟨x0, q0, q1, q2, q3, q4, HWD.out⟩
      go_region_held3 (fun w' => w'.cell? ⟨bb, off + k * 2, none⟩ = some (.slice xa xn xc) ∧ w'.cell? ⟨w.heap.size, 0, none⟩ = some (.bool given) ∧ w'.cell? ⟨w.heap.size, 1, none⟩ = some (.bool on) ∧ w'.cell? ⟨w.heap.size, 2, none⟩ = some (.slice ma mn mc) ∧ w'.cell? ⟨w.heap.size, 3, none⟩ = some (.int .i64 card) ∧ w'.cell? ⟨w.heap.size, 4, none⟩ = some (.slice ia im ic) ∧ Below wr.heap.size wr w') (first | assumption) (first | (go_at_call 44; refine HMT.out.mono ?_; rintro e w5 ⟨rfl, b5⟩; have s5 := keepS s0 b5))
      have y0 := s5.1
      have y1 := cell_stayL z1 b5
      have HB5 := qh (HBD.out.trans (b5.mono HBD.out.size))
      have HO5 := qh ((HO.out.below HWD.out).below b5)
      clear b5 s0 s5 q0 q1 q2 q3 q4 x0 x1 z0 z1
      go_wp2_with (first | (at_builtin; refine wpList_append_er rfl (.tmp 34) (.tmp 39) rfl W0.heap.size _ _ rfl (HO5.out.alloc _) w5.heap.size _ ⟨xa, xn, xc, xf, xl⟩ rfl (by rw [World.cell?_alloc_at _ _ _ _ (by rfl)]; rfl) (by rw [World.cell?_alloc_at _ _ _ _ (by rfl)]; rfl) (by have := HL.out; omega) (by have := HB5.out.size; simp at this ⊢; omega) ?_; intro v6 w6 own6 gb6 hv6; have HO6 := qh own6; have HB6 := qh ((HO5.out.alloc _).grown (HB5.out.alloc HB5.out.size _) gb6 (by have := HB5.out.size; simp at this ⊢; omega)); clear own6 gb6 hv6))
      go_roundw
      case rel => exact ⟨k + 1, by first | rfl | (congr 1; omega), by omega, by rw [HE.out]; simpa using HO5.out, HB5.out⟩
      case measure => simp [intOf]; omega
     ·go_wp2_with fail
      have s0 : wr.drew.cell? ⟨bb, off + k * 2, none⟩ = some (.slice xa xn xc) ∧ wr.drew.cell? ⟨w.heap.size, 0, none⟩ = some (.bool given) ∧ wr.drew.cell? ⟨w.heap.size, 1, none⟩ = some (.bool on) ∧ wr.drew.cell? ⟨w.heap.size, 2, none⟩ = some (.slice ma mn mc) ∧ wr.drew.cell? ⟨w.heap.size, 3, none⟩ = some (.int .i64 card) ∧ wr.drew.cell? ⟨w.heap.size, 4, none⟩ = some (.slice ia im ic) ∧ Below wr.heap.size wr wr.drew := ⟨x0, q0, q1, q2, q3, q4, HWD.out⟩
      go_region_held3 (fun w' => w'.cell? ⟨bb, off + k * 2, none⟩ = some (.slice xa xn xc) ∧ w'.cell? ⟨w.heap.size, 0, none⟩ = some (.bool given) ∧ w'.cell? ⟨w.heap.size, 1, none⟩ = some (.bool on) ∧ w'.cell? ⟨w.heap.size, 2, none⟩ = some (.slice ma mn mc) ∧ w'.cell? ⟨w.heap.size, 3, none⟩ = some (.int .i64 card) ∧ w'.cell? ⟨w.heap.size, 4, none⟩ = some (.slice ia im ic) ∧ Below wr.heap.size wr w') (first | assumption) (first | (go_at_call 44; refine HMT.out.mono ?_; rintro e w5 ⟨rfl, b5⟩; have s5 := keepS s0 b5))
      have y0 := s5.1
      have y1 := cell_stayL z1 b5
      have HB5 := qh (HBD.out.trans (b5.mono HBD.out.size))
      have HO5 := qh ((HO.out.below HWD.out).below b5)
      clear b5 s0 s5 q0 q1 q2 q3 q4 x0 x1 z0 z1
      go_wp2_with (first | (at_builtin; refine wpList_append_er rfl (.tmp 34) (.tmp 39) rfl W0.heap.size _ _ rfl (HO5.out.alloc _) w5.heap.size _ ⟨xa, xn, xc, xf, xl⟩ rfl (by rw [World.cell?_alloc_at _ _ _ _ (by rfl)]; rfl) (by rw [World.cell?_alloc_at _ _ _ _ (by rfl)]; rfl) (by have := HL.out; omega) (by have := HB5.out.size; simp at this ⊢; omega) ?_; intro v6 w6 own6 gb6 hv6; have HO6 := qh own6; have HB6 := qh ((HO5.out.alloc _).grown (HB5.out.alloc HB5.out.size _) gb6 (by have := HB5.out.size; simp at this ⊢; omega)); clear own6 gb6 hv6))
      go_roundw
      case rel => exact ⟨k + 1, by first | rfl | (congr 1; omega), by omega, by rw [HE.out, ← List.append_assoc]; exact HO6.out, HB6.out⟩
      case measure => simp [intOf]; omega
    ·have hkn : ¬ (k : Int) < (na : Int) := by omega
     have HE : Hid (la.take k = la) := qh (List.take_of_length_le (by omega))
     rw [HE.out] at HO
     clear hrw hkn
     have hbnd : (la.filter (fun e : Er => meetsK on ns e.ls (lb.map Er.ls))).length ≤ 4398046511000 := by have := HL.out; rw [HE.out, List.nil_append] at this; omega
     have HBND := qh hbnd
     clear hbnd HL
     go_wp2_with fail
     go_loopw [10, 12] (AtOnce u10 wr) (fun _ _ _ => 0)
     case atStart => exact ⟨rfl, rfl⟩
     case round =>
      obtain ⟨rfl, rfl⟩ := hrel
      go_wp2_with fail
      obtain ⟨ao, co, hvo, hso, hro⟩ := HO.out.row (fun e he => (HA.out.2.2.1 e (by rw [List.nil_append] at he; exact (List.mem_filter.1 he).1)).below HBT.out) (by rw [List.nil_append]; have := HBND.out; omega)
      subst hvo
      have HSET := qh (done_any ao _ co _ _ wr hro hso rfl)
      clear hso hro
      go_wp2_with (go_at_call 63; refine HSET.out.mono ?_; rintro e w5 ⟨a5, c5, es5, rfl, h1, h2, h3, h4⟩; have HH := qh (And.intro h1 (And.intro h2 (And.intro h3 h4))); clear h1 h2 h3 h4)
      go_ret2
      obtain ⟨h1, h2, h3, h4⟩ := HH.out
      have hks : (setL u.toList on ns (la.map Er.key) (lb.map Er.key)).map clK = ([] ++ la.filter (fun e : Er => meetsK on ns e.ls (lb.map Er.ls))).map (fun x : Er => clK x.key) := by
       unfold setL
       rw [if_neg (by rw [hor]; simp), hand, List.nil_append, ← filter_key, List.map_map]
       simp only [meetsE_er]
       simp
       try rfl
      rw [hks]
      first | exact ⟨a5, c5, es5, rfl, h1, h2, h3, HBT.out.trans (h4.mono HBT.out.size)⟩ | (rw [List.map_append] at h3 ⊢; exact ⟨a5, c5, es5, rfl, h1, h2, h3, HBT.out.trans (h4.mono HBT.out.size)⟩)
 ·go_enter Tryz.func43, Tryz.ntmps43
  go_wp2_with fail
  rw [← HW0.out]
  go_loopw [10, 11] (SelRel [] (fun _ : Er => true) la W0) (fun _ v _ => na - (intOf v).toNat)
  case atStart => exact ⟨0, rfl, by omega, ownE_nil _ _, Below.refl _ _⟩
  case round =>
   obtain ⟨k, rfl, hk, own, bel⟩ := hrel
   have HO := qh own
   have HBW := qh bel
   have HBT := qh (HB.out.trans (bel.mono HB.out.size))
   have hrw := HA.out.below HBT.out
   have hix := HI.out.below bel HI.out.lt
   have q0 := hix.cell 0
   have q1 := hix.cell 1
   have q2 := hix.cell 2
   have q3 := hix.cell 3
   have q4 := hix.cell 4
   simp at q0 q1 q2 q3 q4
   clear own bel hix
   have HL : Hid (([] ++ (la.take k).filter (fun _ : Er => true)).length ≤ 0 + k) := qh (by
    have h1 : ((la.take k).filter (fun _ : Er => true)).length ≤ k := Nat.le_trans (List.length_filter_le ..) (by simp; omega)
    rw [List.length_append]; simp; omega)
   by_cases hlt : k < na
   ·obtain ⟨bb, off, hab, hbb, hc⟩ := hrw.2.2.2 (by omega)
    subst hab
    obtain ⟨x0, x1⟩ := hc k hlt
    have k1 : (0 : Int) ≤ (k : Int) := by omega
    have k2 : (k : Int) < (na : Int) := by omega
    have hyo : ErOk wr (erAt la k) := hrw.2.2.1 _ (by rw [erAt_get (by omega)]; exact List.getElem_mem _)
    have HE := qh (filt_er (fun _ : Er => true) la (by omega : k < la.length))
    generalize erAt la k = x at *
    obtain ⟨xa, xn, xc, xf, xl⟩ := x
    dsimp only at x0 x1
    have HWD : Hid (Below wr.heap.size wr wr.drew) := qh ((Below.refl _ wr).drewN' 1)
    have HBD : Hid (Below W0.heap.size W0 wr.drew) := qh (HBW.out.trans (HWD.out.mono HBW.out.size))
    have z0 : wr.drew.cell? ⟨bb, off + k * 2, none⟩ = some (.slice xa xn xc) := x0
    have z1 : wr.drew.cell? ⟨bb, off + k * 2 + 1, none⟩ = some (.float .f64 xf) := x1
    clear hc hrw hyo
    go_wp2_with fail
    go_quiet (fail)
    have HOQ := qh (HO.out.drewN nq)
    have HBQ := qh (HBW.out.drewN' nq)
    go_wp2_with (at_builtin; refine wpList_append_er rfl (.tmp 34) (.tmp 39) rfl W0.heap.size _ _ rfl (HOQ.out.alloc _) wr.heap.size _ ⟨xa, xn, xc, xf, xl⟩ rfl (by rw [World.cell?_alloc_at _ _ _ _ (by rfl)]; rfl) (by rw [World.cell?_alloc_at _ _ _ _ (by rfl)]; rfl) (by have := HL.out; omega) (by have := HBQ.out.size; simp at this ⊢; omega) ?_; intro v6 w6 own6 gb6 hv6; have HO6 := qh own6; have HB6 := qh ((HOQ.out.alloc _).grown (HBQ.out.alloc HBQ.out.size _) gb6 (by have := HBQ.out.size; simp at this ⊢; omega)); clear own6 gb6 hv6)
    go_roundw
    case rel => exact ⟨k + 1, by first | rfl | (congr 1; omega), by omega, by rw [HE.out, ← List.append_assoc]; exact HO6.out, HB6.out⟩
    case measure => simp [intOf]; omega
   ·have hkn : ¬ (k : Int) < (na : Int) := by omega
    have HE : Hid (la.take k = la) := qh (List.take_of_length_le (by omega))
    rw [HE.out] at HO
    clear hrw hkn
    have HOL : Hid (OwnE W0.heap.size wr u10 la) := qh (by have := HO.out; rwa [List.nil_append, List.filter_eq_self.2 (fun _ _ => rfl)] at this)
    clear HO HL
    go_wp2_with fail
    go_loopw [10, 12] (SelRel la (fun e : Er => !meetsK on ns e.ls (la.map Er.ls)) lb W0) (fun _ v _ => nb - (intOf v).toNat)
    case atStart => exact ⟨0, rfl, by omega, by simpa using HOL.out, HBW.out⟩
    case round =>
     obtain ⟨k, rfl, hk, own, bel⟩ := hrel
     have HO := qh own
     have HBW := qh bel
     have HBT := qh (HB.out.trans (bel.mono HB.out.size))
     have hrw := HBR.out.below HBT.out
     have hix := HI.out.below bel HI.out.lt
     have q0 := hix.cell 0
     have q1 := hix.cell 1
     have q2 := hix.cell 2
     have q3 := hix.cell 3
     have q4 := hix.cell 4
     simp at q0 q1 q2 q3 q4
     clear own bel hix
     have HL : Hid ((la ++ (lb.take k).filter (fun e : Er => !meetsK on ns e.ls (la.map Er.ls))).length ≤ na + k) := qh (by
      have h1 : ((lb.take k).filter (fun e : Er => !meetsK on ns e.ls (la.map Er.ls))).length ≤ k := Nat.le_trans (List.length_filter_le ..) (by simp; omega)
      rw [List.length_append]; simp; omega)
     by_cases hlt : k < nb
     ·obtain ⟨bb, off, hab, hbb, hc⟩ := hrw.2.2.2 (by omega)
      subst hab
      obtain ⟨x0, x1⟩ := hc k hlt
      have k1 : (0 : Int) ≤ (k : Int) := by omega
      have k2 : (k : Int) < (nb : Int) := by omega
      have hyo : ErOk wr (erAt lb k) := hrw.2.2.1 _ (by rw [erAt_get (by omega)]; exact List.getElem_mem _)
      have HE := qh (filt_er (fun e : Er => !meetsK on ns e.ls (la.map Er.ls)) lb (by omega : k < lb.length))
      generalize erAt lb k = x at *
      obtain ⟨xa, xn, xc, xf, xl⟩ := x
      dsimp only at x0 x1
      have HWD : Hid (Below wr.heap.size wr wr.drew) := qh ((Below.refl _ wr).drewN' 1)
      have HBD : Hid (Below W0.heap.size W0 wr.drew) := qh (HBW.out.trans (HWD.out.mono HBW.out.size))
      have z0 : wr.drew.cell? ⟨bb, off + k * 2, none⟩ = some (.slice xa xn xc) := x0
      have z1 : wr.drew.cell? ⟨bb, off + k * 2 + 1, none⟩ = some (.float .f64 xf) := x1
      have HMT := qh (meets_any xa xn xc xl a na ca la ⟨given, on, ma, mn, mc, card, ia, im, ic, ns, inc⟩ wr.drew (hyo.1.below HWD.out) (HA.out.below (HBT.out.trans (HWD.out.mono HBT.out.size))) (HM.out.below (HBT.out.trans (HWD.out.mono HBT.out.size))) hyo.2.2)
      dsimp only [Mt.v] at HMT
      dsimp only at HE
      generalize meetsK on ns xl (la.map Er.ls) = d at *
      clear hc hrw hyo
      cases d
      ·go_wp2_with fail
       have s0 : wr.drew.cell? ⟨bb, off + k * 2, none⟩ = some (.slice xa xn xc) ∧ wr.drew.cell? ⟨w.heap.size, 0, none⟩ = some (.bool given) ∧ wr.drew.cell? ⟨w.heap.size, 1, none⟩ = some (.bool on) ∧ wr.drew.cell? ⟨w.heap.size, 2, none⟩ = some (.slice ma mn mc) ∧ wr.drew.cell? ⟨w.heap.size, 3, none⟩ = some (.int .i64 card) ∧ wr.drew.cell? ⟨w.heap.size, 4, none⟩ = some (.slice ia im ic) ∧ Below wr.heap.size wr wr.drew := ⟨x0, q0, q1, q2, q3, q4, HWD.out⟩
       go_region_held3 (fun w' => w'.cell? ⟨bb, off + k * 2, none⟩ = some (.slice xa xn xc) ∧ w'.cell? ⟨w.heap.size, 0, none⟩ = some (.bool given) ∧ w'.cell? ⟨w.heap.size, 1, none⟩ = some (.bool on) ∧ w'.cell? ⟨w.heap.size, 2, none⟩ = some (.slice ma mn mc) ∧ w'.cell? ⟨w.heap.size, 3, none⟩ = some (.int .i64 card) ∧ w'.cell? ⟨w.heap.size, 4, none⟩ = some (.slice ia im ic) ∧ Below wr.heap.size wr w') (first | assumption) (first | (go_at_call 44; refine HMT.out.mono ?_; rintro e w5 ⟨rfl, b5⟩; have s5 := keepS s0 b5))
       have y0 := s5.1
       have y1 := cell_stayL z1 b5
       have HB5 := qh (HBD.out.trans (b5.mono HBD.out.size))
       have HO5 := qh ((HO.out.below HWD.out).below b5)
       clear b5 s0 s5 q0 q1 q2 q3 q4 x0 x1 z0 z1
       go_wp2_with (first | (at_builtin; refine wpList_append_er rfl (.tmp 60) (.tmp 65) rfl W0.heap.size _ _ rfl (HO5.out.alloc _) w5.heap.size _ ⟨xa, xn, xc, xf, xl⟩ rfl (by rw [World.cell?_alloc_at _ _ _ _ (by rfl)]; rfl) (by rw [World.cell?_alloc_at _ _ _ _ (by rfl)]; rfl) (by have := HL.out; omega) (by have := HB5.out.size; simp at this ⊢; omega) ?_; intro v6 w6 own6 gb6 hv6; have HO6 := qh own6; have HB6 := qh ((HO5.out.alloc _).grown (HB5.out.alloc HB5.out.size _) gb6 (by have := HB5.out.size; simp at this ⊢; omega)); clear own6 gb6 hv6))
       go_roundw
       case rel => exact ⟨k + 1, by first | rfl | (congr 1; omega), by omega, by rw [HE.out, ← List.append_assoc]; exact HO6.out, HB6.out⟩
       case measure => simp [intOf]; omega
      ·go_wp2_with fail
       have s0 : wr.drew.cell? ⟨bb, off + k * 2, none⟩ = some (.slice xa xn xc) ∧ wr.drew.cell? ⟨w.heap.size, 0, none⟩ = some (.bool given) ∧ wr.drew.cell? ⟨w.heap.size, 1, none⟩ = some (.bool on) ∧ wr.drew.cell? ⟨w.heap.size, 2, none⟩ = some (.slice ma mn mc) ∧ wr.drew.cell? ⟨w.heap.size, 3, none⟩ = some (.int .i64 card) ∧ wr.drew.cell? ⟨w.heap.size, 4, none⟩ = some (.slice ia im ic) ∧ Below wr.heap.size wr wr.drew := ⟨x0, q0, q1, q2, q3, q4, HWD.out⟩
       go_region_held3 (fun w' => w'.cell? ⟨bb, off + k * 2, none⟩ = some (.slice xa xn xc) ∧ w'.cell? ⟨w.heap.size, 0, none⟩ = some (.bool given) ∧ w'.cell? ⟨w.heap.size, 1, none⟩ = some (.bool on) ∧ w'.cell? ⟨w.heap.size, 2, none⟩ = some (.slice ma mn mc) ∧ w'.cell? ⟨w.heap.size, 3, none⟩ = some (.int .i64 card) ∧ w'.cell? ⟨w.heap.size, 4, none⟩ = some (.slice ia im ic) ∧ Below wr.heap.size wr w') (first | assumption) (first | (go_at_call 44; refine HMT.out.mono ?_; rintro e w5 ⟨rfl, b5⟩; have s5 := keepS s0 b5))
       have y0 := s5.1
       have y1 := cell_stayL z1 b5
       have HB5 := qh (HBD.out.trans (b5.mono HBD.out.size))
       have HO5 := qh ((HO.out.below HWD.out).below b5)
       clear b5 s0 s5 q0 q1 q2 q3 q4 x0 x1 z0 z1
       go_wp2_with (first | (at_builtin; refine wpList_append_er rfl (.tmp 60) (.tmp 65) rfl W0.heap.size _ _ rfl (HO5.out.alloc _) w5.heap.size _ ⟨xa, xn, xc, xf, xl⟩ rfl (by rw [World.cell?_alloc_at _ _ _ _ (by rfl)]; rfl) (by rw [World.cell?_alloc_at _ _ _ _ (by rfl)]; rfl) (by have := HL.out; omega) (by have := HB5.out.size; simp at this ⊢; omega) ?_; intro v6 w6 own6 gb6 hv6; have HO6 := qh own6; have HB6 := qh ((HO5.out.alloc _).grown (HB5.out.alloc HB5.out.size _) gb6 (by have := HB5.out.size; simp at this ⊢; omega)); clear own6 gb6 hv6))
       go_roundw
       case rel => exact ⟨k + 1, by first | rfl | (congr 1; omega), by omega, by rw [HE.out]; simpa using HO5.out, HB5.out⟩
       case measure => simp [intOf]; omega
     ·have hkn : ¬ (k : Int) < (nb : Int) := by omega
      have HE : Hid (lb.take k = lb) := qh (List.take_of_length_le (by omega))
      rw [HE.out] at HO
      clear hrw hkn
      go_wp2_with fail
      obtain ⟨ao, co, hvo, hso, hro⟩ := HO.out.row (fun e he => (by
       rcases List.mem_append.1 he with h | h
       ·exact (HA.out.2.2.1 e h).below HBT.out
       ·exact (HBR.out.2.2.1 e (List.mem_filter.1 h).1).below HBT.out)) (by have := HL.out; rw [HE.out] at this; omega)
      subst hvo
      have HSET := qh (done_any ao _ co _ _ wr hro hso rfl)
      clear hso hro
      go_wp2_with (go_at_call 63; refine HSET.out.mono ?_; rintro e w5 ⟨a5, c5, es5, rfl, h1, h2, h3, h4⟩; have HH := qh (And.intro h1 (And.intro h2 (And.intro h3 h4))); clear h1 h2 h3 h4)
      go_ret2
      obtain ⟨h1, h2, h3, h4⟩ := HH.out
      have hks : (setL u.toList on ns (la.map Er.key) (lb.map Er.key)).map clK = (la ++ lb.filter (fun e : Er => !meetsK on ns e.ls (la.map Er.ls))).map (fun x : Er => clK x.key) := by
       unfold setL
       rw [if_pos hor, ← filter_key, List.map_append, List.map_append, List.map_map, List.map_map]
       simp only [meetsE_er]
       rfl
      rw [hks]
      first | exact ⟨a5, c5, es5, rfl, h1, h2, h3, HBT.out.trans (h4.mono HBT.out.size)⟩ | (rw [List.map_append] at h3 ⊢; exact ⟨a5, c5, es5, rfl, h1, h2, h3, HBT.out.trans (h4.mono HBT.out.size)⟩)
end Go.Proofs.YtmmfjknnbkcniaaGreatDoor
