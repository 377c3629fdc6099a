/- pair.told: the labels of what comes out of a meeting. weirref21.Meet, weirref21.meets. weirref21.meets. -/
import Derived.Test.YtmmfjknnbkcniaaGreatDoorV09
import Derived.Test.YtmmfjknnbkcniaaGreatDoorV30
import Derived.StillTailTactics
set_option maxHeartbeats 64000000
set_option maxRecDepth 100000
namespace Go.Fl
def incL (inc : List ByteArray) (one : List Lb) (ls : List Lb) : List Lb := inc.foldl (fun l nm => withL nm (getL nm one) l) ls
def toldL (on : Bool) (ns inc : List ByteArray) (card : Int) (fil : Bool) (many one : List Lb) : List Lb :=
 if card = 0 then outL ns on (if fil then many else sansL MN many) else incL inc one (if fil then many else sansL MN many)
theorem incL_snoc (inc : List ByteArray) (one ls : List Lb) {k : Nat} (h : k < inc.length) : incL (inc.take (k + 1)) one ls = withL (nsAt inc k) (getL (nsAt inc k) one) (incL (inc.take k) one ls) := by
 unfold incL
 rw [List.take_add_one, List.getElem?_eq_getElem h, List.foldl_append, nsAt_get h]; rfl
end Go.Fl
namespace Go.Proofs.YtmmfjknnbkcniaaGreatDoor
open Go.Fl Go.Rel Go.RowKit Go.Maps Go.WideMaps
set_option linter.unusedSimpArgs false
set_option linter.unusedVariables false
theorem deleteF_own (v : Value) (ls : List Lb) (B : Nat) (m : Mt) (w0 w : World) (hc : Cap w0 B m) (hb : Below w0.heap.size w0 w) (ho : OwnL w0.heap.size w v ls) (hs : SmallL ls) (hn : ls.length ≤ 4398046511104) :
  Calls Tryz.prog 70 #[v, .func (.func 71) #[] #[.pointer (some ⟨B, 0, none⟩)]] w fun e w' => ∃ v', e = .returned v' ∧ OwnL w0.heap.size w' v' (outL m.ns m.on ls) ∧ Below w0.heap.size w0 w' := by
 rcases ho.form with ⟨rfl, rfl⟩ | ⟨g, cap, rfl, _⟩
 ·have HI := qh (indexF_any none 0 0 [] B m w (LRow.nothing _) (hc.below hb))
  have HB := qh hb
  have HI2 := qh (HI.out.mono (R' := fun e w' => e = .returned (.int .i64 (-1)) ∧ Grn w w') fun e w' h => by
   rcases h with ⟨gr, ⟨he, _⟩ | ⟨k, hk, _⟩⟩
   ·exact ⟨he, gr⟩
   ·exact absurd hk (by simp))
  clear hc hb ho hs hn HI
  go_enter Tryz.func70, Tryz.ntmps70
  go_wp2_with (go_at_call 104; refine HI2.out.mono ?_; rintro e w2 ⟨rfl, gr⟩; have GR := qh gr; clear gr)
  go_ret
  exact ⟨_, rfl, ownL_nil _ _, HB.out.trans (GR.out.below.mono HB.out.size)⟩
 ·exact (deleteF_any g ls.length cap ls B m w0 w hc hb ho hs hn).mono fun e w' ⟨k, h1, h2, h3⟩ => ⟨_, h1, h2, h3⟩
def KeepM (x : Er) (w w' : World) (e : Er) : Prop := e = x ∨ ErOwn w.heap.size w' e
theorem KeepM.ok {x : Er} {w w' : World} {e : Er} (h : KeepM x w w' e) (hx : ErOk w x) (hb : Below w.heap.size w w') : ErOk w' e := by
 rcases h with rfl | h
 ·exact hx.below hb
 ·exact h.ok
def ToldRet (x : Er) (on : Bool) (ns inc : List ByteArray) (card : Int) (fil : Bool) (many one : List Lb) (w : World) (e : Ending) (w' : World) : Prop :=
 ∃ a n c, e = .returned (.slice a n c) ∧ KeepM x w w' ⟨a, n, c, 0, toldL on ns inc card fil many one⟩ ∧ Below w.heap.size w w'
def IncRel (x : Er) (inc : List ByteArray) (one ls0 : List Lb) (n0 : Nat) (w : World) (v9 v27 : Value) (wr : World) : Prop :=
 ∃ (k : Nat) (a : Option Addr) (n c : Nat), v27 = .int .i64 (k : Int) ∧ k ≤ inc.length ∧ v9 = .slice a n c ∧ n ≤ n0 + k ∧ KeepM x w wr ⟨a, n, c, 0, incL (inc.take k) one ls0⟩ ∧ Below w.heap.size w wr
theorem keep_new {x : Er} {w wr w' : World} {a : Option Addr} {c : Nat} {ls : List Lb} (h : OwnL wr.heap.size w' (.slice a ls.length c) ls) (hb : w.heap.size ≤ wr.heap.size) (hs : SmallL ls) (hl : ls.length ≤ 4398046511104) : KeepM x w w' ⟨a, ls.length, c, 0, ls⟩ :=
 .inr ⟨h.mono hb, hs, hl, rfl⟩
theorem told_f0 (ma : Option Addr) (mn mc : Nat) (many : List Lb) (oa : Option Addr) (o_n oc : Nat) (one : List Lb) (m : Mt) (w : World) (hm : LRow w ma mn many) (hk : SlK ma mn mc) (ho : LRow w oa o_n one) (hM : MtOk w m) (hb : mn + m.im ≤ 4398046511000) (hcd : m.card = 0) :
  Calls Tryz.prog 49 #[.slice ma mn mc, .slice oa o_n oc, m.v, .bool true] w (ToldRet ⟨ma, mn, mc, 0, many⟩ m.on m.ns m.inc m.card true many one w) := by
 obtain ⟨given, on, la, ln, lc, card, ia, im, ic, ns, inc⟩ := m
 dsimp only [Mt.v] at hb hcd ⊢
 subst hcd
 obtain ⟨W0, hW0⟩ : ∃ W0, W0 = w.alloc (.cells #[.bool given, .bool on, .slice la ln lc, .int .i64 0, .slice ia im ic] 25) := ⟨_, rfl⟩
 have hI0 : Bk.Is W0 w.heap.size #[.bool given, .bool on, .slice la ln lc, .int .i64 0, .slice ia im ic] 25 := by rw [hW0]; exact Bk.Is.made w _ _
 have hB0 : Below w.heap.size w W0 := by rw [hW0]; exact (Below.refl _ _).alloc (Nat.le_refl _) _
 have hC0 : Cap W0 w.heap.size ⟨given, on, la, ln, lc, 0, ia, im, ic, ns, inc⟩ := ⟨hI0.lt, by have := hI0.cell 1; simpa using this, by have := hI0.cell 2; simpa using this, hM.1.below hB0⟩
 have HI := qh hI0
 have HB := qh hB0
 have HC := qh hC0
 have HINC := qh (hM.2)
 have HONE := qh ho
 have HMANY := qh hm
 have HK := qh hk
 have hml := hm.1
 have HXO : Hid (ErOk w ⟨ma, mn, mc, 0, many⟩) := qh ⟨hm, hk, show mn ≤ 4398046511104 by omega⟩
 have hil := hM.2.1
 dsimp only at hil
 have hsm := hm.2.2.1
 have hlw : w.heap.size < W0.heap.size := hI0.lt
 have HLW := qh hlw
 have HSM := qh hsm
 clear hI0 hB0 hC0 hM ho hm hk hsm hlw
 go_enter Tryz.func49, Tryz.ntmps49
 go_wp2_with fail
 rw [← hW0]
 have HQ := HI
 have HCC := HC
 have q1 := HQ.out.cell 1
 have q2 := HQ.out.cell 2
 have q3 := HQ.out.cell 3
 have q4 := HQ.out.cell 4
 simp at q1 q2 q3 q4
 go_wp2_with (first | (go_at_call 37; refine (clone_any ma mn mc many W0 (HMANY.out.below HB.out) HK.out (by omega)).mono ?_; rintro e w2 ⟨v2, rfl, ow2, b2⟩; have HO2 := qh ow2; have HB2 := qh b2; clear ow2 b2) | (go_at_call 70; refine (deleteF_own v2 many w.heap.size _ W0 w2 HCC.out HB2.out HO2.out HSM.out (by omega)).mono ?_; rintro e w3 ⟨v3, rfl, ow3, b3⟩; have HO3 := qh ow3; have HB3 := qh b3; clear ow3 b3))
 go_ret
 obtain ⟨a3, c3, hv3⟩ := HO3.out.slice
 subst hv3
 dsimp only at HO3 ⊢
 have hl3 : (outL ns on many).length ≤ 4398046511104 := Nat.le_trans (outL_len _ _ _) (by omega)
 refine ⟨a3, (outL ns on many).length, c3, rfl, ?_, HB.out.trans (HB3.out.mono HB.out.size)⟩
 have hk := keep_new (x := ⟨ma, mn, mc, 0, many⟩) HO3.out HB.out.size (outL_small ns on HSM.out) hl3
 unfold toldL
 rw [if_pos rfl]
 simpa using hk
theorem told_f1 (ma : Option Addr) (mn mc : Nat) (many : List Lb) (oa : Option Addr) (o_n oc : Nat) (one : List Lb) (m : Mt) (w : World) (hm : LRow w ma mn many) (hk : SlK ma mn mc) (ho : LRow w oa o_n one) (hM : MtOk w m) (hb : mn + m.im ≤ 4398046511000) (hcd : m.card ≠ 0) :
  Calls Tryz.prog 49 #[.slice ma mn mc, .slice oa o_n oc, m.v, .bool true] w (ToldRet ⟨ma, mn, mc, 0, many⟩ m.on m.ns m.inc m.card true many one w) := by
 obtain ⟨given, on, la, ln, lc, card, ia, im, ic, ns, inc⟩ := m
 dsimp only [Mt.v] at hb hcd ⊢
 have hcz : (card == 0) = false := beq_eq_false_iff_ne.2 hcd
 obtain ⟨W0, hW0⟩ : ∃ W0, W0 = w.alloc (.cells #[.bool given, .bool on, .slice la ln lc, .int .i64 card, .slice ia im ic] 25) := ⟨_, rfl⟩
 have hI0 : Bk.Is W0 w.heap.size #[.bool given, .bool on, .slice la ln lc, .int .i64 card, .slice ia im ic] 25 := by rw [hW0]; exact Bk.Is.made w _ _
 have hB0 : Below w.heap.size w W0 := by rw [hW0]; exact (Below.refl _ _).alloc (Nat.le_refl _) _
 have hC0 : Cap W0 w.heap.size ⟨given, on, la, ln, lc, card, ia, im, ic, ns, inc⟩ := ⟨hI0.lt, by have := hI0.cell 1; simpa using this, by have := hI0.cell 2; simpa using this, hM.1.below hB0⟩
 have HI := qh hI0
 have HB := qh hB0
 have HC := qh hC0
 have HINC := qh (hM.2)
 have HONE := qh ho
 have HMANY := qh hm
 have HK := qh hk
 have hml := hm.1
 have HXO : Hid (ErOk w ⟨ma, mn, mc, 0, many⟩) := qh ⟨hm, hk, show mn ≤ 4398046511104 by omega⟩
 have hil := hM.2.1
 dsimp only at hil
 have hsm := hm.2.2.1
 have hlw : w.heap.size < W0.heap.size := hI0.lt
 have HLW := qh hlw
 have HSM := qh hsm
 clear hI0 hB0 hC0 hM ho hm hk hsm hlw
 go_enter Tryz.func49, Tryz.ntmps49
 go_wp2_with fail
 rw [← hW0]
 have HQ := HI
 have HCC := HC
 have q1 := HQ.out.cell 1
 have q2 := HQ.out.cell 2
 have q3 := HQ.out.cell 3
 have q4 := HQ.out.cell 4
 simp at q1 q2 q3 q4
 go_wp2_with fail
 go_loopw [9, 27] (IncRel ⟨ma, mn, mc, 0, many⟩ inc one many mn w) (fun _ v _ => im - (intOf v).toNat)
 case atStart => exact ⟨0, ma, mn, mc, rfl, by omega, rfl, Nat.le_refl _, .inl rfl, HB.out⟩
 case round =>
  obtain ⟨k, xa, xn, xc, rfl, hk, rfl, hxn, hkeep, bel⟩ := hrel
  have HKP := qh hkeep
  have HBW := qh bel
  have hiw := HINC.out.below bel
  clear hkeep bel
  have hnn : mn ≤ mn := Nat.le_refl _
  by_cases hlt : k < im
  ·have dl : decide ((k : Int) < (im : Int)) = true := decide_eq_true (by omega)
   obtain ⟨b, off, rfl, hb0, hc⟩ := hiw.2.2.2 (by omega)
   (try dsimp only at hc)
   have x0 := hc k hlt
   have k1 : (0 : Int) ≤ (k : Int) := by omega
   have k2 : (k : Int) < (im : Int) := by omega
   have HE := qh (incL_snoc inc one many (by omega : k < inc.length))
   have hsn : SmallT (nsAt inc k) := hiw.2.2.1 _ (by rw [nsAt_get (by omega)]; exact List.getElem_mem _)
   have HSN := qh hsn
   generalize nsAt inc k = N at *
   have hok := HKP.out.ok HXO.out HBW.out
   have HG : Hid (∀ W, W = wr → Calls Tryz.prog 73 #[.slice oa o_n oc, .string N] W fun e w' => e = .returned (.string (getL N one)) ∧ Below wr.heap.size wr w') := qh fun W hW => by subst hW; exact get_any oa o_n oc one N W (HONE.out.below HBW.out)
   have HGS := qh (getL_small N HONE.out.2.2.1)
   obtain ⟨V, hV⟩ : ∃ V, V = getL N one := ⟨_, rfl⟩
   rw [← hV] at HE HG HGS
   obtain ⟨L, hL⟩ : ∃ L, L = incL (inc.take k) one many := ⟨_, rfl⟩
   rw [← hL] at HE HKP hok
   have hlen : L.length = xn := hok.1.1
   have HWT : Hid (∀ W, Below wr.heap.size wr W → Calls Tryz.prog 20 #[.slice xa xn xc, .string N, .string V] W (NewL (withL N V L) W)) := qh fun W hW => with_any xa xn xc L N V W (hok.1.below hW) (by omega)
   have HLS := qh (withL_small N V hok.1.2.2.1 HSN.out HGS.out)
   have HLL : Hid ((withL N V L).length ≤ xn + 1) := qh (by have := withL_len N V L; omega)
   clear hc hiw hsn hok hV hL
   go_wp2_with (first | (go_at_call 73; refine (HG.out _ rfl).mono ?_; rintro e w5 ⟨rfl, b5⟩; have HB5 := qh b5; clear b5) | (go_at_call 20; refine (HWT.out _ HB5.out).mono ?_; intro e w6 h6; obtain ⟨a6, c6, rfl, ow6, b6⟩ := h6.own; have HO6 := qh ow6; have HB6 := qh (HB5.out.trans (b6.mono HB5.out.size)); clear ow6 b6 h6))
   go_roundw
   case rel => exact ⟨k + 1, a6, _, c6, by first | rfl | (congr 1; omega), by omega, rfl, by have := HLL.out; omega, by rw [HE.out]; exact keep_new HO6.out (Nat.le_trans HBW.out.size HB5.out.size) HLS.out (by have := HLL.out; omega), HBW.out.trans (HB6.out.mono HBW.out.size)⟩
   case measure => simp [intOf]; omega
  ·have hkn : ¬ (k : Int) < (im : Int) := by omega
   have HE : Hid (incL (inc.take k) one many = toldL on ns inc card true many one) := qh (by
    rw [List.take_of_length_le (by omega)]; unfold toldL; rw [if_neg hcd]; rfl)
   rw [HE.out] at HKP
   clear hiw
   go_wp2_with fail
   go_ret
   exact ⟨xa, xn, xc, rfl, HKP.out, HBW.out⟩
theorem told_n0 (ma : Option Addr) (mn mc : Nat) (many : List Lb) (oa : Option Addr) (o_n oc : Nat) (one : List Lb) (m : Mt) (w : World) (hm : LRow w ma mn many) (hk : SlK ma mn mc) (ho : LRow w oa o_n one) (hM : MtOk w m) (hb : mn + m.im ≤ 4398046511000) (hcd : m.card = 0) :
  Calls Tryz.prog 49 #[.slice ma mn mc, .slice oa o_n oc, m.v, .bool false] w (ToldRet ⟨ma, mn, mc, 0, many⟩ m.on m.ns m.inc m.card false many one w) := by
 obtain ⟨given, on, la, ln, lc, card, ia, im, ic, ns, inc⟩ := m
 dsimp only [Mt.v] at hb hcd ⊢
 subst hcd
 obtain ⟨W0, hW0⟩ : ∃ W0, W0 = w.alloc (.cells #[.bool given, .bool on, .slice la ln lc, .int .i64 0, .slice ia im ic] 25) := ⟨_, rfl⟩
 have hI0 : Bk.Is W0 w.heap.size #[.bool given, .bool on, .slice la ln lc, .int .i64 0, .slice ia im ic] 25 := by rw [hW0]; exact Bk.Is.made w _ _
 have hB0 : Below w.heap.size w W0 := by rw [hW0]; exact (Below.refl _ _).alloc (Nat.le_refl _) _
 have hC0 : Cap W0 w.heap.size ⟨given, on, la, ln, lc, 0, ia, im, ic, ns, inc⟩ := ⟨hI0.lt, by have := hI0.cell 1; simpa using this, by have := hI0.cell 2; simpa using this, hM.1.below hB0⟩
 have HI := qh hI0
 have HB := qh hB0
 have HC := qh hC0
 have HINC := qh (hM.2)
 have HONE := qh ho
 have HMANY := qh hm
 have HK := qh hk
 have hml := hm.1
 have HXO : Hid (ErOk w ⟨ma, mn, mc, 0, many⟩) := qh ⟨hm, hk, show mn ≤ 4398046511104 by omega⟩
 have hil := hM.2.1
 dsimp only at hil
 have hsm := hm.2.2.1
 have hlw : w.heap.size < W0.heap.size := hI0.lt
 have HLW := qh hlw
 have HSM := qh hsm
 have HNL := qh ((nameless_any ma mn mc many W0 (HMANY.out.below HB.out) (by omega)).mono fun e w' h => h.own)
 rw [hW0] at HNL
 clear hI0 hB0 hC0 hM ho hm hk hsm hlw
 go_enter Tryz.func49, Tryz.ntmps49
 go_wp2_with (first | (go_at_call 27; refine HNL.out.mono ?_; rintro e w1 ⟨a', c', rfl, ow, b1⟩; rw [← hW0] at ow b1; have HOW := qh ow; have HB1 := qh (HB.out.trans (b1.mono HB.out.size)); have HQ := qh (HI.out.below b1 HLW.out); have HCC := qh (HC.out.below b1); have q1 := HQ.out.cell 1; have q2 := HQ.out.cell 2; have q3 := HQ.out.cell 3; have q4 := HQ.out.cell 4; simp at q1 q2 q3 q4; clear ow b1) | (go_at_call 37; refine (clone_any a' (sansL MN many).length c' (sansL MN many) w1 (show LRow w1 a' (sansL MN many).length (sansL MN many) from (ErOwn.ok (e := ⟨a', (sansL MN many).length, c', 0, sansL MN many⟩) (B := W0.heap.size) ⟨HOW.out, sansL_small _ HSM.out, Nat.le_trans (sansL_length _ _) (by omega), rfl⟩).1) (show SlK a' (sansL MN many).length c' from (ErOwn.ok (e := ⟨a', (sansL MN many).length, c', 0, sansL MN many⟩) (B := W0.heap.size) ⟨HOW.out, sansL_small _ HSM.out, Nat.le_trans (sansL_length _ _) (by omega), rfl⟩).2.1) ((Nat.le_trans (sansL_length _ _) (by omega)))).mono ?_; rintro e w2 ⟨v2, rfl, ow2, b2⟩; have HO2 := qh ow2; have HB2 := qh b2; clear ow2 b2) | (go_at_call 70; refine (deleteF_own v2 (sansL MN many) w.heap.size _ w1 w2 HCC.out HB2.out HO2.out (sansL_small _ HSM.out) ((Nat.le_trans (sansL_length _ _) (by omega)))).mono ?_; rintro e w3 ⟨v3, rfl, ow3, b3⟩; have HO3 := qh ow3; have HB3 := qh b3; clear ow3 b3))
 go_ret
 obtain ⟨a3, c3, hv3⟩ := HO3.out.slice
 subst hv3
 dsimp only at HO3 ⊢
 have hl3 : (outL ns on (sansL MN many)).length ≤ 4398046511104 := Nat.le_trans (outL_len _ _ _) ((Nat.le_trans (sansL_length _ _) (by omega)))
 refine ⟨a3, (outL ns on (sansL MN many)).length, c3, rfl, ?_, HB1.out.trans (HB3.out.mono HB1.out.size)⟩
 have hk := keep_new (x := ⟨ma, mn, mc, 0, many⟩) HO3.out HB1.out.size (outL_small ns on (sansL_small _ HSM.out)) hl3
 unfold toldL
 rw [if_pos rfl]
 simpa using hk
theorem told_n1 (ma : Option Addr) (mn mc : Nat) (many : List Lb) (oa : Option Addr) (o_n oc : Nat) (one : List Lb) (m : Mt) (w : World) (hm : LRow w ma mn many) (hk : SlK ma mn mc) (ho : LRow w oa o_n one) (hM : MtOk w m) (hb : mn + m.im ≤ 4398046511000) (hcd : m.card ≠ 0) :
  Calls Tryz.prog 49 #[.slice ma mn mc, .slice oa o_n oc, m.v, .bool false] w (ToldRet ⟨ma, mn, mc, 0, many⟩ m.on m.ns m.inc m.card false many one w) := by
 obtain ⟨given, on, la, ln, lc, card, ia, im, ic, ns, inc⟩ := m
 dsimp only [Mt.v] at hb hcd ⊢
 have hcz : (card == 0) = false := beq_eq_false_iff_ne.2 hcd
 obtain ⟨W0, hW0⟩ : ∃ W0, W0 = w.alloc (.cells #[.bool given, .bool on, .slice la ln lc, .int .i64 card, .slice ia im ic] 25) := ⟨_, rfl⟩
 have hI0 : Bk.Is W0 w.heap.size #[.bool given, .bool on, .slice la ln lc, .int .i64 card, .slice ia im ic] 25 := by rw [hW0]; exact Bk.Is.made w _ _
 have hB0 : Below w.heap.size w W0 := by rw [hW0]; exact (Below.refl _ _).alloc (Nat.le_refl _) _
 have hC0 : Cap W0 w.heap.size ⟨given, on, la, ln, lc, card, ia, im, ic, ns, inc⟩ := ⟨hI0.lt, by have := hI0.cell 1; simpa using this, by have := hI0.cell 2; simpa using this, hM.1.below hB0⟩
 have HI := qh hI0
 have HB := qh hB0
 have HC := qh hC0
 have HINC := qh (hM.2)
 have HONE := qh ho
 have HMANY := qh hm
 have HK := qh hk
 have hml := hm.1
 have HXO : Hid (ErOk w ⟨ma, mn, mc, 0, many⟩) := qh ⟨hm, hk, show mn ≤ 4398046511104 by omega⟩
 have hil := hM.2.1
 dsimp only at hil
 have hsm := hm.2.2.1
 have hlw : w.heap.size < W0.heap.size := hI0.lt
 have HLW := qh hlw
 have HSM := qh hsm
 have HNL := qh ((nameless_any ma mn mc many W0 (HMANY.out.below HB.out) (by omega)).mono fun e w' h => h.own)
 rw [hW0] at HNL
 clear hI0 hB0 hC0 hM ho hm hk hsm hlw
 go_enter Tryz.func49, Tryz.ntmps49
 go_wp2_with (first | (go_at_call 27; refine HNL.out.mono ?_; rintro e w1 ⟨a', c', rfl, ow, b1⟩; rw [← hW0] at ow b1; have HOW := qh ow; have HB1 := qh (HB.out.trans (b1.mono HB.out.size)); have HQ := qh (HI.out.below b1 HLW.out); have HCC := qh (HC.out.below b1); have q1 := HQ.out.cell 1; have q2 := HQ.out.cell 2; have q3 := HQ.out.cell 3; have q4 := HQ.out.cell 4; simp at q1 q2 q3 q4; clear ow b1))
 go_loopw [9, 27] (IncRel ⟨ma, mn, mc, 0, many⟩ inc one (sansL MN many) (sansL MN many).length w) (fun _ v _ => im - (intOf v).toNat)
 case atStart => exact ⟨0, a', (sansL MN many).length, c', rfl, by omega, rfl, Nat.le_refl _, keep_new HOW.out HB.out.size (sansL_small _ HSM.out) ((Nat.le_trans (sansL_length _ _) (by omega))), HB1.out⟩
 case round =>
  obtain ⟨k, xa, xn, xc, rfl, hk, rfl, hxn, hkeep, bel⟩ := hrel
  have HKP := qh hkeep
  have HBW := qh bel
  have hiw := HINC.out.below bel
  clear hkeep bel
  have hnn : (sansL MN many).length ≤ mn := Nat.le_trans (sansL_length _ _) (by omega)
  by_cases hlt : k < im
  ·have dl : decide ((k : Int) < (im : Int)) = true := decide_eq_true (by omega)
   obtain ⟨b, off, rfl, hb0, hc⟩ := hiw.2.2.2 (by omega)
   (try dsimp only at hc)
   have x0 := hc k hlt
   have k1 : (0 : Int) ≤ (k : Int) := by omega
   have k2 : (k : Int) < (im : Int) := by omega
   have HE := qh (incL_snoc inc one (sansL MN many) (by omega : k < inc.length))
   have hsn : SmallT (nsAt inc k) := hiw.2.2.1 _ (by rw [nsAt_get (by omega)]; exact List.getElem_mem _)
   have HSN := qh hsn
   generalize nsAt inc k = N at *
   have hok := HKP.out.ok HXO.out HBW.out
   have HG : Hid (∀ W, W = wr → Calls Tryz.prog 73 #[.slice oa o_n oc, .string N] W fun e w' => e = .returned (.string (getL N one)) ∧ Below wr.heap.size wr w') := qh fun W hW => by subst hW; exact get_any oa o_n oc one N W (HONE.out.below HBW.out)
   have HGS := qh (getL_small N HONE.out.2.2.1)
   obtain ⟨V, hV⟩ : ∃ V, V = getL N one := ⟨_, rfl⟩
   rw [← hV] at HE HG HGS
   obtain ⟨L, hL⟩ : ∃ L, L = incL (inc.take k) one (sansL MN many) := ⟨_, rfl⟩
   rw [← hL] at HE HKP hok
   have hlen : L.length = xn := hok.1.1
   have HWT : Hid (∀ W, Below wr.heap.size wr W → Calls Tryz.prog 20 #[.slice xa xn xc, .string N, .string V] W (NewL (withL N V L) W)) := qh fun W hW => with_any xa xn xc L N V W (hok.1.below hW) (by omega)
   have HLS := qh (withL_small N V hok.1.2.2.1 HSN.out HGS.out)
   have HLL : Hid ((withL N V L).length ≤ xn + 1) := qh (by have := withL_len N V L; omega)
   clear hc hiw hsn hok hV hL
   go_wp2_with (first | (go_at_call 73; refine (HG.out _ rfl).mono ?_; rintro e w5 ⟨rfl, b5⟩; have HB5 := qh b5; clear b5) | (go_at_call 20; refine (HWT.out _ HB5.out).mono ?_; intro e w6 h6; obtain ⟨a6, c6, rfl, ow6, b6⟩ := h6.own; have HO6 := qh ow6; have HB6 := qh (HB5.out.trans (b6.mono HB5.out.size)); clear ow6 b6 h6))
   go_roundw
   case rel => exact ⟨k + 1, a6, _, c6, by first | rfl | (congr 1; omega), by omega, rfl, by have := HLL.out; omega, by rw [HE.out]; exact keep_new HO6.out (Nat.le_trans HBW.out.size HB5.out.size) HLS.out (by have := HLL.out; omega), HBW.out.trans (HB6.out.mono HBW.out.size)⟩
   case measure => simp [intOf]; omega
  ·have hkn : ¬ (k : Int) < (im : Int) := by omega
   have HE : Hid (incL (inc.take k) one (sansL MN many) = toldL on ns inc card false many one) := qh (by
    rw [List.take_of_length_le (by omega)]; unfold toldL; rw [if_neg hcd]; rfl)
   rw [HE.out] at HKP
   clear hiw
   go_wp2_with fail
   go_ret
   exact ⟨xa, xn, xc, rfl, HKP.out, HBW.out⟩
theorem told_any (ma : Option Addr) (mn mc : Nat) (many : List Lb) (oa : Option Addr) (o_n oc : Nat) (one : List Lb) (m : Mt) (fil : Bool) (w : World) (hm : LRow w ma mn many) (hk : SlK ma mn mc) (ho : LRow w oa o_n one) (hM : MtOk w m) (hb : mn + m.im ≤ 4398046511000) :
  Calls Tryz.prog 49 #[.slice ma mn mc, .slice oa o_n oc, m.v, .bool fil] w (ToldRet ⟨ma, mn, mc, 0, many⟩ m.on m.ns m.inc m.card fil many one w) := by
 by_cases hc : m.card = 0
 ·cases fil
  ·exact told_n0 ma mn mc many oa o_n oc one m w hm hk ho hM hb hc
  ·exact told_f0 ma mn mc many oa o_n oc one m w hm hk ho hM hb hc
 ·cases fil
  ·exact told_n1 ma mn mc many oa o_n oc one m w hm hk ho hM hb hc
  ·exact told_f1 ma mn mc many oa o_n oc one m w hm hk ho hM hb hc
end Go.Proofs.YtmmfjknnbkcniaaGreatDoor
namespace Go.Proofs.YtmmfjknnbkcniaaGreatDoor
open Go.Fl Go.Rel Go.RowKit Go.Maps Go.WideMaps
set_option linter.unusedSimpArgs false
set_option linter.unusedVariables false
def meetL (on : Bool) (ns : List ByteArray) (a b : List Lb) : Bool := decide (lcmp (keepL ns (!on) a) (keepL ns (!on) b) = 0)
theorem keepL_small (ns : List ByteArray) (wo : Bool) {ls : List Lb} (h : SmallL ls) : SmallL (keepL ns wo ls) := small_sub h fun _ hl => (List.mem_filter.1 hl).1
theorem keepL_len (ns : List ByteArray) (wo : Bool) (ls : List Lb) : (keepL ns wo ls).length ≤ ls.length := List.length_filter_le ..
theorem newRow {ls : List Lb} {B : Nat} {w : World} {a : Option Addr} {c : Nat} (h : OwnL B w (.slice a ls.length c) ls) (hs : SmallL ls) (hl : ls.length ≤ 4398046511104) : LRow w a ls.length ls ∧ SlK a ls.length c :=
 let h2 := ErOwn.ok (e := ⟨a, ls.length, c, 0, ls⟩) (B := B) ⟨h, hs, hl, rfl⟩
 ⟨h2.1, h2.2.1⟩
theorem meet_any (a b : Option Addr) (na ca nb cb : Nat) (la lb : List Lb) (m : Mt) (w : World) (ha : LRow w a na la) (hb : LRow w b nb lb) (hM : MtOk w m) (hna : na ≤ 4398046511104) (hnb : nb ≤ 4398046511104) :
  Calls Tryz.prog 45 #[.slice a na ca, .slice b nb cb, m.v] w fun e w' => e = .returned (.bool (meetL m.on m.ns la lb)) ∧ Below w.heap.size w w' := by
 obtain ⟨given, on, ma, mn, mc, card, ia, im, ic, ns, inc⟩ := m
 dsimp only [Mt.v]
 obtain ⟨W0, hW0⟩ : ∃ W0, W0 = w.alloc (.cells #[.bool given, .bool on, .slice ma mn mc, .int .i64 card, .slice ia im ic] 25) := ⟨_, rfl⟩
 have hI0 : Bk.Is W0 w.heap.size #[.bool given, .bool on, .slice ma mn mc, .int .i64 card, .slice ia im ic] 25 := by rw [hW0]; exact Bk.Is.made w _ _
 have hB0 : Below w.heap.size w W0 := by rw [hW0]; exact (Below.refl _ _).alloc (Nat.le_refl _) _
 have HB := qh hB0
 have s0 : W0.drew.cell? ⟨w.heap.size, 1, none⟩ = some (.bool on) ∧ W0.drew.cell? ⟨w.heap.size, 2, none⟩ = some (.slice ma mn mc) ∧ Below W0.heap.size W0 W0.drew := ⟨by have := hI0.cell 1; simpa using this, by have := hI0.cell 2; simpa using this, (Below.refl _ _).drewN' 1⟩
 have hsa := ha.2.2.1
 have hsb := hb.2.2.1
 have HKA : Hid (∀ W, Below W0.heap.size W0 W → Calls Tryz.prog 64 #[.slice a na ca, .slice ma mn mc, .bool (!on)] W fun e w' => ∃ a2 c2, e = .returned (.slice a2 (keepL ns (!on) la).length c2) ∧ LRow w' a2 (keepL ns (!on) la).length (keepL ns (!on) la) ∧ Below W.heap.size W w') := qh fun W hW =>
  (rkeep_any a na ca la ma mn mc ns (!on) W ((ha.below hB0).below hW) ((hM.1.below hB0).below hW) hna).mono fun e w' h => by
   obtain ⟨a2, c2, h1, h2, h3⟩ := h.own
   exact ⟨a2, c2, h1, (newRow h2 (keepL_small _ _ hsa) (by have := keepL_len ns (!on) la; have := ha.1; omega)).1, h3⟩
 have HKB : Hid (∀ W, Below W0.heap.size W0 W → Calls Tryz.prog 64 #[.slice b nb cb, .slice ma mn mc, .bool (!on)] W fun e w' => ∃ a2 c2, e = .returned (.slice a2 (keepL ns (!on) lb).length c2) ∧ LRow w' a2 (keepL ns (!on) lb).length (keepL ns (!on) lb) ∧ Below W.heap.size W w') := qh fun W hW =>
  (rkeep_any b nb cb lb ma mn mc ns (!on) W ((hb.below hB0).below hW) ((hM.1.below hB0).below hW) hnb).mono fun e w' h => by
   obtain ⟨a2, c2, h1, h2, h3⟩ := h.own
   exact ⟨a2, c2, h1, (newRow h2 (keepL_small _ _ hsb) (by have := keepL_len ns (!on) lb; have := hb.1; omega)).1, h3⟩
 have HMT : Hid (meetL on ns la lb = (lcmp (keepL ns (!on) la) (keepL ns (!on) lb) == 0)) := qh (by unfold meetL; rfl)
 have HBZ := qh hI0.lt
 clear hsa hsb hI0 hB0 ha hb hM hna hnb
 generalize hKA : keepL ns (!on) la = KA at *
 generalize hKB : keepL ns (!on) lb = KB at *
 clear hKA hKB
 go_enter Tryz.func45, Tryz.ntmps45
 go_wp2_with fail
 rw [← hW0]
 clear hW0
 go_region_held3 (fun w' => w'.cell? ⟨w.heap.size, 1, none⟩ = some (.bool on) ∧ w'.cell? ⟨w.heap.size, 2, none⟩ = some (.slice ma mn mc) ∧ Below W0.heap.size W0 w') (first | assumption) (first | (go_at_call 64; (with_reducible refine (HKA.out _ ?hbel).mono ?_); (case hbel => first | exact s0.2.2 | exact sB.2.2); rintro e wA ⟨a2, c2, rfl, rowA, bA⟩; have sA := by first | exact keepE s0 bA | exact keepE sB bA) | (go_at_call 64; (with_reducible refine (HKB.out _ ?hbel).mono ?_); (case hbel => first | exact sA.2.2 | exact s0.2.2); rintro e wB ⟨b2, d2, rfl, rowB, bB⟩; have sB := by first | exact keepE sA bB | exact keepE s0 bB) | (go_at_call 62; (first | (with_reducible refine (rlcompare_any _ _ _ _ _ _ KA KB _ (rowA.below bB) rowB).mono ?_) | (with_reducible refine (rlcompare_any _ _ _ _ _ _ KA KB _ rowA (rowB.below bA)).mono ?_)); rintro e wC ⟨rfl, gr⟩; have sC := by first | exact keepE sB gr.below | exact keepE sA gr.below))
 all_goals
  have HSC := qh sC
  clear sC s0 sA sB rowA rowB bA bB gr
  go_wp2_with fail
  go_ret
  exact ⟨by rw [HMT.out]; rfl, HB.out.trans (HSC.out.2.2.mono HB.out.size)⟩
end Go.Proofs.YtmmfjknnbkcniaaGreatDoor
namespace Go.Proofs.YtmmfjknnbkcniaaGreatDoor
open Go.Fl Go.Rel Go.RowKit Go.Maps Go.WideMaps
set_option linter.unusedSimpArgs false
set_option linter.unusedVariables false
def meetsK (on : Bool) (ns : List ByteArray) (a : List Lb) (ks : List (List Lb)) : Bool := ks.any fun b => meetL on ns a b
theorem meets_take {on : Bool} {ns : List ByteArray} {a : List Lb} {es : List Er} {k : Nat} (h : k < es.length) : meetsK on ns a ((es.take (k + 1)).map Er.ls) = (meetsK on ns a ((es.take k).map Er.ls) || meetL on ns a (erAt es k).ls) := by
 unfold meetsK
 rw [List.take_add_one, List.getElem?_eq_getElem h, List.map_append, List.any_append, erAt_get h]
 simp
theorem meets_yes {on : Bool} {ns : List ByteArray} {a : List Lb} {es : List Er} {k : Nat} (h : k < es.length) (he : meetL on ns a (erAt es k).ls = true) : meetsK on ns a (es.map Er.ls) = true := by
 unfold meetsK
 rw [List.any_eq_true]
 exact ⟨(es[k]).ls, List.mem_map_of_mem (List.getElem_mem _), by rw [← erAt_get h]; exact he⟩
def MeetsRel (m : Mt) (a : List Lb) (es : List Er) (w : World) (v7 : Value) (wr : World) : Prop :=
 ∃ k : Nat, v7 = .int .i64 (k : Int) ∧ k ≤ es.length ∧ meetsK m.on m.ns a ((es.take k).map Er.ls) = false ∧ Below (w.heap.size + 1) (w.alloc (.cells #[.bool m.given, .bool m.on, .slice m.la m.ln m.lc, .int .i64 m.card, .slice m.ia m.im m.ic] 25)) wr
theorem meets_any (a : Option Addr) (na ca : Nat) (la : List Lb) (b : Option Addr) (nb cb : Nat) (es : List Er) (m : Mt) (w : World) (ha : LRow w a na la) (hb : ERow w b nb es) (hM : MtOk w m) (hna : na ≤ 4398046511104) :
  Calls Tryz.prog 44 #[.slice a na ca, .slice b nb cb, m.v] w fun e w' => e = .returned (.bool (meetsK m.on m.ns la (es.map Er.ls))) ∧ Below w.heap.size w w' := by
 have HA := qh ha
 have HE := qh hb
 have HM := qh hM
 have hln := hb.1
 have n0 : (0 : Int) ≤ (nb : Int) := by omega
 have n1 : (nb : Int) ≤ 4398046511104 := by have := hb.2.1; omega
 obtain ⟨given, on, ma, mn, mc, card, ia, im, ic, ns, inc⟩ := m
 dsimp only [Mt.v]
 obtain ⟨W0, hW0⟩ : ∃ W0, W0 = w.alloc (.cells #[.bool given, .bool on, .slice ma mn mc, .int .i64 card, .slice ia im ic] 25) := ⟨_, rfl⟩
 have hI0 : Bk.Is W0 w.heap.size #[.bool given, .bool on, .slice ma mn mc, .int .i64 card, .slice ia im ic] 25 := by rw [hW0]; exact Bk.Is.made w _ _
 have hB0 : Below w.heap.size w W0 := by rw [hW0]; exact (Below.refl _ _).alloc (Nat.le_refl _) _
 have hs0 : W0.heap.size = w.heap.size + 1 := by rw [hW0]; simp
 have HI := qh hI0
 have HB := qh hB0
 have HS0 := qh hs0
 have HW0 := qh hW0
 clear ha hb hM hI0 hB0 hs0 hW0
 go_enter Tryz.func44, Tryz.ntmps44
 go_wp2_with fail
 go_loopw [7] (MeetsRel ⟨given, on, ma, mn, mc, card, ia, im, ic, ns, inc⟩ la es w) (fun v _ => nb - (intOf v).toNat)
 case atStart => exact ⟨0, rfl, by omega, rfl, Below.refl _ _⟩
 case round =>
  obtain ⟨k, rfl, hk, hno, bel⟩ := hrel
  dsimp only at hno bel
  rw [← HW0.out, ← HS0.out] at bel
  have HNO := qh hno
  have HBW := qh bel
  have HBT := qh (HB.out.trans (bel.mono HB.out.size))
  have hrw := HE.out.below HBT.out
  have hix := HI.out.below bel HI.out.lt
  have q0 := hix.cell 0
  have q1 := hix.cell 1
  have q2 := hix.cell 2
  have q3 := hix.cell 3
  have q4 := hix.cell 4
  simp at q0 q1 q2 q3 q4
  clear hno bel hix
  by_cases hlt : k < nb
  ·have dl : decide ((k : Int) < (nb : Int)) = true := decide_eq_true (by omega)
   obtain ⟨bb, off, rfl, hbb, hc⟩ := hrw.2.2.2 (by omega)
   obtain ⟨x0, x1⟩ := hc k hlt
   have k1 : (0 : Int) ≤ (k : Int) := by omega
   have k2 : (k : Int) < (nb : Int) := by omega
   have hyo : ErOk wr (erAt es k) := hrw.2.2.1 _ (by rw [erAt_get (by omega)]; exact List.getElem_mem _)
   have HT := qh (meets_take (on := on) (ns := ns) (a := la) (by omega : k < es.length))
   have HY := qh (fun h => meets_yes (on := on) (ns := ns) (a := la) (by omega : k < es.length) h)
   rw [HNO.out, Bool.false_or] at HT
   generalize erAt es k = x at *
   obtain ⟨xa, xn, xc, xf, xl⟩ := x
   dsimp only at x0 x1 HT HY
   have HMT := qh (meet_any a xa na ca xn xc la xl ⟨given, on, ma, mn, mc, card, ia, im, ic, ns, inc⟩ wr.drew ((HA.out.below HBT.out).below ((Below.refl _ wr).drewN' 1)) (hyo.1.below ((Below.refl _ wr).drewN' 1)) ((HM.out.below HBT.out).below ((Below.refl _ wr).drewN' 1)) hna hyo.2.2)
   dsimp only [Mt.v] at HMT
   have HWD : Hid (Below wr.heap.size wr wr.drew) := qh ((Below.refl _ wr).drewN' 1)
   generalize meetL on ns la xl = d at *
   clear hc hrw hyo
   cases d
   ·go_wp2_with fail
    go_still_tail 7, (by kernel_rfl)
    change wpList _ _ _ _ _ wr.drew
    go_wp2_with (go_at_call 45; refine HMT.out.mono ?_; rintro e w5 ⟨rfl, b5⟩; have HB5 := qh (HWD.out.trans b5); clear b5)
    go_roundw
    case rel => exact ⟨k + 1, by first | rfl | (congr 1; omega), by omega, HT.out, by dsimp only; rw [← HW0.out, ← HS0.out]; exact HBW.out.trans (HB5.out.mono HBW.out.size)⟩
    case measure => simp [intOf]; omega
   ·go_wp2_with fail
    go_still_tail 7, (by kernel_rfl)
    change wpList _ _ _ _ _ wr.drew
    go_wp2_with (go_at_call 45; refine HMT.out.mono ?_; rintro e w5 ⟨rfl, b5⟩; have HB5 := qh (HWD.out.trans b5); clear b5)
    go_ret
    exact ⟨by rw [HY.out (by first | rfl | trivial)]; rfl, HBT.out.trans (HB5.out.mono HBT.out.size)⟩
  ·have hkn : ¬ (k : Int) < (nb : Int) := by omega
   have HX : Hid (meetsK on ns la (es.map Er.ls) = false) := qh (by have := HNO.out; rwa [List.take_of_length_le (by omega)] at this)
   clear hrw
   go_wp2_with fail
   go_ret
   exact ⟨by rw [HX.out]; rfl, HBT.out⟩
end Go.Proofs.YtmmfjknnbkcniaaGreatDoor
