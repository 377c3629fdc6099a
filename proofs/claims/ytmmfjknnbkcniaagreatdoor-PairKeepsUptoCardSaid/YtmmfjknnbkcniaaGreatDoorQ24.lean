/- pair.told: the labels of what comes out of a meeting. weirref21.Meet, weirref21.meets. weirref21.meets. weirref21.labels; weirref21.Kind and pair.set of the set operators. weirref21.sets. Keys are equal just where what stays is equal; who meets whom, counted. What the meetings give: the plain words of it. What counts say of keys. (Printed by tools/genjoin.py.) -/
import Derived.Test.YtmmfjknnbkcniaaGreatDoorQ21
import Derived.Test.YtmmfjknnbkcniaaGreatDoorQ23
import Derived.StillTailTactics
namespace Go.Fl
/-- The labels that Include brings in, one after the other. -/
def incL (inc : List ByteArray) (one : List Lb) (ls : List Lb) : List Lb := inc.foldl (fun l nm => withL nm (getL nm one) l) ls
/-- The labels of what comes out of a meeting. -/
def toldL (on : Bool) (ns inc : List ByteArray) (card : Int) (fil : Bool) (many one : List Lb) : List Lb :=
  if card = 0 then outL ns on (if fil then many else sansL MN many) else incL inc one (if fil then many else sansL MN many)
theorem incL_snoc (inc : List ByteArray) (one ls : List Lb) {k : Nat} (h : k < inc.length) : incL (inc.take (k + 1)) one ls = withL (nsAt inc k) (getL (nsAt inc k) one) (incL (inc.take k) one ls) := by
  unfold incL
  rw [List.take_add_one, List.getElem?_eq_getElem h, List.foldl_append, nsAt_get h]; rfl
end Go.Fl
namespace Go.Proofs.YtmmfjknnbkcniaaGreatDoor
open Go.Fl Go.Rel Go.RowKit Go.Maps Go.WideMaps
set_option linter.unusedSimpArgs false
set_option linter.unusedVariables false

theorem deleteF_own (v : Value) (ls : List Lb) (B : Nat) (m : Mt) (w0 w : World) (hc : Cap w0 B m) (hb : Below w0.heap.size w0 w) (ho : OwnL w0.heap.size w v ls) (hs : SmallL ls) (hn : ls.length ≤ 4398046511104) :
    Calls Tryz.prog 70 #[v, .func (.func 71) #[] #[.pointer (some ⟨B, 0, none⟩)]] w fun e w' => ∃ v', e = .returned v' ∧ OwnL w0.heap.size w' v' (outL m.ns m.on ls) ∧ Below w0.heap.size w0 w' := by
  rcases ho.form with ⟨rfl, rfl⟩ | ⟨g, cap, rfl, _⟩
  · have HI := Lib.hid (indexF_any none 0 0 [] B m w (LRow.nothing _) (hc.below hb))
    have HB := Lib.hid hb
    have HI2 := Lib.hid (HI.out.mono (R' := fun e w' => e = .returned (.int .i64 (-1)) ∧ Grn w w') fun e w' h => by
      rcases h with ⟨gr, ⟨he, _⟩ | ⟨k, hk, _⟩⟩
      · exact ⟨he, gr⟩
      · exact absurd hk (by simp))
    clear hc hb ho hs hn HI
    go_enter Tryz.func70, Tryz.ntmps70
    go_wp2_with (go_at_call 104; refine HI2.out.mono ?_; rintro e w2 ⟨rfl, gr⟩; have GR := Lib.hid gr; clear gr)
    go_ret
    exact ⟨_, rfl, ownL_nil _ _, HB.out.trans (GR.out.below.mono HB.out.size)⟩
  · exact (deleteF_any g ls.length cap ls B m w0 w hc hb ho hs hn).mono fun e w' ⟨k, h1, h2, h3⟩ => ⟨_, h1, h2, h3⟩

/-- The element as it was, or one of the call's own. -/
def KeepM (x : Er) (w w' : World) (e : Er) : Prop := e = x ∨ ErOwn w.heap.size w' e
theorem KeepM.ok {x : Er} {w w' : World} {e : Er} (h : KeepM x w w' e) (hx : ErOk w x) (hb : Below w.heap.size w w') : ErOk w' e := by
  rcases h with rfl | h
  · exact hx.below hb
  · exact h.ok
def ToldRet (x : Er) (on : Bool) (ns inc : List ByteArray) (card : Int) (fil : Bool) (many one : List Lb) (w : World) (e : Ending) (w' : World) : Prop :=
  ∃ a n c, e = .returned (.slice a n c) ∧ KeepM x w w' ⟨a, n, c, 0, toldL on ns inc card fil many one⟩ ∧ Below w.heap.size w w'
def IncRel (x : Er) (inc : List ByteArray) (one ls0 : List Lb) (n0 : Nat) (w : World) (v9 v27 : Value) (wr : World) : Prop :=
  ∃ (k : Nat) (a : Option Addr) (n c : Nat), v27 = .int .i64 (k : Int) ∧ k ≤ inc.length ∧ v9 = .slice a n c ∧ n ≤ n0 + k ∧ KeepM x w wr ⟨a, n, c, 0, incL (inc.take k) one ls0⟩ ∧ Below w.heap.size w wr
theorem keep_new {x : Er} {w wr w' : World} {a : Option Addr} {c : Nat} {ls : List Lb} (h : OwnL wr.heap.size w' (.slice a ls.length c) ls) (hb : w.heap.size ≤ wr.heap.size) (hs : SmallL ls) (hl : ls.length ≤ 4398046511104) : KeepM x w w' ⟨a, ls.length, c, 0, ls⟩ :=
  .inr ⟨h.mono hb, hs, hl, rfl⟩

set_option maxHeartbeats 8000000 in
set_option maxRecDepth 100000 in
theorem told_f0 (ma : Option Addr) (mn mc : Nat) (many : List Lb) (oa : Option Addr) (o_n oc : Nat) (one : List Lb) (m : Mt) (w : World) (hm : LRow w ma mn many) (hk : SlK ma mn mc) (ho : LRow w oa o_n one) (hM : MtOk w m) (hb : mn + m.im ≤ 4398046511000) (hcd : m.card = 0) :
    Calls Tryz.prog 49 #[.slice ma mn mc, .slice oa o_n oc, m.v, .bool true] w (ToldRet ⟨ma, mn, mc, 0, many⟩ m.on m.ns m.inc m.card true many one w) := by
  obtain ⟨given, on, la, ln, lc, card, ia, im, ic, ns, inc⟩ := m
  dsimp only [Mt.v] at hb hcd ⊢
  subst hcd
  obtain ⟨W0, hW0⟩ : ∃ W0, W0 = w.alloc (.cells #[.bool given, .bool on, .slice la ln lc, .int .i64 0, .slice ia im ic] 25) := ⟨_, rfl⟩
  have hI0 : Bk.Is W0 w.heap.size #[.bool given, .bool on, .slice la ln lc, .int .i64 0, .slice ia im ic] 25 := by rw [hW0]; exact Bk.Is.made w _ _
  have hB0 : Below w.heap.size w W0 := by rw [hW0]; exact (Below.refl _ _).alloc (Nat.le_refl _) _
  have hC0 : Cap W0 w.heap.size ⟨given, on, la, ln, lc, 0, ia, im, ic, ns, inc⟩ := ⟨hI0.lt, by have := hI0.cell 1; simpa using this, by have := hI0.cell 2; simpa using this, hM.1.below hB0⟩
  have HI := Lib.hid hI0
  have HB := Lib.hid hB0
  have HC := Lib.hid hC0
  have HINC := Lib.hid (hM.2)
  have HONE := Lib.hid ho
  have HMANY := Lib.hid hm
  have HK := Lib.hid hk
  have hml := hm.1
  have HXO : Hid (ErOk w ⟨ma, mn, mc, 0, many⟩) := Lib.hid ⟨hm, hk, show mn ≤ 4398046511104 by omega⟩
  have hil := hM.2.1
  dsimp only at hil
  have hsm := hm.2.2.1
  have hlw : w.heap.size < W0.heap.size := hI0.lt
  have HLW := Lib.hid hlw
  have HSM := Lib.hid hsm
  clear hI0 hB0 hC0 hM ho hm hk hsm hlw
  go_enter Tryz.func49, Tryz.ntmps49
  go_wp2_with fail
  rw [← hW0]
  have HQ := HI
  have HCC := HC
  have q1 := HQ.out.cell 1
  have q2 := HQ.out.cell 2
  have q3 := HQ.out.cell 3
  have q4 := HQ.out.cell 4
  simp at q1 q2 q3 q4
  go_wp2_with (first | (go_at_call 37; refine (clone_any ma mn mc many W0 (HMANY.out.below HB.out) HK.out (by omega)).mono ?_; rintro e w2 ⟨v2, rfl, ow2, b2⟩; have HO2 := Lib.hid ow2; have HB2 := Lib.hid b2; clear ow2 b2) | (go_at_call 70; refine (deleteF_own v2 many w.heap.size _ W0 w2 HCC.out HB2.out HO2.out HSM.out (by omega)).mono ?_; rintro e w3 ⟨v3, rfl, ow3, b3⟩; have HO3 := Lib.hid ow3; have HB3 := Lib.hid b3; clear ow3 b3))
  go_ret
  obtain ⟨a3, c3, hv3⟩ := HO3.out.slice
  subst hv3
  dsimp only at HO3 ⊢
  have hl3 : (outL ns on many).length ≤ 4398046511104 := Nat.le_trans (outL_len _ _ _) (by omega)
  refine ⟨a3, (outL ns on many).length, c3, rfl, ?_, HB.out.trans (HB3.out.mono HB.out.size)⟩
  have hk := keep_new (x := ⟨ma, mn, mc, 0, many⟩) HO3.out HB.out.size (outL_small ns on HSM.out) hl3
  unfold toldL
  rw [if_pos rfl]
  simpa using hk

set_option maxHeartbeats 8000000 in
set_option maxRecDepth 100000 in
theorem told_f1 (ma : Option Addr) (mn mc : Nat) (many : List Lb) (oa : Option Addr) (o_n oc : Nat) (one : List Lb) (m : Mt) (w : World) (hm : LRow w ma mn many) (hk : SlK ma mn mc) (ho : LRow w oa o_n one) (hM : MtOk w m) (hb : mn + m.im ≤ 4398046511000) (hcd : m.card ≠ 0) :
    Calls Tryz.prog 49 #[.slice ma mn mc, .slice oa o_n oc, m.v, .bool true] w (ToldRet ⟨ma, mn, mc, 0, many⟩ m.on m.ns m.inc m.card true many one w) := by
  obtain ⟨given, on, la, ln, lc, card, ia, im, ic, ns, inc⟩ := m
  dsimp only [Mt.v] at hb hcd ⊢
  have hcz : (card == 0) = false := beq_eq_false_iff_ne.2 hcd
  obtain ⟨W0, hW0⟩ : ∃ W0, W0 = w.alloc (.cells #[.bool given, .bool on, .slice la ln lc, .int .i64 card, .slice ia im ic] 25) := ⟨_, rfl⟩
  have hI0 : Bk.Is W0 w.heap.size #[.bool given, .bool on, .slice la ln lc, .int .i64 card, .slice ia im ic] 25 := by rw [hW0]; exact Bk.Is.made w _ _
  have hB0 : Below w.heap.size w W0 := by rw [hW0]; exact (Below.refl _ _).alloc (Nat.le_refl _) _
  have hC0 : Cap W0 w.heap.size ⟨given, on, la, ln, lc, card, ia, im, ic, ns, inc⟩ := ⟨hI0.lt, by have := hI0.cell 1; simpa using this, by have := hI0.cell 2; simpa using this, hM.1.below hB0⟩
  have HI := Lib.hid hI0
  have HB := Lib.hid hB0
  have HC := Lib.hid hC0
  have HINC := Lib.hid (hM.2)
  have HONE := Lib.hid ho
  have HMANY := Lib.hid hm
  have HK := Lib.hid hk
  have hml := hm.1
  have HXO : Hid (ErOk w ⟨ma, mn, mc, 0, many⟩) := Lib.hid ⟨hm, hk, show mn ≤ 4398046511104 by omega⟩
  have hil := hM.2.1
  dsimp only at hil
  have hsm := hm.2.2.1
  have hlw : w.heap.size < W0.heap.size := hI0.lt
  have HLW := Lib.hid hlw
  have HSM := Lib.hid hsm
  clear hI0 hB0 hC0 hM ho hm hk hsm hlw
  go_enter Tryz.func49, Tryz.ntmps49
  go_wp2_with fail
  rw [← hW0]
  have HQ := HI
  have HCC := HC
  have q1 := HQ.out.cell 1
  have q2 := HQ.out.cell 2
  have q3 := HQ.out.cell 3
  have q4 := HQ.out.cell 4
  simp at q1 q2 q3 q4
  go_wp2_with fail
  go_loopw [9, 27] (IncRel ⟨ma, mn, mc, 0, many⟩ inc one many mn w) (fun _ v _ => im - (intOf v).toNat)
  case atStart => exact ⟨0, ma, mn, mc, rfl, by omega, rfl, Nat.le_refl _, .inl rfl, HB.out⟩
  case round =>
    obtain ⟨k, xa, xn, xc, rfl, hk, rfl, hxn, hkeep, bel⟩ := hrel
    have HKP := Lib.hid hkeep
    have HBW := Lib.hid bel
    have hiw := HINC.out.below bel
    clear hkeep bel
    have hnn : mn ≤ mn := Nat.le_refl _
    by_cases hlt : k < im
    · have dl : decide ((k : Int) < (im : Int)) = true := decide_eq_true (by omega)
      obtain ⟨b, off, rfl, hb0, hc⟩ := hiw.2.2.2 (by omega)
      (try dsimp only at hc)
      have x0 := hc k hlt
      have k1 : (0 : Int) ≤ (k : Int) := by omega
      have k2 : (k : Int) < (im : Int) := by omega
      have HE := Lib.hid (incL_snoc inc one many (by omega : k < inc.length))
      have hsn : SmallT (nsAt inc k) := hiw.2.2.1 _ (by rw [nsAt_get (by omega)]; exact List.getElem_mem _)
      have HSN := Lib.hid hsn
      generalize nsAt inc k = N at *
      have hok := HKP.out.ok HXO.out HBW.out
      have HG : Hid (∀ W, W = wr → Calls Tryz.prog 73 #[.slice oa o_n oc, .string N] W fun e w' => e = .returned (.string (getL N one)) ∧ Below wr.heap.size wr w') := Lib.hid fun W hW => by subst hW; exact get_any oa o_n oc one N W (HONE.out.below HBW.out)
      have HGS := Lib.hid (getL_small N HONE.out.2.2.1)
      obtain ⟨V, hV⟩ : ∃ V, V = getL N one := ⟨_, rfl⟩
      rw [← hV] at HE HG HGS
      obtain ⟨L, hL⟩ : ∃ L, L = incL (inc.take k) one many := ⟨_, rfl⟩
      rw [← hL] at HE HKP hok
      have hlen : L.length = xn := hok.1.1
      have HWT : Hid (∀ W, Below wr.heap.size wr W → Calls Tryz.prog 20 #[.slice xa xn xc, .string N, .string V] W (NewL (withL N V L) W)) := Lib.hid fun W hW => with_any xa xn xc L N V W (hok.1.below hW) (by omega)
      have HLS := Lib.hid (withL_small N V hok.1.2.2.1 HSN.out HGS.out)
      have HLL : Hid ((withL N V L).length ≤ xn + 1) := Lib.hid (by have := withL_len N V L; omega)
      clear hc hiw hsn hok hV hL
      go_wp2_with (first | (go_at_call 73; refine (HG.out _ rfl).mono ?_; rintro e w5 ⟨rfl, b5⟩; have HB5 := Lib.hid b5; clear b5) | (go_at_call 20; refine (HWT.out _ HB5.out).mono ?_; intro e w6 h6; obtain ⟨a6, c6, rfl, ow6, b6⟩ := h6.own; have HO6 := Lib.hid ow6; have HB6 := Lib.hid (HB5.out.trans (b6.mono HB5.out.size)); clear ow6 b6 h6))
      go_roundw
      case rel => exact ⟨k + 1, a6, _, c6, by first | rfl | (congr 1; omega), by omega, rfl, by have := HLL.out; omega, by rw [HE.out]; exact keep_new HO6.out (Nat.le_trans HBW.out.size HB5.out.size) HLS.out (by have := HLL.out; omega), HBW.out.trans (HB6.out.mono HBW.out.size)⟩
      case measure => simp [intOf]; omega
    · have hkn : ¬ (k : Int) < (im : Int) := by omega
      have HE : Hid (incL (inc.take k) one many = toldL on ns inc card true many one) := Lib.hid (by
        rw [List.take_of_length_le (by omega)]; unfold toldL; rw [if_neg hcd]; rfl)
      rw [HE.out] at HKP
      clear hiw
      go_wp2_with fail
      go_ret
      exact ⟨xa, xn, xc, rfl, HKP.out, HBW.out⟩

set_option maxHeartbeats 8000000 in
set_option maxRecDepth 100000 in
theorem told_n0 (ma : Option Addr) (mn mc : Nat) (many : List Lb) (oa : Option Addr) (o_n oc : Nat) (one : List Lb) (m : Mt) (w : World) (hm : LRow w ma mn many) (hk : SlK ma mn mc) (ho : LRow w oa o_n one) (hM : MtOk w m) (hb : mn + m.im ≤ 4398046511000) (hcd : m.card = 0) :
    Calls Tryz.prog 49 #[.slice ma mn mc, .slice oa o_n oc, m.v, .bool false] w (ToldRet ⟨ma, mn, mc, 0, many⟩ m.on m.ns m.inc m.card false many one w) := by
  obtain ⟨given, on, la, ln, lc, card, ia, im, ic, ns, inc⟩ := m
  dsimp only [Mt.v] at hb hcd ⊢
  subst hcd
  obtain ⟨W0, hW0⟩ : ∃ W0, W0 = w.alloc (.cells #[.bool given, .bool on, .slice la ln lc, .int .i64 0, .slice ia im ic] 25) := ⟨_, rfl⟩
  have hI0 : Bk.Is W0 w.heap.size #[.bool given, .bool on, .slice la ln lc, .int .i64 0, .slice ia im ic] 25 := by rw [hW0]; exact Bk.Is.made w _ _
  have hB0 : Below w.heap.size w W0 := by rw [hW0]; exact (Below.refl _ _).alloc (Nat.le_refl _) _
  have hC0 : Cap W0 w.heap.size ⟨given, on, la, ln, lc, 0, ia, im, ic, ns, inc⟩ := ⟨hI0.lt, by have := hI0.cell 1; simpa using this, by have := hI0.cell 2; simpa using this, hM.1.below hB0⟩
  have HI := Lib.hid hI0
  have HB := Lib.hid hB0
  have HC := Lib.hid hC0
  have HINC := Lib.hid (hM.2)
  have HONE := Lib.hid ho
  have HMANY := Lib.hid hm
  have HK := Lib.hid hk
  have hml := hm.1
  have HXO : Hid (ErOk w ⟨ma, mn, mc, 0, many⟩) := Lib.hid ⟨hm, hk, show mn ≤ 4398046511104 by omega⟩
  have hil := hM.2.1
  dsimp only at hil
  have hsm := hm.2.2.1
  have hlw : w.heap.size < W0.heap.size := hI0.lt
  have HLW := Lib.hid hlw
  have HSM := Lib.hid hsm
  have HNL := Lib.hid ((nameless_any ma mn mc many W0 (HMANY.out.below HB.out) (by omega)).mono fun e w' h => h.own)
  rw [hW0] at HNL
  clear hI0 hB0 hC0 hM ho hm hk hsm hlw
  go_enter Tryz.func49, Tryz.ntmps49
  go_wp2_with (first | (go_at_call 27; refine HNL.out.mono ?_; rintro e w1 ⟨a', c', rfl, ow, b1⟩; rw [← hW0] at ow b1; have HOW := Lib.hid ow; have HB1 := Lib.hid (HB.out.trans (b1.mono HB.out.size)); have HQ := Lib.hid (HI.out.below b1 HLW.out); have HCC := Lib.hid (HC.out.below b1); have q1 := HQ.out.cell 1; have q2 := HQ.out.cell 2; have q3 := HQ.out.cell 3; have q4 := HQ.out.cell 4; simp at q1 q2 q3 q4; clear ow b1) | (go_at_call 37; refine (clone_any a' (sansL MN many).length c' (sansL MN many) w1 (show LRow w1 a' (sansL MN many).length (sansL MN many) from (ErOwn.ok (e := ⟨a', (sansL MN many).length, c', 0, sansL MN many⟩) (B := W0.heap.size) ⟨HOW.out, sansL_small _ HSM.out, Nat.le_trans (sansL_length _ _) (by omega), rfl⟩).1) (show SlK a' (sansL MN many).length c' from (ErOwn.ok (e := ⟨a', (sansL MN many).length, c', 0, sansL MN many⟩) (B := W0.heap.size) ⟨HOW.out, sansL_small _ HSM.out, Nat.le_trans (sansL_length _ _) (by omega), rfl⟩).2.1) ((Nat.le_trans (sansL_length _ _) (by omega)))).mono ?_; rintro e w2 ⟨v2, rfl, ow2, b2⟩; have HO2 := Lib.hid ow2; have HB2 := Lib.hid b2; clear ow2 b2) | (go_at_call 70; refine (deleteF_own v2 (sansL MN many) w.heap.size _ w1 w2 HCC.out HB2.out HO2.out (sansL_small _ HSM.out) ((Nat.le_trans (sansL_length _ _) (by omega)))).mono ?_; rintro e w3 ⟨v3, rfl, ow3, b3⟩; have HO3 := Lib.hid ow3; have HB3 := Lib.hid b3; clear ow3 b3))
  go_ret
  obtain ⟨a3, c3, hv3⟩ := HO3.out.slice
  subst hv3
  dsimp only at HO3 ⊢
  have hl3 : (outL ns on (sansL MN many)).length ≤ 4398046511104 := Nat.le_trans (outL_len _ _ _) ((Nat.le_trans (sansL_length _ _) (by omega)))
  refine ⟨a3, (outL ns on (sansL MN many)).length, c3, rfl, ?_, HB1.out.trans (HB3.out.mono HB1.out.size)⟩
  have hk := keep_new (x := ⟨ma, mn, mc, 0, many⟩) HO3.out HB1.out.size (outL_small ns on (sansL_small _ HSM.out)) hl3
  unfold toldL
  rw [if_pos rfl]
  simpa using hk

set_option maxHeartbeats 8000000 in
set_option maxRecDepth 100000 in
theorem told_n1 (ma : Option Addr) (mn mc : Nat) (many : List Lb) (oa : Option Addr) (o_n oc : Nat) (one : List Lb) (m : Mt) (w : World) (hm : LRow w ma mn many) (hk : SlK ma mn mc) (ho : LRow w oa o_n one) (hM : MtOk w m) (hb : mn + m.im ≤ 4398046511000) (hcd : m.card ≠ 0) :
    Calls Tryz.prog 49 #[.slice ma mn mc, .slice oa o_n oc, m.v, .bool false] w (ToldRet ⟨ma, mn, mc, 0, many⟩ m.on m.ns m.inc m.card false many one w) := by
  obtain ⟨given, on, la, ln, lc, card, ia, im, ic, ns, inc⟩ := m
  dsimp only [Mt.v] at hb hcd ⊢
  have hcz : (card == 0) = false := beq_eq_false_iff_ne.2 hcd
  obtain ⟨W0, hW0⟩ : ∃ W0, W0 = w.alloc (.cells #[.bool given, .bool on, .slice la ln lc, .int .i64 card, .slice ia im ic] 25) := ⟨_, rfl⟩
  have hI0 : Bk.Is W0 w.heap.size #[.bool given, .bool on, .slice la ln lc, .int .i64 card, .slice ia im ic] 25 := by rw [hW0]; exact Bk.Is.made w _ _
  have hB0 : Below w.heap.size w W0 := by rw [hW0]; exact (Below.refl _ _).alloc (Nat.le_refl _) _
  have hC0 : Cap W0 w.heap.size ⟨given, on, la, ln, lc, card, ia, im, ic, ns, inc⟩ := ⟨hI0.lt, by have := hI0.cell 1; simpa using this, by have := hI0.cell 2; simpa using this, hM.1.below hB0⟩
  have HI := Lib.hid hI0
  have HB := Lib.hid hB0
  have HC := Lib.hid hC0
  have HINC := Lib.hid (hM.2)
  have HONE := Lib.hid ho
  have HMANY := Lib.hid hm
  have HK := Lib.hid hk
  have hml := hm.1
  have HXO : Hid (ErOk w ⟨ma, mn, mc, 0, many⟩) := Lib.hid ⟨hm, hk, show mn ≤ 4398046511104 by omega⟩
  have hil := hM.2.1
  dsimp only at hil
  have hsm := hm.2.2.1
  have hlw : w.heap.size < W0.heap.size := hI0.lt
  have HLW := Lib.hid hlw
  have HSM := Lib.hid hsm
  have HNL := Lib.hid ((nameless_any ma mn mc many W0 (HMANY.out.below HB.out) (by omega)).mono fun e w' h => h.own)
  rw [hW0] at HNL
  clear hI0 hB0 hC0 hM ho hm hk hsm hlw
  go_enter Tryz.func49, Tryz.ntmps49
  go_wp2_with (first | (go_at_call 27; refine HNL.out.mono ?_; rintro e w1 ⟨a', c', rfl, ow, b1⟩; rw [← hW0] at ow b1; have HOW := Lib.hid ow; have HB1 := Lib.hid (HB.out.trans (b1.mono HB.out.size)); have HQ := Lib.hid (HI.out.below b1 HLW.out); have HCC := Lib.hid (HC.out.below b1); have q1 := HQ.out.cell 1; have q2 := HQ.out.cell 2; have q3 := HQ.out.cell 3; have q4 := HQ.out.cell 4; simp at q1 q2 q3 q4; clear ow b1))
  go_loopw [9, 27] (IncRel ⟨ma, mn, mc, 0, many⟩ inc one (sansL MN many) (sansL MN many).length w) (fun _ v _ => im - (intOf v).toNat)
  case atStart => exact ⟨0, a', (sansL MN many).length, c', rfl, by omega, rfl, Nat.le_refl _, keep_new HOW.out HB.out.size (sansL_small _ HSM.out) ((Nat.le_trans (sansL_length _ _) (by omega))), HB1.out⟩
  case round =>
    obtain ⟨k, xa, xn, xc, rfl, hk, rfl, hxn, hkeep, bel⟩ := hrel
    have HKP := Lib.hid hkeep
    have HBW := Lib.hid bel
    have hiw := HINC.out.below bel
    clear hkeep bel
    have hnn : (sansL MN many).length ≤ mn := Nat.le_trans (sansL_length _ _) (by omega)
    by_cases hlt : k < im
    · have dl : decide ((k : Int) < (im : Int)) = true := decide_eq_true (by omega)
      obtain ⟨b, off, rfl, hb0, hc⟩ := hiw.2.2.2 (by omega)
      (try dsimp only at hc)
      have x0 := hc k hlt
      have k1 : (0 : Int) ≤ (k : Int) := by omega
      have k2 : (k : Int) < (im : Int) := by omega
      have HE := Lib.hid (incL_snoc inc one (sansL MN many) (by omega : k < inc.length))
      have hsn : SmallT (nsAt inc k) := hiw.2.2.1 _ (by rw [nsAt_get (by omega)]; exact List.getElem_mem _)
      have HSN := Lib.hid hsn
      generalize nsAt inc k = N at *
      have hok := HKP.out.ok HXO.out HBW.out
      have HG : Hid (∀ W, W = wr → Calls Tryz.prog 73 #[.slice oa o_n oc, .string N] W fun e w' => e = .returned (.string (getL N one)) ∧ Below wr.heap.size wr w') := Lib.hid fun W hW => by subst hW; exact get_any oa o_n oc one N W (HONE.out.below HBW.out)
      have HGS := Lib.hid (getL_small N HONE.out.2.2.1)
      obtain ⟨V, hV⟩ : ∃ V, V = getL N one := ⟨_, rfl⟩
      rw [← hV] at HE HG HGS
      obtain ⟨L, hL⟩ : ∃ L, L = incL (inc.take k) one (sansL MN many) := ⟨_, rfl⟩
      rw [← hL] at HE HKP hok
      have hlen : L.length = xn := hok.1.1
      have HWT : Hid (∀ W, Below wr.heap.size wr W → Calls Tryz.prog 20 #[.slice xa xn xc, .string N, .string V] W (NewL (withL N V L) W)) := Lib.hid fun W hW => with_any xa xn xc L N V W (hok.1.below hW) (by omega)
      have HLS := Lib.hid (withL_small N V hok.1.2.2.1 HSN.out HGS.out)
      have HLL : Hid ((withL N V L).length ≤ xn + 1) := Lib.hid (by have := withL_len N V L; omega)
      clear hc hiw hsn hok hV hL
      go_wp2_with (first | (go_at_call 73; refine (HG.out _ rfl).mono ?_; rintro e w5 ⟨rfl, b5⟩; have HB5 := Lib.hid b5; clear b5) | (go_at_call 20; refine (HWT.out _ HB5.out).mono ?_; intro e w6 h6; obtain ⟨a6, c6, rfl, ow6, b6⟩ := h6.own; have HO6 := Lib.hid ow6; have HB6 := Lib.hid (HB5.out.trans (b6.mono HB5.out.size)); clear ow6 b6 h6))
      go_roundw
      case rel => exact ⟨k + 1, a6, _, c6, by first | rfl | (congr 1; omega), by omega, rfl, by have := HLL.out; omega, by rw [HE.out]; exact keep_new HO6.out (Nat.le_trans HBW.out.size HB5.out.size) HLS.out (by have := HLL.out; omega), HBW.out.trans (HB6.out.mono HBW.out.size)⟩
      case measure => simp [intOf]; omega
    · have hkn : ¬ (k : Int) < (im : Int) := by omega
      have HE : Hid (incL (inc.take k) one (sansL MN many) = toldL on ns inc card false many one) := Lib.hid (by
        rw [List.take_of_length_le (by omega)]; unfold toldL; rw [if_neg hcd]; rfl)
      rw [HE.out] at HKP
      clear hiw
      go_wp2_with fail
      go_ret
      exact ⟨xa, xn, xc, rfl, HKP.out, HBW.out⟩

theorem told_any (ma : Option Addr) (mn mc : Nat) (many : List Lb) (oa : Option Addr) (o_n oc : Nat) (one : List Lb) (m : Mt) (fil : Bool) (w : World) (hm : LRow w ma mn many) (hk : SlK ma mn mc) (ho : LRow w oa o_n one) (hM : MtOk w m) (hb : mn + m.im ≤ 4398046511000) :
    Calls Tryz.prog 49 #[.slice ma mn mc, .slice oa o_n oc, m.v, .bool fil] w (ToldRet ⟨ma, mn, mc, 0, many⟩ m.on m.ns m.inc m.card fil many one w) := by
  by_cases hc : m.card = 0
  · cases fil
    · exact told_n0 ma mn mc many oa o_n oc one m w hm hk ho hM hb hc
    · exact told_f0 ma mn mc many oa o_n oc one m w hm hk ho hM hb hc
  · cases fil
    · exact told_n1 ma mn mc many oa o_n oc one m w hm hk ho hM hb hc
    · exact told_f1 ma mn mc many oa o_n oc one m w hm hk ho hM hb hc

end Go.Proofs.YtmmfjknnbkcniaaGreatDoor

namespace Go.Proofs.YtmmfjknnbkcniaaGreatDoor
open Go.Fl Go.Rel Go.RowKit Go.Maps Go.WideMaps
set_option linter.unusedSimpArgs false
set_option linter.unusedVariables false

/-- Do two label sets have the same key? -/
def meetL (on : Bool) (ns : List ByteArray) (a b : List Lb) : Bool := decide (lcmp (keepL ns (!on) a) (keepL ns (!on) b) = 0)
end Go.Proofs.YtmmfjknnbkcniaaGreatDoor

namespace Go.Proofs.YtmmfjknnbkcniaaGreatDoor
open Go.Fl Go.Rel Go.RowKit Go.Maps Go.WideMaps
set_option linter.unusedSimpArgs false
set_option linter.unusedVariables false

/-- Is there an element with the same key? -/
def meetsK (on : Bool) (ns : List ByteArray) (a : List Lb) (ks : List (List Lb)) : Bool := ks.any fun b => meetL on ns a b
theorem meets_take {on : Bool} {ns : List ByteArray} {a : List Lb} {es : List Er} {k : Nat} (h : k < es.length) : meetsK on ns a ((es.take (k + 1)).map Er.ls) = (meetsK on ns a ((es.take k).map Er.ls) || meetL on ns a (erAt es k).ls) := by
  unfold meetsK
  rw [List.take_add_one, List.getElem?_eq_getElem h, List.map_append, List.any_append, erAt_get h]
  simp
end Go.Proofs.YtmmfjknnbkcniaaGreatDoor

namespace Go.Proofs.YtmmfjknnbkcniaaGreatDoor
open Go.Fl Go.Rel Go.RowKit Go.Maps Go.WideMaps
set_option linter.unusedSimpArgs false
set_option linter.unusedVariables false

/-- Is the operator one of and, or, unless? -/
def setB (l : List UInt8) : Bool := (l == [97, 110, 100]) || (l == [111, 114]) || (l == [117, 110, 108, 101, 115, 115])
theorem set_any (u : ByteArray) (w : World) : Calls Tryz.prog 24 #[.string u] w fun e w' => e = .returned (.bool (setB u.toList)) ∧ w = w' := by
  unfold setB
  cases s0 : (u.toList == [97, 110, 100])
  all_goals cases s1 : (u.toList == [111, 114])
  all_goals cases s2 : (u.toList == [117, 110, 108, 101, 115, 115])
  all_goals
    go_enter Tryz.func24, Tryz.ntmps24
    go_wp2_with fail
    go_ret
    exact ⟨rfl, rfl⟩

end Go.Proofs.YtmmfjknnbkcniaaGreatDoor

namespace Go.Fl
theorem filt_er (p : Er → Bool) (es : List Er) {k : Nat} (h : k < es.length) : (es.take (k + 1)).filter p = (es.take k).filter p ++ (if p (erAt es k) then [erAt es k] else []) := by
  rw [List.take_add_one, List.getElem?_eq_getElem h, List.filter_append, erAt_get h]
  congr 1
  by_cases e : p es[k]
  · rw [if_pos e]; simp [e]
  · rw [if_neg e]; simp [e]
end Go.Fl
namespace Go.Proofs.YtmmfjknnbkcniaaGreatDoor
open Go.Fl Go.Rel Go.RowKit Go.Maps Go.WideMaps
set_option linter.unusedSimpArgs false
set_option linter.unusedVariables false

def meetsE (on : Bool) (ns : List ByteArray) (ks : List Ek) (x : Ek) : Bool := meetsK on ns x.1 (ks.map (·.1))
/-- What a set operator takes. -/
def setL (u : List UInt8) (on : Bool) (ns : List ByteArray) (ls rs : List Ek) : List Ek :=
  if u == [111, 114] then ls ++ rs.filter (fun y => !meetsE on ns ls y) else ls.filter (fun x => (u == [97, 110, 100]) == meetsE on ns rs x)
theorem meetsE_er (on : Bool) (ns : List ByteArray) (es : List Er) (x : Er) : meetsE on ns (es.map Er.key) x.key = meetsK on ns x.ls (es.map Er.ls) := by
  unfold meetsE; rw [List.map_map]; rfl
theorem filter_key (p : Ek → Bool) (es : List Er) : (es.filter fun e => p e.key).map Er.key = (es.map Er.key).filter p := by
  rw [List.filter_map]; rfl

/-- Some elements, one after the other. -/
def SelRel (Z : List Er) (p : Er → Bool) (es : List Er) (w : World) (v10 v11 : Value) (wr : World) : Prop :=
  ∃ k : Nat, v11 = .int .i64 (k : Int) ∧ k ≤ es.length ∧ OwnE w.heap.size wr v10 (Z ++ (es.take k).filter p) ∧ Below w.heap.size w wr

end Go.Proofs.YtmmfjknnbkcniaaGreatDoor

namespace Go.Fl
def undec (l : List UInt8) : Nat := l.foldl (fun a c => a * 10 + (c.toNat - 48)) 0
theorem undec_dec (n : Nat) : undec (Lib.decDigits n) = n := by
  induction n using Nat.strongRecOn with
  | _ n ih =>
    rw [Lib.decDigits]
    by_cases h : n < 10
    · rw [dif_pos h]
      have : ∀ k, k < 10 → undec [UInt8.ofNat (48 + k)] = k := by decide
      exact this n h
    · rw [dif_neg h]
      unfold undec
      rw [List.foldl_append]
      have := ih (n / 10) (by omega)
      unfold undec at this
      rw [this]
      have h2 : ∀ k, k < 10 → (UInt8.ofNat (48 + k)).toNat - 48 = k := by decide
      simp only [List.foldl_cons, List.foldl_nil]
      rw [h2 (n % 10) (by omega)]
      omega
theorem dec_colon (n : Nat) : ∀ c ∈ Lib.decDigits n, c ≠ 58 := by
  induction n using Nat.strongRecOn with
  | _ n ih =>
    rw [Lib.decDigits]
    have h2 : ∀ k, k < 10 → (UInt8.ofNat (48 + k)) ≠ 58 := by decide
    by_cases h : n < 10
    · rw [dif_pos h]
      intro c hc
      obtain rfl := List.mem_singleton.1 hc
      exact h2 n h
    · rw [dif_neg h]
      intro c hc
      rcases List.mem_append.1 hc with hc | hc
      · exact ih _ (by omega) c hc
      · obtain rfl := List.mem_singleton.1 hc
        exact h2 _ (by omega)
theorem colon_split {x y a b : List UInt8} (hx : ∀ c ∈ x, c ≠ 58) (hy : ∀ c ∈ y, c ≠ 58) (h : x ++ 58 :: a = y ++ 58 :: b) : x = y ∧ a = b := by
  induction x generalizing y with
  | nil =>
    cases y with
    | nil => simpa using h
    | cons c y => simp at h; exact absurd h.1.symm (hy c (by simp))
  | cons d x ih =>
    cases y with
    | nil => simp at h; exact absurd h.1 (hx d (by simp))
    | cons c y =>
      simp at h
      obtain ⟨h1, h2⟩ := ih (y := y) (fun c hc => hx c (by simp [hc])) (fun c hc => hy c (by simp [hc])) h.2
      exact ⟨by rw [h.1, h1], h2⟩
theorem numT_inj {s t : ByteArray} {a b : List UInt8} (h : numT s ++ a = numT t ++ b) : s = t ∧ a = b := by
  unfold numT at h
  rw [Lib.itoa_nonneg, Lib.itoa_nonneg] at h
  simp only [List.append_assoc, List.cons_append, List.nil_append] at h
  obtain ⟨h1, h2⟩ := colon_split (dec_colon _) (dec_colon _) h
  have hs : s.size = t.size := by rw [← undec_dec s.size, h1, undec_dec]
  obtain ⟨h3, h4⟩ := List.append_inj h2 (by rw [Array.length_toList, Array.length_toList]; exact hs)
  refine ⟨?_, h4⟩
  cases s; cases t
  simp at h3
  rw [h3]
theorem numT_ne (s : ByteArray) : numT s ≠ [] := by unfold numT; simp
theorem labT_inj {x y : Lb} {a b : List UInt8} (h : labT x ++ a = labT y ++ b) : x = y ∧ a = b := by
  unfold labT at h
  rw [List.append_assoc, List.append_assoc] at h
  obtain ⟨h1, h2⟩ := numT_inj h
  obtain ⟨h3, h4⟩ := numT_inj h2
  refine ⟨?_, h4⟩
  cases x; cases y
  simp at h1 h3
  rw [h1, h3]
theorem labT_ne (x : Lb) (a : List UInt8) : labT x ++ a ≠ [] := by
  unfold labT; have := numT_ne x.n; simp [this]
theorem flat_inj : ∀ {xs ys : List Lb}, xs.flatMap labT = ys.flatMap labT → xs = ys
  | [], [], _ => rfl
  | [], y :: ys, h => by rw [List.flatMap_nil, List.flatMap_cons] at h; exact absurd h.symm (labT_ne _ _)
  | x :: xs, [], h => by rw [List.flatMap_nil, List.flatMap_cons] at h; exact absurd h (labT_ne _ _)
  | x :: xs, y :: ys, h => by
    rw [List.flatMap_cons, List.flatMap_cons] at h
    obtain ⟨h1, h2⟩ := labT_inj h
    rw [h1, flat_inj h2]
end Go.Fl
namespace Go.Proofs.YtmmfjknnbkcniaaGreatDoor
open Go.Fl Go.Rel Go.RowKit Go.Maps Go.WideMaps
set_option linter.unusedSimpArgs false
set_option linter.unusedVariables false

theorem keyL_keep (ns : List ByteArray) (wo : Bool) (ls : List Lb) : keyL ns wo ls = (keepL ns wo ls).flatMap labT := rfl
theorem meet_iff {on : Bool} {ns : List ByteArray} {a b : List Lb} : meetL on ns a b = true ↔ keepL ns (!on) a = keepL ns (!on) b := by
  unfold meetL; rw [decide_eq_true_eq]; exact lcmp_zero
theorem meet_refl (on : Bool) (ns : List ByteArray) (a : List Lb) : meetL on ns a a = true := meet_iff.2 rfl
theorem meet_symm (on : Bool) (ns : List ByteArray) (a b : List Lb) : meetL on ns a b = meetL on ns b a := by
  rw [Bool.eq_iff_iff, meet_iff, meet_iff]; exact ⟨Eq.symm, Eq.symm⟩
theorem meet_trans {on : Bool} {ns : List ByteArray} {a b c : List Lb} (h1 : meetL on ns a b = true) (h2 : meetL on ns b c = true) : meetL on ns a c = true :=
  meet_iff.2 ((meet_iff.1 h1).trans (meet_iff.1 h2))
/-- who meets the first meets just whom the second meets -/
theorem meet_same {on : Bool} {ns : List ByteArray} {a b : List Lb} (h : meetL on ns a b = true) (c : List Lb) : meetL on ns a c = meetL on ns b c := by
  rw [Bool.eq_iff_iff]
  exact ⟨fun g => meet_trans (by rw [meet_symm]; exact h) g, fun g => meet_trans h g⟩
theorem key_meet (on : Bool) (ns : List ByteArray) (a b : List Lb) : decide (keyL ns (!on) a = keyL ns (!on) b) = meetL on ns a b := by
  rw [Bool.eq_iff_iff, decide_eq_true_eq, meet_iff, keyL_keep, keyL_keep]
  exact ⟨flat_inj, fun h => by rw [h]⟩
theorem keyE_text (m : Mt) (e : Er) : (keyE m e).data.toList = keyL m.ns (!m.on) e.ls := rfl
theorem keyE_meet (m : Mt) (e f : Er) : decide ((keyE m e).data.toList = (keyE m f).data.toList) = meetL m.on m.ns e.ls f.ls := by
  rw [keyE_text, keyE_text]; exact key_meet _ _ _ _
theorem cnt_meets (m : Mt) (es : List Er) (e : Er) : cntT (es.map (keyE m)) (keyE m e) = es.countP fun f => meetL m.on m.ns e.ls f.ls := by
  unfold cntT
  rw [List.countP_map]
  congr 1
  funext f
  show decide ((keyE m f).data.toList = (keyE m e).data.toList) = _
  rw [keyE_meet, meet_symm]
theorem cnt_zero (m : Mt) (es : List Er) (e : Er) : decide (cntT (es.map (keyE m)) (keyE m e) = 0) = !meetsK m.on m.ns e.ls (es.map Er.ls) := by
  rw [cnt_meets, Bool.eq_iff_iff, decide_eq_true_eq, List.countP_eq_zero]
  unfold meetsK
  rw [Bool.not_eq_true', List.any_eq_false]
  constructor
  · intro h b hb
    obtain ⟨f, hf, rfl⟩ := List.mem_map.1 hb
    exact h f hf
  · intro h f hf
    exact h _ (List.mem_map_of_mem hf)
theorem nsAt_keys (m : Mt) (es : List Er) {i : Nat} (h : i < es.length) : nsAt (es.map (keyE m)) i = keyE m (erAt es i) := by
  rw [nsAt_get (by simpa using h), erAt_get h, List.getElem_map]
end Go.Proofs.YtmmfjknnbkcniaaGreatDoor

namespace Go.Proofs.YtmmfjknnbkcniaaGreatDoor
open Go.Fl Go.Rel Go.RowKit Go.Maps Go.WideMaps
set_option linter.unusedSimpArgs false
set_option linter.unusedVariables false

/-- Whom an element meets on the one side. -/
def partK (on : Bool) (ns : List ByteArray) (single : List Ek) (x : Ek) : Option Ek := single.find? fun y => meetL on ns x.1 y.1
/-- What comes out of a meeting. -/
noncomputable def outK (k : Nat) (on : Bool) (ns inc : List ByteArray) (card : Int) (yes : Bool) (x y : Ek) : Option Ek :=
  if stepO k (if card = 2 then y.2 else x.2) (if card = 2 then x.2 else y.2) yes then some (toldL on ns inc card (stepF k yes) x.1 y.1, stepV k (if card = 2 then y.2 else x.2) (if card = 2 then x.2 else y.2) (if card = 2 then y.2 else x.2) yes) else none
noncomputable def roundK (k : Nat) (on : Bool) (ns inc : List ByteArray) (card : Int) (yes : Bool) (single : List Ek) (x : Ek) : Option Ek := (partK on ns single x).bind (outK k on ns inc card yes x)
noncomputable def metL (k : Nat) (on : Bool) (ns inc : List ByteArray) (card : Int) (yes : Bool) (many single : List Ek) : List Ek := many.filterMap (roundK k on ns inc card yes single)
/-- Do two of the one side share a key? -/
def dupM (on : Bool) (ns : List ByteArray) (single : List Ek) : Bool := (List.range single.length).any fun i => meetsK on ns (kAt single i).1 ((single.take i).map (·.1))
/-- Do two of the many side that meet somebody share a key? -/
def multM (on : Bool) (ns : List ByteArray) (many single : List Ek) : Bool := many.any fun x => (partK on ns single x).isSome && decide (1 < many.countP fun y => meetL on ns x.1 y.1)
noncomputable def metE (k : Nat) (on : Bool) (ns inc : List ByteArray) (card : Int) (yes : Bool) (many single : List Ek) : Int :=
  if dupM on ns single then 210 else if card = 0 ∧ multM on ns many single = true then 211 else setE (metL k on ns inc card yes many single)
noncomputable def metV (k : Nat) (on : Bool) (ns inc : List ByteArray) (card : Int) (yes : Bool) (many single : List Ek) : List Ek :=
  if dupM on ns single then [] else if card = 0 ∧ multM on ns many single = true then [] else setV (metL k on ns inc card yes many single)
/-- What Vectors answers: the error, the elements by class. -/
noncomputable def vecsE (u : List UInt8) (on : Bool) (ns inc : List ByteArray) (card : Int) (yes : Bool) (kl kr : List Ek) : Int :=
  match vecK kl, vecK kr with
  | some ml, some mr =>
    if ¬ opK u < 12 ∧ setB u = false then 7
    else if card < 0 ∨ 2 < card ∨ (setB u = true ∧ card ≠ 0) then 2
    else if setB u = true then setE ((setL u on ns ml mr).map clK)
    else metE (opK u) on ns inc card yes (if card = 2 then mr else ml) (if card = 2 then ml else mr)
  | _, _ => 5
noncomputable def vecsV (u : List UInt8) (on : Bool) (ns inc : List ByteArray) (card : Int) (yes : Bool) (kl kr : List Ek) : List Ek :=
  match vecK kl, vecK kr with
  | some ml, some mr =>
    if ¬ opK u < 12 ∧ setB u = false then []
    else if card < 0 ∨ 2 < card ∨ (setB u = true ∧ card ≠ 0) then []
    else if setB u = true then setV ((setL u on ns ml mr).map clK)
    else metV (opK u) on ns inc card yes (if card = 2 then mr else ml) (if card = 2 then ml else mr)
  | _, _ => []

theorem stepV_cl (k a b keep : Nat) (yes : Bool) (hk : k < 12) : True := trivial
end Go.Proofs.YtmmfjknnbkcniaaGreatDoor

namespace Go.Proofs.YtmmfjknnbkcniaaGreatDoor
open Go.Fl Go.Rel Go.RowKit Go.Maps Go.WideMaps
set_option linter.unusedSimpArgs false
set_option linter.unusedVariables false

/-- The keys of these elements are texts that a machine holds. -/
def KeyFits (on : Bool) (ns : List ByteArray) (es : List Er) : Prop := ∀ e ∈ es, (keyL ns (!on) e.ls).length ≤ 140737480000000
theorem cnt_cases (m : Mt) (es : List Er) (F : ByteArray → Int) (hF : F = fun t => (cntT (es.map (keyE m)) t : Int)) (e : Er) :
    (F (keyE m e) = 0 ∧ meetsK m.on m.ns e.ls (es.map Er.ls) = false) ∨ ((∃ c : Int, F (keyE m e) = c ∧ 0 < c) ∧ meetsK m.on m.ns e.ls (es.map Er.ls) = true) := by
  have h := cnt_zero m es e
  subst hF
  dsimp only
  cases hd : meetsK m.on m.ns e.ls (es.map Er.ls)
  · rw [hd] at h
    have := of_decide_eq_true h
    exact .inl ⟨by omega, rfl⟩
  · rw [hd] at h
    have := of_decide_eq_false h
    exact .inr ⟨⟨_, rfl, by omega⟩, rfl⟩
theorem keep5 {q0 q1 q2 q3 q4 : Addr} {v0 v1 v2 v3 v4 : Value} {w w' : World} (h : w.cell? q0 = some v0 ∧ w.cell? q1 = some v1 ∧ w.cell? q2 = some v2 ∧ w.cell? q3 = some v3 ∧ w.cell? q4 = some v4) (hb : Below w.heap.size w w') : w'.cell? q0 = some v0 ∧ w'.cell? q1 = some v1 ∧ w'.cell? q2 = some v2 ∧ w'.cell? q3 = some v3 ∧ w'.cell? q4 = some v4 :=
  ⟨cell_stayL h.1 hb, cell_stayL h.2.1 hb, cell_stayL h.2.2.1 hb, cell_stayL h.2.2.2.1 hb, cell_stayL h.2.2.2.2 hb⟩

end Go.Proofs.YtmmfjknnbkcniaaGreatDoor
