/- pair.keys: the elements' keys. Maps from texts to numbers, that a call makes; pair.counted. pair.counted: how often each key comes. labels.Get, weirref16.Get, weirref21.has, weirref16.Keep. -/
import Derived.Test.YtmmfjknnbkcniaaGreatDoorV03
import Derived.Test.YtmmfjknnbkcniaaGreatDoorV06
import Derived.Maps.OwnOps
import Derived.Maps.Views
import Derived.StringKeys
import Derived.WideMake
set_option maxHeartbeats 64000000
set_option maxRecDepth 100000
namespace Go.Fl
structure Mt where
 given : Bool
 on : Bool
 la : Option Addr
 ln : Nat
 lc : Nat
 card : Int
 ia : Option Addr
 im : Nat
 ic : Nat
 ns : List ByteArray
 inc : List ByteArray
def Mt.v (m : Mt) : Value := .agg #[.bool m.given, .bool m.on, .slice m.la m.ln m.lc, .int .i64 m.card, .slice m.ia m.im m.ic]
end Go.Fl
namespace Go.Proofs.YtmmfjknnbkcniaaGreatDoor
open Go.Fl Go.Rel Go.RowKit
set_option linter.unusedSimpArgs false
set_option linter.unusedVariables false
def MtOk (w : World) (m : Mt) : Prop := NRow w m.la m.ln m.ns ∧ NRow w m.ia m.im m.inc
theorem MtOk.below {w w' : World} {m : Mt} (h : MtOk w m) (hb : Below w.heap.size w w') : MtOk w' m := ⟨h.1.below hb, h.2.below hb⟩
def keyE (m : Mt) (e : Er) : ByteArray := ⟨(keyL m.ns (!m.on) e.ls).toArray⟩
def WS (w : World) (g : Nat) (l : List ByteArray) : Prop := g < w.heap.size ∧ ∀ i, i < l.length → w.cell? ⟨g, i, none⟩ = some (.string (nsAt l i)) ∧ w.frozen? ⟨g, i, none⟩ = false
theorem WS.below {w w' : World} {g k : Nat} {l : List ByteArray} (h : WS w g l) (hb : Below k w w') (hk : g < k) : WS w' g l := by
 obtain ⟨h0, h⟩ := h
 have hgl : g < w'.heap.size := by
  have hb2 := hb.block g hk
  rw [Array.getElem?_eq_getElem h0] at hb2
  by_cases hh : g < w'.heap.size
  ·exact hh
  ·rw [Array.getElem?_eq_none (by omega)] at hb2; cases hb2
 refine ⟨hgl, fun i hi => ?_⟩
 obtain ⟨c0, f0⟩ := h i hi
 rw [hb.cell (p := ⟨g, i, none⟩) hk]
 refine ⟨c0, ?_⟩
 unfold World.frozen? at *; rw [hb.block g hk]; exact f0
theorem nsAt_set {l : List ByteArray} {i j : Nat} {b : ByteArray} (h : i < l.length) : nsAt (l.set i b) j = if i = j then b else nsAt l j := by
 unfold nsAt
 by_cases e : i = j
 ·subst e; simp [List.getD, h]
 ·simp [List.getD, e, List.getElem?_set_ne]
theorem WS.set {w : World} {g : Nat} {l : List ByteArray} (h : WS w g l) (i : Nat) (s : ByteArray) (hi : i < l.length) : WS (w.setCell ⟨g, i, none⟩ (.string s)) g (l.set i s) := by
 obtain ⟨h0, h⟩ := h
 refine ⟨by simpa using h0, fun j hj => ?_⟩
 rw [List.length_set] at hj
 obtain ⟨c0, f0⟩ := h j hj
 rw [nsAt_set hi]
 refine ⟨?_, by rw [World.frozen?_setCell]; exact f0⟩
 by_cases e : i = j
 ·subst e; rw [if_pos rfl]; exact World.cell?_setCell_same _ _ _ c0
 ·rw [if_neg e, World.cell?_setCell_other _ _ _ _ (fun h => by injection h with _ h2 _; omega)]; exact c0
theorem info_str : (Tryz.prog.info? 9).map (fun i => (i.zero, i.size, i.bytes)) = some (some (.string ⟨#[]⟩), 1, 16) := by kernel_rfl
theorem make_strs (B : Nat) (w : World) (n : Nat) (hn : n ≤ 8796093022208) (hB : B ≤ w.heap.size) : ∃ w', (Instr.makeSlice 23 (.int .i64 (n : Int)) (.int .i64 (n : Int))).run Tryz.prog w = .ok (.slice (some ⟨w.heap.size, 0, none⟩) n n) w' ∧ WS w' w.heap.size (List.replicate n ⟨#[]⟩) ∧ Below w.heap.size w w' := by
 obtain ⟨i0, hi, hz0, hz1, hz2⟩ := info_parts info_str
 obtain ⟨w', h1, h2, h3⟩ := run_make_full (P := Tryz.prog) w B 23 9 i0 (.string ⟨#[]⟩) 1 Tryz.underlying23 hi hz0 hz1 .i64 .i64 n (by rw [hz2]; omega) (by unfold maxLen; omega) hB
 refine ⟨w', h1, ⟨(World.ownsRow.lt h2 w.heap.size rfl).2, fun i hi => ?_⟩, (Below.refl _ _).grown h3 (Nat.le_refl _) fun k hk => by cases hk⟩
 rw [List.length_replicate] at hi
 have k0 := World.ownsRow.cellAt h2 i (by omega)
 refine ⟨?_, World.ownsRow.frozenAt h2 _⟩
 rw [k0, show Value.cells (.string ⟨#[]⟩) = #[.string ⟨#[]⟩] from rfl, toList_madeCells_one, Nat.mul_one]
 unfold nsAt
 simp [List.getD, hi]
theorem WS.row {w : World} {g : Nat} {l : List ByteArray} (h : WS w g l) (hn : l.length ≤ 9223372036854775807) (hs : ∀ s ∈ l, SmallT s) : NRow w (some ⟨g, 0, none⟩) l.length l :=
 ⟨rfl, hn, hs, fun _ => ⟨g, 0, rfl, h.1, fun i hi => by rw [Nat.zero_add]; exact (h.2 i hi).1⟩⟩
def KeysRel (m : Mt) (es : List Er) (g : Nat) (w : World) (v13 : Value) (wr : World) : Prop :=
 ∃ (k : Nat) (l : List ByteArray), v13 = .int .i64 (k : Int) ∧ k ≤ es.length ∧ l.length = es.length ∧ WS wr g l ∧ (∀ i, i < k → nsAt l i = keyE m (erAt es i)) ∧ Below w.heap.size w wr
def KeysRelX (given on : Bool) (la : Option Addr) (ln lc : Nat) (card : Int) (ia : Option Addr) (im ic : Nat) (ns inc : List ByteArray) (es : List Er) (w : World) (v13 : Value) (wr : World) : Prop :=
 KeysRel ⟨given, on, la, ln, lc, card, ia, im, ic, ns, inc⟩ es (w.heap.size + 1) w v13 wr ∧ Bk.Is wr w.heap.size #[.bool given, .bool on, .slice la ln lc, .int .i64 card, .slice ia im ic] 25
def KeysRet (m : Mt) (es : List Er) (w : World) (e : Ending) (w' : World) : Prop :=
 ∃ g, e = .returned (.slice (some ⟨g, 0, none⟩) es.length es.length) ∧ NRow w' (some ⟨g, 0, none⟩) es.length (es.map (keyE m)) ∧ Below w.heap.size w w'
theorem keys_any (a : Option Addr) (n cap : Nat) (es : List Er) (m : Mt) (w : World) (hr : ERow w a n es) (hm : MtOk w m) (hl : ∀ e ∈ es, (keyL m.ns (!m.on) e.ls).length ≤ 140737480000000) (ht : Tab w.heap.size w) :
  Calls Tryz.prog 47 #[.slice a n cap, m.v] w (KeysRet m es w) := by
 have HR := qh hr
 have HM := qh hm
 have HL := qh hl
 have hln := hr.1
 have n0 : (0 : Int) ≤ (n : Int) := by omega
 have n1 : (n : Int) ≤ 4398046511104 := by have := hr.2.1; omega
 have HT := qh ht
 obtain ⟨given, on, la, ln, lc, card, ia, im, ic, ns, inc⟩ := m
 dsimp only [Mt.v] at HL ⊢
 obtain ⟨W1, hW1⟩ : ∃ W1, W1 = w.alloc (.cells #[.bool given, .bool on, .slice la ln lc, .int .i64 card, .slice ia im ic] 25) := ⟨_, rfl⟩
 have bel1 : Below w.heap.size w W1 := by rw [hW1]; exact (Below.refl _ _).alloc (Nat.le_refl _) _
 have hbx : Bk.Is W1 w.heap.size #[.bool given, .bool on, .slice la ln lc, .int .i64 card, .slice ia im ic] 25 := by rw [hW1]; exact Bk.Is.made w _ _
 obtain ⟨W2, hmk, ws0, bel2⟩ := make_strs W1.heap.size W1 n (by omega) (Nat.le_refl _)
 have hg1 : W1.heap.size = w.heap.size + 1 := by rw [hW1]; simp
 rw [hg1] at hmk ws0
 rw [hW1] at hmk
 have HX := qh (hbx.below bel2 hbx.lt)
 have HW0 := qh ws0
 have HB2 := qh (bel1.trans (bel2.mono bel1.size))
 clear hr hm hl ht bel1 bel2 ws0 hbx hW1 hg1
 go_enter Tryz.func47, Tryz.ntmps47
 go_wp2_with fail
 go_loopw [13] (KeysRelX given on la ln lc card ia im ic ns inc es w) (fun v _ => n - (intOf v).toNat)
 case atStart => exact ⟨⟨0, _, rfl, by omega, by simp [hln], HW0.out, fun i h => by omega, HB2.out⟩, HX.out⟩
 case round =>
  obtain ⟨⟨k, l, rfl, hk, hll, ws, hdo, bel⟩, hx⟩ := hrel
  have HWS := qh ws
  have HDO := qh hdo
  have HB := qh bel
  have HX := qh hx
  have HLL := qh hll
  have hrw := HR.out.below bel
  clear ws hdo bel hx hll
  by_cases hlt : k < n
  ·have dl : decide ((k : Int) < (n : Int)) = true := decide_eq_true (by omega)
   obtain ⟨b, off, rfl, hb, hc⟩ := hrw.2.2.2 (by omega)
   obtain ⟨x0, x1⟩ := hc k hlt
   have hmem : erAt es k ∈ es := by rw [erAt_get (by omega)]; exact List.getElem_mem _
   have hyo : ErOk wr (erAt es k) := hrw.2.2.1 _ hmem
   have hyl := HL.out _ hmem
   have k1 : (0 : Int) ≤ (k : Int) := by omega
   have k2 : (k : Int) < (n : Int) := by omega
   generalize hxx : erAt es k = x at x0 x1 hyo hyl
   have HXX := qh hxx
   obtain ⟨xa, xn, xc, xf, xl⟩ := x
   dsimp only at x0 x1 hyl
   have HKY : Hid (∀ W, Below wr.heap.size wr W → Calls Tryz.prog 69 #[.slice xa xn xc, .slice la ln lc, .bool (!on)] W fun e w' => e = .returned (.string ⟨(keyL ns (!on) xl).toArray⟩) ∧ Below W.heap.size W w') := qh fun W hW =>
    key_any xa xn xc xl la ln lc ns (!on) W ((hyo.1).below hW) (HM.out.1.below (HB.out.trans (hW.mono HB.out.size))) hyl (fun w' h => HT.out w' ((HB.out.trans (hW.mono HB.out.size)).trans (h.mono (Nat.le_trans HB.out.size hW.size))))
   obtain ⟨S, hS⟩ : ∃ S, S = (⟨(keyL ns (!on) xl).toArray⟩ : ByteArray) := ⟨_, rfl⟩
   rw [← hS] at HKY
   have HS : Hid (S = keyE ⟨given, on, la, ln, lc, card, ia, im, ic, ns, inc⟩ (erAt es k)) := qh (by rw [hS, HXX.out]; rfl)
   have hgl := HWS.out.1
   have HKL : Hid (k < l.length) := qh (by rw [HLL.out]; omega)
   clear hc hrw hxx hyo hyl hmem hS
   go_wp2_with (first | (refine Bk.is_store 34 rfl ?_; refine Bk.wpList_store_box (w0 := wr) (N := 0) rfl 34 _ _ rfl #[.slice xa xn xc, .float .f64 xf] #[.slice none 0 0, .float .f64 0] 34 rfl rfl (by kernel_rfl) rfl (by kernel_rfl) ?_; intro W hI hBB; have e0 : W.cell? ⟨wr.heap.size, 0, none⟩ = some (.slice xa xn xc) := (by rw [hI.cell]; rfl); have HW := qh hBB; have hx2 := HX.out.below hBB HX.out.lt; have m1 := hx2.cell 1; have m2 := hx2.cell 2; simp at m1 m2; clear hI hBB hx2) | (go_at_call 69; refine (HKY.out _ HW.out).mono ?_; rintro e w3 ⟨rfl, b3⟩; have HW3 := qh (HW.out.trans (b3.mono HW.out.size)); have hw3 := HWS.out.below HW3.out hgl; have s0 := (hw3.2 k HKL.out).1; have f0 := (hw3.2 k HKL.out).2; have HWS3 := qh hw3; clear b3 hw3))
   have HNEW : Hid (KeysRelX given on la ln lc card ia im ic ns inc es w (.int .i64 ((k : Int) + 1)) (w3.setCell ⟨w.heap.size + 1, k, none⟩ (.string S))) := qh (by
    refine ⟨⟨k + 1, l.set k S, by first | rfl | (congr 1; omega), by omega, by rw [List.length_set]; exact HLL.out, HWS3.out.set k S HKL.out, fun i hi => ?_, (HB.out.trans (HW3.out.mono HB.out.size)).setCell (p := ⟨w.heap.size + 1, k, none⟩) (Nat.le_succ _) _⟩, ?_⟩
    ·rw [nsAt_set HKL.out]
     by_cases hik : k = i
     ·rw [if_pos hik, ← hik]; exact HS.out
     ·rw [if_neg hik]; exact HDO.out i (by omega)
    ·exact (HX.out.below HW3.out HX.out.lt).other (by show w.heap.size + 1 ≠ w.heap.size; omega) _)
   go_roundw
   case rel => exact HNEW.out
   case measure => simp [intOf]; omega
  ·have hkn : ¬ (k : Int) < (n : Int) := by omega
   have HE : Hid (l = es.map (keyE ⟨given, on, la, ln, lc, card, ia, im, ic, ns, inc⟩)) := qh (by
    apply List.ext_getElem
    ·rw [HLL.out, List.length_map]
    ·intro i h1 h2
     have := HDO.out i (by rw [HLL.out] at h1; omega)
     rw [nsAt_get h1, erAt_get (by rw [HLL.out] at h1; exact h1)] at this
     rw [List.getElem_map]; exact this)
   clear hrw
   go_wp2_with fail
   go_ret
   refine ⟨w.heap.size + 1, by rw [hln]; rfl, ?_, HB.out⟩
   have hrow := HWS.out.row (by rw [HLL.out]; omega) (fun s hs => by
    rw [HE.out] at hs
    obtain ⟨e, he, rfl⟩ := List.mem_map.1 hs
    have := HL.out e he
    unfold SmallT keyE
    show ((keyL ns (!on) e.ls).toArray).size ≤ _
    rw [List.size_toArray]; omega)
   rw [HLL.out, HE.out] at hrow
   exact hrow
end Go.Proofs.YtmmfjknnbkcniaaGreatDoor
namespace Go.Proofs.YtmmfjknnbkcniaaGreatDoor
open Go.Fl Go.Rel Go.RowKit Go.Maps Go.WideMaps
set_option linter.unusedSimpArgs false
set_option linter.unusedVariables false
def MapF (w : World) (b n : Nat) (f : ByteArray → Int) : Prop :=
 ∃ D : DataW Unit, w.ownsMap Tryz.prog 9 (plainElem Tryz.prog 3) b n D ∧ ∀ s : ByteArray, D.atKey (.string s.data.toList) (.lit (.int .i64 0)) = .lit (.int .i64 (f s))
theorem MapF.made (w : World) : MapF (w.alloc (.map #[] 0)) w.heap.size 0 (fun _ => 0) := ⟨.map [], World.ownsMap_made _ _ _ _, fun s => rfl⟩
theorem MapF.stay {w w' : World} {b n : Nat} {f : ByteArray → Int} (h : MapF w b n f) (hb : w'.heap[b]? = w.heap[b]?) : MapF w' b n f := by
 obtain ⟨D, ⟨es, clock, h1, h2, h3, h4⟩, hf⟩ := h
 exact ⟨D, ⟨es, clock, by rw [hb]; exact h1, h2, h3, h4⟩, hf⟩
theorem MapF.lt {w : World} {b n : Nat} {f : ByteArray → Int} (h : MapF w b n f) : b < w.heap.size := by
 obtain ⟨D, h1, _⟩ := h; exact h1.lt
theorem MapF.below {w w' : World} {b n k : Nat} {f : ByteArray → Int} (h : MapF w b n f) (hb : Below k w w') (hk : b < k) : MapF w' b n f := h.stay (hb.block b hk)
theorem MapF.mono {w : World} {b n n' : Nat} {f : ByteArray → Int} (h : MapF w b n f) (hn : n ≤ n') : MapF w b n' f := by
 obtain ⟨D, h1, h2⟩ := h; exact ⟨D, h1.mono hn, h2⟩
theorem keyed_str : Keyed Tryz.prog 9 := string_keyed Tryz.underlying9
theorem zero_int (w : World) : (zeroValue 3).run Tryz.prog w = .ok (.int .i64 0) w := by kernel_rfl
theorem keyOf_str (s : ByteArray) (hs : s.size ≤ maxLen) : keyOf Tryz.prog 9 (.string s) = some (.string s.data.toList) := keyOf_string_mk Tryz.underlying9 hs
theorem wpList_lookup_F {ops : Array Oper} {rest : List Oper} {o : Oper} {a : Act} {Q : Exit → Act → World → Prop} {w : World} (hg : o.guard = none) (m x : Operand) (ho : o.op = Op.lookup 79 m x false)
  (b n : Nat) (f : ByteArray → Int) (hm : a.eval m = .map (some b)) (hown : MapF w b n f) (s : ByteArray) (hx : a.eval x = .string s) (hs : s.size ≤ maxLen)
  (h : wpList Tryz.prog ops Q rest (a.put o.dst (.int .i64 (f s))) w) : wpList Tryz.prog ops Q (o :: rest) a w := by
 obtain ⟨D, h1, h2⟩ := hown
 refine wpList_lookup_own_int w hg m x 79 ho 9 3 .i64 keyed_str Tryz.underlying79 Tryz.underlying3 (zero_int w) b n D hm h1 (.string s) (.string s.data.toList) hx (keyOf_str s hs) ?_
 intro c hc _
 rw [h2 s] at hc
 injection hc with hc
 injection hc with _ hc
 rw [← hc]; exact h
theorem wpList_update_F {ops : Array Oper} {rest : List Oper} {o : Oper} {a : Act} {Q : Exit → Act → World → Prop} {w : World} (hg : o.guard = none) (m x v : Operand) (ho : o.op = Op.mapUpdate 79 m x v)
  (b n : Nat) (f : ByteArray → Int) (hm : a.eval m = .map (some b)) (hown : MapF w b n f) (hn : n < maxLen) (s : ByteArray) (hx : a.eval x = .string s) (hs : s.size ≤ maxLen) (z : Int) (hv : a.eval v = .int .i64 z) (hz : -9223372036854775808 ≤ z ∧ z ≤ 9223372036854775807)
  (h : ∀ w', MapF w' b (n + 1) (fun t => if t.data.toList = s.data.toList then z else f t) → w.grownBy w' (some b) → wpList Tryz.prog ops Q rest (a.put o.dst undef) w') : wpList Tryz.prog ops Q (o :: rest) a w := by
 obtain ⟨D, h1, h2⟩ := hown
 refine wpList_mapUpdate_own w hg m x v 79 ho 9 3 keyed_str Tryz.underlying79 _ b n D hm h1 hn (.string s) (.int .i64 z) (.string s.data.toList) hx hv (keyOf_str s hs) _ [] (plainElem_int Tryz.underlying3 (by simpa [Lit.wf, IntKind.min, IntKind.max, IntKind.signed, IntKind.bits] using hz)) ?_
 intro w' hw hgb
 refine h w' ⟨_, hw, fun t => ?_⟩ hgb
 have hD : IsMap D := by obtain ⟨es, clock, _, _, _, rfl⟩ := h1; first | trivial | exact ⟨_, rfl⟩ | simp [IsMap]
 by_cases e : t.data.toList = s.data.toList
 ·dsimp only
  rw [if_pos e, e, atKey_put_same hD (by first | trivial | simp [WideAt.IsKeyLit] | exact ⟨_, rfl⟩)]
 ·dsimp only
  rw [if_neg e, atKey_put_other (fun h => e (by injection h))]
  exact h2 t
end Go.Proofs.YtmmfjknnbkcniaaGreatDoor
namespace Go.Fl
def cntT (l : List ByteArray) (t : ByteArray) : Nat := l.countP fun s => decide (s.data.toList = t.data.toList)
theorem cntT_take {l : List ByteArray} {k : Nat} (h : k < l.length) (t : ByteArray) : cntT (l.take (k + 1)) t = cntT (l.take k) t + (if t.data.toList = (nsAt l k).data.toList then 1 else 0) := by
 unfold cntT
 rw [List.take_add_one, List.getElem?_eq_getElem h, List.countP_append, nsAt_get h]
 simp only [Option.toList_some, List.countP_singleton, decide_eq_true_eq]
 congr 1
 by_cases e : t.data.toList = l[k].data.toList
 ·rw [if_pos e, if_pos e.symm]
 ·rw [if_neg e, if_neg (fun h => e h.symm)]
theorem cntT_le (l : List ByteArray) (t : ByteArray) : cntT l t ≤ l.length := List.countP_le_length
end Go.Fl
namespace Go.Proofs.YtmmfjknnbkcniaaGreatDoor
open Go.Fl Go.Rel Go.RowKit Go.Maps Go.WideMaps
set_option linter.unusedSimpArgs false
set_option linter.unusedVariables false
theorem MapF.eqv {w : World} {b n : Nat} {f g : ByteArray → Int} (h : MapF w b n f) (hg : ∀ t, f t = g t) : MapF w b n g := by
 obtain ⟨D, h1, h2⟩ := h
 exact ⟨D, h1, fun s => by rw [h2 s, hg s]⟩
def CntRel (ns : List ByteArray) (w : World) (v9 : Value) (wr : World) : Prop :=
 ∃ k : Nat, v9 = .int .i64 (k : Int) ∧ k ≤ ns.length ∧ MapF wr w.heap.size k (fun t => (cntT (ns.take k) t : Int)) ∧ Below w.heap.size w wr
def CntRet (ns : List ByteArray) (w : World) (e : Ending) (w' : World) : Prop :=
 e = .returned (.map (some w.heap.size)) ∧ MapF w' w.heap.size ns.length (fun t => (cntT ns t : Int)) ∧ Below w.heap.size w w'
theorem counted_any (a : Option Addr) (n cap : Nat) (ns : List ByteArray) (w : World) (hr : NRow w a n ns) (hn : n ≤ 4398046511104) :
  Calls Tryz.prog 48 #[.slice a n cap] w (CntRet ns w) := by
 have HR := qh hr
 have hl := hr.1
 have n1 : (n : Int) ≤ 4398046511104 := by omega
 have n0 : (0 : Int) ≤ (n : Int) := by omega
 have hmk : (Instr.makeMap 79 none).run Tryz.prog w = .ok (.map (some w.heap.size)) (w.alloc (.map #[] 0)) := run_makeMap_plain (P := Tryz.prog) (w := w) 79
 have HM0 := qh (MapF.made w)
 have HB0 := qh ((Below.refl w.heap.size w).alloc (Nat.le_refl _) (.map #[] 0))
 clear hr hn
 go_enter Tryz.func48, Tryz.ntmps48
 go_wp2_with fail
 go_loopw [9] (CntRel ns w) (fun v _ => n - (intOf v).toNat)
 case atStart => exact ⟨0, rfl, by omega, HM0.out.eqv fun t => rfl, HB0.out⟩
 case round =>
  obtain ⟨k, rfl, hk, hmap, bel⟩ := hrel
  have HM := qh hmap
  have HB := qh bel
  have hrw := HR.out.below bel
  clear hmap bel
  by_cases hlt : k < n
  ·have dl : decide ((k : Int) < (n : Int)) = true := decide_eq_true (by omega)
   obtain ⟨b, off, rfl, hb, hc⟩ := hrw.2.2.2 (by omega)
   have x0 := hc k hlt
   have k1 : (0 : Int) ≤ (k : Int) := by omega
   have k2 : (k : Int) < (n : Int) := by omega
   have HT := qh (fun t => cntT_take (by omega : k < ns.length) t)
   have hsm : SmallT (nsAt ns k) := hrw.2.2.1 _ (by rw [nsAt_get (by omega)]; exact List.getElem_mem _)
   have hle : cntT (ns.take k) (nsAt ns k) ≤ k := Nat.le_trans (cntT_le _ _) (by simp; omega)
   generalize nsAt ns k = s at *
   have HS : Hid (s.size ≤ maxLen) := qh (by unfold SmallT at hsm; unfold maxLen; omega)
   have HLE := qh hle
   clear hc hrw hsm hle
   have hcw : IntKind.i64.wrap ((cntT (ns.take k) s : Int) + 1) = (cntT (ns.take k) s : Int) + 1 := by rw [IntKind.wrap_i64]; have := HLE.out; omega
   go_wp2_with (first | (at_lookup; refine wpList_lookup_F rfl _ _ rfl w.heap.size k _ rfl HM.out s rfl HS.out ?_) | (at_mapUpdate; refine wpList_update_F rfl _ _ _ rfl w.heap.size k _ rfl HM.out (by unfold maxLen; omega) s rfl HS.out ((cntT (ns.take k) s : Int) + 1) rfl (by have := HLE.out; omega) ?_; intro w5 hm5 hg5; have HM5 := qh hm5; have HG5 := qh hg5; clear hm5 hg5))
   go_roundw
   case rel =>
    refine ⟨k + 1, by first | rfl | (congr 1; omega), by omega, HM5.out.eqv fun t => ?_, HB.out.grown HG5.out HB.out.size (fun b hb => by injection hb with hb; omega)⟩
    rw [HT.out t]
    by_cases e : t.data.toList = s.data.toList
    ·have : cntT (ns.take k) t = cntT (ns.take k) s := by unfold cntT; rw [e]
     rw [if_pos e, if_pos e, this]; omega
    ·rw [if_neg e, if_neg e]; omega
   case measure => simp [intOf]; omega
  ·have hkn : ¬ (k : Int) < (n : Int) := by omega
   have HE : Hid (MapF wr w.heap.size ns.length (fun t => (cntT ns t : Int))) := qh ((HM.out.mono (by omega)).eqv fun t => by rw [List.take_of_length_le (by omega)])
   clear hrw
   go_wp2_with fail
   go_ret
   exact ⟨rfl, HE.out, HB.out⟩
end Go.Proofs.YtmmfjknnbkcniaaGreatDoor
namespace Go.Fl
def getL (N : ByteArray) (ls : List Lb) : ByteArray := match ls.find? (fun l => l.n.toList == N.toList) with | some l => l.v | none => ⟨#[]⟩
def noN (N : ByteArray) (ls : List Lb) : Prop := ∀ l ∈ ls, (l.n.toList == N.toList) = false
theorem noN_snoc {N : ByteArray} {ls : List Lb} {k : Nat} (h : k < ls.length) (h1 : noN N (ls.take k)) (h2 : ((nL ls k).toList == N.toList) = false) : noN N (ls.take (k + 1)) := by
 intro l hl
 rw [List.take_add_one, List.getElem?_eq_getElem h, List.mem_append] at hl
 rcases hl with hl | hl
 ·exact h1 l hl
 ·simp at hl; subst hl; unfold nL at h2; rw [lbAt_get h] at h2; exact h2
theorem getL_at {N : ByteArray} {ls : List Lb} {k : Nat} (h : k < ls.length) (h1 : noN N (ls.take k)) (h2 : ((nL ls k).toList == N.toList) = true) : getL N ls = vL ls k := by
 unfold getL
 have h3 : (ls[k].n.toList == N.toList) = true := by unfold nL at h2; rw [lbAt_get h] at h2; exact h2
 have e : (ls.take k ++ ls[k] :: ls.drop (k + 1)).find? (fun l => l.n.toList == N.toList) = some ls[k] := by
  rw [List.find?_append, List.find?_eq_none.2 (fun x hx => by simp [h1 x hx]), Option.none_or, List.find?_cons_of_pos (by simpa using h3)]
 rw [← List.drop_eq_getElem_cons h, List.take_append_drop] at e
 rw [e]; unfold vL; rw [lbAt_get h]
theorem getL_none {N : ByteArray} {ls : List Lb} (h1 : noN N ls) : getL N ls = ⟨#[]⟩ := by
 unfold getL
 rw [List.find?_eq_none.2 (fun x hx => by simp [h1 x hx])]
end Go.Fl
namespace Go.Proofs.YtmmfjknnbkcniaaGreatDoor
open Go.Fl Go.Rel Go.RowKit Go.Maps Go.WideMaps
set_option linter.unusedSimpArgs false
set_option linter.unusedVariables false
def keepL (ns : List ByteArray) (without : Bool) (ls : List Lb) : List Lb := ls.filter fun l => stayB ns without l.n
theorem keepL_snoc (ns : List ByteArray) (without : Bool) (ls : List Lb) {k : Nat} (h : k < ls.length) : keepL ns without (ls.take (k + 1)) = if stayB ns without (nL ls k) then keepL ns without (ls.take k) ++ [⟨nL ls k, vL ls k⟩] else keepL ns without (ls.take k) := by
 unfold keepL nL vL
 rw [List.take_add_one, List.getElem?_eq_getElem h, List.filter_append, lbAt_get h]
 by_cases e : stayB ns without ls[k].n
 ·rw [if_pos e]; simp [e]
 ·rw [if_neg e]; simp [e]
def RGetRel (N : ByteArray) (ls : List Lb) (w : World) (v : Value) (wr : World) : Prop :=
 ∃ k : Nat, v = .int .i64 (k : Int) ∧ k ≤ ls.length ∧ noN N (ls.take k) ∧ wr = w
def GetRel (N : ByteArray) (ls : List Lb) (w : World) (v : Value) (wr : World) : Prop :=
 ∃ k : Nat, v = .int .i64 (k : Int) ∧ k ≤ ls.length ∧ noN N (ls.take k) ∧ Below w.heap.size w wr
theorem get_any (a : Option Addr) (n cap : Nat) (ls : List Lb) (N : ByteArray) (w : World) (hr : LRow w a n ls) :
  Calls Tryz.prog 73 #[.slice a n cap, .string N] w fun e w' => e = .returned (.string (getL N ls)) ∧ Below w.heap.size w w' := by
 have HR := qh hr
 have hl := hr.1
 have n1 : (n : Int) ≤ 9223372036854775807 := by have := hr.2.1; omega
 clear hr
 go_enter Tryz.func73, Tryz.ntmps73
 go_wp2_with fail
 go_loopw [9] (GetRel N ls w) (fun v _ => n - (intOf v).toNat)
 case atStart => exact ⟨0, rfl, by omega, fun l hl => absurd hl List.not_mem_nil, Below.refl _ _⟩
 case round =>
  obtain ⟨k, rfl, hk, hno, bel⟩ := hrel
  have hrw := HR.out.below bel
  have HB := qh bel
  have HNO := qh hno
  clear bel hno
  by_cases hlt : k < n
  ·have dl : decide ((k : Int) < (n : Int)) = true := decide_eq_true (by omega)
   obtain ⟨b, off, rfl, hb, hc⟩ := hrw.2.2.2 (by omega)
   obtain ⟨x0, x1⟩ := hc k hlt
   have k1 : (0 : Int) ≤ (k : Int) := by omega
   have k2 : (k : Int) < (n : Int) := by omega
   have HA := qh (fun h => getL_at (N := N) (by omega : k < ls.length) HNO.out h)
   have HS := qh (fun h => noN_snoc (N := N) (by omega : k < ls.length) HNO.out h)
   clear hc hrw
   generalize nL ls k = xn at *
   generalize vL ls k = xv at *
   cases he : (xn.toList == N.toList)
   ·go_wp2_with fail
    go_roundw
    case rel => exact ⟨k + 1, by first | rfl | (congr 1; omega), by omega, HS.out he, HB.out.alloc HB.out.size _⟩
    case measure => simp [intOf]; omega
   ·go_wp2_with fail
    go_ret
    exact ⟨by rw [HA.out he]; rfl, HB.out.alloc HB.out.size _⟩
  ·have hkn : ¬ (k : Int) < (n : Int) := by omega
   have HE : Hid (getL N ls = ⟨#[]⟩) := qh (getL_none (by have := HNO.out; rwa [List.take_of_length_le (by omega)] at this))
   clear hrw
   go_wp2_with fail
   go_ret
   exact ⟨by rw [HE.out]; rfl, HB.out⟩
theorem rget_any (a : Option Addr) (n cap : Nat) (ls : List Lb) (N : ByteArray) (w : World) (hr : LRow w a n ls) :
  Calls Tryz.prog 101 #[.slice a n cap, .string N] w fun e w' => e = .returned (.string (getL N ls)) ∧ w' = w := by
 have HR := qh hr
 have hl := hr.1
 have n1 : (n : Int) ≤ 9223372036854775807 := by have := hr.2.1; omega
 clear hr
 go_enter Tryz.func101, Tryz.ntmps101
 go_wp2_with fail
 go_loopw [5] (RGetRel N ls w) (fun v _ => n - (intOf v).toNat)
 case atStart => exact ⟨0, rfl, by omega, fun l hl => absurd hl List.not_mem_nil, rfl⟩
 case round =>
  obtain ⟨k, rfl, hk, hno, rfl⟩ := hrel
  have hrw := HR.out
  have HNO := qh hno
  clear hno
  by_cases hlt : k < n
  ·have dl : decide ((k : Int) < (n : Int)) = true := decide_eq_true (by omega)
   obtain ⟨b, off, rfl, hb, hc⟩ := hrw.2.2.2 (by omega)
   obtain ⟨x0, x1⟩ := hc k hlt
   have k1 : (0 : Int) ≤ (k : Int) := by omega
   have k2 : (k : Int) < (n : Int) := by omega
   have HA := qh (fun h => getL_at (N := N) (by omega : k < ls.length) HNO.out h)
   have HS := qh (fun h => noN_snoc (N := N) (by omega : k < ls.length) HNO.out h)
   clear hc hrw
   generalize nL ls k = xn at *
   generalize vL ls k = xv at *
   cases he : (xn.toList == N.toList)
   ·go_wp2_with fail
    go_roundw
    case rel => exact ⟨k + 1, by first | rfl | (congr 1; omega), by omega, HS.out he, rfl⟩
    case measure => simp [intOf]; omega
   ·go_wp2_with fail
    go_ret
    exact ⟨by rw [HA.out he]; rfl, rfl⟩
  ·have hkn : ¬ (k : Int) < (n : Int) := by omega
   have HE : Hid (getL N ls = ⟨#[]⟩) := qh (getL_none (by have := HNO.out; rwa [List.take_of_length_le (by omega)] at this))
   clear hrw
   go_wp2_with fail
   go_ret
   exact ⟨by rw [HE.out]; rfl, rfl⟩
theorem has_any (a : Option Addr) (n cap : Nat) (ns : List ByteArray) (u : ByteArray) (w : World) (hr : NRow w a n ns) :
  Calls Tryz.prog 99 #[.slice a n cap, .string u] w fun e w' => e = .returned (.bool (inN ns u)) ∧ w' = w := by
 have HR := qh hr
 have hl := hr.1
 have n1 : (n : Int) ≤ 9223372036854775807 := by have := hr.2.1; omega
 clear hr
 go_enter Tryz.func99, Tryz.ntmps99
 go_wp2_with fail
 go_loopw [5] (IdxRel ns u w) (fun v _ => n - (intOf v).toNat)
 case atStart => exact ⟨0, rfl, by omega, rfl, rfl⟩
 case round =>
  obtain ⟨k, rfl, hk, hno, rfl⟩ := hrel
  by_cases hlt : k < n
  ·have dl : decide ((k : Int) < (n : Int)) = true := decide_eq_true (by omega)
   obtain ⟨b, off, rfl, hb, hc⟩ := HR.out.2.2.2 (by omega)
   have x0 := hc k hlt
   have k1 : (0 : Int) ≤ (k : Int) := by omega
   have k2 : (k : Int) < (n : Int) := by omega
   have HT := qh (inN_take (u := u) (by omega : k < ns.length))
   have HY := qh (fun h => inN_yes (u := u) (by omega : k < ns.length) h)
   rw [hno, Bool.false_or] at HT
   clear hc hno
   generalize nsAt ns k = s at *
   cases he : (s.toList == u.toList)
   ·go_wp2_with fail
    go_roundw
    case rel => exact ⟨k + 1, by first | rfl | (congr 1; omega), by omega, by rw [HT.out]; exact he, rfl⟩
    case measure => simp [intOf]; omega
   ·go_wp2_with fail
    go_ret
    exact ⟨by rw [HY.out he]; rfl, rfl⟩
  ·have hkn : ¬ (k : Int) < (n : Int) := by omega
   have HE : Hid (inN ns u = false) := qh (by rw [← hno, List.take_of_length_le (by omega)])
   clear hno
   go_wp2_with fail
   go_ret
   exact ⟨by rw [HE.out]; rfl, rfl⟩
def KeepIn (ns : List ByteArray) (u : ByteArray) (w : World) (v9 v10 : Value) (wr : World) : Prop :=
 ∃ k m : Nat, v10 = .int .i64 (k : Int) ∧ k ≤ ns.length ∧ v9 = .bool (inN (ns.take k) u) ∧ wr = w.drewN m
def KeepRel (ns : List ByteArray) (without : Bool) (ls : List Lb) (w : World) (v7 v8 : Value) (wr : World) : Prop :=
 ∃ k : Nat, v8 = .int .i64 (k : Int) ∧ k ≤ ls.length ∧ OwnL w.heap.size wr v7 (keepL ns without (ls.take k)) ∧ Below w.heap.size w wr
theorem rkeep_any (a : Option Addr) (n cap : Nat) (ls : List Lb) (b : Option Addr) (m cb : Nat) (ns : List ByteArray) (without : Bool) (w : World) (hr : LRow w a n ls) (hn : NRow w b m ns) (hl : n ≤ 4398046511104) :
  Calls Tryz.prog 64 #[.slice a n cap, .slice b m cb, .bool without] w (NewL (keepL ns without ls) w) := by
 have HR := qh hr
 have HN := qh hn
 have hln := hr.1
 have hnn := hn.1
 have n1 : (n : Int) ≤ 4398046511104 := by omega
 have m1 : (m : Int) ≤ 9223372036854775807 := by have := hn.2.1; omega
 clear hr hn hl
 go_enter Tryz.func64, Tryz.ntmps64
 go_wp2_with fail
 go_loopw [7, 8] (KeepRel ns without ls w) (fun _ v _ => n - (intOf v).toNat)
 case atStart => exact ⟨0, rfl, by omega, ownL_nil _ _, Below.refl _ _⟩
 case round =>
  obtain ⟨k, rfl, hk, own, bel⟩ := hrel
  have hrw := HR.out.below bel
  have HO := qh own
  have HB := qh bel
  have HNW := qh (HN.out.below bel)
  clear own bel
  by_cases hlt : k < n
  ·obtain ⟨b0, off, rfl, hb, hc⟩ := hrw.2.2.2 (by omega)
   obtain ⟨x0, x1⟩ := hc k hlt
   have k1 : (0 : Int) ≤ (k : Int) := by omega
   have k2 : (k : Int) < (n : Int) := by omega
   have HE := qh (keepL_snoc ns without ls (by omega : k < ls.length))
   have HL : Hid ((keepL ns without (ls.take k)).length ≤ k) := qh (Nat.le_trans (List.length_filter_le ..) (by simp; omega))
   clear hc hrw
   generalize nL ls k = xn at *
   generalize vL ls k = xv at *
   go_wp2_with fail
   go_loopw [9, 10] (KeepIn ns xn wr) (fun _ v _ => m - (intOf v).toNat)
   case atStart => exact ⟨0, 0, rfl, by omega, rfl, rfl⟩
   case round =>
    obtain ⟨j, q, rfl, hj, rfl, rfl⟩ := hrel
    by_cases hlt2 : j < m
    ·obtain ⟨b2, off2, rfl, hb2, hc2⟩ := HNW.out.2.2.2 (by omega)
     have y0 := hc2 j hlt2
     have k3 : (0 : Int) ≤ (j : Int) := by omega
     have k4 : (j : Int) < (m : Int) := by omega
     have HT := qh (inN_take (u := xn) (by omega : j < ns.length))
     clear hc2
     generalize nsAt ns j = s at *
     have s0 : (wr.drewN (q + 1)).cell? ⟨b0, off + k * 2, none⟩ = some (.string xn) := x0
     have s1 : (wr.drewN (q + 1)).cell? ⟨b2, off2 + j, none⟩ = some (.string s) := y0
     cases he : (s.toList == xn.toList)
     all_goals
      go_wp2_with fail
      go_quiet (fail)
      rw [World.drewN_drewN]
      go_wp2_with fail
      go_roundw
      case rel => exact ⟨j + 1, _, by first | rfl | (congr 1; omega), by omega, by rw [HT.out, he]; simp, rfl⟩
      case measure => simp [intOf]; omega
    ·have hkn : ¬ (j : Int) < (m : Int) := by omega
     have HS : Hid (inN (ns.take j) xn = inN ns xn) := qh (by rw [List.take_of_length_le (by omega)])
     rw [HS.out]
     have s0 : (wr.drewN q).cell? ⟨b0, off + k * 2, none⟩ = some (.string xn) := x0
     have s1 : (wr.drewN q).cell? ⟨b0, off + k * 2 + 1, none⟩ = some (.string xv) := x1
     have HOQ : Hid (OwnL w.heap.size (wr.drewN q) u7 (keepL ns without (ls.take k))) := qh (HO.out.drewN q)
     have HBQ : Hid (Below w.heap.size w (wr.drewN q)) := qh (HB.out.drewN' q)
     clear x0 x1
     generalize wr.drewN q = W at *
     unfold stayB at HE
     have hmk : (⟨#[95, 95, 110, 97, 109, 101, 95, 95]⟩ : ByteArray).toList = [95, 95, 110, 97, 109, 101, 95, 95] := by rw [ByteArray.toList_eq]
     rw [hmk] at HE
     clear hmk
     generalize inN ns xn = i at *
     cases hmn : (xn.toList == [95, 95, 110, 97, 109, 101, 95, 95])
     all_goals (rw [hmn] at HE; cases without)
     all_goals (cases i)
     all_goals
      go_wp2_with (at_builtin; refine wpList_append_lb rfl (.tmp 53) (.tmp 58) rfl w.heap.size _ _ rfl (HOQ.out.alloc _) W.heap.size _ ⟨xn, xv⟩ rfl (by rw [World.cell?_alloc_at _ _ _ _ (by simp)]; rfl) (by rw [World.cell?_alloc_at _ _ _ _ (by simp)]; rfl) (by have := HL.out; omega) (by have := HBQ.out.size; simp; omega) ?_; intro v' w' own' gb hv; have HO2 := qh own'; have HB2 := qh ((HOQ.out.alloc _).grown (HBQ.out.alloc HBQ.out.size _) gb (by have := HBQ.out.size; simp; omega)); clear own' gb hv)
      go_roundw
      case rel => first | exact ⟨k + 1, by first | rfl | (congr 1; omega), by omega, by rw [HE.out]; exact HO2.out, HB2.out⟩ | exact ⟨k + 1, by first | rfl | (congr 1; omega), by omega, by rw [HE.out]; exact HOQ.out, HBQ.out⟩
      case measure => simp [intOf]; omega
  ·have hkn : ¬ (k : Int) < (n : Int) := by omega
   have HE : Hid (keepL ns without (ls.take k) = keepL ns without ls) := qh (by rw [List.take_of_length_le (by omega)])
   clear hrw
   go_wp2_with fail
   go_ret
   exact ⟨_, rfl, by rw [← HE.out]; exact HO.out, HB.out⟩
end Go.Proofs.YtmmfjknnbkcniaaGreatDoor
