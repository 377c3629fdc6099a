/- pair.Mixed: the walk. weirref21.Mixed: the walk. (Printed by tools/genmixb.py.) pair.Negate: the walk. weirref21.Negate: the walk. -/
import Derived.Test.YtmmfjknnbkcniaaGreatDoorQ19
import Derived.Deep.RegionWith
namespace Go.Proofs.YtmmfjknnbkcniaaGreatDoor
open Go.Fl Go.Rel Go.RowKit Go.Sort
set_option linter.unusedSimpArgs false
set_option linter.unusedVariables false

def pickA (left : Bool) (x v : Nat) : Nat := if left then x else v
def pickB (left : Bool) (x v : Nat) : Nat := if left then v else x
/-- What becomes of an element. -/
noncomputable def stepM (k x : Nat) (left yes : Bool) (e : Ek) : Option Ek :=
  if stepO k (pickA left x e.2) (pickB left x e.2) yes then some (if stepF k yes then e.1 else sansL MN e.1, stepV k (pickA left x e.2) (pickB left x e.2) e.2 yes) else none
/-- What Mixed answers: the error, the elements. -/
noncomputable def mixE (k x : Nat) (left yes : Bool) (ks : List Ek) : Int := match vecK ks with
  | none => 5
  | some ms => if k < 12 then setE (ms.filterMap (stepM k x left yes)) else 7
noncomputable def mixV (k x : Nat) (left yes : Bool) (ks : List Ek) : List Ek := match vecK ks with
  | none => []
  | some ms => if k < 12 then setV (ms.filterMap (stepM k x left yes)) else []

/-- An element that is what it was, or has labels of its own. -/
def ErKeep (w0 w : World) (e : Er) : Prop := ErOk w0 e ∨ ErOwn w0.heap.size w e
theorem ErKeep.ok {w0 w : World} {e : Er} (h : ErKeep w0 w e) (hb : Below w0.heap.size w0 w) : ErOk w e := by
  rcases h with h | h
  · exact h.below hb
  · exact h.ok
theorem ErKeep.below {w0 w w' : World} {e : Er} (h : ErKeep w0 w e) (hb : Below w.heap.size w w') : ErKeep w0 w' e := by
  rcases h with h | h
  · exact .inl h
  · exact .inr (h.below hb)
theorem ErKeep.grown {B : Nat} {w0 w w' : World} {v : Value} {es : List Er} {e : Er} (h : ErKeep w0 w e) (hv : OwnE B w v es) (hg : w.grownBy w' v.ownBlock) : ErKeep w0 w' e := by
  rcases h with h | h
  · exact .inl h
  · exact .inr (h.grown hv hg)
theorem OwnE.setCell {B g i : Nat} {w : World} {v u : Value} {es : List Er} (h : OwnE B w v es) (hg : v.ownBlock ≠ some g) : OwnE B (w.setCell ⟨g, i, none⟩ u) v es :=
  h.stay fun k hk => by
    have : g ≠ k := fun e => hg (by rw [e]; exact hk)
    unfold World.setCell
    simp [Array.getElem?_modify]
    intro e; exact absurd e this
theorem cell_set1 {w : World} {g i : Nat} {q : Addr} {u x : Value} (h : w.cell? q = some x) (hne : q.block ≠ g) : (w.setCell ⟨g, i, none⟩ u).cell? q = some x := by
  rw [World.cell?_setCell_other _ _ _ _ (fun e => hne (by rw [← e])), h]
theorem ErOwn.setCell {B g i : Nat} {w : World} {u : Value} {e : Er} (h : ErOwn B w e) (hg : (Value.slice e.a e.n e.c).ownBlock ≠ some g) : ErOwn B (w.setCell ⟨g, i, none⟩ u) e :=
  ⟨h.1.stay fun k hk => by
    have : g ≠ k := fun e => hg (by rw [e]; exact hk)
    unfold World.setCell
    simp [Array.getElem?_modify]
    intro e; exact absurd e this, h.2⟩

def MixRel (es : List Er) (f : Ek → Option Ek) (w : World) (v13 v36 : Value) (wr : World) : Prop :=
  ∃ (j : Nat) (O : List Er), v36 = .int .i64 (j : Int) ∧ j ≤ es.length ∧ OwnE w.heap.size wr v13 O ∧ (∀ e ∈ O, ErKeep w wr e) ∧
    O.map (fun x => clK x.key) = ((es.take j).map Er.key).filterMap f ∧ O.length ≤ j ∧ Below w.heap.size w wr

theorem filt_snoc {es : List Er} {f : Ek → Option Ek} {j : Nat} (h : j < es.length) : ((es.take (j + 1)).map Er.key).filterMap f = ((es.take j).map Er.key).filterMap f ++ (match f (erAt es j).key with | none => [] | some y => [y]) := by
  rw [List.take_add_one, List.getElem?_eq_getElem h, List.map_append, List.filterMap_append, erAt_get h]
  congr 1
  simp only [Option.toList, List.map_cons, List.map_nil, List.filterMap_cons, List.filterMap_nil]
  cases f es[j].key <;> rfl

set_option maxHeartbeats 8000000 in
set_option maxRecDepth 100000 in
theorem mixedO_any (u : ByteArray) (a : Option Addr) (n cap x : Nat) (es : List Er) (left yes : Bool) (w : World) (hr : ERow w a n es) (hx : W64 x) (hf : ∀ e ∈ es, W64 e.f) :
    Calls Tryz.prog 15 #[.string u, .slice a n cap, .float .f64 x, .bool left, .bool yes] w (AnsO (mixE (opK u.toList) x left yes (es.map Er.key)) (mixV (opK u.toList) x left yes (es.map Er.key)) w) := by
  have HC := Lib.hid (vector_any a n cap es w hr)
  have HF := Lib.hid hf
  have HX := Lib.hid hx
  have HA := Lib.hid (arith_any u)
  have HM : Hid (¬ opK u.toList < 6 → ∀ w, _) := Lib.hid (fun h w => compar_any u w h)
  unfold mixE mixV
  cases hv : vecK (es.map Er.key) with
  | none =>
    unfold VecRet at HC
    rw [hv] at HC
    dsimp only at HC
    clear hv hr hf hx HM
    go_enter Tryz.func15, Tryz.ntmps15
    go_wp2_with (go_at_call 19; refine HC.out.mono ?_; rintro e w1 ⟨rfl, bl⟩)
    go_ret2
    exact AnsO.nil _ 0 (bl) rfl
  | some ms =>
    unfold VecRet at HC
    rw [hv] at HC
    dsimp only at HC ⊢
    clear hv hr hf hx
    by_cases hk : opK u.toList < 12
    · rw [if_pos hk, if_pos hk]
      have HK := Lib.hid hk
      have HM2 : Hid (¬ opK u.toList < 6 → ∀ w, _) := Lib.hid (fun h w => compar_any u w h)
      rw [decide_eq_true hk] at HM2
      by_cases hk6 : opK u.toList < 6
      · rw [decide_eq_true hk6] at HA
        clear hk hk6 HM
        have HNM : Hid (∀ W, Below w.heap.size w W → True) := Lib.hid fun _ _ => trivial
        go_enter Tryz.func15, Tryz.ntmps15
        go_wp2_with (first | (go_at_call 19; refine HC.out.mono ?_; intro e w1 hg; obtain ⟨a2, c2, vs, rfl, h1, h2, h3, h4, h5⟩ := hg.row; have HS := Lib.hid h1; have HR2 := Lib.hid h2; have HK2 := Lib.hid h3; have HF2 := Lib.hid h4; have HB := Lib.hid h5; clear h1 h2 h3 h4 h5 hg) | (go_at_call 22; refine (HA.out _).mono ?_; rintro e w3 ⟨rfl, nd, rfl⟩) | (go_at_call 23; refine (HM2.out _).mono ?_; rintro e w3 ⟨rfl, rfl⟩))
        have HRW := Lib.hid (HR2.out.below ((Below.refl _ w1).drewN' nd))
        have HBW := Lib.hid (HB.out.drewN' nd)
        have hvl : (vs.length : Int) ≤ 4398046511104 := by have := HR2.out.2.1; omega
        clear HR2 HB HC HA HM2
        generalize w1.drewN nd = w2 at HRW HBW ⊢
        go_loopw [13, 36] (MixRel vs (stepM (opK u.toList) x left yes) w2) (fun _ v _ => vs.length - (intOf v).toNat)
        case atStart => exact ⟨0, [], rfl, by omega, ownE_nil _ _, fun e he => absurd he List.not_mem_nil, rfl, by simp, Below.refl _ _⟩
        case round =>
          obtain ⟨j, O, rfl, hj, own, hok, hkey, hol, bel⟩ := hrel
          have HO := Lib.hid own
          have HOK := Lib.hid hok
          have HKEY := Lib.hid hkey
          have HOL := Lib.hid hol
          have HB2 := Lib.hid bel
          have hrw := HRW.out.below bel
          clear own hok hkey hol bel
          by_cases hlt : j < vs.length
          · obtain ⟨b, off, rfl, hb, hc⟩ := hrw.2.2.2 (by omega)
            obtain ⟨x0, x1⟩ := hc j hlt
            have k1 : (0 : Int) ≤ (j : Int) := by omega
            have k2 : (j : Int) < (vs.length : Int) := by omega
            generalize hxx : erAt vs j = y at x0 x1
            have HXX := Lib.hid hxx
            have hyo : ErOk w2 y := by rw [← hxx, erAt_get hlt]; exact HRW.out.2.2.1 _ (List.getElem_mem _)
            have hyf : W64 y.f := by
              obtain ⟨z, hz, hzf⟩ := HF2.out y (by rw [← hxx, erAt_get hlt]; exact List.getElem_mem _)
              rw [hzf]; exact HF.out z hz
            obtain ⟨xa, xn, xc, xf, xl⟩ := y
            dsimp only at x0 x1 hyf
            have HYO := Lib.hid hyo
            have HFS := Lib.hid (filt_snoc (f := stepM (opK u.toList) x left yes) hlt)
            rw [HXX.out] at HFS
            have HWK : Hid (∀ W, Calls Tryz.prog 29 #[.string u, .float .f64 (pickA left x xf), .float .f64 (pickB left x xf), .float .f64 xf, .bool yes] W (WorkRet (opK u.toList) (pickA left x xf) (pickB left x xf) xf yes W)) := Lib.hid fun W =>
              worked_any u _ _ xf yes W (by unfold pickA; cases left; exact hyf; exact HX.out) (by unfold pickB; cases left; exact HX.out; exact hyf) HK.out
            have HNL : Hid (∀ W, Below w2.heap.size w2 W → Calls Tryz.prog 27 #[.slice xa xn xc] W fun e w' => ∃ a c, e = .returned (.slice a (sansL MN xl).length c) ∧ OwnL W.heap.size w' (.slice a (sansL MN xl).length c) (sansL MN xl) ∧ Below W.heap.size W w') := Lib.hid fun W hW =>
              (nameless_any xa xn xc xl W (HYO.out.1.below hW) HYO.out.2.2).mono fun e w' h => h.own
            have HSM : Hid (SmallL (sansL MN xl) ∧ (sansL MN xl).length ≤ 4398046511104) := Lib.hid ⟨sansL_small _ HYO.out.1.2.2.1, Nat.le_trans (sansL_length _ _) (by have := HYO.out.1.1; have := HYO.out.2.2; dsimp only at *; omega)⟩
            have HST : Hid (stepM (opK u.toList) x left yes (Er.key ⟨xa, xn, xc, xf, xl⟩) = if stepO (opK u.toList) (pickA left x xf) (pickB left x xf) yes then some (if stepF (opK u.toList) yes then xl else sansL MN xl, stepV (opK u.toList) (pickA left x xf) (pickB left x xf) xf yes) else none) := Lib.hid rfl
            rw [HST.out] at HFS
            clear HST
            unfold WorkRet at HWK
            generalize stepO (opK u.toList) (pickA left x xf) (pickB left x xf) yes = o at *
            generalize stepF (opK u.toList) yes = fl at *
            generalize stepV (opK u.toList) (pickA left x xf) (pickB left x xf) xf yes = V at *
            clear hc hrw hxx hyo hyf
            cases left with
            | false =>
              simp only [pickA, pickB, if_true, if_false, Bool.false_eq_true, reduceIte] at HWK
              cases o with
              | false =>
                go_wp2_with (first | (refine Bk.is_store 34 rfl ?_; refine Bk.wpList_store_box (w0 := wr) (N := 0) rfl 34 _ _ rfl #[.slice xa xn xc, .float .f64 xf] #[.slice none 0 0, .float .f64 0] 34 rfl rfl (by kernel_rfl) rfl (by kernel_rfl) ?_; intro W hI hB; have e0 : W.cell? ⟨wr.heap.size, 0, none⟩ = some (.slice xa xn xc) := (by rw [hI.cell]; rfl); have e1 : W.cell? ⟨wr.heap.size, 1, none⟩ = some (.float .f64 xf) := (by rw [hI.cell]; rfl); have HI := Lib.hid hI; have HW := Lib.hid hB; clear hI hB) | (go_at_call 29; refine (HWK.out _).mono ?_; rintro e w3 ⟨r, rfl, hr, b3⟩; have c0 := cell_stayL e0 b3; have c1 := cell_stayL e1 b3; have HR := Lib.hid hr; have HI3 := Lib.hid (HI.out.below b3 HI.out.lt); have HW3 := Lib.hid (HW.out.trans (b3.mono HW.out.size)); clear hr b3) | (refine Bk.is_store 59 rfl ?_; refine Bk.wpList_store_box (w0 := w3) (N := 0) rfl 59 _ _ rfl #[.float .f64 r, .bool false, .bool fl] #[.float .f64 0, .bool false, .bool false] 59 rfl rfl (by kernel_rfl) rfl (by kernel_rfl) ?_; intro W4 hI4 hB4; have g0 : W4.cell? ⟨w3.heap.size, 0, none⟩ = some (.float .f64 r) := (by rw [hI4.cell]; rfl); have g1 : W4.cell? ⟨w3.heap.size, 1, none⟩ = some (.bool false) := (by rw [hI4.cell]; rfl); have g2 : W4.cell? ⟨w3.heap.size, 2, none⟩ = some (.bool fl) := (by rw [hI4.cell]; rfl); have c0' := cell_stayL c0 hB4; have c1' := cell_stayL c1 hB4; have HI4 := Lib.hid (HI3.out.below hB4 HI3.out.lt); have HJ4 := Lib.hid hI4; have HW4 := Lib.hid (HW3.out.trans (hB4.mono HW3.out.size)); clear hI4 hB4 c0 c1))
                go_roundw
                case rel => exact ⟨j + 1, O, by first | rfl | (congr 1; omega), by omega, HO.out.below HW4.out, fun e he => (HOK.out e he).below HW4.out, by rw [HFS.out, HKEY.out]; simp, by have := HOL.out; omega, HB2.out.trans (HW4.out.mono HB2.out.size)⟩
                case measure => simp [intOf]; omega
              | true =>
                cases fl with
                | true =>
                  go_wp2_with (first | (refine Bk.is_store 34 rfl ?_; refine Bk.wpList_store_box (w0 := wr) (N := 0) rfl 34 _ _ rfl #[.slice xa xn xc, .float .f64 xf] #[.slice none 0 0, .float .f64 0] 34 rfl rfl (by kernel_rfl) rfl (by kernel_rfl) ?_; intro W hI hB; have e0 : W.cell? ⟨wr.heap.size, 0, none⟩ = some (.slice xa xn xc) := (by rw [hI.cell]; rfl); have e1 : W.cell? ⟨wr.heap.size, 1, none⟩ = some (.float .f64 xf) := (by rw [hI.cell]; rfl); have HI := Lib.hid hI; have HW := Lib.hid hB; clear hI hB) | (go_at_call 29; refine (HWK.out _).mono ?_; rintro e w3 ⟨r, rfl, hr, b3⟩; have c0 := cell_stayL e0 b3; have c1 := cell_stayL e1 b3; have HR := Lib.hid hr; have HI3 := Lib.hid (HI.out.below b3 HI.out.lt); have HW3 := Lib.hid (HW.out.trans (b3.mono HW.out.size)); clear hr b3) | (refine Bk.is_store 59 rfl ?_; refine Bk.wpList_store_box (w0 := w3) (N := 0) rfl 59 _ _ rfl #[.float .f64 r, .bool true, .bool true] #[.float .f64 0, .bool false, .bool false] 59 rfl rfl (by kernel_rfl) rfl (by kernel_rfl) ?_; intro W4 hI4 hB4; have g0 : W4.cell? ⟨w3.heap.size, 0, none⟩ = some (.float .f64 r) := (by rw [hI4.cell]; rfl); have g1 : W4.cell? ⟨w3.heap.size, 1, none⟩ = some (.bool true) := (by rw [hI4.cell]; rfl); have g2 : W4.cell? ⟨w3.heap.size, 2, none⟩ = some (.bool true) := (by rw [hI4.cell]; rfl); have c0' := cell_stayL c0 hB4; have c1' := cell_stayL c1 hB4; have HI4 := Lib.hid (HI3.out.below hB4 HI3.out.lt); have HJ4 := Lib.hid hI4; have HW4 := Lib.hid (HW3.out.trans (hB4.mono HW3.out.size)); clear hI4 hB4 c0 c1) | (at_builtin; refine wpList_append_er rfl (.tmp 64) (.tmp 70) rfl w2.heap.size _ O rfl ((HO.out.below HW4.out).alloc _) W4.heap.size _ ⟨xa, xn, xc, r, xl⟩ rfl (by rw [World.cell?_alloc_at _ _ _ _ (by rfl)]; rfl) (by rw [World.cell?_alloc_at _ _ _ _ (by rfl)]; rfl) (by have := HOL.out; omega) (Nat.le_trans HB2.out.size (Nat.le_trans HW4.out.size (by simp))) ?_; intro v' w' own' gb hv; have HO5 := Lib.hid own'; have HG5 := Lib.hid gb; clear own' gb hv))
                  go_roundw
                  case rel =>
                    refine ⟨j + 1, O ++ [⟨xa, xn, xc, r, xl⟩], by first | rfl | (congr 1; omega), by omega, HO5.out, ?_, ?_, by have := HOL.out; simp; omega, ((HB2.out.trans (HW4.out.mono HB2.out.size)).alloc (Nat.le_trans HB2.out.size HW4.out.size) _).grown HG5.out (Nat.le_trans HB2.out.size (Nat.le_trans HW4.out.size (by simp))) (fun b hb => (HO.out.lt b hb).1)⟩
                    · intro e he
                      rcases List.mem_append.1 he with he | he
                      · exact (((HOK.out e he).below HW4.out).below ((Below.refl _ _).alloc (Nat.le_refl _) _)).grown ((HO.out.below HW4.out).alloc _) HG5.out
                      · obtain rfl : e = ⟨xa, xn, xc, r, xl⟩ := by simpa using he
                        exact .inl HYO.out
                    · rw [HFS.out, List.map_append, HKEY.out]; simp [clK, Er.key, HR.out]
                  case measure => simp [intOf]; omega
                | false =>
                  have KX : Hid (∀ (w5 : World) (vv : Value), Below wr.heap.size wr w5 → OwnE w2.heap.size (w5.setCell ⟨wr.heap.size, 0, none⟩ vv) u13 O) := Lib.hid fun w5 vv hb5 => (HO.out.below hb5).setCell (fun h => by have := (HO.out.lt _ h).2; omega)
                  go_wp2_with (first | (refine Bk.is_store 34 rfl ?_; refine Bk.wpList_store_box (w0 := wr) (N := 0) rfl 34 _ _ rfl #[.slice xa xn xc, .float .f64 xf] #[.slice none 0 0, .float .f64 0] 34 rfl rfl (by kernel_rfl) rfl (by kernel_rfl) ?_; intro W hI hB; have e0 : W.cell? ⟨wr.heap.size, 0, none⟩ = some (.slice xa xn xc) := (by rw [hI.cell]; rfl); have e1 : W.cell? ⟨wr.heap.size, 1, none⟩ = some (.float .f64 xf) := (by rw [hI.cell]; rfl); have HI := Lib.hid hI; have HW := Lib.hid hB; clear hI hB) | (go_at_call 29; refine (HWK.out _).mono ?_; rintro e w3 ⟨r, rfl, hr, b3⟩; have c0 := cell_stayL e0 b3; have c1 := cell_stayL e1 b3; have HR := Lib.hid hr; have HI3 := Lib.hid (HI.out.below b3 HI.out.lt); have HW3 := Lib.hid (HW.out.trans (b3.mono HW.out.size)); clear hr b3) | (refine Bk.is_store 59 rfl ?_; refine Bk.wpList_store_box (w0 := w3) (N := 0) rfl 59 _ _ rfl #[.float .f64 r, .bool true, .bool false] #[.float .f64 0, .bool false, .bool false] 59 rfl rfl (by kernel_rfl) rfl (by kernel_rfl) ?_; intro W4 hI4 hB4; have g0 : W4.cell? ⟨w3.heap.size, 0, none⟩ = some (.float .f64 r) := (by rw [hI4.cell]; rfl); have g1 : W4.cell? ⟨w3.heap.size, 1, none⟩ = some (.bool true) := (by rw [hI4.cell]; rfl); have g2 : W4.cell? ⟨w3.heap.size, 2, none⟩ = some (.bool false) := (by rw [hI4.cell]; rfl); have c0' := cell_stayL c0 hB4; have c1' := cell_stayL c1 hB4; have HI4 := Lib.hid (HI3.out.below hB4 HI3.out.lt); have HJ4 := Lib.hid hI4; have HW4 := Lib.hid (HW3.out.trans (hB4.mono HW3.out.size)); clear hI4 hB4 c0 c1) | (go_at_call 27; refine (HNL.out _ (HB2.out.trans (HW4.out.mono HB2.out.size))).mono ?_; rintro e w5 ⟨a', c', rfl, lr, b5⟩; have HL := Lib.hid lr; have HI5 := HI4.out.below b5 HI4.out.lt; have d0 := HI5.cell 0; have d1 := HI5.cell 1; have f0 := HI5.free 0; simp at d0 d1; have g0' := cell_stayL g0 b5; have g0s : (w5.setCell ⟨wr.heap.size, 0, none⟩ (.slice a' (sansL MN xl).length c')).cell? ⟨w3.heap.size, 0, none⟩ = some (.float .f64 r) := cell_set1 g0' (by have := HI3.out.lt; show w3.heap.size ≠ wr.heap.size; omega); have HW5 := Lib.hid (HW4.out.trans (b5.mono HW4.out.size)); have HZ5 := Lib.hid b5; clear lr b5 HI5 g0 g1 g2 c0' c1') | (at_builtin; refine wpList_append_er rfl (.tmp 64) (.tmp 70) rfl w2.heap.size _ O rfl ((KX.out w5 _ HW5.out).alloc _) w5.heap.size _ ⟨a', (sansL MN xl).length, c', r, sansL MN xl⟩ rfl (by rw [World.cell?_alloc_at _ _ _ _ (by simp)]; rfl) (by rw [World.cell?_alloc_at _ _ _ _ (by simp)]; rfl) (by have := HOL.out; omega) (Nat.le_trans HB2.out.size (Nat.le_trans HW5.out.size (by simp))) ?_; intro v' w' own' gb hv; have HO5 := Lib.hid own'; have HG5 := Lib.hid gb; clear own' gb hv))
                  go_roundw
                  case rel =>
                    have hbw : Below w2.heap.size w2 (w5.setCell ⟨wr.heap.size, 0, none⟩ (.slice a' (sansL MN xl).length c')) := (HB2.out.trans (HW5.out.mono HB2.out.size)).setCell (p := ⟨wr.heap.size, 0, none⟩) HB2.out.size _
                    refine ⟨j + 1, O ++ [⟨a', (sansL MN xl).length, c', r, sansL MN xl⟩], by first | rfl | (congr 1; omega), by omega, HO5.out, ?_, ?_, by have := HOL.out; simp; omega, (hbw.alloc hbw.size _).grown HG5.out (Nat.le_trans hbw.size (by simp)) (fun b hb => (HO.out.lt b hb).1)⟩
                    · intro e he
                      rcases List.mem_append.1 he with he | he
                      · rcases (HOK.out e he) with h | h
                        · exact .inl h
                        · exact .inr ((((h.below HW5.out).setCell (fun hh => by have := (h.1.lt _ hh).2; omega)).below ((Below.refl _ _).alloc (Nat.le_refl _) _)).grown ((KX.out w5 _ HW5.out).alloc _) HG5.out)
                      · obtain rfl : e = ⟨a', (sansL MN xl).length, c', r, sansL MN xl⟩ := by simpa using he
                        have ho : ErOwn w2.heap.size w5 ⟨a', (sansL MN xl).length, c', r, sansL MN xl⟩ := ⟨HL.out.mono (Nat.le_trans HB2.out.size HW4.out.size), HSM.out.1, HSM.out.2, rfl⟩
                        exact .inr (((ho.setCell (fun hh => by have h1 := (HL.out.lt _ hh).1; have h2 := HI4.out.lt; omega)).below ((Below.refl _ _).alloc (Nat.le_refl _) _)).grown ((KX.out w5 _ HW5.out).alloc _) HG5.out)
                    · rw [HFS.out, List.map_append, HKEY.out]; simp [clK, Er.key, HR.out]
                  case measure => simp [intOf]; omega
            | true =>
              simp only [pickA, pickB, if_true, if_false, Bool.false_eq_true, reduceIte] at HWK
              go_wp2_with (first | (refine Bk.is_store 34 rfl ?_; refine Bk.wpList_store_box (w0 := wr) (N := 0) rfl 34 _ _ rfl #[.slice xa xn xc, .float .f64 xf] #[.slice none 0 0, .float .f64 0] 34 rfl rfl (by kernel_rfl) rfl (by kernel_rfl) ?_; intro W hI hB; have e0 : W.cell? ⟨wr.heap.size, 0, none⟩ = some (.slice xa xn xc) := (by rw [hI.cell]; rfl); have e1 : W.cell? ⟨wr.heap.size, 1, none⟩ = some (.float .f64 xf) := (by rw [hI.cell]; rfl); have HI := Lib.hid hI; have HW := Lib.hid hB; clear hI hB))
              go_quiet (fail)
              cases o with
              | false =>
                go_wp2_with (first | (go_at_call 29; refine (HWK.out _).mono ?_; rintro e w3 ⟨r, rfl, hr, b3'⟩; have b3 := Below.trans ((Below.refl _ W).drewN' nq) b3'; have c0 := cell_stayL e0 b3; have c1 := cell_stayL e1 b3; have HR := Lib.hid hr; have HI3 := Lib.hid (HI.out.below b3 HI.out.lt); have HW3 := Lib.hid (HW.out.trans (b3.mono HW.out.size)); clear hr b3 b3') | (refine Bk.is_store 59 rfl ?_; refine Bk.wpList_store_box (w0 := w3) (N := 0) rfl 59 _ _ rfl #[.float .f64 r, .bool false, .bool fl] #[.float .f64 0, .bool false, .bool false] 59 rfl rfl (by kernel_rfl) rfl (by kernel_rfl) ?_; intro W4 hI4 hB4; have g0 : W4.cell? ⟨w3.heap.size, 0, none⟩ = some (.float .f64 r) := (by rw [hI4.cell]; rfl); have g1 : W4.cell? ⟨w3.heap.size, 1, none⟩ = some (.bool false) := (by rw [hI4.cell]; rfl); have g2 : W4.cell? ⟨w3.heap.size, 2, none⟩ = some (.bool fl) := (by rw [hI4.cell]; rfl); have c0' := cell_stayL c0 hB4; have c1' := cell_stayL c1 hB4; have HI4 := Lib.hid (HI3.out.below hB4 HI3.out.lt); have HJ4 := Lib.hid hI4; have HW4 := Lib.hid (HW3.out.trans (hB4.mono HW3.out.size)); clear hI4 hB4 c0 c1))
                go_roundw
                case rel => exact ⟨j + 1, O, by first | rfl | (congr 1; omega), by omega, HO.out.below HW4.out, fun e he => (HOK.out e he).below HW4.out, by rw [HFS.out, HKEY.out]; simp, by have := HOL.out; omega, HB2.out.trans (HW4.out.mono HB2.out.size)⟩
                case measure => simp [intOf]; omega
              | true =>
                cases fl with
                | true =>
                  go_wp2_with (first | (go_at_call 29; refine (HWK.out _).mono ?_; rintro e w3 ⟨r, rfl, hr, b3'⟩; have b3 := Below.trans ((Below.refl _ W).drewN' nq) b3'; have c0 := cell_stayL e0 b3; have c1 := cell_stayL e1 b3; have HR := Lib.hid hr; have HI3 := Lib.hid (HI.out.below b3 HI.out.lt); have HW3 := Lib.hid (HW.out.trans (b3.mono HW.out.size)); clear hr b3 b3') | (refine Bk.is_store 59 rfl ?_; refine Bk.wpList_store_box (w0 := w3) (N := 0) rfl 59 _ _ rfl #[.float .f64 r, .bool true, .bool true] #[.float .f64 0, .bool false, .bool false] 59 rfl rfl (by kernel_rfl) rfl (by kernel_rfl) ?_; intro W4 hI4 hB4; have g0 : W4.cell? ⟨w3.heap.size, 0, none⟩ = some (.float .f64 r) := (by rw [hI4.cell]; rfl); have g1 : W4.cell? ⟨w3.heap.size, 1, none⟩ = some (.bool true) := (by rw [hI4.cell]; rfl); have g2 : W4.cell? ⟨w3.heap.size, 2, none⟩ = some (.bool true) := (by rw [hI4.cell]; rfl); have c0' := cell_stayL c0 hB4; have c1' := cell_stayL c1 hB4; have HI4 := Lib.hid (HI3.out.below hB4 HI3.out.lt); have HJ4 := Lib.hid hI4; have HW4 := Lib.hid (HW3.out.trans (hB4.mono HW3.out.size)); clear hI4 hB4 c0 c1) | (at_builtin; refine wpList_append_er rfl (.tmp 64) (.tmp 70) rfl w2.heap.size _ O rfl ((HO.out.below HW4.out).alloc _) W4.heap.size _ ⟨xa, xn, xc, r, xl⟩ rfl (by rw [World.cell?_alloc_at _ _ _ _ (by rfl)]; rfl) (by rw [World.cell?_alloc_at _ _ _ _ (by rfl)]; rfl) (by have := HOL.out; omega) (Nat.le_trans HB2.out.size (Nat.le_trans HW4.out.size (by simp))) ?_; intro v' w' own' gb hv; have HO5 := Lib.hid own'; have HG5 := Lib.hid gb; clear own' gb hv))
                  go_roundw
                  case rel =>
                    refine ⟨j + 1, O ++ [⟨xa, xn, xc, r, xl⟩], by first | rfl | (congr 1; omega), by omega, HO5.out, ?_, ?_, by have := HOL.out; simp; omega, ((HB2.out.trans (HW4.out.mono HB2.out.size)).alloc (Nat.le_trans HB2.out.size HW4.out.size) _).grown HG5.out (Nat.le_trans HB2.out.size (Nat.le_trans HW4.out.size (by simp))) (fun b hb => (HO.out.lt b hb).1)⟩
                    · intro e he
                      rcases List.mem_append.1 he with he | he
                      · exact (((HOK.out e he).below HW4.out).below ((Below.refl _ _).alloc (Nat.le_refl _) _)).grown ((HO.out.below HW4.out).alloc _) HG5.out
                      · obtain rfl : e = ⟨xa, xn, xc, r, xl⟩ := by simpa using he
                        exact .inl HYO.out
                    · rw [HFS.out, List.map_append, HKEY.out]; simp [clK, Er.key, HR.out]
                  case measure => simp [intOf]; omega
                | false =>
                  have KX : Hid (∀ (w5 : World) (vv : Value), Below wr.heap.size wr w5 → OwnE w2.heap.size (w5.setCell ⟨wr.heap.size, 0, none⟩ vv) u13 O) := Lib.hid fun w5 vv hb5 => (HO.out.below hb5).setCell (fun h => by have := (HO.out.lt _ h).2; omega)
                  go_wp2_with (first | (go_at_call 29; refine (HWK.out _).mono ?_; rintro e w3 ⟨r, rfl, hr, b3'⟩; have b3 := Below.trans ((Below.refl _ W).drewN' nq) b3'; have c0 := cell_stayL e0 b3; have c1 := cell_stayL e1 b3; have HR := Lib.hid hr; have HI3 := Lib.hid (HI.out.below b3 HI.out.lt); have HW3 := Lib.hid (HW.out.trans (b3.mono HW.out.size)); clear hr b3 b3') | (refine Bk.is_store 59 rfl ?_; refine Bk.wpList_store_box (w0 := w3) (N := 0) rfl 59 _ _ rfl #[.float .f64 r, .bool true, .bool false] #[.float .f64 0, .bool false, .bool false] 59 rfl rfl (by kernel_rfl) rfl (by kernel_rfl) ?_; intro W4 hI4 hB4; have g0 : W4.cell? ⟨w3.heap.size, 0, none⟩ = some (.float .f64 r) := (by rw [hI4.cell]; rfl); have g1 : W4.cell? ⟨w3.heap.size, 1, none⟩ = some (.bool true) := (by rw [hI4.cell]; rfl); have g2 : W4.cell? ⟨w3.heap.size, 2, none⟩ = some (.bool false) := (by rw [hI4.cell]; rfl); have c0' := cell_stayL c0 hB4; have c1' := cell_stayL c1 hB4; have HI4 := Lib.hid (HI3.out.below hB4 HI3.out.lt); have HJ4 := Lib.hid hI4; have HW4 := Lib.hid (HW3.out.trans (hB4.mono HW3.out.size)); clear hI4 hB4 c0 c1) | (go_at_call 27; refine (HNL.out _ (HB2.out.trans (HW4.out.mono HB2.out.size))).mono ?_; rintro e w5 ⟨a', c', rfl, lr, b5⟩; have HL := Lib.hid lr; have HI5 := HI4.out.below b5 HI4.out.lt; have d0 := HI5.cell 0; have d1 := HI5.cell 1; have f0 := HI5.free 0; simp at d0 d1; have g0' := cell_stayL g0 b5; have g0s : (w5.setCell ⟨wr.heap.size, 0, none⟩ (.slice a' (sansL MN xl).length c')).cell? ⟨w3.heap.size, 0, none⟩ = some (.float .f64 r) := cell_set1 g0' (by have := HI3.out.lt; show w3.heap.size ≠ wr.heap.size; omega); have HW5 := Lib.hid (HW4.out.trans (b5.mono HW4.out.size)); have HZ5 := Lib.hid b5; clear lr b5 HI5 g0 g1 g2 c0' c1') | (at_builtin; refine wpList_append_er rfl (.tmp 64) (.tmp 70) rfl w2.heap.size _ O rfl ((KX.out w5 _ HW5.out).alloc _) w5.heap.size _ ⟨a', (sansL MN xl).length, c', r, sansL MN xl⟩ rfl (by rw [World.cell?_alloc_at _ _ _ _ (by simp)]; rfl) (by rw [World.cell?_alloc_at _ _ _ _ (by simp)]; rfl) (by have := HOL.out; omega) (Nat.le_trans HB2.out.size (Nat.le_trans HW5.out.size (by simp))) ?_; intro v' w' own' gb hv; have HO5 := Lib.hid own'; have HG5 := Lib.hid gb; clear own' gb hv))
                  go_roundw
                  case rel =>
                    have hbw : Below w2.heap.size w2 (w5.setCell ⟨wr.heap.size, 0, none⟩ (.slice a' (sansL MN xl).length c')) := (HB2.out.trans (HW5.out.mono HB2.out.size)).setCell (p := ⟨wr.heap.size, 0, none⟩) HB2.out.size _
                    refine ⟨j + 1, O ++ [⟨a', (sansL MN xl).length, c', r, sansL MN xl⟩], by first | rfl | (congr 1; omega), by omega, HO5.out, ?_, ?_, by have := HOL.out; simp; omega, (hbw.alloc hbw.size _).grown HG5.out (Nat.le_trans hbw.size (by simp)) (fun b hb => (HO.out.lt b hb).1)⟩
                    · intro e he
                      rcases List.mem_append.1 he with he | he
                      · rcases (HOK.out e he) with h | h
                        · exact .inl h
                        · exact .inr ((((h.below HW5.out).setCell (fun hh => by have := (h.1.lt _ hh).2; omega)).below ((Below.refl _ _).alloc (Nat.le_refl _) _)).grown ((KX.out w5 _ HW5.out).alloc _) HG5.out)
                      · obtain rfl : e = ⟨a', (sansL MN xl).length, c', r, sansL MN xl⟩ := by simpa using he
                        have ho : ErOwn w2.heap.size w5 ⟨a', (sansL MN xl).length, c', r, sansL MN xl⟩ := ⟨HL.out.mono (Nat.le_trans HB2.out.size HW4.out.size), HSM.out.1, HSM.out.2, rfl⟩
                        exact .inr (((ho.setCell (fun hh => by have h1 := (HL.out.lt _ hh).1; have h2 := HI4.out.lt; omega)).below ((Below.refl _ _).alloc (Nat.le_refl _) _)).grown ((KX.out w5 _ HW5.out).alloc _) HG5.out)
                    · rw [HFS.out, List.map_append, HKEY.out]; simp [clK, Er.key, HR.out]
                  case measure => simp [intOf]; omega
          · have hkn : ¬ (j : Int) < (vs.length : Int) := by omega
            have HE : Hid (O.map (fun x => clK x.key) = ms.filterMap (stepM (opK u.toList) x left yes)) := Lib.hid (by
              rw [HKEY.out, List.take_of_length_le (by omega), HK2.out])
            obtain ⟨ao, co, hvo, hso, hro⟩ := HO.out.row (fun e he => (HOK.out e he).ok HB2.out) (by have := HOL.out; omega)
            subst hvo
            have HSET := Lib.hid (settledO_any ao O.length co O _ wr hro HE.out)
            clear hso hro hrw
            go_wp2_with (go_at_call 28; refine HSET.out.mono ?_; rintro e w5 ⟨xs5, hx5, a5, c5, es5, rfl, hh⟩; have HH := Lib.hid (And.intro hx5 hh); clear hx5 hh)
            go_ret2
            exact AnsO.from ⟨xs5, HH.out.1, a5, c5, es5, rfl, HH.out.2⟩ (HBW.out.trans (HB2.out.mono HBW.out.size))
      · rw [decide_eq_false hk6] at HA
        have HM2 : Hid (∀ w, _) := Lib.hid (HM2.out hk6)
        clear hk hk6 HM
        have HNM : Hid (∀ W, Below w.heap.size w W → True) := Lib.hid fun _ _ => trivial
        go_enter Tryz.func15, Tryz.ntmps15
        go_wp2_with (first | (go_at_call 19; refine HC.out.mono ?_; intro e w1 hg; obtain ⟨a2, c2, vs, rfl, h1, h2, h3, h4, h5⟩ := hg.row; have HS := Lib.hid h1; have HR2 := Lib.hid h2; have HK2 := Lib.hid h3; have HF2 := Lib.hid h4; have HB := Lib.hid h5; clear h1 h2 h3 h4 h5 hg) | (go_at_call 22; refine (HA.out _).mono ?_; rintro e w3 ⟨rfl, nd, rfl⟩) | (go_at_call 23; refine (HM2.out _).mono ?_; rintro e w3 ⟨rfl, rfl⟩))
        have HRW := Lib.hid (HR2.out.below ((Below.refl _ w1).drewN' nd))
        have HBW := Lib.hid (HB.out.drewN' nd)
        have hvl : (vs.length : Int) ≤ 4398046511104 := by have := HR2.out.2.1; omega
        clear HR2 HB HC HA HM2
        generalize w1.drewN nd = w2 at HRW HBW ⊢
        go_loopw [13, 36] (MixRel vs (stepM (opK u.toList) x left yes) w2) (fun _ v _ => vs.length - (intOf v).toNat)
        case atStart => exact ⟨0, [], rfl, by omega, ownE_nil _ _, fun e he => absurd he List.not_mem_nil, rfl, by simp, Below.refl _ _⟩
        case round =>
          obtain ⟨j, O, rfl, hj, own, hok, hkey, hol, bel⟩ := hrel
          have HO := Lib.hid own
          have HOK := Lib.hid hok
          have HKEY := Lib.hid hkey
          have HOL := Lib.hid hol
          have HB2 := Lib.hid bel
          have hrw := HRW.out.below bel
          clear own hok hkey hol bel
          by_cases hlt : j < vs.length
          · obtain ⟨b, off, rfl, hb, hc⟩ := hrw.2.2.2 (by omega)
            obtain ⟨x0, x1⟩ := hc j hlt
            have k1 : (0 : Int) ≤ (j : Int) := by omega
            have k2 : (j : Int) < (vs.length : Int) := by omega
            generalize hxx : erAt vs j = y at x0 x1
            have HXX := Lib.hid hxx
            have hyo : ErOk w2 y := by rw [← hxx, erAt_get hlt]; exact HRW.out.2.2.1 _ (List.getElem_mem _)
            have hyf : W64 y.f := by
              obtain ⟨z, hz, hzf⟩ := HF2.out y (by rw [← hxx, erAt_get hlt]; exact List.getElem_mem _)
              rw [hzf]; exact HF.out z hz
            obtain ⟨xa, xn, xc, xf, xl⟩ := y
            dsimp only at x0 x1 hyf
            have HYO := Lib.hid hyo
            have HFS := Lib.hid (filt_snoc (f := stepM (opK u.toList) x left yes) hlt)
            rw [HXX.out] at HFS
            have HWK : Hid (∀ W, Calls Tryz.prog 29 #[.string u, .float .f64 (pickA left x xf), .float .f64 (pickB left x xf), .float .f64 xf, .bool yes] W (WorkRet (opK u.toList) (pickA left x xf) (pickB left x xf) xf yes W)) := Lib.hid fun W =>
              worked_any u _ _ xf yes W (by unfold pickA; cases left; exact hyf; exact HX.out) (by unfold pickB; cases left; exact HX.out; exact hyf) HK.out
            have HNL : Hid (∀ W, Below w2.heap.size w2 W → Calls Tryz.prog 27 #[.slice xa xn xc] W fun e w' => ∃ a c, e = .returned (.slice a (sansL MN xl).length c) ∧ OwnL W.heap.size w' (.slice a (sansL MN xl).length c) (sansL MN xl) ∧ Below W.heap.size W w') := Lib.hid fun W hW =>
              (nameless_any xa xn xc xl W (HYO.out.1.below hW) HYO.out.2.2).mono fun e w' h => h.own
            have HSM : Hid (SmallL (sansL MN xl) ∧ (sansL MN xl).length ≤ 4398046511104) := Lib.hid ⟨sansL_small _ HYO.out.1.2.2.1, Nat.le_trans (sansL_length _ _) (by have := HYO.out.1.1; have := HYO.out.2.2; dsimp only at *; omega)⟩
            have HST : Hid (stepM (opK u.toList) x left yes (Er.key ⟨xa, xn, xc, xf, xl⟩) = if stepO (opK u.toList) (pickA left x xf) (pickB left x xf) yes then some (if stepF (opK u.toList) yes then xl else sansL MN xl, stepV (opK u.toList) (pickA left x xf) (pickB left x xf) xf yes) else none) := Lib.hid rfl
            rw [HST.out] at HFS
            clear HST
            unfold WorkRet at HWK
            generalize stepO (opK u.toList) (pickA left x xf) (pickB left x xf) yes = o at *
            generalize stepF (opK u.toList) yes = fl at *
            generalize stepV (opK u.toList) (pickA left x xf) (pickB left x xf) xf yes = V at *
            clear hc hrw hxx hyo hyf
            cases left with
            | false =>
              simp only [pickA, pickB, if_true, if_false, Bool.false_eq_true, reduceIte] at HWK
              cases o with
              | false =>
                go_wp2_with (first | (refine Bk.is_store 34 rfl ?_; refine Bk.wpList_store_box (w0 := wr) (N := 0) rfl 34 _ _ rfl #[.slice xa xn xc, .float .f64 xf] #[.slice none 0 0, .float .f64 0] 34 rfl rfl (by kernel_rfl) rfl (by kernel_rfl) ?_; intro W hI hB; have e0 : W.cell? ⟨wr.heap.size, 0, none⟩ = some (.slice xa xn xc) := (by rw [hI.cell]; rfl); have e1 : W.cell? ⟨wr.heap.size, 1, none⟩ = some (.float .f64 xf) := (by rw [hI.cell]; rfl); have HI := Lib.hid hI; have HW := Lib.hid hB; clear hI hB) | (go_at_call 29; refine (HWK.out _).mono ?_; rintro e w3 ⟨r, rfl, hr, b3⟩; have c0 := cell_stayL e0 b3; have c1 := cell_stayL e1 b3; have HR := Lib.hid hr; have HI3 := Lib.hid (HI.out.below b3 HI.out.lt); have HW3 := Lib.hid (HW.out.trans (b3.mono HW.out.size)); clear hr b3) | (refine Bk.is_store 59 rfl ?_; refine Bk.wpList_store_box (w0 := w3) (N := 0) rfl 59 _ _ rfl #[.float .f64 r, .bool false, .bool fl] #[.float .f64 0, .bool false, .bool false] 59 rfl rfl (by kernel_rfl) rfl (by kernel_rfl) ?_; intro W4 hI4 hB4; have g0 : W4.cell? ⟨w3.heap.size, 0, none⟩ = some (.float .f64 r) := (by rw [hI4.cell]; rfl); have g1 : W4.cell? ⟨w3.heap.size, 1, none⟩ = some (.bool false) := (by rw [hI4.cell]; rfl); have g2 : W4.cell? ⟨w3.heap.size, 2, none⟩ = some (.bool fl) := (by rw [hI4.cell]; rfl); have c0' := cell_stayL c0 hB4; have c1' := cell_stayL c1 hB4; have HI4 := Lib.hid (HI3.out.below hB4 HI3.out.lt); have HJ4 := Lib.hid hI4; have HW4 := Lib.hid (HW3.out.trans (hB4.mono HW3.out.size)); clear hI4 hB4 c0 c1))
                go_roundw
                case rel => exact ⟨j + 1, O, by first | rfl | (congr 1; omega), by omega, HO.out.below HW4.out, fun e he => (HOK.out e he).below HW4.out, by rw [HFS.out, HKEY.out]; simp, by have := HOL.out; omega, HB2.out.trans (HW4.out.mono HB2.out.size)⟩
                case measure => simp [intOf]; omega
              | true =>
                cases fl with
                | true =>
                  go_wp2_with (first | (refine Bk.is_store 34 rfl ?_; refine Bk.wpList_store_box (w0 := wr) (N := 0) rfl 34 _ _ rfl #[.slice xa xn xc, .float .f64 xf] #[.slice none 0 0, .float .f64 0] 34 rfl rfl (by kernel_rfl) rfl (by kernel_rfl) ?_; intro W hI hB; have e0 : W.cell? ⟨wr.heap.size, 0, none⟩ = some (.slice xa xn xc) := (by rw [hI.cell]; rfl); have e1 : W.cell? ⟨wr.heap.size, 1, none⟩ = some (.float .f64 xf) := (by rw [hI.cell]; rfl); have HI := Lib.hid hI; have HW := Lib.hid hB; clear hI hB) | (go_at_call 29; refine (HWK.out _).mono ?_; rintro e w3 ⟨r, rfl, hr, b3⟩; have c0 := cell_stayL e0 b3; have c1 := cell_stayL e1 b3; have HR := Lib.hid hr; have HI3 := Lib.hid (HI.out.below b3 HI.out.lt); have HW3 := Lib.hid (HW.out.trans (b3.mono HW.out.size)); clear hr b3) | (refine Bk.is_store 59 rfl ?_; refine Bk.wpList_store_box (w0 := w3) (N := 0) rfl 59 _ _ rfl #[.float .f64 r, .bool true, .bool true] #[.float .f64 0, .bool false, .bool false] 59 rfl rfl (by kernel_rfl) rfl (by kernel_rfl) ?_; intro W4 hI4 hB4; have g0 : W4.cell? ⟨w3.heap.size, 0, none⟩ = some (.float .f64 r) := (by rw [hI4.cell]; rfl); have g1 : W4.cell? ⟨w3.heap.size, 1, none⟩ = some (.bool true) := (by rw [hI4.cell]; rfl); have g2 : W4.cell? ⟨w3.heap.size, 2, none⟩ = some (.bool true) := (by rw [hI4.cell]; rfl); have c0' := cell_stayL c0 hB4; have c1' := cell_stayL c1 hB4; have HI4 := Lib.hid (HI3.out.below hB4 HI3.out.lt); have HJ4 := Lib.hid hI4; have HW4 := Lib.hid (HW3.out.trans (hB4.mono HW3.out.size)); clear hI4 hB4 c0 c1) | (at_builtin; refine wpList_append_er rfl (.tmp 64) (.tmp 70) rfl w2.heap.size _ O rfl ((HO.out.below HW4.out).alloc _) W4.heap.size _ ⟨xa, xn, xc, r, xl⟩ rfl (by rw [World.cell?_alloc_at _ _ _ _ (by rfl)]; rfl) (by rw [World.cell?_alloc_at _ _ _ _ (by rfl)]; rfl) (by have := HOL.out; omega) (Nat.le_trans HB2.out.size (Nat.le_trans HW4.out.size (by simp))) ?_; intro v' w' own' gb hv; have HO5 := Lib.hid own'; have HG5 := Lib.hid gb; clear own' gb hv))
                  go_roundw
                  case rel =>
                    refine ⟨j + 1, O ++ [⟨xa, xn, xc, r, xl⟩], by first | rfl | (congr 1; omega), by omega, HO5.out, ?_, ?_, by have := HOL.out; simp; omega, ((HB2.out.trans (HW4.out.mono HB2.out.size)).alloc (Nat.le_trans HB2.out.size HW4.out.size) _).grown HG5.out (Nat.le_trans HB2.out.size (Nat.le_trans HW4.out.size (by simp))) (fun b hb => (HO.out.lt b hb).1)⟩
                    · intro e he
                      rcases List.mem_append.1 he with he | he
                      · exact (((HOK.out e he).below HW4.out).below ((Below.refl _ _).alloc (Nat.le_refl _) _)).grown ((HO.out.below HW4.out).alloc _) HG5.out
                      · obtain rfl : e = ⟨xa, xn, xc, r, xl⟩ := by simpa using he
                        exact .inl HYO.out
                    · rw [HFS.out, List.map_append, HKEY.out]; simp [clK, Er.key, HR.out]
                  case measure => simp [intOf]; omega
                | false =>
                  have KX : Hid (∀ (w5 : World) (vv : Value), Below wr.heap.size wr w5 → OwnE w2.heap.size (w5.setCell ⟨wr.heap.size, 0, none⟩ vv) u13 O) := Lib.hid fun w5 vv hb5 => (HO.out.below hb5).setCell (fun h => by have := (HO.out.lt _ h).2; omega)
                  go_wp2_with (first | (refine Bk.is_store 34 rfl ?_; refine Bk.wpList_store_box (w0 := wr) (N := 0) rfl 34 _ _ rfl #[.slice xa xn xc, .float .f64 xf] #[.slice none 0 0, .float .f64 0] 34 rfl rfl (by kernel_rfl) rfl (by kernel_rfl) ?_; intro W hI hB; have e0 : W.cell? ⟨wr.heap.size, 0, none⟩ = some (.slice xa xn xc) := (by rw [hI.cell]; rfl); have e1 : W.cell? ⟨wr.heap.size, 1, none⟩ = some (.float .f64 xf) := (by rw [hI.cell]; rfl); have HI := Lib.hid hI; have HW := Lib.hid hB; clear hI hB) | (go_at_call 29; refine (HWK.out _).mono ?_; rintro e w3 ⟨r, rfl, hr, b3⟩; have c0 := cell_stayL e0 b3; have c1 := cell_stayL e1 b3; have HR := Lib.hid hr; have HI3 := Lib.hid (HI.out.below b3 HI.out.lt); have HW3 := Lib.hid (HW.out.trans (b3.mono HW.out.size)); clear hr b3) | (refine Bk.is_store 59 rfl ?_; refine Bk.wpList_store_box (w0 := w3) (N := 0) rfl 59 _ _ rfl #[.float .f64 r, .bool true, .bool false] #[.float .f64 0, .bool false, .bool false] 59 rfl rfl (by kernel_rfl) rfl (by kernel_rfl) ?_; intro W4 hI4 hB4; have g0 : W4.cell? ⟨w3.heap.size, 0, none⟩ = some (.float .f64 r) := (by rw [hI4.cell]; rfl); have g1 : W4.cell? ⟨w3.heap.size, 1, none⟩ = some (.bool true) := (by rw [hI4.cell]; rfl); have g2 : W4.cell? ⟨w3.heap.size, 2, none⟩ = some (.bool false) := (by rw [hI4.cell]; rfl); have c0' := cell_stayL c0 hB4; have c1' := cell_stayL c1 hB4; have HI4 := Lib.hid (HI3.out.below hB4 HI3.out.lt); have HJ4 := Lib.hid hI4; have HW4 := Lib.hid (HW3.out.trans (hB4.mono HW3.out.size)); clear hI4 hB4 c0 c1) | (go_at_call 27; refine (HNL.out _ (HB2.out.trans (HW4.out.mono HB2.out.size))).mono ?_; rintro e w5 ⟨a', c', rfl, lr, b5⟩; have HL := Lib.hid lr; have HI5 := HI4.out.below b5 HI4.out.lt; have d0 := HI5.cell 0; have d1 := HI5.cell 1; have f0 := HI5.free 0; simp at d0 d1; have g0' := cell_stayL g0 b5; have g0s : (w5.setCell ⟨wr.heap.size, 0, none⟩ (.slice a' (sansL MN xl).length c')).cell? ⟨w3.heap.size, 0, none⟩ = some (.float .f64 r) := cell_set1 g0' (by have := HI3.out.lt; show w3.heap.size ≠ wr.heap.size; omega); have HW5 := Lib.hid (HW4.out.trans (b5.mono HW4.out.size)); have HZ5 := Lib.hid b5; clear lr b5 HI5 g0 g1 g2 c0' c1') | (at_builtin; refine wpList_append_er rfl (.tmp 64) (.tmp 70) rfl w2.heap.size _ O rfl ((KX.out w5 _ HW5.out).alloc _) w5.heap.size _ ⟨a', (sansL MN xl).length, c', r, sansL MN xl⟩ rfl (by rw [World.cell?_alloc_at _ _ _ _ (by simp)]; rfl) (by rw [World.cell?_alloc_at _ _ _ _ (by simp)]; rfl) (by have := HOL.out; omega) (Nat.le_trans HB2.out.size (Nat.le_trans HW5.out.size (by simp))) ?_; intro v' w' own' gb hv; have HO5 := Lib.hid own'; have HG5 := Lib.hid gb; clear own' gb hv))
                  go_roundw
                  case rel =>
                    have hbw : Below w2.heap.size w2 (w5.setCell ⟨wr.heap.size, 0, none⟩ (.slice a' (sansL MN xl).length c')) := (HB2.out.trans (HW5.out.mono HB2.out.size)).setCell (p := ⟨wr.heap.size, 0, none⟩) HB2.out.size _
                    refine ⟨j + 1, O ++ [⟨a', (sansL MN xl).length, c', r, sansL MN xl⟩], by first | rfl | (congr 1; omega), by omega, HO5.out, ?_, ?_, by have := HOL.out; simp; omega, (hbw.alloc hbw.size _).grown HG5.out (Nat.le_trans hbw.size (by simp)) (fun b hb => (HO.out.lt b hb).1)⟩
                    · intro e he
                      rcases List.mem_append.1 he with he | he
                      · rcases (HOK.out e he) with h | h
                        · exact .inl h
                        · exact .inr ((((h.below HW5.out).setCell (fun hh => by have := (h.1.lt _ hh).2; omega)).below ((Below.refl _ _).alloc (Nat.le_refl _) _)).grown ((KX.out w5 _ HW5.out).alloc _) HG5.out)
                      · obtain rfl : e = ⟨a', (sansL MN xl).length, c', r, sansL MN xl⟩ := by simpa using he
                        have ho : ErOwn w2.heap.size w5 ⟨a', (sansL MN xl).length, c', r, sansL MN xl⟩ := ⟨HL.out.mono (Nat.le_trans HB2.out.size HW4.out.size), HSM.out.1, HSM.out.2, rfl⟩
                        exact .inr (((ho.setCell (fun hh => by have h1 := (HL.out.lt _ hh).1; have h2 := HI4.out.lt; omega)).below ((Below.refl _ _).alloc (Nat.le_refl _) _)).grown ((KX.out w5 _ HW5.out).alloc _) HG5.out)
                    · rw [HFS.out, List.map_append, HKEY.out]; simp [clK, Er.key, HR.out]
                  case measure => simp [intOf]; omega
            | true =>
              simp only [pickA, pickB, if_true, if_false, Bool.false_eq_true, reduceIte] at HWK
              go_wp2_with (first | (refine Bk.is_store 34 rfl ?_; refine Bk.wpList_store_box (w0 := wr) (N := 0) rfl 34 _ _ rfl #[.slice xa xn xc, .float .f64 xf] #[.slice none 0 0, .float .f64 0] 34 rfl rfl (by kernel_rfl) rfl (by kernel_rfl) ?_; intro W hI hB; have e0 : W.cell? ⟨wr.heap.size, 0, none⟩ = some (.slice xa xn xc) := (by rw [hI.cell]; rfl); have e1 : W.cell? ⟨wr.heap.size, 1, none⟩ = some (.float .f64 xf) := (by rw [hI.cell]; rfl); have HI := Lib.hid hI; have HW := Lib.hid hB; clear hI hB))
              go_quiet (fail)
              cases o with
              | false =>
                go_wp2_with (first | (go_at_call 29; refine (HWK.out _).mono ?_; rintro e w3 ⟨r, rfl, hr, b3'⟩; have b3 := Below.trans ((Below.refl _ W).drewN' nq) b3'; have c0 := cell_stayL e0 b3; have c1 := cell_stayL e1 b3; have HR := Lib.hid hr; have HI3 := Lib.hid (HI.out.below b3 HI.out.lt); have HW3 := Lib.hid (HW.out.trans (b3.mono HW.out.size)); clear hr b3 b3') | (refine Bk.is_store 59 rfl ?_; refine Bk.wpList_store_box (w0 := w3) (N := 0) rfl 59 _ _ rfl #[.float .f64 r, .bool false, .bool fl] #[.float .f64 0, .bool false, .bool false] 59 rfl rfl (by kernel_rfl) rfl (by kernel_rfl) ?_; intro W4 hI4 hB4; have g0 : W4.cell? ⟨w3.heap.size, 0, none⟩ = some (.float .f64 r) := (by rw [hI4.cell]; rfl); have g1 : W4.cell? ⟨w3.heap.size, 1, none⟩ = some (.bool false) := (by rw [hI4.cell]; rfl); have g2 : W4.cell? ⟨w3.heap.size, 2, none⟩ = some (.bool fl) := (by rw [hI4.cell]; rfl); have c0' := cell_stayL c0 hB4; have c1' := cell_stayL c1 hB4; have HI4 := Lib.hid (HI3.out.below hB4 HI3.out.lt); have HJ4 := Lib.hid hI4; have HW4 := Lib.hid (HW3.out.trans (hB4.mono HW3.out.size)); clear hI4 hB4 c0 c1))
                go_roundw
                case rel => exact ⟨j + 1, O, by first | rfl | (congr 1; omega), by omega, HO.out.below HW4.out, fun e he => (HOK.out e he).below HW4.out, by rw [HFS.out, HKEY.out]; simp, by have := HOL.out; omega, HB2.out.trans (HW4.out.mono HB2.out.size)⟩
                case measure => simp [intOf]; omega
              | true =>
                cases fl with
                | true =>
                  go_wp2_with (first | (go_at_call 29; refine (HWK.out _).mono ?_; rintro e w3 ⟨r, rfl, hr, b3'⟩; have b3 := Below.trans ((Below.refl _ W).drewN' nq) b3'; have c0 := cell_stayL e0 b3; have c1 := cell_stayL e1 b3; have HR := Lib.hid hr; have HI3 := Lib.hid (HI.out.below b3 HI.out.lt); have HW3 := Lib.hid (HW.out.trans (b3.mono HW.out.size)); clear hr b3 b3') | (refine Bk.is_store 59 rfl ?_; refine Bk.wpList_store_box (w0 := w3) (N := 0) rfl 59 _ _ rfl #[.float .f64 r, .bool true, .bool true] #[.float .f64 0, .bool false, .bool false] 59 rfl rfl (by kernel_rfl) rfl (by kernel_rfl) ?_; intro W4 hI4 hB4; have g0 : W4.cell? ⟨w3.heap.size, 0, none⟩ = some (.float .f64 r) := (by rw [hI4.cell]; rfl); have g1 : W4.cell? ⟨w3.heap.size, 1, none⟩ = some (.bool true) := (by rw [hI4.cell]; rfl); have g2 : W4.cell? ⟨w3.heap.size, 2, none⟩ = some (.bool true) := (by rw [hI4.cell]; rfl); have c0' := cell_stayL c0 hB4; have c1' := cell_stayL c1 hB4; have HI4 := Lib.hid (HI3.out.below hB4 HI3.out.lt); have HJ4 := Lib.hid hI4; have HW4 := Lib.hid (HW3.out.trans (hB4.mono HW3.out.size)); clear hI4 hB4 c0 c1) | (at_builtin; refine wpList_append_er rfl (.tmp 64) (.tmp 70) rfl w2.heap.size _ O rfl ((HO.out.below HW4.out).alloc _) W4.heap.size _ ⟨xa, xn, xc, r, xl⟩ rfl (by rw [World.cell?_alloc_at _ _ _ _ (by rfl)]; rfl) (by rw [World.cell?_alloc_at _ _ _ _ (by rfl)]; rfl) (by have := HOL.out; omega) (Nat.le_trans HB2.out.size (Nat.le_trans HW4.out.size (by simp))) ?_; intro v' w' own' gb hv; have HO5 := Lib.hid own'; have HG5 := Lib.hid gb; clear own' gb hv))
                  go_roundw
                  case rel =>
                    refine ⟨j + 1, O ++ [⟨xa, xn, xc, r, xl⟩], by first | rfl | (congr 1; omega), by omega, HO5.out, ?_, ?_, by have := HOL.out; simp; omega, ((HB2.out.trans (HW4.out.mono HB2.out.size)).alloc (Nat.le_trans HB2.out.size HW4.out.size) _).grown HG5.out (Nat.le_trans HB2.out.size (Nat.le_trans HW4.out.size (by simp))) (fun b hb => (HO.out.lt b hb).1)⟩
                    · intro e he
                      rcases List.mem_append.1 he with he | he
                      · exact (((HOK.out e he).below HW4.out).below ((Below.refl _ _).alloc (Nat.le_refl _) _)).grown ((HO.out.below HW4.out).alloc _) HG5.out
                      · obtain rfl : e = ⟨xa, xn, xc, r, xl⟩ := by simpa using he
                        exact .inl HYO.out
                    · rw [HFS.out, List.map_append, HKEY.out]; simp [clK, Er.key, HR.out]
                  case measure => simp [intOf]; omega
                | false =>
                  have KX : Hid (∀ (w5 : World) (vv : Value), Below wr.heap.size wr w5 → OwnE w2.heap.size (w5.setCell ⟨wr.heap.size, 0, none⟩ vv) u13 O) := Lib.hid fun w5 vv hb5 => (HO.out.below hb5).setCell (fun h => by have := (HO.out.lt _ h).2; omega)
                  go_wp2_with (first | (go_at_call 29; refine (HWK.out _).mono ?_; rintro e w3 ⟨r, rfl, hr, b3'⟩; have b3 := Below.trans ((Below.refl _ W).drewN' nq) b3'; have c0 := cell_stayL e0 b3; have c1 := cell_stayL e1 b3; have HR := Lib.hid hr; have HI3 := Lib.hid (HI.out.below b3 HI.out.lt); have HW3 := Lib.hid (HW.out.trans (b3.mono HW.out.size)); clear hr b3 b3') | (refine Bk.is_store 59 rfl ?_; refine Bk.wpList_store_box (w0 := w3) (N := 0) rfl 59 _ _ rfl #[.float .f64 r, .bool true, .bool false] #[.float .f64 0, .bool false, .bool false] 59 rfl rfl (by kernel_rfl) rfl (by kernel_rfl) ?_; intro W4 hI4 hB4; have g0 : W4.cell? ⟨w3.heap.size, 0, none⟩ = some (.float .f64 r) := (by rw [hI4.cell]; rfl); have g1 : W4.cell? ⟨w3.heap.size, 1, none⟩ = some (.bool true) := (by rw [hI4.cell]; rfl); have g2 : W4.cell? ⟨w3.heap.size, 2, none⟩ = some (.bool false) := (by rw [hI4.cell]; rfl); have c0' := cell_stayL c0 hB4; have c1' := cell_stayL c1 hB4; have HI4 := Lib.hid (HI3.out.below hB4 HI3.out.lt); have HJ4 := Lib.hid hI4; have HW4 := Lib.hid (HW3.out.trans (hB4.mono HW3.out.size)); clear hI4 hB4 c0 c1) | (go_at_call 27; refine (HNL.out _ (HB2.out.trans (HW4.out.mono HB2.out.size))).mono ?_; rintro e w5 ⟨a', c', rfl, lr, b5⟩; have HL := Lib.hid lr; have HI5 := HI4.out.below b5 HI4.out.lt; have d0 := HI5.cell 0; have d1 := HI5.cell 1; have f0 := HI5.free 0; simp at d0 d1; have g0' := cell_stayL g0 b5; have g0s : (w5.setCell ⟨wr.heap.size, 0, none⟩ (.slice a' (sansL MN xl).length c')).cell? ⟨w3.heap.size, 0, none⟩ = some (.float .f64 r) := cell_set1 g0' (by have := HI3.out.lt; show w3.heap.size ≠ wr.heap.size; omega); have HW5 := Lib.hid (HW4.out.trans (b5.mono HW4.out.size)); have HZ5 := Lib.hid b5; clear lr b5 HI5 g0 g1 g2 c0' c1') | (at_builtin; refine wpList_append_er rfl (.tmp 64) (.tmp 70) rfl w2.heap.size _ O rfl ((KX.out w5 _ HW5.out).alloc _) w5.heap.size _ ⟨a', (sansL MN xl).length, c', r, sansL MN xl⟩ rfl (by rw [World.cell?_alloc_at _ _ _ _ (by simp)]; rfl) (by rw [World.cell?_alloc_at _ _ _ _ (by simp)]; rfl) (by have := HOL.out; omega) (Nat.le_trans HB2.out.size (Nat.le_trans HW5.out.size (by simp))) ?_; intro v' w' own' gb hv; have HO5 := Lib.hid own'; have HG5 := Lib.hid gb; clear own' gb hv))
                  go_roundw
                  case rel =>
                    have hbw : Below w2.heap.size w2 (w5.setCell ⟨wr.heap.size, 0, none⟩ (.slice a' (sansL MN xl).length c')) := (HB2.out.trans (HW5.out.mono HB2.out.size)).setCell (p := ⟨wr.heap.size, 0, none⟩) HB2.out.size _
                    refine ⟨j + 1, O ++ [⟨a', (sansL MN xl).length, c', r, sansL MN xl⟩], by first | rfl | (congr 1; omega), by omega, HO5.out, ?_, ?_, by have := HOL.out; simp; omega, (hbw.alloc hbw.size _).grown HG5.out (Nat.le_trans hbw.size (by simp)) (fun b hb => (HO.out.lt b hb).1)⟩
                    · intro e he
                      rcases List.mem_append.1 he with he | he
                      · rcases (HOK.out e he) with h | h
                        · exact .inl h
                        · exact .inr ((((h.below HW5.out).setCell (fun hh => by have := (h.1.lt _ hh).2; omega)).below ((Below.refl _ _).alloc (Nat.le_refl _) _)).grown ((KX.out w5 _ HW5.out).alloc _) HG5.out)
                      · obtain rfl : e = ⟨a', (sansL MN xl).length, c', r, sansL MN xl⟩ := by simpa using he
                        have ho : ErOwn w2.heap.size w5 ⟨a', (sansL MN xl).length, c', r, sansL MN xl⟩ := ⟨HL.out.mono (Nat.le_trans HB2.out.size HW4.out.size), HSM.out.1, HSM.out.2, rfl⟩
                        exact .inr (((ho.setCell (fun hh => by have h1 := (HL.out.lt _ hh).1; have h2 := HI4.out.lt; omega)).below ((Below.refl _ _).alloc (Nat.le_refl _) _)).grown ((KX.out w5 _ HW5.out).alloc _) HG5.out)
                    · rw [HFS.out, List.map_append, HKEY.out]; simp [clK, Er.key, HR.out]
                  case measure => simp [intOf]; omega
          · have hkn : ¬ (j : Int) < (vs.length : Int) := by omega
            have HE : Hid (O.map (fun x => clK x.key) = ms.filterMap (stepM (opK u.toList) x left yes)) := Lib.hid (by
              rw [HKEY.out, List.take_of_length_le (by omega), HK2.out])
            obtain ⟨ao, co, hvo, hso, hro⟩ := HO.out.row (fun e he => (HOK.out e he).ok HB2.out) (by have := HOL.out; omega)
            subst hvo
            have HSET := Lib.hid (settledO_any ao O.length co O _ wr hro HE.out)
            clear hso hro hrw
            go_wp2_with (go_at_call 28; refine HSET.out.mono ?_; rintro e w5 ⟨xs5, hx5, a5, c5, es5, rfl, hh⟩; have HH := Lib.hid (And.intro hx5 hh); clear hx5 hh)
            go_ret2
            exact AnsO.from ⟨xs5, HH.out.1, a5, c5, es5, rfl, HH.out.2⟩ (HBW.out.trans (HB2.out.mono HBW.out.size))
    · have hk6 : ¬ opK u.toList < 6 := by omega
      rw [if_neg hk, if_neg hk]
      have HM2 := Lib.hid (HM.out hk6)
      rw [decide_eq_false hk] at HM2
      rw [decide_eq_false hk6] at HA
      clear HM hk hk6
      go_enter Tryz.func15, Tryz.ntmps15
      go_wp2_with (first | (go_at_call 19; refine HC.out.mono ?_; intro e w1 hg; obtain ⟨a2, c2, es2, rfl, h1, h2, h3, h4, h5⟩ := hg.row; have HB := Lib.hid h5; clear h1 h2 h3 h4 h5 hg) | (go_at_call 22; refine (HA.out _).mono ?_; rintro e w3 ⟨rfl, nd, rfl⟩) | (go_at_call 23; refine (HM2.out _).mono ?_; rintro e w3 ⟨rfl, rfl⟩))
      go_ret2
      exact AnsO.nil _ 0 (HB.out.drewN' nd) rfl

end Go.Proofs.YtmmfjknnbkcniaaGreatDoor

namespace Go.Proofs.YtmmfjknnbkcniaaGreatDoor
open Go.Fl Go.Rel Go.RowKit Go.Sort Go.Utf
set_option linter.unusedSimpArgs false
set_option linter.unusedVariables false

end Go.Proofs.YtmmfjknnbkcniaaGreatDoor

namespace Go.Proofs.YtmmfjknnbkcniaaGreatDoor
open Go.Fl Go.Rel Go.RowKit Go.Sort
set_option linter.unusedSimpArgs false
set_option linter.unusedVariables false

/-- What becomes of an element. -/
def stepN (e : Ek) : Ek := (sansL MN e.1, fneg (cn e.2))
def negE (ks : List Ek) : Int := match vecK ks with | none => 5 | some ms => setE (ms.map stepN)
def negV (ks : List Ek) : List Ek := match vecK ks with | none => [] | some ms => setV (ms.map stepN)

theorem erAt_set {l : List Er} {i j : Nat} {b : Er} (h : i < l.length) : erAt (l.set i b) j = if i = j then b else erAt l j := by
  unfold erAt
  by_cases e : i = j
  · subst e; simp [List.getD, h]
  · simp [List.getD, e, List.getElem?_set_ne]
theorem WRE.set {w : World} {g : Nat} {l : List Er} (h : WRE w g l) (i : Nat) (y : Er) (hi : i < l.length) :
    WRE ((w.setCell ⟨g, i * 2, none⟩ (.slice y.a y.n y.c)).setCell ⟨g, i * 2 + 1, none⟩ (.float .f64 y.f)) g (l.set i y) := by
  obtain ⟨h0, h⟩ := h
  refine ⟨by simpa using h0, fun j hj c hc => ?_⟩
  rw [List.length_set] at hj
  obtain ⟨c0, f0⟩ := h j hj c hc
  obtain ⟨d0, _⟩ := h i hi 0 (by omega)
  obtain ⟨d1, _⟩ := h i hi 1 (by omega)
  rw [Nat.zero_add] at c0 f0 d0 d1 ⊢
  rw [erAt_set hi]
  refine ⟨?_, by rw [World.frozen?_setCell, World.frozen?_setCell]; exact f0⟩
  by_cases e : i = j
  · subst e
    rw [if_pos rfl]
    rcases (by omega : c = 0 ∨ c = 1) with rfl | rfl
    · rw [World.cell?_setCell_other _ _ _ _ (fun h => by injection h with _ h2 _; omega)]
      rw [Nat.add_zero]
      exact World.cell?_setCell_same _ _ _ (by rw [Nat.add_zero] at d0; exact d0)
    · exact World.cell?_setCell_same _ _ _ (by rw [World.cell?_setCell_other _ _ _ _ (fun h => by injection h with _ h2 _; omega)]; exact d1)
  · rw [if_neg e, World.cell?_setCell_other _ _ _ _ (fun h => by injection h with _ h2 _; omega), World.cell?_setCell_other _ _ _ _ (fun h => by injection h with _ h2 _; omega)]
    exact c0
theorem WRE.below {w w' : World} {g k : Nat} {l : List Er} (h : WRE w g l) (hb : Below k w w') (hk : g < k) : WRE w' g l := by
  obtain ⟨h0, h⟩ := h
  have hgl : g < w'.heap.size := by
    have hb2 := hb.block g hk
    rw [Array.getElem?_eq_getElem h0] at hb2
    by_cases hh : g < w'.heap.size
    · exact hh
    · rw [Array.getElem?_eq_none (by omega)] at hb2; cases hb2
  refine ⟨hgl, fun i hi c hc => ?_⟩
  obtain ⟨c0, f0⟩ := h i hi c hc
  rw [hb.cell (p := ⟨g, 0 + i * 2 + c, none⟩) hk]
  refine ⟨c0, ?_⟩
  unfold World.frozen? at *; rw [hb.block g hk]; exact f0

def NegRel (vs : List Er) (g : Nat) (w : World) (v15 : Value) (wr : World) : Prop :=
  ∃ (j : Nat) (cur : List Er), v15 = .int .i64 (j : Int) ∧ j ≤ vs.length ∧ cur.length = vs.length ∧ WRE wr g cur ∧ (∀ e ∈ cur, ErOwn w.heap.size wr e ∧ (Value.slice e.a e.n e.c).ownBlock ≠ some g) ∧
    (∀ i, i < j → clK (erAt cur i).key = stepN (erAt vs i).key) ∧ (∀ i, j ≤ i → i < vs.length → erAt cur i = erAt vs i) ∧ Below w.heap.size w wr

theorem neg_all {vs cur : List Er} (hl : cur.length = vs.length) (h : ∀ i, i < vs.length → clK (erAt cur i).key = stepN (erAt vs i).key) : cur.map (fun x => clK x.key) = (vs.map Er.key).map stepN := by
  apply List.ext_getElem
  · simp [hl]
  · intro i h1 h2
    simp only [List.getElem_map]
    rw [← erAt_get (by simpa using h1), ← erAt_get (by simpa using h2)]
    exact h i (by simpa using h2)

set_option maxHeartbeats 8000000 in
set_option maxRecDepth 100000 in
theorem negateO_any (a : Option Addr) (n cap : Nat) (es : List Er) (w : World) (hr : ERow w a n es) :
    Calls Tryz.prog 14 #[.slice a n cap] w (AnsO (negE (es.map Er.key)) (negV (es.map Er.key)) w) := by
  have HC := Lib.hid (vector_any a n cap es w hr)
  unfold negE negV
  cases hv : vecK (es.map Er.key) with
  | none =>
    unfold VecRet at HC
    rw [hv] at HC
    dsimp only at HC
    clear hv hr
    go_enter Tryz.func14, Tryz.ntmps14
    go_wp2_with (go_at_call 19; refine HC.out.mono ?_; rintro e w1 ⟨rfl, bl⟩)
    go_ret2
    exact AnsO.nil _ 0 (bl) rfl
  | some ms =>
    unfold VecRet at HC
    rw [hv] at HC
    dsimp only at HC ⊢
    clear hv hr
    go_enter Tryz.func14, Tryz.ntmps14
    go_wp2_with (go_at_call 19; refine HC.out.mono ?_; rintro e w2 ⟨g, c2, vs, rfl, h1, h2, h3, h4, h5, h6, h7, h8⟩; have HCAP := Lib.hid h1; have HG := Lib.hid h3; have HWR := Lib.hid h4; have HOK := Lib.hid h5; have HK2 := Lib.hid h6; have HBW := Lib.hid h8; have HVL := Lib.hid h2; clear h1 h2 h3 h4 h5 h6 h7 h8)
    have hvl : (vs.length : Int) ≤ 4398046511104 := by have := HVL.out; omega
    go_loopw [15] (NegRel vs g w) (fun v _ => vs.length - (intOf v).toNat)
    case atStart => exact ⟨0, vs, rfl, by omega, rfl, HWR.out, HOK.out, fun i h => by omega, fun i _ _ => rfl, HBW.out⟩
    case round =>
      obtain ⟨j, cur, rfl, hj, hcl, hwr, hok, hdo, hto, bel⟩ := hrel
      have HWC := Lib.hid hwr
      have HO := Lib.hid hok
      have HDO := Lib.hid hdo
      have HTO := Lib.hid hto
      have HB := Lib.hid bel
      have HCL := Lib.hid hcl
      clear hwr hok hdo hto bel hcl
      by_cases hlt : j < vs.length
      · have k1 : (0 : Int) ≤ (j : Int) := by omega
        have k2 : (j : Int) < (vs.length : Int) := by omega
        obtain ⟨y, hy⟩ : ∃ y, y = erAt cur j := ⟨_, rfl⟩
        have hjc : j < cur.length := by have := HCL.out; omega
        have hmem : y ∈ cur := by rw [hy, erAt_get hjc]; exact List.getElem_mem _
        have hyv : y = erAt vs j := by rw [hy]; exact HTO.out j (Nat.le_refl _) hlt
        have hyo := (HO.out y hmem)
        have c0 := (HWC.out.2 j hjc 0 (by omega))
        have c1 := (HWC.out.2 j hjc 1 (by omega))
        rw [← hy, Nat.zero_add, Nat.add_zero] at c0
        rw [← hy, Nat.zero_add] at c1
        obtain ⟨x0, f0⟩ := c0
        obtain ⟨x1, f1⟩ := c1
        obtain ⟨xa, xn, xc, xf, xl⟩ := y
        have HYV := Lib.hid hyv
        have HYO := Lib.hid hyo
        have HJC := Lib.hid hjc
        have x0 : wr.drew.cell? ⟨g, j * 2, none⟩ = some (.slice xa xn xc) := x0
        have x1 : wr.drew.cell? ⟨g, j * 2 + 1, none⟩ = some (.float .f64 xf) := x1
        have hneg : ∀ W, (Op.unary UnOp.neg (.float .f64 xf)).run Tryz.prog W = .ok (.float .f64 (Op.negFloat .f64 xf)) W := fun W => rfl
        have HNL : Hid (Calls Tryz.prog 27 #[.slice xa xn xc] wr.drew fun e w' => ∃ a c, e = .returned (.slice a (sansL MN xl).length c) ∧ OwnL wr.drew.heap.size w' (.slice a (sansL MN xl).length c) (sansL MN xl) ∧ Below wr.drew.heap.size wr.drew w') := Lib.hid
          ((nameless_any xa xn xc xl wr.drew (HYO.out.1.ok.below ((Below.refl _ wr).drewN' 1)).1 HYO.out.1.ok.2.2).mono fun e w' h => h.own)
        clear hy hyv hyo hmem hjc
        go_wp2_with fail
        go_region_with (first | (go_at_call 27; refine HNL.out.mono ?_; rintro e w5 ⟨a', c', rfl, lr, b5⟩; have y0 := cell_stayL x0 b5; have y1 := cell_stayL x1 b5; have HW5 := HWC.out.below (((Below.refl wr.heap.size wr).drewN' 1).trans b5) HWC.out.1; have g0 := (HW5.2 j HJC.out 0 (by omega)).2; have g1 := (HW5.2 j HJC.out 1 (by omega)).2; rw [Nat.zero_add, Nat.add_zero] at g0; rw [Nat.zero_add] at g1))
        all_goals (
          have hb5 : Below wr.heap.size wr w5 := ((Below.refl wr.heap.size wr).drewN' 1).trans b5
          have HNEW : Hid (NegRel vs g w (.int .i64 ((j : Int) + 1)) ((w5.setCell ⟨g, j * 2, none⟩ (.slice a' (sansL MN xl).length c')).setCell ⟨g, j * 2 + 1, none⟩ (.float .f64 (Op.negFloat .f64 xf)))) := Lib.hid (by
            have hgw := HWC.out.1
            refine ⟨j + 1, cur.set j ⟨a', (sansL MN xl).length, c', Op.negFloat .f64 xf, sansL MN xl⟩, by first | rfl | (congr 1; omega), by omega, by rw [List.length_set]; exact HCL.out, HW5.set j ⟨a', (sansL MN xl).length, c', Op.negFloat .f64 xf, sansL MN xl⟩ HJC.out, ?_, ?_, ?_, ?_⟩
            · intro e he
              rcases List.mem_or_eq_of_mem_set he with he | he
              · obtain ⟨h1, h2⟩ := HO.out e he
                exact ⟨((h1.below hb5).setCell h2).setCell h2, h2⟩
              · subst he
                have hne : (Value.slice a' (sansL MN xl).length c').ownBlock ≠ some g := fun hh => by have h1 : wr.heap.size ≤ g := (lr.lt _ hh).1; omega
                have ho : ErOwn w.heap.size w5 ⟨a', (sansL MN xl).length, c', Op.negFloat .f64 xf, sansL MN xl⟩ := ⟨lr.mono HB.out.size, sansL_small _ HYO.out.1.2.1, Nat.le_trans (sansL_length _ _) HYO.out.1.2.2.1, rfl⟩
                exact ⟨(ho.setCell hne).setCell hne, hne⟩
            · intro i hi
              rw [erAt_set HJC.out]
              by_cases hij : j = i
              · rw [if_pos hij, ← hij, ← HYV.out]
                show (sansL MN xl, cn (Op.negFloat .f64 xf)) = (sansL MN xl, fneg (cn xf))
                rw [cn_neg]
              · rw [if_neg hij]; exact HDO.out i (by omega)
            · intro i hi hi2
              rw [erAt_set HJC.out, if_neg (by omega)]; exact HTO.out i (by omega) hi2
            · exact ((HB.out.trans (hb5.mono HB.out.size)).setCell (p := ⟨g, j * 2, none⟩) HG.out _).setCell (p := ⟨g, j * 2 + 1, none⟩) HG.out _)
          clear y0 y1 g0 g1 HW5 lr b5 hb5 x0 x1 f0 f1
          generalize ((w5.setCell ⟨g, j * 2, none⟩ (.slice a' (sansL MN xl).length c')).setCell ⟨g, j * 2 + 1, none⟩ (.float .f64 (Op.negFloat .f64 xf))) = W6 at HNEW ⊢
          go_wp2_with fail
          go_roundw
          case rel => exact HNEW.out
          case measure => simp [intOf]; omega)
      · have hkn : ¬ (j : Int) < (vs.length : Int) := by omega
        have HE : Hid (cur.map (fun x => clK x.key) = ms.map stepN) := Lib.hid (by
          rw [neg_all HCL.out (fun i hi => HDO.out i (by omega)), HK2.out])
        have hro : ERow wr (some ⟨g, 0, none⟩) vs.length cur := by
          refine ⟨HCL.out, HVL.out, fun e he => (HO.out e he).1.ok, fun _ => ⟨g, 0, rfl, HWC.out.1, fun i hi => ⟨?_, ?_⟩⟩⟩
          · have := (HWC.out.2 i (by have := HCL.out; omega) 0 (by omega)).1; rw [Nat.add_zero] at this; exact this
          · exact (HWC.out.2 i (by have := HCL.out; omega) 1 (by omega)).1
        have HSET := Lib.hid (settledO_any _ vs.length c2 cur _ wr hro HE.out)
        clear hro
        go_wp2_with (go_at_call 28; refine HSET.out.mono ?_; rintro e w5 ⟨xs5, hx5, a5, c5, es5, rfl, hh⟩; have HH := Lib.hid (And.intro hx5 hh); clear hx5 hh)
        go_ret2
        exact AnsO.from ⟨xs5, HH.out.1, a5, c5, es5, rfl, HH.out.2⟩ (HB.out)

end Go.Proofs.YtmmfjknnbkcniaaGreatDoor

namespace Go.Proofs.YtmmfjknnbkcniaaGreatDoor
open Go.Fl Go.Rel Go.RowKit Go.Sort
set_option linter.unusedSimpArgs false
set_option linter.unusedVariables false

end Go.Proofs.YtmmfjknnbkcniaaGreatDoor
