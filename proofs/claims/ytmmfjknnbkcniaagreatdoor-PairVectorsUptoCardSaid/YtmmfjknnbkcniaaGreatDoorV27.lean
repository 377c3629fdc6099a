/- labels.Vector: the elements in canonical order, if all sets of labels are valid and none comes twice. labels.Vector: the walk. weirref16.sorted: the elements sorted by merging. weirref16.Vector: the walk. -/
import Derived.Test.YtmmfjknnbkcniaaGreatDoorV06
import Derived.Test.YtmmfjknnbkcniaaGreatDoorV26
import Derived.Deep.RegionHeld3
import Derived.Test.YtmmfjknnbkcniaaGreatDoorV11
import Derived.Laws.Slices
set_option maxHeartbeats 64000000
set_option maxRecDepth 100000
namespace Go.Fl
abbrev Ek := List Lb × Nat
def Er.key (e : Er) : Ek := (e.ls, e.f)
def kAt (ks : List Ek) (i : Nat) : Ek := ks.getD i ([], 0)
def leK (x y : Ek) : Bool := leL x.1 y.1
def leE (x y : Er) : Bool := leL x.ls y.ls
def sortK (ks : List Ek) : List Ek := ks.mergeSort leK
theorem sort_key (es : List Er) : (es.mergeSort leE).map Er.key = sortK (es.map Er.key) := by
 unfold sortK
 exact List.map_mergeSort fun a _ b _ => rfl
def noDup (ks : List Ek) : Bool := (List.range (ks.length - 1)).all fun i => !decide (lcmp (kAt ks i).1 (kAt ks (i + 1)).1 = 0)
theorem kAt_key (es : List Er) {i : Nat} (h : i < es.length) : kAt (es.map Er.key) i = (erAt es i).key := by
 unfold kAt erAt
 simp [List.getD, h]
def ecmp (a b : Er) : Int := lcmp a.ls b.ls
end Go.Fl
namespace Go.Proofs.YtmmfjknnbkcniaaGreatDoor
open Go.Fl Go.Rel Go.RowKit Go.Sort Go.Shelf Go.Stab Go.Lib
set_option linter.unusedSimpArgs false
set_option linter.unusedVariables false
theorem leE_eq : (fun x y : Er => !ltOf ecmp y x) = leE := by
 funext x y
 unfold ltOf ecmp leE leL
 rw [lcmp_swap x.ls y.ls]
 by_cases h : lcmp x.ls y.ls ≤ 0
 ·rw [decide_eq_true h, decide_eq_false (by omega)]; rfl
 ·rw [decide_eq_false h, decide_eq_true (by omega)]; rfl
theorem swo_er : SWO (ltOf ecmp) := by
 refine ⟨fun x => ?_, fun x y z h1 h2 => ?_, fun x y z h1 h2 => ?_⟩
 ·unfold ltOf ecmp; rw [lcmp_zero.2 rfl]; rfl
 ·unfold ltOf ecmp at *
  exact decide_eq_true (lcmp_trans (of_decide_eq_true h1) (of_decide_eq_true h2))
 ·unfold ltOf ecmp at *
  have g1 := of_decide_eq_false h1; have g2 := of_decide_eq_false h2
  refine decide_eq_false ?_
  have t := leL_trans z.ls y.ls x.ls (decide_eq_true (by rw [lcmp_swap y.ls z.ls]; omega)) (decide_eq_true (by rw [lcmp_swap x.ls y.ls]; omega))
  have t := of_decide_eq_true t
  rw [lcmp_swap x.ls z.ls] at t
  omega
def validK (k : Ek) : Bool := (List.range k.1.length).all (okL k.1)
def vecK (ks : List Ek) : Option (List Ek) := if ks.all validK && noDup (sortK ks) then some (sortK ks) else none
theorem ecmp_any (x y : Er) (w : World) (hx : ErOk w x) (hy : ErOk w y) : Calls Tryz.prog 39 #[.agg (erCells x).toArray, .agg (erCells y).toArray] w fun e w' => e = .returned (.int .i64 (lcmp x.ls y.ls)) ∧ Grn w w' := by
 obtain ⟨xa, xn, xc, xf, xl⟩ := x
 obtain ⟨ya, yn, yc, yf, yl⟩ := y
 have HC : Hid (∀ W, Grn w W → Calls Tryz.prog 40 #[.slice xa xn xc, .slice ya yn yc] W fun e w' => e = .returned (.int .i64 (lcmp xl yl)) ∧ Grn W w') := qh fun W hW => lcompare_any _ _ _ _ _ _ _ _ _ (hx.1.below hW.below) (hy.1.below hW.below)
 clear hx hy
 show Calls _ _ #[.agg #[.slice xa xn xc, .float .f64 xf], .agg #[.slice ya yn yc, .float .f64 yf]] _ _
 go_enter Tryz.func39, Tryz.ntmps39
 go_wp2_with (go_at_call 40; refine (HC.out _ (((Grn.refl w).alloc _).alloc _)).mono ?_; rintro e w2 ⟨rfl, gr⟩)
 go_ret
 exact ⟨rfl, (((Grn.refl w).alloc _).alloc _).trans gr⟩
def WRE (w : World) (g : Nat) (es : List Er) : Prop := g < w.heap.size ∧ ∀ i, i < es.length → ∀ c, c < 2 → w.cell? ⟨g, 0 + i * 2 + c, none⟩ = (erCells (erAt es i))[c]? ∧ w.frozen? ⟨g, 0 + i * 2 + c, none⟩ = false
theorem wre_holds {w : World} {g : Nat} {xs : List Er} (h : WRE w g xs) : HoldsK erCells 2 w g 0 xs.toArray := fun j hj => by
 rw [size_flatK] at hj
 rw [get_flatK _ _ _ _ hj]
 have hj' : j < xs.length * 2 := by simpa using hj
 have e : xs.toArray[j / 2]! = erAt xs (j / 2) := by
  rw [erAt_get (show j / 2 < xs.length by omega)]
  simp [show j / 2 < xs.length by omega]
 obtain ⟨c0, f0⟩ := h.2 (j / 2) (by omega) (j % 2) (by omega)
 rw [e, show 0 + j = 0 + j / 2 * 2 + j % 2 by omega]
 refine ⟨?_, f0⟩
 rw [c0]
 rcases Nat.mod_two_eq_zero_or_one j with h2 | h2 <;> rw [h2] <;> rfl
theorem sort_rowE (g n c' B : Nat) (xs : List Er) (w : World) (h : WRE w g xs) (hl : xs.length = n) (hb : n ≤ 4398046511104) (hok : ∀ W, KeptButF g w W → ∀ e ∈ xs, ErOk W e) :
  Calls Tryz.prog 38 #[.slice (some ⟨g, 0, none⟩) n c', .func (.func 39) #[] #[]] w fun e w' => e = .returned (.tuple #[]) ∧ WRE w' g (xs.mergeSort leE) ∧ KeptButF g w w' := by
 have hsz : xs.toArray.size = n := by simp [hl]
 have := sortStableE (cap := c') erCells 2 (fun _ => rfl) (fun x v hv => by simp [erCells] at hv; rcases hv with rfl | rfl <;> rfl) (fun w => by kernel_rfl) (fun w => by kernel_rfl) ecmp swo_er 39 #[] (fun args w => by kernel_rfl) g 0 xs.toArray w (wre_holds h) h.1 (by rw [hsz]; omega) (fun W i j hk => by
  have key : ∀ i, ErOk W xs.toArray[i]! := fun i => by
   by_cases hi : i < xs.length
   ·have : xs.toArray[i]! = xs[i] := by simp [hi]
    rw [this]
    exact hok W hk _ (List.getElem_mem hi)
   ·have : xs.toArray[i]! = default := by simp [hi]
    rw [this]
    exact ⟨LRow.nothing _, ⟨Nat.le_refl _, fun _ => rfl⟩, by show (0 : Nat) ≤ _; omega⟩
  exact ecmp_any _ _ W (key i) (key j))
 rw [hsz] at this
 refine this.mono ?_
 rintro e w' ⟨rfl, hk, ms, hms, hml, hc⟩
 have hms' : ms = xs.mergeSort leE := by rw [hms, leE_eq]
 subst hms'
 refine ⟨rfl, ⟨by have := hk.size; have := h.1; omega, fun i hi c hcc => ?_⟩, hk⟩
 obtain ⟨a0, b0⟩ := hc i (by rw [← hml]; exact hi) c hcc
 refine ⟨?_, b0⟩
 rw [a0]
 show some (erCells (erAt (xs.mergeSort leE) i))[c]! = _
 rcases (by omega : c = 0 ∨ c = 1) with rfl | rfl <;> rfl
theorem OwnE.wre {B : Nat} {w : World} {g n cap : Nat} {es : List Er} (h : OwnE B w (.slice (some ⟨g, 0, none⟩) n cap) es) : WRE w g es :=
 ⟨(h.lt g rfl).2, fun i hi c hc => ⟨h.cell hi hc, h.frozen _⟩⟩
def ApartE (es : List Er) : Prop := es.Pairwise fun x y => ∀ b, (Value.slice x.a x.n x.c).ownBlock = some b → (Value.slice y.a y.n y.c).ownBlock ≠ some b
def VecGood (es0 : List Er) (ms : List Ek) (w : World) (e : Ending) (w' : World) : Prop :=
 ∃ g cap es, e = .returned (.tuple #[.slice (some ⟨g, 0, none⟩) es.length cap, .int .i64 0]) ∧ es.length ≤ cap ∧ es.length ≤ 4398046511104 ∧ w.heap.size ≤ g ∧ WRE w' g es ∧ (∀ e ∈ es, ErOwn w.heap.size w' e ∧ (Value.slice e.a e.n e.c).ownBlock ≠ some g) ∧ es.map Er.key = ms ∧ ((∀ x ∈ es, ∃ y ∈ es0, x.f = y.f) ∧ ApartE es) ∧ Below w.heap.size w w'
def VecRet (es0 : List Er) (w : World) (e : Ending) (w' : World) : Prop :=
 match vecK (es0.map Er.key) with
 | none => e = .returned (.tuple #[.slice none 0 0, .int .i64 5]) ∧ Below w.heap.size w w'
 | some ms => VecGood es0 ms w e w'
end Go.Proofs.YtmmfjknnbkcniaaGreatDoor
namespace Go.Fl
theorem map_take_snoc {fs es : List Er} {k : Nat} (h : k < es.length) (hf : fs.map Er.key = (es.take k).map Er.key) (e : Er) (he : e.key = (erAt es k).key) : (fs ++ [e]).map Er.key = (es.take (k + 1)).map Er.key := by
 rw [List.map_append, hf, List.take_add_one, List.getElem?_eq_getElem h, List.map_append, ← erAt_get h]
 simp [he]
theorem noDup_yes {ms : List Er} (h : ∀ j, j + 1 < ms.length → ¬ lcmp (erAt ms j).ls (erAt ms (j + 1)).ls = 0) : noDup (ms.map Er.key) = true := by
 unfold noDup
 rw [List.all_eq_true]
 intro j hj
 have hj2 := List.mem_range.1 hj
 rw [List.length_map] at hj2
 rw [kAt_key ms (by omega), kAt_key ms (by omega)]
 have := h j (by omega)
 show (!decide (lcmp (erAt ms j).ls (erAt ms (j + 1)).ls = 0)) = true
 rw [decide_eq_false this]; rfl
theorem noDup_no {ms : List Er} {j : Nat} (hj : j + 1 < ms.length) (h : lcmp (erAt ms j).ls (erAt ms (j + 1)).ls = 0) : noDup (ms.map Er.key) = false := by
 unfold noDup
 rw [List.all_eq_false]
 refine ⟨j, List.mem_range.2 (by rw [List.length_map]; omega), ?_⟩
 rw [kAt_key ms (by omega), kAt_key ms (by omega)]
 simp [Er.key, h]
end Go.Fl
namespace Go.Proofs.YtmmfjknnbkcniaaGreatDoor
open Go.Fl Go.Rel Go.RowKit Go.Sort Go.Shelf Go.Stab Go.Lib
set_option linter.unusedSimpArgs false
set_option linter.unusedVariables false
def TakeE (es : List Er) (w : World) (v4 v13 : Value) (wr : World) : Prop :=
 ∃ (k : Nat) (fs : List Er) (g cap : Nat), v13 = .int .i64 (k : Int) ∧ k ≤ es.length ∧ v4 = .slice (some ⟨g, 0, none⟩) fs.length cap ∧ fs.length ≤ cap ∧ OwnE w.heap.size wr (.slice (some ⟨g, 0, none⟩) fs.length cap) fs ∧ (∀ e ∈ fs, ErOwn w.heap.size wr e) ∧
  fs.map Er.key = (es.take k).map Er.key ∧ (∀ j, j < k → validK (erAt es j).key = true) ∧ ((∀ x ∈ fs, ∃ y ∈ es, x.f = y.f) ∧ ApartE fs) ∧ Below w.heap.size w wr
def DupRel (ms : List Er) (w : World) (v7 : Value) (wr : World) : Prop :=
 ∃ k : Nat, v7 = .int .i64 (k : Int) ∧ 1 ≤ k ∧ (k ≤ ms.length ∨ k = 1) ∧ (∀ j, j + 1 < k → ¬ lcmp (erAt ms j).ls (erAt ms (j + 1)).ls = 0) ∧ Grn w wr
theorem OwnE.cap {B : Nat} {w : World} {g n cap : Nat} {es : List Er} (h : OwnE B w (.slice (some ⟨g, 0, none⟩) n cap) es) : n = es.length ∧ es.length ≤ cap ∧ B ≤ g ∧ g < w.heap.size := by
 rcases h.form with ⟨e, _⟩ | ⟨g', cap', e, h1, h2, h3, _⟩
 ·cases e
 ·cases e; exact ⟨rfl, h3, h1, h2⟩
theorem keepE {q0 q1 : Addr} {v0 v1 : Value} {z w w' : World} (h : w.cell? q0 = some v0 ∧ w.cell? q1 = some v1 ∧ Below z.heap.size z w) (hb : Below w.heap.size w w') : w'.cell? q0 = some v0 ∧ w'.cell? q1 = some v1 ∧ Below z.heap.size z w' := keep2 h hb
theorem vector_any (a : Option Addr) (n cap : Nat) (es : List Er) (w : World) (hr : ERow w a n es) :
  Calls Tryz.prog 19 #[.slice a n cap] w (VecRet es w) := by
 have HR := qh hr
 have hl := hr.1
 have n0 : (0 : Int) ≤ (n : Int) := by omega
 have n1 : (n : Int) ≤ 4398046511104 := by have := hr.2.1; omega
 obtain ⟨W0, hmk, own0, bel0⟩ := make_er w.heap.size w n (by omega) (Nat.le_refl _)
 have OW := qh own0
 have BW := qh bel0
 clear hr own0 bel0
 go_enter Tryz.func19, Tryz.ntmps19
 go_wp2_with fail
 go_loopw [4, 13] (TakeE es w) (fun _ v _ => n - (intOf v).toNat)
 case atStart => exact ⟨0, [], w.heap.size, n, rfl, by omega, rfl, by simp, OW.out, fun e he => absurd he List.not_mem_nil, rfl, fun j h => by omega, ⟨fun x hx => absurd hx List.not_mem_nil, List.Pairwise.nil⟩, BW.out⟩
 case round =>
  obtain ⟨k, fs, g, fcap, rfl, hk, rfl, hcap, own, hes, hkey, hval, hff, bel⟩ := hrel
  have HFF := qh hff.1
  have HAP := qh hff.2
  clear hff
  have hrw := HR.out.below bel
  have HO := qh own
  have HB := qh bel
  have HES := qh hes
  have HKEY := qh hkey
  have HVAL := qh hval
  have HFL : Hid (fs.length = k) := qh (by have := congrArg List.length hkey; simp at this; omega)
  have HCAP := qh hcap
  clear own bel hes hkey hval hcap
  by_cases hlt : k < n
  ·have dl : decide ((k : Int) < (n : Int)) = true := decide_eq_true (by omega)
   obtain ⟨b, off, rfl, hb, hc⟩ := hrw.2.2.2 (by omega)
   obtain ⟨x0, x1⟩ := hc k hlt
   have hx : ErOk wr (erAt es k) := by
    rw [erAt_get (by omega)]; exact hrw.2.2.1 _ (List.getElem_mem _)
   have k1 : (0 : Int) ≤ (k : Int) := by omega
   have k2 : (k : Int) < (n : Int) := by omega
   have HX := qh (rfl : erAt es k = erAt es k)
   generalize hxx : erAt es k = x at x0 x1 hx
   have HXX := qh hxx
   obtain ⟨xa, xn, xc, xf, xl⟩ := x
   dsimp only at x0 x1
   have HOK := qh hx
   clear hc hrw hx hxx HX
   have HV : Hid (∀ W', Below wr.heap.size wr W' → Calls Tryz.prog 36 #[.slice xa xn xc] W' fun e w' => e = .returned (.bool (validK (erAt es k).key)) ∧ Below W'.heap.size W' w') := qh fun W' hb' => by
    rw [HXX.out]
    have hl2 := (HOK.out).1.1
    dsimp only at hl2
    refine (valid_any xa xn xc xl W' ((HOK.out).1.below hb')).mono ?_
    rintro e w' ⟨h1, h2⟩
    refine ⟨?_, h2⟩
    rw [h1]; unfold validK Er.key; rw [hl2]
   cases hv : validK (erAt es k).key
   ·rw [hv] at HV
    have HE : Hid ((es.map Er.key).all validK = false) := qh (by
     rw [List.all_eq_false]
     exact ⟨(erAt es k).key, by rw [erAt_get (by omega)]; exact List.mem_map_of_mem (List.getElem_mem _), by rw [hv]; simp⟩)
    go_wp2_with (first | (refine Bk.is_store 34 rfl ?_; refine Bk.wpList_store_box (w0 := wr) (N := 0) rfl 34 _ _ rfl #[.slice xa xn xc, .float .f64 xf] #[.slice none 0 0, .float .f64 0] 34 rfl rfl (by kernel_rfl) rfl (by kernel_rfl) ?_; intro W hI hB; have e0 : W.cell? ⟨wr.heap.size, 0, none⟩ = some (.slice xa xn xc) := (by rw [hI.cell]; rfl); have e1 : W.cell? ⟨wr.heap.size, 1, none⟩ = some (.float .f64 xf) := (by rw [hI.cell]; rfl); clear hI) | (go_at_call 36; refine (HV.out _ hB).mono ?_; rintro e w2 ⟨rfl, bel2⟩; have c0 := cell_stayL e0 bel2; have c1 := cell_stayL e1 bel2))
    go_ret2
    unfold VecRet vecK
    rw [HE.out]
    exact ⟨rfl, HB.out.trans ((hB.trans (bel2.mono hB.size)).mono HB.out.size)⟩
   ·have HVK := qh hv
    rw [hv] at HV
    go_wp2_with (first | (refine Bk.is_store 34 rfl ?_; refine Bk.wpList_store_box (w0 := wr) (N := 0) rfl 34 _ _ rfl #[.slice xa xn xc, .float .f64 xf] #[.slice none 0 0, .float .f64 0] 34 rfl rfl (by kernel_rfl) rfl (by kernel_rfl) ?_; intro W hI hB; have e0 : W.cell? ⟨wr.heap.size, 0, none⟩ = some (.slice xa xn xc) := (by rw [hI.cell]; rfl); have e1 : W.cell? ⟨wr.heap.size, 1, none⟩ = some (.float .f64 xf) := (by rw [hI.cell]; rfl); clear hI) | (go_at_call 36; refine (HV.out _ hB).mono ?_; rintro e w2 ⟨rfl, bel2⟩; have c0 := cell_stayL e0 bel2; have c1 := cell_stayL e1 bel2))
    have s0 : w2.drew.cell? ⟨wr.heap.size, 0, none⟩ = some (.slice xa xn xc) ∧ w2.drew.cell? ⟨wr.heap.size, 1, none⟩ = some (.float .f64 xf) := ⟨c0, c1⟩
    have BW2 := qh ((hB.trans (bel2.mono hB.size)).drewN' 1)
    clear e0 e1 bel2 hB c0 c1
    have HNE : Hid (some wr.heap.size ≠ (Value.slice (some ⟨g, 0, none⟩) fs.length fcap).ownBlock) := qh (fun h => by
     have h2 := HO.out.cap.2.2.2
     have h3 : wr.heap.size = g := by simpa [Value.ownBlock] using h
     omega)
    have HSZ : Hid (w.heap.size ≤ w2.drew.heap.size) := qh (by have := HB.out.size; have := BW2.out.size; exact Nat.le_trans ‹_› ‹_›)
    have HCl : Hid (Calls Tryz.prog 37 #[.slice xa xn xc] w2.drew fun e w3 => ∃ a' c', e = .returned (.slice a' xn c') ∧ OwnL w2.drew.heap.size w3 (.slice a' xn c') xl ∧ Below w2.drew.heap.size w2.drew w3) := qh (by
     have hl2 := (HOK.out).1.1
     dsimp only at hl2
     refine (clone_any xa xn xc xl w2.drew ((HOK.out).1.below BW2.out) (HOK.out).2.1 (HOK.out).2.2).mono ?_
     rintro e w3 ⟨v, h1, h2, h3⟩
     rcases h2.form with ⟨rfl, hnil⟩ | ⟨g', cap', rfl, _⟩
     ·rw [hnil] at hl2
      have : xn = 0 := by simpa using hl2.symm
      subst this
      exact ⟨none, 0, h1, h2, h3⟩
     ·rw [hl2] at h1 h2
      exact ⟨_, _, h1, h2, h3⟩)
    have KO : Hid (OwnE w.heap.size w2.drew (.slice (some ⟨g, 0, none⟩) fs.length fcap) fs) := qh (HO.out.below BW2.out)
    have KES : Hid (∀ e ∈ fs, ErOwn w.heap.size w2.drew e) := qh fun e he => (HES.out e he).below BW2.out
    have KB : Hid (Below w.heap.size w w2.drew) := qh (HB.out.trans (BW2.out.mono HB.out.size))
    clear hv HV
    go_region_held3 (fun w' => w'.cell? ⟨wr.heap.size, 0, none⟩ = some (.slice xa xn xc) ∧ w'.cell? ⟨wr.heap.size, 1, none⟩ = some (.float .f64 xf)) (first | assumption | exact ⟨cell_oldL s3.1 _, cell_oldL s3.2 _⟩) (first | (go_at_call 37; refine HCl.out.mono ?_; rintro e w3 ⟨a', c', rfl, ownl, bel3⟩; have s3 : w3.cell? ⟨wr.heap.size, 0, none⟩ = some (.slice xa xn xc) ∧ w3.cell? ⟨wr.heap.size, 1, none⟩ = some (.float .f64 xf) := ⟨cell_stayL s0.1 bel3, cell_stayL s0.2 bel3⟩) | (refine step_append_er rfl (.tmp 21) (.tmp 28) rfl w.heap.size _ fs rfl ((KO.out.below bel3).alloc _) _ _ ⟨a', xn, c', xf, xl⟩ rfl (by show (World.alloc _ _).cell? _ = _; rw [World.cell?_alloc_at _ _ _ _ (by rfl)]; rfl) (by show (World.alloc _ _).cell? _ = _; rw [World.cell?_alloc_at _ _ _ _ (by rfl)]; rfl) (by have := HFL.out; omega) (Nat.le_trans HSZ.out (Nat.le_trans bel3.size (by simp))) ?_; intro g2 cap2 w5 own5 gb5; have s5 : w5.cell? ⟨wr.heap.size, 0, none⟩ = some (.slice xa xn xc) ∧ w5.cell? ⟨wr.heap.size, 1, none⟩ = some (.float .f64 xf) := ⟨gb5.cell (cell_oldL s3.1 _) HNE.out, gb5.cell (cell_oldL s3.2 _) HNE.out⟩))
    have e1 : (fs ++ [(⟨a', xn, c', xf, xl⟩ : Er)]).length = fs.length + 1 := by simp
    have HNEW : Hid (TakeE es w (.slice (some ⟨g2, 0, none⟩) (fs.length + 1) cap2) (.int .i64 ((k : Int) + 1)) w5) := qh (by
     have c5 := own5.cap
     refine ⟨k + 1, fs ++ [⟨a', xn, c', xf, xl⟩], g2, cap2, by first | rfl | (congr 1; omega), by omega, by rw [e1], c5.2.1, by rw [e1]; exact own5, ?_, ?_, ?_, ?_, ?_⟩
     ·intro e he
      rcases List.mem_append.1 he with he | he
      ·exact (((KES.out e he).below bel3).below ((Below.refl _ _).alloc (Nat.le_refl _) _)).grown ((KO.out.below bel3).alloc _) gb5
      ·obtain rfl : e = ⟨a', xn, c', xf, xl⟩ := by simpa using he
       have hl2 := (HOK.out).1
       refine ErOwn.grown ?_ ((KO.out.below bel3).alloc _) gb5
       exact ⟨(ownl.mono HSZ.out).alloc _, hl2.2.2.1, by have := (HOK.out).2.2; have := hl2.1; dsimp only at *; omega, hl2.1⟩
     ·exact map_take_snoc (by omega) HKEY.out _ (by rw [HXX.out]; rfl)
     ·intro j hj
      by_cases hjk : j = k
      ·rw [hjk]; exact HVK.out
      ·exact HVAL.out j (by omega)
     ·refine ⟨?_, List.pairwise_append.2 ⟨HAP.out, List.pairwise_singleton _ _, fun x hx y hy b hb hb2 => (by
       obtain rfl : y = ⟨a', xn, c', xf, xl⟩ := by simpa using hy
       have g1 := ((KES.out x hx).1.lt b hb).2
       have g2 := (ownl.lt b hb2).1
       omega)⟩⟩
      intro x hx
      rcases List.mem_append.1 hx with hx | hx
      ·exact HFF.out x hx
      ·obtain rfl : x = ⟨a', xn, c', xf, xl⟩ := by simpa using hx
       refine ⟨erAt es k, by rw [erAt_get (by omega)]; exact List.getElem_mem _, by rw [HXX.out]⟩
     ·exact ((KB.out.trans (bel3.mono (by exact HSZ.out))).alloc (Nat.le_trans HSZ.out bel3.size) _).grown gb5 (Nat.le_trans HSZ.out (Nat.le_trans bel3.size (by simp))) (fun b hb => by
       have h3 : g = b := Option.some.inj hb
       have := HO.out.cap.2.2.1
       omega))
    clear own5 gb5 bel3 ownl s3 s0 s5
    go_wp2_with fail
    go_roundw
    case rel => exact HNEW.out
    case measure => simp [intOf]; omega
  ·have hkn : ¬ (k : Int) < (n : Int) := by omega
   obtain rfl : k = n := by omega
   have HKEY2 : Hid (fs.map Er.key = es.map Er.key) := qh (by rw [HKEY.out, List.take_of_length_le (by omega)])
   have HVAL2 : Hid ((es.map Er.key).all validK = true) := qh (by
    rw [List.all_eq_true]
    intro x hx
    obtain ⟨y, hy, rfl⟩ := List.mem_map.1 hx
    obtain ⟨i, hi, rfl⟩ := List.getElem_of_mem hy
    rw [← erAt_get hi]; exact HVAL.out i (by omega))
   have HSORT := qh (sort_rowE g fs.length fcap w.heap.size fs wr HO.out.wre rfl (by have := HFL.out; omega) (fun W hk e he => ((HES.out e he).kept HO.out hk).ok))
   obtain ⟨ms, hms⟩ : ∃ ms, ms = fs.mergeSort leE := ⟨_, rfl⟩
   rw [← hms] at HSORT
   have HML : Hid (ms.length = fs.length) := qh (by rw [hms, List.length_mergeSort])
   have HMK : Hid (ms.map Er.key = sortK (es.map Er.key)) := qh (by rw [hms, sort_key, HKEY2.out])
   have HMM : Hid (∀ e ∈ ms, e ∈ fs) := qh fun e he => by rw [hms] at he; exact List.mem_mergeSort.1 he
   have HAPM : Hid (ApartE ms) := qh (by
    rw [hms]
    exact ((List.mergeSort_perm fs leE).pairwise_iff (fun {x y} h b hb hb2 => h b hb2 hb)).2 HAP.out)
   clear hms hrw HVAL HKEY
   go_wp2_with (go_at_call 38; refine HSORT.out.mono ?_; rintro e w3 ⟨rfl, wre, kb⟩; have HW := qh wre; have HK := qh kb; clear wre kb)
   go_loopw [7] (DupRel ms w3) (fun v _ => ms.length - (intOf v).toNat)
   case atStart => exact ⟨1, rfl, by omega, .inr rfl, fun j h => by omega, Grn.refl _⟩
   case round =>
    obtain ⟨q1, rfl, hq1, hqm, hdis, gr⟩ := hrel
    have HD := qh hdis
    have HG := qh gr
    clear hdis gr
    obtain ⟨q, hq⟩ : ∃ q, q1 = q + 1 := ⟨q1 - 1, by omega⟩
    have HQ := qh hq
    have HEO : Hid (∀ e ∈ ms, ErOwn w.heap.size w3 e) := qh fun e he => (HES.out e (HMM.out e he)).kept HO.out HK.out
    have n2 : (0 : Int) ≤ (q1 : Int) := by omega
    have q2 : (0 : Int) ≤ (q : Int) := by omega
    have kq : (q1 : Int) - 1 = (q : Int) := by omega
    have kw : IntKind.i64.wrap (q : Int) = (q : Int) := by have := HML.out; have := HFL.out; rw [IntKind.wrap_i64]; omega
    by_cases hqk : q + 1 < ms.length
    ·obtain ⟨x, hx⟩ : ∃ x, x = erAt ms q := ⟨_, rfl⟩
     obtain ⟨y, hy⟩ : ∃ y, y = erAt ms (q + 1) := ⟨_, rfl⟩
     have hxo : ErOk w3 x := by rw [hx, erAt_get (by omega)]; exact (HEO.out _ (List.getElem_mem _)).ok
     have hyo : ErOk w3 y := by rw [hy, erAt_get hqk]; exact (HEO.out _ (List.getElem_mem _)).ok
     have n3 : (q1 : Int) < (fs.length : Int) := by have := HML.out; omega
     have n5 : (fs.length : Int) ≤ 4398046511104 := by have := HFL.out; omega
     have n4 : (q : Int) < (fs.length : Int) := by have := HML.out; omega
     have hgl : g < wr.heap.size := by have := HW.out.1; have := HG.out.below.size; omega
     have x0 : ∀ n os, (grow (wr.drewN n) os).cell? ⟨g, q * 2, none⟩ = some (.slice x.a x.n x.c) := fun n os => by
      refine cell_grown hgl ?_ n os
      rw [HG.out.below.cell (p := ⟨g, q * 2, none⟩) HW.out.1]
      have := (HW.out.2 q (by omega) 0 (by omega)).1
      rw [Nat.zero_add, Nat.add_zero, ← hx] at this; exact this
     have y0 : ∀ n os, (grow (wr.drewN n) os).cell? ⟨g, q1 * 2, none⟩ = some (.slice y.a y.n y.c) := fun n os => by
      refine cell_grown hgl ?_ n os
      rw [HG.out.below.cell (p := ⟨g, q1 * 2, none⟩) HW.out.1, hq]
      have := (HW.out.2 (q + 1) hqk 0 (by omega)).1
      rw [Nat.zero_add, Nat.add_zero, ← hy] at this; exact this
     have HCMP : Hid (∀ n os, Calls Tryz.prog 40 #[.slice x.a x.n x.c, .slice y.a y.n y.c] (grow (wr.drewN n) os) fun e w' => e = .returned (.int .i64 (lcmp x.ls y.ls)) ∧ ∃ q os', w' = grow ((grow (wr.drewN n) os).drewN q) os') := qh fun n os =>
      lcompare_any _ _ _ _ _ _ _ _ _ (hxo.1.below (HG.out.trans ⟨n, os, rfl⟩).below) (hyo.1.below (HG.out.trans ⟨n, os, rfl⟩).below)
     have HXY : Hid (lcmp x.ls y.ls = lcmp (erAt ms q).ls (erAt ms (q + 1)).ls) := qh (by rw [hx, hy])
     have HLT := qh hqk
     obtain ⟨xa, xn, xc, xf, xl⟩ := x
     obtain ⟨ya, yn, yc, yf, yl⟩ := y
     dsimp only at x0 y0 HCMP HXY
     clear hx hy hxo hyo hq hgl hqk
     generalize lcmp xl yl = c at *
     by_cases hc0 : c = 0
     ·subst hc0
      go_wp2_with fail
      have hmix : Tryz.prog.follows .mixedOrders = true := by kernel_rfl
      go_quiet_grown (first | (go_at_call 40; exact Calls.grown_of (HCMP.out _ _)))
      go_wp2_with fail
      go_ret2
      unfold VecRet vecK
      rw [← HMK.out, noDup_no HLT.out HXY.out.symm, Bool.and_false]
      exact ⟨rfl, (HB.out.trans ((KeptButF.below HK.out HO.out.cap.2.2.2).mono (HO.out.cap.2.2.1))).trans ((HG.out.trans ⟨nq, osq, rfl⟩).below.mono (by have := HB.out.size; have := HK.out.size; omega))⟩
     ·have hc2 : (c == 0) = false := by simpa using hc0
      go_wp2_with fail
      have hmix : Tryz.prog.follows .mixedOrders = true := by kernel_rfl
      go_quiet_grown (first | (go_at_call 40; exact Calls.grown_of (HCMP.out _ _)))
      go_wp2_with fail
      go_roundw
      case rel => exact ⟨q1 + 1, by first | rfl | (congr 1; omega), by omega, .inl (by have := HLT.out; have := HQ.out; omega), fun j hj => by
       by_cases hjq : j = q
       ·rw [hjq, ← HXY.out]; exact hc0
       ·exact HD.out j (by have := HQ.out; omega), HG.out.trans ⟨nq, osq, rfl⟩⟩
      case measure => simp [intOf]; have := HLT.out; have := HQ.out; omega
    ·have n3 : ¬ (q1 : Int) < (fs.length : Int) := by have := HML.out; omega
     have HND : Hid (noDup (sortK (es.map Er.key)) = true) := qh (by
      rw [← HMK.out]; exact noDup_yes fun j hj => HD.out j (by omega))
     clear hq hqk
     go_wp2_with fail
     go_ret2
     unfold VecRet vecK
     rw [HND.out, HVAL2.out]
     have c5 := HO.out.cap
     refine ⟨g, fcap, ms, by rw [HML.out]; rfl, by rw [HML.out]; exact HCAP.out, by have := HML.out; have := HFL.out; omega, c5.2.2.1, ?_, ?_, HMK.out, ⟨fun x hx => HFF.out x (HMM.out x hx), HAPM.out⟩, ?_⟩
     ·refine ⟨by have := HW.out.1; have := HG.out.below.size; omega, fun i hi c hc => ?_⟩
      have := HW.out.2 i hi c hc
      rw [HG.out.below.cell (p := ⟨g, 0 + i * 2 + c, none⟩) HW.out.1]
      refine ⟨this.1, ?_⟩
      have f := this.2
      unfold World.frozen? at *
      rw [HG.out.below.block g HW.out.1]; exact f
     ·intro e he
      refine ⟨(HEO.out e he).below HG.out.below, fun hb => ?_⟩
      exact own_apart HO.out (HES.out e (HMM.out e he)).1 g rfl hb
     ·exact (HB.out.trans ((KeptButF.below HK.out HO.out.cap.2.2.2).mono (HO.out.cap.2.2.1))).trans (HG.out.below.mono (by have := HB.out.size; have := HK.out.size; omega))
end Go.Proofs.YtmmfjknnbkcniaaGreatDoor
namespace Go.Proofs.YtmmfjknnbkcniaaGreatDoor
open Go.Fl Go.Rel Go.RowKit Go.Sort Go.Shelf Go.Stab Go.Lib
set_option linter.unusedSimpArgs false
set_option linter.unusedVariables false
theorem slice_hiE (b off n cap k : Nat) (z : Int) (hz : z = (k : Int)) (hk : k ≤ cap) (w : World) : (Instr.slice 22 (.slice (some ⟨b, off, none⟩) n cap) none (some (.int .i64 z)) none).run Tryz.prog w = .ok (.slice (some ⟨b, off, none⟩) k cap) w := by
 have hs : ∀ w, (Go.sizeOf (Tryz.prog.elem 22)).run Tryz.prog w = .ok 2 w := fun w => by kernel_rfl
 have ht : Tryz.prog.underlying 22 = some (.slice (Tryz.prog.elem 22)) := by kernel_rfl
 subst hz
 rw [run_slice_h _ _ _ _ _ ht .i64 (k : Int) (by omega) (by omega), hs]
 simp [sliced]
 by_cases h : cap = 0
 ·simp [h]
 ·simp [Addr.add_lit]
theorem slice_loE (b off n cap k : Nat) (z : Int) (hz : z = (k : Int)) (hk : k ≤ n) (hc : k ≠ cap) (w : World) : (Instr.slice 22 (.slice (some ⟨b, off, none⟩) n cap) (some (.int .i64 z)) none none).run Tryz.prog w = .ok (.slice (some ⟨b, off + k * 2, none⟩) (n - k) (cap - k)) w := by
 have hs : ∀ w, (Go.sizeOf (Tryz.prog.elem 22)).run Tryz.prog w = .ok 2 w := fun w => by kernel_rfl
 have ht : Tryz.prog.underlying 22 = some (.slice (Tryz.prog.elem 22)) := by kernel_rfl
 subst hz
 rw [run_slice_l _ _ _ _ _ ht .i64 (k : Int) (by omega) (by omega), hs]
 have : ¬ cap = k := fun h => hc h.symm
 simp [sliced, Addr.add_lit, this]
theorem leE_trans (a b c : Er) : leE a b = true → leE b c = true → leE a c = true := leL_trans _ _ _
theorem leE_total (a b : Er) : (leE a b || leE b a) = true := leL_total _ _
def NewE (es : List Er) (w : World) (e : Ending) (w' : World) : Prop := ∃ v, e = .returned v ∧ OwnE w.heap.size w' v es ∧ Below w.heap.size w w'
theorem sortedE_small (a : Option Addr) (n cap : Nat) (xs : List Er) (w : World) (hr : ERow w a n xs) (hk : SlK a n cap) (hn : n < 2) :
  Calls Tryz.prog 61 #[.slice a n cap] w (NewE (xs.mergeSort leE) w) := by
 have hl := hr.1
 have hms : xs.mergeSort leE = xs := by
  match xs, hl with
  | [], _ => simp
  | [x], _ => simp
  | _ :: _ :: _, h => simp at h; omega
 rw [hms]
 have hd : decide ((n : Int) < 2) = true := decide_eq_true (by omega)
 have n2 : (n : Int) < 2 := by omega
 cases a with
 | none =>
  have hc := hk.2 rfl
  have hn0 : n = 0 := by have := hk.1; omega
  subst hn0 hc
  obtain rfl : xs = [] := by simpa using hl
  clear hr hk hms
  go_enter Tryz.func61, Tryz.ntmps61
  go_wp2_with fail
  go_ret
  exact ⟨_, rfl, ownE_nil _ _, Below.refl _ _⟩
 | some ad =>
  have HR := qh hr
  have HF : Hid (∀ j u, (xs.flatMap erCells)[j]? = some u → w.cell? (ad.add j) = some u) := qh fun j u hu => by
   by_cases h0 : 0 < n
   ·obtain ⟨b, off, ha, _⟩ := HR.out.2.2.2 h0
    cases ha
    exact HR.out.flat h0 j u hu
   ·have : xs = [] := List.length_eq_zero_iff.1 (by omega)
    subst this; simp at hu
  have HO := qh (ownE_nil w.heap.size w)
  clear hr hk hms
  go_enter Tryz.func61, Tryz.ntmps61
  go_wp2_with (at_builtin; refine wpList_append_ers rfl (.tmp 12) (.tmp 13) rfl w.heap.size _ _ rfl HO.out ad n cap xs hl rfl HF.out (by simp; omega) (Nat.le_refl _) ?_; intro v' w' own' gb hv; have HO2 := qh own'; have HB2 := qh (HO.out.grown (Below.refl _ _) gb (Nat.le_refl _)); clear own' gb hv)
  go_ret
  exact ⟨_, rfl, HO2.out, HB2.out⟩
def MergeE (A C T : List Er) (w2 : World) (v3 v7 v8 : Value) (wr : World) : Prop :=
 ∃ (i j : Nat) (O : List Er), v7 = .int .i64 (i : Int) ∧ v8 = .int .i64 (j : Int) ∧ i ≤ A.length ∧ j ≤ C.length ∧ OwnE w2.heap.size wr v3 O ∧ O ++ List.merge (A.drop i) (C.drop j) leE = T ∧ Below w2.heap.size w2 wr
theorem sortedE_any : ∀ (N : Nat) (a : Option Addr) (n cap : Nat) (xs : List Er) (w : World), n ≤ N → ERow w a n xs → SlK a n cap →
  Calls Tryz.prog 61 #[.slice a n cap] w (NewE (xs.mergeSort leE) w) := by
 intro N
 induction N with
 | zero => intro a n cap xs w hN hr hs; exact sortedE_small a n cap xs w hr hs (by omega)
 | succ N ih =>
  intro a n cap xs w hN hr hs
  by_cases hn2 : n < 2
  ·exact sortedE_small a n cap xs w hr hs hn2
  obtain ⟨b, off, rfl, _⟩ := hr.2.2.2 (by omega)
  have hm := hr.2.1
  have hcap := hs.1
  have hd : ¬ (n : Int) < 2 := by omega
  obtain ⟨p, hp⟩ : ∃ p, p = n / 2 := ⟨_, rfl⟩
  obtain ⟨m, hmm⟩ : ∃ m, m = n - p := ⟨_, rfl⟩
  have hdiv : (n : Int) / 2 = (p : Int) := by omega
  have hR1 := hr.take (k := p) (by omega)
  have hR2 := hr.drop (k := p) (by omega)
  rw [← hmm] at hR2
  have HR1 := qh hR1
  have HR2 := qh hR2
  have HM := qh (merge_sorts leE leE_trans leE_total (xs.take p) (xs.drop p))
  rw [List.take_append_drop] at HM
  have HH1 : Hid (∀ w1, ERow w1 (some ⟨b, off, none⟩) p (xs.take p) → _) := qh fun w1 (h : ERow w1 (some ⟨b, off, none⟩) p (xs.take p)) => ih (some ⟨b, off, none⟩) p cap (xs.take p) w1 (by omega) h ⟨by omega, fun h => by cases h⟩
  have HH2 : Hid (∀ w1, ERow w1 (some ⟨b, off + p * 2, none⟩) m (xs.drop p) → _) := qh fun w1 (h : ERow w1 (some ⟨b, off + p * 2, none⟩) m (xs.drop p)) => ih (some ⟨b, off + p * 2, none⟩) m (cap - p) (xs.drop p) w1 (by omega) h ⟨by omega, fun h => by cases h⟩
  have hq : IntKind.i64.wrap ((n : Int) / 2) = (n : Int) / 2 := by rw [IntKind.wrap_i64]; omega
  have hs1 := slice_hiE b off n cap p ((n : Int) / 2) hdiv (by omega)
  have hs2 := slice_loE b off n cap p ((n : Int) / 2) hdiv (by omega) (by omega)
  rw [← hmm] at hs2
  have HAO : Hid (∀ W, Below w.heap.size w W → ∀ e ∈ (xs.take p).mergeSort leE, ErOk W e) := qh fun W hW e he => (hr.2.2.1 e (List.mem_of_mem_take (List.mem_mergeSort.1 he))).below hW
  have HCO : Hid (∀ W, Below w.heap.size w W → ∀ e ∈ (xs.drop p).mergeSort leE, ErOk W e) := qh fun W hW e he => (hr.2.2.1 e (List.mem_of_mem_drop (List.mem_mergeSort.1 he))).below hW
  have HAL : Hid (((xs.take p).mergeSort leE).length = p) := qh (by rw [List.length_mergeSort, List.length_take, hr.1]; omega)
  have HCL : Hid (((xs.drop p).mergeSort leE).length = m) := qh (by rw [List.length_mergeSort, List.length_drop, hr.1]; omega)
  have HPN : Hid (p + m = n ∧ n ≤ 4398046511104) := qh (by omega)
  generalize (xs.take p).mergeSort leE = A at *
  generalize (xs.drop p).mergeSort leE = C at *
  generalize xs.mergeSort leE = T at *
  clear hdiv ih hR1 hR2 hp hmm hr hs hN hcap
  go_enter Tryz.func61, Tryz.ntmps61
  go_wp2_with (first | (go_at_call 61; (with_reducible refine (HH1.out _ HR1.out).mono ?_); rintro e w1 ⟨v1, rfl, own1, b1⟩; have HR2' := qh (HR2.out.below b1); have HO1 := qh own1; have HB1 := qh b1; clear own1 b1 HH1) | (go_at_call 61; (with_reducible refine (HH2.out _ HR2'.out).mono ?_); rintro e w2 ⟨v2, rfl, own2, b2⟩; have HO2 := qh own2; have HB2 := qh b2; clear own2 b2))
  have hA2 : ∃ a1 c1, v1 = .slice a1 A.length c1 ∧ SlK a1 A.length c1 ∧ ERow w2 a1 A.length A :=
   (HO1.out.below HB2.out).row (HAO.out w2 (HB1.out.trans (HB2.out.mono HB1.out.size))) (by have := HAL.out; have := HPN.out; omega)
  have hC2 : ∃ a2 c2, v2 = .slice a2 C.length c2 ∧ SlK a2 C.length c2 ∧ ERow w2 a2 C.length C :=
   HO2.out.row (HCO.out w2 (HB1.out.trans (HB2.out.mono HB1.out.size))) (by have := HCL.out; have := HPN.out; omega)
  obtain ⟨a1, c1, rfl, ok1, r1⟩ := hA2
  obtain ⟨a2, c2, rfl, ok2, r2⟩ := hC2
  have R1 := qh r1
  have R2 := qh r2
  have HBB := qh (HB1.out.trans (HB2.out.mono HB1.out.size))
  have NAL : Hid (A.length + C.length ≤ 4398046511104) := qh (by rw [HAL.out, HCL.out]; have := HPN.out; omega)
  have NTL : Hid (T.length = A.length + C.length) := qh (by rw [← HM.out, (List.merge_perm_append leE).length_eq, List.length_append])
  clear r1 r2 ok1 ok2 HO1 HO2 HB1 HB2 HAO HCO HAL HCL HPN hs1 hs2 hq HH2 HR2 HR2' HR1 hd hm hn2
  go_loopw [3, 7, 8] (MergeE A C T w2) (fun _ v7 v8 _ => A.length + C.length - (intOf v7).toNat - (intOf v8).toNat)
  case atStart => exact ⟨0, 0, [], rfl, rfl, by omega, by omega, ownE_nil _ _, HM.out, Below.refl _ _⟩
  case round =>
   clear HM
   obtain ⟨i, j, O, rfl, rfl, hi, hj, own, hT, bel⟩ := hrel
   have HO := qh own
   have HT := qh hT
   have HB := qh bel
   have i0 : (0 : Int) ≤ (i : Int) := by omega
   have j0 : (0 : Int) ≤ (j : Int) := by omega
   have bi : (i : Int) ≤ 4398046511104 := by have := NAL.out; omega
   have bj : (j : Int) ≤ 4398046511104 := by have := NAL.out; omega
   have HOL : Hid (O.length < 4398046511104 ∨ (i = A.length ∧ j = C.length)) := qh (by
    have h1 := congrArg List.length hT
    rw [List.length_append, (List.merge_perm_append leE).length_eq, List.length_append, List.length_drop, List.length_drop, NTL.out] at h1
    have := NAL.out
    omega)
   clear own hT bel
   by_cases hia : i < A.length
   ·have i1 : (i : Int) < (A.length : Int) := by omega
    obtain ⟨ba, oa, rfl, hba, hca⟩ := R1.out.2.2.2 (by omega)
    obtain ⟨x, hx⟩ : ∃ x, x = erAt A i := ⟨_, rfl⟩
    have x0 : ∀ n os, (grow (wr.drewN n) os).cell? ⟨ba, oa + i * 2, none⟩ = some (.slice x.a x.n x.c) := fun n os => by
     rw [hx]; refine cell_grown (by have := HB.out.size; show ba < _; omega) ?_ n os
     rw [HB.out.cell (p := ⟨ba, oa + i * 2, none⟩) hba]; exact (hca i hia).1
    have x1 : ∀ n os, (grow (wr.drewN n) os).cell? ⟨ba, oa + i * 2 + 1, none⟩ = some (.float .f64 x.f) := fun n os => by
     rw [hx]; refine cell_grown (by have := HB.out.size; show ba < _; omega) ?_ n os
     rw [HB.out.cell (p := ⟨ba, oa + i * 2 + 1, none⟩) hba]; exact (hca i hia).2
    have HDX : Hid (A.drop i = x :: A.drop (i + 1)) := qh (by rw [hx, erAt_get hia]; exact List.drop_eq_getElem_cons hia)
    have HXO : Hid (∀ n os, ErOk (grow (wr.drewN n) os) x) := qh fun n os => (R1.out.2.2.1 x (by rw [hx, erAt_get hia]; exact List.getElem_mem _)).below (HB.out.trans ((Grn.below ⟨n, os, rfl⟩ : Below wr.heap.size wr _).mono HB.out.size))
    obtain ⟨xa, xn, xc, xf, xl⟩ := x
    dsimp only at x0 x1
    clear hca hx
    by_cases hjc : j < C.length
    ·obtain ⟨bb, ob, rfl, hbb, hcb⟩ := R2.out.2.2.2 (by omega)
     obtain ⟨y, hy⟩ : ∃ y, y = erAt C j := ⟨_, rfl⟩
     have j1 : (j : Int) < (C.length : Int) := by omega
     have j2 : ((j : Int) == (C.length : Int)) = false := by simp; omega
     have j3 : ¬ j = C.length := by omega
     have y0 : ∀ n os, (grow (wr.drewN n) os).cell? ⟨bb, ob + j * 2, none⟩ = some (.slice y.a y.n y.c) := fun n os => by
      rw [hy]; refine cell_grown (by have := HB.out.size; show bb < _; omega) ?_ n os
      rw [HB.out.cell (p := ⟨bb, ob + j * 2, none⟩) hbb]; exact (hcb j hjc).1
     have y1 : ∀ n os, (grow (wr.drewN n) os).cell? ⟨bb, ob + j * 2 + 1, none⟩ = some (.float .f64 y.f) := fun n os => by
      rw [hy]; refine cell_grown (by have := HB.out.size; show bb < _; omega) ?_ n os
      rw [HB.out.cell (p := ⟨bb, ob + j * 2 + 1, none⟩) hbb]; exact (hcb j hjc).2
     have HDY : Hid (C.drop j = y :: C.drop (j + 1)) := qh (by rw [hy, erAt_get hjc]; exact List.drop_eq_getElem_cons hjc)
     have HYO : Hid (∀ n os, ErOk (grow (wr.drewN n) os) y) := qh fun n os => (R2.out.2.2.1 y (by rw [hy, erAt_get hjc]; exact List.getElem_mem _)).below (HB.out.trans ((Grn.below ⟨n, os, rfl⟩ : Below wr.heap.size wr _).mono HB.out.size))
     obtain ⟨ya, yn, yc, yf, yl⟩ := y
     dsimp only at y0 y1
     clear hcb hy
     have HCMP : Hid (∀ n os, Calls Tryz.prog 62 #[.slice xa xn xc, .slice ya yn yc] (grow (wr.drewN n) os) fun e w' => e = .returned (.int .i64 (lcmp xl yl)) ∧ ∃ q os', w' = grow ((grow (wr.drewN n) os).drewN q) os') := qh fun n os =>
      rlcompare_any _ _ _ _ _ _ _ _ _ (HXO.out n os).1 (HYO.out n os).1
     have HLE : Hid (leE ⟨xa, xn, xc, xf, xl⟩ ⟨ya, yn, yc, yf, yl⟩ = decide (lcmp xl yl ≤ 0)) := qh rfl
     have j4 : i < A.length := hia
     generalize lcmp xl yl = c at *
     by_cases hc : c ≤ 0
     ·have HM1 : Hid (List.merge (⟨xa, xn, xc, xf, xl⟩ :: A.drop (i + 1)) (C.drop j) leE = ⟨xa, xn, xc, xf, xl⟩ :: List.merge (A.drop (i + 1)) (C.drop j) leE) := qh (by
       rw [HDY.out, List.merge, if_pos (by rw [HLE.out]; exact decide_eq_true hc)])
      go_wp2_with fail
      refine wp_region_rel (fun wd => ∃ p : GrownBy, wd = grow (wr.drewN p.n) p.os) (fun f _ v => f = 62 ∧ v = .int .i64 c) (by kernel_rfl) (by kernel_rfl) ⟨⟨1, #[]⟩, by rw [grow_empty]; rfl⟩ (LidK.out ?_)
      iterate 20 (refine wpRel_guardK (by rfl) (by kernel_rfl) ?_; intro K hK; have hK2 := LidK.mk hK; clear hK; go_big_quiet_step (fail); refine wpQuiet_nil ?_; refine hK2.out _ ?_; clear hK2 K)
      refine wpRel_callK 62 Tryz.f62 _ _ #[.slice xa xn xc, .slice ya yn yc] (by kernel_rfl) Tryz.func62 (by kernel_rfl) (by kernel_rfl) (by simp only [List.map_toArray, List.map]; rfl) (fun wd hd => by
       obtain ⟨⟨nd, osd⟩, rfl⟩ := hd
       exact (HCMP.out nd osd).mono fun e w4 ⟨g1, q, os', g2⟩ => ⟨_, g1, ⟨rfl, rfl⟩, ⟨⟨nd + q, osd ++ os'⟩, by rw [g2]; show grow (grow ((wr.drewN nd).drewN q) osd) os' = _; rw [grow_grow, World.drewN_drewN]⟩⟩) ?_
      rintro v ⟨_, rfl⟩
      intro K hK
      have hK2 := LidK.mk hK
      clear hK
      go_big_quiet_step (fail)
      refine wpQuiet_nil ?_
      refine hK2.out _ ?_
      clear hK2 K
      iterate 3 (refine wpRel_guardK (by rfl) (by kernel_rfl) ?_; intro K hK; have hK2 := LidK.mk hK; clear hK; go_big_quiet_step (fail); refine wpQuiet_nil ?_; refine hK2.out _ ?_; clear hK2 K)
      refine LidK.mk (wpRel_nil ?_)
      rintro w3 ⟨⟨nq, osq⟩, rfl⟩
      have HOW := qh (HO.out.below (Grn.below ⟨nq, osq, rfl⟩ : Below wr.heap.size wr (grow (wr.drewN nq) osq)))
      have HBW := qh (HB.out.trans ((Grn.below ⟨nq, osq, rfl⟩ : Below wr.heap.size wr (grow (wr.drewN nq) osq)).mono HB.out.size))
      have z0 := x0 nq osq
      have z1 := x1 nq osq
      clear x0 x1 y0 y1
      generalize grow (wr.drewN nq) osq = W3 at z0 z1 HOW HBW ⊢
      go_wp2_with (at_builtin; refine wpList_append_er rfl (.tmp 61) (.tmp 66) rfl w2.heap.size _ O rfl (HOW.out.alloc _) W3.heap.size _ ⟨xa, xn, xc, xf, xl⟩ rfl (by rw [World.cell?_alloc_at _ _ _ _ (by rfl)]; rfl) (by rw [World.cell?_alloc_at _ _ _ _ (by rfl)]; rfl) (by have := HOL.out; omega) (Nat.le_trans HBW.out.size (by simp)) ?_; intro v' w' own' gb hv; have HO2 := qh own'; have HB2 := qh ((HOW.out.alloc _).grown (HBW.out.alloc HBW.out.size _) gb (Nat.le_trans HBW.out.size (by simp))); clear own' gb hv)
      go_roundw
      case rel => exact ⟨i + 1, j, O ++ [⟨xa, xn, xc, xf, xl⟩], by first | rfl | (congr 1; omega), by first | rfl | rw [j2], by omega, by omega, HO2.out, by rw [← HT.out, HDX.out, HM1.out]; simp, HB2.out⟩
      case measure => simp [intOf]; omega
     ·have HM1 : Hid (List.merge (A.drop i) (⟨ya, yn, yc, yf, yl⟩ :: C.drop (j + 1)) leE = ⟨ya, yn, yc, yf, yl⟩ :: List.merge (A.drop i) (C.drop (j + 1)) leE) := qh (by
       rw [HDX.out, List.merge, if_neg (by rw [HLE.out, decide_eq_false hc]; simp)])
      go_wp2_with fail
      refine wp_region_rel (fun wd => ∃ p : GrownBy, wd = grow (wr.drewN p.n) p.os) (fun f _ v => f = 62 ∧ v = .int .i64 c) (by kernel_rfl) (by kernel_rfl) ⟨⟨1, #[]⟩, by rw [grow_empty]; rfl⟩ (LidK.out ?_)
      iterate 20 (refine wpRel_guardK (by rfl) (by kernel_rfl) ?_; intro K hK; have hK2 := LidK.mk hK; clear hK; go_big_quiet_step (fail); refine wpQuiet_nil ?_; refine hK2.out _ ?_; clear hK2 K)
      refine wpRel_callK 62 Tryz.f62 _ _ #[.slice xa xn xc, .slice ya yn yc] (by kernel_rfl) Tryz.func62 (by kernel_rfl) (by kernel_rfl) (by simp only [List.map_toArray, List.map]; rfl) (fun wd hd => by
       obtain ⟨⟨nd, osd⟩, rfl⟩ := hd
       exact (HCMP.out nd osd).mono fun e w4 ⟨g1, q, os', g2⟩ => ⟨_, g1, ⟨rfl, rfl⟩, ⟨⟨nd + q, osd ++ os'⟩, by rw [g2]; show grow (grow ((wr.drewN nd).drewN q) osd) os' = _; rw [grow_grow, World.drewN_drewN]⟩⟩) ?_
      rintro v ⟨_, rfl⟩
      intro K hK
      have hK2 := LidK.mk hK
      clear hK
      go_big_quiet_step (fail)
      refine wpQuiet_nil ?_
      refine hK2.out _ ?_
      clear hK2 K
      iterate 3 (refine wpRel_guardK (by rfl) (by kernel_rfl) ?_; intro K hK; have hK2 := LidK.mk hK; clear hK; go_big_quiet_step (fail); refine wpQuiet_nil ?_; refine hK2.out _ ?_; clear hK2 K)
      refine LidK.mk (wpRel_nil ?_)
      rintro w3 ⟨⟨nq, osq⟩, rfl⟩
      have HOW := qh (HO.out.below (Grn.below ⟨nq, osq, rfl⟩ : Below wr.heap.size wr (grow (wr.drewN nq) osq)))
      have HBW := qh (HB.out.trans ((Grn.below ⟨nq, osq, rfl⟩ : Below wr.heap.size wr (grow (wr.drewN nq) osq)).mono HB.out.size))
      have z0 := y0 nq osq
      have z1 := y1 nq osq
      clear x0 x1 y0 y1
      generalize grow (wr.drewN nq) osq = W3 at z0 z1 HOW HBW ⊢
      go_wp2_with (at_builtin; refine wpList_append_er rfl (.tmp 70) (.tmp 75) rfl w2.heap.size _ O rfl (HOW.out.alloc _) W3.heap.size _ ⟨ya, yn, yc, yf, yl⟩ rfl (by rw [World.cell?_alloc_at _ _ _ _ (by rfl)]; rfl) (by rw [World.cell?_alloc_at _ _ _ _ (by rfl)]; rfl) (by have := HOL.out; omega) (Nat.le_trans HBW.out.size (by simp)) ?_; intro v' w' own' gb hv; have HO2 := qh own'; have HB2 := qh ((HOW.out.alloc _).grown (HBW.out.alloc HBW.out.size _) gb (Nat.le_trans HBW.out.size (by simp))); clear own' gb hv)
      go_roundw
      case rel => exact ⟨i, j + 1, O ++ [⟨ya, yn, yc, yf, yl⟩], rfl, by first | rfl | (congr 1; omega), by omega, by omega, HO2.out, by rw [← HT.out, HDY.out, HM1.out]; simp, HB2.out⟩
      case measure => simp [intOf]; omega
    ·have j1 : ((j : Int) == (C.length : Int)) = true := by simp; omega
     have j2 : j = C.length := by omega
     have HM1 : Hid (List.merge (⟨xa, xn, xc, xf, xl⟩ :: A.drop (i + 1)) (C.drop j) leE = ⟨xa, xn, xc, xf, xl⟩ :: List.merge (A.drop (i + 1)) (C.drop j) leE) := qh (by
      rw [show C.drop j = [] from List.drop_eq_nil_of_le (by omega)]; simp)
     go_wp2_with fail
     refine wp_region_rel (fun wd => ∃ p : GrownBy, wd = grow (wr.drewN p.n) p.os) (fun f _ v => False) (by kernel_rfl) (by kernel_rfl) ⟨⟨1, #[]⟩, by rw [grow_empty]; rfl⟩ (LidK.out ?_)
     iterate 5 (refine wpRel_guardK (by rfl) (by kernel_rfl) ?_; intro K hK; have hK2 := LidK.mk hK; clear hK; go_big_quiet_step (fail); refine wpQuiet_nil ?_; refine hK2.out _ ?_; clear hK2 K)
     iterate 18 (refine wpRel_skipK wr ⟨⟨0, #[]⟩, by rw [grow_empty]; rfl⟩ (by kernel_rfl) ?_; intro K hK; have hK2 := LidK.mk hK; clear hK; go_big_quiet_step (fail); refine wpQuiet_nil ?_; refine hK2.out _ ?_; clear hK2 K)
     (refine wpRel_guardK (by rfl) (by kernel_rfl) ?_; intro K hK; have hK2 := LidK.mk hK; clear hK; go_big_quiet_step (fail); refine wpQuiet_nil ?_; refine hK2.out _ ?_; clear hK2 K)
     refine LidK.mk (wpRel_nil ?_)
     rintro w3 ⟨⟨nq, osq⟩, rfl⟩
     have HOW := qh (HO.out.below (Grn.below ⟨nq, osq, rfl⟩ : Below wr.heap.size wr (grow (wr.drewN nq) osq)))
     have HBW := qh (HB.out.trans ((Grn.below ⟨nq, osq, rfl⟩ : Below wr.heap.size wr (grow (wr.drewN nq) osq)).mono HB.out.size))
     have z0 := x0 nq osq
     have z1 := x1 nq osq
     clear x0 x1
     generalize grow (wr.drewN nq) osq = W3 at z0 z1 HOW HBW ⊢
     go_wp2_with (at_builtin; refine wpList_append_er rfl (.tmp 61) (.tmp 66) rfl w2.heap.size _ O rfl (HOW.out.alloc _) W3.heap.size _ ⟨xa, xn, xc, xf, xl⟩ rfl (by rw [World.cell?_alloc_at _ _ _ _ (by rfl)]; rfl) (by rw [World.cell?_alloc_at _ _ _ _ (by rfl)]; rfl) (by have := HOL.out; omega) (Nat.le_trans HBW.out.size (by simp)) ?_; intro v' w' own' gb hv; have HO2 := qh own'; have HB2 := qh ((HOW.out.alloc _).grown (HBW.out.alloc HBW.out.size _) gb (Nat.le_trans HBW.out.size (by simp))); clear own' gb hv)
     go_roundw
     case rel => exact ⟨i + 1, j, O ++ [⟨xa, xn, xc, xf, xl⟩], by first | rfl | (congr 1; omega), by first | rfl | rw [j2], by omega, by omega, HO2.out, by rw [← HT.out, HDX.out, HM1.out]; simp, HB2.out⟩
     case measure => simp [intOf]; omega
   ·have i1 : ¬ (i : Int) < (A.length : Int) := by omega
    by_cases hjc : j < C.length
    ·obtain ⟨bb, ob, rfl, hbb, hcb⟩ := R2.out.2.2.2 (by omega)
     obtain ⟨y, hy⟩ : ∃ y, y = erAt C j := ⟨_, rfl⟩
     have j1 : (j : Int) < (C.length : Int) := by omega
     have j2 : ((j : Int) == (C.length : Int)) = false := by simp; omega
     have j3 : ¬ j = C.length := by omega
     have y0 : ∀ n os, (grow (wr.drewN n) os).cell? ⟨bb, ob + j * 2, none⟩ = some (.slice y.a y.n y.c) := fun n os => by
      rw [hy]; refine cell_grown (by have := HB.out.size; show bb < _; omega) ?_ n os
      rw [HB.out.cell (p := ⟨bb, ob + j * 2, none⟩) hbb]; exact (hcb j hjc).1
     have y1 : ∀ n os, (grow (wr.drewN n) os).cell? ⟨bb, ob + j * 2 + 1, none⟩ = some (.float .f64 y.f) := fun n os => by
      rw [hy]; refine cell_grown (by have := HB.out.size; show bb < _; omega) ?_ n os
      rw [HB.out.cell (p := ⟨bb, ob + j * 2 + 1, none⟩) hbb]; exact (hcb j hjc).2
     have HDY : Hid (C.drop j = y :: C.drop (j + 1)) := qh (by rw [hy, erAt_get hjc]; exact List.drop_eq_getElem_cons hjc)
     have HYO : Hid (∀ n os, ErOk (grow (wr.drewN n) os) y) := qh fun n os => (R2.out.2.2.1 y (by rw [hy, erAt_get hjc]; exact List.getElem_mem _)).below (HB.out.trans ((Grn.below ⟨n, os, rfl⟩ : Below wr.heap.size wr _).mono HB.out.size))
     obtain ⟨ya, yn, yc, yf, yl⟩ := y
     dsimp only at y0 y1
     clear hcb hy
     have HM1 : Hid (List.merge (A.drop i) (⟨ya, yn, yc, yf, yl⟩ :: C.drop (j + 1)) leE = ⟨ya, yn, yc, yf, yl⟩ :: List.merge (A.drop i) (C.drop (j + 1)) leE) := qh (by
      rw [show A.drop i = [] from List.drop_eq_nil_of_le (by omega)]; simp)
     go_wp2_with fail
     refine wp_region_rel (fun wd => ∃ p : GrownBy, wd = grow (wr.drewN p.n) p.os) (fun f _ v => False) (by kernel_rfl) (by kernel_rfl) ⟨⟨1, #[]⟩, by rw [grow_empty]; rfl⟩ (LidK.out ?_)
     iterate 10 (refine wpRel_guardK (by rfl) (by kernel_rfl) ?_; intro K hK; have hK2 := LidK.mk hK; clear hK; go_big_quiet_step (fail); refine wpQuiet_nil ?_; refine hK2.out _ ?_; clear hK2 K)
     iterate 12 (refine wpRel_skipK wr ⟨⟨0, #[]⟩, by rw [grow_empty]; rfl⟩ (by kernel_rfl) ?_; intro K hK; have hK2 := LidK.mk hK; clear hK; go_big_quiet_step (fail); refine wpQuiet_nil ?_; refine hK2.out _ ?_; clear hK2 K)
     iterate 2 (refine wpRel_guardK (by rfl) (by kernel_rfl) ?_; intro K hK; have hK2 := LidK.mk hK; clear hK; go_big_quiet_step (fail); refine wpQuiet_nil ?_; refine hK2.out _ ?_; clear hK2 K)
     refine LidK.mk (wpRel_nil ?_)
     rintro w3 ⟨⟨nq, osq⟩, rfl⟩
     have HOW := qh (HO.out.below (Grn.below ⟨nq, osq, rfl⟩ : Below wr.heap.size wr (grow (wr.drewN nq) osq)))
     have HBW := qh (HB.out.trans ((Grn.below ⟨nq, osq, rfl⟩ : Below wr.heap.size wr (grow (wr.drewN nq) osq)).mono HB.out.size))
     have z0 := y0 nq osq
     have z1 := y1 nq osq
     clear y0 y1
     generalize grow (wr.drewN nq) osq = W3 at z0 z1 HOW HBW ⊢
     go_wp2_with (at_builtin; refine wpList_append_er rfl (.tmp 70) (.tmp 75) rfl w2.heap.size _ O rfl (HOW.out.alloc _) W3.heap.size _ ⟨ya, yn, yc, yf, yl⟩ rfl (by rw [World.cell?_alloc_at _ _ _ _ (by rfl)]; rfl) (by rw [World.cell?_alloc_at _ _ _ _ (by rfl)]; rfl) (by have := HOL.out; omega) (Nat.le_trans HBW.out.size (by simp)) ?_; intro v' w' own' gb hv; have HO2 := qh own'; have HB2 := qh ((HOW.out.alloc _).grown (HBW.out.alloc HBW.out.size _) gb (Nat.le_trans HBW.out.size (by simp))); clear own' gb hv)
     go_roundw
     case rel => exact ⟨i, j + 1, O ++ [⟨ya, yn, yc, yf, yl⟩], rfl, by first | rfl | (congr 1; omega), by omega, by omega, HO2.out, by rw [← HT.out, HDY.out, HM1.out]; simp, HB2.out⟩
     case measure => simp [intOf]; omega
    ·have j1 : ¬ (j : Int) < (C.length : Int) := by omega
     have HE : Hid (O = T) := qh (by
      have := HT.out
      rw [show A.drop i = [] from List.drop_eq_nil_of_le (by omega), show C.drop j = [] from List.drop_eq_nil_of_le (by omega)] at this
      simpa using this)
     go_wp2_with fail
     go_ret
     exact ⟨_, rfl, by rw [← HE.out]; exact HO.out.mono HBB.out.size, HBB.out.trans (HB.out.mono HBB.out.size)⟩
end Go.Proofs.YtmmfjknnbkcniaaGreatDoor
namespace Go.Proofs.YtmmfjknnbkcniaaGreatDoor
open Go.Fl Go.Rel Go.RowKit Go.Sort Go.Shelf Go.Stab Go.Lib
set_option linter.unusedSimpArgs false
set_option linter.unusedVariables false
def RVecGood (es0 : List Er) (ms : List Ek) (w : World) (e : Ending) (w' : World) : Prop :=
 ∃ a cap es, e = .returned (.tuple #[.slice a es.length cap, .int .i64 0]) ∧ SlK a es.length cap ∧ ERow w' a es.length es ∧ es.map Er.key = ms ∧ (∀ x ∈ es, ∃ y ∈ es0, x.f = y.f) ∧ Below w.heap.size w w'
def RVecRet (es0 : List Er) (w : World) (e : Ending) (w' : World) : Prop :=
 match vecK (es0.map Er.key) with
 | none => e = .returned (.tuple #[.slice none 0 0, .int .i64 5]) ∧ Below w.heap.size w w'
 | some ms => RVecGood es0 ms w e w'
def AllRel (es : List Er) (w : World) (v : Value) (wr : World) : Prop :=
 ∃ k : Nat, v = .int .i64 (k : Int) ∧ k ≤ es.length ∧ (∀ j, j < k → validK (erAt es j).key = true) ∧ Below w.heap.size w wr
theorem rvector_any (a : Option Addr) (n cap : Nat) (es : List Er) (w : World) (hr : ERow w a n es) (hs : SlK a n cap) :
  Calls Tryz.prog 41 #[.slice a n cap] w (RVecRet es w) := by
 have HR := qh hr
 have hl := hr.1
 have HS := qh hs
 have n0 : (0 : Int) ≤ (n : Int) := by omega
 have n1 : (n : Int) ≤ 4398046511104 := by have := hr.2.1; omega
 clear hr hs
 go_enter Tryz.func41, Tryz.ntmps41
 go_wp2_with fail
 go_loopw [4] (AllRel es w) (fun v _ => n - (intOf v).toNat)
 case atStart => exact ⟨0, rfl, by omega, fun j h => by omega, Below.refl _ _⟩
 case round =>
  obtain ⟨k, rfl, hk, hval, bel⟩ := hrel
  have hrw := HR.out.below bel
  have HB := qh bel
  have HVAL := qh hval
  clear bel hval
  by_cases hlt : k < n
  ·obtain ⟨b, off, rfl, hb, hc⟩ := hrw.2.2.2 (by omega)
   obtain ⟨x0, x1⟩ := hc k hlt
   have hx : ErOk wr (erAt es k) := by
    rw [erAt_get (by omega)]; exact hrw.2.2.1 _ (List.getElem_mem _)
   have k1 : (0 : Int) ≤ (k : Int) := by omega
   have k2 : (k : Int) < (n : Int) := by omega
   generalize hxx : erAt es k = x at x0 x1 hx
   have HXX := qh hxx
   obtain ⟨xa, xn, xc, xf, xl⟩ := x
   dsimp only at x0 x1
   have HOK := qh hx
   clear hc hrw hx hxx
   have HV : Hid (Calls Tryz.prog 60 #[.slice xa xn xc] wr fun e w' => e = .returned (.bool (validK (erAt es k).key)) ∧ Below wr.heap.size wr w') := qh (by
    rw [HXX.out]
    have hl2 := (HOK.out).1.1
    dsimp only at hl2
    refine (rvalid_any xa xn xc xl wr (HOK.out).1).mono ?_
    rintro e w' ⟨h1, h2⟩
    refine ⟨?_, h2⟩
    rw [h1]; unfold validK Er.key; rw [hl2])
   cases hv : validK (erAt es k).key
   ·rw [hv] at HV
    have HE : Hid ((es.map Er.key).all validK = false) := qh (by
     rw [List.all_eq_false]
     exact ⟨(erAt es k).key, by rw [erAt_get (by omega)]; exact List.mem_map_of_mem (List.getElem_mem _), by rw [hv]; simp⟩)
    go_wp2_with (go_at_call 60; refine HV.out.mono ?_; rintro e w2 ⟨rfl, bel2⟩)
    go_ret2
    unfold RVecRet vecK
    rw [HE.out]
    exact ⟨rfl, HB.out.trans (bel2.mono HB.out.size)⟩
   ·have HVK := qh hv
    rw [hv] at HV
    clear hv
    go_wp2_with (go_at_call 60; refine HV.out.mono ?_; rintro e w2 ⟨rfl, bel2⟩; have HB2 := qh bel2; clear bel2)
    go_roundw
    case rel => exact ⟨k + 1, by first | rfl | (congr 1; omega), by omega, fun j hj => by
     by_cases hjk : j = k
     ·rw [hjk]; exact HVK.out
     ·exact HVAL.out j (by omega), HB.out.trans (HB2.out.mono HB.out.size)⟩
    case measure => simp [intOf]; omega
  ·have hkn : ¬ (k : Int) < (n : Int) := by omega
   have HVAL2 : Hid ((es.map Er.key).all validK = true) := qh (by
    rw [List.all_eq_true]
    intro x hx
    obtain ⟨y, hy, rfl⟩ := List.mem_map.1 hx
    obtain ⟨i, hi, rfl⟩ := List.getElem_of_mem hy
    rw [← erAt_get hi]; exact HVAL.out i (by omega))
   have HSORT := qh (sortedE_any n a n cap es wr (Nat.le_refl _) hrw HS.out)
   obtain ⟨ms, hms⟩ : ∃ ms, ms = es.mergeSort leE := ⟨_, rfl⟩
   rw [← hms] at HSORT
   have HML : Hid (ms.length = n) := qh (by rw [hms, List.length_mergeSort, hl])
   have HMK : Hid (ms.map Er.key = sortK (es.map Er.key)) := qh (by rw [hms, sort_key])
   have HMO : Hid (∀ e ∈ ms, ErOk wr e) := qh fun e he => by rw [hms] at he; exact hrw.2.2.1 e (List.mem_mergeSort.1 he)
   have HMF : Hid (∀ x ∈ ms, ∃ y ∈ es, x.f = y.f) := qh fun x hx => by rw [hms] at hx; exact ⟨x, List.mem_mergeSort.1 hx, rfl⟩
   clear hms hrw HVAL
   go_wp2_with (go_at_call 61; refine HSORT.out.mono ?_; rintro e w3 ⟨v3, rfl, own3, b3⟩; obtain ⟨a3, c3, rfl, ok3, r3⟩ := own3.row (fun e he => (HMO.out e he).below b3) (by have := HML.out; omega); have HO3 := qh ok3; have HR3 := qh r3; have HB3 := qh b3; clear own3 ok3 r3 b3)
   go_loopw [6] (DupRel ms w3) (fun v _ => ms.length - (intOf v).toNat)
   case atStart => exact ⟨1, rfl, by omega, .inr rfl, fun j h => by omega, Grn.refl _⟩
   case round =>
    obtain ⟨q1, rfl, hq1, hqm, hdis, gr⟩ := hrel
    have HD := qh hdis
    have HG := qh gr
    clear hdis gr
    obtain ⟨q, hq⟩ : ∃ q, q1 = q + 1 := ⟨q1 - 1, by omega⟩
    have HQ := qh hq
    have n2 : (0 : Int) ≤ (q1 : Int) := by omega
    have q2 : (0 : Int) ≤ (q : Int) := by omega
    have kq : (q1 : Int) - 1 = (q : Int) := by omega
    have kw : IntKind.i64.wrap (q : Int) = (q : Int) := by have := HML.out; rw [IntKind.wrap_i64]; omega
    by_cases hqk : q + 1 < ms.length
    ·obtain ⟨b3, o3, rfl, hb3, hc3⟩ := HR3.out.2.2.2 (by omega)
     obtain ⟨x, hx⟩ : ∃ x, x = erAt ms q := ⟨_, rfl⟩
     obtain ⟨y, hy⟩ : ∃ y, y = erAt ms (q + 1) := ⟨_, rfl⟩
     have hxo : ErOk w3 x := by rw [hx, erAt_get (by omega)]; exact HR3.out.2.2.1 _ (List.getElem_mem _)
     have hyo : ErOk w3 y := by rw [hy, erAt_get hqk]; exact HR3.out.2.2.1 _ (List.getElem_mem _)
     have n3 : (q1 : Int) < (ms.length : Int) := by omega
     have n5 : (ms.length : Int) ≤ 4398046511104 := by have := HML.out; omega
     have n4 : (q : Int) < (ms.length : Int) := by omega
     have hgl : b3 < wr.heap.size := by have := HG.out.below.size; omega
     have x0 : ∀ n os, (grow (wr.drewN n) os).cell? ⟨b3, o3 + q * 2, none⟩ = some (.slice x.a x.n x.c) := fun n os => by
      refine cell_grown hgl ?_ n os
      rw [HG.out.below.cell (p := ⟨b3, o3 + q * 2, none⟩) hb3, hx]
      exact (hc3 q (by omega)).1
     have y0 : ∀ n os, (grow (wr.drewN n) os).cell? ⟨b3, o3 + q1 * 2, none⟩ = some (.slice y.a y.n y.c) := fun n os => by
      refine cell_grown hgl ?_ n os
      rw [HG.out.below.cell (p := ⟨b3, o3 + q1 * 2, none⟩) hb3, hq, hy]
      exact (hc3 (q + 1) hqk).1
     have HCMP : Hid (∀ n os, Calls Tryz.prog 62 #[.slice x.a x.n x.c, .slice y.a y.n y.c] (grow (wr.drewN n) os) fun e w' => e = .returned (.int .i64 (lcmp x.ls y.ls)) ∧ ∃ q os', w' = grow ((grow (wr.drewN n) os).drewN q) os') := qh fun n os =>
      rlcompare_any _ _ _ _ _ _ _ _ _ (hxo.1.below (HG.out.trans ⟨n, os, rfl⟩).below) (hyo.1.below (HG.out.trans ⟨n, os, rfl⟩).below)
     have HXY : Hid (lcmp x.ls y.ls = lcmp (erAt ms q).ls (erAt ms (q + 1)).ls) := qh (by rw [hx, hy])
     have HLT := qh hqk
     obtain ⟨xa, xn, xc, xf, xl⟩ := x
     obtain ⟨ya, yn, yc, yf, yl⟩ := y
     dsimp only at x0 y0 HCMP HXY
     clear hx hy hxo hyo hq hgl hqk hc3
     generalize lcmp xl yl = c at *
     have hmix : Tryz.prog.follows .mixedOrders = true := by kernel_rfl
     by_cases hc0 : c = 0
     ·subst hc0
      go_wp2_with fail
      go_quiet_grown (first | (go_at_call 62; exact Calls.grown_of (HCMP.out _ _)))
      go_wp2_with fail
      go_ret2
      unfold RVecRet vecK
      rw [← HMK.out, noDup_no HLT.out HXY.out.symm, Bool.and_false]
      exact ⟨rfl, (HB.out.trans (HB3.out.mono HB.out.size)).trans ((HG.out.trans ⟨nq, osq, rfl⟩).below.mono (Nat.le_trans HB.out.size HB3.out.size))⟩
     ·have hc2 : (c == 0) = false := by simpa using hc0
      go_wp2_with fail
      go_quiet_grown (first | (go_at_call 62; exact Calls.grown_of (HCMP.out _ _)))
      go_wp2_with fail
      go_roundw
      case rel => exact ⟨q1 + 1, by first | rfl | (congr 1; omega), by omega, .inl (by have := HLT.out; have := HQ.out; omega), fun j hj => by
       by_cases hjq : j = q
       ·rw [hjq, ← HXY.out]; exact hc0
       ·exact HD.out j (by have := HQ.out; omega), HG.out.trans ⟨nq, osq, rfl⟩⟩
      case measure => simp [intOf]; have := HLT.out; have := HQ.out; omega
    ·have n3 : ¬ (q1 : Int) < (ms.length : Int) := by omega
     have HND : Hid (noDup (sortK (es.map Er.key)) = true) := qh (by
      rw [← HMK.out]; exact noDup_yes fun j hj => HD.out j (by omega))
     clear hq hqk
     go_wp2_with fail
     go_ret2
     unfold RVecRet vecK
     rw [HND.out, HVAL2.out]
     exact ⟨a3, c3, ms, rfl, HO3.out, HR3.out.below HG.out.below, HMK.out, HMF.out, (HB.out.trans (HB3.out.mono HB.out.size)).trans (HG.out.below.mono (Nat.le_trans HB.out.size HB3.out.size))⟩
end Go.Proofs.YtmmfjknnbkcniaaGreatDoor
