/- labels.Vector: the elements in canonical order, if all sets of labels are valid and none comes twice. labels.Vector: the walk. weirref16.sorted: the elements sorted by merging. weirref16.Vector: the walk. -/
import Derived.Test.YtmmfjknnbkcniaaGreatDoorQ14
import Derived.Test.YtmmfjknnbkcniaaGreatDoorQ17
import Derived.Deep.RegionHeld3
import Derived.Test.YtmmfjknnbkcniaaGreatDoorQ02
import Derived.Laws.Slices
namespace Go.Fl
/-- An element: its labels, its value. -/
abbrev Ek := List Lb × Nat
def Er.key (e : Er) : Ek := (e.ls, e.f)
def kAt (ks : List Ek) (i : Nat) : Ek := ks.getD i ([], 0)
def leK (x y : Ek) : Bool := leL x.1 y.1
def leE (x y : Er) : Bool := leL x.ls y.ls
def sortK (ks : List Ek) : List Ek := ks.mergeSort leK
theorem sort_key (es : List Er) : (es.mergeSort leE).map Er.key = sortK (es.map Er.key) := by
  unfold sortK
  exact List.map_mergeSort fun a _ b _ => rfl
/-- Does no set of labels stand next to its like? -/
def noDup (ks : List Ek) : Bool := (List.range (ks.length - 1)).all fun i => !decide (lcmp (kAt ks i).1 (kAt ks (i + 1)).1 = 0)
theorem kAt_key (es : List Er) {i : Nat} (h : i < es.length) : kAt (es.map Er.key) i = (erAt es i).key := by
  unfold kAt erAt
  simp [List.getD, h]
def ecmp (a b : Er) : Int := lcmp a.ls b.ls
end Go.Fl
namespace Go.Proofs.YtmmfjknnbkcniaaGreatDoor
open Go.Fl Go.Rel Go.RowKit Go.Sort Go.Shelf Go.Stab Go.Lib
set_option linter.unusedSimpArgs false
set_option linter.unusedVariables false

theorem leE_eq : (fun x y : Er => !ltOf ecmp y x) = leE := by
  funext x y
  unfold ltOf ecmp leE leL
  rw [lcmp_swap x.ls y.ls]
  by_cases h : lcmp x.ls y.ls ≤ 0
  · rw [decide_eq_true h, decide_eq_false (by omega)]; rfl
  · rw [decide_eq_false h, decide_eq_true (by omega)]; rfl
theorem swo_er : SWO (ltOf ecmp) := by
  refine ⟨fun x => ?_, fun x y z h1 h2 => ?_, fun x y z h1 h2 => ?_⟩
  · unfold ltOf ecmp; rw [lcmp_zero.2 rfl]; rfl
  · unfold ltOf ecmp at *
    exact decide_eq_true (lcmp_trans (of_decide_eq_true h1) (of_decide_eq_true h2))
  · unfold ltOf ecmp at *
    have g1 := of_decide_eq_false h1; have g2 := of_decide_eq_false h2
    refine decide_eq_false ?_
    have t := leL_trans z.ls y.ls x.ls (decide_eq_true (by rw [lcmp_swap y.ls z.ls]; omega)) (decide_eq_true (by rw [lcmp_swap x.ls y.ls]; omega))
    have t := of_decide_eq_true t
    rw [lcmp_swap x.ls z.ls] at t
    omega

def validK (k : Ek) : Bool := (List.range k.1.length).all (okL k.1)
/-- The elements in canonical order, or none. -/
def vecK (ks : List Ek) : Option (List Ek) := if ks.all validK && noDup (sortK ks) then some (sortK ks) else none

/-- The closure of the sort. -/
theorem ecmp_any (x y : Er) (w : World) (hx : ErOk w x) (hy : ErOk w y) : Calls Tryz.prog 39 #[.agg (erCells x).toArray, .agg (erCells y).toArray] w fun e w' => e = .returned (.int .i64 (lcmp x.ls y.ls)) ∧ Grn w w' := by
  obtain ⟨xa, xn, xc, xf, xl⟩ := x
  obtain ⟨ya, yn, yc, yf, yl⟩ := y
  have HC : Hid (∀ W, Grn w W → Calls Tryz.prog 40 #[.slice xa xn xc, .slice ya yn yc] W fun e w' => e = .returned (.int .i64 (lcmp xl yl)) ∧ Grn W w') := Lib.hid fun W hW => lcompare_any _ _ _ _ _ _ _ _ _ (hx.1.below hW.below) (hy.1.below hW.below)
  clear hx hy
  show Calls _ _ #[.agg #[.slice xa xn xc, .float .f64 xf], .agg #[.slice ya yn yc, .float .f64 yf]] _ _
  go_enter Tryz.func39, Tryz.ntmps39
  go_wp2_with (go_at_call 40; refine (HC.out _ (((Grn.refl w).alloc _).alloc _)).mono ?_; rintro e w2 ⟨rfl, gr⟩)
  go_ret
  exact ⟨rfl, (((Grn.refl w).alloc _).alloc _).trans gr⟩

/-- A row of elements written in place. -/
def WRE (w : World) (g : Nat) (es : List Er) : Prop := g < w.heap.size ∧ ∀ i, i < es.length → ∀ c, c < 2 → w.cell? ⟨g, 0 + i * 2 + c, none⟩ = (erCells (erAt es i))[c]? ∧ w.frozen? ⟨g, 0 + i * 2 + c, none⟩ = false

theorem wre_holds {w : World} {g : Nat} {xs : List Er} (h : WRE w g xs) : HoldsK erCells 2 w g 0 xs.toArray := fun j hj => by
  rw [size_flatK] at hj
  rw [get_flatK _ _ _ _ hj]
  have hj' : j < xs.length * 2 := by simpa using hj
  have e : xs.toArray[j / 2]! = erAt xs (j / 2) := by
    rw [erAt_get (show j / 2 < xs.length by omega)]
    simp [show j / 2 < xs.length by omega]
  obtain ⟨c0, f0⟩ := h.2 (j / 2) (by omega) (j % 2) (by omega)
  rw [e, show 0 + j = 0 + j / 2 * 2 + j % 2 by omega]
  refine ⟨?_, f0⟩
  rw [c0]
  rcases Nat.mod_two_eq_zero_or_one j with h2 | h2 <;> rw [h2] <;> rfl

theorem sort_rowE (g n c' B : Nat) (xs : List Er) (w : World) (h : WRE w g xs) (hl : xs.length = n) (hb : n ≤ 4398046511104) (hok : ∀ W, KeptButF g w W → ∀ e ∈ xs, ErOk W e) :
    Calls Tryz.prog 38 #[.slice (some ⟨g, 0, none⟩) n c', .func (.func 39) #[] #[]] w fun e w' => e = .returned (.tuple #[]) ∧ WRE w' g (xs.mergeSort leE) ∧ KeptButF g w w' := by
  have hsz : xs.toArray.size = n := by simp [hl]
  have := sortStableE (cap := c') erCells 2 (fun _ => rfl) (fun x v hv => by simp [erCells] at hv; rcases hv with rfl | rfl <;> rfl) (fun w => by kernel_rfl) (fun w => by kernel_rfl) ecmp swo_er 39 #[] (fun args w => by kernel_rfl) g 0 xs.toArray w (wre_holds h) h.1 (by rw [hsz]; omega) (fun W i j hk => by
    have key : ∀ i, ErOk W xs.toArray[i]! := fun i => by
      by_cases hi : i < xs.length
      · have : xs.toArray[i]! = xs[i] := by simp [hi]
        rw [this]
        exact hok W hk _ (List.getElem_mem hi)
      · have : xs.toArray[i]! = default := by simp [hi]
        rw [this]
        exact ⟨LRow.nothing _, ⟨Nat.le_refl _, fun _ => rfl⟩, by show (0 : Nat) ≤ _; omega⟩
    exact ecmp_any _ _ W (key i) (key j))
  rw [hsz] at this
  refine this.mono ?_
  rintro e w' ⟨rfl, hk, ms, hms, hml, hc⟩
  have hms' : ms = xs.mergeSort leE := by rw [hms, leE_eq]
  subst hms'
  refine ⟨rfl, ⟨by have := hk.size; have := h.1; omega, fun i hi c hcc => ?_⟩, hk⟩
  obtain ⟨a0, b0⟩ := hc i (by rw [← hml]; exact hi) c hcc
  refine ⟨?_, b0⟩
  rw [a0]
  show some (erCells (erAt (xs.mergeSort leE) i))[c]! = _
  rcases (by omega : c = 0 ∨ c = 1) with rfl | rfl <;> rfl

theorem OwnE.wre {B : Nat} {w : World} {g n cap : Nat} {es : List Er} (h : OwnE B w (.slice (some ⟨g, 0, none⟩) n cap) es) : WRE w g es :=
  ⟨(h.lt g rfl).2, fun i hi c hc => ⟨h.cell hi hc, h.frozen _⟩⟩

/-- No two elements have labels in one block. -/
def ApartE (es : List Er) : Prop := es.Pairwise fun x y => ∀ b, (Value.slice x.a x.n x.c).ownBlock = some b → (Value.slice y.a y.n y.c).ownBlock ≠ some b
/-- What Vector hands back. -/
def VecGood (es0 : List Er) (ms : List Ek) (w : World) (e : Ending) (w' : World) : Prop :=
  ∃ g cap es, e = .returned (.tuple #[.slice (some ⟨g, 0, none⟩) es.length cap, .int .i64 0]) ∧ es.length ≤ cap ∧ es.length ≤ 4398046511104 ∧ w.heap.size ≤ g ∧ WRE w' g es ∧ (∀ e ∈ es, ErOwn w.heap.size w' e ∧ (Value.slice e.a e.n e.c).ownBlock ≠ some g) ∧ es.map Er.key = ms ∧ ((∀ x ∈ es, ∃ y ∈ es0, x.f = y.f) ∧ ApartE es) ∧ Below w.heap.size w w'
def VecRet (es0 : List Er) (w : World) (e : Ending) (w' : World) : Prop :=
  match vecK (es0.map Er.key) with
  | none => e = .returned (.tuple #[.slice none 0 0, .int .i64 5]) ∧ Below w.heap.size w w'
  | some ms => VecGood es0 ms w e w'
end Go.Proofs.YtmmfjknnbkcniaaGreatDoor

namespace Go.Fl
theorem map_take_snoc {fs es : List Er} {k : Nat} (h : k < es.length) (hf : fs.map Er.key = (es.take k).map Er.key) (e : Er) (he : e.key = (erAt es k).key) : (fs ++ [e]).map Er.key = (es.take (k + 1)).map Er.key := by
  rw [List.map_append, hf, List.take_add_one, List.getElem?_eq_getElem h, List.map_append, ← erAt_get h]
  simp [he]
theorem noDup_yes {ms : List Er} (h : ∀ j, j + 1 < ms.length → ¬ lcmp (erAt ms j).ls (erAt ms (j + 1)).ls = 0) : noDup (ms.map Er.key) = true := by
  unfold noDup
  rw [List.all_eq_true]
  intro j hj
  have hj2 := List.mem_range.1 hj
  rw [List.length_map] at hj2
  rw [kAt_key ms (by omega), kAt_key ms (by omega)]
  have := h j (by omega)
  show (!decide (lcmp (erAt ms j).ls (erAt ms (j + 1)).ls = 0)) = true
  rw [decide_eq_false this]; rfl
theorem noDup_no {ms : List Er} {j : Nat} (hj : j + 1 < ms.length) (h : lcmp (erAt ms j).ls (erAt ms (j + 1)).ls = 0) : noDup (ms.map Er.key) = false := by
  unfold noDup
  rw [List.all_eq_false]
  refine ⟨j, List.mem_range.2 (by rw [List.length_map]; omega), ?_⟩
  rw [kAt_key ms (by omega), kAt_key ms (by omega)]
  simp [Er.key, h]
end Go.Fl
namespace Go.Proofs.YtmmfjknnbkcniaaGreatDoor
open Go.Fl Go.Rel Go.RowKit Go.Sort Go.Shelf Go.Stab Go.Lib
set_option linter.unusedSimpArgs false
set_option linter.unusedVariables false

def TakeE (es : List Er) (w : World) (v4 v13 : Value) (wr : World) : Prop :=
  ∃ (k : Nat) (fs : List Er) (g cap : Nat), v13 = .int .i64 (k : Int) ∧ k ≤ es.length ∧ v4 = .slice (some ⟨g, 0, none⟩) fs.length cap ∧ fs.length ≤ cap ∧ OwnE w.heap.size wr (.slice (some ⟨g, 0, none⟩) fs.length cap) fs ∧ (∀ e ∈ fs, ErOwn w.heap.size wr e) ∧
    fs.map Er.key = (es.take k).map Er.key ∧ (∀ j, j < k → validK (erAt es j).key = true) ∧ ((∀ x ∈ fs, ∃ y ∈ es, x.f = y.f) ∧ ApartE fs) ∧ Below w.heap.size w wr

def DupRel (ms : List Er) (w : World) (v7 : Value) (wr : World) : Prop :=
  ∃ k : Nat, v7 = .int .i64 (k : Int) ∧ 1 ≤ k ∧ (k ≤ ms.length ∨ k = 1) ∧ (∀ j, j + 1 < k → ¬ lcmp (erAt ms j).ls (erAt ms (j + 1)).ls = 0) ∧ Grn w wr

theorem OwnE.cap {B : Nat} {w : World} {g n cap : Nat} {es : List Er} (h : OwnE B w (.slice (some ⟨g, 0, none⟩) n cap) es) : n = es.length ∧ es.length ≤ cap ∧ B ≤ g ∧ g < w.heap.size := by
  rcases h.form with ⟨e, _⟩ | ⟨g', cap', e, h1, h2, h3, _⟩
  · cases e
  · cases e; exact ⟨rfl, h3, h1, h2⟩
set_option maxHeartbeats 4000000 in
set_option maxRecDepth 100000 in
theorem vector_any (a : Option Addr) (n cap : Nat) (es : List Er) (w : World) (hr : ERow w a n es) :
    Calls Tryz.prog 19 #[.slice a n cap] w (VecRet es w) := by
  have HR := Lib.hid hr
  have hl := hr.1
  have n0 : (0 : Int) ≤ (n : Int) := by omega
  have n1 : (n : Int) ≤ 4398046511104 := by have := hr.2.1; omega
  obtain ⟨W0, hmk, own0, bel0⟩ := make_er w.heap.size w n (by omega) (Nat.le_refl _)
  have OW := Lib.hid own0
  have BW := Lib.hid bel0
  clear hr own0 bel0
  go_enter Tryz.func19, Tryz.ntmps19
  go_wp2_with fail
  go_loopw [4, 13] (TakeE es w) (fun _ v _ => n - (intOf v).toNat)
  case atStart => exact ⟨0, [], w.heap.size, n, rfl, by omega, rfl, by simp, OW.out, fun e he => absurd he List.not_mem_nil, rfl, fun j h => by omega, ⟨fun x hx => absurd hx List.not_mem_nil, List.Pairwise.nil⟩, BW.out⟩
  case round =>
    obtain ⟨k, fs, g, fcap, rfl, hk, rfl, hcap, own, hes, hkey, hval, hff, bel⟩ := hrel
    have HFF := Lib.hid hff.1
    have HAP := Lib.hid hff.2
    clear hff
    have hrw := HR.out.below bel
    have HO := Lib.hid own
    have HB := Lib.hid bel
    have HES := Lib.hid hes
    have HKEY := Lib.hid hkey
    have HVAL := Lib.hid hval
    have HFL : Hid (fs.length = k) := Lib.hid (by have := congrArg List.length hkey; simp at this; omega)
    have HCAP := Lib.hid hcap
    clear own bel hes hkey hval hcap
    by_cases hlt : k < n
    · have dl : decide ((k : Int) < (n : Int)) = true := decide_eq_true (by omega)
      obtain ⟨b, off, rfl, hb, hc⟩ := hrw.2.2.2 (by omega)
      obtain ⟨x0, x1⟩ := hc k hlt
      have hx : ErOk wr (erAt es k) := by
        rw [erAt_get (by omega)]; exact hrw.2.2.1 _ (List.getElem_mem _)
      have k1 : (0 : Int) ≤ (k : Int) := by omega
      have k2 : (k : Int) < (n : Int) := by omega
      have HX := Lib.hid (rfl : erAt es k = erAt es k)
      generalize hxx : erAt es k = x at x0 x1 hx
      have HXX := Lib.hid hxx
      obtain ⟨xa, xn, xc, xf, xl⟩ := x
      dsimp only at x0 x1
      have HOK := Lib.hid hx
      clear hc hrw hx hxx HX
      have HV : Hid (∀ W', Below wr.heap.size wr W' → Calls Tryz.prog 36 #[.slice xa xn xc] W' fun e w' => e = .returned (.bool (validK (erAt es k).key)) ∧ Below W'.heap.size W' w') := Lib.hid fun W' hb' => by
        rw [HXX.out]
        have hl2 := (HOK.out).1.1
        dsimp only at hl2
        refine (valid_any xa xn xc xl W' ((HOK.out).1.below hb')).mono ?_
        rintro e w' ⟨h1, h2⟩
        refine ⟨?_, h2⟩
        rw [h1]; unfold validK Er.key; rw [hl2]
      cases hv : validK (erAt es k).key
      · rw [hv] at HV
        have HE : Hid ((es.map Er.key).all validK = false) := Lib.hid (by
          rw [List.all_eq_false]
          exact ⟨(erAt es k).key, by rw [erAt_get (by omega)]; exact List.mem_map_of_mem (List.getElem_mem _), by rw [hv]; simp⟩)
        go_wp2_with (first | (refine Bk.is_store 34 rfl ?_; refine Bk.wpList_store_box (w0 := wr) (N := 0) rfl 34 _ _ rfl #[.slice xa xn xc, .float .f64 xf] #[.slice none 0 0, .float .f64 0] 34 rfl rfl (by kernel_rfl) rfl (by kernel_rfl) ?_; intro W hI hB; have e0 : W.cell? ⟨wr.heap.size, 0, none⟩ = some (.slice xa xn xc) := (by rw [hI.cell]; rfl); have e1 : W.cell? ⟨wr.heap.size, 1, none⟩ = some (.float .f64 xf) := (by rw [hI.cell]; rfl); clear hI) | (go_at_call 36; refine (HV.out _ hB).mono ?_; rintro e w2 ⟨rfl, bel2⟩; have c0 := cell_stayL e0 bel2; have c1 := cell_stayL e1 bel2))
        go_ret2
        unfold VecRet vecK
        rw [HE.out]
        exact ⟨rfl, HB.out.trans ((hB.trans (bel2.mono hB.size)).mono HB.out.size)⟩
      · have HVK := Lib.hid hv
        rw [hv] at HV
        go_wp2_with (first | (refine Bk.is_store 34 rfl ?_; refine Bk.wpList_store_box (w0 := wr) (N := 0) rfl 34 _ _ rfl #[.slice xa xn xc, .float .f64 xf] #[.slice none 0 0, .float .f64 0] 34 rfl rfl (by kernel_rfl) rfl (by kernel_rfl) ?_; intro W hI hB; have e0 : W.cell? ⟨wr.heap.size, 0, none⟩ = some (.slice xa xn xc) := (by rw [hI.cell]; rfl); have e1 : W.cell? ⟨wr.heap.size, 1, none⟩ = some (.float .f64 xf) := (by rw [hI.cell]; rfl); clear hI) | (go_at_call 36; refine (HV.out _ hB).mono ?_; rintro e w2 ⟨rfl, bel2⟩; have c0 := cell_stayL e0 bel2; have c1 := cell_stayL e1 bel2))
        have s0 : w2.drew.cell? ⟨wr.heap.size, 0, none⟩ = some (.slice xa xn xc) ∧ w2.drew.cell? ⟨wr.heap.size, 1, none⟩ = some (.float .f64 xf) := ⟨c0, c1⟩
        have BW2 := Lib.hid ((hB.trans (bel2.mono hB.size)).drewN' 1)
        clear e0 e1 bel2 hB c0 c1
        have HNE : Hid (some wr.heap.size ≠ (Value.slice (some ⟨g, 0, none⟩) fs.length fcap).ownBlock) := Lib.hid (fun h => by
          have h2 := HO.out.cap.2.2.2
          have h3 : wr.heap.size = g := by simpa [Value.ownBlock] using h
          omega)
        have HSZ : Hid (w.heap.size ≤ w2.drew.heap.size) := Lib.hid (by have := HB.out.size; have := BW2.out.size; exact Nat.le_trans ‹_› ‹_›)
        have HCl : Hid (Calls Tryz.prog 37 #[.slice xa xn xc] w2.drew fun e w3 => ∃ a' c', e = .returned (.slice a' xn c') ∧ OwnL w2.drew.heap.size w3 (.slice a' xn c') xl ∧ Below w2.drew.heap.size w2.drew w3) := Lib.hid (by
          have hl2 := (HOK.out).1.1
          dsimp only at hl2
          refine (clone_any xa xn xc xl w2.drew ((HOK.out).1.below BW2.out) (HOK.out).2.1 (HOK.out).2.2).mono ?_
          rintro e w3 ⟨v, h1, h2, h3⟩
          rcases h2.form with ⟨rfl, hnil⟩ | ⟨g', cap', rfl, _⟩
          · rw [hnil] at hl2
            have : xn = 0 := by simpa using hl2.symm
            subst this
            exact ⟨none, 0, h1, h2, h3⟩
          · rw [hl2] at h1 h2
            exact ⟨_, _, h1, h2, h3⟩)
        have KO : Hid (OwnE w.heap.size w2.drew (.slice (some ⟨g, 0, none⟩) fs.length fcap) fs) := Lib.hid (HO.out.below BW2.out)
        have KES : Hid (∀ e ∈ fs, ErOwn w.heap.size w2.drew e) := Lib.hid fun e he => (HES.out e he).below BW2.out
        have KB : Hid (Below w.heap.size w w2.drew) := Lib.hid (HB.out.trans (BW2.out.mono HB.out.size))
        clear hv HV
        go_region_held3 (fun w' => w'.cell? ⟨wr.heap.size, 0, none⟩ = some (.slice xa xn xc) ∧ w'.cell? ⟨wr.heap.size, 1, none⟩ = some (.float .f64 xf)) (first | assumption | exact ⟨cell_oldL s3.1 _, cell_oldL s3.2 _⟩) (first | (go_at_call 37; refine HCl.out.mono ?_; rintro e w3 ⟨a', c', rfl, ownl, bel3⟩; have s3 : w3.cell? ⟨wr.heap.size, 0, none⟩ = some (.slice xa xn xc) ∧ w3.cell? ⟨wr.heap.size, 1, none⟩ = some (.float .f64 xf) := ⟨cell_stayL s0.1 bel3, cell_stayL s0.2 bel3⟩) | (refine step_append_er rfl (.tmp 21) (.tmp 28) rfl w.heap.size _ fs rfl ((KO.out.below bel3).alloc _) _ _ ⟨a', xn, c', xf, xl⟩ rfl (by show (World.alloc _ _).cell? _ = _; rw [World.cell?_alloc_at _ _ _ _ (by rfl)]; rfl) (by show (World.alloc _ _).cell? _ = _; rw [World.cell?_alloc_at _ _ _ _ (by rfl)]; rfl) (by have := HFL.out; omega) (Nat.le_trans HSZ.out (Nat.le_trans bel3.size (by simp))) ?_; intro g2 cap2 w5 own5 gb5; have s5 : w5.cell? ⟨wr.heap.size, 0, none⟩ = some (.slice xa xn xc) ∧ w5.cell? ⟨wr.heap.size, 1, none⟩ = some (.float .f64 xf) := ⟨gb5.cell (cell_oldL s3.1 _) HNE.out, gb5.cell (cell_oldL s3.2 _) HNE.out⟩))
        have e1 : (fs ++ [(⟨a', xn, c', xf, xl⟩ : Er)]).length = fs.length + 1 := by simp
        have HNEW : Hid (TakeE es w (.slice (some ⟨g2, 0, none⟩) (fs.length + 1) cap2) (.int .i64 ((k : Int) + 1)) w5) := Lib.hid (by
          have c5 := own5.cap
          refine ⟨k + 1, fs ++ [⟨a', xn, c', xf, xl⟩], g2, cap2, by first | rfl | (congr 1; omega), by omega, by rw [e1], c5.2.1, by rw [e1]; exact own5, ?_, ?_, ?_, ?_, ?_⟩
          · intro e he
            rcases List.mem_append.1 he with he | he
            · exact (((KES.out e he).below bel3).below ((Below.refl _ _).alloc (Nat.le_refl _) _)).grown ((KO.out.below bel3).alloc _) gb5
            · obtain rfl : e = ⟨a', xn, c', xf, xl⟩ := by simpa using he
              have hl2 := (HOK.out).1
              refine ErOwn.grown ?_ ((KO.out.below bel3).alloc _) gb5
              exact ⟨(ownl.mono HSZ.out).alloc _, hl2.2.2.1, by have := (HOK.out).2.2; have := hl2.1; dsimp only at *; omega, hl2.1⟩
          · exact map_take_snoc (by omega) HKEY.out _ (by rw [HXX.out]; rfl)
          · intro j hj
            by_cases hjk : j = k
            · rw [hjk]; exact HVK.out
            · exact HVAL.out j (by omega)
          · refine ⟨?_, List.pairwise_append.2 ⟨HAP.out, List.pairwise_singleton _ _, fun x hx y hy b hb hb2 => (by
              obtain rfl : y = ⟨a', xn, c', xf, xl⟩ := by simpa using hy
              have g1 := ((KES.out x hx).1.lt b hb).2
              have g2 := (ownl.lt b hb2).1
              omega)⟩⟩
            intro x hx
            rcases List.mem_append.1 hx with hx | hx
            · exact HFF.out x hx
            · obtain rfl : x = ⟨a', xn, c', xf, xl⟩ := by simpa using hx
              refine ⟨erAt es k, by rw [erAt_get (by omega)]; exact List.getElem_mem _, by rw [HXX.out]⟩
          · exact ((KB.out.trans (bel3.mono (by exact HSZ.out))).alloc (Nat.le_trans HSZ.out bel3.size) _).grown gb5 (Nat.le_trans HSZ.out (Nat.le_trans bel3.size (by simp))) (fun b hb => by
              have h3 : g = b := Option.some.inj hb
              have := HO.out.cap.2.2.1
              omega))
        clear own5 gb5 bel3 ownl s3 s0 s5
        go_wp2_with fail
        go_roundw
        case rel => exact HNEW.out
        case measure => simp [intOf]; omega
    · have hkn : ¬ (k : Int) < (n : Int) := by omega
      obtain rfl : k = n := by omega
      have HKEY2 : Hid (fs.map Er.key = es.map Er.key) := Lib.hid (by rw [HKEY.out, List.take_of_length_le (by omega)])
      have HVAL2 : Hid ((es.map Er.key).all validK = true) := Lib.hid (by
        rw [List.all_eq_true]
        intro x hx
        obtain ⟨y, hy, rfl⟩ := List.mem_map.1 hx
        obtain ⟨i, hi, rfl⟩ := List.getElem_of_mem hy
        rw [← erAt_get hi]; exact HVAL.out i (by omega))
      have HSORT := Lib.hid (sort_rowE g fs.length fcap w.heap.size fs wr HO.out.wre rfl (by have := HFL.out; omega) (fun W hk e he => ((HES.out e he).kept HO.out hk).ok))
      obtain ⟨ms, hms⟩ : ∃ ms, ms = fs.mergeSort leE := ⟨_, rfl⟩
      rw [← hms] at HSORT
      have HML : Hid (ms.length = fs.length) := Lib.hid (by rw [hms, List.length_mergeSort])
      have HMK : Hid (ms.map Er.key = sortK (es.map Er.key)) := Lib.hid (by rw [hms, sort_key, HKEY2.out])
      have HMM : Hid (∀ e ∈ ms, e ∈ fs) := Lib.hid fun e he => by rw [hms] at he; exact List.mem_mergeSort.1 he
      have HAPM : Hid (ApartE ms) := Lib.hid (by
        rw [hms]
        exact ((List.mergeSort_perm fs leE).pairwise_iff (fun {x y} h b hb hb2 => h b hb2 hb)).2 HAP.out)
      clear hms hrw HVAL HKEY
      go_wp2_with (go_at_call 38; refine HSORT.out.mono ?_; rintro e w3 ⟨rfl, wre, kb⟩; have HW := Lib.hid wre; have HK := Lib.hid kb; clear wre kb)
      go_loopw [7] (DupRel ms w3) (fun v _ => ms.length - (intOf v).toNat)
      case atStart => exact ⟨1, rfl, by omega, .inr rfl, fun j h => by omega, Grn.refl _⟩
      case round =>
        obtain ⟨q1, rfl, hq1, hqm, hdis, gr⟩ := hrel
        have HD := Lib.hid hdis
        have HG := Lib.hid gr
        clear hdis gr
        obtain ⟨q, hq⟩ : ∃ q, q1 = q + 1 := ⟨q1 - 1, by omega⟩
        have HQ := Lib.hid hq
        have HEO : Hid (∀ e ∈ ms, ErOwn w.heap.size w3 e) := Lib.hid fun e he => (HES.out e (HMM.out e he)).kept HO.out HK.out
        have n2 : (0 : Int) ≤ (q1 : Int) := by omega
        have q2 : (0 : Int) ≤ (q : Int) := by omega
        have kq : (q1 : Int) - 1 = (q : Int) := by omega
        have kw : IntKind.i64.wrap (q : Int) = (q : Int) := by have := HML.out; have := HFL.out; rw [IntKind.wrap_i64]; omega
        by_cases hqk : q + 1 < ms.length
        · obtain ⟨x, hx⟩ : ∃ x, x = erAt ms q := ⟨_, rfl⟩
          obtain ⟨y, hy⟩ : ∃ y, y = erAt ms (q + 1) := ⟨_, rfl⟩
          have hxo : ErOk w3 x := by rw [hx, erAt_get (by omega)]; exact (HEO.out _ (List.getElem_mem _)).ok
          have hyo : ErOk w3 y := by rw [hy, erAt_get hqk]; exact (HEO.out _ (List.getElem_mem _)).ok
          have n3 : (q1 : Int) < (fs.length : Int) := by have := HML.out; omega
          have n5 : (fs.length : Int) ≤ 4398046511104 := by have := HFL.out; omega
          have n4 : (q : Int) < (fs.length : Int) := by have := HML.out; omega
          have hgl : g < wr.heap.size := by have := HW.out.1; have := HG.out.below.size; omega
          have x0 : ∀ n os, (grow (wr.drewN n) os).cell? ⟨g, q * 2, none⟩ = some (.slice x.a x.n x.c) := fun n os => by
            refine cell_grown hgl ?_ n os
            rw [HG.out.below.cell (p := ⟨g, q * 2, none⟩) HW.out.1]
            have := (HW.out.2 q (by omega) 0 (by omega)).1
            rw [Nat.zero_add, Nat.add_zero, ← hx] at this; exact this
          have y0 : ∀ n os, (grow (wr.drewN n) os).cell? ⟨g, q1 * 2, none⟩ = some (.slice y.a y.n y.c) := fun n os => by
            refine cell_grown hgl ?_ n os
            rw [HG.out.below.cell (p := ⟨g, q1 * 2, none⟩) HW.out.1, hq]
            have := (HW.out.2 (q + 1) hqk 0 (by omega)).1
            rw [Nat.zero_add, Nat.add_zero, ← hy] at this; exact this
          have HCMP : Hid (∀ n os, Calls Tryz.prog 40 #[.slice x.a x.n x.c, .slice y.a y.n y.c] (grow (wr.drewN n) os) fun e w' => e = .returned (.int .i64 (lcmp x.ls y.ls)) ∧ ∃ q os', w' = grow ((grow (wr.drewN n) os).drewN q) os') := Lib.hid fun n os =>
            lcompare_any _ _ _ _ _ _ _ _ _ (hxo.1.below (HG.out.trans ⟨n, os, rfl⟩).below) (hyo.1.below (HG.out.trans ⟨n, os, rfl⟩).below)
          have HXY : Hid (lcmp x.ls y.ls = lcmp (erAt ms q).ls (erAt ms (q + 1)).ls) := Lib.hid (by rw [hx, hy])
          have HLT := Lib.hid hqk
          obtain ⟨xa, xn, xc, xf, xl⟩ := x
          obtain ⟨ya, yn, yc, yf, yl⟩ := y
          dsimp only at x0 y0 HCMP HXY
          clear hx hy hxo hyo hq hgl hqk
          generalize lcmp xl yl = c at *
          by_cases hc0 : c = 0
          · subst hc0
            go_wp2_with fail
            have hmix : Tryz.prog.follows .mixedOrders = true := by kernel_rfl
            go_quiet_grown (first | (go_at_call 40; exact Calls.grown_of (HCMP.out _ _)))
            go_wp2_with fail
            go_ret2
            unfold VecRet vecK
            rw [← HMK.out, noDup_no HLT.out HXY.out.symm, Bool.and_false]
            exact ⟨rfl, (HB.out.trans ((KeptButF.below HK.out HO.out.cap.2.2.2).mono (HO.out.cap.2.2.1))).trans ((HG.out.trans ⟨nq, osq, rfl⟩).below.mono (by have := HB.out.size; have := HK.out.size; omega))⟩
          · have hc2 : (c == 0) = false := by simpa using hc0
            go_wp2_with fail
            have hmix : Tryz.prog.follows .mixedOrders = true := by kernel_rfl
            go_quiet_grown (first | (go_at_call 40; exact Calls.grown_of (HCMP.out _ _)))
            go_wp2_with fail
            go_roundw
            case rel => exact ⟨q1 + 1, by first | rfl | (congr 1; omega), by omega, .inl (by have := HLT.out; have := HQ.out; omega), fun j hj => by
              by_cases hjq : j = q
              · rw [hjq, ← HXY.out]; exact hc0
              · exact HD.out j (by have := HQ.out; omega), HG.out.trans ⟨nq, osq, rfl⟩⟩
            case measure => simp [intOf]; have := HLT.out; have := HQ.out; omega
        · have n3 : ¬ (q1 : Int) < (fs.length : Int) := by have := HML.out; omega
          have HND : Hid (noDup (sortK (es.map Er.key)) = true) := Lib.hid (by
            rw [← HMK.out]; exact noDup_yes fun j hj => HD.out j (by omega))
          clear hq hqk
          go_wp2_with fail
          go_ret2
          unfold VecRet vecK
          rw [HND.out, HVAL2.out]
          have c5 := HO.out.cap
          refine ⟨g, fcap, ms, by rw [HML.out]; rfl, by rw [HML.out]; exact HCAP.out, by have := HML.out; have := HFL.out; omega, c5.2.2.1, ?_, ?_, HMK.out, ⟨fun x hx => HFF.out x (HMM.out x hx), HAPM.out⟩, ?_⟩
          · refine ⟨by have := HW.out.1; have := HG.out.below.size; omega, fun i hi c hc => ?_⟩
            have := HW.out.2 i hi c hc
            rw [HG.out.below.cell (p := ⟨g, 0 + i * 2 + c, none⟩) HW.out.1]
            refine ⟨this.1, ?_⟩
            have f := this.2
            unfold World.frozen? at *
            rw [HG.out.below.block g HW.out.1]; exact f
          · intro e he
            refine ⟨(HEO.out e he).below HG.out.below, fun hb => ?_⟩
            exact own_apart HO.out (HES.out e (HMM.out e he)).1 g rfl hb
          · exact (HB.out.trans ((KeptButF.below HK.out HO.out.cap.2.2.2).mono (HO.out.cap.2.2.1))).trans (HG.out.below.mono (by have := HB.out.size; have := HK.out.size; omega))

end Go.Proofs.YtmmfjknnbkcniaaGreatDoor

namespace Go.Proofs.YtmmfjknnbkcniaaGreatDoor
open Go.Fl Go.Rel Go.RowKit Go.Sort Go.Shelf Go.Stab Go.Lib
set_option linter.unusedSimpArgs false
set_option linter.unusedVariables false

end Go.Proofs.YtmmfjknnbkcniaaGreatDoor

namespace Go.Proofs.YtmmfjknnbkcniaaGreatDoor
open Go.Fl Go.Rel Go.RowKit Go.Sort Go.Shelf Go.Stab Go.Lib
set_option linter.unusedSimpArgs false
set_option linter.unusedVariables false

end Go.Proofs.YtmmfjknnbkcniaaGreatDoor
