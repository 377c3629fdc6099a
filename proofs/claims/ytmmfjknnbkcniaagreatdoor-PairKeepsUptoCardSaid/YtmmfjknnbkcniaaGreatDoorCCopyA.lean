/- copied: the copy lies in blocks of its own, each list of labels in one apart. -/
import Derived.Test.YtmmfjknnbkcniaaGreatDoorCMarkP
import Derived.Test.YtmmfjknnbkcniaaGreatDoorQ23
namespace Go.Proofs.YtmmfjknnbkcniaaGreatDoor
open Go.Fl Go.Rel Go.RowKit Go.Sort
set_option linter.unusedSimpArgs false
set_option linter.unusedVariables false

def CopyR (es : List Er) (w : World) (v3 v4 : Value) (wr : World) : Prop :=
  ∃ (j : Nat) (O : List Er), v4 = .int .i64 (j : Int) ∧ j ≤ es.length ∧ OwnE w.heap.size wr v3 O ∧ (∀ e ∈ O, ErOwn w.heap.size wr e) ∧ O.map Er.key = (es.take j).map Er.key ∧ ApartE O ∧ Below w.heap.size w wr
def CopyAp (es : List Er) (w : World) (e : Ending) (w' : World) : Prop :=
  ∃ v O, e = .returned v ∧ OwnE w.heap.size w' v O ∧ (∀ e ∈ O, ErOwn w.heap.size w' e) ∧ O.map Er.key = es.map Er.key ∧ ApartE O ∧ Below w.heap.size w w'
theorem apart_snoc {B : Nat} {w : World} {O : List Er} {x : Er} (h : ApartE O) (hok : ∀ e ∈ O, ErOwn B w e) (hx : ∀ b, ownE x = some b → w.heap.size ≤ b) : ApartE (O ++ [x]) := by
  unfold ApartE
  rw [List.pairwise_append]
  refine ⟨h, List.pairwise_singleton _ _, fun a ha y hy b hb => ?_⟩
  obtain rfl : y = x := by simpa using hy
  intro hyb
  have h1 := ((hok a ha).1.lt b hb).2
  have h2 := hx b hyb
  omega
set_option maxHeartbeats 8000000 in
set_option maxRecDepth 100000 in
theorem copiedA_any (a : Option Addr) (n cap : Nat) (es : List Er) (w : World) (hr : ERow w a n es) :
    Calls Tryz.prog 11 #[.slice a n cap] w (CopyAp es w) := by
  have HR := Lib.hid hr
  have hl := hr.1
  have n1 : (n : Int) ≤ 4398046511104 := by have := hr.2.1; omega
  clear hr
  go_enter Tryz.func11, Tryz.ntmps11
  go_wp2_with fail
  go_loopw [3, 4] (CopyR es w) (fun _ v _ => n - (intOf v).toNat)
  case atStart => exact ⟨0, [], rfl, by omega, ownE_nil _ _, fun e he => absurd he List.not_mem_nil, rfl, List.Pairwise.nil, Below.refl _ _⟩
  case round =>
    obtain ⟨j, O, rfl, hj, own, hok, hkey, hap, bel⟩ := hrel
    have HAP := Lib.hid hap
    have HO := Lib.hid own
    have HOK := Lib.hid hok
    have HKEY := Lib.hid hkey
    have HB := Lib.hid bel
    have HOL : Hid (O.length = j) := Lib.hid (by have := congrArg List.length hkey; simp at this; omega)
    have hrw := HR.out.below bel
    clear own hok hkey bel hap
    by_cases hlt : j < n
    · obtain ⟨b, off, rfl, hb, hc⟩ := hrw.2.2.2 (by omega)
      obtain ⟨x0, x1⟩ := hc j hlt
      have k1 : (0 : Int) ≤ (j : Int) := by omega
      have k2 : (j : Int) < (n : Int) := by omega
      have hyo : ErOk wr (erAt es j) := by rw [erAt_get (by omega)]; exact hrw.2.2.1 _ (List.getElem_mem _)
      generalize hxx : erAt es j = y at x0 x1 hyo
      have HXX := Lib.hid hxx
      obtain ⟨xa, xn, xc, xf, xl⟩ := y
      dsimp only at x0 x1
      have HYO := Lib.hid hyo
      have s0 : wr.drew.cell? ⟨b, off + j * 2, none⟩ = some (.slice xa xn xc) ∧ wr.drew.cell? ⟨b, off + j * 2 + 1, none⟩ = some (.float .f64 xf) := ⟨x0, x1⟩
      have HWD : Hid (Below w.heap.size w wr.drew) := Lib.hid (HB.out.drewN' 1)
      have KO : Hid (OwnE w.heap.size wr.drew u3 O) := Lib.hid (HO.out.drewN 1)
      have KOK : Hid (∀ e ∈ O, ErOwn w.heap.size wr.drew e) := Lib.hid fun e he => (HOK.out e he).below ((Below.refl _ wr).drewN' 1)
      have hbl : b < w.heap.size := by
        obtain ⟨b', o', e, h, _⟩ := HR.out.2.2.2 (by omega)
        cases e; exact h
      have HNE : Hid (some b ≠ u3.ownBlock) := Lib.hid (fun h => by have := (HO.out.lt b h.symm).1; omega)
      have HE0 : Hid (OwnL wr.drew.heap.size (wr.drew.alloc (.cells #[] 54)) (.slice (some ⟨wr.drew.heap.size, 0, none⟩) 0 0) []) := Lib.hid (empty_lb wr.drew _ (Nat.le_refl _))
      have hl2 := HYO.out.1.1
      dsimp only at hl2
      have hk2 := HYO.out.2.1
      have hn2 := HYO.out.2.2
      have HSM : Hid (SmallL xl ∧ xl.length ≤ 4398046511104) := Lib.hid ⟨HYO.out.1.2.2.1, by dsimp only at hn2; omega⟩
      clear hc hrw hxx hyo hbl
      cases xa with
      | none =>
        have hxc : xc = 0 := hk2.2 rfl
        have hxn : xn = 0 := by have := hk2.1; dsimp only at this; omega
        subst hxc hxn
        obtain rfl : xl = [] := by simpa using hl2
        clear hl2 hk2 hn2
        go_wp2_with fail
        go_region_held3 (fun w' => w'.cell? ⟨b, off + j * 2, none⟩ = some (.slice none 0 0) ∧ w'.cell? ⟨b, off + j * 2 + 1, none⟩ = some (.float .f64 xf)) (first | assumption | exact ⟨cell_oldL s0.1 _, cell_oldL s0.2 _⟩ | exact ⟨cell_oldL (cell_oldL s0.1 _) _, cell_oldL (cell_oldL s0.2 _) _⟩) (first | (refine step_append_lb0 rfl (.tmp 12) (.tmp 17) rfl _ _ _ rfl HE0.out rfl ?_) | (refine step_append_er rfl (.tmp 11) (.tmp 25) rfl w.heap.size _ O rfl ((KO.out.alloc _).alloc _) _ _ ⟨some ⟨wr.heap.size, 0, none⟩, 0, 0, xf, []⟩ rfl (by show (World.alloc _ _).cell? _ = _; rw [World.cell?_alloc_at _ _ _ _ (by simp)]; rfl) (by show (World.alloc _ _).cell? _ = _; rw [World.cell?_alloc_at _ _ _ _ (by simp)]; rfl) (by have := HOL.out; omega) (Nat.le_trans HWD.out.size (by simp; omega)) ?_; intro g2 cap2 w5 own5 gb5; have s5 : w5.cell? ⟨b, off + j * 2, none⟩ = some (.slice none 0 0) ∧ w5.cell? ⟨b, off + j * 2 + 1, none⟩ = some (.float .f64 xf) := ⟨gb5.cell (cell_oldL (cell_oldL s0.1 _) _) HNE.out, gb5.cell (cell_oldL (cell_oldL s0.2 _) _) HNE.out⟩))
        have b3 : Below wr.drew.heap.size wr.drew (wr.drew.alloc (.cells #[] 54)) := (Below.refl _ _).alloc (Nat.le_refl _) _
        have hgb : (((wr.drew.alloc (.cells #[] 54)).alloc (.cells #[.slice (some ⟨wr.heap.size, 0, none⟩) 0 0, .float .f64 xf] 34))).grownBy w5 u3.ownBlock := gb5
        clear gb5
        have gb5 := hgb
        generalize hw3 : wr.drew.alloc (.cells #[] 54) = w3 at *
        have HNEW : Hid (CopyR es w (.slice (some ⟨g2, 0, none⟩) (O.length + 1) cap2) (.int .i64 ((j : Int) + 1)) w5) := Lib.hid (by
          refine ⟨j + 1, O ++ [⟨some ⟨wr.heap.size, 0, none⟩, 0, 0, xf, []⟩], by first | rfl | (congr 1; omega), by omega, own5, ?_, map_take_snoc (by omega) HKEY.out _ (by rw [HXX.out]; rfl), apart_snoc HAP.out HOK.out (fun b hb => Nat.le_of_eq (by simpa [ownE, Value.ownBlock] using hb)), ((HWD.out.trans (b3.mono HWD.out.size)).alloc (Nat.le_trans HWD.out.size b3.size) _).grown gb5 (Nat.le_trans HWD.out.size (Nat.le_trans b3.size (by simp))) (fun b hb => (KO.out.lt b hb).1)⟩
          intro e he
          rcases List.mem_append.1 he with he | he
          · exact (((KOK.out e he).below b3).below ((Below.refl _ _).alloc (Nat.le_refl _) _)).grown ((KO.out.below b3).alloc _) gb5
          · obtain rfl : e = ⟨some ⟨wr.heap.size, 0, none⟩, 0, 0, xf, []⟩ := by simpa using he
            have ho : ErOwn w.heap.size w3 ⟨some ⟨wr.heap.size, 0, none⟩, 0, 0, xf, []⟩ := ⟨HE0.out.mono HWD.out.size, HSM.out.1, HSM.out.2, rfl⟩
            exact (ho.below ((Below.refl _ _).alloc (Nat.le_refl _) _)).grown ((KO.out.below b3).alloc _) gb5)
        clear own5 gb5 b3 s0 s5 x0 x1 hgb
        go_wp2_with fail
        go_roundw
        case rel => exact HNEW.out
        case measure => simp [intOf]; omega
      | some ad =>
        have HF : Hid (∀ i u, (xl.flatMap lbCells)[i]? = some u → (wr.drew.alloc (.cells #[] 54)).cell? (ad.add i) = some u) := Lib.hid fun i u hu => by
          by_cases h0 : 0 < xn
          · have hr2 := HYO.out.1.below (((Below.refl _ wr).drewN' 1).alloc (by exact Nat.le_refl _) (.cells #[] 54))
            obtain ⟨b', off', ha, _⟩ := hr2.2.2.2 h0
            cases ha
            exact hr2.flat h0 i u hu
          · have : xl = [] := List.length_eq_zero_iff.1 (by omega)
            subst this; simp at hu
        have hl3 := hl2
        clear hk2
        go_wp2_with fail
        go_region_held3 (fun w' => w'.cell? ⟨b, off + j * 2, none⟩ = some (.slice (some ad) xn xc) ∧ w'.cell? ⟨b, off + j * 2 + 1, none⟩ = some (.float .f64 xf)) (first | assumption | exact ⟨cell_oldL s3.1 _, cell_oldL s3.2 _⟩ | exact ⟨cell_oldL s0.1 _, cell_oldL s0.2 _⟩) (first | (refine step_append_lbs rfl (.tmp 12) (.tmp 17) rfl wr.drew.heap.size _ rfl HE0.out ad xn xc xl hl3 rfl HF.out hn2 (by simp) ?_; intro a' c' w3 ownl gb3; have b3 := HE0.out.grown ((Below.refl _ _).alloc (Nat.le_refl _) _) gb3 (by simp); have s3 : w3.cell? ⟨b, off + j * 2, none⟩ = some (.slice (some ad) xn xc) ∧ w3.cell? ⟨b, off + j * 2 + 1, none⟩ = some (.float .f64 xf) := ⟨cell_stayL s0.1 b3, cell_stayL s0.2 b3⟩) | (refine step_append_er rfl (.tmp 11) (.tmp 25) rfl w.heap.size _ O rfl ((KO.out.below b3).alloc _) _ _ ⟨a', xn, c', xf, xl⟩ rfl (by show (World.alloc _ _).cell? _ = _; rw [World.cell?_alloc_at _ _ _ _ (by rfl)]; rfl) (by show (World.alloc _ _).cell? _ = _; rw [World.cell?_alloc_at _ _ _ _ (by rfl)]; rfl) (by have := HOL.out; omega) (Nat.le_trans HWD.out.size (Nat.le_trans b3.size (by simp))) ?_; intro g2 cap2 w5 own5 gb5; have s5 : w5.cell? ⟨b, off + j * 2, none⟩ = some (.slice (some ad) xn xc) ∧ w5.cell? ⟨b, off + j * 2 + 1, none⟩ = some (.float .f64 xf) := ⟨gb5.cell (cell_oldL s3.1 _) HNE.out, gb5.cell (cell_oldL s3.2 _) HNE.out⟩))
        have HNEW : Hid (CopyR es w (.slice (some ⟨g2, 0, none⟩) (O.length + 1) cap2) (.int .i64 ((j : Int) + 1)) w5) := Lib.hid (by
          refine ⟨j + 1, O ++ [⟨a', xn, c', xf, xl⟩], by first | rfl | (congr 1; omega), by omega, own5, ?_, map_take_snoc (by omega) HKEY.out _ (by rw [HXX.out]; rfl), apart_snoc HAP.out HOK.out (x := ⟨a', xn, c', xf, xl⟩) (fun b hb => (ownl.lt b hb).1), ((HWD.out.trans (b3.mono HWD.out.size)).alloc (Nat.le_trans HWD.out.size b3.size) _).grown gb5 (Nat.le_trans HWD.out.size (Nat.le_trans b3.size (by simp))) (fun b hb => (KO.out.lt b hb).1)⟩
          intro e he
          rcases List.mem_append.1 he with he | he
          · exact (((KOK.out e he).below b3).below ((Below.refl _ _).alloc (Nat.le_refl _) _)).grown ((KO.out.below b3).alloc _) gb5
          · obtain rfl : e = ⟨a', xn, c', xf, xl⟩ := by simpa using he
            have ho : ErOwn w.heap.size w3 ⟨a', xn, c', xf, xl⟩ := ⟨ownl.mono HWD.out.size, HSM.out.1, HSM.out.2, hl3⟩
            exact (ho.below ((Below.refl _ _).alloc (Nat.le_refl _) _)).grown ((KO.out.below b3).alloc _) gb5)
        clear ownl gb3 s3 own5 gb5 b3 s0 s5 x0 x1
        go_wp2_with fail
        go_roundw
        case rel => exact HNEW.out
        case measure => simp [intOf]; omega
    · have hkn : ¬ (j : Int) < (n : Int) := by omega
      clear hrw
      go_wp2_with fail
      go_ret
      exact ⟨_, O, rfl, HO.out, HOK.out, by rw [HKEY.out, List.take_of_length_le (by omega)], HAP.out, HB.out⟩

end Go.Proofs.YtmmfjknnbkcniaaGreatDoor
