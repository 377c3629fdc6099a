/- weirlaw21's small functions. (Its walk of same was printed by tools/genlawa.py.) weirlaw21.copied, weirlaw21.elem: elements of the law's own. weirlaw21.elem: an element of the law's own. (Printed by tools/genlawc.py.) PairMixes: its closed part, reckoned. -/
import Derived.Test.YtmmfjknnbkcniaaGreatDoorV29
import Derived.Laws.StructEq
set_option maxHeartbeats 64000000
set_option maxRecDepth 100000
namespace Go.Proofs.YtmmfjknnbkcniaaGreatDoor
open Go.Fl Go.Rel Go.RowKit Go.Sort
set_option linter.unusedSimpArgs false
set_option linter.unusedVariables false
def SameLRel (n : Nat) (w : World) (v : Value) (wr : World) : Prop := ∃ k m : Nat, v = .int .i64 (k : Int) ∧ k ≤ n ∧ wr = w.drewN m
theorem sameLabels_yes (a b : Option Addr) (n ca cb : Nat) (ls : List Lb) (w : World) (ha : LRow w a n ls) (hb : LRow w b n ls) :
  Calls Tryz.prog 31 #[.slice a n ca, .slice b n cb] w fun e w' => e = .returned (.bool true) ∧ ∃ m, w' = w.drewN m := by
 have HA := qh ha
 have HB := qh hb
 have n1 : (n : Int) ≤ 9223372036854775807 := by have := ha.2.1; omega
 clear ha hb
 go_enter Tryz.func31, Tryz.ntmps31
 go_wp2_with fail
 go_loopw [5] (SameLRel n w) (fun v _ => n - (intOf v).toNat)
 case atStart => exact ⟨0, 0, rfl, by omega, rfl⟩
 case round =>
  obtain ⟨k, m, rfl, hk, rfl⟩ := hrel
  by_cases hlt : k < n
  ·have k1 : (0 : Int) ≤ (k : Int) := by omega
   have k2 : (k : Int) < (n : Int) := by omega
   obtain ⟨ba, oa, rfl, hba, hca⟩ := HA.out.2.2.2 (by omega)
   obtain ⟨bb, ob, rfl, hbb, hcb⟩ := HB.out.2.2.2 (by omega)
   obtain ⟨x0, x1⟩ := hca k hlt
   obtain ⟨y0, y1⟩ := hcb k hlt
   generalize nL ls k = N at *
   generalize vL ls k = V at *
   have hq : ∀ W, (binOp .neq 54 (.agg #[.string N, .string V]) (.agg #[.string N, .string V])).run Tryz.prog W = .ok (.bool false) W := fun W => by
    simp [go_sem]
   clear hca hcb
   go_wp2_with fail
   go_quiet (fail)
   go_wp2_with fail
   go_roundw
   case rel => exact ⟨k + 1, _, by first | rfl | (congr 1; omega), by omega, by first | rfl | (simp only [World.drewN_drewN]; rfl)⟩
   case measure => simp [intOf]; omega
  ·have hkn : ¬ (k : Int) < (n : Int) := by omega
   go_wp2_with fail
   go_ret
   exact ⟨rfl, m, rfl⟩
theorem same_yes (a b : Option Addr) (n ca cb : Nat) (es fs : List Er) (w : World) (ha : ERow w a n es) (hb : ERow w b n fs) (hk : es.map (fun x => clK x.key) = fs.map (fun x => clK x.key)) :
  Calls Tryz.prog 16 #[.slice a n ca, .slice b n cb] w fun e w' => e = .returned (.bool true) ∧ ∃ m, w' = w.drewN m := by
 have HA := qh ha
 have HB := qh hb
 have hl := ha.1
 have hl2 := hb.1
 have n1 : (n : Int) ≤ 4398046511104 := by have := ha.2.1; omega
 have HK : Hid (∀ i, i < n → clK (erAt es i).key = clK (erAt fs i).key) := qh fun i hi => by
  have h1 : (es.map (fun x => clK x.key))[i]'(by simp; omega) = (fs.map (fun x => clK x.key))[i]'(by simp; omega) := by simp only [hk]
  simp only [List.getElem_map] at h1
  rw [erAt_get (by omega), erAt_get (by omega)]; exact h1
 clear ha hb hk
 go_enter Tryz.func16, Tryz.ntmps16
 go_wp2_with fail
 go_loopw [5] (SameLRel n w) (fun v _ => n - (intOf v).toNat)
 case atStart => exact ⟨0, 0, rfl, by omega, rfl⟩
 case round =>
  obtain ⟨k, m, rfl, hk, rfl⟩ := hrel
  by_cases hlt : k < n
  ·have k1 : (0 : Int) ≤ (k : Int) := by omega
   have k2 : (k : Int) < (n : Int) := by omega
   have BM : Hid (∀ m, Below w.heap.size w (w.drewN m)) := qh fun m => (Below.refl _ w).drewN' m
   obtain ⟨ba, oa, rfl, hba, hca⟩ := HA.out.2.2.2 (by omega)
   obtain ⟨bb, ob, rfl, hbb, hcb⟩ := HB.out.2.2.2 (by omega)
   obtain ⟨x0, x1⟩ := hca k hlt
   obtain ⟨y0, y1⟩ := hcb k hlt
   have hkk := HK.out k hlt
   have hxo : ErOk w (erAt es k) := by rw [erAt_get (by omega)]; exact HA.out.2.2.1 _ (List.getElem_mem _)
   have hyo : ErOk w (erAt fs k) := by rw [erAt_get (by omega)]; exact HB.out.2.2.1 _ (List.getElem_mem _)
   generalize erAt es k = x at *
   generalize erAt fs k = y at *
   obtain ⟨xa, xn, xc, xf, xl⟩ := x
   obtain ⟨ya, yn, yc, yf, yl⟩ := y
   have e1 : xl = yl := congrArg Prod.fst hkk
   have e2 : cn xf = cn yf := congrArg Prod.snd hkk
   subst e1
   have e3 : xn = yn := by have h1 := hxo.1.1; have h2 := hyo.1.1; dsimp only at h1 h2; omega
   subst e3
   have HAL : Hid (∀ W, Calls Tryz.prog 30 #[.float .f64 xf, .float .f64 yf] W fun e w' => e = .returned (.bool true) ∧ W = w') := qh fun W =>
    (alike21_any xf yf W).mono fun e w' ⟨h1, h2⟩ => ⟨by rw [h1, beq_iff_eq.2 e2], h2⟩
   have HSL : Hid (∀ nd, Calls Tryz.prog 31 #[.slice xa xn xc, .slice ya xn yc] ((w.drewN m).drewN nd) fun e w' => e = .returned (.bool true) ∧ ∃ q, w' = ((w.drewN m).drewN nd).drewN q) := qh fun nd =>
    sameLabels_yes xa ya xn xc yc xl _ ((hxo.1.below (BM.out m)).below ((Below.refl _ _).drewN' nd)) ((hyo.1.below (BM.out m)).below ((Below.refl _ _).drewN' nd))
   dsimp only at x0 x1 y0 y1
   clear hca hcb hkk hxo hyo e2
   go_wp2_with fail
   refine wp_region_rel (fun wd => ∃ nd, wd = (w.drewN m).drewN nd) (fun _ _ v => v = .bool true) (by kernel_rfl) (by kernel_rfl) (by repeat (first | exact ⟨_, rfl⟩ | refine drew_class _ _ ?_ | refine drewN_class _ _ _ ?_)) (LidK.out ?_)
   iterate 10 (refine wpRel_guardK (by rfl) (by kernel_rfl) ?_; intro K hK; have hK2 := LidK.mk hK; clear hK; go_big_quiet_step (fail); refine wpQuiet_nil ?_; refine hK2.out _ ?_; clear hK2 K)
   refine wpRel_callK 30 Tryz.f30 _ _ #[.float .f64 xf, .float .f64 yf] (by kernel_rfl) Tryz.func30 (by kernel_rfl) (by kernel_rfl) (by simp only [List.map_toArray, List.map]; rfl) (fun wd hd => by
    obtain ⟨nd, rfl⟩ := hd
    exact (HAL.out _).mono fun e w4 ⟨g1, g2⟩ => ⟨_, g1, rfl, ⟨nd, g2.symm⟩⟩) ?_
   rintro v hv
   obtain rfl : v = .bool true := hv
   intro K hK
   have hK2 := LidK.mk hK
   clear hK
   go_big_quiet_step (fail)
   refine wpQuiet_nil ?_
   refine hK2.out _ ?_
   clear hK2 K
   iterate 12 (refine wpRel_guardK (by rfl) (by kernel_rfl) ?_; intro K hK; have hK2 := LidK.mk hK; clear hK; go_big_quiet_step (fail); refine wpQuiet_nil ?_; refine hK2.out _ ?_; clear hK2 K)
   refine wpRel_callK 31 Tryz.f31 _ _ #[.slice xa xn xc, .slice ya xn yc] (by kernel_rfl) Tryz.func31 (by kernel_rfl) (by kernel_rfl) (by simp only [List.map_toArray, List.map]; rfl) (fun wd hd => by
    obtain ⟨nd, rfl⟩ := hd
    exact (HSL.out nd).mono fun e w4 ⟨g1, q, g2⟩ => ⟨_, g1, rfl, ⟨nd + q, by rw [g2, World.drewN_drewN]⟩⟩) ?_
   rintro v hv
   obtain rfl : v = .bool true := hv
   intro K hK
   have hK2 := LidK.mk hK
   clear hK
   go_big_quiet_step (fail)
   refine wpQuiet_nil ?_
   refine hK2.out _ ?_
   clear hK2 K
   iterate 2 (refine wpRel_guardK (by rfl) (by kernel_rfl) ?_; intro K hK; have hK2 := LidK.mk hK; clear hK; go_big_quiet_step (fail); refine wpQuiet_nil ?_; refine hK2.out _ ?_; clear hK2 K)
   refine LidK.mk (wpRel_nil ?_)
   rintro w3 ⟨m3, rfl⟩
   go_wp2_with fail
   go_roundw
   case rel => exact ⟨k + 1, _, by first | rfl | (congr 1; omega), by omega, by first | rfl | (simp only [World.drewN_drewN]; rfl)⟩
   case measure => simp [intOf]; omega
  ·have hkn : ¬ (k : Int) < (n : Int) := by omega
   go_wp2_with fail
   go_ret
   exact ⟨rfl, m, rfl⟩
end Go.Proofs.YtmmfjknnbkcniaaGreatDoor
namespace Go.Proofs.YtmmfjknnbkcniaaGreatDoor
open Go.Fl Go.Rel Go.RowKit Go.Sort
set_option linter.unusedSimpArgs false
set_option linter.unusedVariables false
theorem OwnL.slice {B : Nat} {w : World} {v : Value} {ls : List Lb} (h : OwnL B w v ls) : ∃ a c, v = .slice a ls.length c := by
 rcases h.form with ⟨rfl, rfl⟩ | ⟨g, cap, rfl, _⟩
 ·exact ⟨none, 0, rfl⟩
 ·exact ⟨_, _, rfl⟩
theorem step_append_lbs {ops : Array Oper} {o : Oper} {a : Act} {w : World} {K : Act → World → Prop} {Q : Exit → Act → World → Prop} {F : Prop} (hgd : o.guard = none) (s x : Operand)
  (ho : o.op = .call { callee := .builtin .append, args := #[s, x], argTypes := #[31, 31] })
  (B : Nat) (v : Value) (hs : a.eval s = v) (hown : OwnL B w v []) (ad : Addr) (m c : Nat) (ys : List Lb) (hm : ys.length = m) (hx : a.eval x = .slice (some ad) m c)
  (hy : ∀ j u, (ys.flatMap lbCells)[j]? = some u → w.cell? (ad.add j) = some u)
  (hb : m ≤ 4398046511104) (hB : B ≤ w.heap.size)
  (h : ∀ a' c' w', OwnL B w' (.slice a' m c') ys → w.grownBy w' v.ownBlock → K (a.put o.dst (.slice a' m c')) w') :
  if Region.wanted o (yielded ops a.tmps) = true then Oper.wp Tryz.prog o a w K Q else F := by
 have hw : Region.wanted o (yielded ops a.tmps) = true := by simp [Region.wanted, hgd]
 rw [if_pos hw]
 obtain ⟨i0, hi, hz0, hz1, hz2⟩ := info_parts info_lb
 obtain ⟨v', w', hr, h2, h3, h4, h5⟩ := run_append_own_at (P := Tryz.prog) w B 31 o.type 54 i0 (.agg #[.string ⟨#[]⟩, .string ⟨#[]⟩]) 2 32 Tryz.underlying31 hi hz0 hz1 hz2 rfl (by decide) v _ _ hown ad m c (ys.flatMap lbCells) (by rw [lbCells_length, hm]) hy (by
  intro u hu
  obtain ⟨y, _, hu⟩ := List.mem_flatMap.1 hu
  simp [lbCells] at hu; rcases hu with rfl | rfl <;> rfl) (by simp; unfold maxLen; omega) (by simp; omega) hB
 have ho2 : OwnL B w' v' ys := by
  unfold OwnL
  rw [hm]
  simpa using h2
 obtain ⟨a', c', rfl⟩ := ho2.slice
 rw [hm] at ho2 hr
 unfold Oper.wp execOp
 simp only [ho, resolve, invoke, builtin, Sem.run_bind, Sem.run_pure, Result.andThen_ok, List.map_toArray, List.map_cons, List.map_nil, hs, hx, hr]
 exact h _ _ _ ho2 h3
theorem step_append_lb0 {ops : Array Oper} {o : Oper} {a : Act} {w : World} {K : Act → World → Prop} {Q : Exit → Act → World → Prop} {F : Prop} (hgd : o.guard = none) (s x : Operand)
  (ho : o.op = .call { callee := .builtin .append, args := #[s, x], argTypes := #[31, 31] })
  (B : Nat) (v : Value) (ss : List Lb) (hs : a.eval s = v) (hown : OwnL B w v ss) (hx : a.eval x = .slice none 0 0)
  (h : K (a.put o.dst v) w) : if Region.wanted o (yielded ops a.tmps) = true then Oper.wp Tryz.prog o a w K Q else F := by
 have hw : Region.wanted o (yielded ops a.tmps) = true := by simp [Region.wanted, hgd]
 rw [if_pos hw]
 obtain ⟨i0, hi, hz0, hz1, hz2⟩ := info_parts info_lb
 have hr := run_append_owned_none (P := Tryz.prog) w B 31 o.type 54 i0 2 Tryz.underlying31 hi v _ _ hown
 unfold Oper.wp execOp
 simp only [ho, resolve, invoke, builtin, Sem.run_bind, Sem.run_pure, Result.andThen_ok, List.map_toArray, List.map_cons, List.map_nil, hs, hx, hr]
 exact h
def CopyE (es : List Er) (w : World) (v3 v4 : Value) (wr : World) : Prop :=
 ∃ (j : Nat) (O : List Er), v4 = .int .i64 (j : Int) ∧ j ≤ es.length ∧ OwnE w.heap.size wr v3 O ∧ (∀ e ∈ O, ErOwn w.heap.size wr e) ∧ O.map Er.key = (es.take j).map Er.key ∧ Below w.heap.size w wr
def CopyOf (es : List Er) (w : World) (e : Ending) (w' : World) : Prop :=
 ∃ a c O, e = .returned (.slice a O.length c) ∧ SlK a O.length c ∧ ERow w' a O.length O ∧ O.map Er.key = es.map Er.key ∧ Below w.heap.size w w'
theorem copied21_any (a : Option Addr) (n cap : Nat) (es : List Er) (w : World) (hr : ERow w a n es) :
  Calls Tryz.prog 11 #[.slice a n cap] w (CopyOf es w) := by
 have HR := qh hr
 have hl := hr.1
 have n1 : (n : Int) ≤ 4398046511104 := by have := hr.2.1; omega
 clear hr
 go_enter Tryz.func11, Tryz.ntmps11
 go_wp2_with fail
 go_loopw [3, 4] (CopyE es w) (fun _ v _ => n - (intOf v).toNat)
 case atStart => exact ⟨0, [], rfl, by omega, ownE_nil _ _, fun e he => absurd he List.not_mem_nil, rfl, Below.refl _ _⟩
 case round =>
  obtain ⟨j, O, rfl, hj, own, hok, hkey, bel⟩ := hrel
  have HO := qh own
  have HOK := qh hok
  have HKEY := qh hkey
  have HB := qh bel
  have HOL : Hid (O.length = j) := qh (by have := congrArg List.length hkey; simp at this; omega)
  have hrw := HR.out.below bel
  clear own hok hkey bel
  by_cases hlt : j < n
  ·obtain ⟨b, off, rfl, hb, hc⟩ := hrw.2.2.2 (by omega)
   obtain ⟨x0, x1⟩ := hc j hlt
   have k1 : (0 : Int) ≤ (j : Int) := by omega
   have k2 : (j : Int) < (n : Int) := by omega
   have hyo : ErOk wr (erAt es j) := by rw [erAt_get (by omega)]; exact hrw.2.2.1 _ (List.getElem_mem _)
   generalize hxx : erAt es j = y at x0 x1 hyo
   have HXX := qh hxx
   obtain ⟨xa, xn, xc, xf, xl⟩ := y
   dsimp only at x0 x1
   have HYO := qh hyo
   have s0 : wr.drew.cell? ⟨b, off + j * 2, none⟩ = some (.slice xa xn xc) ∧ wr.drew.cell? ⟨b, off + j * 2 + 1, none⟩ = some (.float .f64 xf) := ⟨x0, x1⟩
   have HWD : Hid (Below w.heap.size w wr.drew) := qh (HB.out.drewN' 1)
   have KO : Hid (OwnE w.heap.size wr.drew u3 O) := qh (HO.out.drewN 1)
   have KOK : Hid (∀ e ∈ O, ErOwn w.heap.size wr.drew e) := qh fun e he => (HOK.out e he).below ((Below.refl _ wr).drewN' 1)
   have hbl : b < w.heap.size := by
    obtain ⟨b', o', e, h, _⟩ := HR.out.2.2.2 (by omega)
    cases e; exact h
   have HNE : Hid (some b ≠ u3.ownBlock) := qh (fun h => by have := (HO.out.lt b h.symm).1; omega)
   have HE0 : Hid (OwnL wr.drew.heap.size (wr.drew.alloc (.cells #[] 54)) (.slice (some ⟨wr.drew.heap.size, 0, none⟩) 0 0) []) := qh (empty_lb wr.drew _ (Nat.le_refl _))
   have hl2 := HYO.out.1.1
   dsimp only at hl2
   have hk2 := HYO.out.2.1
   have hn2 := HYO.out.2.2
   have HSM : Hid (SmallL xl ∧ xl.length ≤ 4398046511104) := qh ⟨HYO.out.1.2.2.1, by dsimp only at hn2; omega⟩
   clear hc hrw hxx hyo hbl
   cases xa with
   | none =>
    have hxc : xc = 0 := hk2.2 rfl
    have hxn : xn = 0 := by have := hk2.1; dsimp only at this; omega
    subst hxc hxn
    obtain rfl : xl = [] := by simpa using hl2
    clear hl2 hk2 hn2
    go_wp2_with fail
    go_region_held3 (fun w' => w'.cell? ⟨b, off + j * 2, none⟩ = some (.slice none 0 0) ∧ w'.cell? ⟨b, off + j * 2 + 1, none⟩ = some (.float .f64 xf)) (first | assumption | exact ⟨cell_oldL s0.1 _, cell_oldL s0.2 _⟩ | exact ⟨cell_oldL (cell_oldL s0.1 _) _, cell_oldL (cell_oldL s0.2 _) _⟩) (first | (refine step_append_lb0 rfl (.tmp 12) (.tmp 17) rfl _ _ _ rfl HE0.out rfl ?_) | (refine step_append_er rfl (.tmp 11) (.tmp 25) rfl w.heap.size _ O rfl ((KO.out.alloc _).alloc _) _ _ ⟨some ⟨wr.heap.size, 0, none⟩, 0, 0, xf, []⟩ rfl (by show (World.alloc _ _).cell? _ = _; rw [World.cell?_alloc_at _ _ _ _ (by simp)]; rfl) (by show (World.alloc _ _).cell? _ = _; rw [World.cell?_alloc_at _ _ _ _ (by simp)]; rfl) (by have := HOL.out; omega) (Nat.le_trans HWD.out.size (by simp; omega)) ?_; intro g2 cap2 w5 own5 gb5; have s5 : w5.cell? ⟨b, off + j * 2, none⟩ = some (.slice none 0 0) ∧ w5.cell? ⟨b, off + j * 2 + 1, none⟩ = some (.float .f64 xf) := ⟨gb5.cell (cell_oldL (cell_oldL s0.1 _) _) HNE.out, gb5.cell (cell_oldL (cell_oldL s0.2 _) _) HNE.out⟩))
    have b3 : Below wr.drew.heap.size wr.drew (wr.drew.alloc (.cells #[] 54)) := (Below.refl _ _).alloc (Nat.le_refl _) _
    have hgb : (((wr.drew.alloc (.cells #[] 54)).alloc (.cells #[.slice (some ⟨wr.heap.size, 0, none⟩) 0 0, .float .f64 xf] 34))).grownBy w5 u3.ownBlock := gb5
    clear gb5
    have gb5 := hgb
    generalize hw3 : wr.drew.alloc (.cells #[] 54) = w3 at *
    have HNEW : Hid (CopyE es w (.slice (some ⟨g2, 0, none⟩) (O.length + 1) cap2) (.int .i64 ((j : Int) + 1)) w5) := qh (by
     refine ⟨j + 1, O ++ [⟨some ⟨wr.heap.size, 0, none⟩, 0, 0, xf, []⟩], by first | rfl | (congr 1; omega), by omega, own5, ?_, map_take_snoc (by omega) HKEY.out _ (by rw [HXX.out]; rfl), ((HWD.out.trans (b3.mono HWD.out.size)).alloc (Nat.le_trans HWD.out.size b3.size) _).grown gb5 (Nat.le_trans HWD.out.size (Nat.le_trans b3.size (by simp))) (fun b hb => (KO.out.lt b hb).1)⟩
     intro e he
     rcases List.mem_append.1 he with he | he
     ·exact (((KOK.out e he).below b3).below ((Below.refl _ _).alloc (Nat.le_refl _) _)).grown ((KO.out.below b3).alloc _) gb5
     ·obtain rfl : e = ⟨some ⟨wr.heap.size, 0, none⟩, 0, 0, xf, []⟩ := by simpa using he
      have ho : ErOwn w.heap.size w3 ⟨some ⟨wr.heap.size, 0, none⟩, 0, 0, xf, []⟩ := ⟨HE0.out.mono HWD.out.size, HSM.out.1, HSM.out.2, rfl⟩
      exact (ho.below ((Below.refl _ _).alloc (Nat.le_refl _) _)).grown ((KO.out.below b3).alloc _) gb5)
    clear own5 gb5 b3 s0 s5 x0 x1 hgb
    go_wp2_with fail
    go_roundw
    case rel => exact HNEW.out
    case measure => simp [intOf]; omega
   | some ad =>
    have HF : Hid (∀ i u, (xl.flatMap lbCells)[i]? = some u → (wr.drew.alloc (.cells #[] 54)).cell? (ad.add i) = some u) := qh fun i u hu => by
     by_cases h0 : 0 < xn
     ·have hr2 := HYO.out.1.below (((Below.refl _ wr).drewN' 1).alloc (by exact Nat.le_refl _) (.cells #[] 54))
      obtain ⟨b', off', ha, _⟩ := hr2.2.2.2 h0
      cases ha
      exact hr2.flat h0 i u hu
     ·have : xl = [] := List.length_eq_zero_iff.1 (by omega)
      subst this; simp at hu
    have hl3 := hl2
    clear hk2
    go_wp2_with fail
    go_region_held3 (fun w' => w'.cell? ⟨b, off + j * 2, none⟩ = some (.slice (some ad) xn xc) ∧ w'.cell? ⟨b, off + j * 2 + 1, none⟩ = some (.float .f64 xf)) (first | assumption | exact ⟨cell_oldL s3.1 _, cell_oldL s3.2 _⟩ | exact ⟨cell_oldL s0.1 _, cell_oldL s0.2 _⟩) (first | (refine step_append_lbs rfl (.tmp 12) (.tmp 17) rfl wr.drew.heap.size _ rfl HE0.out ad xn xc xl hl3 rfl HF.out hn2 (by simp) ?_; intro a' c' w3 ownl gb3; have b3 := HE0.out.grown ((Below.refl _ _).alloc (Nat.le_refl _) _) gb3 (by simp); have s3 : w3.cell? ⟨b, off + j * 2, none⟩ = some (.slice (some ad) xn xc) ∧ w3.cell? ⟨b, off + j * 2 + 1, none⟩ = some (.float .f64 xf) := ⟨cell_stayL s0.1 b3, cell_stayL s0.2 b3⟩) | (refine step_append_er rfl (.tmp 11) (.tmp 25) rfl w.heap.size _ O rfl ((KO.out.below b3).alloc _) _ _ ⟨a', xn, c', xf, xl⟩ rfl (by show (World.alloc _ _).cell? _ = _; rw [World.cell?_alloc_at _ _ _ _ (by rfl)]; rfl) (by show (World.alloc _ _).cell? _ = _; rw [World.cell?_alloc_at _ _ _ _ (by rfl)]; rfl) (by have := HOL.out; omega) (Nat.le_trans HWD.out.size (Nat.le_trans b3.size (by simp))) ?_; intro g2 cap2 w5 own5 gb5; have s5 : w5.cell? ⟨b, off + j * 2, none⟩ = some (.slice (some ad) xn xc) ∧ w5.cell? ⟨b, off + j * 2 + 1, none⟩ = some (.float .f64 xf) := ⟨gb5.cell (cell_oldL s3.1 _) HNE.out, gb5.cell (cell_oldL s3.2 _) HNE.out⟩))
    have HNEW : Hid (CopyE es w (.slice (some ⟨g2, 0, none⟩) (O.length + 1) cap2) (.int .i64 ((j : Int) + 1)) w5) := qh (by
     refine ⟨j + 1, O ++ [⟨a', xn, c', xf, xl⟩], by first | rfl | (congr 1; omega), by omega, own5, ?_, map_take_snoc (by omega) HKEY.out _ (by rw [HXX.out]; rfl), ((HWD.out.trans (b3.mono HWD.out.size)).alloc (Nat.le_trans HWD.out.size b3.size) _).grown gb5 (Nat.le_trans HWD.out.size (Nat.le_trans b3.size (by simp))) (fun b hb => (KO.out.lt b hb).1)⟩
     intro e he
     rcases List.mem_append.1 he with he | he
     ·exact (((KOK.out e he).below b3).below ((Below.refl _ _).alloc (Nat.le_refl _) _)).grown ((KO.out.below b3).alloc _) gb5
     ·obtain rfl : e = ⟨a', xn, c', xf, xl⟩ := by simpa using he
      have ho : ErOwn w.heap.size w3 ⟨a', xn, c', xf, xl⟩ := ⟨ownl.mono HWD.out.size, HSM.out.1, HSM.out.2, hl3⟩
      exact (ho.below ((Below.refl _ _).alloc (Nat.le_refl _) _)).grown ((KO.out.below b3).alloc _) gb5)
    clear ownl gb3 s3 own5 gb5 b3 s0 s5 x0 x1
    go_wp2_with fail
    go_roundw
    case rel => exact HNEW.out
    case measure => simp [intOf]; omega
  ·have hkn : ¬ (j : Int) < (n : Int) := by omega
   obtain ⟨ao, co, hvo, hso, hro⟩ := HO.out.row (fun e he => (HOK.out e he).ok) (by have := HOL.out; omega)
   subst hvo
   have HH := qh (And.intro hso hro)
   clear hso hro hrw
   go_wp2_with fail
   go_ret
   exact ⟨ao, co, O, rfl, HH.out.1, HH.out.2, by rw [HKEY.out, List.take_of_length_le (by omega)], HB.out⟩
end Go.Proofs.YtmmfjknnbkcniaaGreatDoor
namespace Go.Proofs.YtmmfjknnbkcniaaGreatDoor
open Go.Fl Go.Rel Go.RowKit Go.Sort
set_option linter.unusedSimpArgs false
set_option linter.unusedVariables false
def nmA : ByteArray := ⟨#[97]⟩
def ElemRet (ls : List Lb) (v : Nat) (w : World) (e : Ending) (w' : World) : Prop :=
 ∃ a c, e = .returned (.agg #[.slice a ls.length c, .float .f64 v]) ∧ ErOwn w.heap.size w' ⟨a, ls.length, c, v, ls⟩ ∧ Below w.heap.size w w'
theorem is_setRow {w : World} {B g : Nat} {cs : Array Value} {t : TypeId} (h : Bk.Is w B cs t) (hne : B ≠ g) (vs : Array Value) : Bk.Is (w.setRow g vs) B cs t := by
 unfold Bk.Is World.setRow at *
 simp [Array.getElem?_modify, h]
 intro e; exact absurd e.symm hne
theorem small_one {n v : ByteArray} (hn : SmallT n) (hv : SmallT v) : SmallL [⟨n, v⟩] := by
 intro i
 match i with
 | 0 => exact ⟨hn, hv⟩
 | i + 1 => exact ⟨by show SmallT ⟨#[]⟩; unfold SmallT; decide, by show SmallT ⟨#[]⟩; unfold SmallT; decide⟩
theorem small_two {n v n2 v2 : ByteArray} (hn : SmallT n) (hv : SmallT v) (hn2 : SmallT n2) (hv2 : SmallT v2) : SmallL [⟨n, v⟩, ⟨n2, v2⟩] := by
 intro i
 match i with
 | 0 => exact ⟨hn, hv⟩
 | 1 => exact ⟨hn2, hv2⟩
 | i + 2 => exact ⟨by show SmallT ⟨#[]⟩; unfold SmallT; decide, by show SmallT ⟨#[]⟩; unfold SmallT; decide⟩
theorem smallA : SmallT nmA := by unfold SmallT; decide
theorem smallMN : SmallT MN := by unfold SmallT; decide
theorem elem_none (A : ByteArray) (v : Nat) (w : World) (hA : SmallT A) :
  Calls Tryz.prog 12 #[.string ⟨#[]⟩, .string A, .float .f64 v] w (ElemRet [⟨nmA, A⟩] v w) := by
 have HA := qh hA
 have H70 : Hid (Bk.Is ((w.alloc (.cells #[.slice none 0 0, .float .f64 0] 34)).alloc (.cells #[.slice none 0 0, .float .f64 0] 34)) (w.heap.size + 1) #[.slice none 0 0, .float .f64 0] 34) := qh (by
  have := Bk.Is.made (w.alloc (.cells #[.slice none 0 0, .float .f64 0] 34)) #[.slice none 0 0, .float .f64 0] 34
  rw [show (w.alloc (.cells #[.slice none 0 0, .float .f64 0] 34)).heap.size = w.heap.size + 1 by simp] at this; exact this)
 have H60 : Hid (Bk.Is ((w.alloc (.cells #[.slice none 0 0, .float .f64 0] 34)).alloc (.cells #[.slice none 0 0, .float .f64 0] 34)) w.heap.size #[.slice none 0 0, .float .f64 0] 34) := qh ((Bk.Is.made w #[.slice none 0 0, .float .f64 0] 34).alloc _)
 have HW0 : Hid (Below w.heap.size w ((w.alloc (.cells #[.slice none 0 0, .float .f64 0] 34)).alloc (.cells #[.slice none 0 0, .float .f64 0] 34))) := qh (((Below.refl w.heap.size w).alloc (Nat.le_refl _) _).alloc (by simp) _)
 clear hA
 go_enter Tryz.func12, Tryz.ntmps12
 go_wp2_with (first
  | (refine Bk.is_store 34 rfl ?_; refine wpList_store_row rfl 34 _ _ rfl (w.heap.size + 1) #[.slice none 0 0, .float .f64 v] rfl rfl 34 _ H70.out (by kernel_rfl) rfl (by kernel_rfl) ?_; have hI : Bk.Is (((w.alloc (.cells #[.slice none 0 0, .float .f64 0] 34)).alloc (.cells #[.slice none 0 0, .float .f64 0] 34)).setRow (w.heap.size + 1) #[.slice none 0 0, .float .f64 v]) (w.heap.size + 1) #[.slice none 0 0, .float .f64 v] 34 := H70.out.setRow _; have h6 : Bk.Is (((w.alloc (.cells #[.slice none 0 0, .float .f64 0] 34)).alloc (.cells #[.slice none 0 0, .float .f64 0] 34)).setRow (w.heap.size + 1) #[.slice none 0 0, .float .f64 v]) w.heap.size #[.slice none 0 0, .float .f64 0] 34 := is_setRow H60.out (by omega) _; have hW : Below w.heap.size w (((w.alloc (.cells #[.slice none 0 0, .float .f64 0] 34)).alloc (.cells #[.slice none 0 0, .float .f64 0] 34)).setRow (w.heap.size + 1) #[.slice none 0 0, .float .f64 v]) := Bk.below_setRow HW0.out (Nat.le_succ _) _; generalize ((w.alloc (.cells #[.slice none 0 0, .float .f64 0] 34)).alloc (.cells #[.slice none 0 0, .float .f64 0] 34)).setRow (w.heap.size + 1) #[.slice none 0 0, .float .f64 v] = W at hI h6 hW ⊢; have HI7 := qh hI; have HI6 := qh h6; have HW := qh hW; have e0 := hI.cell 0; have f0 := hI.free 0; simp at e0; clear hI h6 hW)
  | (at_builtin; refine wpList_append_lb rfl (.tmp 20) (.tmp 23) rfl W.heap.size _ [] rfl (ownL_nil _ _) W.heap.size _ ⟨nmA, A⟩ rfl (by rw [World.cell?_alloc_at _ _ _ _ (by rfl)]; rfl) (by rw [World.cell?_alloc_at _ _ _ _ (by rfl)]; rfl) (by simp) (by simp) ?_; intro v' w' own' gb hv; obtain ⟨a', c', rfl⟩ := own'.slice; have b1 : Below W.heap.size W w' := ((ownL_nil W.heap.size (W.alloc _)).grown ((Below.refl W.heap.size W).alloc (Nat.le_refl _) _) gb (by simp)); have HJ7 := qh (HI7.out.below b1 HI7.out.lt); have HJ6 := qh (HI6.out.below b1 HI6.out.lt); have HOL : Hid (OwnL W.heap.size w' (.slice a' 1 c') [⟨nmA, A⟩]) := qh own'; have HB := qh (HW.out.trans (b1.mono HW.out.size)); have HS1 := qh b1.size; have d0 := HJ7.out.cell 0; have g0 := HJ7.out.free 0; simp at d0; clear own' gb hv b1 e0 f0; have hk7 : Bk.Is (w'.setCell ⟨w.heap.size + 1, 0, none⟩ (.slice a' 1 c')) (w.heap.size + 1) #[.slice a' 1 c', .float .f64 v] 34 := HJ7.out.set 0 _; have HK7 := qh hk7; have HK6 : Hid (Bk.Is (w'.setCell ⟨w.heap.size + 1, 0, none⟩ (.slice a' 1 c')) w.heap.size #[.slice none 0 0, .float .f64 0] 34) := qh (HJ6.out.other (by show w.heap.size + 1 ≠ w.heap.size; omega) _); have x0 := hk7.cell 0; have x1 := hk7.cell 1; simp at x0 x1; clear hk7)
  | (refine Bk.is_store 34 rfl ?_; refine wpList_store_row rfl 34 _ _ rfl w.heap.size #[.slice a' 1 c', .float .f64 v] rfl rfl 34 _ HK6.out (by kernel_rfl) rfl (by kernel_rfl) ?_))
 refine Bk.ret_block (HK6.out.setRow _) rfl rfl Tryz.underlying34 rfl (by kernel_rfl) rfl ?_
 have hlt := HI7.out.lt
 refine ⟨a', c', rfl, ⟨((HOL.out.setCell hlt).setRow (by omega) _).mono HW.out.size, small_one smallA HA.out, by simp, rfl⟩, Bk.below_setRow (HB.out.setCell (p := ⟨w.heap.size + 1, 0, none⟩) (Nat.le_succ _) _) (Nat.le_refl _) _⟩
theorem elem_some (N A : ByteArray) (v : Nat) (w : World) (hN : SmallT N) (hA : SmallT A) (hne : N.toList.isEmpty = false) :
  Calls Tryz.prog 12 #[.string N, .string A, .float .f64 v] w (ElemRet [⟨MN, N⟩, ⟨nmA, A⟩] v w) := by
 have HA := qh hA
 have HN := qh hN
 have H70 : Hid (Bk.Is ((w.alloc (.cells #[.slice none 0 0, .float .f64 0] 34)).alloc (.cells #[.slice none 0 0, .float .f64 0] 34)) (w.heap.size + 1) #[.slice none 0 0, .float .f64 0] 34) := qh (by
  have := Bk.Is.made (w.alloc (.cells #[.slice none 0 0, .float .f64 0] 34)) #[.slice none 0 0, .float .f64 0] 34
  rw [show (w.alloc (.cells #[.slice none 0 0, .float .f64 0] 34)).heap.size = w.heap.size + 1 by simp] at this; exact this)
 have H60 : Hid (Bk.Is ((w.alloc (.cells #[.slice none 0 0, .float .f64 0] 34)).alloc (.cells #[.slice none 0 0, .float .f64 0] 34)) w.heap.size #[.slice none 0 0, .float .f64 0] 34) := qh ((Bk.Is.made w #[.slice none 0 0, .float .f64 0] 34).alloc _)
 have HW0 : Hid (Below w.heap.size w ((w.alloc (.cells #[.slice none 0 0, .float .f64 0] 34)).alloc (.cells #[.slice none 0 0, .float .f64 0] 34))) := qh (((Below.refl w.heap.size w).alloc (Nat.le_refl _) _).alloc (by simp) _)
 clear hA hN
 go_enter Tryz.func12, Tryz.ntmps12
 go_wp2_with (first
  | (refine Bk.is_store 34 rfl ?_; refine wpList_store_row rfl 34 _ _ rfl (w.heap.size + 1) #[.slice none 0 0, .float .f64 v] rfl rfl 34 _ H70.out (by kernel_rfl) rfl (by kernel_rfl) ?_; have hI : Bk.Is (((w.alloc (.cells #[.slice none 0 0, .float .f64 0] 34)).alloc (.cells #[.slice none 0 0, .float .f64 0] 34)).setRow (w.heap.size + 1) #[.slice none 0 0, .float .f64 v]) (w.heap.size + 1) #[.slice none 0 0, .float .f64 v] 34 := H70.out.setRow _; have h6 : Bk.Is (((w.alloc (.cells #[.slice none 0 0, .float .f64 0] 34)).alloc (.cells #[.slice none 0 0, .float .f64 0] 34)).setRow (w.heap.size + 1) #[.slice none 0 0, .float .f64 v]) w.heap.size #[.slice none 0 0, .float .f64 0] 34 := is_setRow H60.out (by omega) _; have hW : Below w.heap.size w (((w.alloc (.cells #[.slice none 0 0, .float .f64 0] 34)).alloc (.cells #[.slice none 0 0, .float .f64 0] 34)).setRow (w.heap.size + 1) #[.slice none 0 0, .float .f64 v]) := Bk.below_setRow HW0.out (Nat.le_succ _) _; generalize ((w.alloc (.cells #[.slice none 0 0, .float .f64 0] 34)).alloc (.cells #[.slice none 0 0, .float .f64 0] 34)).setRow (w.heap.size + 1) #[.slice none 0 0, .float .f64 v] = W at hI h6 hW ⊢; have HI7 := qh hI; have HI6 := qh h6; have HW := qh hW; have e0 := hI.cell 0; have f0 := hI.free 0; simp at e0; clear hI h6 hW)
  | (at_builtin; refine wpList_append_lb rfl (.tmp 13) (.tmp 16) rfl W.heap.size _ [] rfl (ownL_nil _ _) W.heap.size _ ⟨MN, N⟩ rfl (by rw [World.cell?_alloc_at _ _ _ _ (by rfl)]; rfl) (by rw [World.cell?_alloc_at _ _ _ _ (by rfl)]; rfl) (by simp) (by simp) ?_; intro v' w' own' gb hv; obtain ⟨a', c', rfl⟩ := own'.slice; have b1 : Below W.heap.size W w' := ((ownL_nil W.heap.size (W.alloc _)).grown ((Below.refl W.heap.size W).alloc (Nat.le_refl _) _) gb (by simp)); have HJ7 := qh (HI7.out.below b1 HI7.out.lt); have HJ6 := qh (HI6.out.below b1 HI6.out.lt); have HOL : Hid (OwnL W.heap.size w' (.slice a' 1 c') [⟨MN, N⟩]) := qh own'; have HB := qh (HW.out.trans (b1.mono HW.out.size)); have HS1 := qh b1.size; have d0 := HJ7.out.cell 0; have g0 := HJ7.out.free 0; simp at d0; clear own' gb hv b1 e0 f0; have hk7 : Bk.Is (w'.setCell ⟨w.heap.size + 1, 0, none⟩ (.slice a' 1 c')) (w.heap.size + 1) #[.slice a' 1 c', .float .f64 v] 34 := HJ7.out.set 0 _; have HK7 := qh hk7; have HK6 : Hid (Bk.Is (w'.setCell ⟨w.heap.size + 1, 0, none⟩ (.slice a' 1 c')) w.heap.size #[.slice none 0 0, .float .f64 0] 34) := qh (HJ6.out.other (by show w.heap.size + 1 ≠ w.heap.size; omega) _); have HOS := qh (OwnL.setCell (i := 0) (u := .slice a' 1 c') HOL.out HI7.out.lt); have HBS := qh (HB.out.setCell (p := ⟨w.heap.size + 1, 0, none⟩) (Nat.le_succ _) (.slice a' 1 c')); have x0 := hk7.cell 0; have x1 := hk7.cell 1; simp at x0 x1; clear hk7)
  | (at_builtin; refine wpList_append_lb rfl (.tmp 20) (.tmp 23) rfl W.heap.size _ [⟨MN, N⟩] rfl (HOS.out.alloc _) w'.heap.size _ ⟨nmA, A⟩ rfl (by rw [World.cell?_alloc_at _ _ _ _ (by simp)]; rfl) (by rw [World.cell?_alloc_at _ _ _ _ (by simp)]; rfl) (by simp) (by have := HS1.out; simp; omega) ?_; intro v2' w2' own2' gb2 hv2; obtain ⟨a2', c2', rfl⟩ := own2'.slice; have b2 : Below W.heap.size (w'.setCell ⟨w.heap.size + 1, 0, none⟩ (.slice a' 1 c')) w2' := ((HOS.out.alloc _).grown ((Below.refl W.heap.size _).alloc (by have := HS1.out; simp; omega) _) gb2 (by have := HS1.out; simp; omega)); have hm7 := HK7.out.below b2 HI7.out.lt; have hm6 := HK6.out.below b2 HI6.out.lt; have HO2 : Hid (OwnL W.heap.size w2' (.slice a2' 2 c2') [⟨MN, N⟩, ⟨nmA, A⟩]) := qh own2'; have HB2 := qh (HBS.out.trans (b2.mono HW.out.size)); have q0 := hm7.cell 0; have r0 := hm7.free 0; simp at q0; have hk8 : Bk.Is (w2'.setCell ⟨w.heap.size + 1, 0, none⟩ (.slice a2' 2 c2')) (w.heap.size + 1) #[.slice a2' 2 c2', .float .f64 v] 34 := hm7.set 0 _; have HK6 : Hid (Bk.Is (w2'.setCell ⟨w.heap.size + 1, 0, none⟩ (.slice a2' 2 c2')) w.heap.size #[.slice none 0 0, .float .f64 0] 34) := qh (hm6.other (by show w.heap.size + 1 ≠ w.heap.size; omega) _); have y0 := hk8.cell 0; have y1 := hk8.cell 1; simp at y0 y1; clear own2' gb2 hv2 b2 hm7 hm6 x0 x1)
  | (refine Bk.is_store 34 rfl ?_; refine wpList_store_row rfl 34 _ _ rfl w.heap.size #[.slice a2' 2 c2', .float .f64 v] rfl rfl 34 _ HK6.out (by kernel_rfl) rfl (by kernel_rfl) ?_))
 refine Bk.ret_block (HK6.out.setRow _) rfl rfl Tryz.underlying34 rfl (by kernel_rfl) rfl ?_
 have hlt := HI7.out.lt
 refine ⟨a2', c2', rfl, ⟨((HO2.out.setCell hlt).setRow (by omega) _).mono HW.out.size, small_two smallMN HN.out smallA HA.out, by simp, rfl⟩, Bk.below_setRow (HB2.out.setCell (p := ⟨w.heap.size + 1, 0, none⟩) (Nat.le_succ _) _) (Nat.le_refl _) _⟩
end Go.Proofs.YtmmfjknnbkcniaaGreatDoor
namespace Go.Proofs.YtmmfjknnbkcniaaGreatDoor
open Go.Fl Go.Rel Go.RowKit Go.Sort
set_option linter.unusedSimpArgs false
set_option linter.unusedVariables false
def txtUp : ByteArray := ⟨#[117, 112]⟩
def txt1 : ByteArray := ⟨#[49]⟩
theorem valid_a : validK ([⟨nmA, txt1⟩], 0) = true := by decide +kernel
theorem vec_one (k : Ek) (h : validK k = true) : vecK [k] = some [k] := by
 unfold vecK sortK
 simp [h, noDup]
theorem set_one (k : Ek) (h : validK k = true) : setE [k] = 0 ∧ setV [k] = [k] := by
 unfold setE setV; rw [vec_one k h]; exact ⟨rfl, rfl⟩
theorem erow_one {w w1 : World} {e : Er} (h : ErOwn w.heap.size w1 e) : ERow (w1.alloc (.cells #[.slice e.a e.n e.c, .float .f64 e.f] 34)) (some ⟨w1.heap.size, 0, none⟩) 1 [e] := by
 refine ⟨rfl, by omega, fun x hx => ?_, fun _ => ⟨w1.heap.size, 0, rfl, by simp, fun i hi => ?_⟩⟩
 ·obtain rfl : x = e := by simpa using hx
  exact (h.below ((Below.refl _ _).alloc (Nat.le_refl _) _)).ok
 ·obtain rfl : i = 0 := by omega
  exact ⟨by rw [World.cell?_alloc_at _ _ _ _ (by rfl)]; rfl, by rw [World.cell?_alloc_at _ _ _ _ (by rfl)]; rfl⟩
end Go.Proofs.YtmmfjknnbkcniaaGreatDoor
