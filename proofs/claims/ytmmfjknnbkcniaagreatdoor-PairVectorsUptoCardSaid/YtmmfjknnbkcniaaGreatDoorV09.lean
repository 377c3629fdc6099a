/- slices.DeleteFunc with the closure of pair.told; pair.told. -/
import Derived.Test.YtmmfjknnbkcniaaGreatDoorV08
set_option maxHeartbeats 64000000
set_option maxRecDepth 100000
namespace Go.Fl
def outL (ns : List ByteArray) (on : Bool) (ls : List Lb) : List Lb := ls.filter fun l => !delB ns on l
theorem outL_snoc (ns : List ByteArray) (on : Bool) (ls : List Lb) {k : Nat} (h : k < ls.length) : outL ns on (ls.take (k + 1)) = outL ns on (ls.take k) ++ (if delB ns on ⟨nL ls k, vL ls k⟩ then [] else [⟨nL ls k, vL ls k⟩]) := by
 unfold outL nL vL
 rw [List.take_add_one, List.getElem?_eq_getElem h, List.filter_append, lbAt_get h]
 congr 1
 by_cases e : delB ns on ls[k]
 ·rw [if_pos e]; simp [e]
 ·rw [if_neg e]; simp [e]
theorem outL_all {ns : List ByteArray} {on : Bool} {ls : List Lb} (h : ∀ l ∈ ls, delB ns on l = false) : outL ns on ls = ls := by
 unfold outL
 exact List.filter_eq_self.2 fun l hl => by rw [h l hl]; rfl
theorem outL_len (ns : List ByteArray) (on : Bool) (ls : List Lb) : (outL ns on ls).length ≤ ls.length := List.length_filter_le ..
theorem outL_small (ns : List ByteArray) (on : Bool) {ls : List Lb} (h : SmallL ls) : SmallL (outL ns on ls) := small_sub h fun _ hl => (List.mem_filter.1 hl).1
theorem lbAt_set {l : List Lb} {i j : Nat} {b : Lb} (h : i < l.length) : lbAt (l.set i b) j = if i = j then b else lbAt l j := by
 unfold lbAt
 by_cases e : i = j
 ·subst e; simp [List.getD, h]
 ·simp [List.getD, e, List.getElem?_set_ne]
end Go.Fl
namespace Go.Proofs.YtmmfjknnbkcniaaGreatDoor
open Go.Fl Go.Rel Go.RowKit Go.Maps Go.WideMaps
set_option linter.unusedSimpArgs false
set_option linter.unusedVariables false
theorem slice_hiL (b off n cap k : Nat) (z : Int) (hz : z = (k : Int)) (hk : k ≤ cap) (w : World) : (Instr.slice 31 (.slice (some ⟨b, off, none⟩) n cap) none (some (.int .i64 z)) none).run Tryz.prog w = .ok (.slice (some ⟨b, off, none⟩) k cap) w := by
 have hs : ∀ w, (Go.sizeOf (Tryz.prog.elem 31)).run Tryz.prog w = .ok 2 w := fun w => by kernel_rfl
 have ht : Tryz.prog.underlying 31 = some (.slice (Tryz.prog.elem 31)) := by kernel_rfl
 subst hz
 rw [run_slice_h _ _ _ _ _ ht .i64 (k : Int) (by omega) (by omega), hs]
 simp [sliced]
 by_cases h : cap = 0
 ·simp [h]
 ·simp [Addr.add_lit]
theorem slice_loL (b off n cap k : Nat) (z : Int) (hz : z = (k : Int)) (hk : k ≤ n) (hc : k ≠ cap) (w : World) : (Instr.slice 31 (.slice (some ⟨b, off, none⟩) n cap) (some (.int .i64 z)) none none).run Tryz.prog w = .ok (.slice (some ⟨b, off + k * 2, none⟩) (n - k) (cap - k)) w := by
 have hs : ∀ w, (Go.sizeOf (Tryz.prog.elem 31)).run Tryz.prog w = .ok 2 w := fun w => by kernel_rfl
 have ht : Tryz.prog.underlying 31 = some (.slice (Tryz.prog.elem 31)) := by kernel_rfl
 subst hz
 rw [run_slice_l _ _ _ _ _ ht .i64 (k : Int) (by omega) (by omega), hs]
 have : ¬ cap = k := fun h => hc h.symm
 simp [sliced, Addr.add_lit]
 omega
theorem setCells_heap (g : Nat) : ∀ (vs : List Value) (i : Nat) (w : World) (k : Nat), k ≠ g → (w.setCells g i vs).heap[k]? = w.heap[k]?
 | [], _, _, _, _ => rfl
 | v :: r, i, w, k, h => by
  rw [World.setCells, setCells_heap g r (i + 1) _ k h]
  exact heap_setCell_other w ⟨g, i, none⟩ k v h
theorem setCells_size (g : Nat) : ∀ (vs : List Value) (i : Nat) (w : World), (w.setCells g i vs).heap.size = w.heap.size ∧ (w.setCells g i vs).os = w.os ∧ (w.setCells g i vs).tape = w.tape ∧ (w.setCells g i vs).output = w.output
 | [], _, _ => ⟨rfl, rfl, rfl, rfl⟩
 | v :: r, i, w => by
  rw [World.setCells]
  obtain ⟨h1, h2, h3, h4⟩ := setCells_size g r (i + 1) (w.setCell ⟨g, i, none⟩ v)
  exact ⟨by rw [h1]; simp, h2, h3, h4⟩
theorem below_setCells {B g : Nat} {z w : World} (h : Below B z w) (hg : B ≤ g) (vs : List Value) (i : Nat) : Below B z (w.setCells g i vs) := by
 obtain ⟨h1, h2, h3, h4⟩ := setCells_size g vs i w
 exact ⟨h2.trans h.os, h3.trans h.tape, h4.trans h.output, by rw [h1]; exact h.size, fun k hk => (setCells_heap g vs i w k (by omega)).trans (h.block k hk)⟩
theorem clear_lbs (w : World) (ty : TypeId) (b o n c : Nat) (hc : ∀ j, j < n * 2 → (w.cell? ⟨b, o + j, none⟩).isSome = true) (hf : ∀ j, w.frozen? ⟨b, j, none⟩ = false) (hn : 0 < n) :
  ∃ vs, (Builtin.clear_ #[31] ty #[.slice (some ⟨b, o, none⟩) n c]).run Tryz.prog w = .ok (.tuple #[]) (w.setCells b o vs) := by
 have hz : ∀ w, (zeroValue 54).run Tryz.prog w = .ok (.agg #[.string ⟨#[]⟩, .string ⟨#[]⟩]) w := fun w => by kernel_rfl
 have hzc : (Value.agg #[.string ⟨#[]⟩, .string ⟨#[]⟩]).cells = #[.string ⟨#[]⟩, .string ⟨#[]⟩] := by kernel_rfl
 refine ⟨(Builtin.zeroCells (Value.agg #[.string ⟨#[]⟩, .string ⟨#[]⟩]).cells n).toList, ?_⟩
 have hlen : (Builtin.zeroCells (Value.agg #[.string ⟨#[]⟩, .string ⟨#[]⟩]).cells n).toList.length = n * 2 := by
  rw [hzc]; simp [Builtin.zeroCells]
 have hone : ∀ v ∈ (Builtin.zeroCells (Value.agg #[.string ⟨#[]⟩, .string ⟨#[]⟩]).cells n).toList, v.oneCell' = true := by
  intro v hv
  rw [hzc] at hv
  simp only [Builtin.zeroCells, Array.toList_map, List.mem_map] at hv
  obtain ⟨i0, _, hi⟩ := hv
  have : v = .string ⟨#[]⟩ := by
   rw [← hi]
   show (#[Value.string ⟨#[]⟩, Value.string ⟨#[]⟩])[i0 % 2]! = _
   rcases (by omega : i0 % 2 = 0 ∨ i0 % 2 = 1) with h | h <;> rw [h] <;> rfl
  rw [this]; rfl
 have hst := run_storeCells_cells (P := Tryz.prog) b o (Builtin.zeroCells (Value.agg #[.string ⟨#[]⟩, .string ⟨#[]⟩]).cells n).toList 0 w (by rw [hlen]; simpa using hc) (by intro j hj; exact hf _) hone
 simp only [Nat.add_zero] at hst
 obtain ⟨m, rfl⟩ : ∃ m, n = m + 1 := ⟨n - 1, by omega⟩
 simp [Builtin.clear_, run_underlying Tryz.underlying31, hz, hst]
def DelRel (ns : List ByteArray) (on : Bool) (ls : List Lb) (g cap : Nat) (w0 : World) (v5 v6 : Value) (wr : World) : Prop :=
 ∃ (i j : Nat) (l : List Lb), v5 = .int .i64 (i : Int) ∧ v6 = .int .i64 (j : Int) ∧ i < j ∧ j ≤ ls.length ∧ l.length = ls.length ∧ l.take i = outL ns on (ls.take j) ∧ (∀ t, j ≤ t → lbAt l t = lbAt ls t) ∧ LBc wr g (cap * 2) (ls.length * 2) (l.flatMap lbCells) ∧ Below w0.heap.size w0 wr
theorem deleteF_any (g n cap : Nat) (ls : List Lb) (B : Nat) (m : Mt) (w0 w : World) (hc : Cap w0 B m) (hb : Below w0.heap.size w0 w) (ho : OwnL w0.heap.size w (.slice (some ⟨g, 0, none⟩) n cap) ls) (hs : SmallL ls) (hn : n ≤ 4398046511104) :
  Calls Tryz.prog 70 #[.slice (some ⟨g, 0, none⟩) n cap, .func (.func 71) #[] #[.pointer (some ⟨B, 0, none⟩)]] w fun e w' => ∃ k, e = .returned (.slice (some ⟨g, 0, none⟩) k cap) ∧ OwnL w0.heap.size w' (.slice (some ⟨g, 0, none⟩) k cap) (outL m.ns m.on ls) ∧ Below w0.heap.size w0 w' := by
 obtain ⟨hBg, hln, hnc, hcm, hlb⟩ := ho.lbc
 subst hln
 have hlt : g < w.heap.size := (ho.lt g rfl).2
 have hrow : LRow w (some ⟨g, 0, none⟩) ls.length ls := ⟨rfl, by omega, hs, fun h => ⟨g, 0, rfl, hlt, fun i hi => by
  have := hlb.cell (i := i) hi rfl
  rw [Nat.zero_add]; exact this⟩⟩
 have HC := qh hc
 have HB := qh hb
 have HO := qh ho
 have HLB := qh hlb
 have HG := qh hBg
 have HI := qh (indexF_any _ ls.length cap ls B m w hrow (hc.below hb))
 have n1 : (ls.length : Int) ≤ 4398046511104 := by omega
 have HM := qh hcm
 have HNC := qh hnc
 clear hc hb ho hlb hs hrow hBg hcm hnc
 by_cases hall : ∀ l ∈ ls, delB m.ns m.on l = false
 ·have HI2 := qh (HI.out.mono (R' := fun e w' => e = .returned (.int .i64 (-1)) ∧ Grn w w') fun e w' h => by
   rcases h with ⟨gr, ⟨he, _⟩ | ⟨k, hk, _, _, hy⟩⟩
   ·exact ⟨he, gr⟩
   ·have := hall (lbAt ls k) (by rw [lbAt_get hk]; exact List.getElem_mem _)
    have h2 : delB m.ns m.on (lbAt ls k) = true := hy
    rw [this] at h2; cases h2)
  have HE := qh (outL_all hall)
  clear hall HI
  go_enter Tryz.func70, Tryz.ntmps70
  go_wp2_with (go_at_call 104; refine HI2.out.mono ?_; rintro e w2 ⟨rfl, gr⟩; have GR := qh gr; clear gr)
  go_ret
  exact ⟨_, rfl, by rw [HE.out]; exact HO.out.below GR.out.below, HB.out.trans (GR.out.below.mono HB.out.size)⟩
 ·have HI2 := qh (HI.out.mono (R' := fun e w' => ∃ k : Nat, e = .returned (.int .i64 (k : Int)) ∧ k < ls.length ∧ DelRel m.ns m.on ls g cap w0 (.int .i64 (k : Int)) (.int .i64 ((k : Int) + 1)) w') fun e w' h => by
   rcases h with ⟨gr, ⟨he, hn⟩ | ⟨k0, hk0, he, hno, hyes⟩⟩
   ·exact absurd hn hall
   ·refine ⟨k0, he, hk0, k0, k0 + 1, ls, rfl, by first | rfl | (congr 1; omega), by omega, by omega, rfl, ?_, fun t _ => rfl, HLB.out.stay (gr.below.block g hlt), HB.out.trans (gr.below.mono HB.out.size)⟩
    rw [outL_snoc m.ns m.on ls hk0, if_pos hyes, List.append_nil, outL_all hno])
  clear HI hall hlt
  go_enter Tryz.func70, Tryz.ntmps70
  go_wp2_with (go_at_call 104; refine HI2.out.mono ?_; rintro e w2 ⟨k0, rfl, hk0, hst⟩; have HST := qh hst; clear hst; have k01 : ((k0 : Int) == -1) = false := beq_eq_false_iff_ne.2 (by omega); have k02 : IntKind.i64.wrap ((k0 : Int) + 1) = (k0 : Int) + 1 := (by rw [IntKind.wrap_i64]; omega))
  go_loopw [5, 6] (DelRel m.ns m.on ls g cap w0) (fun _ v _ => ls.length - (intOf v).toNat)
  case atStart => exact HST.out
  case round =>
   obtain ⟨i, j, l, rfl, rfl, hij, hj, hll, hdo, hto, hlb, bel⟩ := hrel
   have HL := qh hlb
   have HBW := qh bel
   have HDO := qh hdo
   have HTO := qh hto
   have HLL := qh hll
   clear hlb bel hdo hto hll
   have hgw : g < wr.heap.size := by
    obtain ⟨cur, h1, _⟩ := HL.out
    by_cases h : g < wr.heap.size
    ·exact h
    ·rw [Array.getElem?_eq_none (by omega)] at h1; cases h1
   by_cases hlt : j < ls.length
   ·have k1 : (0 : Int) ≤ (j : Int) := by omega
    have k2 : (j : Int) < (ls.length : Int) := by omega
    have k3 : (0 : Int) ≤ (i : Int) := by omega
    have k4 : (i : Int) < (ls.length : Int) := by omega
    have hjl : j < l.length := by have := HLL.out; omega
    have hil : i < l.length := by have := HLL.out; omega
    obtain ⟨x0, x1⟩ := HL.out.cell hjl HLL.out.symm
    have hxn : nL l j = nL ls j := by unfold nL; rw [HTO.out j (Nat.le_refl _)]
    have hxv : vL l j = vL ls j := by unfold vL; rw [HTO.out j (Nat.le_refl _)]
    rw [hxn] at x0
    rw [hxv] at x1
    have HE := qh (outL_snoc m.ns m.on ls hlt)
    have HGW := qh hgw
    have HIL := qh hil
    generalize hX : nL ls j = xn at *
    generalize hV : vL ls j = xv at *
    have HXX : Hid (lbAt ls j = ⟨xn, xv⟩) := qh (by rw [← hX, ← hV]; rfl)
    obtain ⟨W1, hW1⟩ : ∃ W1, W1 = wr.alloc (.cells #[.string xn, .string xv] 54) := ⟨_, rfl⟩
    have b1 : Below wr.heap.size wr W1 := by rw [hW1]; exact (Below.refl _ _).alloc (Nat.le_refl _) _
    have y0 : W1.cell? ⟨wr.heap.size, 0, none⟩ = some (.string xn) := by rw [hW1, World.cell?_alloc_at _ _ _ _ (by rfl)]; rfl
    have y1 : W1.cell? ⟨wr.heap.size, 1, none⟩ = some (.string xv) := by rw [hW1, World.cell?_alloc_at _ _ _ _ (by rfl)]; rfl
    have HB1 := qh b1
    have HY := qh (And.intro y0 y1)
    have HBG : Hid (Below w0.heap.size w0 W1) := qh (HBW.out.trans (b1.mono HBW.out.size))
    have HL1 : Hid (LBc W1 g (cap * 2) (ls.length * 2) (l.flatMap lbCells)) := qh (HL.out.stay (b1.block g hgw))
    have HG1 : Hid (g < W1.heap.size) := qh (Nat.lt_of_lt_of_le hgw b1.size)
    have HS := qh (struck_any B m ⟨xn, xv⟩ W1 (HC.out.below HBG.out))
    rw [hW1] at HS
    generalize delB m.ns m.on ⟨xn, xv⟩ = d at *
    clear b1 y0 y1 hX hV hxn hxv hjl hil hgw
    cases d
    ·go_wp2_with (go_at_call 71; refine HS.out.mono ?_; rintro e w3 ⟨rfl, gr⟩; rw [← hW1] at gr; have z0 := cell_stayL HY.out.1 gr.below; have z1 := cell_stayL HY.out.2 gr.below; have HL3 := qh (HL1.out.stay (gr.below.block g HG1.out)); obtain ⟨c0, c1⟩ := HL3.out.cell HIL.out HLL.out.symm; have f0 := HL3.out.frozen (i * 2); have f1 := HL3.out.frozen (i * 2 + 1); have HB3 := qh (HBG.out.trans (gr.below.mono HBG.out.size)); clear gr)
     have HN : Hid (DelRel m.ns m.on ls g cap w0 (.int .i64 ((i : Int) + 1)) (.int .i64 ((j : Int) + 1)) ((w3.setCell ⟨g, i * 2, none⟩ (.string xn)).setCell ⟨g, i * 2 + 1, none⟩ (.string xv))) := qh (by
      refine ⟨i + 1, j + 1, l.set i ⟨xn, xv⟩, by first | rfl | (congr 1; omega), by first | rfl | (congr 1; omega), by omega, by omega, by rw [List.length_set]; exact HLL.out, ?_, ?_, ?_, (HB3.out.setCell (p := ⟨g, i * 2, none⟩) HG.out _).setCell (p := ⟨g, i * 2 + 1, none⟩) HG.out _⟩
      ·rw [HE.out, List.take_add_one, List.take_set_of_le (Nat.le_refl _), HDO.out]
       simp [HIL.out]
      ·intro t ht
       rw [lbAt_set HIL.out, if_neg (by omega)]; exact HTO.out t (by omega)
      ·have := (HL3.out.set (i := i * 2) (.string xn)).set (i := i * 2 + 1) (.string xv)
       rw [← flat_set l i ⟨xn, xv⟩]; exact this)
     go_roundw
     case rel => exact HN.out
     case measure => simp [intOf]; omega
    ·go_wp2_with (go_at_call 71; refine HS.out.mono ?_; rintro e w3 ⟨rfl, gr⟩; rw [← hW1] at gr; have HL3 := qh (HL1.out.stay (gr.below.block g HG1.out)); have HB3 := qh (HBG.out.trans (gr.below.mono HBG.out.size)); clear gr)
     go_roundw
     case rel => exact ⟨i, j + 1, l, rfl, by first | rfl | (congr 1; omega), by omega, by omega, HLL.out, by rw [HE.out]; simp; exact HDO.out, fun t ht => HTO.out t (by omega), HL3.out, HB3.out⟩
     case measure => simp [intOf]; omega
   ·have hkn : ¬ (j : Int) < (ls.length : Int) := by omega
    have hs1 := slice_loL g 0 ls.length cap i (i : Int) rfl (by omega) (by have := HNC.out; omega)
    rw [Nat.zero_add] at hs1
    have hs2 := slice_hiL g 0 ls.length cap i (i : Int) rfl (by have := HNC.out; omega)
    have hcl : ∀ ty, ∃ vs, (Builtin.clear_ #[31] ty #[.slice (some ⟨g, i * 2, none⟩) (ls.length - i) (cap - i)]).run Tryz.prog wr = .ok (.tuple #[]) (wr.setCells g (i * 2) vs) := fun ty => clear_lbs wr ty g (i * 2) (ls.length - i) (cap - i) (by
     intro t ht
     obtain ⟨cur, h1, h2, h3⟩ := HL.out
     have hc2 := HNC.out
     unfold World.cell?
     simp only [h1]
     have hlt2 : i * 2 + t < cur.size := by omega
     simp [hlt2]) (fun t => HL.out.frozen t) (by omega)
    have HFIN : Hid (∀ vs, OwnL w0.heap.size (wr.setCells g (i * 2) vs) (.slice (some ⟨g, 0, none⟩) i cap) (outL m.ns m.on ls) ∧ Below w0.heap.size w0 (wr.setCells g (i * 2) vs)) := qh fun vs => by
     have hfl : outL m.ns m.on ls = l.take i := by rw [HDO.out, List.take_of_length_le (by omega)]
     refine ⟨?_, below_setCells HBW.out HG.out vs _⟩
     have h1 := HL.out.less (k := i * 2) (by omega)
     rw [flat_take] at h1
     have h2 := LBc.sets (by rw [lbCells_length]; simp; omega) vs (i * 2) wr (by omega) h1
     rw [hfl]
     exact h2.own HG.out (by have := HLL.out; simp; omega) (by have := HNC.out; omega) HM.out
    clear hgw
    obtain ⟨vs, hcl0⟩ : ∃ vs : TypeId → List Value, ∀ ty, (Builtin.clear_ #[31] ty #[.slice (some ⟨g, i * 2, none⟩) (ls.length - i) (cap - i)]).run Tryz.prog wr = .ok (.tuple #[]) (wr.setCells g (i * 2) (vs ty)) := ⟨fun ty => (hcl ty).choose, fun ty => (hcl ty).choose_spec⟩
    clear hcl
    go_wp2_with fail
    go_ret
    exact ⟨i, rfl, (HFIN.out _).1, (HFIN.out _).2⟩
end Go.Proofs.YtmmfjknnbkcniaaGreatDoor
