/- A list of samples that a call appends to: its own row. weirlaw20.copied: a window anew, moved in time. -/
import Derived.Test.YtoeldcgclaiokaaSamp
import Derived.Maps.AppendAt
import Derived.Deep.AppendLies
import Derived.Deep.RegionLaw
import Derived.WalkKit
import Derived.ProofKit
import Derived.Test.YtoeldcgclaiokaaWinA
import Derived.OwnWalk
namespace Go.Proofs.Ytoeldcgclaiokaa
open Go.Fl Go.Rel Go.RowKit

def smpCells (s : Smp) : List Value := [.int .i64 s.t, .float .f64 s.v, .bool s.s]

theorem smpCells_length (ss : List Smp) : (ss.flatMap smpCells).length = ss.length * 3 := by
  induction ss with
  | nil => rfl
  | cons s ss ih => rw [List.flatMap_cons, List.length_append, ih]; simp [smpCells]; omega

theorem smpCells_get (ss : List Smp) (i c : Nat) (hi : i < ss.length) (hc : c < 3) : (ss.flatMap smpCells)[i * 3 + c]? = (smpCells (sAt ss i))[c]? := by
  induction ss generalizing i with
  | nil => simp at hi
  | cons s ss ih =>
    rw [List.flatMap_cons]
    cases i with
    | zero =>
      rw [List.getElem?_append_left (by simp [smpCells]; omega)]
      simp [sAt]
    | succ i =>
      rw [List.getElem?_append_right (by simp [smpCells]; omega)]
      have e : (i + 1) * 3 + c - (smpCells s).length = i * 3 + c := by simp [smpCells]; omega
      rw [e, ih i (by simpa using hi)]
      rfl

/-- A list under way: it lies in blocks from B on, and holds ss. -/
def OwnS (B : Nat) (w : World) (v : Value) (ss : List Smp) : Prop := w.ownsRow B 45 3 v ss.length (ss.flatMap smpCells)

theorem ownS_nil (B : Nat) (w : World) : OwnS B w (.slice none 0 0) [] := World.ownsRow_nil _ _ _ _
theorem OwnS.drewN {B : Nat} {w : World} {v : Value} {ss : List Smp} (h : OwnS B w v ss) (n : Nat) : OwnS B (w.drewN n) v ss := h
theorem OwnS.alloc {B : Nat} {w : World} {v : Value} {ss : List Smp} (h : OwnS B w v ss) (o : Obj) : OwnS B (w.alloc o) v ss := World.ownsRow.alloc h o

theorem OwnS.row {B : Nat} {w : World} {v : Value} {ss : List Smp} (h : OwnS B w v ss) (hb : ∀ i, -9223372036854775808 ≤ tS ss i ∧ tS ss i ≤ 9223372036854775807) : ∃ a cap, v = .slice a ss.length cap ∧ SRow w a ss.length ss := by
  have h0 := h
  obtain ⟨h1, h2⟩ := h
  rcases h2 with ⟨rfl, hn⟩ | ⟨g, cap, cur, rfl, hg, hbb, hn, hcap, hs, ht⟩
  · exact ⟨none, 0, by rw [hn], ⟨rfl, by omega, hb, fun h => by omega⟩⟩
  · refine ⟨_, _, rfl, rfl, by unfold maxLen at hcap; omega, hb, fun _ => ⟨g, 0, rfl, fun i hi => ?_⟩⟩
    have key : ∀ c u, c < 3 → (smpCells (sAt ss i))[c]? = some u → w.cell? ⟨g, 0 + i * 3 + c, none⟩ = some u := fun c u hc hu => by
      have := World.ownsRow.cells h0 (g := g) rfl (i * 3 + c) u (by rw [smpCells_get ss i c hi hc]; exact hu)
      rw [show (⟨g, 0, none⟩ : Addr).add (i * 3 + c) = ⟨g, 0 + i * 3 + c, none⟩ by unfold Addr.add; split <;> simp_all] at this
      exact this
    exact ⟨key 0 _ (by omega) rfl, key 1 _ (by omega) rfl, key 2 _ (by omega) rfl⟩

theorem info_smp : (Try.prog.info? 45).map (fun i => (i.zero, i.size, i.bytes)) = some (some (.agg #[.int .i64 0, .float .f64 0, .bool false]), 3, 24) := by kernel_rfl

/-- One sample more. -/
theorem wpList_append_s {ops : Array Oper} {rest : List Oper} {o : Oper} {a : Act} {Q : Exit → Act → World → Prop} {w : World} (hgd : o.guard = none) (s x : Operand)
    (ho : o.op = .call { callee := .builtin .append, args := #[s, x], argTypes := #[28, 28] })
    (B : Nat) (v : Value) (ss : List Smp) (hs : a.eval s = v) (hown : OwnS B w v ss) (b c : Nat) (y : Smp) (hx : a.eval x = .slice (some ⟨b, 0, none⟩) 1 c)
    (hy : w.cell? ⟨b, 0, none⟩ = some (.int .i64 y.t) ∧ w.cell? ⟨b, 1, none⟩ = some (.float .f64 y.v) ∧ w.cell? ⟨b, 2, none⟩ = some (.bool y.s))
    (hb : ss.length < 5864062014805) (hB : B ≤ w.heap.size)
    (h : ∀ v' w', OwnS B w' v' (ss ++ [y]) → w.grownBy w' v.ownBlock → (v'.ownBlock = v.ownBlock ∨ v'.ownBlock = some w.heap.size) → wpList Try.prog ops Q rest (a.put o.dst v') w') :
    wpList Try.prog ops Q (o :: rest) a w := by
  obtain ⟨i0, hi, hz0, hz1, hz2⟩ := info_parts info_smp
  refine wpList_append_own_at w hgd s x 28 ho B 45 i0 (.agg #[.int .i64 0, .float .f64 0, .bool false]) 3 24 Try.underlying28 hi hz0 hz1 hz2 rfl (by decide) v _ _ hs hown ⟨b, 0, none⟩ 1 c (smpCells y) hx rfl ?_ ?_ ?_ ?_ hB ?_
  · intro j u hj
    match j, hj with
    | 0, hj => simp [smpCells] at hj; subst hj; exact hy.1
    | 1, hj => simp [smpCells] at hj; subst hj; exact hy.2.1
    | 2, hj => simp [smpCells] at hj; subst hj; exact hy.2.2
  · intro u hu; simp [smpCells] at hu; rcases hu with rfl | rfl | rfl <;> rfl
  · unfold maxLen; omega
  · omega
  · intro v' w' h1 h2 _ h4
    refine h v' w' ?_ h2 h4
    unfold OwnS
    rw [List.length_append, List.flatMap_append]
    simpa using h1

/-- .. as one step of a region that draws its order. -/
theorem step_append_smp {ops : Array Oper} {o : Oper} {a : Act} {w : World} {K : Act → World → Prop} {Q : Exit → Act → World → Prop} {E : Prop} (hgd : o.guard = none) (s x : Operand)
    (ho : o.op = .call { callee := .builtin .append, args := #[s, x], argTypes := #[28, 28] })
    (B : Nat) (v : Value) (ss : List Smp) (hs : a.eval s = v) (hown : OwnS B w v ss) (b c : Nat) (y : Smp) (hx : a.eval x = .slice (some ⟨b, 0, none⟩) 1 c)
    (hy : w.cell? ⟨b, 0, none⟩ = some (.int .i64 y.t) ∧ w.cell? ⟨b, 1, none⟩ = some (.float .f64 y.v) ∧ w.cell? ⟨b, 2, none⟩ = some (.bool y.s))
    (hb : ss.length < 5864062014805) (hB : B ≤ w.heap.size)
    (h : ∀ g cap w', OwnS B w' (.slice (some ⟨g, 0, none⟩) (ss.length + 1) cap) (ss ++ [y]) → w.grownBy w' v.ownBlock → K (a.put o.dst (.slice (some ⟨g, 0, none⟩) (ss.length + 1) cap)) w') :
    if Region.wanted o (yielded ops a.tmps) = true then Oper.wp Try.prog o a w K Q else E := by
  obtain ⟨i0, hi, hz0, hz1, hz2⟩ := info_parts info_smp
  refine step_append_lies w hgd s x 28 ho B 45 i0 (.agg #[.int .i64 0, .float .f64 0, .bool false]) 3 24 Try.underlying28 hi hz0 hz1 hz2 rfl (by decide) v _ _ hs hown ⟨b, 0, none⟩ 1 c (smpCells y) hx rfl ?_ ?_ (by decide) ?_ ?_ hB w.heap.size rfl ?_
  · intro j u hj
    match j, hj with
    | 0, hj => simp [smpCells] at hj; subst hj; exact hy.1
    | 1, hj => simp [smpCells] at hj; subst hj; exact hy.2.1
    | 2, hj => simp [smpCells] at hj; subst hj; exact hy.2.2
  · intro u hu; simp [smpCells] at hu; rcases hu with rfl | rfl | rfl <;> rfl
  · unfold maxLen; omega
  · omega
  · intro g cap w' h1 h2 _ h4
    refine h g cap w' ?_ h2
    unfold OwnS
    rw [List.length_append, List.flatMap_append]
    simpa using h1

theorem OwnS.below {B : Nat} {w0 w w' : World} {v : Value} {ss : List Smp} (h : OwnS B w v ss) (hb : Below B w0 w) (hg : w.grownBy w' v.ownBlock) (hB : B ≤ w.heap.size) : Below B w0 w' :=
  hb.grown hg hB fun k hk => (World.ownsRow.lt h k hk).1

end Go.Proofs.Ytoeldcgclaiokaa

namespace Go.Proofs.Ytoeldcgclaiokaa
open Go.Fl Go.Rel Go.RowKit
set_option linter.unusedVariables false
set_option linter.unusedSimpArgs false

def cpS (d : Int) (s : Smp) : Smp := ⟨wrap64 (s.t + d), s.v, s.s⟩
theorem tS_cp (d : Int) (ss : List Smp) {i : Nat} (h : i < ss.length) : tS (ss.map (cpS d)) i = wrap64 (tS ss i + d) := by
  unfold tS sAt
  simp only [List.getD, List.getElem?_map, List.getElem?_eq_getElem h, Option.map_some, Option.getD_some]
  rfl
theorem tS_out (ss : List Smp) {i : Nat} (h : ¬ i < ss.length) : tS ss i = 0 := by
  unfold tS sAt
  rw [List.getD, List.getElem?_eq_none (by omega)]; rfl
theorem tS_cpb (d : Int) (ss : List Smp) (i : Nat) : -9223372036854775808 ≤ tS (ss.map (cpS d)) i ∧ tS (ss.map (cpS d)) i ≤ 9223372036854775807 := by
  by_cases h : i < ss.length
  · rw [tS_cp d ss h]; unfold wrap64; omega
  · rw [tS_out _ (by simpa using h)]; omega
theorem take_snoc_cp (d : Int) (ss : List Smp) (k : Nat) (h : k < ss.length) : (ss.take (k + 1)).map (cpS d) = (ss.take k).map (cpS d) ++ [cpS d (sAt ss k)] := by
  rw [List.take_add_one, List.getElem?_eq_getElem h, List.map_append]; simp [sAt, List.getD, h]

theorem cells_made2 (w : World) (o : Obj) (t : Int) (v : Nat) (s : Bool) :
    ((w.alloc o).alloc (.cells #[.int .i64 t, .float .f64 v, .bool s] 45)).cell? ⟨w.heap.size + 1, 0, none⟩ = some (.int .i64 t) ∧ ((w.alloc o).alloc (.cells #[.int .i64 t, .float .f64 v, .bool s] 45)).cell? ⟨w.heap.size + 1, 1, none⟩ = some (.float .f64 v) ∧
    ((w.alloc o).alloc (.cells #[.int .i64 t, .float .f64 v, .bool s] 45)).cell? ⟨w.heap.size + 1, 2, none⟩ = some (.bool s) := by
  have h := Bk.Is.made (w.alloc o) #[.int .i64 t, .float .f64 v, .bool s] 45
  rw [show (w.alloc o).heap.size = w.heap.size + 1 by simp] at h
  exact ⟨by rw [h.cell]; rfl, by rw [h.cell]; rfl, by rw [h.cell]; rfl⟩

theorem OwnS.setRow {B : Nat} {w : World} {v : Value} {ss : List Smp} (h : OwnS B w v ss) {k : Nat} (hk : k < B) (vs : Array Value) : OwnS B (w.setRow k vs) v ss := by
  obtain ⟨h1, h2⟩ := h
  refine ⟨h1, ?_⟩
  rcases h2 with h | ⟨g, cap, cur, e1, hg, h3, h⟩
  · exact .inl h
  · refine .inr ⟨g, cap, cur, e1, hg, ?_, h⟩
    unfold World.setRow
    simp [Array.getElem?_modify, h3]
    intro e; omega

def CpRel (d : Int) (ss : List Smp) (n B : Nat) (w : World) (v5 i : Value) (wr : World) : Prop :=
  ∃ k, k ≤ n ∧ i = .int .i64 (k : Int) ∧ OwnS B wr v5 ((ss.take k).map (cpS d)) ∧ Below B w wr
def CopyRet (d : Int) (ss : List Smp) (F T N : Int) (w : World) (e : Ending) (w' : World) : Prop :=
  ∃ v, e = .returned (.agg #[v, .int .i64 (wrap64 (F + d)), .int .i64 (wrap64 (T + d)), .int .i64 (wrap64 (N + d))]) ∧ OwnS w.heap.size w' v (ss.map (cpS d)) ∧ Below w.heap.size w w'

theorem OwnS.weak {B C : Nat} {w : World} {v : Value} {ss : List Smp} (h : OwnS B w v ss) (hB : C ≤ B) : OwnS C w v ss := by
  obtain ⟨h1, h2⟩ := h
  refine ⟨h1, ?_⟩
  rcases h2 with h | ⟨g, cap, cur, e1, hg, h⟩
  · exact .inl h
  · exact .inr ⟨g, cap, cur, e1, by omega, h⟩

set_option maxHeartbeats 4000000 in
set_option maxRecDepth 100000 in
theorem copied_any (a : Option Addr) (n cap : Nat) (ss : List Smp) (F T N d : Int) (w : World) (hr : SRow w a n ss) (hn : n < 5864062014805) :
    Calls Try.prog 21 #[.agg #[.slice a n cap, .int .i64 F, .int .i64 T, .int .i64 N], .int .i64 d] w (CopyRet d ss F T N w) := by
  have hl := hr.1
  obtain ⟨W1, hW1⟩ : ∃ W1, W1 = (w.alloc (.cells #[.slice a n cap, .int .i64 F, .int .i64 T, .int .i64 N] 30)).alloc (.cells #[.slice none 0 0, .int .i64 0, .int .i64 0, .int .i64 0] 30) := ⟨_, rfl⟩
  have hsz : W1.heap.size = w.heap.size + 2 := by rw [hW1]; simp
  have HI0 : Hid (Bk.Is W1 w.heap.size #[.slice a n cap, .int .i64 F, .int .i64 T, .int .i64 N] 30) := by show Bk.Is _ _ _ _; rw [hW1]; exact (Bk.Is.made w _ _).alloc _
  have HI1 : Hid (Bk.Is W1 (w.heap.size + 1) #[.slice none 0 0, .int .i64 0, .int .i64 0, .int .i64 0] 30) := by
    show Bk.Is _ _ _ _
    have h := Bk.Is.made (w.alloc (.cells #[.slice a n cap, .int .i64 F, .int .i64 T, .int .i64 N] 30)) #[.slice none 0 0, .int .i64 0, .int .i64 0, .int .i64 0] 30
    rw [show (w.alloc (.cells #[.slice a n cap, .int .i64 F, .int .i64 T, .int .i64 N] 30)).heap.size = w.heap.size + 1 by simp] at h
    rw [hW1]; exact h
  have hb1 : Below w.heap.size w W1 := by rw [hW1]; exact ((Below.refl _ _).alloc (Nat.le_refl _) _).alloc (by simp) _
  have c0 : W1.cell? ⟨w.heap.size, 0, none⟩ = some (.slice a n cap) := by rw [HI0.out.cell]; rfl
  have HB1 := Lib.hid hb1
  have HR := Lib.hid hr
  have HW1 := Lib.hid hW1
  have HL := Lib.hid hl
  have HSZ := Lib.hid hsz
  have HN := Lib.hid hn
  obtain ⟨i0, hi, hz0, hz1, hz2⟩ := info_parts info_smp
  clear hb1 hr hW1 hl hsz
  go_enter Try.func21, Try.ntmps21
  go_wp2_with (at_make; rw [← HW1.out]; refine wpList_make_own _ rfl _ _ 28 rfl W1.heap.size 45 i0 _ 3 Try.underlying28 hi hz0 hz1 .i64 .i64 _ n rfl rfl rfl (by rw [hz2]; have := HN.out; omega) (by unfold maxLen; have := HN.out; omega) (Nat.le_refl _) ?_; intro w2 hown2 hg2; have HO2 : Hid (OwnS W1.heap.size w2 (.slice (some ⟨W1.heap.size, 0, none⟩) 0 n) []) := hown2; have HB2 : Hid (Below W1.heap.size W1 w2) := OwnS.below (ownS_nil _ W1) (Below.refl _ _) hg2 (Nat.le_refl _); clear hown2 hg2)
  go_loopw [5, 6] (CpRel d ss n W1.heap.size W1) (fun _ i _ => n - (intOf i).toNat)
  case atStart => exact ⟨0, by omega, rfl, HO2.out, HB2.out⟩
  case round =>
    obtain ⟨k, hk, rfl, hown, bw⟩ := hrel
    have HOWN := Lib.hid hown
    have BW := Lib.hid bw
    have J0 := HI0.out.below bw HI0.out.lt
    have x0 : wr.cell? ⟨w.heap.size, 0, none⟩ = some (.slice a n cap) := by rw [J0.cell]; rfl
    clear hown
    by_cases hlt : k < n
    · have hrw := HR.out.below (HB1.out.trans (bw.mono HB1.out.size))
      obtain ⟨b, off, ha, hcell⟩ := hrw.2.2.2 (by omega)
      subst ha
      obtain ⟨e0, e1, e2⟩ := hcell k hlt
      have Hlen : Hid (((ss.take k).map (cpS d)).length = k) := by show _ = _; simp; rw [HL.out]; omega
      have Hsn := Lib.hid (take_snoc_cp d ss k (by rw [HL.out]; exact hlt))
      obtain ⟨tk, htk⟩ : ∃ q, q = tS ss k := ⟨_, rfl⟩
      obtain ⟨vk, hvk⟩ : ∃ q, q = vS ss k := ⟨_, rfl⟩
      obtain ⟨sk, hsk⟩ : ∃ q, q = sS ss k := ⟨_, rfl⟩
      obtain ⟨tt, htt⟩ : ∃ tt, tt = wrap64 (tk + d) := ⟨_, rfl⟩
      have Hmv : Hid (cpS d (sAt ss k) = ⟨tt, vk, sk⟩) := by show _ = _; rw [htt, htk, hvk, hsk]; rfl
      have hw1 : wrap64 (tk + d) = tt := htt.symm
      have hw2 : IntKind.i64.wrap (tk + d) = tt := by rw [IntKind.wrap_i64, htt]; unfold wrap64; rfl
      rw [← htk] at e0
      rw [← hvk] at e1
      rw [← hsk] at e2
      have hcz : wr.heap.size ≤ wr.heap.size := Nat.le_refl _
      clear hcell hrw htk hvk hsk htt J0 bw
      go_wp2_with (at_builtin; refine wpList_append_s rfl (.tmp 29) (.tmp 31) rfl W1.heap.size _ ((ss.take k).map (cpS d)) rfl (OwnS.alloc (OwnS.alloc HOWN.out _) _) (wr.heap.size + 1) 1 ⟨tt, vk, sk⟩ rfl (cells_made2 wr _ tt vk sk) (by rw [Hlen.out]; exact Nat.lt_trans hlt HN.out) (by have := BW.out.size; simp; omega) ?_; intro v' w' hown' hg hv; have HG := Lib.hid hown'; have BN := Lib.hid (OwnS.below (OwnS.alloc (OwnS.alloc HOWN.out _) _) ((BW.out.alloc BW.out.size _).alloc (by have := BW.out.size; simp; omega) _) hg (by have := BW.out.size; simp; omega)); clear hown' hg hv)
      go_roundw
      case rel =>
        refine ⟨k + 1, by omega, by go_num, ?_, BN.out⟩
        rw [Hsn.out, Hmv.out]
        exact HG.out
      case measure => simp [intOf]; omega
    · obtain rfl : k = n := by omega
      have x1 : wr.cell? ⟨w.heap.size, 1, none⟩ = some (.int .i64 F) := by rw [J0.cell]; rfl
      have x2 : wr.cell? ⟨w.heap.size, 2, none⟩ = some (.int .i64 T) := by rw [J0.cell]; rfl
      have x3 : wr.cell? ⟨w.heap.size, 3, none⟩ = some (.int .i64 N) := by rw [J0.cell]; rfl
      rw [List.take_of_length_le (by rw [HL.out]; exact Nat.le_refl _)] at HOWN
      have J1 := Lib.hid (HI1.out.below bw HI1.out.lt)
      have wF : IntKind.i64.wrap (F + d) = wrap64 (F + d) := by rw [IntKind.wrap_i64]; unfold wrap64; rfl
      have wT : IntKind.i64.wrap (T + d) = wrap64 (T + d) := by rw [IntKind.wrap_i64]; unfold wrap64; rfl
      have wN : IntKind.i64.wrap (N + d) = wrap64 (N + d) := by rw [IntKind.wrap_i64]; unfold wrap64; rfl
      have HB0 : Hid (w.heap.size ≤ W1.heap.size ∧ w.heap.size + 1 < W1.heap.size) := by show _ ∧ _; rw [HSZ.out]; omega
      obtain ⟨a9, c9, hv9, hr9⟩ := OwnS.row HOWN.out (tS_cpb d ss)
      have hlm : (ss.map (cpS d)).length = k := by rw [List.length_map, HL.out]
      rw [hlm] at hv9
      subst hv9
      clear hr9 hlm
      go_wp2_with (refine Bk.is_store 30 rfl ?_; refine wpList_store_row rfl 30 _ _ rfl (w.heap.size + 1) #[.slice a9 k c9, .int .i64 (wrap64 (F + d)), .int .i64 (wrap64 (T + d)), .int .i64 (wrap64 (N + d))] rfl rfl 30 #[.slice none 0 0, .int .i64 0, .int .i64 0, .int .i64 0] J1.out (by kernel_rfl) rfl (by kernel_rfl) ?_)
      refine Bk.ret_block (J1.out.setRow _) rfl rfl Try.underlying30 rfl (by kernel_rfl) rfl ?_
      exact ⟨_, rfl, (HOWN.out.setRow HB0.out.2 _).weak HB0.out.1, Bk.below_setRow (HB1.out.trans (BW.out.mono HB1.out.size)) (by omega) _⟩
end Go.Proofs.Ytoeldcgclaiokaa
