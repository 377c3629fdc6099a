/- weirlaw06.CalcRises returns true whatever comes in. -/
import Derived.Test.YtllphokepjekpaaRisePlain
import Derived.ProofKit
import Derived.OpenShut
namespace Go.Proofs.Ytllphokepjekpaa
open Go.Fl Go.Rel Go.RowKit Go.ChangeShapes Go.WideShapes

/-- How an argument that is a slice of whole numbers of a small kind is opened. -/
theorem open_rowZ {H : Type} {enc : TypeId × Value → H} {P : Program} {w : World} {t e : TypeId} {v : Value} {r : Reach} {b0 : Nat} {d : DataW H} {ps : List MemPlace} {k : IntKind} {lo hi : Int} (h0 : lo ≤ 0 ∧ 0 ≤ hi) (hk : ∀ z, (Lit.int k z).wf = true → lo ≤ z ∧ z ≤ hi)
    (ht : P.underlying t = some (.slice e)) (he : P.underlying e = some (.int k)) (hc : P.cellsOf e = 1)
    (hval : Value.okWide P w r b0 t v) (hd : DataW.Trod enc P w 0 (fun _ => true) true t v d ps) : ∃ a n cap zs, v = .slice a n cap ∧ RowZ k lo hi w a n zs := by
  obtain ⟨a0, len, cap, rfl⟩ := okWide_slice ht hval
  obtain ⟨fuel, hf⟩ := hd
  have hz0 : ∀ i, lo ≤ ([] : List Int).getD i 0 ∧ ([] : List Int).getD i 0 ≤ hi := fun i => by simpa using h0
  rcases open_ints ht he hc hf with ⟨hcs, hx⟩ | ⟨a, len', cap', zs, hcs, _, hl, hm, hz, hx, hcell, hwz⟩
  · simp [Value.cells] at hcs
    obtain ⟨rfl, rfl, rfl⟩ := hcs
    exact ⟨_, _, _, [], rfl, rfl, by omega, hz0, fun h => by omega⟩
  · simp [Value.cells] at hcs
    obtain ⟨rfl, rfl, rfl⟩ := hcs
    simp only [if_true] at hz
    have htk : ∀ i, i < len → (zs.take len).getD i 0 = zs.getD i 0 := fun i hi => by simp [List.getD, hi]
    refine ⟨_, _, _, zs.take len, rfl, by rw [List.length_take]; omega, by unfold maxLen at hm; omega, fun i => ?_, fun hn => ?_⟩
    · by_cases hi : i < len
      · rw [htk i hi]
        have hmem : zs.getD i 0 ∈ zs := by
          have : i < zs.length := by omega
          simp [List.getD, this]
        exact hk _ (hwz _ hmem)
      · have : (zs.take len).getD i 0 = 0 := by simp [List.getD, List.getElem?_take, hi]
        rw [this]; exact h0
    · obtain ⟨b, off, spot⟩ := a
      have hspot : spot = none := by simpa [Addr.add] using World.cell?_spot (hcell 0 (by omega))
      subst hspot
      refine ⟨b, off, rfl, fun i hi => ?_⟩
      rw [htk i hi]
      simpa [Addr.add_lit] using hcell i (by omega)
theorem open_i32 {H : Type} {enc : TypeId × Value → H} {P : Program} {w : World} {t e : TypeId} {v : Value} {r : Reach} {b0 : Nat} {d : DataW H} {ps : List MemPlace} (ht : P.underlying t = some (.slice e)) (he : P.underlying e = some (.int .i32)) (hc : P.cellsOf e = 1)
    (hval : Value.okWide P w r b0 t v) (hd : DataW.Trod enc P w 0 (fun _ => true) true t v d ps) : ∃ a n cap zs, v = .slice a n cap ∧ RowZ .i32 (-2147483648) 2147483647 w a n zs :=
  open_rowZ (by omega) (fun z h => by simpa [Lit.wf, IntKind.min, IntKind.max, IntKind.signed, IntKind.bits] using h) ht he hc hval hd
theorem open_u16 {H : Type} {enc : TypeId × Value → H} {P : Program} {w : World} {t e : TypeId} {v : Value} {r : Reach} {b0 : Nat} {d : DataW H} {ps : List MemPlace} (ht : P.underlying t = some (.slice e)) (he : P.underlying e = some (.int .u16)) (hc : P.cellsOf e = 1)
    (hval : Value.okWide P w r b0 t v) (hd : DataW.Trod enc P w 0 (fun _ => true) true t v d ps) : ∃ a n cap zs, v = .slice a n cap ∧ RowZ .u16 0 65535 w a n zs :=
  open_rowZ (by omega) (fun z h => by simpa [Lit.wf, IntKind.min, IntKind.max, IntKind.signed, IntKind.bits] using h) ht he hc hval hd

instance decHbR : DecidableEq Hb := fun a b => if h : a.u = b.u ∧ a.c = b.c then isTrue (by obtain ⟨u, c⟩ := a; obtain ⟨u', c'⟩ := b; obtain ⟨h1, h2⟩ := h; dsimp only at h1 h2; rw [h1, h2]) else isFalse (by rintro rfl; exact h ⟨rfl, rfl⟩)

def bsR : List Hb := [⟨4616189618054758400, 4611686018427387904⟩, ⟨9218868437227405312, 4611686018427387904⟩]
theorem togR_closed : hTog bsR = bsR := by
  have h1 : kept bsR = bsR := by decide +kernel
  have h2 : bsR.mergeSort leH = bsR := by
    refine List.mergeSort_of_pairwise ?_
    unfold bsR
    rw [List.pairwise_cons]
    refine ⟨fun y hy => ?_, List.pairwise_singleton _ _⟩
    rw [List.mem_singleton] at hy
    subst hy
    decide +kernel
  unfold hTog
  rw [h1, h2]
  decide +kernel
theorem rise_closed : bucketsS (cn 4602678819172646912) bsR = 4611686018427387904 := by
  have hq : isN 4602678819172646912 = false := by decide +kernel
  have h1 : (ford 4602678819172646912 0 == some .lt) = false := by decide +kernel
  have h2 : (ford 4602678819172646912 w1 == some .gt) = false := by decide +kernel
  have hl : levels bsR = bsR := by decide +kernel
  have hm : bsR = bsR.map clsB := by decide +kernel
  rw [buck_in hq h1 h2 (by rw [togR_closed]; decide +kernel), togR_closed, hl, hm,
    val_in (r := 4607182418800017408) (b := 0) (by decide) (by decide +kernel) (by decide +kernel) ⟨by decide, fun j hj => by omega, fun _ => by decide +kernel⟩]
  decide +kernel
theorem hrow_R (w : World) : HRow (w.alloc (.cells #[.float .f64 4616189618054758400, .float .f64 4611686018427387904, .float .f64 9218868437227405312, .float .f64 4611686018427387904] 46)) (some ⟨w.heap.size, 0, none⟩) 2 bsR := by
  refine ⟨rfl, by omega, fun _ => ⟨_, _, rfl, fun i hi => ?_⟩⟩
  match i, hi with
  | 0, _ => exact ⟨by rw [World.cell?_alloc_at _ _ _ _ rfl]; rfl, by rw [World.cell?_alloc_at _ _ _ _ rfl]; rfl⟩
  | 1, _ => exact ⟨by rw [World.cell?_alloc_at _ _ _ _ rfl]; rfl, by rw [World.cell?_alloc_at _ _ _ _ rfl]; rfl⟩

def RiseRel (zs cs : List Int) (n : Nat) (w : World) (vb vs vt vi : Value) (wr : World) : Prop :=
  ∃ (k t : Nat) (S : Int), k ≤ n ∧ vi = .int .i64 (k : Int) ∧ vs = .int .i64 S ∧ S = sI cs k ∧ vt = .float .f64 t ∧ (0 < k → t = floatOfInt .f64 (zs.getD (k - 1) 0)) ∧
    OwnH w.heap.size wr vb (mkB zs cs k) ∧ (∀ i, i + 1 < k → zs.getD i 0 < zs.getD (i + 1) 0) ∧ Below w.heap.size w wr

theorem rise_next {zs cs : List Int} {n k : Nat} {w wr w1 : World} {vb vb' : Value} {o : Obj} {S : Int}
    (hlt : k < n) (hup : ∀ i, i + 1 < k → zs.getD i 0 < zs.getD (i + 1) 0) (hk : 0 < k → zs.getD (k - 1) 0 < zs.getD k 0) (hS : S = sI cs k)
    (hob : OwnH w.heap.size wr vb (mkB zs cs k)) (bw : Below w.heap.size w wr)
    (hown : OwnH w.heap.size w1 vb' (mkB zs cs k ++ [⟨floatOfInt .f64 (zs.getD k 0), floatOfInt .f64 (S + cs.getD k 0)⟩])) (hg : (wr.alloc o).grownBy w1 vb.ownBlock) {vi : Value} (hi : vi = .int .i64 ((k : Int) + 1)) :
    RiseRel zs cs n w vb' (.int .i64 (S + cs.getD k 0)) (.float .f64 (floatOfInt .f64 (zs.getD k 0))) vi w1 := by
  refine ⟨k + 1, _, _, by omega, by rw [hi]; simp, rfl, by rw [hS]; rfl, rfl, fun _ => by rw [Nat.add_sub_cancel], ?_, fun i hi2 => ?_, ?_⟩
  · rw [mkB_succ]
    have : sI cs (k + 1) = S + cs.getD k 0 := by rw [hS]; rfl
    rw [this]; exact hown
  · by_cases h : i + 1 < k
    · exact hup i h
    · have := hk (by omega)
      have e : i = k - 1 := by omega
      rw [e, Nat.sub_add_cancel (by omega)]
      exact this
  · exact (OwnH.alloc hob o).below (bw.alloc bw.size o) hg (by have := bw.size; simp; omega)

def TrueRetR (w : World) (e : Ending) (w' : World) : Prop := e = .returned (.bool true) ∧ Below w.heap.size w w'

set_option maxHeartbeats 4000000 in
set_option maxRecDepth 100000 in
theorem law_rises (a : Option Addr) (n cap : Nat) (zs : List Int) (a2 : Option Addr) (n2 cap2 : Nat) (cs : List Int) (p q : Nat) (w : World) (hr : RowZ .i32 (-2147483648) 2147483647 w a n zs) (hr2 : RowZ .u16 0 65535 w a2 n2 cs) :
    Calls Try.prog 11 #[.slice a n cap, .slice a2 n2 cap2, .float .f64 p, .float .f64 q] w (TrueRetR w) := by
  have hne : (FloatKind.f64.format.order 4611686018427387904 4611686018427387904 != some .eq) = false := by decide +kernel
  have HR := Lib.hid hr
  have HR2 := Lib.hid hr2
  clear hr hr2
  go_enter Try.func11, Try.ntmps11
  go_wp2_with (go_at_call 42; refine (inf_up _).mono ?_; rintro e w' ⟨rfl, rfl⟩)
  refine (buckets_any _ _ 2 2 bsR _ (hrow_R _) (by omega)).mono ?_
  rintro e w2 ⟨r2, rfl, h2, b2⟩
  rw [rise_closed] at h2
  have := eq_of_cn h2 (by decide +kernel)
  subst this
  clear h2
  have c2 : Below w.heap.size w w2 := ((Below.refl _ _).alloc (Nat.le_refl _) _).trans (b2.mono (by simp))
  clear b2
  by_cases h0 : n = 0
  · subst h0
    go_wp2_with fail
    go_ret
    exact ⟨rfl, c2⟩
  have hn0 : ((n : Int) == 0) = false := by simp; omega
  by_cases h200 : 200 < n
  · have hg : decide ((200 : Int) < (n : Int)) = true := decide_eq_true (by omega)
    go_wp2_with fail
    go_ret
    exact ⟨rfl, c2⟩
  have hg : decide ((200 : Int) < (n : Int)) = false := decide_eq_false (by omega)
  by_cases hle : n2 ≤ n
  · have hl : decide ((n2 : Int) ≤ (n : Int)) = true := decide_eq_true (by omega)
    go_wp2_with fail
    go_ret
    exact ⟨rfl, c2⟩
  have hl : decide ((n2 : Int) ≤ (n : Int)) = false := decide_eq_false (by omega)
  obtain ⟨b, off, rfl, hc⟩ := HR.out.2.2.2 (by omega)
  obtain ⟨b2, off2, rfl, hc2⟩ := HR2.out.2.2.2 (by omega)
  have hb1 : b < w.heap.size := World.block_lt_of_cell? w _ (hc 0 (by omega))
  have hb2 : b2 < w.heap.size := World.block_lt_of_cell? w _ (hc2 0 (by omega))
  have HC : Hid (∀ (W : World), Below w.heap.size w W → ∀ i, i < n → W.cell? ⟨b, off + i, none⟩ = some (.int .i32 (zs.getD i 0))) := fun W hW i hi => by
    rw [hW.cell (p := ⟨b, off + i, none⟩) hb1]; exact hc i hi
  have HC2 : Hid (∀ (W : World), Below w.heap.size w W → ∀ i, i < n2 → W.cell? ⟨b2, off2 + i, none⟩ = some (.int .u16 (cs.getD i 0))) := fun W hW i hi => by
    rw [hW.cell (p := ⟨b2, off2 + i, none⟩) hb2]; exact hc2 i hi
  have HZB := Lib.hid HR.out.2.2.1
  have HCB := Lib.hid HR2.out.2.2.1
  have hm2 := HR2.out.2.1
  clear HR HR2 hc hc2
  have k0 := HC2.out w2 c2 0 (by omega)
  rw [Nat.add_zero] at k0
  obtain ⟨c0, HZ0⟩ : ∃ c0, Hid (cs.getD 0 0 = c0) := ⟨_, rfl⟩
  rw [HZ0.out] at k0
  by_cases hz : c0 = 0
  · rw [hz] at k0
    go_wp2_with fail
    go_ret
    exact ⟨rfl, c2⟩
  have hz' : (c0 == 0) = false := by simpa using hz
  have HZ : Hid (cs.getD 0 0 ≠ 0) := by show _ ≠ _; rw [HZ0.out]; exact hz
  clear hz HZ0
  cases hp0 : leFF 0 p
  case false =>
    have hp0' : (FloatKind.f64.format.order 0 p == some .lt || FloatKind.f64.format.order 0 p == some .eq) = false := hp0
    clear hp0
    go_wp2_with fail
    go_ret
    exact ⟨rfl, c2⟩
  case true =>
  have hp0' : (FloatKind.f64.format.order 0 p == some .lt || FloatKind.f64.format.order 0 p == some .eq) = true := hp0
  have HP0 := Lib.hid hp0
  clear hp0
  cases hpq : leFF p q
  case false =>
    have hpq' : (FloatKind.f64.format.order p q == some .lt || FloatKind.f64.format.order p q == some .eq) = false := hpq
    clear hpq
    go_wp2_with fail
    go_ret
    exact ⟨rfl, c2⟩
  case true =>
  have hpq' : (FloatKind.f64.format.order p q == some .lt || FloatKind.f64.format.order p q == some .eq) = true := hpq
  have HPQ := Lib.hid hpq
  clear hpq
  cases hq1 : leFF q w1
  case false =>
    have hq1' : (FloatKind.f64.format.order q 4607182418800017408 == some .lt || FloatKind.f64.format.order q 4607182418800017408 == some .eq) = false := hq1
    clear hq1
    go_wp2_with fail
    go_ret
    exact ⟨rfl, c2⟩
  case true =>
  have hq1' : (FloatKind.f64.format.order q 4607182418800017408 == some .lt || FloatKind.f64.format.order q 4607182418800017408 == some .eq) = true := hq1
  have HQ1 := Lib.hid hq1
  clear hq1
  go_wp2_with (go_at_call 42; refine (inf_down _).mono ?_; rintro e w' ⟨rfl, rfl⟩)
  go_loopw [9, 10, 11, 13] (RiseRel zs cs n w) (fun _ _ _ i _ => n - (intOf i).toNat)
  case atStart => exact ⟨0, ninf, 0, by omega, rfl, rfl, rfl, rfl, fun h => by omega, ownH_nil _ _, fun i h => by omega, c2⟩
  case round =>
    clear k0 hz' hp0' hpq' hq1' c2 hne
    obtain ⟨k, t, S, hk, rfl, rfl, hS, rfl, ht, hob, hup, bw⟩ := hrel
    have HS := Lib.hid hS
    have HT := Lib.hid ht
    have HOB := Lib.hid hob
    have HUP := Lib.hid hup
    have hSb := sI_bd HCB.out k
    rw [← hS] at hSb
    have hbws := bw.size
    clear hS ht hob hup
    by_cases hlt : k < n
    · have ck := HC.out wr bw k hlt
      have cc := HC2.out wr bw k (by omega)
      have hcb := HCB.out k
      have hzb := HZB.out k
      have HNX : Hid (∀ {W : World} {vb vb' : Value} {w1 : World} {o : Obj} {vi : Value} (hk : 0 < k → zs.getD (k - 1) 0 < zs.getD k 0) (hob : OwnH w.heap.size W vb (mkB zs cs k)) (bw : Below w.heap.size w W)
          (hown : OwnH w.heap.size w1 vb' (mkB zs cs k ++ [⟨floatOfInt .f64 (zs.getD k 0), floatOfInt .f64 (S + cs.getD k 0)⟩])) (hg : (W.alloc o).grownBy w1 vb.ownBlock) (hi : vi = .int .i64 ((k : Int) + 1)),
          RiseRel zs cs n w vb' (.int .i64 (S + cs.getD k 0)) (.float .f64 (floatOfInt .f64 (zs.getD k 0))) vi w1) := fun hk hob bw hown hg hi => rise_next hlt HUP.out hk HS.out hob bw hown hg hi
      have HLM := Lib.hid (length_mkB zs cs k)
      by_cases hk0 : k = 0
      · subst hk0
        rw [Nat.add_zero] at ck cc
        generalize zs.getD 0 0 = z at ck hzb HNX
        generalize cs.getD 0 0 = c at cc hcb HNX
        have hz2 : decide ((0 : Int) < 0) = false := by decide
        go_wp2_with fail
        go_quiet (fail)
        go_wp2_with (at_builtin; refine wpList_append_h rfl (.tmp 90) (.tmp 95) rfl w.heap.size _ (mkB zs cs 0) rfl (OwnH.alloc (OwnH.drewN HOB.out nq) _) wr.heap.size _ ⟨floatOfInt .f64 z, floatOfInt .f64 (S + c)⟩ rfl ⟨World.cell?_alloc_at _ _ _ _ rfl, World.cell?_alloc_at _ _ _ _ rfl⟩ (by rw [HLM.out]; omega) (by simp; omega) ?_; intro v' w' hown' hg hv)
        go_roundw
        case rel => exact HNX.out (fun h => by omega) (HOB.out.drewN nq) (bw.drewN' nq) hown' hg (by simp)
        case measure => simp [intOf]; omega
      · obtain ⟨j, rfl⟩ : ∃ j, k = j + 1 := ⟨k - 1, by omega⟩
        have cj := HC.out wr bw j (by omega)
        have hzj := HZB.out j
        have HNX2 : Hid (zs.getD (j + 1 - 1) 0 = zs.getD j 0) := by show _ = _; rw [Nat.add_sub_cancel]
        generalize zs.getD (j + 1) 0 = z at ck hzb HNX
        generalize cs.getD (j + 1) 0 = c at cc hcb HNX
        generalize zs.getD j 0 = y at cj hzj HNX2
        have hj0 : decide ((0 : Int) < (j : Int) + 1) = true := decide_eq_true (by omega)
        by_cases hzy : z ≤ y
        · have hd : decide (z ≤ y) = true := decide_eq_true hzy
          go_wp2_with fail
          go_quiet (fail)
          go_wp2_with fail
          go_ret
          exact ⟨rfl, bw.drewN' nq⟩
        · have hd : decide (z ≤ y) = false := decide_eq_false hzy
          go_wp2_with fail
          go_quiet (fail)
          go_wp2_with (at_builtin; refine wpList_append_h rfl (.tmp 90) (.tmp 95) rfl w.heap.size _ (mkB zs cs (j + 1)) rfl (OwnH.alloc (OwnH.drewN HOB.out nq) _) wr.heap.size _ ⟨floatOfInt .f64 z, floatOfInt .f64 (S + c)⟩ rfl ⟨World.cell?_alloc_at _ _ _ _ rfl, World.cell?_alloc_at _ _ _ _ rfl⟩ (by rw [HLM.out]; omega) (by simp; omega) ?_; intro v' w' hown' hg hv)
          go_roundw
          case rel => exact HNX.out (fun _ => by rw [HNX2.out]; omega) (HOB.out.drewN nq) (bw.drewN' nq) hown' hg (by simp)
          case measure => simp [intOf]; omega
    · have hk' : n = k := by omega
      subst hk'
      have cz := HC.out wr bw 0 (by omega)
      rw [Nat.add_zero] at cz
      have cc := HC2.out wr bw n (by omega)
      have hcb := HCB.out n
      have hzb := HZB.out 0
      have HLM := Lib.hid (length_mkB zs cs n)
      have HTT : Hid (t = floatOfInt .f64 (zs.getD (n - 1) 0)) := HT.out (by omega)
      have HSS : Hid (S + cs.getD n 0 = sI cs (n + 1)) := by show _ = _; rw [HS.out]; rfl
      have HEND : Hid (∀ {r3 r4 low : Nat}, cn r3 = bucketsS (cn p) (mkB zs cs n ++ [⟨pinf, floatOfInt .f64 (S + cs.getD n 0)⟩]) → cn r4 = bucketsS (cn q) (mkB zs cs n ++ [⟨pinf, floatOfInt .f64 (S + cs.getD n 0)⟩]) → ((zs.getD 0 0 < 0 ∧ low = floatOfInt .f64 (zs.getD 0 0)) ∨ (¬zs.getD 0 0 < 0 ∧ low = 0)) →
          leFF low r3 = true ∧ leFF r3 r4 = true ∧ leFF r4 t = true) := by
        intro r3 r4 low h3 h4 h5
        rw [HSS.out] at h3 h4
        have := all_rises (by omega) (by omega) HZB.out HCB.out HZ.out HUP.out HP0.out HPQ.out HQ1.out h3 h4 h5
        rw [← HTT.out] at this
        exact this
      clear HTT HSS
      generalize zs.getD 0 0 = z at cz hzb HEND
      generalize cs.getD n 0 = c at cc hcb HEND
      by_cases hz : z < 0
      · have hd : decide (z < 0) = true := decide_eq_true hz
        go_wp2_with (first | (go_at_call 42; refine (inf_up _).mono ?_; rintro e w' ⟨rfl, rfl⟩) | (at_builtin; refine wpList_append_h rfl (.tmp 113) (.tmp 118) rfl w.heap.size _ (mkB zs cs n) rfl (OwnH.alloc HOB.out _) wr.heap.size _ ⟨pinf, floatOfInt .f64 (S + c)⟩ rfl ⟨World.cell?_alloc_at _ _ _ _ rfl, World.cell?_alloc_at _ _ _ _ rfl⟩ (by rw [HLM.out]; omega) (by simp; omega) ?_; intro v' w' hown' hg hv))
        have c3 := (OwnH.alloc HOB.out _).below (bw.alloc bw.size _) hg (by have := bw.size; simp; omega)
        obtain ⟨a6, c6, hv6, ok6, r6⟩ := OwnH.row' hown'
        rw [List.length_append, HLM.out] at hv6 r6
        subst hv6
        clear hown' hg hv ok6
        refine (buckets_any p a6 (n + 1) c6 _ _ r6 (by omega)).mono ?_
        rintro e w3 ⟨r3, rfl, h3, b3⟩
        have HR3 := Lib.hid (r6.below b3)
        have H3 := Lib.hid h3
        have c4 := c3.trans (b3.mono c3.size)
        clear h3 b3 r6
        go_wp2_with fail
        refine (buckets_any q a6 (n + 1) c6 _ _ HR3.out (by omega)).mono ?_
        rintro e w4 ⟨r4, rfl, h4, b4⟩
        obtain ⟨e1, e2, e3⟩ := HEND.out H3.out h4 (.inl ⟨hz, rfl⟩)
        have e1' : (FloatKind.f64.format.order (floatOfInt .f64 z) r3 == some .lt || FloatKind.f64.format.order (floatOfInt .f64 z) r3 == some .eq) = true := e1
        have e2' : (FloatKind.f64.format.order r3 r4 == some .lt || FloatKind.f64.format.order r3 r4 == some .eq) = true := e2
        have e3' : (FloatKind.f64.format.order r4 t == some .lt || FloatKind.f64.format.order r4 t == some .eq) = true := e3
        have c5 := c4.trans (b4.mono c4.size)
        clear h4 b4 e1 e2 e3
        go_wp2_with fail
        go_ret
        exact ⟨rfl, c5⟩
      · have hd : decide (z < 0) = false := decide_eq_false hz
        go_wp2_with (first | (go_at_call 42; refine (inf_up _).mono ?_; rintro e w' ⟨rfl, rfl⟩) | (at_builtin; refine wpList_append_h rfl (.tmp 113) (.tmp 118) rfl w.heap.size _ (mkB zs cs n) rfl (OwnH.alloc HOB.out _) wr.heap.size _ ⟨pinf, floatOfInt .f64 (S + c)⟩ rfl ⟨World.cell?_alloc_at _ _ _ _ rfl, World.cell?_alloc_at _ _ _ _ rfl⟩ (by rw [HLM.out]; omega) (by simp; omega) ?_; intro v' w' hown' hg hv))
        have c3 := (OwnH.alloc HOB.out _).below (bw.alloc bw.size _) hg (by have := bw.size; simp; omega)
        obtain ⟨a6, c6, hv6, ok6, r6⟩ := OwnH.row' hown'
        rw [List.length_append, HLM.out] at hv6 r6
        subst hv6
        clear hown' hg hv ok6
        refine (buckets_any p a6 (n + 1) c6 _ _ r6 (by omega)).mono ?_
        rintro e w3 ⟨r3, rfl, h3, b3⟩
        have HR3 := Lib.hid (r6.below b3)
        have H3 := Lib.hid h3
        have c4 := c3.trans (b3.mono c3.size)
        clear h3 b3 r6
        go_wp2_with fail
        refine (buckets_any q a6 (n + 1) c6 _ _ HR3.out (by omega)).mono ?_
        rintro e w4 ⟨r4, rfl, h4, b4⟩
        obtain ⟨e1, e2, e3⟩ := HEND.out H3.out h4 (.inr ⟨hz, rfl⟩)
        have e1' : (FloatKind.f64.format.order 0 r3 == some .lt || FloatKind.f64.format.order 0 r3 == some .eq) = true := e1
        have e2' : (FloatKind.f64.format.order r3 r4 == some .lt || FloatKind.f64.format.order r3 r4 == some .eq) = true := e2
        have e3' : (FloatKind.f64.format.order r4 t == some .lt || FloatKind.f64.format.order r4 t == some .eq) = true := e3
        have c5 := c4.trans (b4.mono c4.size)
        clear h4 b4 e1 e2 e3
        go_wp2_with fail
        go_ret
        exact ⟨rfl, c5⟩
end Go.Proofs.Ytllphokepjekpaa
