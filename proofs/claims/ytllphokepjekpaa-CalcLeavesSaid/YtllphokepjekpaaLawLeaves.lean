/- weirlaw06.CalcLeaves returns true whatever comes in. -/
import Derived.Test.YtllphokepjekpaaLeavesA
import Derived.Test.YtllphokepjekpaaLawQuantiles
import Derived.Test.YtllphokepjekpaaHBucks
import Derived.Test.YtllphokepjekpaaBeat
import Derived.Test.YtllphokepjekpaaLineAll
import Derived.Test.YtllphokepjekpaaSmooth
import Derived.Test.YtllphokepjekpaaSpreadAll
import Derived.StillTailTactics
namespace Go.Proofs.Ytllphokepjekpaa
open Go.Fl Go.Rel Go.RowKit

theorem quant_closed0 : quantS (cn 0) ([4613937818241073152, 4607182418800017408, 4611686018427387904].map cn) = 4607182418800017408 := by
  unfold quantS
  rw [if_neg (by decide +kernel), if_neg (by decide +kernel), if_neg (by decide +kernel), if_neg (by decide +kernel), sort_closed]
  decide +kernel

theorem hrow_two (w : World) (u0 c0 u1 c1 : Nat) : HRow (w.alloc (.cells #[.float .f64 u0, .float .f64 c0, .float .f64 u1, .float .f64 c1] 46)) (some ⟨w.heap.size, 0, none⟩) 2 [⟨u0, c0⟩, ⟨u1, c1⟩] := by
  refine ⟨rfl, by omega, fun _ => ⟨_, _, rfl, fun i hi => ?_⟩⟩
  match i, hi with
  | 0, _ => exact ⟨by rw [World.cell?_alloc_at _ _ _ _ rfl]; rfl, by rw [World.cell?_alloc_at _ _ _ _ rfl]; rfl⟩
  | 1, _ => exact ⟨by rw [World.cell?_alloc_at _ _ _ _ rfl]; rfl, by rw [World.cell?_alloc_at _ _ _ _ rfl]; rfl⟩

/-- What lies in the call's own rows. -/
structure Mem (w : World) (g0 g1 : Nat) (X : List Nat) (Y : List Hb) (W : World) : Prop where
  f : WF W g0 X
  h : WR W g1 Y
  b : Below w.heap.size w W
  l0 : w.heap.size ≤ g0
  l1 : w.heap.size ≤ g1
  ne : g0 ≠ g1
theorem Mem.on {w W W' : World} {g0 g1 : Nat} {X : List Nat} {Y : List Hb} (m : Mem w g0 g1 X Y W) (hb : Below W.heap.size W W') : Mem w g0 g1 X Y W' :=
  ⟨m.f.on hb, m.h.on hb, m.b.trans (hb.mono m.b.size), m.l0, m.l1, m.ne⟩
theorem Mem.drewN {w W : World} {g0 g1 : Nat} {X : List Nat} {Y : List Hb} (m : Mem w g0 g1 X Y W) (n : Nat) : Mem w g0 g1 X Y (W.drewN n) :=
  m.on ((Below.refl _ _).drewN' n)

/-- The samples that are made of the list. -/
def smpOf (xs : List Nat) (i : Nat) : Smp := ⟨(i : Int) * 1000 + 7, at0 xs i, decide (i % 3 = 0)⟩
def smps (xs : List Nat) (k : Nat) : List Smp := (List.range k).map (smpOf xs)
theorem smps_succ (xs : List Nat) (k : Nat) : smps xs (k + 1) = smps xs k ++ [smpOf xs k] := by
  unfold smps; rw [List.range_succ, List.map_append]; rfl
theorem length_smps (xs : List Nat) (k : Nat) : (smps xs k).length = k := by simp [smps]
theorem sAt_smps (xs : List Nat) {k i : Nat} (h : i < k) : sAt (smps xs k) i = smpOf xs i := by
  simp [sAt, smps, List.getD, h]
theorem tS_smps (xs : List Nat) {k : Nat} (hk : k ≤ 4096) (i : Nat) : -9223372036854775808 ≤ tS (smps xs k) i ∧ tS (smps xs k) i ≤ 9223372036854775807 := by
  by_cases h : i < k
  · unfold tS; rw [sAt_smps xs h]; unfold smpOf; dsimp only; omega
  · have : sAt (smps xs k) i = ⟨0, 0, false⟩ := by unfold sAt; rw [List.getD, List.getElem?_eq_none (by rw [length_smps]; omega)]; rfl
    unfold tS; rw [this]; simp

def SmpRel (xs : List Nat) (n : Nat) (w : World) (v i : Value) (wr : World) : Prop :=
  ∃ k, k ≤ n ∧ i = .int .i64 (k : Int) ∧ OwnS w.heap.size wr v (smps xs k) ∧ Below w.heap.size w wr

theorem alike_same (x : Nat) (w : World) : Calls Try.prog 17 #[.float .f64 x, .float .f64 x] w fun e w' => e = .returned (.bool true) ∧ w = w' := by
  refine (alike_any x x w).mono ?_
  rintro e w' ⟨rfl, rfl⟩
  exact ⟨by simp, rfl⟩
theorem smp_cells {w : World} {a : Option Addr} {n : Nat} {xs : List Nat} (h : SRow w a n (smps xs n)) {i : Nat} (hi : i < n) : ∃ b off, a = some ⟨b, off, none⟩ ∧ w.cell? ⟨b, off + i * 3, none⟩ = some (.int .i64 ((i : Int) * 1000 + 7)) ∧ w.cell? ⟨b, off + i * 3 + 1, none⟩ = some (.float .f64 (at0 xs i)) ∧ w.cell? ⟨b, off + i * 3 + 2, none⟩ = some (.bool ((i : Int) % 3 == 0)) := by
  obtain ⟨b, off, ha, hc⟩ := h.2.2.2 (by omega)
  obtain ⟨c0, c1, c2⟩ := hc i hi
  have e3 : ((i : Int) % 3 == 0) = decide (i % 3 = 0) := by by_cases h : i % 3 = 0 <;> simp [h] <;> omega
  unfold tS at c0
  unfold vS at c1
  unfold sS at c2
  rw [sAt_smps xs hi] at c0 c1 c2
  rw [e3]
  exact ⟨b, off, ha, c0, c1, c2⟩

theorem Mem.setF {w W : World} {g0 g1 : Nat} {X : List Nat} {Y : List Hb} (m : Mem w g0 g1 X Y W) (i v : Nat) (hi : i < X.length) : Mem w g0 g1 (X.set i v) Y (W.setCell ⟨g0, i, none⟩ (.float .f64 v)) :=
  ⟨m.f.set i v hi, m.h.other (a := ⟨g0, i, none⟩) m.ne _, m.b.setCell (p := ⟨g0, i, none⟩) m.l0 _, m.l0, m.l1, m.ne⟩
theorem Mem.setH {w W : World} {g0 g1 : Nat} {X : List Nat} {Y : List Hb} (m : Mem w g0 g1 X Y W) (i : Nat) (b : Hb) (hi : i < Y.length) : Mem w g0 g1 X (Y.set i b) ((W.setCell ⟨g1, i * 2, none⟩ (.float .f64 b.u)).setCell ⟨g1, i * 2 + 1, none⟩ (.float .f64 b.c)) :=
  ⟨(m.f.other (a := ⟨g1, i * 2, none⟩) (fun h => m.ne h.symm) _).other (a := ⟨g1, i * 2 + 1, none⟩) (fun h => m.ne h.symm) _, m.h.setB i b hi, (m.b.setCell (p := ⟨g1, i * 2, none⟩) m.l1 _).setCell (p := ⟨g1, i * 2 + 1, none⟩) m.l1 _, m.l0, m.l1, m.ne⟩

theorem at0_left {xs ys : List Nat} {i : Nat} (h : i < xs.length) : at0 (xs ++ ys) i = at0 xs i := by simp [at0, List.getD, List.getElem?_append_left h]
theorem at0_right {xs ys : List Nat} {n i : Nat} (hn : xs.length = n) : at0 (xs ++ ys) (n + i) = at0 ys i := by
  subst hn
  unfold at0
  rw [List.getD, List.getD, List.getElem?_append_right (by omega), Nat.add_sub_cancel_left]
theorem hAt_left {xs ys : List Hb} {i : Nat} (h : i < xs.length) : hAt (xs ++ ys) i = hAt xs i := by simp [hAt, List.getD, List.getElem?_append_left h]
theorem hAt_right {xs ys : List Hb} {n i : Nat} (hn : xs.length = n) : hAt (xs ++ ys) (n + i) = hAt ys i := by
  subst hn
  unfold hAt
  rw [List.getD, List.getD, List.getElem?_append_right (by omega), Nat.add_sub_cancel_left]
theorem take_ones {cur : List Nat} {n : Nat} (hl : n ≤ cur.length) (h : ∀ t, t < n → at0 cur t = w1) : cur.take n = List.replicate n w1 := by
  refine List.ext_getElem (by simp; omega) fun i h1 h2 => ?_
  have hi : i < n := by simpa using h2
  have := h i hi
  simp [at0, List.getD, show i < cur.length by omega] at this
  simp [this]

/-- The list's ones; the buckets put anew. -/
def OnesRel (n : Nat) (w : World) (g0 g1 : Nat) (Y : List Hb) (i : Value) (wr : World) : Prop :=
  ∃ (j : Nat) (cur : List Nat), j ≤ n ∧ i = .int .i64 (j : Int) ∧ cur.length = n + 3 ∧ (∀ t, t < j → at0 cur t = w1) ∧ Mem w g0 g1 cur Y wr
def PutRel (n2 : Nat) (w : World) (g0 g1 : Nat) (X : List Nat) (i : Value) (wr : World) : Prop :=
  ∃ (j : Nat) (cur : List Hb), j ≤ n2 ∧ i = .int .i64 (j : Int) ∧ cur.length = n2 + 2 ∧ Mem w g0 g1 X cur wr

/-- A loop that looks alone. -/
def SeenRel (n : Nat) (W : World) (i : Value) (wr : World) : Prop :=
  ∃ k nd : Nat, k ≤ n ∧ i = .int .i64 (k : Int) ∧ wr = W.drewN nd

set_option maxHeartbeats 16000000 in
set_option maxRecDepth 100000 in
theorem law_leaves (a : Option Addr) (n cap : Nat) (xs : List Nat) (q : Nat) (a2 : Option Addr) (n2 cap2 : Nat) (bs : List Hb) (w : World) (hr : Row w a n xs) (hs : SlOk a n cap) (hr2 : HRow w a2 n2 bs) (hs2 : SlOk a2 n2 cap2) :
    Calls Try.prog 14 #[.slice a n cap, .float .f64 q, .slice a2 n2 cap2] w fun e w' => e = .returned (.bool true) ∧ Below w.heap.size w w' := by
  have hne1 : (FloatKind.f64.format.order 4607182418800017408 4607182418800017408 != some .eq) = false := by decide +kernel
  have hl := hr.1
  have hl2 := hr2.1
  have hm1 := hr.2.1
  have hm2 := hr2.2.1
  have HR := Lib.hid hr
  have HS := Lib.hid hs
  have HR2 := Lib.hid hr2
  have HS2 := Lib.hid hs2
  have HL := Lib.hid hl
  have HL2 := Lib.hid hl2
  clear hr hs hr2 hs2 hl hl2
  go_enter Try.func14, Try.ntmps14
  go_wp2_with fail
  refine (quant_any _ _ 3 3 [4613937818241073152, 4607182418800017408, 4611686018427387904] _ (row_three _ _ _ _) ⟨Nat.le_refl _, fun h => by cases h⟩ (by omega)).mono ?_
  rintro e w1 ⟨r, rfl, hrr, b1⟩
  rw [quant_closed0] at hrr
  have := eq_of_cn hrr (by decide +kernel)
  subst this
  have c1 : Below w.heap.size w w1 := ((Below.refl _ _).alloc (Nat.le_refl _) _).trans (b1.mono (by simp))
  clear hrr b1
  by_cases hbig : 4096 < n ∨ 4096 < n2
  · have hz : (decide (4096 < n) || decide (4096 < n2)) = true := by simpa using hbig
    by_cases h1 : 4096 < n
    · have d1 : decide (4096 < n) = true := decide_eq_true h1
      clear hbig hz
      go_wp2_with fail
      go_ret
      exact ⟨rfl, c1⟩
    · have d1 : decide (4096 < n) = false := decide_eq_false h1
      have h2 : 4096 < n2 := by omega
      have d2 : decide (4096 < n2) = true := decide_eq_true h2
      clear hbig hz
      go_wp2_with fail
      go_ret
      exact ⟨rfl, c1⟩
  · have hn : n ≤ 4096 := by omega
    have hn2 : n2 ≤ 4096 := by omega
    have d1 : decide (4096 < n) = false := decide_eq_false (by omega)
    have d2 : decide (4096 < n2) = false := decide_eq_false (by omega)
    have hsz1 := c1.size
    clear hbig
    go_wp2_with (first
      | (at_builtin; refine wpList_append_fs rfl (.tmp 34) (.tmp 35) rfl w1.heap.size _ [] rfl (own_made w1) a n cap xs HS.out rfl (HR.out.below (c1.alloc hsz1 _)) (by simp; omega) (by simp) ?_; intro v1 wA hownA hgA hvA; have HOA := Lib.hid hownA; have BA := Lib.hid (Own.below (own_made w1) ((Below.refl _ _).alloc (Nat.le_refl _) _) hgA (by simp)); clear hownA hgA hvA)
      | (at_builtin; refine wpList_append_fs rfl (.tmp 36) (.tmp 37) rfl w1.heap.size _ _ rfl (HOA.out.alloc _) _ 3 3 [4635118810238550016, 4635189178982727680, 4635259547726905344] ⟨Nat.le_refl _, fun h => by cases h⟩ rfl (row_three _ _ _ _) (by rw [List.nil_append, HL.out]; omega) (by have := BA.out.size; simp; omega) ?_; intro v2 wB hownB hgB hvB; have HOB := Lib.hid hownB; have BB := Lib.hid (Own.below (HOA.out.alloc _) (BA.out.alloc BA.out.size _) hgB (by have := BA.out.size; simp; omega)); clear hownB hgB hvB; obtain ⟨g0, cap0, hv2, hg00, hg01, hg02, hwf⟩ := Own.form HOB.out (by simp); rw [List.nil_append, List.length_append, HL.out] at hv2 hg02; have hv2' : v2 = .slice (some ⟨g0, 0, none⟩) (n + 3) cap0 := hv2; have hg02' : n + 3 ≤ cap0 := hg02; clear hv2 hg02; subst hv2'; rw [List.nil_append] at hwf; have HWF := Lib.hid hwf; clear hwf; have hsl0 := slice_hi g0 0 (n + 3) cap0 n n rfl (by omega))
      | (at_builtin; refine wpList_append_hs rfl (.tmp 43) (.tmp 44) rfl wB.heap.size _ [] rfl (ownH_made wB) a2 n2 cap2 bs HS2.out rfl (HR2.out.below (((c1.trans (BB.out.mono hsz1))).alloc (Nat.le_trans hsz1 BB.out.size) _)) (by simp; omega) (by simp) ?_; intro v3 wC hownC hgC hvC; have HOC := Lib.hid hownC; have BC := Lib.hid (OwnH.below (ownH_made wB) ((Below.refl _ _).alloc (Nat.le_refl _) _) hgC (by simp)); clear hownC hgC hvC)
      | (at_builtin; refine wpList_append_hs rfl (.tmp 45) (.tmp 48) rfl wB.heap.size _ _ rfl (HOC.out.alloc _) _ 2 2 [⟨4635118810238550016, 0⟩, ⟨0, 4635189178982727680⟩] ⟨Nat.le_refl _, fun h => by cases h⟩ rfl (hrow_two _ _ _ _ _) (by rw [List.nil_append, HL2.out]; omega) (by have := BC.out.size; simp; omega) ?_; intro v4 wD hownD hgD hvD; have HOD := Lib.hid hownD; have BD := Lib.hid (OwnH.below (HOC.out.alloc _) (BC.out.alloc BC.out.size _) hgD (by have := BC.out.size; simp; omega)); clear hownD hgD hvD; obtain ⟨g1, cap1, hv4, hg10, hg11, hg1x, hg12, hwr⟩ := OwnH.form HOD.out (by simp); rw [List.nil_append, List.length_append, HL2.out] at hv4 hg12; have hv4' : v4 = .slice (some ⟨g1, 0, none⟩) (n2 + 2) cap1 := hv4; have hg12' : n2 + 2 ≤ cap1 := hg12; clear hv4 hg12 hg1x; subst hv4'; rw [List.nil_append] at hwr; have HWR := Lib.hid hwr; clear hwr; have hsl1 := slice_hiH g1 0 (n2 + 2) cap1 n2 n2 rfl (by omega)))
    have MD : Mem w g0 g1 (xs ++ [4635118810238550016, 4635189178982727680, 4635259547726905344]) (bs ++ [⟨4635118810238550016, 0⟩, ⟨0, 4635189178982727680⟩]) wD := by
      have cB := c1.trans (BB.out.mono hsz1)
      exact ⟨HWF.out.on BD.out, HWR.out, cB.trans (BD.out.mono cB.size), Nat.le_trans hsz1 hg00, Nat.le_trans cB.size hg10, by omega⟩
    have hX : (xs ++ [4635118810238550016, 4635189178982727680, 4635259547726905344]).length = n + 3 := by rw [List.length_append, HL.out]; rfl
    have hY : (bs ++ [(⟨4635118810238550016, 0⟩ : Hb), ⟨0, 4635189178982727680⟩]).length = n2 + 2 := by rw [List.length_append, HL2.out]; rfl
    have hX0 : (xs ++ [4635118810238550016, 4635189178982727680, 4635259547726905344]).take n = xs := by rw [← HL.out, List.take_left]
    have hY0 : (bs ++ [(⟨4635118810238550016, 0⟩ : Hb), ⟨0, 4635189178982727680⟩]).take n2 = bs := by rw [← HL2.out, List.take_left]
    have RF := fun W (M : Mem w g0 g1 (xs ++ [4635118810238550016, 4635189178982727680, 4635259547726905344]) (bs ++ [⟨4635118810238550016, 0⟩, ⟨0, 4635189178982727680⟩]) W) => M.f.row (n := n) (by omega) (by omega)
    have RH := fun W (M : Mem w g0 g1 (xs ++ [4635118810238550016, 4635189178982727680, 4635259547726905344]) (bs ++ [⟨4635118810238550016, 0⟩, ⟨0, 4635189178982727680⟩]) W) => M.h.hrow' (n := n2) (by omega) (by omega)
    rw [hX0] at RF
    rw [hY0] at RH
    have HRF := Lib.hid RF
    have HRH := Lib.hid RH
    have HMD := Lib.hid MD
    have ok0 : SlOk (some ⟨g0, 0, none⟩) n cap0 := ⟨by omega, fun h => by cases h⟩
    have ok1 : SlOk (some ⟨g1, 0, none⟩) n2 cap1 := ⟨by omega, fun h => by cases h⟩
    clear RF RH MD hX hY hX0 hY0 HWF HWR HOA HOB HOC HOD BA BB BC BD c1 hsz1 hsl0 hsl1 hg00 hg01 hg10 hg11
    refine (quant_any q _ n cap0 xs _ (HRF.out _ HMD.out) ok0 (by omega)).mono ?_
    rintro e W1 ⟨r1, rfl, hq1, b1⟩
    have HQ1 := Lib.hid hq1
    have M1 := Lib.hid (HMD.out.on b1)
    clear hq1 b1 HMD
    go_wp2_with fail
    refine (sum_any _ n cap0 xs _ (HRF.out _ M1.out)).mono ?_
    rintro e W2 ⟨r2, rfl, hq2, b2⟩
    have HQ2 := Lib.hid hq2
    have M2 := Lib.hid (M1.out.on b2)
    clear hq2 b2 M1
    go_wp2_with fail
    refine (buckets_any q _ n2 cap1 bs _ (HRH.out _ M2.out) (by omega)).mono ?_
    rintro e W3 ⟨r3, rfl, hq3, b3⟩
    have HQ3 := Lib.hid hq3
    have M3 := Lib.hid (M2.out.on b3)
    clear hq3 b3 M2
    go_wp2_with fail
    refine (mean_any _ n cap0 xs _ (HRF.out _ M3.out)).mono ?_
    rintro e W4 ⟨r4, rfl, _, b4⟩
    have M4 := Lib.hid (M3.out.on b4)
    clear b4 M3
    go_wp2_with fail
    refine (var_any _ n cap0 xs _ (HRF.out _ M4.out)).mono ?_
    rintro e W5 ⟨r5, rfl, _, b5⟩
    have M5 := Lib.hid (M4.out.on b5)
    clear b5 M4
    go_wp2_with fail
    refine (spread_any _ n cap0 xs _ (HRF.out _ M5.out)).mono ?_
    rintro e W6 ⟨r6, rfl, _, b6⟩
    have M6 := Lib.hid (M5.out.on b6)
    clear b6 M5
    go_wp2_with fail
    refine (smooth_any _ n cap0 xs _ (HRF.out _ M6.out) _ _).mono ?_
    rintro e W7 ⟨r7, m7, rfl, _, hW7⟩
    have M7 := Lib.hid (M6.out.drewN m7)
    rw [← hW7] at M7
    clear hW7 M6
    go_wp2_with fail
    go_loopw [14, 15] (SmpRel xs n W7) (fun _ i _ => n - (intOf i).toNat)
    case atStart => exact ⟨0, by omega, rfl, ownS_nil _ _, Below.refl _ _⟩
    case round =>
      obtain ⟨k, hk, rfl, hown, bw⟩ := hrel
      have HO := Lib.hid hown
      have hszr := bw.size
      clear hown
      by_cases hlt : k < n
      · obtain ⟨b, off, rfl, hcell⟩ := HR.out.2.2 (by omega)
        have c0 := hcell k hlt
        have hblt : b < w.heap.size := World.block_lt_of_cell? w _ c0
        have bwr := M7.out.b.trans (bw.mono M7.out.b.size)
        have k0 : wr.cell? ⟨b, off + k, none⟩ = some (.float .f64 (at0 xs k)) := by rw [bwr.cell (p := ⟨b, off + k, none⟩) hblt]; exact c0
        clear hcell c0 bwr
        go_wp2_with (at_builtin; refine wpList_append_s rfl (.tmp 76) (.tmp 88) rfl W7.heap.size _ _ rfl (HO.out.alloc _) _ _ ⟨(k : Int) * 1000 + 7, at0 xs k, ((k : Int) % 3 == 0)⟩ rfl ⟨World.cell?_alloc_at _ _ _ _ rfl, World.cell?_alloc_at _ _ _ _ rfl, World.cell?_alloc_at _ _ _ _ rfl⟩ (by rw [length_smps]; omega) (by simp; omega) ?_; intro v' w' hown' hg hv)
        have bw' := OwnS.below (HO.out.alloc _) (bw.alloc hszr _) hg (by simp; omega)
        have hsm : smpOf xs k = ⟨(k : Int) * 1000 + 7, at0 xs k, ((k : Int) % 3 == 0)⟩ := by
          have e3 : ((k : Int) % 3 == 0) = decide (k % 3 = 0) := by by_cases h : k % 3 = 0 <;> simp [h] <;> omega
          rw [e3]; rfl
        have hown2 : OwnS W7.heap.size w' v' (smps xs (k + 1)) := by rw [smps_succ, hsm]; exact hown'
        have HO2 := Lib.hid hown2
        clear hown' hg hv hown2 hsm
        go_roundw
        case rel => exact ⟨k + 1, by omega, by go_num, HO2.out, bw'⟩
        case measure => simp [intOf]; omega
      · have hkn : k = n := by omega
        subst hkn
        obtain ⟨a9, c9, hv9, hr9⟩ := OwnS.row HO.out (tS_smps xs hn)
        rw [length_smps] at hv9 hr9
        subst hv9
        have M8 := Lib.hid (M7.out.on bw)
        have R8 := Lib.hid hr9
        clear hr9 HO bw M7
        go_wp2_with fail
        refine (line_any _ _ _ _ _ _ R8.out).mono ?_
        rintro e W9 ⟨x1, x2, rfl, _, _, b9⟩
        have M9 := Lib.hid (M8.out.on b9)
        have R9 := Lib.hid (R8.out.below b9)
        clear b9 M8 R8
        go_wp2_with fail
        refine (turn_any _ _ _ _ _ _ R9.out).mono ?_
        rintro e W10 ⟨x3, x4, rfl, _, _, b10⟩
        have M10 := Lib.hid (M9.out.on b10)
        have R10 := Lib.hid (R9.out.below b10)
        clear b10 M9 R9
        go_wp2_with fail
        refine (beat_any _ _ _ _ _ _ R10.out).mono ?_
        rintro e W11 ⟨x5, rfl, _, b11⟩
        have M11 := Lib.hid (M10.out.on b11)
        have R11 := Lib.hid (R10.out.below b11)
        clear b11 M10 R10
        go_wp2_with fail
        go_loopw [16] (SeenRel k W11) (fun i _ => k - (intOf i).toNat)
        case atStart => exact ⟨0, 0, by omega, rfl, rfl⟩
        case round =>
          obtain ⟨i, nd, hi, rfl, rfl⟩ := hrel
          by_cases hlt2 : i < k
          · obtain ⟨b, off, rfl, hcell⟩ := HR.out.2.2 (by omega)
            have c0 := hcell i hlt2
            have hblt : b < w.heap.size := World.block_lt_of_cell? w _ c0
            have k0 : W11.cell? ⟨b, off + i, none⟩ = some (.float .f64 (at0 xs i)) := by rw [M11.out.b.cell (p := ⟨b, off + i, none⟩) hblt]; exact c0
            obtain ⟨sb, so, rfl, s0, s1, s2⟩ := smp_cells R11.out hlt2
            clear hcell c0
            go_wp2_with fail
            go_quiet ((go_at_call 17; first | exact quiet_of_eq2 (alike_same _ _) | exact quiet_of_eq (alike_same _ _)))
            go_wp2_with fail
            go_roundw
            case rel => exact ⟨i + 1, nd + nq, by omega, by go_num, rfl⟩
            case measure => simp [intOf]; omega
          · have hik : i = k := by omega
            subst hik
            have M12 := Lib.hid (M11.out.drewN nd)
            generalize W11.drewN nd = W12 at M12 ⊢
            clear M11 R11
            go_wp2_with fail
            go_loopw [17] (SeenRel i W12) (fun v _ => i - (intOf v).toNat)
            case atStart => exact ⟨0, 0, by omega, rfl, rfl⟩
            case round =>
              obtain ⟨j, nd2, hj, rfl, rfl⟩ := hrel
              by_cases hlt3 : j < i
              · obtain ⟨b, off, rfl, hcell⟩ := HR.out.2.2 (by omega)
                have c0 := hcell j hlt3
                have hblt : b < w.heap.size := World.block_lt_of_cell? w _ c0
                have k0 : W12.cell? ⟨b, off + j, none⟩ = some (.float .f64 (at0 xs j)) := by rw [M12.out.b.cell (p := ⟨b, off + j, none⟩) hblt]; exact c0
                have k1 : W12.cell? ⟨g0, j, none⟩ = some (.float .f64 (at0 xs j)) := by
                  have := (M12.out.f.2 j (by rw [List.length_append, HL.out]; omega)).1
                  rw [at0_left (by rw [HL.out]; exact hlt3)] at this
                  exact this
                clear hcell c0
                go_wp2_with fail
                go_quiet ((go_at_call 17; first | exact quiet_of_eq2 (alike_same _ _) | exact quiet_of_eq (alike_same _ _)))
                go_wp2_with fail
                go_roundw
                case rel => exact ⟨j + 1, nd2 + nq, by omega, by go_num, rfl⟩
                case measure => simp [intOf]; omega
              · have hji : j = i := by omega
                subst hji
                have M13 := Lib.hid (M12.out.drewN nd2)
                generalize W12.drewN nd2 = W13 at M13 ⊢
                clear M12
                go_wp2_with fail
                go_loopw [18] (SeenRel n2 W13) (fun v _ => n2 - (intOf v).toNat)
                case atStart => exact ⟨0, 0, by omega, rfl, rfl⟩
                case round =>
                  obtain ⟨l, nd3, hl3, rfl, rfl⟩ := hrel
                  by_cases hlt4 : l < n2
                  · obtain ⟨b, off, rfl, hcell⟩ := HR2.out.2.2 (by omega)
                    obtain ⟨c0, c1⟩ := hcell l hlt4
                    have hblt : b < w.heap.size := World.block_lt_of_cell? w _ c0
                    have k0 : W13.cell? ⟨b, off + l * 2, none⟩ = some (.float .f64 (uH bs l)) := by rw [M13.out.b.cell (p := ⟨b, off + l * 2, none⟩) hblt]; exact c0
                    have k1 : W13.cell? ⟨b, off + l * 2 + 1, none⟩ = some (.float .f64 (cH bs l)) := by rw [M13.out.b.cell (p := ⟨b, off + l * 2 + 1, none⟩) hblt]; exact c1
                    have hw := M13.out.h.2 l (by rw [List.length_append, HL2.out]; omega)
                    unfold uH cH at hw
                    rw [hAt_left (by rw [HL2.out]; exact hlt4)] at hw
                    have k2 : W13.cell? ⟨g1, l * 2, none⟩ = some (.float .f64 (uH bs l)) := hw.1
                    have k3 : W13.cell? ⟨g1, l * 2 + 1, none⟩ = some (.float .f64 (cH bs l)) := hw.2.1
                    clear hcell c0 c1 hw
                    go_wp2_with fail
                    go_quiet ((go_at_call 17; first | exact quiet_of_eq2 (alike_same _ _) | exact quiet_of_eq (alike_same _ _)))
                    go_wp2_with fail
                    go_roundw
                    case rel => exact ⟨l + 1, nd3 + nq, by omega, by go_num, rfl⟩
                    case measure => simp [intOf]; omega
                  · have hln : l = n2 := by omega
                    subst hln
                    have M14 := Lib.hid (M13.out.drewN nd3)
                    generalize W13.drewN nd3 = W14 at M14 ⊢
                    clear M13
                    have e0 : W14.cell? ⟨g0, j, none⟩ = some (.float .f64 4635118810238550016) := by
                      have := (M14.out.f.2 (j + 0) (by rw [List.length_append, HL.out]; simp)).1
                      rwa [at0_right HL.out] at this
                    have e1 : W14.cell? ⟨g0, j + 1, none⟩ = some (.float .f64 4635189178982727680) := by
                      have := (M14.out.f.2 (j + 1) (by rw [List.length_append, HL.out]; simp)).1
                      rwa [at0_right HL.out] at this
                    have e2 : W14.cell? ⟨g0, j + 2, none⟩ = some (.float .f64 4635259547726905344) := by
                      have := (M14.out.f.2 (j + 2) (by rw [List.length_append, HL.out]; simp)).1
                      rwa [at0_right HL.out] at this
                    have e3 : W14.cell? ⟨g1, l * 2, none⟩ = some (.float .f64 4635118810238550016) := by
                      have := (M14.out.h.2 (l + 0) (by rw [List.length_append, HL2.out]; simp)).1
                      unfold uH at this
                      rwa [hAt_right HL2.out] at this
                    have e4 : W14.cell? ⟨g1, (l + 1) * 2 + 1, none⟩ = some (.float .f64 4635189178982727680) := by
                      have := (M14.out.h.2 (l + 1) (by rw [List.length_append, HL2.out]; simp)).2.1
                      unfold cH at this
                      rwa [hAt_right HL2.out] at this
                    have f1 : (FloatKind.f64.format.order 4635118810238550016 4635118810238550016 != some .eq) = false := by decide +kernel
                    have f2 : (FloatKind.f64.format.order 4635189178982727680 4635189178982727680 != some .eq) = false := by decide +kernel
                    have f3 : (FloatKind.f64.format.order 4635259547726905344 4635259547726905344 != some .eq) = false := by decide +kernel
                    go_wp2_with fail
                    clear e0 e1 e2 e3 e4 f1 f2 f3
                    have hlX : (xs ++ [4635118810238550016, 4635189178982727680, 4635259547726905344]).length = j + 3 := by rw [List.length_append, HL.out]; rfl
                    have hlY : (bs ++ [(⟨4635118810238550016, 0⟩ : Hb), ⟨0, 4635189178982727680⟩]).length = l + 2 := by rw [List.length_append, HL2.out]; rfl
                    have HLX := Lib.hid hlX
                    have HLY := Lib.hid hlY
                    clear hlX hlY HRF HRH
                    generalize xs ++ [4635118810238550016, 4635189178982727680, 4635259547726905344] = X0 at *
                    generalize bs ++ [(⟨4635118810238550016, 0⟩ : Hb), ⟨0, 4635189178982727680⟩] = Y0 at *
                    go_loopw [19] (OnesRel j w g0 g1 Y0) (fun v _ => j - (intOf v).toNat)
                    case atStart => exact ⟨0, X0, by omega, rfl, HLX.out, fun t ht => by omega, M14.out⟩
                    case round =>
                      clear M14
                      obtain ⟨t, cur, ht, rfl, hcl, hones, hm⟩ := hrel
                      have HM := Lib.hid hm
                      have HON := Lib.hid hones
                      clear hm hones
                      by_cases hlt5 : t < j
                      · obtain ⟨d0, f0⟩ := HM.out.f.2 t (by omega)
                        have htc : t < cur.length := by omega
                        go_wp2_with fail
                        go_roundw
                        case rel => exact ⟨t + 1, cur.set t Go.Fl.w1, by omega, by go_num, by rw [List.length_set]; exact hcl, fun u hu => by
                          rw [at0_set htc]
                          split
                          · rfl
                          · exact HON.out u (by omega), HM.out.setF t Go.Fl.w1 htc⟩
                        case measure => simp [intOf]; omega
                      · have htj : t = j := by omega
                        subst htj
                        have hto : cur.take t = List.replicate t Go.Fl.w1 := take_ones (by omega) HON.out
                        have HTO := Lib.hid hto
                        have HCL := Lib.hid hcl
                        clear hto HON
                        go_wp2_with fail
                        go_loopw [20] (PutRel l w g0 g1 cur) (fun v _ => l - (intOf v).toNat)
                        case atStart => exact ⟨0, Y0, by omega, rfl, HLY.out, HM.out⟩
                        case round =>
                          clear HM
                          obtain ⟨s, cb, hs, rfl, hcb, hm⟩ := hrel
                          have HM := Lib.hid hm
                          clear hm
                          by_cases hlt6 : s < l
                          · have hsc : s < cb.length := by omega
                            obtain ⟨d0, d1, f0, f1⟩ := HM.out.h.2 s hsc
                            go_wp2_with (go_at_call 42; refine (inf_up _).mono ?_; rintro e w' ⟨rfl, rfl⟩)
                            go_roundw
                            case rel => exact ⟨s + 1, _, by omega, by go_num, by rw [List.length_set]; exact hcb, HM.out.setH s ⟨_, _⟩ hsc⟩
                            case measure => simp [intOf]; omega
                          · have hsl : s = l := by omega
                            subst hsl
                            have RO : ∀ W, Mem w g0 g1 cur cb W → Row W (some ⟨g0, 0, none⟩) t (List.replicate t Go.Fl.w1) := fun W M => by
                              have := M.f.row (n := t) (by rw [HCL.out]; omega) (by rw [HCL.out]; omega)
                              rwa [HTO.out] at this
                            have HRO := Lib.hid RO
                            have HWZ := Lib.hid (wz_read (z := (t : Int)) (by omega))
                            have heq : (FloatKind.f64.format.order (wz (t : Int)) (floatOfInt .f64 (t : Int)) == some .eq) = true := ford_eq (isF_notN HWZ.out.1)
                            clear RO
                            go_wp2_with fail
                            refine (sum_any _ t cap0 _ _ (HRO.out _ HM.out)).mono ?_
                            rintro e V1 ⟨z1, rfl, hz1, v1b⟩
                            rw [sum_ones hn] at hz1
                            have := eq_of_class hz1 (isF_notN HWZ.out.1)
                            subst this
                            have N1 := Lib.hid (HM.out.on v1b)
                            clear hz1 v1b HM
                            by_cases ht0 : t = 0
                            · have hz0 : ((t : Int) == 0) = true := by simp; omega
                              clear ht0
                              go_wp2_with fail
                              refine (buckets_any q _ s cap1 (cb.take s) _ (N1.out.h.hrow' (by omega) (by omega)) (by omega)).mono ?_
                              rintro e V3 ⟨z3, rfl, _, v3b⟩
                              have N3 := Lib.hid (N1.out.on v3b)
                              clear v3b N1
                              have hb3 := N3.out.b.size
                              go_wp2_with (at_builtin; refine wpList_append_fs rfl (.tmp 267) (.tmp 268) rfl V3.heap.size _ [] rfl (own_made V3) a t cap xs HS.out rfl (HR.out.below (N3.out.b.alloc hb3 _)) (by simp; omega) (by simp) ?_; intro v9 V4 hown9 hg9 hv9; have HO9 := Lib.hid hown9; have B9 := Lib.hid (Own.below (own_made V3) ((Below.refl _ _).alloc (Nat.le_refl _) _) hg9 (by simp)); clear hown9 hg9 hv9; obtain ⟨a8, c8, hv8, ok8, r8⟩ := Own.row' HO9.out; rw [List.nil_append, HL.out] at hv8 ok8 r8; subst hv8; have OK8 := Lib.hid ok8; have R8 := Lib.hid r8; clear ok8 r8 HO9)
                              have cV4 := Lib.hid (N3.out.b.trans (B9.out.mono hb3))
                              clear B9 N3
                              refine (quant_any q a8 t c8 xs _ R8.out OK8.out (by omega)).mono ?_
                              rintro e V5 ⟨z5, rfl, hz5, v5b⟩
                              have E5 : (cn z5 == cn r1) = true := by rw [hz5, HQ1.out]; simp
                              have HE5 := Lib.hid E5
                              have R9 := Lib.hid (R8.out.below v5b)
                              have cV5 := Lib.hid (cV4.out.trans (v5b.mono cV4.out.size))
                              clear E5 hz5 v5b R8 cV4
                              go_wp2_with (go_at_call 17; refine (alike_any _ _ _).mono ?_; rintro e w' ⟨rfl, rfl⟩; rw [HE5.out])
                              refine (sum_any a8 t c8 xs _ R9.out).mono ?_
                              rintro e V6 ⟨z6, rfl, hz6, v6b⟩
                              have E6 : (cn z6 == cn r2) = true := by rw [hz6, HQ2.out]; simp
                              have HE6 := Lib.hid E6
                              have cV6 := Lib.hid (cV5.out.trans (v6b.mono cV5.out.size))
                              have hb6 := cV6.out.size
                              clear E6 hz6 v6b R9 cV5
                              go_wp2_with (first | (go_at_call 17; refine (alike_any _ _ _).mono ?_; rintro e w' ⟨rfl, rfl⟩; rw [HE6.out]) | (at_builtin; refine wpList_append_hs_w rfl (.tmp 286) (.tmp 287) rfl V6.heap.size _ [] rfl (ownH_made V6) a2 s cap2 bs HS2.out rfl (HR2.out.below (cV6.out.alloc hb6 _)) (by simp; omega) (by simp) ?_; intro v7 V7 hown7 hg7 hv7; have HO7 := Lib.hid hown7; have B7 := Lib.hid (OwnH.below (ownH_made V6) ((Below.refl _ _).alloc (Nat.le_refl _) _) hg7 (by simp)); clear hown7 hg7 hv7; obtain ⟨a6, c6, hv6, ok6, r6'⟩ := OwnH.row' HO7.out; rw [List.nil_append, HL2.out] at hv6 ok6 r6'; subst hv6; have R6 := Lib.hid r6'; clear ok6 r6' HO7))
                              have cV7 := Lib.hid (cV6.out.trans (B7.out.mono hb6))
                              clear B7 cV6
                              refine (buckets_any q a6 s c6 bs _ R6.out (by omega)).mono ?_
                              rintro e V8 ⟨z8, rfl, hz8, v8b⟩
                              have E8 : (cn z8 == cn r3) = true := by rw [hz8, HQ3.out]; simp
                              have HE8 := Lib.hid E8
                              have cV8 := Lib.hid (cV7.out.trans (v8b.mono cV7.out.size))
                              clear E8 hz8 v8b R6 cV7
                              go_wp2_with (go_at_call 17; refine (alike_any _ _ _).mono ?_; rintro e w' ⟨rfl, rfl⟩; rw [HE8.out])
                              go_ret
                              exact ⟨rfl, cV8.out⟩
                            · have hz0 : ((t : Int) == 0) = false := by simp; omega
                              have hmn := mean_whole (List.replicate t 1) (n := t) List.length_replicate (by omega) (by rw [List.length_replicate, (sI_ones t t (Nat.le_refl _)).2]; omega)
                              rw [← ones_map, (sI_ones t t (Nat.le_refl _)).1] at hmn
                              have HMN := Lib.hid hmn
                              clear hmn
                              go_wp2_with fail
                              refine (mean_any _ t cap0 _ _ (HRO.out _ N1.out)).mono ?_
                              rintro e V2 ⟨z2, rfl, hz2, v2b⟩
                              rw [HMN.out] at hz2
                              have hd1 := div_self (by omega) hn hz2
                              have hd1' : (FloatKind.f64.format.order z2 4607182418800017408 == some .eq) = true := hd1
                              have N2 := Lib.hid (N1.out.on v2b)
                              clear hz2 v2b N1 hd1
                              go_wp2_with fail
                              refine (buckets_any q _ s cap1 (cb.take s) _ (N2.out.h.hrow' (by omega) (by omega)) (by omega)).mono ?_
                              rintro e V3 ⟨z3, rfl, _, v3b⟩
                              have N3 := Lib.hid (N2.out.on v3b)
                              clear v3b N2
                              have hb3 := N3.out.b.size
                              go_wp2_with (at_builtin; refine wpList_append_fs rfl (.tmp 267) (.tmp 268) rfl V3.heap.size _ [] rfl (own_made V3) a t cap xs HS.out rfl (HR.out.below (N3.out.b.alloc hb3 _)) (by simp; omega) (by simp) ?_; intro v9 V4 hown9 hg9 hv9; have HO9 := Lib.hid hown9; have B9 := Lib.hid (Own.below (own_made V3) ((Below.refl _ _).alloc (Nat.le_refl _) _) hg9 (by simp)); clear hown9 hg9 hv9; obtain ⟨a8, c8, hv8, ok8, r8⟩ := Own.row' HO9.out; rw [List.nil_append, HL.out] at hv8 ok8 r8; subst hv8; have OK8 := Lib.hid ok8; have R8 := Lib.hid r8; clear ok8 r8 HO9)
                              have cV4 := Lib.hid (N3.out.b.trans (B9.out.mono hb3))
                              clear B9 N3
                              refine (quant_any q a8 t c8 xs _ R8.out OK8.out (by omega)).mono ?_
                              rintro e V5 ⟨z5, rfl, hz5, v5b⟩
                              have E5 : (cn z5 == cn r1) = true := by rw [hz5, HQ1.out]; simp
                              have HE5 := Lib.hid E5
                              have R9 := Lib.hid (R8.out.below v5b)
                              have cV5 := Lib.hid (cV4.out.trans (v5b.mono cV4.out.size))
                              clear E5 hz5 v5b R8 cV4
                              go_wp2_with (go_at_call 17; refine (alike_any _ _ _).mono ?_; rintro e w' ⟨rfl, rfl⟩; rw [HE5.out])
                              refine (sum_any a8 t c8 xs _ R9.out).mono ?_
                              rintro e V6 ⟨z6, rfl, hz6, v6b⟩
                              have E6 : (cn z6 == cn r2) = true := by rw [hz6, HQ2.out]; simp
                              have HE6 := Lib.hid E6
                              have cV6 := Lib.hid (cV5.out.trans (v6b.mono cV5.out.size))
                              have hb6 := cV6.out.size
                              clear E6 hz6 v6b R9 cV5
                              go_wp2_with (first | (go_at_call 17; refine (alike_any _ _ _).mono ?_; rintro e w' ⟨rfl, rfl⟩; rw [HE6.out]) | (at_builtin; refine wpList_append_hs_w rfl (.tmp 286) (.tmp 287) rfl V6.heap.size _ [] rfl (ownH_made V6) a2 s cap2 bs HS2.out rfl (HR2.out.below (cV6.out.alloc hb6 _)) (by simp; omega) (by simp) ?_; intro v7 V7 hown7 hg7 hv7; have HO7 := Lib.hid hown7; have B7 := Lib.hid (OwnH.below (ownH_made V6) ((Below.refl _ _).alloc (Nat.le_refl _) _) hg7 (by simp)); clear hown7 hg7 hv7; obtain ⟨a6, c6, hv6, ok6, r6'⟩ := OwnH.row' HO7.out; rw [List.nil_append, HL2.out] at hv6 ok6 r6'; subst hv6; have R6 := Lib.hid r6'; clear ok6 r6' HO7))
                              have cV7 := Lib.hid (cV6.out.trans (B7.out.mono hb6))
                              clear B7 cV6
                              refine (buckets_any q a6 s c6 bs _ R6.out (by omega)).mono ?_
                              rintro e V8 ⟨z8, rfl, hz8, v8b⟩
                              have E8 : (cn z8 == cn r3) = true := by rw [hz8, HQ3.out]; simp
                              have HE8 := Lib.hid E8
                              have cV8 := Lib.hid (cV7.out.trans (v8b.mono cV7.out.size))
                              clear E8 hz8 v8b R6 cV7
                              go_wp2_with (go_at_call 17; refine (alike_any _ _ _).mono ?_; rintro e w' ⟨rfl, rfl⟩; rw [HE8.out])
                              go_ret
                              exact ⟨rfl, cV8.out⟩
end Go.Proofs.Ytllphokepjekpaa
