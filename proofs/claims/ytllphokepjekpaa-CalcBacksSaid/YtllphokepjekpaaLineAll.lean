/- slices.ContainsFunc over samples, asked whether a value is another one than the first. The line of least squares, as a plain function of classes; totals in memory. calc.Line: what it answers. -/
import Derived.Test.YtllphokepjekpaaMeanAll
import Derived.Test.YtllphokepjekpaaSamp
import Derived.Test.YtllphokepjekpaaBox
namespace Go.Proofs.Ytllphokepjekpaa
open Go.Fl Go.Rel Go.RowKit

/-- Are two classes unequal, as '!=' holds them? -/
def fne (x y : Nat) : Bool := ford x y != some .eq

def anyNe (vs : List Nat) (f : Nat) : Bool := vs.any fun v => fne v f

theorem anyNe_true {ys : List Nat} {f k : Nat} (h : k < ys.length) (hk : fne (at0 ys k) f = true) : anyNe ys f = true :=
  List.any_eq_true.2 ⟨_, by simp [at0, List.getD, h], hk⟩

theorem anyNe_false {ys : List Nat} {f : Nat} (h : ∀ j, j < ys.length → fne (at0 ys j) f = false) : anyNe ys f = false := by
  unfold anyNe
  rw [List.any_eq_false]
  intro x hx
  obtain ⟨j, hj, rfl⟩ := List.mem_iff_getElem.1 hx
  have := h j hj
  simp [at0, List.getD, hj] at this
  simp [this]

/-- The values' classes. -/
def vcs (ss : List Smp) : List Nat := ss.map fun s => cn s.v
theorem at0_vcs (ss : List Smp) {i : Nat} (h : i < ss.length) : at0 (vcs ss) i = cn (vS ss i) := by
  simp [vcs, at0, vS, sAt, List.getD, h]
theorem length_vcs (ss : List Smp) : (vcs ss).length = ss.length := by simp [vcs]

set_option maxHeartbeats 1000000 in
theorem line1_any (t : Int) (v f B : Nat) (s : Bool) (w : World) (hB : w.cell? ⟨B, 0, none⟩ = some (.float .f64 f)) :
    Calls Try.prog 62 #[.agg #[.int .i64 t, .float .f64 v, .bool s], .pointer (some ⟨B, 0, none⟩)] w fun e w' => e = .returned (.bool (fne (cn v) (cn f))) ∧ Below w.heap.size w w' := by
  have hlt : B < w.heap.size := World.block_lt_of_cell? w ⟨B, 0, none⟩ hB
  have ho : (FloatKind.f64.format.order v f != some .eq) = fne (cn v) (cn f) := by rw [order_cn]; rfl
  have Ho := Lib.hid ho
  clear ho
  go_enter Try.func62, Try.ntmps62
  go_wp2
  go_ret
  exact ⟨ret_bool Ho.out, (Below.refl _ _).alloc (Nat.le_refl _) _⟩

def IdxB (b : Bool) (w : World) (e : Ending) (w' : World) : Prop := ∃ r : Int, e = .returned (.int .i64 r) ∧ decide (0 ≤ r) = b ∧ -1 ≤ r ∧ Below w.heap.size w w'

set_option maxHeartbeats 1000000 in
theorem index_ne (a : Option Addr) (n cap : Nat) (ss : List Smp) (w : World) (hr : SRow w a n ss) (B f : Nat) (hB : w.cell? ⟨B, 0, none⟩ = some (.float .f64 f)) :
    Calls Try.prog 110 #[.slice a n cap, .func (.func 62) #[] #[.pointer (some ⟨B, 0, none⟩)]] w (IdxB (anyNe (vcs ss) (cn f)) w) := by
  obtain ⟨hl, hm, hwf, hc⟩ := hr
  have hBlt : B < w.heap.size := World.block_lt_of_cell? w ⟨B, 0, none⟩ hB
  go_enter Try.func110, Try.ntmps110
  go_wp2_with fail
  go_loopw [8] (fun i wr => ∃ k : Nat, k ≤ n ∧ i = .int .i64 (k : Int) ∧ Hid (∀ j, j < k → fne (at0 (vcs ss) j) (cn f) = false) ∧ Below w.heap.size w wr) (fun i _ => n - (intOf i).toNat)
  case atStart => exact ⟨0, by omega, rfl, (fun j hj => by omega), Below.refl _ _⟩
  case round =>
    obtain ⟨k, hk, rfl, H, bw⟩ := hrel
    by_cases hlt : k < n
    · obtain ⟨b, off, rfl, hcell⟩ := hc (by omega)
      obtain ⟨c0, c1, c2⟩ := hcell k hlt
      have hblt : b < w.heap.size := World.block_lt_of_cell? w _ c0
      have k0 : wr.cell? ⟨b, off + k * 3, none⟩ = some (.int .i64 (tS ss k)) := by rw [bw.cell (p := ⟨b, off + k * 3, none⟩) hblt]; exact c0
      have k1 : wr.cell? ⟨b, off + k * 3 + 1, none⟩ = some (.float .f64 (vS ss k)) := by rw [bw.cell (p := ⟨b, off + k * 3 + 1, none⟩) hblt]; exact c1
      have k2 : wr.cell? ⟨b, off + k * 3 + 2, none⟩ = some (.bool (sS ss k)) := by rw [bw.cell (p := ⟨b, off + k * 3 + 2, none⟩) hblt]; exact c2
      have kB : wr.cell? ⟨B, 0, none⟩ = some (.float .f64 f) := by rw [bw.cell (p := ⟨B, 0, none⟩) hBlt]; exact hB
      clear hcell hc c0 c1 c2
      have Hat := Lib.hid (at0_vcs ss (i := k) (by omega))
      have hsz := bw.size
      have HL := Lib.hid (line1_any (tS ss k) (vS ss k) f B (sS ss k) wr kB)
      cases hi : fne (cn (vS ss k)) (cn f)
      · have Hi := Lib.hid hi
        clear hi
        go_wp2_with fail
        refine Calls.mono HL.out ?_
        rintro e w' ⟨rfl, b1⟩
        rw [Hi.out]
        have b2 := bw.trans (b1.mono hsz)
        go_wp2_with fail
        go_roundw
        case rel =>
          refine ⟨k + 1, by omega, by go_num, (fun j hj => ?_), b2⟩
          by_cases hjk : j = k
          · rw [hjk, Hat.out]; exact Hi.out
          · exact H.out j (by omega)
        case measure => simp [intOf]; omega
      · have Hi := Lib.hid hi
        clear hi
        have hany : anyNe (vcs ss) (cn f) = true := anyNe_true (k := k) (by rw [length_vcs]; omega) (by rw [Hat.out]; exact Hi.out)
        have Hany := Lib.hid hany
        clear hany
        go_wp2_with fail
        refine Calls.mono HL.out ?_
        rintro e w' ⟨rfl, b1⟩
        rw [Hi.out]
        have b2 := bw.trans (b1.mono hsz)
        go_wp2_with fail
        go_ret
        exact ⟨k, rfl, by rw [Hany.out]; simp, by omega, b2⟩
    · have hk' : k = n := by omega
      subst hk'
      have hany : anyNe (vcs ss) (cn f) = false := anyNe_false (fun j hj => H.out j (by rw [length_vcs] at hj; omega))
      have Hany := Lib.hid hany
      clear hany
      go_wp2_with fail
      go_ret
      exact ⟨-1, rfl, by rw [Hany.out]; decide, by omega, bw⟩

theorem contains_ne (a : Option Addr) (n cap : Nat) (ss : List Smp) (w : World) (hr : SRow w a n ss) (B f : Nat) (hB : w.cell? ⟨B, 0, none⟩ = some (.float .f64 f)) :
    Calls Try.prog 61 #[.slice a n cap, .func (.func 62) #[] #[.pointer (some ⟨B, 0, none⟩)]] w fun e w' => e = .returned (.bool (anyNe (vcs ss) (cn f))) ∧ Below w.heap.size w w' := by
  go_enter Try.func61, Try.ntmps61
  go_wp2_with fail
  refine (index_ne a n cap ss _ hr B f hB).mono ?_
  rintro e w1 ⟨r, rfl, hb, hr1, b1⟩
  have Hb := Lib.hid hb
  clear hb
  go_wp2_with fail
  go_ret
  exact ⟨ret_bool (by rw [← Hb.out]), b1⟩

end Go.Proofs.Ytllphokepjekpaa

namespace Go.Bk
open Go.RowKit

theorem wpList_store_box0 {P : Program} {ops : Array Oper} {rest : List Oper} {o : Oper} {a : Act} {w0 : World} {Q : Exit → Act → World → Prop} (hgd : o.guard = none) (ty : TypeId) (x y : Operand) (ho : o.op = .store ty x y)
    (vals zeros : Array Value) (t : TypeId) (hx : a.eval x = .pointer (some ⟨w0.heap.size, 0, none⟩)) (hy : a.eval y = .agg vals)
    (hi : (P.info? ty).map (·.size) = some vals.size) (hold : zeros.size = vals.size) (h1 : vals.all (·.oneCell') = true)
    (h : ∀ W, Is W w0.heap.size vals t → Below w0.heap.size w0 W → wpList P ops Q rest (a.put o.dst undef) W) : wpList P ops Q (o :: rest) a (w0.alloc (.cells zeros t)) := by
  have hm : Is (w0.alloc (.cells zeros t)) w0.heap.size zeros t := Is.made w0 zeros t
  refine wpList_store_row hgd ty x y ho w0.heap.size vals hx hy t zeros hm hi hold h1 ?_
  exact h _ (hm.setRow vals) (below_setRow ((Below.refl _ _).alloc (Nat.le_refl _) _) (Nat.le_refl _) vals)

end Go.Bk
namespace Go.Proofs.Ytllphokepjekpaa
open Go.Fl Go.Rel Go.RowKit

/-- Whole ms in seconds. -/
def secF (z : Int) : Nat := fdiv (floatOfInt .f64 z) 4652007308841189376
/-- The samples' times in seconds, less that of 'at'. -/
def tcs (z : Int) (ss : List Smp) : List Nat := ss.map fun s => secF (wrap64 (s.t - z))
def muls (xs ys : List Nat) : List Nat := List.zipWith fmul xs ys

theorem at0_tcs (z : Int) (ss : List Smp) {i : Nat} (h : i < ss.length) : at0 (tcs z ss) i = secF (wrap64 (tS ss i - z)) := by
  simp [tcs, at0, tS, sAt, List.getD, h]
theorem length_tcs (z : Int) (ss : List Smp) : (tcs z ss).length = ss.length := by simp [tcs]
theorem at0_muls {xs ys : List Nat} {i : Nat} (h : i < xs.length) (h' : i < ys.length) : at0 (muls xs ys) i = fmul (at0 xs i) (at0 ys i) := by
  simp [muls, at0, List.getD, List.getElem?_zipWith, h, h']
theorem length_muls {xs ys : List Nat} (h : ys.length = xs.length) : (muls xs ys).length = xs.length := by simp [muls, h]

def levelS (vs : List Nat) : Bool := vs.length == 1 || !anyNe vs (at0 vs 0)

/-- Slope and value, from the times and the values. -/
def lineC (ts vs : List Nat) : Nat × Nat :=
  let n := nfl ts.length
  let sx := sumS ts
  let sy := sumS vs
  let c := fsub (sumS (muls ts vs)) (fdiv (fmul sx sy) n)
  let d := fsub (sumS (muls ts ts)) (fdiv (fmul sx sx) n)
  let slope := fdiv c d
  (slope, fsub (fdiv sy n) (fdiv (fmul slope sx) n))

def lineS (ts vs : List Nat) : Nat × Nat :=
  if vs.length = 0 then (nanc, nanc) else if levelS vs = true then (if finf (at0 vs 0) = true then (nanc, nanc) else (0, at0 vs 0)) else lineC ts vs

/-- Two floats of these classes; what was there stays. -/
def FB2 (s : Nat × Nat) (w : World) (e : Ending) (w' : World) : Prop := ∃ r q, e = .returned (.tuple #[.float .f64 r, .float .f64 q]) ∧ cn r = s.1 ∧ cn q = s.2 ∧ Below w.heap.size w w'

theorem TotIs.below {w w' : World} {B k : Nat} {st : Nat × Nat} (h : TotIs w B st) (hb : Below k w w') (hk : B < k) : TotIs w' B st := by
  obtain ⟨s, c, hi, h1, h2⟩ := h
  exact ⟨s, c, hi.below hb hk, h1, h2⟩

/-- A total takes one number more; the others stay. -/
theorem add_tot {w : World} {B : Nat} {st : Nat × Nat} (h : TotIs w B st) (v c : Nat) (hc : cn v = c) : 
    Calls Try.prog 55 #[.pointer (some ⟨B, 0, none⟩), .float .f64 v] w fun e w' => e = .returned (.tuple #[]) ∧ TotIs w' B (addT st c) ∧ (∀ B' st', B' ≠ B → TotIs w B' st' → TotIs w' B' st') ∧ (∀ k, k ≤ B → ∀ w0, Below k w0 w → Below k w0 w') ∧
      (∀ p : Addr, p.block ≠ B → w'.cell? p = w.cell? p) ∧ w'.heap.size = w.heap.size := by
  obtain ⟨s, l, hi, h1, h2⟩ := h
  refine (add_any B s l v w hi).mono ?_
  rintro e w' ⟨rfl, s1, c1, m, rfl, g1, g2⟩
  have est : (cn s, cn l) = st := Prod.ext h1 h2
  rw [est, hc] at g1 g2
  refine ⟨rfl, ⟨s1, c1, ?_, g1, g2⟩, fun B' st' hne hT => ?_, fun k hk w0 hb => ?_, fun p hp => ?_, ?_⟩
  · exact ((hi.set 1 _).set 0 _).drewN _
  · obtain ⟨s2, c2, hi2, e1, e2⟩ := hT
    exact ⟨s2, c2, ((hi2.other (a := ⟨B, 1, none⟩) (by exact fun h => hne h.symm) _).other (a := ⟨B, 0, none⟩) (by exact fun h => hne h.symm) _).drewN _, e1, e2⟩
  · exact ((hb.setCell hk _).setCell hk _).drewN' _
  · show (((w.setCell ⟨B, 1, none⟩ _).setCell ⟨B, 0, none⟩ _)).cell? p = _
    rw [World.cell?_setCell_other _ _ _ _ (fun h => hp (by rw [← h])), World.cell?_setCell_other _ _ _ _ (fun h => hp (by rw [← h]))]
  · show (((w.setCell ⟨B, 1, none⟩ _).setCell ⟨B, 0, none⟩ _)).heap.size = _
    simp

theorem answer_tot {w : World} {B : Nat} {st : Nat × Nat} (h : TotIs w B st) : Calls Try.prog 56 #[.pointer (some ⟨B, 0, none⟩)] w (FRet (fadd st.1 st.2) w) := by
  obtain ⟨s, c, hi, h1, h2⟩ := h
  rw [← h1, ← h2]
  exact answer_any B s c w hi

theorem TotIs.drewN {w : World} {B : Nat} {st : Nat × Nat} (h : TotIs w B st) (n : Nat) : TotIs (w.drewN n) B st := by
  obtain ⟨s, c, hi, h1, h2⟩ := h
  exact ⟨s, c, hi.drewN n, h1, h2⟩

end Go.Proofs.Ytllphokepjekpaa

namespace Go.Proofs.Ytllphokepjekpaa
open Go.Fl Go.Rel Go.RowKit

def LineRel (ts vs : List Nat) (n N : Nat) (w : World) (i : Value) (wr : World) : Prop :=
  ∃ k, k ≤ n ∧ i = .int .i64 (k : Int) ∧ TotIs wr N (totT ts k) ∧ TotIs wr (N + 1) (totT vs k) ∧ TotIs wr (N + 2) (totT (muls ts vs) k) ∧ TotIs wr (N + 3) (totT (muls ts ts) k) ∧ Below w.heap.size w wr ∧ N + 4 ≤ wr.heap.size

set_option maxHeartbeats 1000000 in
set_option maxRecDepth 100000 in
theorem line_none (cap : Nat) (a : Option Addr) (z : Int) (w : World) : Calls Try.prog 26 #[.slice a 0 cap, .int .i64 z] w (FB2 (nanc, nanc) w) := by
  go_enter Try.func26, Try.ntmps26
  go_wp2_with (go_at_call 52; refine (nan_any _).mono ?_; rintro e w' ⟨rfl, rfl⟩)
  go_ret2
  exact ⟨nanc, nanc, rfl, cn_nanc, cn_nanc, Below.refl _ _⟩

set_option maxHeartbeats 1000000 in
set_option maxRecDepth 100000 in
theorem line_level (a : Option Addr) (n cap : Nat) (ss : List Smp) (z : Int) (w : World) (hr : SRow w a n ss) (h0 : 0 < n) (hlv : levelS (vcs ss) = true) :
    Calls Try.prog 26 #[.slice a n cap, .int .i64 z] w (FB2 (if finf (at0 (vcs ss) 0) = true then (nanc, nanc) else (0, at0 (vcs ss) 0)) w) := by
  have hl := hr.1
  obtain ⟨b, off, rfl, hcell⟩ := hr.2.2.2 h0
  have c1 : w.cell? ⟨b, off + 1, none⟩ = some (.float .f64 (vS ss 0)) := by simpa using (hcell 0 h0).2.1
  have hat := at0_vcs ss (i := 0) (by omega)
  rw [hat]
  have hn0 : ((n : Int) == 0) = false := by simp; omega
  have hmf : ∀ (fn : Fn) (first cap : Array Value) (w : World), (Instr.makeFunc fn first cap).run Try.prog w = .ok (.func fn first cap) w := fun _ _ _ _ => rfl
  have hblt : b < w.heap.size := World.block_lt_of_cell? w _ c1
  have hor : n = 1 ∨ anyNe (vcs ss) (cn (vS ss 0)) = false := by
    simp only [levelS, Bool.or_eq_true, beq_iff_eq, Bool.not_eq_true', length_vcs, hl, hat] at hlv
    exact hlv
  clear hlv hat
  have Hl := Lib.hid hl
  clear hl hcell
  generalize hv : vS ss 0 = v at c1 hor ⊢
  have Hv := Lib.hid hv
  clear hv
  by_cases h1 : n = 1
  · have hn1 : ((n : Int) == 1) = true := by simp; omega
    clear hor
    cases hi : finf (cn v)
    all_goals
      have Hi := Lib.hid hi
      clear hi
      go_enter Try.func26, Try.ntmps26
      go_wp2_with (first | (go_at_call 57; refine (infinite_any _ _).mono ?_; rintro e w' ⟨rfl, rfl⟩; rw [Hi.out]) | (go_at_call 52; refine (nan_any _).mono ?_; rintro e w' ⟨rfl, rfl⟩))
      all_goals try go_region
      all_goals try go_wp2_with fail
      go_ret2
    · exact ⟨_, _, rfl, cn_zero, rfl, ((Below.refl _ _).alloc (Nat.le_refl _) _).drewN' 1⟩
    · exact ⟨_, _, rfl, cn_nanc, cn_nanc, (Below.refl _ _).alloc (Nat.le_refl _) _⟩
  · have hn1 : ((n : Int) == 1) = false := by simp; omega
    have hany := hor.resolve_left h1
    clear hor h1
    have Hany := Lib.hid hany
    clear hany
    have hbw : Below w.heap.size w (w.alloc (.cells #[.float .f64 v] 23)) := (Below.refl _ _).alloc (Nat.le_refl _) _
    have hr1 := hr.below hbw
    have hB : (w.alloc (.cells #[.float .f64 v] 23)).cell? ⟨w.heap.size, 0, none⟩ = some (.float .f64 v) := by rw [World.cell?_alloc_at _ _ _ _ rfl]; rfl
    cases hi : finf (cn v)
    all_goals
      have Hi := Lib.hid hi
      clear hi
      go_enter Try.func26, Try.ntmps26
      go_wp2_with fail
      refine (contains_ne _ n cap ss _ hr1 w.heap.size v hB).mono ?_
      rintro e w1 ⟨rfl, b1⟩
      rw [Hany.out]
      have hbox : w1.cell? ⟨w.heap.size, 0, none⟩ = some (.float .f64 v) := by rw [b1.cell (p := ⟨w.heap.size, 0, none⟩) (by simp)]; exact hB
      have b2 : Below w.heap.size w w1 := hbw.trans (b1.mono (by simp))
      clear hB b1 hbw hr1 hr
      go_wp2_with (first | (go_at_call 57; refine (infinite_any _ _).mono ?_; rintro e w' ⟨rfl, rfl⟩; rw [Hi.out]) | (go_at_call 52; refine (nan_any _).mono ?_; rintro e w' ⟨rfl, rfl⟩))
      all_goals try go_region
      all_goals try go_wp2_with fail
      go_ret2
    · exact ⟨_, _, rfl, cn_zero, rfl, b2.drewN' 1⟩
    · exact ⟨_, _, rfl, cn_nanc, cn_nanc, b2⟩

/-- A new total. -/
def tot0 : Obj := .cells #[.float .f64 0, .float .f64 0] 61
theorem tots4 (w1 : World) : TotIs ((((w1.alloc tot0).alloc tot0).alloc tot0).alloc tot0) w1.heap.size (0, 0) ∧ TotIs ((((w1.alloc tot0).alloc tot0).alloc tot0).alloc tot0) (w1.heap.size + 1) (0, 0) ∧
    TotIs ((((w1.alloc tot0).alloc tot0).alloc tot0).alloc tot0) (w1.heap.size + 2) (0, 0) ∧ TotIs ((((w1.alloc tot0).alloc tot0).alloc tot0).alloc tot0) (w1.heap.size + 3) (0, 0) := by
  have h : ∀ w : World, Bk.Is (w.alloc tot0) w.heap.size #[.float .f64 0, .float .f64 0] 61 := fun w => Bk.Is.made w _ _
  refine ⟨⟨0, 0, (((h w1).alloc _).alloc _).alloc _, cn_zero, cn_zero⟩, ⟨0, 0, ?_, cn_zero, cn_zero⟩, ⟨0, 0, ?_, cn_zero, cn_zero⟩, ⟨0, 0, ?_, cn_zero, cn_zero⟩⟩
  · have := ((h (w1.alloc tot0)).alloc tot0).alloc tot0
    rwa [World.size_alloc] at this
  · have := (h ((w1.alloc tot0).alloc tot0)).alloc tot0
    rwa [World.size_alloc, World.size_alloc] at this
  · have := h (((w1.alloc tot0).alloc tot0).alloc tot0)
    rwa [World.size_alloc, World.size_alloc, World.size_alloc] at this

set_option maxHeartbeats 4000000 in
set_option maxRecDepth 100000 in
theorem line_calc (a : Option Addr) (n cap : Nat) (ss : List Smp) (z : Int) (w : World) (hr : SRow w a n ss) (h0 : 0 < n) (hlv : levelS (vcs ss) = false) :
    Calls Try.prog 26 #[.slice a n cap, .int .i64 z] w (FB2 (lineC (tcs z ss) (vcs ss)) w) := by
  have hl := hr.1
  have hm := hr.2.1
  have hc := hr.2.2.2
  obtain ⟨b, off, rfl, hcell⟩ := hr.2.2.2 h0
  have c1 : w.cell? ⟨b, off + 1, none⟩ = some (.float .f64 (vS ss 0)) := by simpa using (hcell 0 h0).2.1
  have hat := at0_vcs ss (i := 0) (by omega)
  have hn0 : ((n : Int) == 0) = false := by simp; omega
  have hmf : ∀ (fn : Fn) (first cap : Array Value) (w : World), (Instr.makeFunc fn first cap).run Try.prog w = .ok (.func fn first cap) w := fun _ _ _ _ => rfl
  have hblt : b < w.heap.size := World.block_lt_of_cell? w _ c1
  have hor : n ≠ 1 ∧ anyNe (vcs ss) (cn (vS ss 0)) = true := by
    simp only [levelS, Bool.or_eq_false_iff, beq_eq_false_iff_ne, Bool.not_eq_false', length_vcs, hl, hat] at hlv
    exact hlv
  obtain ⟨h1, hany⟩ := hor
  have hn1 : ((n : Int) == 1) = false := by simp; omega
  clear hlv hat h1
  have Hl := Lib.hid hl
  have HC := Lib.hid hcell
  have Hany := Lib.hid hany
  clear hl hcell hany hc
  generalize hv : vS ss 0 = v at c1 Hany
  have Hv := Lib.hid hv
  clear hv
  have hbw : Below w.heap.size w (w.alloc (.cells #[.float .f64 v] 23)) := (Below.refl _ _).alloc (Nat.le_refl _) _
  have hr1 := hr.below hbw
  have hB : (w.alloc (.cells #[.float .f64 v] 23)).cell? ⟨w.heap.size, 0, none⟩ = some (.float .f64 v) := by rw [World.cell?_alloc_at _ _ _ _ rfl]; rfl
  go_enter Try.func26, Try.ntmps26
  go_wp2_with fail
  refine (contains_ne _ n cap ss _ hr1 w.heap.size v hB).mono ?_
  rintro e w1 ⟨rfl, b1⟩
  rw [Hany.out]
  have b2 : Below w.heap.size w w1 := hbw.trans (b1.mono (by simp))
  have hlt1 : w.heap.size < w1.heap.size := Nat.lt_of_lt_of_le (by simp) b1.size
  clear hB b1 hbw hr1 hr c1
  go_wp2_with fail
  go_loopw [44] (LineRel (tcs z ss) (vcs ss) n w1.heap.size w) (fun i _ => n - (intOf i).toNat)
  case atStart =>
    obtain ⟨t0, t1, t2, t3⟩ := tots4 w1
    exact ⟨0, by omega, rfl, t0, t1, t2, t3, (((b2.alloc (by omega) _).alloc (by simp; omega) _).alloc (by simp; omega) _).alloc (by simp; omega) _, by simp⟩
  case round =>
    obtain ⟨k, hk, rfl, t0, t1, t2, t3, bw, hsz⟩ := hrel
    have T0 := Lib.hid t0
    have T1 := Lib.hid t1
    have T2 := Lib.hid t2
    have T3 := Lib.hid t3
    clear t0 t1 t2 t3
    by_cases hlt : k < n
    · obtain ⟨c0, c1, c2⟩ := HC.out k hlt
      have k0 : wr.cell? ⟨b, off + k * 3, none⟩ = some (.int .i64 (tS ss k)) := by rw [bw.cell (p := ⟨b, off + k * 3, none⟩) hblt]; exact c0
      have k1 : wr.cell? ⟨b, off + k * 3 + 1, none⟩ = some (.float .f64 (vS ss k)) := by rw [bw.cell (p := ⟨b, off + k * 3 + 1, none⟩) hblt]; exact c1
      have k2 : wr.cell? ⟨b, off + k * 3 + 2, none⟩ = some (.bool (sS ss k)) := by rw [bw.cell (p := ⟨b, off + k * 3 + 2, none⟩) hblt]; exact c2
      clear c0 c1 c2
      have HatV := Lib.hid (at0_vcs ss (i := k) (by rw [Hl.out]; exact hlt))
      have HatT := Lib.hid (at0_tcs z ss (i := k) (by rw [Hl.out]; exact hlt))
      generalize htt : tS ss k = tt at k0 HatT
      generalize hvv : vS ss k = vv at k1 HatV
      generalize hbb : sS ss k = bb at k2
      have Hgen := Lib.hid (And.intro htt (And.intro hvv hbb))
      clear htt hvv hbb
      go_wp2_with (first | (refine Bk.is_store 35 rfl ?_; refine Bk.wpList_store_box0 rfl 35 _ _ rfl #[.int .i64 tt, .float .f64 vv, .bool bb] #[.int .i64 0, .float .f64 0, .bool false] 35 rfl rfl (by kernel_rfl) rfl rfl ?_; intro W hI hbW; have q0 := hI.cell 0; have q1 := hI.cell 1; simp at q0 q1) | (refine wpList_fop _ _ _ _ _ _ _ rfl rfl rfl ?_; intro r nq hr9; have Hr9 := Lib.hid hr9; clear hr9))
      have hbx : Below wr.heap.size wr ((wr.alloc (.cells #[.int .i64 tt, .float .f64 vv, .bool bb] 35)).drewN nq) := ((Below.refl _ _).alloc (Nat.le_refl _) _).drewN' _
      have q1 : ((wr.alloc (.cells #[.int .i64 tt, .float .f64 vv, .bool bb] 35)).drewN nq).cell? ⟨wr.heap.size, 1, none⟩ = some (.float .f64 vv) := by
        show (wr.alloc _).cell? _ = _
        rw [World.cell?_alloc_at _ _ _ _ rfl]; rfl
      have bwx := (bw.trans (hbx.mono bw.size))
      have s1 : wr.heap.size < ((wr.alloc (.cells #[.int .i64 tt, .float .f64 vv, .bool bb] 35)).drewN nq).heap.size := by show _ < (wr.alloc _).heap.size; simp
      generalize (wr.alloc (.cells #[.int .i64 tt, .float .f64 vv, .bool bb] 35)).drewN nq = W at hbx q1 bwx s1 ⊢
      have U0 := Lib.hid (T0.out.below hbx (by omega))
      have U1 := Lib.hid (T1.out.below hbx (by omega))
      have U2 := Lib.hid (T2.out.below hbx (by omega))
      have U3 := Lib.hid (T3.out.below hbx (by omega))
      obtain ⟨X, hX⟩ : ∃ X, X = wr.heap.size := ⟨_, rfl⟩
      rw [← hX] at q1 s1 hsz ⊢
      have hR : cn r = at0 (tcs z ss) k := by rw [Hr9.out, HatT.out, fop_quo, fdiv_cn1]; rfl
      have HR := Lib.hid hR
      clear T0 T1 T2 T3 hbx hR Hr9 k0 k1 k2 bw
      refine (add_tot U0.out r _ HR.out).mono ?_
      rintro e w2 ⟨rfl, a0, keep, bel, cel, sz⟩
      have V0 := Lib.hid a0
      have V1 := Lib.hid (keep _ _ (by omega) U1.out)
      have V2 := Lib.hid (keep _ _ (by omega) U2.out)
      have V3 := Lib.hid (keep _ _ (by omega) U3.out)
      have bw2 := bel _ (by omega) _ bwx
      have q2 := (cel ⟨X, 1, none⟩ (by show X ≠ _; omega)).trans q1
      rw [← sz] at s1
      clear a0 keep bel cel sz U0 U1 U2 U3 q1 bwx hX
      go_wp2_with fail
      refine (add_tot V1.out vv _ HatV.out.symm).mono ?_
      rintro e w3 ⟨rfl, a1, keep, bel, cel, sz⟩
      have X1 := Lib.hid a1
      have X0 := Lib.hid (keep _ _ (by omega) V0.out)
      have X2 := Lib.hid (keep _ _ (by omega) V2.out)
      have X3 := Lib.hid (keep _ _ (by omega) V3.out)
      have bw3 := bel _ (by omega) _ bw2
      have q3 := (cel ⟨X, 1, none⟩ (by show X ≠ _; omega)).trans q2
      rw [← sz] at s1
      clear a1 keep bel cel sz V0 V1 V2 V3 q2 bw2
      go_wp2_with (refine wpList_fop _ _ _ _ _ _ _ rfl rfl rfl ?_; intro r2 nq2 hr9; have Hr2 := Lib.hid hr9; clear hr9)
      have hM : cn r2 = at0 (muls (tcs z ss) (vcs ss)) k := by rw [at0_muls (by rw [length_tcs, Hl.out]; exact hlt) (by rw [length_vcs, Hl.out]; exact hlt), ← HR.out, HatV.out, Hr2.out]; rfl
      have HM := Lib.hid hM
      clear hM Hr2
      refine (add_tot (X2.out.drewN nq2) r2 _ HM.out).mono ?_
      rintro e w4 ⟨rfl, a2, keep, bel, cel, sz⟩
      have Y2 := Lib.hid a2
      have Y0 := Lib.hid (keep _ _ (by omega) (X0.out.drewN nq2))
      have Y1 := Lib.hid (keep _ _ (by omega) (X1.out.drewN nq2))
      have Y3 := Lib.hid (keep _ _ (by omega) (X3.out.drewN nq2))
      have bw4 := bel _ (by omega) _ (bw3.drewN' nq2)
      have s4 : X < w4.heap.size := by rw [sz]; exact s1
      clear a2 keep bel cel sz X0 X1 X2 X3 bw3 s1 q3
      go_wp2_with (refine wpList_fop _ _ _ _ _ _ _ rfl rfl rfl ?_; intro r3 nq3 hr9; have Hr3 := Lib.hid hr9; clear hr9)
      have hM : cn r3 = at0 (muls (tcs z ss) (tcs z ss)) k := by rw [at0_muls (by rw [length_tcs, Hl.out]; exact hlt) (by rw [length_tcs, Hl.out]; exact hlt), ← HR.out, Hr3.out]; rfl
      have HM3 := Lib.hid hM
      clear hM Hr3
      refine (add_tot (Y3.out.drewN nq3) r3 _ HM3.out).mono ?_
      rintro e w5 ⟨rfl, a3, keep, bel, cel, sz⟩
      have Z3 := Lib.hid a3
      have Z0 := Lib.hid (keep _ _ (by omega) (Y0.out.drewN nq3))
      have Z1 := Lib.hid (keep _ _ (by omega) (Y1.out.drewN nq3))
      have Z2 := Lib.hid (keep _ _ (by omega) (Y2.out.drewN nq3))
      have bw5 := bel _ (by omega) _ (bw4.drewN' nq3)
      have s5 : X < w5.heap.size := by rw [sz]; exact s4
      clear a3 keep bel cel sz Y0 Y1 Y2 Y3 bw4 s4
      go_wp2_with fail
      go_roundw
      case rel => exact ⟨k + 1, by omega, by go_num, Z0.out, Z1.out, Z2.out, Z3.out, bw5, by omega⟩
      case measure => simp [intOf]; omega
    · have hk' : k = n := by omega
      subst hk'
      clear hlt hk
      go_wp2_with fail
      refine (answer_tot T0.out).mono ?_
      rintro e w2 ⟨rx, m1, rfl, hx, rfl⟩
      have hX : cn rx = sumS (tcs z ss) := by rw [hx, sumS, length_tcs, Hl.out]
      have HX := Lib.hid hX
      clear hx hX
      go_wp2_with fail
      refine (answer_tot (B := w1.heap.size + 1) (st := totT (vcs ss) k) (by exact T1.out)).mono ?_
      rintro e w2 ⟨ry, m2, rfl, hx, rfl⟩
      have hX : cn ry = sumS (vcs ss) := by rw [hx, sumS, length_vcs, Hl.out]
      have HY := Lib.hid hX
      clear hx hX
      go_wp2_with fail
      refine (answer_tot (B := w1.heap.size + 2) (st := totT (muls (tcs z ss) (vcs ss)) k) (by exact T2.out)).mono ?_
      rintro e w2 ⟨rxy, m3, rfl, hx, rfl⟩
      have hX : cn rxy = sumS (muls (tcs z ss) (vcs ss)) := by rw [hx, sumS, length_muls (by rw [length_tcs, length_vcs]), length_tcs, Hl.out]
      have HXY := Lib.hid hX
      clear hx hX
      go_wp2_with (refine wpList_fop _ _ _ _ _ _ _ rfl rfl rfl ?_; intro r nq hr9)
      refine (answer_tot (B := w1.heap.size + 3) (st := totT (muls (tcs z ss) (tcs z ss)) k) (by exact T3.out)).mono ?_
      rintro e w2 ⟨rxx, m4, rfl, hx, rfl⟩
      have hX : cn rxx = sumS (muls (tcs z ss) (tcs z ss)) := by rw [hx, sumS, length_muls rfl, length_tcs, Hl.out]
      have HXX := Lib.hid hX
      clear hx hX
      clear T0 T1 T2 T3
      go_wp2_with (refine wpList_fop _ _ _ _ _ _ _ rfl rfl rfl ?_; intro r nq hr9)
      go_ret2
      have hnk : cn (floatOfInt .f64 (k : Int)) = nfl k := cn_nfl k
      refine ⟨_, _, rfl, ?_, ?_, ?_⟩
      · simp only [lineC, length_tcs, Hl.out, fop_quo, fop_mul, fop_sub, HX.out, HY.out, HXY.out, HXX.out, *]
      · simp only [lineC, length_tcs, Hl.out, fop_quo, fop_mul, fop_sub, HX.out, HY.out, HXY.out, HXX.out, *]
      · repeat (first | exact bw | refine Below.drewN' ?_ _)

theorem line_any (a : Option Addr) (n cap : Nat) (ss : List Smp) (z : Int) (w : World) (hr : SRow w a n ss) :
    Calls Try.prog 26 #[.slice a n cap, .int .i64 z] w (FB2 (lineS (tcs z ss) (vcs ss)) w) := by
  have hl := hr.1
  by_cases h0 : n = 0
  · subst h0
    have : lineS (tcs z ss) (vcs ss) = (nanc, nanc) := by unfold lineS; rw [if_pos (by rw [length_vcs, hl])]
    rw [this]
    exact line_none cap a z w
  · have hne : ¬ (vcs ss).length = 0 := by rw [length_vcs, hl]; exact h0
    cases hlv : levelS (vcs ss)
    · have : lineS (tcs z ss) (vcs ss) = lineC (tcs z ss) (vcs ss) := by unfold lineS; rw [if_neg hne, if_neg (by rw [hlv]; simp)]
      rw [this]
      exact line_calc a n cap ss z w hr (by omega) hlv
    · have : lineS (tcs z ss) (vcs ss) = (if finf (at0 (vcs ss) 0) = true then (nanc, nanc) else (0, at0 (vcs ss) 0)) := by unfold lineS; rw [if_neg hne, if_pos hlv]
      rw [this]
      exact line_level a n cap ss z w hr (by omega) hlv

end Go.Proofs.Ytllphokepjekpaa
