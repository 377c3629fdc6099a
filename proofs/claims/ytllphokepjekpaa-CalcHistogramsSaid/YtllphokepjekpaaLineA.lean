/- slices.ContainsFunc over samples, asked whether a value is another one than the first. -/
import Derived.Test.YtllphokepjekpaaSums
import Derived.Test.YtllphokepjekpaaSamp
namespace Go.Proofs.Ytllphokepjekpaa
open Go.Fl Go.Rel Go.RowKit

/-- Are two classes unequal, as '!=' holds them? -/
def fne (x y : Nat) : Bool := ford x y != some .eq

def anyNe (vs : List Nat) (f : Nat) : Bool := vs.any fun v => fne v f

theorem anyNe_true {ys : List Nat} {f k : Nat} (h : k < ys.length) (hk : fne (at0 ys k) f = true) : anyNe ys f = true :=
  List.any_eq_true.2 ⟨_, by simp [at0, List.getD, h], hk⟩

theorem anyNe_false {ys : List Nat} {f : Nat} (h : ∀ j, j < ys.length → fne (at0 ys j) f = false) : anyNe ys f = false := by
  unfold anyNe
  rw [List.any_eq_false]
  intro x hx
  obtain ⟨j, hj, rfl⟩ := List.mem_iff_getElem.1 hx
  have := h j hj
  simp [at0, List.getD, hj] at this
  simp [this]

/-- The values' classes. -/
def vcs (ss : List Smp) : List Nat := ss.map fun s => cn s.v
theorem at0_vcs (ss : List Smp) {i : Nat} (h : i < ss.length) : at0 (vcs ss) i = cn (vS ss i) := by
  simp [vcs, at0, vS, sAt, List.getD, h]
theorem length_vcs (ss : List Smp) : (vcs ss).length = ss.length := by simp [vcs]

set_option maxHeartbeats 1000000 in
theorem line1_any (t : Int) (v f B : Nat) (s : Bool) (w : World) (hB : w.cell? ⟨B, 0, none⟩ = some (.float .f64 f)) :
    Calls Try.prog 62 #[.agg #[.int .i64 t, .float .f64 v, .bool s], .pointer (some ⟨B, 0, none⟩)] w fun e w' => e = .returned (.bool (fne (cn v) (cn f))) ∧ Below w.heap.size w w' := by
  have hlt : B < w.heap.size := World.block_lt_of_cell? w ⟨B, 0, none⟩ hB
  have ho : (FloatKind.f64.format.order v f != some .eq) = fne (cn v) (cn f) := by rw [order_cn]; rfl
  have Ho := Lib.hid ho
  clear ho
  go_enter Try.func62, Try.ntmps62
  go_wp2
  go_ret
  exact ⟨ret_bool Ho.out, (Below.refl _ _).alloc (Nat.le_refl _) _⟩

def IdxB (b : Bool) (w : World) (e : Ending) (w' : World) : Prop := ∃ r : Int, e = .returned (.int .i64 r) ∧ decide (0 ≤ r) = b ∧ -1 ≤ r ∧ Below w.heap.size w w'

set_option maxHeartbeats 1000000 in
theorem index_ne (a : Option Addr) (n cap : Nat) (ss : List Smp) (w : World) (hr : SRow w a n ss) (B f : Nat) (hB : w.cell? ⟨B, 0, none⟩ = some (.float .f64 f)) :
    Calls Try.prog 110 #[.slice a n cap, .func (.func 62) #[] #[.pointer (some ⟨B, 0, none⟩)]] w (IdxB (anyNe (vcs ss) (cn f)) w) := by
  obtain ⟨hl, hm, hwf, hc⟩ := hr
  have hBlt : B < w.heap.size := World.block_lt_of_cell? w ⟨B, 0, none⟩ hB
  go_enter Try.func110, Try.ntmps110
  go_wp2_with fail
  go_loopw [8] (fun i wr => ∃ k : Nat, k ≤ n ∧ i = .int .i64 (k : Int) ∧ Hid (∀ j, j < k → fne (at0 (vcs ss) j) (cn f) = false) ∧ Below w.heap.size w wr) (fun i _ => n - (intOf i).toNat)
  case atStart => exact ⟨0, by omega, rfl, (fun j hj => by omega), Below.refl _ _⟩
  case round =>
    obtain ⟨k, hk, rfl, H, bw⟩ := hrel
    by_cases hlt : k < n
    · obtain ⟨b, off, rfl, hcell⟩ := hc (by omega)
      obtain ⟨c0, c1, c2⟩ := hcell k hlt
      have hblt : b < w.heap.size := World.block_lt_of_cell? w _ c0
      have k0 : wr.cell? ⟨b, off + k * 3, none⟩ = some (.int .i64 (tS ss k)) := by rw [bw.cell (p := ⟨b, off + k * 3, none⟩) hblt]; exact c0
      have k1 : wr.cell? ⟨b, off + k * 3 + 1, none⟩ = some (.float .f64 (vS ss k)) := by rw [bw.cell (p := ⟨b, off + k * 3 + 1, none⟩) hblt]; exact c1
      have k2 : wr.cell? ⟨b, off + k * 3 + 2, none⟩ = some (.bool (sS ss k)) := by rw [bw.cell (p := ⟨b, off + k * 3 + 2, none⟩) hblt]; exact c2
      have kB : wr.cell? ⟨B, 0, none⟩ = some (.float .f64 f) := by rw [bw.cell (p := ⟨B, 0, none⟩) hBlt]; exact hB
      clear hcell hc c0 c1 c2
      have Hat := Lib.hid (at0_vcs ss (i := k) (by omega))
      have hsz := bw.size
      have HL := Lib.hid (line1_any (tS ss k) (vS ss k) f B (sS ss k) wr kB)
      cases hi : fne (cn (vS ss k)) (cn f)
      · have Hi := Lib.hid hi
        clear hi
        go_wp2_with fail
        refine Calls.mono HL.out ?_
        rintro e w' ⟨rfl, b1⟩
        rw [Hi.out]
        have b2 := bw.trans (b1.mono hsz)
        go_wp2_with fail
        go_roundw
        case rel =>
          refine ⟨k + 1, by omega, by go_num, (fun j hj => ?_), b2⟩
          by_cases hjk : j = k
          · rw [hjk, Hat.out]; exact Hi.out
          · exact H.out j (by omega)
        case measure => simp [intOf]; omega
      · have Hi := Lib.hid hi
        clear hi
        have hany : anyNe (vcs ss) (cn f) = true := anyNe_true (k := k) (by rw [length_vcs]; omega) (by rw [Hat.out]; exact Hi.out)
        have Hany := Lib.hid hany
        clear hany
        go_wp2_with fail
        refine Calls.mono HL.out ?_
        rintro e w' ⟨rfl, b1⟩
        rw [Hi.out]
        have b2 := bw.trans (b1.mono hsz)
        go_wp2_with fail
        go_ret
        exact ⟨k, rfl, by rw [Hany.out]; simp, by omega, b2⟩
    · have hk' : k = n := by omega
      subst hk'
      have hany : anyNe (vcs ss) (cn f) = false := anyNe_false (fun j hj => H.out j (by rw [length_vcs] at hj; omega))
      have Hany := Lib.hid hany
      clear hany
      go_wp2_with fail
      go_ret
      exact ⟨-1, rfl, by rw [Hany.out]; decide, by omega, bw⟩

theorem contains_ne (a : Option Addr) (n cap : Nat) (ss : List Smp) (w : World) (hr : SRow w a n ss) (B f : Nat) (hB : w.cell? ⟨B, 0, none⟩ = some (.float .f64 f)) :
    Calls Try.prog 61 #[.slice a n cap, .func (.func 62) #[] #[.pointer (some ⟨B, 0, none⟩)]] w fun e w' => e = .returned (.bool (anyNe (vcs ss) (cn f))) ∧ Below w.heap.size w w' := by
  go_enter Try.func61, Try.ntmps61
  go_wp2_with fail
  refine (index_ne a n cap ss _ hr B f hB).mono ?_
  rintro e w1 ⟨r, rfl, hb, hr1, b1⟩
  have Hb := Lib.hid hb
  clear hb
  go_wp2_with fail
  go_ret
  exact ⟨ret_bool (by rw [← Hb.out]), b1⟩

end Go.Proofs.Ytllphokepjekpaa
