/- Lists of samples: what a slice of them holds, how an argument is opened. -/
import Derived.Test.YtllphokepjekpaaOpen
import Derived.Test.YtllphokepjekpaaBox
namespace Go.Proofs.Ytllphokepjekpaa
open Go.Fl Go.Rel Go.RowKit Go.ChangeShapes Go.WideShapes Go.Deep

/-- A sample: its time, its value, its mark. -/
structure Smp where
  t : Int
  v : Nat
  s : Bool
deriving Inhabited

def sAt (ss : List Smp) (i : Nat) : Smp := ss.getD i ⟨0, 0, false⟩
def tS (ss : List Smp) (i : Nat) : Int := (sAt ss i).t
def vS (ss : List Smp) (i : Nat) : Nat := (sAt ss i).v
def sS (ss : List Smp) (i : Nat) : Bool := (sAt ss i).s

/-- What a slice of samples holds. -/
def SRow (w : World) (a : Option Addr) (n : Nat) (ss : List Smp) : Prop :=
  ss.length = n ∧ n ≤ 9223372036854775807 ∧ (∀ i, -9223372036854775808 ≤ tS ss i ∧ tS ss i ≤ 9223372036854775807) ∧
  (0 < n → ∃ b off, a = some ⟨b, off, none⟩ ∧ ∀ i, i < n → w.cell? ⟨b, off + i * 3, none⟩ = some (.int .i64 (tS ss i)) ∧ w.cell? ⟨b, off + i * 3 + 1, none⟩ = some (.float .f64 (vS ss i)) ∧ w.cell? ⟨b, off + i * 3 + 2, none⟩ = some (.bool (sS ss i)))

theorem SRow.below {w w' : World} {a : Option Addr} {n : Nat} {ss : List Smp} (h : SRow w a n ss) (hb : Below w.heap.size w w') : SRow w' a n ss := by
  obtain ⟨h1, h2, h3, h4⟩ := h
  refine ⟨h1, h2, h3, fun hn => ?_⟩
  obtain ⟨b, off, ha, hc⟩ := h4 hn
  refine ⟨b, off, ha, fun i hi => ?_⟩
  obtain ⟨c0, c1, c2⟩ := hc i hi
  have hlt : b < w.heap.size := World.block_lt_of_cell? w ⟨b, off + i * 3, none⟩ c0
  rw [hb.cell (p := ⟨b, off + i * 3, none⟩) hlt, hb.cell (p := ⟨b, off + i * 3 + 1, none⟩) hlt, hb.cell (p := ⟨b, off + i * 3 + 2, none⟩) hlt]
  exact ⟨c0, c1, c2⟩

theorem sAt_cons_zero (x : Smp) (l : List Smp) : sAt (x :: l) 0 = x := rfl

theorem exists_smps (n : Nat) (p : Nat → Smp → Prop) (h : ∀ i, i < n → ∃ x, p i x) : ∃ ss : List Smp, ss.length = n ∧ ∀ i, i < n → p i (sAt ss i) := by
  induction n with
  | zero => exact ⟨[], rfl, fun i hi => by omega⟩
  | succ n ih =>
    obtain ⟨xs, hl, hp⟩ := ih fun i hi => h i (by omega)
    obtain ⟨x, hx⟩ := h n (by omega)
    refine ⟨xs ++ [x], by simp [hl], fun i hi => ?_⟩
    by_cases hin : i < n
    · have : sAt (xs ++ [x]) i = sAt xs i := by simp [sAt, List.getD, List.getElem?_append_left (show i < xs.length by omega)]
      rw [this]; exact hp i hin
    · obtain rfl : i = n := by omega
      have : sAt (xs ++ [x]) i = x := by subst hl; simp [sAt, List.getD]
      rw [this]; exact hx

section
variable {H : Type} {enc : TypeId × Value → H} {P : Program} {w : World} {base : Nat} {spare : Nat → Bool} {held : Bool}

theorem cell_int' {t : TypeId} {k : IntKind} {fuel : Nat} {v : Value} {x : DataW H × List MemPlace} (ht : P.underlying t = some (.int k)) (h : DataW.trod enc P w base spare held fuel t [v] = some x) :
    ∃ n, v = .int k n ∧ (Lit.int k n).wf = true := by
  cases fuel with
  | zero => simp [DataW.trod] at h
  | succ m =>
    simp only [DataW.trod, ht] at h
    cases v with
    | int k' n =>
      by_cases hk : k' = k
      · subst hk
        refine ⟨n, rfl, ?_⟩
        by_cases hw : (Lit.int k' n).wf = true
        · exact hw
        · simp [hw] at h
      · simp [hk] at h
    | _ => simp at h

theorem cell_float {t : TypeId} {fuel : Nat} {v : Value} {x : DataW H × List MemPlace} (ht : P.underlying t = some (.float .f64)) (h : DataW.trod enc P w base spare held fuel t [v] = some x) :
    ∃ n, v = .float .f64 n := by
  cases fuel with
  | zero => simp [DataW.trod] at h
  | succ m =>
    simp only [DataW.trod, ht] at h
    cases v with
    | float k' n =>
      cases k' with
      | f64 => exact ⟨n, rfl⟩
      | f32 => simp at h
    | _ => simp at h

theorem cell_bool {t : TypeId} {fuel : Nat} {v : Value} {x : DataW H × List MemPlace} (ht : P.underlying t = some .bool) (h : DataW.trod enc P w base spare held fuel t [v] = some x) :
    ∃ n, v = .bool n := by
  cases fuel with
  | zero => simp [DataW.trod] at h
  | succ m =>
    simp only [DataW.trod, ht] at h
    cases v with
    | bool n => exact ⟨n, rfl⟩
    | _ => simp at h
end

section
variable {H : Type} {enc : TypeId × Value → H} {w : World} {spare : Nat → Bool} {held : Bool}

theorem open_samples {v : Value} {r : Reach} {b0 : Nat} {d : DataW H} {ps : List MemPlace} (hval : Value.okWide Try.prog w r b0 31 v) (hd : DataW.Trod enc Try.prog w 0 spare held 31 v d ps) :
    ∃ a n cap ss, v = .slice a n cap ∧ SRow w a n ss := by
  obtain ⟨a0, len, cap, rfl⟩ := okWide_slice Try.underlying31 hval
  obtain ⟨fuel, hf⟩ := hd
  have hc : Try.prog.cellsOf 35 = 3 := by kernel_rfl
  have hci : Try.prog.cellsOf 2 = 1 := by kernel_rfl
  have hcf : Try.prog.cellsOf 23 = 1 := by kernel_rfl
  have hcb : Try.prog.cellsOf 4 = 1 := by kernel_rfl
  rcases open_slice Try.underlying31 hf with ⟨hcs, _⟩ | ⟨a, len', cap', m, n, D, Pl, hcs, _, hl, hm, hmm, _, hx⟩
  · simp [Value.cells] at hcs
    obtain ⟨rfl, rfl, rfl⟩ := hcs
    exact ⟨_, _, _, [], rfl, rfl, by omega, fun i => by simp [tS, sAt], fun h => by omega⟩
  · simp [Value.cells] at hcs
    obtain ⟨rfl, rfl, rfl⟩ := hcs
    have hle : len ≤ m := by rw [hmm]; split <;> omega
    obtain ⟨ss, hsl, hsp⟩ := exists_smps len (fun i x => w.cell? (a.add (i * 3)) = some (.int .i64 x.t) ∧ w.cell? (a.add (i * 3 + 1)) = some (.float .f64 x.v) ∧ w.cell? (a.add (i * 3 + 2)) = some (.bool x.s) ∧ (Lit.int .i64 x.t).wf = true) (fun i hi => by
      obtain ⟨cs, h1, h2⟩ := hx i (by omega)
      rw [hc] at h1
      obtain ⟨_, hlen, hcell⟩ := World.cells?_some h1
      obtain ⟨xs, n', _, _, _, hlen2, hfs⟩ := DataW.trod_struct Try.underlying35 h2
      match cs, hlen, xs, hlen2 with
      | [c0, c1, c2], _, [x0, x1, x2], _ =>
        have g0 := hfs 0 _ rfl
        have g1 := hfs 1 _ rfl
        have g2 := hfs 2 _ rfl
        simp [hci, hcf, hcb] at g0 g1 g2
        obtain ⟨t, rfl, wt⟩ := cell_int' Try.underlying2 g0
        obtain ⟨v, rfl⟩ := cell_float Try.underlying23 g1
        obtain ⟨s, rfl⟩ := cell_bool Try.underlying4 g2
        refine ⟨⟨t, v, s⟩, ?_, ?_, ?_, wt⟩
        · have := hcell 0 (by simp); simpa [Deep.add_add] using this
        · have := hcell 1 (by simp); simpa [Deep.add_add] using this
        · have := hcell 2 (by simp); simpa [Deep.add_add] using this)
    refine ⟨_, _, _, ss, rfl, hsl, by unfold maxLen at hm; omega, fun i => ?_, fun hn => ?_⟩
    · by_cases hi : i < len
      · have := (hsp i hi).2.2.2
        simpa [Lit.wf, IntKind.min, IntKind.max, IntKind.signed, IntKind.bits, tS] using this
      · have : sAt ss i = ⟨0, 0, false⟩ := by unfold sAt; rw [List.getD, List.getElem?_eq_none (by omega)]; rfl
        unfold tS; rw [this]; simp
    · obtain ⟨b, off, spot⟩ := a
      have h0 := (hsp 0 hn).1
      have hspot : spot = none := by simpa [Addr.add] using World.cell?_spot h0
      subst hspot
      refine ⟨b, off, rfl, fun i hi => ?_⟩
      obtain ⟨h1, h2, h3, _⟩ := hsp i hi
      unfold tS vS sS
      exact ⟨by simpa [Addr.add_lit] using h1, by simpa [Addr.add_lit, Nat.add_assoc] using h2, by simpa [Addr.add_lit, Nat.add_assoc] using h3⟩
end
end Go.Proofs.Ytllphokepjekpaa
