/- How arguments that hold windows are opened, with the values' words of 64 bits. -/
import Derived.Test.YtoeldcgclaiokaaGreatSamp
import Derived.Test.YtoeldcgclaiokaaGreatWinA
import Derived.Test.YtoeldcgclaiokaaGreatOpenW
import Derived.SizedLaws
namespace Go.Proofs.YtoeldcgclaiokaaGreat
open Go.Fl Go.Rel Go.RowKit Go.ChangeShapes Go.WideShapes Go.Deep
set_option linter.unusedVariables false
set_option linter.unusedSimpArgs false

section
variable {H : Type} {enc : TypeId × Value → H} {w : World} {spare : Nat → Bool} {held : Bool}

theorem cell_float_w {P : Program} {base : Nat} {t : TypeId} {fuel : Nat} {v : Value} {x : DataW H × List MemPlace} (ht : P.underlying t = some (.float .f64)) (h : DataW.trod enc P w base spare held fuel t [v] = some x) :
    ∃ n, v = .float .f64 n ∧ n < 18446744073709551616 := by
  cases fuel with
  | zero => simp [DataW.trod] at h
  | succ m =>
    simp only [DataW.trod, ht] at h
    cases v with
    | float k' n =>
      cases k' with
      | f64 =>
        refine ⟨n, rfl, ?_⟩
        by_cases hw : (Lit.float .f64 n).wf = true
        · have : n < 2 ^ 64 := by simpa [Lit.wf] using hw
          omega
        · simp [hw] at h
      | f32 => simp at h
    | _ => simp at h

theorem samples_trod_w {fuel : Nat} {cs : List Value} {x : DataW H × List MemPlace} (hf : DataW.trod enc Tryz.prog w 0 spare held fuel 22 cs = some x) :
    ∃ a n cap ss, cs = [.slice a n cap] ∧ SRow w a n ss ∧ (∀ s ∈ ss, W64 s.v) ∧ (n = 0 ∨ ∃ D S, x.1 = .slice D S ∧ D.length = n) := by
  have hc : Tryz.prog.cellsOf 46 = 3 := by kernel_rfl
  have hci : Tryz.prog.cellsOf 2 = 1 := by kernel_rfl
  have hcf : Tryz.prog.cellsOf 27 = 1 := by kernel_rfl
  have hcb : Tryz.prog.cellsOf 4 = 1 := by kernel_rfl
  rcases open_slice Tryz.underlying22 hf with ⟨hcs, _⟩ | ⟨a, len, cap, m, n, D, Pl, hcs, _, hl, hm, hmm, hxx, hx⟩
  · exact ⟨none, 0, 0, [], hcs, ⟨rfl, by omega, fun i => by simp [tS, sAt], fun h => by omega⟩, (fun s hs => by cases hs), .inl rfl⟩
  · have hle : len ≤ m := by rw [hmm]; split <;> omega
    obtain ⟨ss, hsl, hsp⟩ := exists_smps len (fun i x => w.cell? (a.add (i * 3)) = some (.int .i64 x.t) ∧ w.cell? (a.add (i * 3 + 1)) = some (.float .f64 x.v) ∧ w.cell? (a.add (i * 3 + 2)) = some (.bool x.s) ∧ (Lit.int .i64 x.t).wf = true ∧ x.v < 18446744073709551616) (fun i hi => by
      obtain ⟨cs, h1, h2⟩ := hx i (by omega)
      rw [hc] at h1
      obtain ⟨_, hlen, hcell⟩ := World.cells?_some h1
      obtain ⟨xs, n', _, _, _, hlen2, hfs⟩ := DataW.trod_struct Tryz.underlying46 h2
      match cs, hlen, xs, hlen2 with
      | [c0, c1, c2], _, [x0, x1, x2], _ =>
        have g0 := hfs 0 _ rfl
        have g1 := hfs 1 _ rfl
        have g2 := hfs 2 _ rfl
        simp [hci, hcf, hcb] at g0 g1 g2
        obtain ⟨t, rfl, wt⟩ := cell_int' Tryz.underlying2 g0
        obtain ⟨v, rfl, hv64⟩ := cell_float_w Tryz.underlying27 g1
        obtain ⟨s, rfl⟩ := cell_bool Tryz.underlying4 g2
        refine ⟨⟨t, v, s⟩, ?_, ?_, ?_, wt, hv64⟩
        · have := hcell 0 (by simp); simpa [Deep.add_add] using this
        · have := hcell 1 (by simp); simpa [Deep.add_add] using this
        · have := hcell 2 (by simp); simpa [Deep.add_add] using this)
    refine ⟨_, _, _, ss, hcs, ⟨hsl, by unfold maxLen at hm; omega, fun i => ?_, fun hn => ?_⟩, fun s hsm => by
      obtain ⟨i, hi, rfl⟩ := List.getElem_of_mem hsm
      have := (hsp i (by omega)).2.2.2.2
      simp [sAt, List.getD, hi] at this
      exact w64_of this, .inr ⟨_, _, by rw [hxx], by simp⟩⟩
    · by_cases hi : i < len
      · have := (hsp i hi).2.2.2.1
        simpa [Lit.wf, IntKind.min, IntKind.max, IntKind.signed, IntKind.bits, tS] using this
      · have : sAt ss i = ⟨0, 0, false⟩ := by unfold sAt; rw [List.getD, List.getElem?_eq_none (by omega)]; rfl
        unfold tS; rw [this]; simp
    · obtain ⟨b, off, spot⟩ := a
      have h0 := (hsp 0 hn).1
      have hspot : spot = none := by simpa [Addr.add] using World.cell?_spot h0
      subst hspot
      refine ⟨b, off, rfl, fun i hi => ?_⟩
      obtain ⟨h1, h2, h3, _⟩ := hsp i hi
      unfold tS vS sS
      exact ⟨by simpa [Addr.add_lit] using h1, by simpa [Addr.add_lit, Nat.add_assoc] using h2, by simpa [Addr.add_lit, Nat.add_assoc] using h3⟩

/-- An int of 64 bits. -/
def I64 (z : Int) : Prop := -9223372036854775808 ≤ z ∧ z ≤ 9223372036854775807
theorem i64_wf {z : Int} (h : (Lit.int .i64 z).wf = true) : I64 z := by simpa [Lit.wf, IntKind.min, IntKind.max, IntKind.signed, IntKind.bits, I64] using h

theorem win_trod_w {fuel : Nat} {cs : List Value} {x : DataW H × List MemPlace} (hf : DataW.trod enc Tryz.prog w 0 spare held fuel 24 cs = some x) :
    ∃ a n cap ss F T N, cs = [.slice a n cap, .int .i64 F, .int .i64 T, .int .i64 N] ∧ SRow w a n ss ∧ (∀ s ∈ ss, W64 s.v) ∧ I64 F ∧ I64 T ∧ I64 N ∧ (n = 0 ∨ ∃ m ∈ x.1.weights Tryz.prog 24, n * Tryz.prog.bytesOf 46 ≤ m) := by
  have hci : Tryz.prog.cellsOf 2 = 1 := by kernel_rfl
  have hcs1 : Tryz.prog.cellsOf 22 = 1 := by kernel_rfl
  have hcw : Tryz.prog.cellsOf 24 = 4 := by kernel_rfl
  obtain ⟨xs, n', _, hxx, hlen, hlen2, hfs⟩ := DataW.trod_struct Tryz.underlying24 hf
  rw [hcw] at hlen
  match cs, hlen, xs, hlen2 with
  | [c0, c1, c2, c3], _, [x0, x1, x2, x3], _ =>
    have g0 := hfs 0 _ rfl
    have g1 := hfs 1 _ rfl
    have g2 := hfs 2 _ rfl
    have g3 := hfs 3 _ rfl
    simp [hci, hcs1] at g0 g1 g2 g3
    obtain ⟨a, n, cap, ss, he, hr, h64, hs⟩ := samples_trod_w g0
    obtain ⟨F, rfl, wF⟩ := cell_int' Tryz.underlying2 g1
    obtain ⟨T, rfl, wT⟩ := cell_int' Tryz.underlying2 g2
    obtain ⟨N, rfl, wN⟩ := cell_int' Tryz.underlying2 g3
    simp at he
    subst he
    refine ⟨a, n, cap, ss, F, T, N, rfl, hr, h64, i64_wf wF, i64_wf wT, i64_wf wN, ?_⟩
    rcases hs with h | ⟨D, S, h1, h2⟩
    · exact .inl h
    · right
      refine ⟨(D.length + S.length) * Tryz.prog.bytesOf 46, ?_, Nat.mul_le_mul_right _ (by omega)⟩
      rw [hxx]
      simp [DataW.weights, Tryz.underlying24, DataW.weightsEach, h1, Tryz.underlying22]

theorem open_win_w {v : Value} {r : Reach} {b0 : Nat} {d : DataW H} {ps : List MemPlace} (hval : Value.okWide Tryz.prog w r b0 24 v) (hd : DataW.Trod enc Tryz.prog w 0 spare held 24 v d ps) :
    ∃ a n cap ss F T N, v = winV a n cap F T N ∧ SRow w a n ss ∧ (∀ s ∈ ss, W64 s.v) ∧ I64 F ∧ I64 T ∧ I64 N ∧ (n = 0 ∨ ∃ m ∈ d.weights Tryz.prog 24, n * Tryz.prog.bytesOf 46 ≤ m) := by
  obtain ⟨cs, rfl, hsz⟩ := okWide_struct Tryz.underlying24 hval
  obtain ⟨fuel, hf⟩ := hd
  obtain ⟨a, n, cap, ss, F, T, N, he, hr, h64, h1, h2, h3, hs⟩ := win_trod_w hf
  refine ⟨a, n, cap, ss, F, T, N, ?_, hr, h64, h1, h2, h3, hs⟩
  obtain ⟨l⟩ := cs
  simp [Value.cells] at he
  rw [he]

theorem win_le {ts : List TypeId} {ds : List (DataW H)} {d : DataW H} {n j : Nat} {t : TypeId} (h : n = 0 ∨ ∃ m ∈ d.weights Tryz.prog t, n * Tryz.prog.bytesOf 46 ≤ m) (hs : (DataW.weightsEach Tryz.prog ts ds).all (· ≤ reachBytes) = true) (ht : ts[j]? = some t) (hd : ds[j]? = some d) : n < 17592186044416 := by
  rcases h with rfl | ⟨m, hm, hle⟩
  · omega
  · have := List.all_eq_true.1 hs _ (DataW.weights_mem_each ht hd m hm)
    rw [decide_eq_true_eq] at this
    have h24 : Tryz.prog.bytesOf 46 = 24 := by kernel_rfl
    rw [h24] at hle
    unfold reachBytes at this
    omega
theorem win_le2 {ts : List TypeId} {ds : List (DataW H)} {d : DataW H} {n j : Nat} {t : TypeId} (h : n = 0 ∨ ∃ m ∈ d.weights Tryz.prog t, n * Tryz.prog.bytesOf 46 ≤ m) (hs : (DataW.weightsEach Tryz.prog ts ds).all (· ≤ reachBytes) = true) (ht : ts[j]? = some t) (hd : ds[j]? = some d) : n < 5864062014805 := by
  rcases h with rfl | ⟨m, hm, hle⟩
  · omega
  · have := List.all_eq_true.1 hs _ (DataW.weights_mem_each ht hd m hm)
    rw [decide_eq_true_eq] at this
    have h24 : Tryz.prog.bytesOf 46 = 24 := by kernel_rfl
    rw [h24] at hle
    unfold reachBytes at this
    omega
end
end Go.Proofs.YtoeldcgclaiokaaGreat
