/- How an argument is opened that holds elements. -/
import Derived.Test.YtmmfjknnbkcniaaGreatLbOne
import Derived.SizedLaws
import Derived.ChangeMaps5
namespace Go.Proofs.YtmmfjknnbkcniaaGreat
open Go.Fl Go.Rel Go.RowKit Go.ChangeShapes Go.WideShapes Go.Deep
set_option linter.unusedVariables false
set_option linter.unusedSimpArgs false

section
variable {H : Type} {enc : TypeId × Value → H} {P : Program} {w : World} {base : Nat} {spare : Nat → Bool} {held : Bool}

theorem weightsAll_mem {e : TypeId} {d : DataW H} {n : Nat} (hn : n ∈ d.weights P e) : ∀ {l : List (DataW H)}, d ∈ l → n ∈ DataW.weightsAll P e l
  | [], h => absurd h List.not_mem_nil
  | x :: r, h => by
    simp only [DataW.weightsAll, List.mem_append]
    rcases List.mem_cons.1 h with rfl | h
    · exact .inl hn
    · exact .inr (weightsAll_mem hn h)
theorem cellm_string {t : TypeId} {fuel : Nat} {v : Value} {x : DataW H × List MemPlace} (ht : P.underlying t = some .string) (h : DataW.trod enc P w base spare held fuel t [v] = some x) :
    ∃ s : ByteArray, v = .string s ∧ x.1 = .lit (.string s.data.toList) := by
  obtain ⟨s', h1, h2, _⟩ := DataW.trod_string ht h
  simp at h1
  exact ⟨s', h1, by rw [h2]⟩
theorem w64m {x : Nat} (h : x < 18446744073709551616) : W64 x := by
  unfold W64
  cases hx : isN x
  · rw [cn_of_notN hx]; exact h
  · rw [cn_of_N hx]; decide
theorem cellm_float {t : TypeId} {fuel : Nat} {v : Value} {x : DataW H × List MemPlace} (ht : P.underlying t = some (.float .f64)) (h : DataW.trod enc P w base spare held fuel t [v] = some x) :
    ∃ n, v = .float .f64 n ∧ n < 18446744073709551616 := by
  cases fuel with
  | zero => simp [DataW.trod] at h
  | succ m =>
    simp only [DataW.trod, ht] at h
    cases v with
    | float k' n =>
      cases k' with
      | f64 =>
        refine ⟨n, rfl, ?_⟩
        by_cases hw : (Lit.float .f64 n).wf = true
        · have : n < 2 ^ 64 := by simpa [Lit.wf] using hw
          omega
        · simp [hw] at h
      | f32 => simp at h
    | _ => simp at h
theorem cellm_bool {t : TypeId} {fuel : Nat} {v : Value} {x : DataW H × List MemPlace} (ht : P.underlying t = some .bool) (h : DataW.trod enc P w base spare held fuel t [v] = some x) :
    ∃ n, v = .bool n := by
  cases fuel with
  | zero => simp [DataW.trod] at h
  | succ m =>
    simp only [DataW.trod, ht] at h
    cases v with
    | bool n => exact ⟨n, rfl⟩
    | _ => simp at h
end

theorem exists_lbs (n : Nat) (p : Nat → Lb → Prop) (h : ∀ i, i < n → ∃ x, p i x) : ∃ ss : List Lb, ss.length = n ∧ ∀ i, i < n → p i (lbAt ss i) := by
  induction n with
  | zero => exact ⟨[], rfl, fun i hi => by omega⟩
  | succ n ih =>
    obtain ⟨xs, hl, hp⟩ := ih fun i hi => h i (by omega)
    obtain ⟨x, hx⟩ := h n (by omega)
    refine ⟨xs ++ [x], by simp [hl], fun i hi => ?_⟩
    by_cases hin : i < n
    · have : lbAt (xs ++ [x]) i = lbAt xs i := by simp [lbAt, List.getD, List.getElem?_append_left (show i < xs.length by omega)]
      rw [this]; exact hp i hin
    · obtain rfl : i = n := by omega
      have : lbAt (xs ++ [x]) i = x := by subst hl; simp [lbAt, List.getD]
      rw [this]; exact hx
theorem exists_ers (n : Nat) (p : Nat → Er → Prop) (h : ∀ i, i < n → ∃ x, p i x) : ∃ ss : List Er, ss.length = n ∧ ∀ i, i < n → p i (erAt ss i) := by
  induction n with
  | zero => exact ⟨[], rfl, fun i hi => by omega⟩
  | succ n ih =>
    obtain ⟨xs, hl, hp⟩ := ih fun i hi => h i (by omega)
    obtain ⟨x, hx⟩ := h n (by omega)
    refine ⟨xs ++ [x], by simp [hl], fun i hi => ?_⟩
    by_cases hin : i < n
    · have : erAt (xs ++ [x]) i = erAt xs i := by simp [erAt, List.getD, List.getElem?_append_left (show i < xs.length by omega)]
      rw [this]; exact hp i hin
    · obtain rfl : i = n := by omega
      have : erAt (xs ++ [x]) i = x := by subst hl; simp [erAt, List.getD]
      rw [this]; exact hx

section
variable {H : Type} {enc : TypeId × Value → H} {w : World} {spare : Nat → Bool} {held : Bool}

set_option maxRecDepth 100000 in
theorem labels_trod {fuel : Nat} {cs : List Value} {x : DataW H × List MemPlace} (hf : DataW.trod enc Tryz.prog w 0 spare held fuel 29 cs = some x) (hw : ∀ n ∈ x.1.weights Tryz.prog 29, n ≤ reachBytes) :
    ∃ a n cap ls, cs = [.slice a n cap] ∧ LRow w a n ls ∧ SlK a n cap ∧ n ≤ 4398046511104 := by
  have hc : Tryz.prog.cellsOf 47 = 2 := by kernel_rfl
  have hcs : Tryz.prog.cellsOf 9 = 1 := by kernel_rfl
  have hby : Tryz.prog.bytesOf 47 = 32 := by kernel_rfl
  rcases open_slice Tryz.underlying29 hf with ⟨hcs, _⟩ | ⟨a, len, cap, m, n, D, Pl, hcl, _, hl, hm, hmm, hxx, hx⟩
  · exact ⟨none, 0, 0, [], hcs, LRow.nothing _, ⟨Nat.le_refl _, fun _ => rfl⟩, by omega⟩
  · have hle : len ≤ m := by rw [hmm]; split <;> omega
    have hwx : ∀ n ∈ (len + (m - len)) * 32 :: (DataW.weightsAll Tryz.prog 47 ((List.range len).map D) ++ DataW.weightsAll Tryz.prog 47 ((List.range (m - len)).map fun j => D (len + j))), n ≤ reachBytes := by
      intro n hn
      apply hw
      rw [hxx]
      simp only [DataW.weights, Tryz.underlying29, List.length_map, List.length_range, hby]
      exact hn
    have hwd : ∀ i, i < len → ∀ n ∈ (D i).weights Tryz.prog 47, n ≤ reachBytes := fun i hi n hn => hwx n (by
      rw [List.mem_cons, List.mem_append]
      exact .inr (.inl (weightsAll_mem hn (List.mem_map.2 ⟨i, List.mem_range.2 hi, rfl⟩))))
    obtain ⟨ls, hsl, hsp⟩ := exists_lbs len (fun i x => w.cell? (a.add (i * 2)) = some (.string x.n) ∧ w.cell? (a.add (i * 2 + 1)) = some (.string x.v) ∧ SmallT x.n ∧ SmallT x.v) (fun i hi => by
      obtain ⟨cs, h1, h2⟩ := hx i (by omega)
      rw [hc] at h1
      obtain ⟨_, hlen, hcell⟩ := World.cells?_some h1
      obtain ⟨xs, n', _, hdx, _, hlen2, hfs⟩ := DataW.trod_struct Tryz.underlying47 h2
      match cs, hlen, xs, hlen2 with
      | [c0, c1], _, [x0, x1], _ =>
        have g0 := hfs 0 _ rfl
        have g1 := hfs 1 _ rfl
        simp [hcs] at g0 g1
        obtain ⟨s, rfl, e0⟩ := cellm_string Tryz.underlying9 g0
        obtain ⟨v, rfl, e1⟩ := cellm_string Tryz.underlying9 g1
        have hd : D i = .agg [x0.1, x1.1] := congrArg Prod.fst hdx
        have hww := hwd i hi
        rw [hd, e0, e1] at hww
        simp [DataW.weights, Tryz.underlying47, DataW.weightsEach] at hww
        refine ⟨⟨s, v⟩, ?_, ?_, ?_, ?_⟩
        · have := hcell 0 (by simp); simpa [Deep.add_add] using this
        · have := hcell 1 (by simp); simpa [Deep.add_add] using this
        · have := hww.1; unfold reachBytes at this; unfold SmallT; show s.size ≤ _; omega
        · have := hww.2; unfold reachBytes at this; unfold SmallT; show v.size ≤ _; omega)
    have hlen : len ≤ 4398046511104 := by
      have := hwx _ (List.mem_cons_self ..)
      unfold reachBytes at this
      omega
    refine ⟨_, _, _, ls, hcl, ⟨hsl, by omega, fun i => ?_, fun hn => ?_⟩, ⟨hl, fun h => by cases h⟩, hlen⟩
    · by_cases hi : i < len
      · exact (hsp i hi).2.2
      · have : lbAt ls i = default := by unfold lbAt; rw [List.getD, List.getElem?_eq_none (by omega)]; rfl
        unfold nL vL; rw [this]
        exact ⟨by unfold SmallT; decide, by unfold SmallT; decide⟩
    · obtain ⟨b, off, spot⟩ := a
      have h0 := (hsp 0 hn).1
      have hspot : spot = none := by simpa [Addr.add] using World.cell?_spot h0
      subst hspot
      have hbl := World.block_lt_of_cell? w _ h0
      refine ⟨b, off, rfl, by simpa [Addr.add_lit] using hbl, fun i hi => ?_⟩
      obtain ⟨h1, h2, _, _⟩ := hsp i hi
      unfold nL vL
      exact ⟨by simpa [Addr.add_lit] using h1, by simpa [Addr.add_lit, Nat.add_assoc] using h2⟩

set_option maxRecDepth 100000 in
theorem elems_trod {fuel : Nat} {cs : List Value} {x : DataW H × List MemPlace} (hf : DataW.trod enc Tryz.prog w 0 spare held fuel 22 cs = some x) (hw : ∀ n ∈ x.1.weights Tryz.prog 22, n ≤ reachBytes) :
    ∃ a n cap es, cs = [.slice a n cap] ∧ ERow w a n es ∧ SlK a n cap ∧ ∀ e ∈ es, W64 e.f := by
  have hc : Tryz.prog.cellsOf 31 = 2 := by kernel_rfl
  have hcs : Tryz.prog.cellsOf 29 = 1 := by kernel_rfl
  have hcf : Tryz.prog.cellsOf 23 = 1 := by kernel_rfl
  have hby : Tryz.prog.bytesOf 31 = 32 := by kernel_rfl
  rcases open_slice Tryz.underlying22 hf with ⟨hcs, _⟩ | ⟨a, len, cap, m, n, D, Pl, hcl, _, hl, hm, hmm, hxx, hx⟩
  · exact ⟨none, 0, 0, [], hcs, ERow.nothing _, ⟨Nat.le_refl _, fun _ => rfl⟩, fun e he => absurd he List.not_mem_nil⟩
  · have hle : len ≤ m := by rw [hmm]; split <;> omega
    have hwx : ∀ n ∈ (len + (m - len)) * 32 :: (DataW.weightsAll Tryz.prog 31 ((List.range len).map D) ++ DataW.weightsAll Tryz.prog 31 ((List.range (m - len)).map fun j => D (len + j))), n ≤ reachBytes := by
      intro n hn
      apply hw
      rw [hxx]
      simp only [DataW.weights, Tryz.underlying22, List.length_map, List.length_range, hby]
      exact hn
    have hwd : ∀ i, i < len → ∀ n ∈ (D i).weights Tryz.prog 31, n ≤ reachBytes := fun i hi n hn => hwx n (by
      rw [List.mem_cons, List.mem_append]
      exact .inr (.inl (weightsAll_mem hn (List.mem_map.2 ⟨i, List.mem_range.2 hi, rfl⟩))))
    obtain ⟨es, hsl, hsp⟩ := exists_ers len (fun i x => w.cell? (a.add (i * 2)) = some (.slice x.a x.n x.c) ∧ w.cell? (a.add (i * 2 + 1)) = some (.float .f64 x.f) ∧ ErOk w x ∧ W64 x.f) (fun i hi => by
      obtain ⟨cs, h1, h2⟩ := hx i (by omega)
      rw [hc] at h1
      obtain ⟨_, hlen, hcell⟩ := World.cells?_some h1
      obtain ⟨xs, n', _, hdx, _, hlen2, hfs⟩ := DataW.trod_struct Tryz.underlying31 h2
      match cs, hlen, xs, hlen2 with
      | [c0, c1], _, [x0, x1], _ =>
        have g0 := hfs 0 _ rfl
        have g1 := hfs 1 _ rfl
        simp [hcs, hcf] at g0 g1
        have hd : D i = .agg [x0.1, x1.1] := congrArg Prod.fst hdx
        have hww := hwd i hi
        rw [hd] at hww
        simp [DataW.weights, Tryz.underlying31, DataW.weightsEach] at hww
        obtain ⟨xa, xn, xc, xl, he, hr, hk, hn⟩ := labels_trod g0 (fun n hn => hww n (.inl hn))
        simp at he
        subst he
        obtain ⟨v, rfl, hv⟩ := cellm_float Tryz.underlying23 g1
        refine ⟨⟨xa, xn, xc, v, xl⟩, ?_, ?_, ⟨hr, hk, hn⟩, w64m hv⟩
        · have := hcell 0 (by simp); simpa [Deep.add_add] using this
        · have := hcell 1 (by simp); simpa [Deep.add_add] using this)
    have hlen : len ≤ 4398046511104 := by
      have := hwx _ (List.mem_cons_self ..)
      unfold reachBytes at this
      omega
    have hmem : ∀ e ∈ es, ErOk w e ∧ W64 e.f := fun e he => by
      obtain ⟨i, hi, rfl⟩ := List.getElem_of_mem he
      have := (hsp i (by omega)).2.2
      rw [erAt_get hi] at this; exact this
    refine ⟨_, _, _, es, hcl, ⟨hsl, hlen, fun e he => (hmem e he).1, fun hn => ?_⟩, ⟨hl, fun h => by cases h⟩, fun e he => (hmem e he).2⟩
    obtain ⟨b, off, spot⟩ := a
    have h0 := (hsp 0 hn).1
    have hspot : spot = none := by simpa [Addr.add] using World.cell?_spot h0
    subst hspot
    have hbl := World.block_lt_of_cell? w _ h0
    refine ⟨b, off, rfl, by simpa [Addr.add_lit] using hbl, fun i hi => ?_⟩
    obtain ⟨h1, h2, _, _⟩ := hsp i hi
    exact ⟨by simpa [Addr.add_lit] using h1, by simpa [Addr.add_lit, Nat.add_assoc] using h2⟩

set_option maxRecDepth 100000 in
theorem open_mix {v : Value} {r : Reach} {b0 : Nat} {d : DataW H} {ps : List MemPlace} (hval : Value.okWide Tryz.prog w r b0 25 v) (hd : DataW.Trod enc Tryz.prog w 0 spare held 25 v d ps) (hw : ∀ n ∈ d.weights Tryz.prog 25, n ≤ reachBytes) :
    ∃ s a n cap es x left yes, v = .agg #[.string s, .slice a n cap, .float .f64 x, .bool left, .bool yes] ∧ ERow w a n es ∧ SlK a n cap ∧ W64 x ∧ ∀ e ∈ es, W64 e.f := by
  obtain ⟨cs, rfl, hsz⟩ := okWide_struct Tryz.underlying25 hval
  obtain ⟨fuel, hf⟩ := hd
  have hc1 : Tryz.prog.cellsOf 22 = 1 := by kernel_rfl
  have hc2 : Tryz.prog.cellsOf 23 = 1 := by kernel_rfl
  have hc3 : Tryz.prog.cellsOf 4 = 1 := by kernel_rfl
  have hc4 : Tryz.prog.cellsOf 9 = 1 := by kernel_rfl
  have hcw : Tryz.prog.cellsOf 25 = 5 := by kernel_rfl
  obtain ⟨xs, n', _, hxx, hlen, hlen2, hfs⟩ := DataW.trod_struct Tryz.underlying25 hf
  rw [hcw] at hlen
  obtain ⟨l⟩ := cs
  simp [Value.cells] at hlen hfs
  match l, hlen, xs, hlen2 with
  | [c0, c1, c2, c3, c4], _, [x0, x1, x2, x3, x4], _ =>
    have g0 := hfs 0 _ rfl
    have g1 := hfs 1 _ rfl
    have g2 := hfs 2 _ rfl
    have g3 := hfs 3 _ rfl
    have g4 := hfs 4 _ rfl
    simp [hc1, hc2, hc3, hc4] at g0 g1 g2 g3 g4
    have hdx : d = .agg [x0.1, x1.1, x2.1, x3.1, x4.1] := congrArg Prod.fst hxx
    rw [hdx] at hw
    simp [DataW.weights, Tryz.underlying25, DataW.weightsEach] at hw
    obtain ⟨s, rfl, _⟩ := cellm_string Tryz.underlying9 g0
    obtain ⟨a, n, cap, es, he, hr, hk, h64⟩ := elems_trod g1 (fun n hn => hw n (.inr (.inl hn)))
    simp at he
    subst he
    obtain ⟨x, rfl, hx⟩ := cellm_float Tryz.underlying23 g2
    obtain ⟨left, rfl⟩ := cellm_bool Tryz.underlying4 g3
    obtain ⟨yes, rfl⟩ := cellm_bool Tryz.underlying4 g4
    exact ⟨s, a, n, cap, es, x, left, yes, rfl, hr, hk, w64m hx, h64⟩
theorem mix_weights {ts : List TypeId} {ds : List (DataW H)} {d : DataW H} {j : Nat} {t : TypeId} (hs : (DataW.weightsEach Tryz.prog ts ds).all (· ≤ reachBytes) = true) (ht : ts[j]? = some t) (hd : ds[j]? = some d) : ∀ n ∈ d.weights Tryz.prog t, n ≤ reachBytes := fun n hn => by
  have := List.all_eq_true.1 hs _ (DataW.weights_mem_each ht hd n hn)
  simpa using this

end
end Go.Proofs.YtmmfjknnbkcniaaGreat
