/- Lists of buckets: what a slice of them holds, its parts; a list that a call appends to; a row written in place. -/
import Derived.Test.YtllphokepjekpaaGrowS
import Derived.Test.YtllphokepjekpaaRowF
import Derived.Laws.IdiomCopy
import Derived.Laws.OwnMore
namespace Go.Fl
/-- A bucket: its bound, its count. -/
structure Hb where
  u : Nat
  c : Nat
deriving Inhabited

def hAt (l : List Hb) (i : Nat) : Hb := l.getD i ⟨0, 0⟩
def uH (l : List Hb) (i : Nat) : Nat := (hAt l i).u
def cH (l : List Hb) (i : Nat) : Nat := (hAt l i).c
theorem hAt_get {l : List Hb} {i : Nat} (h : i < l.length) : hAt l i = l[i] := by simp [hAt, List.getD, h]
theorem hAt_set {l : List Hb} {i j : Nat} {b : Hb} (h : i < l.length) : hAt (l.set i b) j = if i = j then b else hAt l j := by
  unfold hAt
  by_cases e : i = j
  · subst e; simp [List.getD, h]
  · simp [List.getD, e, List.getElem?_set_ne]
end Go.Fl
namespace Go.Proofs.Ytllphokepjekpaa
open Go.Fl Go.Rel Go.RowKit Go.ChangeShapes Go.WideShapes Go.Deep

/-- What a slice of buckets holds. -/
def HRow (w : World) (a : Option Addr) (n : Nat) (bs : List Hb) : Prop :=
  bs.length = n ∧ n ≤ 9223372036854775807 ∧
  (0 < n → ∃ b off, a = some ⟨b, off, none⟩ ∧ ∀ i, i < n → w.cell? ⟨b, off + i * 2, none⟩ = some (.float .f64 (uH bs i)) ∧ w.cell? ⟨b, off + i * 2 + 1, none⟩ = some (.float .f64 (cH bs i)))

theorem HRow.below {w w' : World} {a : Option Addr} {n : Nat} {bs : List Hb} (h : HRow w a n bs) (hb : Below w.heap.size w w') : HRow w' a n bs := by
  obtain ⟨h1, h2, h3⟩ := h
  refine ⟨h1, h2, fun hn => ?_⟩
  obtain ⟨b, off, ha, hc⟩ := h3 hn
  refine ⟨b, off, ha, fun i hi => ?_⟩
  obtain ⟨c0, c1⟩ := hc i hi
  have hlt : b < w.heap.size := World.block_lt_of_cell? w ⟨b, off + i * 2, none⟩ c0
  rw [hb.cell (p := ⟨b, off + i * 2, none⟩) hlt, hb.cell (p := ⟨b, off + i * 2 + 1, none⟩) hlt]
  exact ⟨c0, c1⟩

theorem HRow.nothing {w : World} (a : Option Addr) : HRow w a 0 [] := ⟨rfl, by omega, fun h => by omega⟩

theorem hAt_drop (xs : List Hb) (k i : Nat) : hAt (xs.drop k) i = hAt xs (k + i) := by simp [hAt, List.getD]
theorem hAt_take (xs : List Hb) {k i : Nat} (h : i < k) : hAt (xs.take k) i = hAt xs i := by simp [hAt, List.getD, h]

theorem HRow.take {w : World} {a : Option Addr} {n : Nat} {xs : List Hb} (h : HRow w a n xs) {k : Nat} (hk : k ≤ n) : HRow w a k (xs.take k) := by
  obtain ⟨h1, h2, h3⟩ := h
  refine ⟨by simp; omega, by omega, fun h0 => ?_⟩
  obtain ⟨b, off, ha, hc⟩ := h3 (by omega)
  exact ⟨b, off, ha, fun i hi => by unfold uH cH; rw [hAt_take xs hi]; exact hc i (by omega)⟩

theorem HRow.drop {w : World} {b off n : Nat} {xs : List Hb} (h : HRow w (some ⟨b, off, none⟩) n xs) {k : Nat} (hk : k ≤ n) : HRow w (some ⟨b, off + k * 2, none⟩) (n - k) (xs.drop k) := by
  obtain ⟨h1, h2, h3⟩ := h
  refine ⟨by simp; omega, by omega, fun h0 => ?_⟩
  obtain ⟨b', off', ha, hc⟩ := h3 (by omega)
  cases ha
  refine ⟨_, _, rfl, fun i hi => ?_⟩
  unfold uH cH
  rw [hAt_drop]
  have := hc (k + i) (by omega)
  rw [show off + k * 2 + i * 2 = off + (k + i) * 2 by omega]
  exact this

theorem HRow.head {w : World} {a : Option Addr} {n : Nat} {x : Hb} {xs : List Hb} (h : HRow w a (n + 1) (x :: xs)) : ∃ b off, a = some ⟨b, off, none⟩ ∧ b < w.heap.size ∧ w.cell? ⟨b, off, none⟩ = some (.float .f64 x.u) ∧ w.cell? ⟨b, off + 1, none⟩ = some (.float .f64 x.c) := by
  obtain ⟨h1, h2, h3⟩ := h
  obtain ⟨b, off, ha, hc⟩ := h3 (by omega)
  obtain ⟨c0, c1⟩ := hc 0 (by omega)
  simp only [Nat.zero_mul, Nat.add_zero] at c0 c1
  exact ⟨b, off, ha, World.block_lt_of_cell? w _ c0, c0, c1⟩

theorem HRow.tail {w : World} {b off n : Nat} {x : Hb} {xs : List Hb} (h : HRow w (some ⟨b, off, none⟩) (n + 1) (x :: xs)) : HRow w (some ⟨b, off + 2, none⟩) n xs := by
  have := h.drop (k := 1) (by omega)
  simpa using this

def hbCells (s : Hb) : List Value := [.float .f64 s.u, .float .f64 s.c]
theorem hbCells_length (bs : List Hb) : (bs.flatMap hbCells).length = bs.length * 2 := by
  induction bs with
  | nil => rfl
  | cons s ss ih => rw [List.flatMap_cons, List.length_append, ih]; simp [hbCells]; omega

theorem hbCells_get (bs : List Hb) (i c : Nat) (hi : i < bs.length) (hc : c < 2) : (bs.flatMap hbCells)[i * 2 + c]? = (hbCells (hAt bs i))[c]? := by
  induction bs generalizing i with
  | nil => simp at hi
  | cons s ss ih =>
    rw [List.flatMap_cons]
    cases i with
    | zero =>
      rw [List.getElem?_append_left (by simp [hbCells]; omega)]
      simp [hAt]
    | succ i =>
      rw [List.getElem?_append_right (by simp [hbCells]; omega)]
      have e : (i + 1) * 2 + c - (hbCells s).length = i * 2 + c := by simp [hbCells]; omega
      rw [e, ih i (by simpa using hi)]
      rfl

theorem hbCells_set (bs : List Hb) (i v : Nat) (hi : i < bs.length) : (bs.flatMap hbCells).set (i * 2 + 1) (.float .f64 v) = (bs.set i ⟨uH bs i, v⟩).flatMap hbCells := by
  induction bs generalizing i with
  | nil => simp at hi
  | cons s ss ih =>
    cases i with
    | zero => simp [hbCells, uH, hAt]
    | succ i =>
      have := ih i (by simpa using hi)
      have e : (i + 1) * 2 + 1 = (i * 2 + 1) + 1 + 1 := by omega
      rw [e]
      simp only [List.flatMap_cons, hbCells, List.cons_append, List.nil_append, List.set_cons_succ]
      have e2 : uH (s :: ss) (i + 1) = uH ss i := by simp [uH, hAt]
      rw [e2]
      have e3 : (List.flatMap (fun s : Hb => [Value.float .f64 s.u, Value.float .f64 s.c]) ss) = ss.flatMap hbCells := rfl
      rw [show (ss.flatMap hbCells).set (i * 2 + 1) (.float .f64 v) = (ss.set i ⟨uH ss i, v⟩).flatMap hbCells from this]

/-- A list under way: it lies in blocks from B on, and holds bs. -/
def OwnH (B : Nat) (w : World) (v : Value) (bs : List Hb) : Prop := w.ownsRow B 46 2 v bs.length (bs.flatMap hbCells)

theorem ownH_nil (B : Nat) (w : World) : OwnH B w (.slice none 0 0) [] := World.ownsRow_nil _ _ _ _
theorem OwnH.drewN {B : Nat} {w : World} {v : Value} {bs : List Hb} (h : OwnH B w v bs) (n : Nat) : OwnH B (w.drewN n) v bs := h
theorem OwnH.alloc {B : Nat} {w : World} {v : Value} {bs : List Hb} (h : OwnH B w v bs) (o : Obj) : OwnH B (w.alloc o) v bs := World.ownsRow.alloc h o

/-- A row of the call's own, written in place. -/
def WR (w : World) (g : Nat) (l : List Hb) : Prop := g < w.heap.size ∧ ∀ i, i < l.length →
  w.cell? ⟨g, i * 2, none⟩ = some (.float .f64 (uH l i)) ∧ w.cell? ⟨g, i * 2 + 1, none⟩ = some (.float .f64 (cH l i)) ∧ w.frozen? ⟨g, i * 2, none⟩ = false ∧ w.frozen? ⟨g, i * 2 + 1, none⟩ = false

theorem WR.drewN {w : World} {g : Nat} {l : List Hb} (h : WR w g l) (n : Nat) : WR (w.drewN n) g l := h
theorem WR.below {w w' : World} {g k : Nat} {l : List Hb} (h : WR w g l) (hb : Below k w w') (hk : g < k) : WR w' g l := by
  obtain ⟨h0, h⟩ := h
  refine ⟨by have := hb.size; omega, fun i hi => ?_⟩
  obtain ⟨c0, c1, f0, f1⟩ := h i hi
  rw [hb.cell (p := ⟨g, i * 2, none⟩) hk, hb.cell (p := ⟨g, i * 2 + 1, none⟩) hk]
  refine ⟨c0, c1, ?_, ?_⟩
  · unfold World.frozen? at *; rw [hb.block g hk]; exact f0
  · unfold World.frozen? at *; rw [hb.block g hk]; exact f1
theorem WR.alloc {w : World} {g : Nat} {l : List Hb} (h : WR w g l) (o : Obj) : WR (w.alloc o) g l :=
  h.below (k := w.heap.size) ((Below.refl _ _).alloc (Nat.le_refl _) o) h.1

theorem WR.setC {w : World} {g : Nat} {l : List Hb} (h : WR w g l) (i v : Nat) (hi : i < l.length) : WR (w.setCell ⟨g, i * 2 + 1, none⟩ (.float .f64 v)) g (l.set i ⟨uH l i, v⟩) := by
  obtain ⟨h0, h⟩ := h
  refine ⟨by simpa using h0, fun j hj => ?_⟩
  rw [List.length_set] at hj
  obtain ⟨c0, c1, f0, f1⟩ := h j hj
  obtain ⟨d0, d1, g0, g1⟩ := h i hi
  unfold uH cH
  rw [hAt_set hi]
  refine ⟨?_, ?_, by rw [World.frozen?_setCell]; exact f0, by rw [World.frozen?_setCell]; exact f1⟩
  · rw [World.cell?_setCell_other _ _ _ _ (fun h => by injection h with _ h2 _; omega), c0]
    split
    · rename_i e; subst e; rfl
    · rfl
  · by_cases e : i = j
    · subst e; rw [if_pos rfl]; exact World.cell?_setCell_same _ _ _ c1
    · rw [if_neg e, World.cell?_setCell_other _ _ _ _ (fun h => by injection h with _ h2 _; omega), c1]; rfl

theorem WR.setB {w : World} {g : Nat} {l : List Hb} (h : WR w g l) (i : Nat) (b : Hb) (hi : i < l.length) : WR (w.setCells g (i * 2) (hbCells b)) g (l.set i b) := by
  have h1 : WR (w.setCell ⟨g, i * 2, none⟩ (.float .f64 b.u)) g (l.set i ⟨b.u, cH l i⟩) := by
    obtain ⟨h0, h⟩ := h
    refine ⟨by simpa using h0, fun j hj => ?_⟩
    rw [List.length_set] at hj
    obtain ⟨c0, c1, f0, f1⟩ := h j hj
    unfold uH cH
    rw [hAt_set hi]
    refine ⟨?_, ?_, by rw [World.frozen?_setCell]; exact f0, by rw [World.frozen?_setCell]; exact f1⟩
    · by_cases e : i = j
      · subst e; rw [if_pos rfl]; exact World.cell?_setCell_same _ _ _ c0
      · rw [if_neg e, World.cell?_setCell_other _ _ _ _ (fun h => by injection h with _ h2 _; omega), c0]; rfl
    · rw [World.cell?_setCell_other _ _ _ _ (fun h => by injection h with _ h2 _; omega), c1]
      split
      · rename_i e; subst e; rfl
      · rfl
  have h2 := h1.setC i b.c (by rw [List.length_set]; exact hi)
  rw [List.set_set] at h2
  have e : uH (l.set i ⟨b.u, cH l i⟩) i = b.u := by unfold uH; rw [hAt_set hi, if_pos rfl]
  rw [e] at h2
  exact h2

/-- The stores of a whole bucket. -/
theorem WR.store {w : World} {g : Nat} {l : List Hb} (h : WR w g l) (i : Nat) (b : Hb) (hi : i < l.length) :
    Sem.run Try.prog (storeCells ⟨g, i * 2, none⟩ (hbCells b) 0) w = .ok () (w.setCells g (i * 2) (hbCells b)) := by
  obtain ⟨c0, c1, f0, f1⟩ := h.2 i hi
  refine run_storeCells_cells g (i * 2) (hbCells b) 0 w (fun j hj => ?_) (fun j hj => ?_) (fun v hv => ?_)
  · match j, hj with
    | 0, _ => rw [show i * 2 + 0 + 0 = i * 2 by omega, c0]; rfl
    | 1, _ => rw [show i * 2 + 0 + 1 = i * 2 + 1 by omega, c1]; rfl
  · match j, hj with
    | 0, _ => exact f0
    | 1, _ => exact f1
  · simp [hbCells] at hv; rcases hv with rfl | rfl <;> rfl

theorem below_setCells {B k : Nat} {a w : World} (h : Below B a w) (hk : B ≤ k) : ∀ (vs : List Value) (o : Nat), Below B a (w.setCells k o vs) := by
  intro vs
  induction vs generalizing w with
  | nil => intro o; exact h
  | cons v r ih => intro o; exact ih (h.setCell (p := ⟨k, o, none⟩) hk v) (o + 1)

theorem WR.hrow {w : World} {g : Nat} {l : List Hb} (h : WR w g l) (hb : l.length ≤ 9223372036854775807) : HRow w (some ⟨g, 0, none⟩) l.length l :=
  ⟨rfl, hb, fun _ => ⟨g, 0, rfl, fun i hi => by
    have := h.2 i hi
    rw [Nat.zero_add]; exact ⟨this.1, this.2.1⟩⟩⟩

theorem OwnH.form {B : Nat} {w : World} {v : Value} {bs : List Hb} (h : OwnH B w v bs) (hn : 0 < bs.length) : ∃ g cap, v = .slice (some ⟨g, 0, none⟩) bs.length cap ∧ B ≤ g ∧ g < w.heap.size ∧ bs.length ≤ 9223372036854775807 ∧ bs.length ≤ cap ∧ WR w g bs := by
  have h0 := h
  obtain ⟨h1, h2⟩ := h
  rcases h2 with ⟨rfl, hn'⟩ | ⟨g, cap, cur, rfl, hg, hbb, hn', hcap, hs, ht⟩
  · omega
  · have hlt : g < w.heap.size := (World.ownsRow.lt h0 g rfl).2
    refine ⟨g, cap, rfl, hg, hlt, by unfold maxLen at hcap; omega, hn', hlt, fun i hi => ?_⟩
    have k0 := World.ownsRow.cellAt h0 (i * 2) (by omega)
    have k1 := World.ownsRow.cellAt h0 (i * 2 + 1) (by omega)
    have e0 := hbCells_get bs i 0 hi (by omega)
    have e1 := hbCells_get bs i 1 hi (by omega)
    rw [Nat.add_zero] at e0
    rw [e0] at k0
    rw [e1] at k1
    exact ⟨k0, k1, World.ownsRow.frozenAt h0 _, World.ownsRow.frozenAt h0 _⟩

theorem OwnH.row' {B : Nat} {w : World} {v : Value} {bs : List Hb} (h : OwnH B w v bs) : ∃ a cap, v = .slice a bs.length cap ∧ SlOk a bs.length cap ∧ HRow w a bs.length bs := by
  by_cases hn : 0 < bs.length
  · obtain ⟨g, cap, hv, _, _, hb, hc, hw⟩ := h.form hn
    exact ⟨_, _, hv, ⟨hc, fun h => by cases h⟩, hw.hrow hb⟩
  · obtain ⟨h1, h2⟩ := h
    rcases h2 with ⟨rfl, hn'⟩ | ⟨g, cap, cur, rfl, hg, hbb, hn', hcap, hs, ht⟩
    · exact ⟨none, 0, by rw [hn'], ⟨by omega, fun _ => rfl⟩, ⟨rfl, by omega, fun h => by omega⟩⟩
    · exact ⟨_, _, rfl, ⟨hn', fun h => by cases h⟩, ⟨rfl, by omega, fun h => by omega⟩⟩

theorem OwnH.setC {B : Nat} {w : World} {g n cap : Nat} {bs : List Hb} (h : OwnH B w (.slice (some ⟨g, 0, none⟩) n cap) bs) (hn : bs.length = n) (i v : Nat) (hi : i < bs.length) :
    OwnH B (w.setCell ⟨g, i * 2 + 1, none⟩ (.float .f64 v)) (.slice (some ⟨g, 0, none⟩) n cap) (bs.set i ⟨uH bs i, v⟩) := by
  unfold OwnH at *
  rw [List.length_set, ← hbCells_set bs i v hi]
  rw [hn] at h ⊢
  exact (World.ownsRow.stored h (i * 2 + 1) _).1

theorem info_hb : (Try.prog.info? 46).map (fun i => (i.zero, i.size, i.bytes)) = some (some (.agg #[.float .f64 0, .float .f64 0]), 2, 16) := by kernel_rfl

/-- One bucket more. -/
theorem wpList_append_h {ops : Array Oper} {rest : List Oper} {o : Oper} {a : Act} {Q : Exit → Act → World → Prop} {w : World} (hgd : o.guard = none) (s x : Operand)
    (ho : o.op = .call { callee := .builtin .append, args := #[s, x], argTypes := #[43, 43] })
    (B : Nat) (v : Value) (ss : List Hb) (hs : a.eval s = v) (hown : OwnH B w v ss) (b c : Nat) (y : Hb) (hx : a.eval x = .slice (some ⟨b, 0, none⟩) 1 c)
    (hy : w.cell? ⟨b, 0, none⟩ = some (.float .f64 y.u) ∧ w.cell? ⟨b, 1, none⟩ = some (.float .f64 y.c))
    (hb : ss.length < 8796093022208) (hB : B ≤ w.heap.size)
    (h : ∀ v' w', OwnH B w' v' (ss ++ [y]) → w.grownBy w' v.ownBlock → (v'.ownBlock = v.ownBlock ∨ v'.ownBlock = some w.heap.size) → wpList Try.prog ops Q rest (a.put o.dst v') w') :
    wpList Try.prog ops Q (o :: rest) a w := by
  obtain ⟨i0, hi, hz0, hz1, hz2⟩ := info_parts info_hb
  refine wpList_append_own_at w hgd s x 43 ho B 46 i0 (.agg #[.float .f64 0, .float .f64 0]) 2 16 Try.underlying43 hi hz0 hz1 hz2 rfl (by decide) v _ _ hs hown ⟨b, 0, none⟩ 1 c (hbCells y) hx rfl ?_ ?_ ?_ ?_ hB ?_
  · intro j u hj
    match j, hj with
    | 0, hj => simp [hbCells] at hj; subst hj; exact hy.1
    | 1, hj => simp [hbCells] at hj; subst hj; exact hy.2
  · intro u hu; simp [hbCells] at hu; rcases hu with rfl | rfl <;> rfl
  · unfold maxLen; omega
  · omega
  · intro v' w' h1 h2 _ h4
    refine h v' w' ?_ h2 h4
    unfold OwnH
    rw [List.length_append, List.flatMap_append]
    simpa using h1

theorem OwnH.below {B : Nat} {w0 w w' : World} {v : Value} {ss : List Hb} (h : OwnH B w v ss) (hb : Below B w0 w) (hg : w.grownBy w' v.ownBlock) (hB : B ≤ w.heap.size) : Below B w0 w' :=
  hb.grown hg hB fun k hk => (World.ownsRow.lt h k hk).1

/-- A head of a slice, a rest of one. -/
theorem slice_hiH (b off n cap k : Nat) (z : Int) (hz : z = (k : Int)) (hk : k ≤ cap) (w : World) : (Instr.slice 43 (.slice (some ⟨b, off, none⟩) n cap) none (some (.int .i64 z)) none).run Try.prog w = .ok (.slice (some ⟨b, off, none⟩) k cap) w := by
  have hs : ∀ w, (Go.sizeOf (Try.prog.elem 43)).run Try.prog w = .ok 2 w := fun w => by kernel_rfl
  have ht : Try.prog.underlying 43 = some (.slice (Try.prog.elem 43)) := by kernel_rfl
  subst hz
  rw [run_slice_h _ _ _ _ _ ht .i64 (k : Int) (by omega) (by omega), hs]
  simp [sliced]
  by_cases h : cap = 0
  · simp [h]
  · simp [Addr.add_lit]
theorem slice_loH (b off n cap k : Nat) (z : Int) (hz : z = (k : Int)) (hk : k ≤ n) (hc : k ≠ cap) (w : World) : (Instr.slice 43 (.slice (some ⟨b, off, none⟩) n cap) (some (.int .i64 z)) none none).run Try.prog w = .ok (.slice (some ⟨b, off + k * 2, none⟩) (n - k) (cap - k)) w := by
  have hs : ∀ w, (Go.sizeOf (Try.prog.elem 43)).run Try.prog w = .ok 2 w := fun w => by kernel_rfl
  have ht : Try.prog.underlying 43 = some (.slice (Try.prog.elem 43)) := by kernel_rfl
  subst hz
  rw [run_slice_l _ _ _ _ _ ht .i64 (k : Int) (by omega) (by omega), hs]
  have : ¬ cap = k := fun h => hc h.symm
  simp [sliced, Addr.add_lit, this]
/-- .. wherever it lies. -/
theorem slice_restH {w0 : World} {a : Option Addr} {n cap : Nat} {x : Hb} {xs : List Hb} (hr : HRow w0 a (n + 1) (x :: xs)) (hok : SlOk a (n + 1) cap) : ∃ a', SlOk a' n (cap - 1) ∧ HRow w0 a' n xs ∧
    ∀ w, (Instr.slice 43 (.slice a (n + 1) cap) (some (.int .i64 1)) none none).run Try.prog w = .ok (.slice a' n (cap - 1)) w := by
  obtain ⟨b, off, rfl, _, _⟩ := hr.head
  by_cases hc : cap = 1
  · have hn : n = 0 := by have := hok.1; omega
    subst hn hc
    obtain rfl : xs = [] := by have := hr.1; simp at this; exact this
    refine ⟨some ⟨b, off, none⟩, ⟨by omega, fun h => by cases h⟩, HRow.nothing _, fun w => ?_⟩
    have hs : ∀ w, (Go.sizeOf (Try.prog.elem 43)).run Try.prog w = .ok 2 w := fun w => by kernel_rfl
    have ht : Try.prog.underlying 43 = some (.slice (Try.prog.elem 43)) := by kernel_rfl
    rw [run_slice_l _ _ _ _ _ ht .i64 1 (by omega) (by omega), hs]
    simp [sliced]
  · refine ⟨some ⟨b, off + 2, none⟩, ⟨by have := hok.1; omega, fun h => by cases h⟩, hr.tail, fun w => ?_⟩
    exact slice_loH b off (n + 1) cap 1 1 rfl (by omega) (fun h => hc h.symm) w

theorem exists_hbs (n : Nat) (p : Nat → Hb → Prop) (h : ∀ i, i < n → ∃ x, p i x) : ∃ ss : List Hb, ss.length = n ∧ ∀ i, i < n → p i (hAt ss i) := by
  induction n with
  | zero => exact ⟨[], rfl, fun i hi => by omega⟩
  | succ n ih =>
    obtain ⟨xs, hl, hp⟩ := ih fun i hi => h i (by omega)
    obtain ⟨x, hx⟩ := h n (by omega)
    refine ⟨xs ++ [x], by simp [hl], fun i hi => ?_⟩
    by_cases hin : i < n
    · have : hAt (xs ++ [x]) i = hAt xs i := by simp [hAt, List.getD, List.getElem?_append_left (show i < xs.length by omega)]
      rw [this]; exact hp i hin
    · obtain rfl : i = n := by omega
      have : hAt (xs ++ [x]) i = x := by subst hl; simp [hAt, List.getD]
      rw [this]; exact hx

section
variable {H : Type} {enc : TypeId × Value → H} {w : World} {spare : Nat → Bool} {held : Bool}

theorem open_buckets {v : Value} {r : Reach} {b0 : Nat} {d : DataW H} {ps : List MemPlace} (hval : Value.okWide Try.prog w r b0 43 v) (hd : DataW.Trod enc Try.prog w 0 spare held 43 v d ps) :
    ∃ a n cap ss, v = .slice a n cap ∧ HRow w a n ss ∧ SlOk a n cap := by
  obtain ⟨a0, len, cap, rfl⟩ := okWide_slice Try.underlying43 hval
  obtain ⟨fuel, hf⟩ := hd
  have hc : Try.prog.cellsOf 46 = 2 := by kernel_rfl
  have hcf : Try.prog.cellsOf 23 = 1 := by kernel_rfl
  rcases open_slice Try.underlying43 hf with ⟨hcs, _⟩ | ⟨a, len', cap', m, n, D, Pl, hcs, _, hl, hm, hmm, _, hx⟩
  · simp [Value.cells] at hcs
    obtain ⟨rfl, rfl, rfl⟩ := hcs
    exact ⟨_, _, _, [], rfl, ⟨rfl, by omega, fun h => by omega⟩, ⟨Nat.le_refl _, fun _ => rfl⟩⟩
  · simp [Value.cells] at hcs
    obtain ⟨rfl, rfl, rfl⟩ := hcs
    have hle : len ≤ m := by rw [hmm]; split <;> omega
    obtain ⟨ss, hsl, hsp⟩ := exists_hbs len (fun i x => w.cell? (a.add (i * 2)) = some (.float .f64 x.u) ∧ w.cell? (a.add (i * 2 + 1)) = some (.float .f64 x.c)) (fun i hi => by
      obtain ⟨cs, h1, h2⟩ := hx i (by omega)
      rw [hc] at h1
      obtain ⟨_, hlen, hcell⟩ := World.cells?_some h1
      obtain ⟨xs, n', _, _, _, hlen2, hfs⟩ := DataW.trod_struct Try.underlying46 h2
      match cs, hlen, xs, hlen2 with
      | [c0, c1], _, [x0, x1], _ =>
        have g0 := hfs 0 _ rfl
        have g1 := hfs 1 _ rfl
        simp [hcf] at g0 g1
        obtain ⟨t, rfl⟩ := cell_float Try.underlying23 g0
        obtain ⟨v, rfl⟩ := cell_float Try.underlying23 g1
        refine ⟨⟨t, v⟩, ?_, ?_⟩
        · have := hcell 0 (by simp); simpa [Deep.add_add] using this
        · have := hcell 1 (by simp); simpa [Deep.add_add] using this)
    refine ⟨_, _, _, ss, rfl, ⟨hsl, by unfold maxLen at hm; omega, fun hn => ?_⟩, ⟨hl, fun h => by cases h⟩⟩
    obtain ⟨b, off, spot⟩ := a
    have h0 := (hsp 0 hn).1
    have hspot : spot = none := by simpa [Addr.add] using World.cell?_spot h0
    subst hspot
    refine ⟨b, off, rfl, fun i hi => ?_⟩
    obtain ⟨h1, h2⟩ := hsp i hi
    refine ⟨?_, ?_⟩
    · unfold uH; simpa [Addr.add_lit] using h1
    · unfold cH; simpa [Addr.add_lit, Nat.add_assoc] using h2
end
end Go.Proofs.Ytllphokepjekpaa
