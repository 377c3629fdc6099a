/- pair.met: the walk. (Printed by tools/genmet.py.) -/
import Derived.Test.YtmmfjknnbkcniaaGreatDoorV34
set_option maxHeartbeats 64000000
set_option maxRecDepth 100000
namespace Go.Proofs.YtmmfjknnbkcniaaGreatDoor
open Go.Fl Go.Rel Go.RowKit Go.Maps Go.WideMaps
set_option linter.unusedSimpArgs false
set_option linter.unusedVariables false
theorem keep9 {w w' : World} {q0 q1 q2 q3 q4 q5 q6 q7 q8 : Addr} {v0 v1 v2 v3 v4 v5 v6 v7 v8 : Value} (h : w.cell? q0 = some v0 ∧ w.cell? q1 = some v1 ∧ w.cell? q2 = some v2 ∧ w.cell? q3 = some v3 ∧ w.cell? q4 = some v4 ∧ w.cell? q5 = some v5 ∧ w.cell? q6 = some v6 ∧ w.cell? q7 = some v7 ∧ w.cell? q8 = some v8) (hb : Below w.heap.size w w') : w'.cell? q0 = some v0 ∧ w'.cell? q1 = some v1 ∧ w'.cell? q2 = some v2 ∧ w'.cell? q3 = some v3 ∧ w'.cell? q4 = some v4 ∧ w'.cell? q5 = some v5 ∧ w'.cell? q6 = some v6 ∧ w'.cell? q7 = some v7 ∧ w'.cell? q8 = some v8 := by
 obtain ⟨h0, h1, h2, h3, h4, h5, h6, h7, h8⟩ := h
 exact ⟨cell_stayL h0 hb, cell_stayL h1 hb, cell_stayL h2 hb, cell_stayL h3 hb, cell_stayL h4 hb, cell_stayL h5 hb, cell_stayL h6 hb, cell_stayL h7 hb, cell_stayL h8 hb⟩
theorem keepA9 {w : World} {q0 q1 q2 q3 q4 q5 q6 q7 q8 : Addr} {v0 v1 v2 v3 v4 v5 v6 v7 v8 : Value} (h : w.cell? q0 = some v0 ∧ w.cell? q1 = some v1 ∧ w.cell? q2 = some v2 ∧ w.cell? q3 = some v3 ∧ w.cell? q4 = some v4 ∧ w.cell? q5 = some v5 ∧ w.cell? q6 = some v6 ∧ w.cell? q7 = some v7 ∧ w.cell? q8 = some v8) (o : Obj) : (w.alloc o).cell? q0 = some v0 ∧ (w.alloc o).cell? q1 = some v1 ∧ (w.alloc o).cell? q2 = some v2 ∧ (w.alloc o).cell? q3 = some v3 ∧ (w.alloc o).cell? q4 = some v4 ∧ (w.alloc o).cell? q5 = some v5 ∧ (w.alloc o).cell? q6 = some v6 ∧ (w.alloc o).cell? q7 = some v7 ∧ (w.alloc o).cell? q8 = some v8 := by
 obtain ⟨h0, h1, h2, h3, h4, h5, h6, h7, h8⟩ := h
 exact ⟨cell_oldL h0 o, cell_oldL h1 o, cell_oldL h2 o, cell_oldL h3 o, cell_oldL h4 o, cell_oldL h5 o, cell_oldL h6 o, cell_oldL h7 o, cell_oldL h8 o⟩
theorem keepG9 {w w' : World} {B0 B1 B2 B3 : Nat} {i0 i1 i2 i3 i4 i5 i6 i7 i8 : Nat} {v0 v1 v2 v3 v4 v5 v6 v7 v8 : Value} {ob : Option Nat} (h : w.cell? ⟨B0, i0, none⟩ = some v0 ∧ w.cell? ⟨B1, i1, none⟩ = some v1 ∧ w.cell? ⟨B2, i2, none⟩ = some v2 ∧ w.cell? ⟨B2, i3, none⟩ = some v3 ∧ w.cell? ⟨B2, i4, none⟩ = some v4 ∧ w.cell? ⟨B2, i5, none⟩ = some v5 ∧ w.cell? ⟨B2, i6, none⟩ = some v6 ∧ w.cell? ⟨B3, i7, none⟩ = some v7 ∧ w.cell? ⟨B3, i8, none⟩ = some v8) (hg : w.grownBy w' ob) (hn : some B0 ≠ ob ∧ some B1 ≠ ob ∧ some B2 ≠ ob ∧ some B3 ≠ ob) : w'.cell? ⟨B0, i0, none⟩ = some v0 ∧ w'.cell? ⟨B1, i1, none⟩ = some v1 ∧ w'.cell? ⟨B2, i2, none⟩ = some v2 ∧ w'.cell? ⟨B2, i3, none⟩ = some v3 ∧ w'.cell? ⟨B2, i4, none⟩ = some v4 ∧ w'.cell? ⟨B2, i5, none⟩ = some v5 ∧ w'.cell? ⟨B2, i6, none⟩ = some v6 ∧ w'.cell? ⟨B3, i7, none⟩ = some v7 ∧ w'.cell? ⟨B3, i8, none⟩ = some v8 := by
 obtain ⟨h0, h1, h2, h3, h4, h5, h6, h7, h8⟩ := h
 obtain ⟨n0, n1, n2, n3⟩ := hn
 exact ⟨hg.cell h0 n0, hg.cell h1 n1, hg.cell h2 n2, hg.cell h3 n2, hg.cell h4 n2, hg.cell h5 n2, hg.cell h6 n2, hg.cell h7 n3, hg.cell h8 n3⟩
theorem MapF.nocell {w : World} {b n i : Nat} {f : ByteArray → Int} (h : MapF w b n f) : w.cell? ⟨b, i, none⟩ = none := by
 obtain ⟨D, ⟨es, clock, h1, _⟩, _⟩ := h
 unfold World.cell?
 simp [h1]
theorem NRow.grown {w w' : World} {g n b k : Nat} {ns : List ByteArray} {f : ByteArray → Int} (h : NRow w (some ⟨g, 0, none⟩) n ns) (hm : MapF w b k f) (hg : w.grownBy w' (some b)) : NRow w' (some ⟨g, 0, none⟩) n ns := by
 obtain ⟨h1, h2, h3, h4⟩ := h
 refine ⟨h1, h2, h3, fun hn => ?_⟩
 obtain ⟨b1, o1, e1, hlt, hc⟩ := h4 hn
 cases e1
 have hne : g ≠ b := fun e => by
  have := hc 0 hn
  rw [e, hm.nocell] at this; cases this
 refine ⟨g, 0, rfl, Nat.lt_of_lt_of_le hlt hg.size, fun i hi => ?_⟩
 exact hg.cell (hc i hi) (fun e => hne (by injection e))
def PartF (m : Mt) (es : List Er) (F : ByteArray → Int) : Prop :=
 ∀ e : Er, (F (keyE m e) = 0 ∧ meetsK m.on m.ns e.ls (es.map Er.ls) = false) ∨ (∃ j : Nat, j < es.length ∧ F (keyE m e) = (j : Int) + 1 ∧ meetL m.on m.ns e.ls (erAt es j).ls = true)
theorem PartF.nil (m : Mt) : PartF m [] (fun _ => 0) := fun e => .inl ⟨rfl, rfl⟩
theorem PartF.snoc {m : Mt} {es : List Er} {k : Nat} {F : ByteArray → Int} (h : PartF m (es.take k) F) (hk : k < es.length) (h0 : F (keyE m (erAt es k)) = 0) :
  PartF m (es.take (k + 1)) (fun t => if t.data.toList = (keyE m (erAt es k)).data.toList then (k : Int) + 1 else F t) := by
 intro e
 dsimp only
 have hm := keyE_meet m e (erAt es k)
 by_cases he : (keyE m e).data.toList = (keyE m (erAt es k)).data.toList
 ·rw [decide_eq_true he] at hm
  refine .inr ⟨k, by simp; omega, by rw [if_pos he], ?_⟩
  rw [erAt_take es (by omega)]; exact hm.symm
 ·rw [decide_eq_false he] at hm
  rw [if_neg he]
  rcases h e with ⟨h1, h2⟩ | ⟨j, h1, h2, h3⟩
  ·refine .inl ⟨h1, ?_⟩
   rw [meets_take hk, h2, ← hm]; rfl
  ·have hj : j < k := by simp at h1; omega
   refine .inr ⟨j, by simp; omega, h2, ?_⟩
   rw [erAt_take es (by omega)]
   rw [erAt_take es hj] at h3; exact h3
def NoDupM (m : Mt) (es : List Er) (k : Nat) : Prop := ∀ i, i < k → meetsK m.on m.ns (erAt es i).ls ((es.take i).map Er.ls) = false
theorem dupM_er (m : Mt) (es : List Er) : dupM m.on m.ns (es.map Er.key) = (List.range es.length).any fun i => meetsK m.on m.ns (erAt es i).ls ((es.take i).map Er.ls) := by
 unfold dupM
 rw [List.length_map, Bool.eq_iff_iff, List.any_eq_true, List.any_eq_true]
 constructor
 all_goals
  rintro ⟨i, hi, h⟩
  refine ⟨i, hi, ?_⟩
  rw [kAt_key es (List.mem_range.1 hi), ← List.map_take, List.map_map] at *
  exact h
theorem dupM_no {m : Mt} {es : List Er} (h : NoDupM m es es.length) : dupM m.on m.ns (es.map Er.key) = false := by
 rw [dupM_er, List.any_eq_false]
 intro i hi
 rw [h i (List.mem_range.1 hi)]; simp
theorem dupM_yes {m : Mt} {es : List Er} {i j : Nat} (hi : i < es.length) (hj : j < i) (h : meetL m.on m.ns (erAt es i).ls (erAt es j).ls = true) : dupM m.on m.ns (es.map Er.key) = true := by
 rw [dupM_er, List.any_eq_true]
 refine ⟨i, List.mem_range.2 hi, ?_⟩
 unfold meetsK
 rw [List.any_eq_true]
 refine ⟨(erAt es j).ls, ?_, h⟩
 rw [erAt_get (by omega)]
 exact List.mem_map_of_mem (List.mem_take_iff_getElem.2 ⟨j, by omega, rfl⟩)
theorem part_of {m : Mt} {es : List Er} (h : NoDupM m es es.length) {x : Er} {j : Nat} (hj : j < es.length) (hx : meetL m.on m.ns x.ls (erAt es j).ls = true) : partK m.on m.ns (es.map Er.key) x.key = some (erAt es j).key := by
 unfold partK
 rw [List.find?_eq_some_iff_append]
 refine ⟨hx, (es.take j).map Er.key, (es.drop (j + 1)).map Er.key, ?_, fun y hy => ?_⟩
 ·rw [erAt_get hj, ← List.map_cons, ← List.map_append]
  congr 1
  rw [← List.drop_eq_getElem_cons hj, List.take_append_drop]
 ·obtain ⟨e, he, rfl⟩ := List.mem_map.1 hy
  obtain ⟨i, hi, rfl⟩ := List.getElem_of_mem he
  have hij : i < j := by simp at hi; omega
  cases hd : meetL m.on m.ns x.ls ((es.take j)[i]).ls
  ·show (!meetL m.on m.ns x.ls ((es.take j)[i]).ls) = true
   rw [hd]; rfl
  ·exfalso
   have h1 := h j hj
   unfold meetsK at h1
   rw [List.any_eq_false] at h1
   refine h1 ((es.take j)[i]).ls (List.mem_map_of_mem (List.getElem_mem hi)) ?_
   rw [← meet_same hx]; exact hd
theorem part_none {m : Mt} {es : List Er} {x : Er} (h : meetsK m.on m.ns x.ls (es.map Er.ls) = false) : partK m.on m.ns (es.map Er.key) x.key = none := by
 unfold partK
 rw [List.find?_eq_none]
 intro y hy
 obtain ⟨e, he, rfl⟩ := List.mem_map.1 hy
 unfold meetsK at h
 rw [List.any_eq_false] at h
 exact h _ (List.mem_map_of_mem he)
theorem cnt_many (m : Mt) (es : List Er) (e : Er) : (cntT (es.map (keyE m)) (keyE m e)) = ((es.map Er.key).countP fun y => meetL m.on m.ns e.key.1 y.1) := by
 rw [cnt_meets, List.countP_map]; rfl
theorem met_mult {k : Nat} {on : Bool} {ns inc : List ByteArray} {card : Int} {yes : Bool} {many single : List Ek} (hd : dupM on ns single = false) (hc : card = 0) (hm : multM on ns many single = true) :
  metE k on ns inc card yes many single = 211 ∧ metV k on ns inc card yes many single = [] := by
 unfold metE metV
 rw [hd]
 simp [hc, hm]
theorem met_ok {k : Nat} {on : Bool} {ns inc : List ByteArray} {card : Int} {yes : Bool} {many single : List Ek} (hd : dupM on ns single = false) (hm : card = 0 → multM on ns many single = false) :
  metE k on ns inc card yes many single = setE (metL k on ns inc card yes many single) ∧ metV k on ns inc card yes many single = setV (metL k on ns inc card yes many single) := by
 unfold metE metV
 rw [hd]
 by_cases hc : card = 0
 ·simp [hm hc]
 ·simp [hc]
theorem met_dup {k : Nat} {on : Bool} {ns inc : List ByteArray} {card : Int} {yes : Bool} {many single : List Ek} (hd : dupM on ns single = true) :
  metE k on ns inc card yes many single = 210 ∧ metV k on ns inc card yes many single = [] := by
 unfold metE metV
 rw [hd]
 simp
theorem run_lookup_F {w : World} {b n : Nat} {f : ByteArray → Int} (h : MapF w b n f) (s : ByteArray) (hs : s.size ≤ maxLen) : (Instr.lookup 79 (.map (some b)) (.string s) false).run Tryz.prog w = .ok (.int .i64 (f s)) w := by
 obtain ⟨D, h1, h2⟩ := h
 obtain ⟨c, hrun, hat, _⟩ := h1.lookup_int keyed_str Tryz.underlying79 Tryz.underlying3 (zero_int w) (keyOf_str s hs)
 rw [h2 s] at hat
 injection hat with hat
 injection hat with _ hat
 rw [hat]; exact hrun
def PartRel (m : Mt) (es : List Er) (g g1 : Nat) (w : World) (v39 : Value) (wr : World) : Prop :=
 ∃ (k : Nat) (F : ByteArray → Int), v39 = .int .i64 (k : Int) ∧ k ≤ es.length ∧ MapF wr g k F ∧ PartF m (es.take k) F ∧ NoDupM m es k ∧ NRow wr (some ⟨g1, 0, none⟩) es.length (es.map (keyE m)) ∧ Below g w wr
def MetRel (es : List Er) (f : Ek → Option Ek) (ok : Ek → Bool) (w : World) (v19 v60 : Value) (wr : World) : Prop :=
 ∃ (j : Nat) (O : List Er), v60 = .int .i64 (j : Int) ∧ j ≤ es.length ∧ OwnE w.heap.size wr v19 O ∧ (∀ e ∈ O, ErKeep w wr e) ∧
  O.map (fun x => clK x.key) = ((es.take j).map Er.key).filterMap f ∧ O.length ≤ j ∧ (∀ i, i < j → ok (erAt es i).key = true) ∧ Below w.heap.size w wr
end Go.Proofs.YtmmfjknnbkcniaaGreatDoor
