/- labels.Valid: is this a label set? -/
import Derived.Test.YtmmfjknnbkcniaaGreatDoorQ11
import Derived.Test.YtmmfjknnbkcniaaGreatDoorQ12
import Derived.Deep.RegionHeld3
namespace Go.Fl
open Go.Rel Go.RowKit
/-- Not looked into. -/
structure LidK (p : Prop) : Prop where
  out : p
section
variable {P : Program} {ops : Array Oper} {C : World → Prop} {Rc : FuncId → Array Value → Value → Prop} {Q' : Act → Prop} {a : Act} {rest : List Oper}
theorem wpRel_run {dst : Option Tmp} {op : Op} {ty : TypeId} {pos : String} {after : Array Edge} {guard : Option (Nat × Bool)} (w0 : World) (hC : C w0) (v : Value) (hp : plainOp op = true)
    (hg : Region.wanted { dst, op, type := ty, pos, after, guard } (yielded ops a.tmps) = true)
    (hr : ∀ w, C w → (execOp a.eval { dst, op, type := ty, pos, after, guard }).run P w = .ok (.value v) w)
    (h : wpQuiet P ops C (fun a' => wpRel P ops C Rc Q' rest a') [{ dst, op := .move (.const v), type := ty, pos, after := #[], guard := none }] a) :
    wpRel P ops C Rc Q' ({ dst, op, type := ty, pos, after, guard } :: rest) a := by
  refine wpRel_quiet hp ?_
  have h' := wpRel_laid w0 hC h
  unfold wpQuiet
  rw [if_pos hg]
  refine ⟨v, fun w hw => ?_, h'⟩
  unfold Oper.quietAt; rw [hr w hw]; exact ⟨rfl, rfl⟩
theorem wpRel_skip2 {dst : Option Tmp} {op : Op} {ty : TypeId} {pos : String} {after : Array Edge} {guard : Option (Nat × Bool)} (w0 : World) (hC : C w0)
    (hg : Region.wanted { dst, op, type := ty, pos, after, guard } (yielded ops a.tmps) = false)
    (h : wpQuiet P ops C (fun a' => wpRel P ops C Rc Q' rest a') [{ dst, op := .move (.const undef), type := ty, pos, after := #[], guard := none }] a) :
    wpRel P ops C Rc Q' ({ dst, op, type := ty, pos, after, guard } :: rest) a := wpRel_skip hg (wpRel_laid w0 hC h)
theorem wpRel_runK {dst : Option Tmp} {op : Op} {ty : TypeId} {pos : String} {after : Array Edge} {guard : Option (Nat × Bool)} (w0 : World) (hC : C w0) (v : Value) (hp : plainOp op = true)
    (hg : Region.wanted { dst, op, type := ty, pos, after, guard } (yielded ops a.tmps) = true)
    (hr : ∀ w, C w → (execOp a.eval { dst, op, type := ty, pos, after, guard }).run P w = .ok (.value v) w)
    (h : ∀ K : Act → Prop, (∀ a', LidK (wpRel P ops C Rc Q' rest a') → K a') → wpQuiet P ops C K [{ dst, op := .move (.const v), type := ty, pos, after := #[], guard := none }] a) : LidK (wpRel P ops C Rc Q' ({ dst, op, type := ty, pos, after, guard } :: rest) a) := LidK.mk (wpRel_run w0 hC v hp hg hr (h _ fun _ h => h.out))
theorem wpRel_skipK {dst : Option Tmp} {op : Op} {ty : TypeId} {pos : String} {after : Array Edge} {guard : Option (Nat × Bool)} (w0 : World) (hC : C w0)
    (hg : Region.wanted { dst, op, type := ty, pos, after, guard } (yielded ops a.tmps) = false)
    (h : ∀ K : Act → Prop, (∀ a', LidK (wpRel P ops C Rc Q' rest a') → K a') → wpQuiet P ops C K [{ dst, op := .move (.const undef), type := ty, pos, after := #[], guard := none }] a) : LidK (wpRel P ops C Rc Q' ({ dst, op, type := ty, pos, after, guard } :: rest) a) := LidK.mk (wpRel_skip2 w0 hC hg (h _ fun _ h => h.out))
theorem wpRel_guardK {dst : Option Tmp} {op : Op} {ty : TypeId} {pos : String} {after : Array Edge} {guard : Option (Nat × Bool)} (hp : plainOp op = true)
    (hg : Region.wanted { dst, op, type := ty, pos, after, guard } (yielded ops a.tmps) = true)
    (h : ∀ K : Act → Prop, (∀ a', LidK (wpRel P ops C Rc Q' rest a') → K a') → wpQuiet P ops C K [{ dst, op, type := ty, pos, after := #[], guard := none }] a) : LidK (wpRel P ops C Rc Q' ({ dst, op, type := ty, pos, after, guard } :: rest) a) := by
  have h' := h (wpRel P ops C Rc Q' rest) fun _ h => h.out
  unfold wpQuiet at h'
  rw [if_pos (by rfl)] at h'
  refine LidK.mk (wpRel_quiet hp ?_)
  unfold wpQuiet
  rw [if_pos hg]
  exact h'
theorem wpRel_callK {dst : Option Tmp} {ty : TypeId} {pos : String} {after : Array Edge} {guard : Option (Nat × Bool)} (f : FuncId) (fn : Func) (xs : Array Operand) (ats : Array TypeId) (args : Array Value)
    (hg : Region.wanted { dst, op := .call { callee := .value (.func f), args := xs, argTypes := ats }, type := ty, pos, after, guard } (yielded ops a.tmps) = true)
    (hf : P.funcs[f]? = some fn) (hb : fn.body.isNone = false) (hn : (fn.name == "runtime.NumGoroutine") = false) (hargs : xs.map a.eval = args)
    (hc : ∀ w, C w → Calls P f args w fun e w2 => ∃ v, e = .returned v ∧ Rc f args v ∧ C w2)
    (h : ∀ v, Rc f args v → ∀ K : Act → Prop, (∀ a', LidK (wpRel P ops C Rc Q' rest a') → K a') → wpQuiet P ops C K [{ dst, op := .move (.const v), type := ty, pos, after := #[], guard := none }] a) : LidK (wpRel P ops C Rc Q' ({ dst, op := .call { callee := .value (.func f), args := xs, argTypes := ats }, type := ty, pos, after, guard } :: rest) a) := LidK.mk (wpRel_call f fn xs ats args hg hf hb hn hargs hc (fun v hv => h v hv _ fun _ h => h.out))
end
end Go.Fl

namespace Go.Proofs.YtmmfjknnbkcniaaGreatDoor
open Go.Fl Go.Rel Go.RowKit Go.Utf
set_option linter.unusedSimpArgs false
set_option linter.unusedVariables false

theorem cell_stayL {w w' : World} {q : Addr} {v : Value} (h : w.cell? q = some v) (hb : Below w.heap.size w w') : w'.cell? q = some v := by
  have hlt := World.block_lt_of_cell? w q h
  rw [hb.cell hlt]; exact h
theorem cell_oldL {w : World} {q : Addr} {v : Value} (h : w.cell? q = some v) (o : Obj) : (w.alloc o).cell? q = some v :=
  cell_stayL h ((Below.refl _ _).alloc (Nat.le_refl _) o)
/-- Is the label sound, behind its neighbour? -/
def okL (ls : List Lb) (i : Nat) : Bool := labB (nL ls i) && (!decide ((vL ls i).size = 0) && (utf8B (vL ls i) && (decide (i = 0) || Op.bytesLess (nL ls (i - 1)).toList (nL ls i).toList)))

def ValidRel (ls : List Lb) (w : World) (v : Value) (wr : World) : Prop :=
  ∃ k : Nat, v = .int .i64 (k : Int) ∧ k ≤ ls.length ∧ (∀ j, j < k → okL ls j = true) ∧ Below w.heap.size w wr

set_option maxHeartbeats 4000000 in
set_option maxRecDepth 100000 in
theorem valid_any (a : Option Addr) (n cap : Nat) (ls : List Lb) (w : World) (hr : LRow w a n ls) :
    Calls Tryz.prog 36 #[.slice a n cap] w fun e w' => e = .returned (.bool ((List.range n).all (okL ls))) ∧ Below w.heap.size w w' := by
  have HR := Lib.hid hr
  have hl := hr.1
  have n1 : (n : Int) ≤ 9223372036854775807 := by have := hr.2.1; omega
  clear hr
  go_enter Tryz.func36, Tryz.ntmps36
  go_wp2_with fail
  go_loopw [7] (ValidRel ls w) (fun v _ => n - (intOf v).toNat)
  case atStart => exact ⟨0, rfl, by omega, fun j h => by omega, Below.refl _ _⟩
  case round =>
    obtain ⟨k, rfl, hk, hok, bel⟩ := hrel
    have hrw := HR.out.below bel
    by_cases hlt : k < n
    · have dl : decide ((k : Int) < (n : Int)) = true := decide_eq_true (by omega)
      obtain ⟨b, off, ha, hbl, hcell⟩ := hrw.2.2.2 (by omega)
      subst ha
      obtain ⟨c0, c1⟩ := hcell k hlt
      have hsm := hrw.2.2.1 k
      obtain ⟨N, hN⟩ : ∃ N, N = nL ls k := ⟨_, rfl⟩
      obtain ⟨V, hV⟩ : ∃ V, V = vL ls k := ⟨_, rfl⟩
      rw [← hN] at c0 hsm
      rw [← hV] at c1 hsm
      have k1 : (0 : Int) ≤ (k : Int) := by omega
      have k2 : (k : Int) < (n : Int) := by omega
      have HUV : Hid (∀ W, Calls Tryz.prog 54 #[.string V] W fun e w' => e = .returned (.bool (utf8B V)) ∧ Below W.heap.size W w') := Lib.hid (fun W => (utf_any V W (by have := hsm.2; unfold SmallT at this; omega)).mono fun e w' ⟨h1, pos, h2⟩ => ⟨h1, by rw [h2]; exact (Below.refl _ _).alloc (Nat.le_refl _) _⟩)
      have HIL : Hid (∀ W, Calls Tryz.prog 53 #[.string N] W fun e w' => e = .returned (.bool (labB N)) ∧ W = w') := Lib.hid (fun W => islabel_any N W (by have := hsm.1; unfold SmallT at this; omega))
      have hem := empty_iff V
      have Hcell := Lib.hid hcell
      have HN := Lib.hid hN
      have HV := Lib.hid hV
      clear hcell hN hV
      go_wp2_with fail
      have hbx : Below wr.heap.size wr (wr.alloc (.cells #[.string N, .string V] 54)) := (Below.refl _ _).alloc (Nat.le_refl _) _
      have e0 : (wr.alloc (.cells #[.string N, .string V] 54)).cell? ⟨wr.heap.size, 0, none⟩ = some (.string N) := by rw [World.cell?_alloc_at _ _ _ _ rfl]; rfl
      have e1 : (wr.alloc (.cells #[.string N, .string V] 54)).cell? ⟨wr.heap.size, 1, none⟩ = some (.string V) := by rw [World.cell?_alloc_at _ _ _ _ rfl]; rfl
      generalize wr.alloc (.cells #[.string N, .string V] 54) = W at hbx e0 e1 ⊢
      have bel2 := Lib.hid (bel.trans (hbx.mono bel.size))
      have HC0 : Hid (∀ wd, Below W.heap.size W wd → wd.cell? ⟨wr.heap.size, 0, none⟩ = some (.string N)) := Lib.hid fun wd hb => cell_stayL e0 hb
      have HC1 : Hid (∀ wd, Below W.heap.size W wd → wd.cell? ⟨wr.heap.size, 1, none⟩ = some (.string V)) := Lib.hid fun wd hb => cell_stayL e1 hb
      have rcl : ∀ {v : Value}, ((53 = 53 ∧ v = .bool (labB N)) ∨ (53 = 54 ∧ v = .bool (utf8B V))) → v = .bool (labB N) := fun h => by rcases h with h | h; exact h.2; exact absurd h.1 (by decide)
      have rcu : ∀ {v : Value}, ((54 = 53 ∧ v = .bool (labB N)) ∨ (54 = 54 ∧ v = .bool (utf8B V))) → v = .bool (utf8B V) := fun h => by rcases h with h | h; exact absurd h.1 (by decide); exact h.2
      cases h1 : labB N
      · have HE : Hid ((List.range n).all (okL ls) = false) := Lib.hid (by
          rw [List.all_eq_false]
          exact ⟨k, List.mem_range.2 hlt, by unfold okL; rw [← HN.out, ← HV.out, h1]; simp⟩)
        rw [h1] at HIL rcl rcu
        clear hok hsm hrw bel c0 c1 e0 e1
        refine wp_region_rel (fun wd => Below W.heap.size W wd) (fun f _ v => (f = 53 ∧ v = .bool false) ∨ (f = 54 ∧ v = .bool (utf8B V))) (by kernel_rfl) (by kernel_rfl) ((Below.refl _ _).drew) (LidK.out ?_)
        refine wpRel_runK W (Below.refl _ _) (.pointer (some ⟨wr.heap.size, 0, none⟩)) (by rfl) (by kernel_rfl) ?_ ?_
        · intro wd hb
          simp [go_sem, Act.eval]
        (intro K hK; have hK2 := LidK.mk hK; clear hK; go_big_quiet_step (fail); refine wpQuiet_nil ?_; refine hK2.out _ ?_; clear hK2 K)
        refine wpRel_runK W (Below.refl _ _) (.string N) (by rfl) (by kernel_rfl) ?_ ?_
        · intro wd hb
          have hx := HC0.out wd hb; simp [go_sem, Act.eval, hx]
        (intro K hK; have hK2 := LidK.mk hK; clear hK; go_big_quiet_step (fail); refine wpQuiet_nil ?_; refine hK2.out _ ?_; clear hK2 K)
        refine wpRel_callK 53 Tryz.f53 _ _ #[.string N] (by kernel_rfl) Tryz.func53 (by kernel_rfl) (by kernel_rfl) (by simp only [List.map_toArray, List.map]; rfl) (fun wd hd => (HIL.out wd).mono fun e w2 ⟨g1, g2⟩ => ⟨_, g1, .inl ⟨rfl, rfl⟩, by rw [← g2]; exact hd⟩) ?_
        intro v hv
        obtain rfl := rcl hv
        clear hv
        (intro K hK; have hK2 := LidK.mk hK; clear hK; go_big_quiet_step (fail); refine wpQuiet_nil ?_; refine hK2.out _ ?_; clear hK2 K)
        refine wpRel_runK W (Below.refl _ _) (.bool true) (by rfl) (by kernel_rfl) ?_ ?_
        · intro wd hb
          simp [go_sem, Act.eval, hem]
        (intro K hK; have hK2 := LidK.mk hK; clear hK; go_big_quiet_step (fail); refine wpQuiet_nil ?_; refine hK2.out _ ?_; clear hK2 K)
        refine wpRel_runK W (Below.refl _ _) (.bool true) (by rfl) (by kernel_rfl) ?_ ?_
        · intro wd hb
          simp [go_sem, Act.eval, hem]
        (intro K hK; have hK2 := LidK.mk hK; clear hK; go_big_quiet_step (fail); refine wpQuiet_nil ?_; refine hK2.out _ ?_; clear hK2 K)
        iterate 3 (refine wpRel_skipK W (Below.refl _ _) (by kernel_rfl) ?_; intro K hK; have hK2 := LidK.mk hK; clear hK; go_big_quiet_step (fail); refine wpQuiet_nil ?_; refine hK2.out _ ?_; clear hK2 K)
        refine wpRel_runK W (Below.refl _ _) (.bool true) (by rfl) (by kernel_rfl) ?_ ?_
        · intro wd hb
          simp [go_sem, Act.eval, hem]
        (intro K hK; have hK2 := LidK.mk hK; clear hK; go_big_quiet_step (fail); refine wpQuiet_nil ?_; refine hK2.out _ ?_; clear hK2 K)
        refine wpRel_runK W (Below.refl _ _) (.bool true) (by rfl) (by kernel_rfl) ?_ ?_
        · intro wd hb
          simp [go_sem, Act.eval, hem]
        (intro K hK; have hK2 := LidK.mk hK; clear hK; go_big_quiet_step (fail); refine wpQuiet_nil ?_; refine hK2.out _ ?_; clear hK2 K)
        iterate 4 (refine wpRel_skipK W (Below.refl _ _) (by kernel_rfl) ?_; intro K hK; have hK2 := LidK.mk hK; clear hK; go_big_quiet_step (fail); refine wpQuiet_nil ?_; refine hK2.out _ ?_; clear hK2 K)
        refine wpRel_runK W (Below.refl _ _) (.bool true) (by rfl) (by kernel_rfl) ?_ ?_
        · intro wd hb
          simp [go_sem, Act.eval, hem]
        (intro K hK; have hK2 := LidK.mk hK; clear hK; go_big_quiet_step (fail); refine wpQuiet_nil ?_; refine hK2.out _ ?_; clear hK2 K)
        refine wpRel_runK W (Below.refl _ _) (.bool true) (by rfl) (by kernel_rfl) ?_ ?_
        · intro wd hb
          simp [go_sem, Act.eval, hem]
        (intro K hK; have hK2 := LidK.mk hK; clear hK; go_big_quiet_step (fail); refine wpQuiet_nil ?_; refine hK2.out _ ?_; clear hK2 K)
        iterate 13 (refine wpRel_skipK W (Below.refl _ _) (by kernel_rfl) ?_; intro K hK; have hK2 := LidK.mk hK; clear hK; go_big_quiet_step (fail); refine wpQuiet_nil ?_; refine hK2.out _ ?_; clear hK2 K)
        refine wpRel_runK W (Below.refl _ _) (.bool true) (by rfl) (by kernel_rfl) ?_ ?_
        · intro wd hb
          simp [go_sem, Act.eval, hem]
        (intro K hK; have hK2 := LidK.mk hK; clear hK; go_big_quiet_step (fail); refine wpQuiet_nil ?_; refine hK2.out _ ?_; clear hK2 K)
        refine LidK.mk (wpRel_nil ?_)
        intro wz hz
        go_wp2_with fail
        go_ret
        exact ⟨by rw [HE.out]; rfl, bel2.out.trans (hz.mono bel2.out.size)⟩
      by_cases h2 : V.size = 0
      · have HE : Hid ((List.range n).all (okL ls) = false) := Lib.hid (by
          rw [List.all_eq_false]
          exact ⟨k, List.mem_range.2 hlt, by unfold okL; rw [← HN.out, ← HV.out, h1, decide_eq_true h2]; simp⟩)
        rw [h1] at HIL rcl rcu
        rw [decide_eq_true h2] at hem
        clear hok hsm hrw bel c0 c1 e0 e1 h2
        refine wp_region_rel (fun wd => Below W.heap.size W wd) (fun f _ v => (f = 53 ∧ v = .bool true) ∨ (f = 54 ∧ v = .bool (utf8B V))) (by kernel_rfl) (by kernel_rfl) ((Below.refl _ _).drew) (LidK.out ?_)
        refine wpRel_runK W (Below.refl _ _) (.pointer (some ⟨wr.heap.size, 0, none⟩)) (by rfl) (by kernel_rfl) ?_ ?_
        · intro wd hb
          simp [go_sem, Act.eval]
        (intro K hK; have hK2 := LidK.mk hK; clear hK; go_big_quiet_step (fail); refine wpQuiet_nil ?_; refine hK2.out _ ?_; clear hK2 K)
        refine wpRel_runK W (Below.refl _ _) (.string N) (by rfl) (by kernel_rfl) ?_ ?_
        · intro wd hb
          have hx := HC0.out wd hb; simp [go_sem, Act.eval, hx]
        (intro K hK; have hK2 := LidK.mk hK; clear hK; go_big_quiet_step (fail); refine wpQuiet_nil ?_; refine hK2.out _ ?_; clear hK2 K)
        refine wpRel_callK 53 Tryz.f53 _ _ #[.string N] (by kernel_rfl) Tryz.func53 (by kernel_rfl) (by kernel_rfl) (by simp only [List.map_toArray, List.map]; rfl) (fun wd hd => (HIL.out wd).mono fun e w2 ⟨g1, g2⟩ => ⟨_, g1, .inl ⟨rfl, rfl⟩, by rw [← g2]; exact hd⟩) ?_
        intro v hv
        obtain rfl := rcl hv
        clear hv
        (intro K hK; have hK2 := LidK.mk hK; clear hK; go_big_quiet_step (fail); refine wpQuiet_nil ?_; refine hK2.out _ ?_; clear hK2 K)
        refine wpRel_runK W (Below.refl _ _) (.bool false) (by rfl) (by kernel_rfl) ?_ ?_
        · intro wd hb
          simp [go_sem, Act.eval, hem]
        (intro K hK; have hK2 := LidK.mk hK; clear hK; go_big_quiet_step (fail); refine wpQuiet_nil ?_; refine hK2.out _ ?_; clear hK2 K)
        refine wpRel_runK W (Below.refl _ _) (.bool false) (by rfl) (by kernel_rfl) ?_ ?_
        · intro wd hb
          simp [go_sem, Act.eval, hem]
        (intro K hK; have hK2 := LidK.mk hK; clear hK; go_big_quiet_step (fail); refine wpQuiet_nil ?_; refine hK2.out _ ?_; clear hK2 K)
        refine wpRel_runK W (Below.refl _ _) (.pointer (some ⟨wr.heap.size, 1, none⟩)) (by rfl) (by kernel_rfl) ?_ ?_
        · intro wd hb
          simp [go_sem, Act.eval]
        (intro K hK; have hK2 := LidK.mk hK; clear hK; go_big_quiet_step (fail); refine wpQuiet_nil ?_; refine hK2.out _ ?_; clear hK2 K)
        refine wpRel_runK W (Below.refl _ _) (.string V) (by rfl) (by kernel_rfl) ?_ ?_
        · intro wd hb
          have hx := HC1.out wd hb; simp [go_sem, Act.eval, hx]
        (intro K hK; have hK2 := LidK.mk hK; clear hK; go_big_quiet_step (fail); refine wpQuiet_nil ?_; refine hK2.out _ ?_; clear hK2 K)
        refine wpRel_runK W (Below.refl _ _) (.bool true) (by rfl) (by kernel_rfl) ?_ ?_
        · intro wd hb
          simp [go_sem, Act.eval, hem]
        (intro K hK; have hK2 := LidK.mk hK; clear hK; go_big_quiet_step (fail); refine wpQuiet_nil ?_; refine hK2.out _ ?_; clear hK2 K)
        refine wpRel_runK W (Below.refl _ _) (.bool true) (by rfl) (by kernel_rfl) ?_ ?_
        · intro wd hb
          simp [go_sem, Act.eval, hem]
        (intro K hK; have hK2 := LidK.mk hK; clear hK; go_big_quiet_step (fail); refine wpQuiet_nil ?_; refine hK2.out _ ?_; clear hK2 K)
        refine wpRel_runK W (Below.refl _ _) (.bool true) (by rfl) (by kernel_rfl) ?_ ?_
        · intro wd hb
          simp [go_sem, Act.eval, hem]
        (intro K hK; have hK2 := LidK.mk hK; clear hK; go_big_quiet_step (fail); refine wpQuiet_nil ?_; refine hK2.out _ ?_; clear hK2 K)
        iterate 4 (refine wpRel_skipK W (Below.refl _ _) (by kernel_rfl) ?_; intro K hK; have hK2 := LidK.mk hK; clear hK; go_big_quiet_step (fail); refine wpQuiet_nil ?_; refine hK2.out _ ?_; clear hK2 K)
        refine wpRel_runK W (Below.refl _ _) (.bool true) (by rfl) (by kernel_rfl) ?_ ?_
        · intro wd hb
          simp [go_sem, Act.eval, hem]
        (intro K hK; have hK2 := LidK.mk hK; clear hK; go_big_quiet_step (fail); refine wpQuiet_nil ?_; refine hK2.out _ ?_; clear hK2 K)
        refine wpRel_runK W (Below.refl _ _) (.bool true) (by rfl) (by kernel_rfl) ?_ ?_
        · intro wd hb
          simp [go_sem, Act.eval, hem]
        (intro K hK; have hK2 := LidK.mk hK; clear hK; go_big_quiet_step (fail); refine wpQuiet_nil ?_; refine hK2.out _ ?_; clear hK2 K)
        iterate 13 (refine wpRel_skipK W (Below.refl _ _) (by kernel_rfl) ?_; intro K hK; have hK2 := LidK.mk hK; clear hK; go_big_quiet_step (fail); refine wpQuiet_nil ?_; refine hK2.out _ ?_; clear hK2 K)
        refine wpRel_runK W (Below.refl _ _) (.bool true) (by rfl) (by kernel_rfl) ?_ ?_
        · intro wd hb
          simp [go_sem, Act.eval, hem]
        (intro K hK; have hK2 := LidK.mk hK; clear hK; go_big_quiet_step (fail); refine wpQuiet_nil ?_; refine hK2.out _ ?_; clear hK2 K)
        refine LidK.mk (wpRel_nil ?_)
        intro wz hz
        go_wp2_with fail
        go_ret
        exact ⟨by rw [HE.out]; rfl, bel2.out.trans (hz.mono bel2.out.size)⟩
      cases h3 : utf8B V
      · have HE : Hid ((List.range n).all (okL ls) = false) := Lib.hid (by
          rw [List.all_eq_false]
          exact ⟨k, List.mem_range.2 hlt, by unfold okL; rw [← HN.out, ← HV.out, h1, decide_eq_false h2, h3]; simp⟩)
        rw [h1] at HIL rcl rcu
        rw [h3] at HUV rcl rcu
        rw [decide_eq_false h2] at hem
        clear hok hsm hrw bel c0 c1 e0 e1 h2
        refine wp_region_rel (fun wd => Below W.heap.size W wd) (fun f _ v => (f = 53 ∧ v = .bool true) ∨ (f = 54 ∧ v = .bool false)) (by kernel_rfl) (by kernel_rfl) ((Below.refl _ _).drew) (LidK.out ?_)
        refine wpRel_runK W (Below.refl _ _) (.pointer (some ⟨wr.heap.size, 0, none⟩)) (by rfl) (by kernel_rfl) ?_ ?_
        · intro wd hb
          simp [go_sem, Act.eval]
        (intro K hK; have hK2 := LidK.mk hK; clear hK; go_big_quiet_step (fail); refine wpQuiet_nil ?_; refine hK2.out _ ?_; clear hK2 K)
        refine wpRel_runK W (Below.refl _ _) (.string N) (by rfl) (by kernel_rfl) ?_ ?_
        · intro wd hb
          have hx := HC0.out wd hb; simp [go_sem, Act.eval, hx]
        (intro K hK; have hK2 := LidK.mk hK; clear hK; go_big_quiet_step (fail); refine wpQuiet_nil ?_; refine hK2.out _ ?_; clear hK2 K)
        refine wpRel_callK 53 Tryz.f53 _ _ #[.string N] (by kernel_rfl) Tryz.func53 (by kernel_rfl) (by kernel_rfl) (by simp only [List.map_toArray, List.map]; rfl) (fun wd hd => (HIL.out wd).mono fun e w2 ⟨g1, g2⟩ => ⟨_, g1, .inl ⟨rfl, rfl⟩, by rw [← g2]; exact hd⟩) ?_
        intro v hv
        obtain rfl := rcl hv
        clear hv
        (intro K hK; have hK2 := LidK.mk hK; clear hK; go_big_quiet_step (fail); refine wpQuiet_nil ?_; refine hK2.out _ ?_; clear hK2 K)
        refine wpRel_runK W (Below.refl _ _) (.bool false) (by rfl) (by kernel_rfl) ?_ ?_
        · intro wd hb
          simp [go_sem, Act.eval, hem]
        (intro K hK; have hK2 := LidK.mk hK; clear hK; go_big_quiet_step (fail); refine wpQuiet_nil ?_; refine hK2.out _ ?_; clear hK2 K)
        refine wpRel_runK W (Below.refl _ _) (.bool false) (by rfl) (by kernel_rfl) ?_ ?_
        · intro wd hb
          simp [go_sem, Act.eval, hem]
        (intro K hK; have hK2 := LidK.mk hK; clear hK; go_big_quiet_step (fail); refine wpQuiet_nil ?_; refine hK2.out _ ?_; clear hK2 K)
        refine wpRel_runK W (Below.refl _ _) (.pointer (some ⟨wr.heap.size, 1, none⟩)) (by rfl) (by kernel_rfl) ?_ ?_
        · intro wd hb
          simp [go_sem, Act.eval]
        (intro K hK; have hK2 := LidK.mk hK; clear hK; go_big_quiet_step (fail); refine wpQuiet_nil ?_; refine hK2.out _ ?_; clear hK2 K)
        refine wpRel_runK W (Below.refl _ _) (.string V) (by rfl) (by kernel_rfl) ?_ ?_
        · intro wd hb
          have hx := HC1.out wd hb; simp [go_sem, Act.eval, hx]
        (intro K hK; have hK2 := LidK.mk hK; clear hK; go_big_quiet_step (fail); refine wpQuiet_nil ?_; refine hK2.out _ ?_; clear hK2 K)
        refine wpRel_runK W (Below.refl _ _) (.bool false) (by rfl) (by kernel_rfl) ?_ ?_
        · intro wd hb
          simp [go_sem, Act.eval, hem]
        (intro K hK; have hK2 := LidK.mk hK; clear hK; go_big_quiet_step (fail); refine wpQuiet_nil ?_; refine hK2.out _ ?_; clear hK2 K)
        refine wpRel_runK W (Below.refl _ _) (.bool false) (by rfl) (by kernel_rfl) ?_ ?_
        · intro wd hb
          simp [go_sem, Act.eval, hem]
        (intro K hK; have hK2 := LidK.mk hK; clear hK; go_big_quiet_step (fail); refine wpQuiet_nil ?_; refine hK2.out _ ?_; clear hK2 K)
        refine wpRel_runK W (Below.refl _ _) (.bool false) (by rfl) (by kernel_rfl) ?_ ?_
        · intro wd hb
          simp [go_sem, Act.eval, hem]
        (intro K hK; have hK2 := LidK.mk hK; clear hK; go_big_quiet_step (fail); refine wpQuiet_nil ?_; refine hK2.out _ ?_; clear hK2 K)
        refine wpRel_runK W (Below.refl _ _) (.pointer (some ⟨wr.heap.size, 1, none⟩)) (by rfl) (by kernel_rfl) ?_ ?_
        · intro wd hb
          simp [go_sem, Act.eval]
        (intro K hK; have hK2 := LidK.mk hK; clear hK; go_big_quiet_step (fail); refine wpQuiet_nil ?_; refine hK2.out _ ?_; clear hK2 K)
        refine wpRel_runK W (Below.refl _ _) (.string V) (by rfl) (by kernel_rfl) ?_ ?_
        · intro wd hb
          have hx := HC1.out wd hb; simp [go_sem, Act.eval, hx]
        (intro K hK; have hK2 := LidK.mk hK; clear hK; go_big_quiet_step (fail); refine wpQuiet_nil ?_; refine hK2.out _ ?_; clear hK2 K)
        refine wpRel_callK 54 Tryz.f54 _ _ #[.string V] (by kernel_rfl) Tryz.func54 (by kernel_rfl) (by kernel_rfl) (by simp only [List.map_toArray, List.map]; rfl) (fun wd hd => (HUV.out wd).mono fun e w2 ⟨g1, g2⟩ => ⟨_, g1, .inr ⟨rfl, rfl⟩, hd.trans (g2.mono hd.size)⟩) ?_
        intro v hv
        obtain rfl := rcu hv
        clear hv
        (intro K hK; have hK2 := LidK.mk hK; clear hK; go_big_quiet_step (fail); refine wpQuiet_nil ?_; refine hK2.out _ ?_; clear hK2 K)
        refine wpRel_runK W (Below.refl _ _) (.bool true) (by rfl) (by kernel_rfl) ?_ ?_
        · intro wd hb
          simp [go_sem, Act.eval, hem]
        (intro K hK; have hK2 := LidK.mk hK; clear hK; go_big_quiet_step (fail); refine wpQuiet_nil ?_; refine hK2.out _ ?_; clear hK2 K)
        refine wpRel_runK W (Below.refl _ _) (.bool true) (by rfl) (by kernel_rfl) ?_ ?_
        · intro wd hb
          simp [go_sem, Act.eval, hem]
        (intro K hK; have hK2 := LidK.mk hK; clear hK; go_big_quiet_step (fail); refine wpQuiet_nil ?_; refine hK2.out _ ?_; clear hK2 K)
        refine wpRel_runK W (Below.refl _ _) (.bool true) (by rfl) (by kernel_rfl) ?_ ?_
        · intro wd hb
          simp [go_sem, Act.eval, hem]
        (intro K hK; have hK2 := LidK.mk hK; clear hK; go_big_quiet_step (fail); refine wpQuiet_nil ?_; refine hK2.out _ ?_; clear hK2 K)
        iterate 13 (refine wpRel_skipK W (Below.refl _ _) (by kernel_rfl) ?_; intro K hK; have hK2 := LidK.mk hK; clear hK; go_big_quiet_step (fail); refine wpQuiet_nil ?_; refine hK2.out _ ?_; clear hK2 K)
        refine wpRel_runK W (Below.refl _ _) (.bool true) (by rfl) (by kernel_rfl) ?_ ?_
        · intro wd hb
          simp [go_sem, Act.eval, hem]
        (intro K hK; have hK2 := LidK.mk hK; clear hK; go_big_quiet_step (fail); refine wpQuiet_nil ?_; refine hK2.out _ ?_; clear hK2 K)
        refine LidK.mk (wpRel_nil ?_)
        intro wz hz
        go_wp2_with fail
        go_ret
        exact ⟨by rw [HE.out]; rfl, bel2.out.trans (hz.mono bel2.out.size)⟩
      rw [h1] at HIL rcl rcu
      rw [h3] at HUV rcl rcu
      rw [decide_eq_false h2] at hem
      by_cases hkz : k = 0
      · have HOK : Hid (∀ j, j < k + 1 → okL ls j = true) := Lib.hid (fun j hj => by
          have : j = k := by omega
          rw [this]; unfold okL; rw [← HN.out, ← HV.out, h1, h3, decide_eq_false h2, decide_eq_true hkz]; rfl)
        subst hkz
        clear hok hsm hrw bel c0 c1 e0 e1 h2
        refine wp_region_rel (fun wd => Below W.heap.size W wd) (fun f _ v => (f = 53 ∧ v = .bool true) ∨ (f = 54 ∧ v = .bool true)) (by kernel_rfl) (by kernel_rfl) ((Below.refl _ _).drew) (LidK.out ?_)
        refine wpRel_runK W (Below.refl _ _) (.pointer (some ⟨wr.heap.size, 0, none⟩)) (by rfl) (by kernel_rfl) ?_ ?_
        · intro wd hb
          simp [go_sem, Act.eval]
        (intro K hK; have hK2 := LidK.mk hK; clear hK; go_big_quiet_step (fail); refine wpQuiet_nil ?_; refine hK2.out _ ?_; clear hK2 K)
        refine wpRel_runK W (Below.refl _ _) (.string N) (by rfl) (by kernel_rfl) ?_ ?_
        · intro wd hb
          have hx := HC0.out wd hb; simp [go_sem, Act.eval, hx]
        (intro K hK; have hK2 := LidK.mk hK; clear hK; go_big_quiet_step (fail); refine wpQuiet_nil ?_; refine hK2.out _ ?_; clear hK2 K)
        refine wpRel_callK 53 Tryz.f53 _ _ #[.string N] (by kernel_rfl) Tryz.func53 (by kernel_rfl) (by kernel_rfl) (by simp only [List.map_toArray, List.map]; rfl) (fun wd hd => (HIL.out wd).mono fun e w2 ⟨g1, g2⟩ => ⟨_, g1, .inl ⟨rfl, rfl⟩, by rw [← g2]; exact hd⟩) ?_
        intro v hv
        obtain rfl := rcl hv
        clear hv
        (intro K hK; have hK2 := LidK.mk hK; clear hK; go_big_quiet_step (fail); refine wpQuiet_nil ?_; refine hK2.out _ ?_; clear hK2 K)
        refine wpRel_runK W (Below.refl _ _) (.bool false) (by rfl) (by kernel_rfl) ?_ ?_
        · intro wd hb
          simp [go_sem, Act.eval, hem]
        (intro K hK; have hK2 := LidK.mk hK; clear hK; go_big_quiet_step (fail); refine wpQuiet_nil ?_; refine hK2.out _ ?_; clear hK2 K)
        refine wpRel_runK W (Below.refl _ _) (.bool false) (by rfl) (by kernel_rfl) ?_ ?_
        · intro wd hb
          simp [go_sem, Act.eval, hem]
        (intro K hK; have hK2 := LidK.mk hK; clear hK; go_big_quiet_step (fail); refine wpQuiet_nil ?_; refine hK2.out _ ?_; clear hK2 K)
        refine wpRel_runK W (Below.refl _ _) (.pointer (some ⟨wr.heap.size, 1, none⟩)) (by rfl) (by kernel_rfl) ?_ ?_
        · intro wd hb
          simp [go_sem, Act.eval]
        (intro K hK; have hK2 := LidK.mk hK; clear hK; go_big_quiet_step (fail); refine wpQuiet_nil ?_; refine hK2.out _ ?_; clear hK2 K)
        refine wpRel_runK W (Below.refl _ _) (.string V) (by rfl) (by kernel_rfl) ?_ ?_
        · intro wd hb
          have hx := HC1.out wd hb; simp [go_sem, Act.eval, hx]
        (intro K hK; have hK2 := LidK.mk hK; clear hK; go_big_quiet_step (fail); refine wpQuiet_nil ?_; refine hK2.out _ ?_; clear hK2 K)
        refine wpRel_runK W (Below.refl _ _) (.bool false) (by rfl) (by kernel_rfl) ?_ ?_
        · intro wd hb
          simp [go_sem, Act.eval, hem]
        (intro K hK; have hK2 := LidK.mk hK; clear hK; go_big_quiet_step (fail); refine wpQuiet_nil ?_; refine hK2.out _ ?_; clear hK2 K)
        refine wpRel_runK W (Below.refl _ _) (.bool false) (by rfl) (by kernel_rfl) ?_ ?_
        · intro wd hb
          simp [go_sem, Act.eval, hem]
        (intro K hK; have hK2 := LidK.mk hK; clear hK; go_big_quiet_step (fail); refine wpQuiet_nil ?_; refine hK2.out _ ?_; clear hK2 K)
        refine wpRel_runK W (Below.refl _ _) (.bool false) (by rfl) (by kernel_rfl) ?_ ?_
        · intro wd hb
          simp [go_sem, Act.eval, hem]
        (intro K hK; have hK2 := LidK.mk hK; clear hK; go_big_quiet_step (fail); refine wpQuiet_nil ?_; refine hK2.out _ ?_; clear hK2 K)
        refine wpRel_runK W (Below.refl _ _) (.pointer (some ⟨wr.heap.size, 1, none⟩)) (by rfl) (by kernel_rfl) ?_ ?_
        · intro wd hb
          simp [go_sem, Act.eval]
        (intro K hK; have hK2 := LidK.mk hK; clear hK; go_big_quiet_step (fail); refine wpQuiet_nil ?_; refine hK2.out _ ?_; clear hK2 K)
        refine wpRel_runK W (Below.refl _ _) (.string V) (by rfl) (by kernel_rfl) ?_ ?_
        · intro wd hb
          have hx := HC1.out wd hb; simp [go_sem, Act.eval, hx]
        (intro K hK; have hK2 := LidK.mk hK; clear hK; go_big_quiet_step (fail); refine wpQuiet_nil ?_; refine hK2.out _ ?_; clear hK2 K)
        refine wpRel_callK 54 Tryz.f54 _ _ #[.string V] (by kernel_rfl) Tryz.func54 (by kernel_rfl) (by kernel_rfl) (by simp only [List.map_toArray, List.map]; rfl) (fun wd hd => (HUV.out wd).mono fun e w2 ⟨g1, g2⟩ => ⟨_, g1, .inr ⟨rfl, rfl⟩, hd.trans (g2.mono hd.size)⟩) ?_
        intro v hv
        obtain rfl := rcu hv
        clear hv
        (intro K hK; have hK2 := LidK.mk hK; clear hK; go_big_quiet_step (fail); refine wpQuiet_nil ?_; refine hK2.out _ ?_; clear hK2 K)
        refine wpRel_runK W (Below.refl _ _) (.bool false) (by rfl) (by kernel_rfl) ?_ ?_
        · intro wd hb
          simp [go_sem, Act.eval, hem]
        (intro K hK; have hK2 := LidK.mk hK; clear hK; go_big_quiet_step (fail); refine wpQuiet_nil ?_; refine hK2.out _ ?_; clear hK2 K)
        refine wpRel_runK W (Below.refl _ _) (.bool false) (by rfl) (by kernel_rfl) ?_ ?_
        · intro wd hb
          simp [go_sem, Act.eval, hem]
        (intro K hK; have hK2 := LidK.mk hK; clear hK; go_big_quiet_step (fail); refine wpQuiet_nil ?_; refine hK2.out _ ?_; clear hK2 K)
        refine wpRel_runK W (Below.refl _ _) (.bool false) (by rfl) (by kernel_rfl) ?_ ?_
        · intro wd hb
          simp [go_sem, Act.eval, hem]
        (intro K hK; have hK2 := LidK.mk hK; clear hK; go_big_quiet_step (fail); refine wpQuiet_nil ?_; refine hK2.out _ ?_; clear hK2 K)
        refine wpRel_runK W (Below.refl _ _) (.int .i64 0) (by rfl) (by kernel_rfl) ?_ ?_
        · intro wd hb
          simp [go_sem, Act.eval]
        (intro K hK; have hK2 := LidK.mk hK; clear hK; go_big_quiet_step (fail); refine wpQuiet_nil ?_; refine hK2.out _ ?_; clear hK2 K)
        refine wpRel_runK W (Below.refl _ _) (.bool false) (by rfl) (by kernel_rfl) ?_ ?_
        · intro wd hb
          simp [go_sem, Act.eval, hem]
        (intro K hK; have hK2 := LidK.mk hK; clear hK; go_big_quiet_step (fail); refine wpQuiet_nil ?_; refine hK2.out _ ?_; clear hK2 K)
        refine wpRel_runK W (Below.refl _ _) (.bool false) (by rfl) (by kernel_rfl) ?_ ?_
        · intro wd hb
          simp [go_sem, Act.eval, hem]
        (intro K hK; have hK2 := LidK.mk hK; clear hK; go_big_quiet_step (fail); refine wpQuiet_nil ?_; refine hK2.out _ ?_; clear hK2 K)
        iterate 9 (refine wpRel_skipK W (Below.refl _ _) (by kernel_rfl) ?_; intro K hK; have hK2 := LidK.mk hK; clear hK; go_big_quiet_step (fail); refine wpQuiet_nil ?_; refine hK2.out _ ?_; clear hK2 K)
        refine wpRel_runK W (Below.refl _ _) (.bool false) (by rfl) (by kernel_rfl) ?_ ?_
        · intro wd hb
          simp [go_sem, Act.eval, hem]
        (intro K hK; have hK2 := LidK.mk hK; clear hK; go_big_quiet_step (fail); refine wpQuiet_nil ?_; refine hK2.out _ ?_; clear hK2 K)
        refine wpRel_runK W (Below.refl _ _) (.bool false) (by rfl) (by kernel_rfl) ?_ ?_
        · intro wd hb
          simp [go_sem, Act.eval, hem]
        (intro K hK; have hK2 := LidK.mk hK; clear hK; go_big_quiet_step (fail); refine wpQuiet_nil ?_; refine hK2.out _ ?_; clear hK2 K)
        refine LidK.mk (wpRel_nil ?_)
        intro wz hz
        go_wp2_with fail
        go_roundw
        case rel => exact ⟨_ + 1, by first | rfl | (congr 1; omega), by omega, HOK.out, bel2.out.trans (hz.mono bel2.out.size)⟩
        case measure => simp [intOf]; omega
      · obtain ⟨q, hq⟩ : ∃ q, k = q + 1 := ⟨k - 1, by omega⟩
        obtain ⟨Pn, hPn⟩ : ∃ Pn, Pn = nL ls (k - 1) := ⟨_, rfl⟩
        have cP := (Hcell.out q (by omega)).1
        rw [show nL ls q = Pn by rw [hPn, hq]; rfl] at cP
        have HCP : Hid (∀ wd, Below W.heap.size W wd → wd.cell? ⟨b, off + q * 2, none⟩ = some (.string Pn)) := Lib.hid fun wd hb => cell_stayL (cell_stayL cP hbx) hb
        have hk0 : (0 : Int) < (k : Int) := by omega
        have kq : (k : Int) - 1 = (q : Int) := by omega
        have q1 : (0 : Int) ≤ (q : Int) := by omega
        have q2 : (q : Int) < (n : Int) := by omega
        have kw : IntKind.i64.wrap (q : Int) = (q : Int) := by rw [IntKind.wrap_i64]; omega
        have HKZ := Lib.hid hkz
        clear cP
        cases hlex : Op.bytesLess Pn.toList N.toList
        · have HE : Hid ((List.range n).all (okL ls) = false) := Lib.hid (by
            rw [List.all_eq_false]
            exact ⟨k, List.mem_range.2 hlt, by unfold okL; rw [← HN.out, ← HV.out, ← hPn, h1, h3, decide_eq_false h2, decide_eq_false hkz, hlex]; simp⟩)
          clear hok hsm hrw bel c0 c1 e0 e1 h2 hkz hPn hq
          refine wp_region_rel (fun wd => Below W.heap.size W wd) (fun f _ v => (f = 53 ∧ v = .bool true) ∨ (f = 54 ∧ v = .bool true)) (by kernel_rfl) (by kernel_rfl) ((Below.refl _ _).drew) (LidK.out ?_)
          refine wpRel_runK W (Below.refl _ _) (.pointer (some ⟨wr.heap.size, 0, none⟩)) (by rfl) (by kernel_rfl) ?_ ?_
          · intro wd hb
            simp [go_sem, Act.eval]
          (intro K hK; have hK2 := LidK.mk hK; clear hK; go_big_quiet_step (fail); refine wpQuiet_nil ?_; refine hK2.out _ ?_; clear hK2 K)
          refine wpRel_runK W (Below.refl _ _) (.string N) (by rfl) (by kernel_rfl) ?_ ?_
          · intro wd hb
            have hx := HC0.out wd hb; simp [go_sem, Act.eval, hx]
          (intro K hK; have hK2 := LidK.mk hK; clear hK; go_big_quiet_step (fail); refine wpQuiet_nil ?_; refine hK2.out _ ?_; clear hK2 K)
          refine wpRel_callK 53 Tryz.f53 _ _ #[.string N] (by kernel_rfl) Tryz.func53 (by kernel_rfl) (by kernel_rfl) (by simp only [List.map_toArray, List.map]; rfl) (fun wd hd => (HIL.out wd).mono fun e w2 ⟨g1, g2⟩ => ⟨_, g1, .inl ⟨rfl, rfl⟩, by rw [← g2]; exact hd⟩) ?_
          intro v hv
          obtain rfl := rcl hv
          clear hv
          (intro K hK; have hK2 := LidK.mk hK; clear hK; go_big_quiet_step (fail); refine wpQuiet_nil ?_; refine hK2.out _ ?_; clear hK2 K)
          refine wpRel_runK W (Below.refl _ _) (.bool false) (by rfl) (by kernel_rfl) ?_ ?_
          · intro wd hb
            simp [go_sem, Act.eval, hem]
          (intro K hK; have hK2 := LidK.mk hK; clear hK; go_big_quiet_step (fail); refine wpQuiet_nil ?_; refine hK2.out _ ?_; clear hK2 K)
          refine wpRel_runK W (Below.refl _ _) (.bool false) (by rfl) (by kernel_rfl) ?_ ?_
          · intro wd hb
            simp [go_sem, Act.eval, hem]
          (intro K hK; have hK2 := LidK.mk hK; clear hK; go_big_quiet_step (fail); refine wpQuiet_nil ?_; refine hK2.out _ ?_; clear hK2 K)
          refine wpRel_runK W (Below.refl _ _) (.pointer (some ⟨wr.heap.size, 1, none⟩)) (by rfl) (by kernel_rfl) ?_ ?_
          · intro wd hb
            simp [go_sem, Act.eval]
          (intro K hK; have hK2 := LidK.mk hK; clear hK; go_big_quiet_step (fail); refine wpQuiet_nil ?_; refine hK2.out _ ?_; clear hK2 K)
          refine wpRel_runK W (Below.refl _ _) (.string V) (by rfl) (by kernel_rfl) ?_ ?_
          · intro wd hb
            have hx := HC1.out wd hb; simp [go_sem, Act.eval, hx]
          (intro K hK; have hK2 := LidK.mk hK; clear hK; go_big_quiet_step (fail); refine wpQuiet_nil ?_; refine hK2.out _ ?_; clear hK2 K)
          refine wpRel_runK W (Below.refl _ _) (.bool false) (by rfl) (by kernel_rfl) ?_ ?_
          · intro wd hb
            simp [go_sem, Act.eval, hem]
          (intro K hK; have hK2 := LidK.mk hK; clear hK; go_big_quiet_step (fail); refine wpQuiet_nil ?_; refine hK2.out _ ?_; clear hK2 K)
          refine wpRel_runK W (Below.refl _ _) (.bool false) (by rfl) (by kernel_rfl) ?_ ?_
          · intro wd hb
            simp [go_sem, Act.eval, hem]
          (intro K hK; have hK2 := LidK.mk hK; clear hK; go_big_quiet_step (fail); refine wpQuiet_nil ?_; refine hK2.out _ ?_; clear hK2 K)
          refine wpRel_runK W (Below.refl _ _) (.bool false) (by rfl) (by kernel_rfl) ?_ ?_
          · intro wd hb
            simp [go_sem, Act.eval, hem]
          (intro K hK; have hK2 := LidK.mk hK; clear hK; go_big_quiet_step (fail); refine wpQuiet_nil ?_; refine hK2.out _ ?_; clear hK2 K)
          refine wpRel_runK W (Below.refl _ _) (.pointer (some ⟨wr.heap.size, 1, none⟩)) (by rfl) (by kernel_rfl) ?_ ?_
          · intro wd hb
            simp [go_sem, Act.eval]
          (intro K hK; have hK2 := LidK.mk hK; clear hK; go_big_quiet_step (fail); refine wpQuiet_nil ?_; refine hK2.out _ ?_; clear hK2 K)
          refine wpRel_runK W (Below.refl _ _) (.string V) (by rfl) (by kernel_rfl) ?_ ?_
          · intro wd hb
            have hx := HC1.out wd hb; simp [go_sem, Act.eval, hx]
          (intro K hK; have hK2 := LidK.mk hK; clear hK; go_big_quiet_step (fail); refine wpQuiet_nil ?_; refine hK2.out _ ?_; clear hK2 K)
          refine wpRel_callK 54 Tryz.f54 _ _ #[.string V] (by kernel_rfl) Tryz.func54 (by kernel_rfl) (by kernel_rfl) (by simp only [List.map_toArray, List.map]; rfl) (fun wd hd => (HUV.out wd).mono fun e w2 ⟨g1, g2⟩ => ⟨_, g1, .inr ⟨rfl, rfl⟩, hd.trans (g2.mono hd.size)⟩) ?_
          intro v hv
          obtain rfl := rcu hv
          clear hv
          (intro K hK; have hK2 := LidK.mk hK; clear hK; go_big_quiet_step (fail); refine wpQuiet_nil ?_; refine hK2.out _ ?_; clear hK2 K)
          refine wpRel_runK W (Below.refl _ _) (.bool false) (by rfl) (by kernel_rfl) ?_ ?_
          · intro wd hb
            simp [go_sem, Act.eval, hem]
          (intro K hK; have hK2 := LidK.mk hK; clear hK; go_big_quiet_step (fail); refine wpQuiet_nil ?_; refine hK2.out _ ?_; clear hK2 K)
          refine wpRel_runK W (Below.refl _ _) (.bool false) (by rfl) (by kernel_rfl) ?_ ?_
          · intro wd hb
            simp [go_sem, Act.eval, hem]
          (intro K hK; have hK2 := LidK.mk hK; clear hK; go_big_quiet_step (fail); refine wpQuiet_nil ?_; refine hK2.out _ ?_; clear hK2 K)
          refine wpRel_runK W (Below.refl _ _) (.bool false) (by rfl) (by kernel_rfl) ?_ ?_
          · intro wd hb
            simp [go_sem, Act.eval, hem]
          (intro K hK; have hK2 := LidK.mk hK; clear hK; go_big_quiet_step (fail); refine wpQuiet_nil ?_; refine hK2.out _ ?_; clear hK2 K)
          refine wpRel_guardK (by rfl) (by kernel_rfl) ?_
          (intro K hK; have hK2 := LidK.mk hK; clear hK; go_big_quiet_step (fail); refine wpQuiet_nil ?_; refine hK2.out _ ?_; clear hK2 K)
          refine wpRel_runK W (Below.refl _ _) (.bool true) (by rfl) (by kernel_rfl) ?_ ?_
          · intro wd hb
            simp [go_sem, Act.eval]; omega
          (intro K hK; have hK2 := LidK.mk hK; clear hK; go_big_quiet_step (fail); refine wpQuiet_nil ?_; refine hK2.out _ ?_; clear hK2 K)
          refine wpRel_runK W (Below.refl _ _) (.bool true) (by rfl) (by kernel_rfl) ?_ ?_
          · intro wd hb
            simp [go_sem, Act.eval, hem]
          (intro K hK; have hK2 := LidK.mk hK; clear hK; go_big_quiet_step (fail); refine wpQuiet_nil ?_; refine hK2.out _ ?_; clear hK2 K)
          iterate 2 (refine wpRel_guardK (by rfl) (by kernel_rfl) ?_; intro K hK; have hK2 := LidK.mk hK; clear hK; go_big_quiet_step (fail); refine wpQuiet_nil ?_; refine hK2.out _ ?_; clear hK2 K)
          refine wpRel_runK W (Below.refl _ _) (.int .i64 (q : Int)) (by rfl) (by kernel_rfl) ?_ ?_
          · intro wd hb
            simp [go_sem, Act.eval, kq, q1, q2, kw]
          (intro K hK; have hK2 := LidK.mk hK; clear hK; go_big_quiet_step (fail); refine wpQuiet_nil ?_; refine hK2.out _ ?_; clear hK2 K)
          refine wpRel_runK W (Below.refl _ _) (.pointer (some ⟨b, off + q * 2, none⟩)) (by rfl) (by kernel_rfl) ?_ ?_
          · intro wd hb
            simp [go_sem, Act.eval, kq, q1, q2]
          (intro K hK; have hK2 := LidK.mk hK; clear hK; go_big_quiet_step (fail); refine wpQuiet_nil ?_; refine hK2.out _ ?_; clear hK2 K)
          refine wpRel_runK W (Below.refl _ _) (.pointer (some ⟨b, off + q * 2, none⟩)) (by rfl) (by kernel_rfl) ?_ ?_
          · intro wd hb
            simp [go_sem, Act.eval]
          (intro K hK; have hK2 := LidK.mk hK; clear hK; go_big_quiet_step (fail); refine wpQuiet_nil ?_; refine hK2.out _ ?_; clear hK2 K)
          refine wpRel_runK W (Below.refl _ _) (.string Pn) (by rfl) (by kernel_rfl) ?_ ?_
          · intro wd hb
            have hx := HCP.out wd hb; simp [go_sem, Act.eval, hx]
          (intro K hK; have hK2 := LidK.mk hK; clear hK; go_big_quiet_step (fail); refine wpQuiet_nil ?_; refine hK2.out _ ?_; clear hK2 K)
          refine wpRel_runK W (Below.refl _ _) (.pointer (some ⟨wr.heap.size, 0, none⟩)) (by rfl) (by kernel_rfl) ?_ ?_
          · intro wd hb
            simp [go_sem, Act.eval]
          (intro K hK; have hK2 := LidK.mk hK; clear hK; go_big_quiet_step (fail); refine wpQuiet_nil ?_; refine hK2.out _ ?_; clear hK2 K)
          refine wpRel_runK W (Below.refl _ _) (.string N) (by rfl) (by kernel_rfl) ?_ ?_
          · intro wd hb
            have hx := HC0.out wd hb; simp [go_sem, Act.eval, hx]
          (intro K hK; have hK2 := LidK.mk hK; clear hK; go_big_quiet_step (fail); refine wpQuiet_nil ?_; refine hK2.out _ ?_; clear hK2 K)
          refine wpRel_runK W (Below.refl _ _) (.bool true) (by rfl) (by kernel_rfl) ?_ ?_
          · intro wd hb
            simp [go_sem, Act.eval, hlex]
          (intro K hK; have hK2 := LidK.mk hK; clear hK; go_big_quiet_step (fail); refine wpQuiet_nil ?_; refine hK2.out _ ?_; clear hK2 K)
          refine wpRel_runK W (Below.refl _ _) (.bool true) (by rfl) (by kernel_rfl) ?_ ?_
          · intro wd hb
            simp [go_sem, Act.eval, hem]
          (intro K hK; have hK2 := LidK.mk hK; clear hK; go_big_quiet_step (fail); refine wpQuiet_nil ?_; refine hK2.out _ ?_; clear hK2 K)
          refine wpRel_runK W (Below.refl _ _) (.bool true) (by rfl) (by kernel_rfl) ?_ ?_
          · intro wd hb
            simp [go_sem, Act.eval, hem]
          (intro K hK; have hK2 := LidK.mk hK; clear hK; go_big_quiet_step (fail); refine wpQuiet_nil ?_; refine hK2.out _ ?_; clear hK2 K)
          refine LidK.mk (wpRel_nil ?_)
          intro wz hz
          go_wp2_with fail
          go_ret
          exact ⟨by rw [HE.out]; rfl, bel2.out.trans (hz.mono bel2.out.size)⟩
        · have HOK : Hid (∀ j, j < k + 1 → okL ls j = true) := Lib.hid (fun j hj => by
            by_cases hjk : j = k
            · rw [hjk]; unfold okL; rw [← HN.out, ← HV.out, ← hPn, h1, h3, decide_eq_false h2, hlex]; simp
            · exact hok j (by omega))
          clear hok hsm hrw bel c0 c1 e0 e1 h2 hkz hPn hq
          refine wp_region_rel (fun wd => Below W.heap.size W wd) (fun f _ v => (f = 53 ∧ v = .bool true) ∨ (f = 54 ∧ v = .bool true)) (by kernel_rfl) (by kernel_rfl) ((Below.refl _ _).drew) (LidK.out ?_)
          refine wpRel_runK W (Below.refl _ _) (.pointer (some ⟨wr.heap.size, 0, none⟩)) (by rfl) (by kernel_rfl) ?_ ?_
          · intro wd hb
            simp [go_sem, Act.eval]
          (intro K hK; have hK2 := LidK.mk hK; clear hK; go_big_quiet_step (fail); refine wpQuiet_nil ?_; refine hK2.out _ ?_; clear hK2 K)
          refine wpRel_runK W (Below.refl _ _) (.string N) (by rfl) (by kernel_rfl) ?_ ?_
          · intro wd hb
            have hx := HC0.out wd hb; simp [go_sem, Act.eval, hx]
          (intro K hK; have hK2 := LidK.mk hK; clear hK; go_big_quiet_step (fail); refine wpQuiet_nil ?_; refine hK2.out _ ?_; clear hK2 K)
          refine wpRel_callK 53 Tryz.f53 _ _ #[.string N] (by kernel_rfl) Tryz.func53 (by kernel_rfl) (by kernel_rfl) (by simp only [List.map_toArray, List.map]; rfl) (fun wd hd => (HIL.out wd).mono fun e w2 ⟨g1, g2⟩ => ⟨_, g1, .inl ⟨rfl, rfl⟩, by rw [← g2]; exact hd⟩) ?_
          intro v hv
          obtain rfl := rcl hv
          clear hv
          (intro K hK; have hK2 := LidK.mk hK; clear hK; go_big_quiet_step (fail); refine wpQuiet_nil ?_; refine hK2.out _ ?_; clear hK2 K)
          refine wpRel_runK W (Below.refl _ _) (.bool false) (by rfl) (by kernel_rfl) ?_ ?_
          · intro wd hb
            simp [go_sem, Act.eval, hem]
          (intro K hK; have hK2 := LidK.mk hK; clear hK; go_big_quiet_step (fail); refine wpQuiet_nil ?_; refine hK2.out _ ?_; clear hK2 K)
          refine wpRel_runK W (Below.refl _ _) (.bool false) (by rfl) (by kernel_rfl) ?_ ?_
          · intro wd hb
            simp [go_sem, Act.eval, hem]
          (intro K hK; have hK2 := LidK.mk hK; clear hK; go_big_quiet_step (fail); refine wpQuiet_nil ?_; refine hK2.out _ ?_; clear hK2 K)
          refine wpRel_runK W (Below.refl _ _) (.pointer (some ⟨wr.heap.size, 1, none⟩)) (by rfl) (by kernel_rfl) ?_ ?_
          · intro wd hb
            simp [go_sem, Act.eval]
          (intro K hK; have hK2 := LidK.mk hK; clear hK; go_big_quiet_step (fail); refine wpQuiet_nil ?_; refine hK2.out _ ?_; clear hK2 K)
          refine wpRel_runK W (Below.refl _ _) (.string V) (by rfl) (by kernel_rfl) ?_ ?_
          · intro wd hb
            have hx := HC1.out wd hb; simp [go_sem, Act.eval, hx]
          (intro K hK; have hK2 := LidK.mk hK; clear hK; go_big_quiet_step (fail); refine wpQuiet_nil ?_; refine hK2.out _ ?_; clear hK2 K)
          refine wpRel_runK W (Below.refl _ _) (.bool false) (by rfl) (by kernel_rfl) ?_ ?_
          · intro wd hb
            simp [go_sem, Act.eval, hem]
          (intro K hK; have hK2 := LidK.mk hK; clear hK; go_big_quiet_step (fail); refine wpQuiet_nil ?_; refine hK2.out _ ?_; clear hK2 K)
          refine wpRel_runK W (Below.refl _ _) (.bool false) (by rfl) (by kernel_rfl) ?_ ?_
          · intro wd hb
            simp [go_sem, Act.eval, hem]
          (intro K hK; have hK2 := LidK.mk hK; clear hK; go_big_quiet_step (fail); refine wpQuiet_nil ?_; refine hK2.out _ ?_; clear hK2 K)
          refine wpRel_runK W (Below.refl _ _) (.bool false) (by rfl) (by kernel_rfl) ?_ ?_
          · intro wd hb
            simp [go_sem, Act.eval, hem]
          (intro K hK; have hK2 := LidK.mk hK; clear hK; go_big_quiet_step (fail); refine wpQuiet_nil ?_; refine hK2.out _ ?_; clear hK2 K)
          refine wpRel_runK W (Below.refl _ _) (.pointer (some ⟨wr.heap.size, 1, none⟩)) (by rfl) (by kernel_rfl) ?_ ?_
          · intro wd hb
            simp [go_sem, Act.eval]
          (intro K hK; have hK2 := LidK.mk hK; clear hK; go_big_quiet_step (fail); refine wpQuiet_nil ?_; refine hK2.out _ ?_; clear hK2 K)
          refine wpRel_runK W (Below.refl _ _) (.string V) (by rfl) (by kernel_rfl) ?_ ?_
          · intro wd hb
            have hx := HC1.out wd hb; simp [go_sem, Act.eval, hx]
          (intro K hK; have hK2 := LidK.mk hK; clear hK; go_big_quiet_step (fail); refine wpQuiet_nil ?_; refine hK2.out _ ?_; clear hK2 K)
          refine wpRel_callK 54 Tryz.f54 _ _ #[.string V] (by kernel_rfl) Tryz.func54 (by kernel_rfl) (by kernel_rfl) (by simp only [List.map_toArray, List.map]; rfl) (fun wd hd => (HUV.out wd).mono fun e w2 ⟨g1, g2⟩ => ⟨_, g1, .inr ⟨rfl, rfl⟩, hd.trans (g2.mono hd.size)⟩) ?_
          intro v hv
          obtain rfl := rcu hv
          clear hv
          (intro K hK; have hK2 := LidK.mk hK; clear hK; go_big_quiet_step (fail); refine wpQuiet_nil ?_; refine hK2.out _ ?_; clear hK2 K)
          refine wpRel_runK W (Below.refl _ _) (.bool false) (by rfl) (by kernel_rfl) ?_ ?_
          · intro wd hb
            simp [go_sem, Act.eval, hem]
          (intro K hK; have hK2 := LidK.mk hK; clear hK; go_big_quiet_step (fail); refine wpQuiet_nil ?_; refine hK2.out _ ?_; clear hK2 K)
          refine wpRel_runK W (Below.refl _ _) (.bool false) (by rfl) (by kernel_rfl) ?_ ?_
          · intro wd hb
            simp [go_sem, Act.eval, hem]
          (intro K hK; have hK2 := LidK.mk hK; clear hK; go_big_quiet_step (fail); refine wpQuiet_nil ?_; refine hK2.out _ ?_; clear hK2 K)
          refine wpRel_runK W (Below.refl _ _) (.bool false) (by rfl) (by kernel_rfl) ?_ ?_
          · intro wd hb
            simp [go_sem, Act.eval, hem]
          (intro K hK; have hK2 := LidK.mk hK; clear hK; go_big_quiet_step (fail); refine wpQuiet_nil ?_; refine hK2.out _ ?_; clear hK2 K)
          refine wpRel_guardK (by rfl) (by kernel_rfl) ?_
          (intro K hK; have hK2 := LidK.mk hK; clear hK; go_big_quiet_step (fail); refine wpQuiet_nil ?_; refine hK2.out _ ?_; clear hK2 K)
          refine wpRel_runK W (Below.refl _ _) (.bool true) (by rfl) (by kernel_rfl) ?_ ?_
          · intro wd hb
            simp [go_sem, Act.eval]; omega
          (intro K hK; have hK2 := LidK.mk hK; clear hK; go_big_quiet_step (fail); refine wpQuiet_nil ?_; refine hK2.out _ ?_; clear hK2 K)
          refine wpRel_runK W (Below.refl _ _) (.bool true) (by rfl) (by kernel_rfl) ?_ ?_
          · intro wd hb
            simp [go_sem, Act.eval, hem]
          (intro K hK; have hK2 := LidK.mk hK; clear hK; go_big_quiet_step (fail); refine wpQuiet_nil ?_; refine hK2.out _ ?_; clear hK2 K)
          iterate 2 (refine wpRel_guardK (by rfl) (by kernel_rfl) ?_; intro K hK; have hK2 := LidK.mk hK; clear hK; go_big_quiet_step (fail); refine wpQuiet_nil ?_; refine hK2.out _ ?_; clear hK2 K)
          refine wpRel_runK W (Below.refl _ _) (.int .i64 (q : Int)) (by rfl) (by kernel_rfl) ?_ ?_
          · intro wd hb
            simp [go_sem, Act.eval, kq, q1, q2, kw]
          (intro K hK; have hK2 := LidK.mk hK; clear hK; go_big_quiet_step (fail); refine wpQuiet_nil ?_; refine hK2.out _ ?_; clear hK2 K)
          refine wpRel_runK W (Below.refl _ _) (.pointer (some ⟨b, off + q * 2, none⟩)) (by rfl) (by kernel_rfl) ?_ ?_
          · intro wd hb
            simp [go_sem, Act.eval, kq, q1, q2]
          (intro K hK; have hK2 := LidK.mk hK; clear hK; go_big_quiet_step (fail); refine wpQuiet_nil ?_; refine hK2.out _ ?_; clear hK2 K)
          refine wpRel_runK W (Below.refl _ _) (.pointer (some ⟨b, off + q * 2, none⟩)) (by rfl) (by kernel_rfl) ?_ ?_
          · intro wd hb
            simp [go_sem, Act.eval]
          (intro K hK; have hK2 := LidK.mk hK; clear hK; go_big_quiet_step (fail); refine wpQuiet_nil ?_; refine hK2.out _ ?_; clear hK2 K)
          refine wpRel_runK W (Below.refl _ _) (.string Pn) (by rfl) (by kernel_rfl) ?_ ?_
          · intro wd hb
            have hx := HCP.out wd hb; simp [go_sem, Act.eval, hx]
          (intro K hK; have hK2 := LidK.mk hK; clear hK; go_big_quiet_step (fail); refine wpQuiet_nil ?_; refine hK2.out _ ?_; clear hK2 K)
          refine wpRel_runK W (Below.refl _ _) (.pointer (some ⟨wr.heap.size, 0, none⟩)) (by rfl) (by kernel_rfl) ?_ ?_
          · intro wd hb
            simp [go_sem, Act.eval]
          (intro K hK; have hK2 := LidK.mk hK; clear hK; go_big_quiet_step (fail); refine wpQuiet_nil ?_; refine hK2.out _ ?_; clear hK2 K)
          refine wpRel_runK W (Below.refl _ _) (.string N) (by rfl) (by kernel_rfl) ?_ ?_
          · intro wd hb
            have hx := HC0.out wd hb; simp [go_sem, Act.eval, hx]
          (intro K hK; have hK2 := LidK.mk hK; clear hK; go_big_quiet_step (fail); refine wpQuiet_nil ?_; refine hK2.out _ ?_; clear hK2 K)
          refine wpRel_runK W (Below.refl _ _) (.bool false) (by rfl) (by kernel_rfl) ?_ ?_
          · intro wd hb
            simp [go_sem, Act.eval, hlex]
          (intro K hK; have hK2 := LidK.mk hK; clear hK; go_big_quiet_step (fail); refine wpQuiet_nil ?_; refine hK2.out _ ?_; clear hK2 K)
          refine wpRel_runK W (Below.refl _ _) (.bool false) (by rfl) (by kernel_rfl) ?_ ?_
          · intro wd hb
            simp [go_sem, Act.eval, hem]
          (intro K hK; have hK2 := LidK.mk hK; clear hK; go_big_quiet_step (fail); refine wpQuiet_nil ?_; refine hK2.out _ ?_; clear hK2 K)
          refine wpRel_runK W (Below.refl _ _) (.bool false) (by rfl) (by kernel_rfl) ?_ ?_
          · intro wd hb
            simp [go_sem, Act.eval, hem]
          (intro K hK; have hK2 := LidK.mk hK; clear hK; go_big_quiet_step (fail); refine wpQuiet_nil ?_; refine hK2.out _ ?_; clear hK2 K)
          refine LidK.mk (wpRel_nil ?_)
          intro wz hz
          go_wp2_with fail
          go_roundw
          case rel => exact ⟨_ + 1, by first | rfl | (congr 1; omega), by omega, HOK.out, bel2.out.trans (hz.mono bel2.out.size)⟩
          case measure => simp [intOf]; omega
    · have dl : decide ((k : Int) < (n : Int)) = false := decide_eq_false (by omega)
      have HE : Hid ((List.range n).all (okL ls) = true) := Lib.hid (by
        rw [List.all_eq_true]
        intro j hj
        exact hok j (by have := List.mem_range.1 hj; omega))
      clear hok hrw
      go_wp2_with fail
      go_ret
      exact ⟨by rw [HE.out]; rfl, bel⟩

end Go.Proofs.YtmmfjknnbkcniaaGreatDoor
