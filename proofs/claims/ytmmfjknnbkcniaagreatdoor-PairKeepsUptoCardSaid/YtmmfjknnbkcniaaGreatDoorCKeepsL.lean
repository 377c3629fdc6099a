/- PairKeeps: answers and copies as they are held; the spare element; the list of names copied. -/
import Derived.Test.YtmmfjknnbkcniaaGreatDoorCKeepsP
import Derived.Laws.AppendOwnNone
namespace Go.Proofs.YtmmfjknnbkcniaaGreatDoor
open Go.Fl Go.Rel Go.RowKit Go.Sort
set_option linter.unusedSimpArgs false
set_option linter.unusedVariables false

/-- Elements that the law holds: n of them, in blocks of their own from lo up to hi; none has too many labels. -/
def Hd (n lo hi : Nat) (w : World) (a : Option Addr) (es : List Er) : Prop := es.length = n ∧ n ≤ 4398046511104 ∧ Loc lo hi w a es ∧ ∀ e ∈ es, e.ls.length ≤ 4398046511000
theorem Hd.below {n lo hi : Nat} {w w' : World} {a : Option Addr} {es : List Er} (h : Hd n lo hi w a es) (hb : Below w.heap.size w w') : Hd n lo hi w' a es := ⟨h.1, h.2.1, h.2.2.1.below hb, h.2.2.2⟩
theorem Hd.mid {n lo hi l2 h2 : Nat} {w w' : World} {a : Option Addr} {es : List Er} (h : Hd n lo hi w a es) (hm : Mid l2 h2 w w') (hx : h2 ≤ lo ∨ hi ≤ l2) : Hd n lo hi w' a es := ⟨h.1, h.2.1, h.2.2.1.mid hm hx, h.2.2.2⟩
theorem Hd.row {n lo hi : Nat} {w : World} {a : Option Addr} {es : List Er} (h : Hd n lo hi w a es) : ERow w a n es := by
  have := h.2.2.1.erow (by rw [h.1]; exact h.2.1)
  rw [h.1] at this; exact this
theorem Hd.mark {n lo hi : Nat} {w : World} {a : Option Addr} {es : List Er} (cap : Nat) (h : Hd n lo hi w a es) (hl : lo ≤ w.heap.size) (hh : hi ≤ w.heap.size) :
    Calls Tryz.prog 17 #[.slice a n cap] w fun e w' => e = .returned (.bool true) ∧ Mid lo hi w w' := by
  have h1 := mark_loc cap h.2.2.1 hl hh (by rw [h.1]; exact h.2.1) h.2.2.2
  rw [h.1] at h1; exact h1
/-- A copy, held. -/
def CopyH (n : Nat) (ks : List Ek) (w : World) (e : Ending) (w' : World) : Prop := ∃ a c O, e = .returned (.slice a n c) ∧ Hd n w.heap.size w'.heap.size w' a O ∧ O.map Er.key = ks ∧ Below w.heap.size w w'
theorem own_ne {B C g n cap : Nat} {w : World} {es : List Er} {e : Er} (h : OwnE B w (.slice (some ⟨g, 0, none⟩) n cap) es) (he : ErOwn C w e) : (Value.slice e.a e.n e.c).ownBlock ≠ some g := fun hb => by
  obtain ⟨c, fz, h1⟩ := h.kind g rfl
  obtain ⟨c2, fz2, h2⟩ := he.1.kind g hb
  rw [h1] at h2
  injection h2 with h2
  injection h2 with _ h3 _
  exact absurd h3 (by decide)
theorem fresh_own {B n cap : Nat} {w : World} {a : Option Addr} {es : List Er} (h : OwnE B w (.slice a n cap) es) (he : ∀ e ∈ es, ErOwn B w e) (hap : ApartE es) : FreshE B w a es := by
  rcases h.form with ⟨e, h2⟩ | ⟨g, c, e, hg, _⟩
  · exact ⟨.inl h2, hap⟩
  · injection e with e1 e2 e3
    subst e1
    exact ⟨.inr ⟨g, rfl, hg, h.wre, fun x hx => ⟨he x hx, own_ne h (he x hx)⟩⟩, hap⟩
theorem copyH_any (a : Option Addr) (n cap : Nat) (es : List Er) (w : World) (hr : ERow w a n es) (hs : ∀ e ∈ es, e.ls.length ≤ 4398046511000) :
    Calls Tryz.prog 11 #[.slice a n cap] w (CopyH n (es.map Er.key) w) := by
  refine (copiedA_any a n cap es w hr).mono fun e w' h => ?_
  obtain ⟨v, O, rfl, how, hok, hkey, hap, hb⟩ := h
  have hl : O.length = n := by have := congrArg List.length hkey; rw [List.length_map, List.length_map] at this; rw [this]; exact hr.1
  have hsm : ∀ e ∈ O, e.ls.length ≤ 4398046511000 := fun e he => by
    have h1 : e.key ∈ es.map Er.key := by rw [← hkey]; exact List.mem_map_of_mem he
    obtain ⟨y, hy, hye⟩ := List.mem_map.1 h1
    have h2 : y.ls = e.ls := congrArg Prod.fst hye
    rw [← h2]; exact hs y hy
  obtain ⟨a', c', hv⟩ : ∃ a' c', v = .slice a' O.length c' := by
    rcases how.form with ⟨e, h2⟩ | ⟨g, c, e, _⟩
    · exact ⟨none, 0, by rw [e, h2]; rfl⟩
    · exact ⟨_, c, e⟩
  subst hv
  exact ⟨a', c', O, by rw [hl], ⟨hl, hr.2.1, Loc.of (fresh_own how hok hap), hsm⟩, hkey, hb⟩
/-- An answer, held. -/
def AnsH (err : Int) (n : Nat) (ks : List Ek) (w : World) (e : Ending) (w' : World) : Prop := ∃ a c es, e = .returned (.tuple #[.slice a n c, .int .i64 err]) ∧ Hd n w.heap.size w'.heap.size w' a es ∧ es.map (fun x => clK x.key) = ks ∧ Below w.heap.size w w'
theorem AnsO.held {err : Int} {ks : List Ek} {w w' : World} {e : Ending} (h : AnsO err ks w e w') (hk : ∀ k ∈ ks, k.1.length ≤ 4398046511000) : AnsH err ks.length ks w e w' := by
  obtain ⟨xs, h0, a, cap, es, h1, h2, h3, h4, h5, h6⟩ := h
  have hc : es.map (fun x => clK x.key) = ks := by rw [← h0, ← h4, List.map_map]; rfl
  have hl : es.length = ks.length := by rw [← hc, List.length_map]
  refine ⟨a, cap, es, by rw [← hl]; exact h1, ⟨hl, by rw [← hl]; exact h3.2.1, Loc.of h5, fun e he => ?_⟩, hc, h6⟩
  exact hk (clK e.key) (by rw [← hc]; exact List.mem_map.2 ⟨e, he, rfl⟩)
/-- The elements ahead of a spare one. -/
theorem spare_held {z g cap n : Nat} {w : World} {O : List Er} {sp : Er} (h : OwnE z w (.slice (some ⟨g, 0, none⟩) (O.length + 1) cap) (O ++ [sp])) (hok : ∀ e ∈ O, ErOwn z w e) (hap : ApartE O) (hl : O.length = n) (hn : n ≤ 4398046511104) (hs : ∀ e ∈ O, e.ls.length ≤ 4398046511000) :
    Hd n z w.heap.size w (some ⟨g, 0, none⟩) O ∧ w.cell? ⟨g, n * 2 + 1, none⟩ = some (.float .f64 sp.f) ∧ n + 1 ≤ cap ∧ g < w.heap.size := by
  have hw := h.wre
  have hg := (h.lt g rfl)
  have hcap : O.length + 1 ≤ cap := by
    rcases h.form with ⟨e, _⟩ | ⟨g', c, e, _, _, hc, _⟩
    · cases e
    · injection e with _ e2 e3; rw [e3]; rw [List.length_append] at hc; exact hc
  have hat : ∀ i, i < O.length → erAt (O ++ [sp]) i = erAt O i := fun i hi => by
    rw [erAt_get (by rw [List.length_append]; omega), erAt_get hi, List.getElem_append_left hi]
  have hpre : WRE w g O := ⟨hw.1, fun i hi c hc => by
    have := hw.2 i (by rw [List.length_append]; omega) c hc
    rw [hat i hi] at this; exact this⟩
  refine ⟨⟨hl, hn, Loc.of ⟨.inr ⟨g, rfl, hg.1, hpre, fun e he => ⟨hok e he, own_ne h (hok e he)⟩⟩, hap⟩, hs⟩, ?_, by omega, hg.2⟩
  have hlast := (hw.2 O.length (by rw [List.length_append]; simp) 1 (by omega)).1
  have e1 : erAt (O ++ [sp]) O.length = sp := by rw [erAt_get (by rw [List.length_append]; simp), List.getElem_append_right (Nat.le_refl _)]; simp
  rw [e1, Nat.zero_add, hl] at hlast
  exact hlast

theorem slice_hiK (b off n cap k : Nat) (z : Int) (hz : z = (k : Int)) (hk : k ≤ cap) (w : World) : (Instr.slice 22 (.slice (some ⟨b, off, none⟩) n cap) none (some (.int .i64 z)) none).run Tryz.prog w = .ok (.slice (some ⟨b, off, none⟩) k cap) w := by
  have hs : ∀ w, (Go.sizeOf (Tryz.prog.elem 22)).run Tryz.prog w = .ok 2 w := fun w => by kernel_rfl
  have ht : Tryz.prog.underlying 22 = some (.slice (Tryz.prog.elem 22)) := by kernel_rfl
  subst hz
  rw [run_slice_h _ _ _ _ _ ht .i64 (k : Int) (by omega) (by omega), hs]
  simp [sliced]
  by_cases h : cap = 0
  · simp [h]
  · simp [Addr.add_lit]

/-! Names in a row of their own. -/
set_option maxRecDepth 100000 in
/-- The names copied behind an empty list. -/
theorem wpList_append_names {ops : Array Oper} {rest : List Oper} {o : Oper} {a : Act} {Q : Exit → Act → World → Prop} {w : World} (hgd : o.guard = none) (s x : Operand)
    (ho : o.op = .call { callee := .builtin .append, args := #[s, x], argTypes := #[23, 23] })
    (B g cap0 : Nat) (hs : a.eval s = .slice (some ⟨g, 0, none⟩) 0 cap0) (hown : w.ownsRow B 9 1 (.slice (some ⟨g, 0, none⟩) 0 cap0) 0 []) (ma : Option Addr) (mn mc : Nat) (ns : List ByteArray) (hN : NRow w ma mn ns) (hx : a.eval x = .slice ma mn mc) (hmc : ma = none → mc = 0)
    (hb : mn ≤ 4398046511104) (hB : B ≤ w.heap.size)
    (h : ∀ g' c' w', NRow w' (some ⟨g', 0, none⟩) mn ns → Below B w w' → B ≤ g' → g' < w'.heap.size → wpList Tryz.prog ops Q rest (a.put o.dst (.slice (some ⟨g', 0, none⟩) mn c')) w') :
    wpList Tryz.prog ops Q (o :: rest) a w := by
  obtain ⟨i0, hi, hz0, hz1, hz2⟩ := info_parts info_str
  have hgb := World.ownsRow.lt hown g rfl
  obtain ⟨hn1, hn2, hn3, hn4⟩ := hN
  cases ma with
  | none =>
    have hmn : mn = 0 := by
      by_cases h0 : 0 < mn
      · obtain ⟨b, off, e, _⟩ := hn4 h0; cases e
      · omega
    subst hmn
    have hm0 := hmc rfl
    subst hm0
    have hw : Region.wanted o (yielded ops a.tmps) = true := by simp [Region.wanted, hgd]
    unfold wpList
    rw [if_pos hw]
    have hr := run_append_owned_none (P := Tryz.prog) w B 23 o.type 9 i0 1 Tryz.underlying23 hi (.slice (some ⟨g, 0, none⟩) 0 cap0) _ _ hown
    refine .inl ?_
    unfold Oper.wp execOp
    simp only [ho, resolve, invoke, builtin, Sem.run_bind, Sem.run_pure, Result.andThen_ok, List.map_toArray, List.map_cons, List.map_nil, hs, hx, hr]
    exact h g cap0 w ⟨hn1, hn2, hn3, fun h => absurd h (by omega)⟩ (Below.refl _ _) hgb.1 hgb.2
  | some ad =>
    have hnews : ∀ j u, (ns.map Value.string)[j]? = some u → w.cell? (ad.add j) = some u := fun j u hj => by
      have hjl : j < ns.length := by have := (List.getElem?_eq_some_iff.1 hj).1; simpa using this
      obtain ⟨b, off, e, hbs, hc⟩ := hn4 (by omega)
      injection e with e
      subst e
      have h1 := hc j (by omega)
      have e2 : (⟨b, off, none⟩ : Addr).add j = ⟨b, off + j, none⟩ := by unfold Addr.add; split <;> simp_all
      rw [e2, h1, ← hj, List.getElem?_map, List.getElem?_eq_getElem hjl]
      simp [nsAt, List.getD, hjl]
    have h1 : ∀ u ∈ ns.map Value.string, u.oneCell' = true := fun u hu => by
      obtain ⟨s, _, rfl⟩ := List.mem_map.1 hu; rfl
    refine wpList_append_own_at w hgd s x 23 ho B 9 i0 (.string ⟨#[]⟩) 1 16 Tryz.underlying23 hi hz0 hz1 hz2 rfl (by decide) _ _ _ hs hown ad mn mc (ns.map Value.string) hx (by rw [List.length_map]; omega) hnews h1 (by unfold maxLen; omega) (by omega) hB ?_
    intro v' w' o1 o2 _ o4
    have hbel : Below B w w' := (Below.refl B w).grown o2 hB (fun b hb => by
      have : g = b := by simpa [Value.ownBlock] using hb
      omega)
    rcases o1.2 with ⟨e, e2⟩ | ⟨g', c', cur, e, hg', hh, hc, hcm, hcs, ht⟩
    · rcases o4 with h4 | h4 <;> rw [e] at h4 <;> simp [Value.ownBlock] at h4
    · rw [Nat.zero_add] at e hc
      subst e
      have hlt := (Array.getElem?_eq_some_iff.1 hh).1
      refine h g' c' w' ⟨hn1, hn2, hn3, fun _ => ⟨g', 0, rfl, hlt, fun i hi => ?_⟩⟩ hbel hg' hlt
      have h6 := o1.cells (g := g') rfl i (.string (nsAt ns i)) (by rw [List.nil_append, List.getElem?_map, List.getElem?_eq_getElem (by omega)]; simp [nsAt, List.getD, show i < ns.length by omega])
      have e2 : (⟨g', 0, none⟩ : Addr).add i = ⟨g', 0 + i, none⟩ := by unfold Addr.add; split <;> simp_all
      rw [e2] at h6
      exact h6
end Go.Proofs.YtmmfjknnbkcniaaGreatDoor
