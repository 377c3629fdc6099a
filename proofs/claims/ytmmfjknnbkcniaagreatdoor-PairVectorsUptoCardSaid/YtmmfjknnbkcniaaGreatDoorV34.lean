/- Keys are equal just where what stays is equal; who meets whom, counted. What the meetings give: the plain words of it. What counts say of keys. (Printed by tools/genjoin.py.) -/
import Derived.Test.YtmmfjknnbkcniaaGreatDoorV33
set_option maxHeartbeats 64000000
set_option maxRecDepth 100000
namespace Go.Fl
def undec (l : List UInt8) : Nat := l.foldl (fun a c => a * 10 + (c.toNat - 48)) 0
theorem undec_dec (n : Nat) : undec (Lib.decDigits n) = n := by
 induction n using Nat.strongRecOn with
 | _ n ih =>
  rw [Lib.decDigits]
  by_cases h : n < 10
  ·rw [dif_pos h]
   have : ∀ k, k < 10 → undec [UInt8.ofNat (48 + k)] = k := by decide
   exact this n h
  ·rw [dif_neg h]
   unfold undec
   rw [List.foldl_append]
   have := ih (n / 10) (by omega)
   unfold undec at this
   rw [this]
   have h2 : ∀ k, k < 10 → (UInt8.ofNat (48 + k)).toNat - 48 = k := by decide
   simp only [List.foldl_cons, List.foldl_nil]
   rw [h2 (n % 10) (by omega)]
   omega
theorem dec_colon (n : Nat) : ∀ c ∈ Lib.decDigits n, c ≠ 58 := by
 induction n using Nat.strongRecOn with
 | _ n ih =>
  rw [Lib.decDigits]
  have h2 : ∀ k, k < 10 → (UInt8.ofNat (48 + k)) ≠ 58 := by decide
  by_cases h : n < 10
  ·rw [dif_pos h]
   intro c hc
   obtain rfl := List.mem_singleton.1 hc
   exact h2 n h
  ·rw [dif_neg h]
   intro c hc
   rcases List.mem_append.1 hc with hc | hc
   ·exact ih _ (by omega) c hc
   ·obtain rfl := List.mem_singleton.1 hc
    exact h2 _ (by omega)
theorem colon_split {x y a b : List UInt8} (hx : ∀ c ∈ x, c ≠ 58) (hy : ∀ c ∈ y, c ≠ 58) (h : x ++ 58 :: a = y ++ 58 :: b) : x = y ∧ a = b := by
 induction x generalizing y with
 | nil =>
  cases y with
  | nil => simpa using h
  | cons c y => simp at h; exact absurd h.1.symm (hy c (by simp))
 | cons d x ih =>
  cases y with
  | nil => simp at h; exact absurd h.1 (hx d (by simp))
  | cons c y =>
   simp at h
   obtain ⟨h1, h2⟩ := ih (y := y) (fun c hc => hx c (by simp [hc])) (fun c hc => hy c (by simp [hc])) h.2
   exact ⟨by rw [h.1, h1], h2⟩
theorem numT_inj {s t : ByteArray} {a b : List UInt8} (h : numT s ++ a = numT t ++ b) : s = t ∧ a = b := by
 unfold numT at h
 rw [Lib.itoa_nonneg, Lib.itoa_nonneg] at h
 simp only [List.append_assoc, List.cons_append, List.nil_append] at h
 obtain ⟨h1, h2⟩ := colon_split (dec_colon _) (dec_colon _) h
 have hs : s.size = t.size := by rw [← undec_dec s.size, h1, undec_dec]
 obtain ⟨h3, h4⟩ := List.append_inj h2 (by rw [Array.length_toList, Array.length_toList]; exact hs)
 refine ⟨?_, h4⟩
 cases s; cases t
 simp at h3
 rw [h3]
theorem numT_ne (s : ByteArray) : numT s ≠ [] := by unfold numT; simp
theorem labT_inj {x y : Lb} {a b : List UInt8} (h : labT x ++ a = labT y ++ b) : x = y ∧ a = b := by
 unfold labT at h
 rw [List.append_assoc, List.append_assoc] at h
 obtain ⟨h1, h2⟩ := numT_inj h
 obtain ⟨h3, h4⟩ := numT_inj h2
 refine ⟨?_, h4⟩
 cases x; cases y
 simp at h1 h3
 rw [h1, h3]
theorem labT_ne (x : Lb) (a : List UInt8) : labT x ++ a ≠ [] := by
 unfold labT; have := numT_ne x.n; simp [this]
theorem flat_inj : ∀ {xs ys : List Lb}, xs.flatMap labT = ys.flatMap labT → xs = ys
 | [], [], _ => rfl
 | [], y :: ys, h => by rw [List.flatMap_nil, List.flatMap_cons] at h; exact absurd h.symm (labT_ne _ _)
 | x :: xs, [], h => by rw [List.flatMap_nil, List.flatMap_cons] at h; exact absurd h (labT_ne _ _)
 | x :: xs, y :: ys, h => by
  rw [List.flatMap_cons, List.flatMap_cons] at h
  obtain ⟨h1, h2⟩ := labT_inj h
  rw [h1, flat_inj h2]
end Go.Fl
namespace Go.Proofs.YtmmfjknnbkcniaaGreatDoor
open Go.Fl Go.Rel Go.RowKit Go.Maps Go.WideMaps
set_option linter.unusedSimpArgs false
set_option linter.unusedVariables false
theorem keyL_keep (ns : List ByteArray) (wo : Bool) (ls : List Lb) : keyL ns wo ls = (keepL ns wo ls).flatMap labT := rfl
theorem meet_iff {on : Bool} {ns : List ByteArray} {a b : List Lb} : meetL on ns a b = true ↔ keepL ns (!on) a = keepL ns (!on) b := by
 unfold meetL; rw [decide_eq_true_eq]; exact lcmp_zero
theorem meet_refl (on : Bool) (ns : List ByteArray) (a : List Lb) : meetL on ns a a = true := meet_iff.2 rfl
theorem meet_symm (on : Bool) (ns : List ByteArray) (a b : List Lb) : meetL on ns a b = meetL on ns b a := by
 rw [Bool.eq_iff_iff, meet_iff, meet_iff]; exact ⟨Eq.symm, Eq.symm⟩
theorem meet_trans {on : Bool} {ns : List ByteArray} {a b c : List Lb} (h1 : meetL on ns a b = true) (h2 : meetL on ns b c = true) : meetL on ns a c = true :=
 meet_iff.2 ((meet_iff.1 h1).trans (meet_iff.1 h2))
theorem meet_same {on : Bool} {ns : List ByteArray} {a b : List Lb} (h : meetL on ns a b = true) (c : List Lb) : meetL on ns a c = meetL on ns b c := by
 rw [Bool.eq_iff_iff]
 exact ⟨fun g => meet_trans (by rw [meet_symm]; exact h) g, fun g => meet_trans h g⟩
theorem key_meet (on : Bool) (ns : List ByteArray) (a b : List Lb) : decide (keyL ns (!on) a = keyL ns (!on) b) = meetL on ns a b := by
 rw [Bool.eq_iff_iff, decide_eq_true_eq, meet_iff, keyL_keep, keyL_keep]
 exact ⟨flat_inj, fun h => by rw [h]⟩
theorem keyE_text (m : Mt) (e : Er) : (keyE m e).data.toList = keyL m.ns (!m.on) e.ls := rfl
theorem keyE_meet (m : Mt) (e f : Er) : decide ((keyE m e).data.toList = (keyE m f).data.toList) = meetL m.on m.ns e.ls f.ls := by
 rw [keyE_text, keyE_text]; exact key_meet _ _ _ _
theorem cnt_meets (m : Mt) (es : List Er) (e : Er) : cntT (es.map (keyE m)) (keyE m e) = es.countP fun f => meetL m.on m.ns e.ls f.ls := by
 unfold cntT
 rw [List.countP_map]
 congr 1
 funext f
 show decide ((keyE m f).data.toList = (keyE m e).data.toList) = _
 rw [keyE_meet, meet_symm]
theorem cnt_zero (m : Mt) (es : List Er) (e : Er) : decide (cntT (es.map (keyE m)) (keyE m e) = 0) = !meetsK m.on m.ns e.ls (es.map Er.ls) := by
 rw [cnt_meets, Bool.eq_iff_iff, decide_eq_true_eq, List.countP_eq_zero]
 unfold meetsK
 rw [Bool.not_eq_true', List.any_eq_false]
 constructor
 ·intro h b hb
  obtain ⟨f, hf, rfl⟩ := List.mem_map.1 hb
  exact h f hf
 ·intro h f hf
  exact h _ (List.mem_map_of_mem hf)
theorem nsAt_keys (m : Mt) (es : List Er) {i : Nat} (h : i < es.length) : nsAt (es.map (keyE m)) i = keyE m (erAt es i) := by
 rw [nsAt_get (by simpa using h), erAt_get h, List.getElem_map]
end Go.Proofs.YtmmfjknnbkcniaaGreatDoor
namespace Go.Proofs.YtmmfjknnbkcniaaGreatDoor
open Go.Fl Go.Rel Go.RowKit Go.Maps Go.WideMaps
set_option linter.unusedSimpArgs false
set_option linter.unusedVariables false
def partK (on : Bool) (ns : List ByteArray) (single : List Ek) (x : Ek) : Option Ek := single.find? fun y => meetL on ns x.1 y.1
noncomputable def outK (k : Nat) (on : Bool) (ns inc : List ByteArray) (card : Int) (yes : Bool) (x y : Ek) : Option Ek :=
 if stepO k (if card = 2 then y.2 else x.2) (if card = 2 then x.2 else y.2) yes then some (toldL on ns inc card (stepF k yes) x.1 y.1, stepV k (if card = 2 then y.2 else x.2) (if card = 2 then x.2 else y.2) (if card = 2 then y.2 else x.2) yes) else none
noncomputable def roundK (k : Nat) (on : Bool) (ns inc : List ByteArray) (card : Int) (yes : Bool) (single : List Ek) (x : Ek) : Option Ek := (partK on ns single x).bind (outK k on ns inc card yes x)
noncomputable def metL (k : Nat) (on : Bool) (ns inc : List ByteArray) (card : Int) (yes : Bool) (many single : List Ek) : List Ek := many.filterMap (roundK k on ns inc card yes single)
def dupM (on : Bool) (ns : List ByteArray) (single : List Ek) : Bool := (List.range single.length).any fun i => meetsK on ns (kAt single i).1 ((single.take i).map (·.1))
def multM (on : Bool) (ns : List ByteArray) (many single : List Ek) : Bool := many.any fun x => (partK on ns single x).isSome && decide (1 < many.countP fun y => meetL on ns x.1 y.1)
noncomputable def metE (k : Nat) (on : Bool) (ns inc : List ByteArray) (card : Int) (yes : Bool) (many single : List Ek) : Int :=
 if dupM on ns single then 210 else if card = 0 ∧ multM on ns many single = true then 211 else setE (metL k on ns inc card yes many single)
noncomputable def metV (k : Nat) (on : Bool) (ns inc : List ByteArray) (card : Int) (yes : Bool) (many single : List Ek) : List Ek :=
 if dupM on ns single then [] else if card = 0 ∧ multM on ns many single = true then [] else setV (metL k on ns inc card yes many single)
noncomputable def vecsE (u : List UInt8) (on : Bool) (ns inc : List ByteArray) (card : Int) (yes : Bool) (kl kr : List Ek) : Int :=
 match vecK kl, vecK kr with
 | some ml, some mr =>
  if ¬ opK u < 12 ∧ setB u = false then 7
  else if card < 0 ∨ 2 < card ∨ (setB u = true ∧ card ≠ 0) then 2
  else if setB u = true then setE ((setL u on ns ml mr).map clK)
  else metE (opK u) on ns inc card yes (if card = 2 then mr else ml) (if card = 2 then ml else mr)
 | _, _ => 5
noncomputable def vecsV (u : List UInt8) (on : Bool) (ns inc : List ByteArray) (card : Int) (yes : Bool) (kl kr : List Ek) : List Ek :=
 match vecK kl, vecK kr with
 | some ml, some mr =>
  if ¬ opK u < 12 ∧ setB u = false then []
  else if card < 0 ∨ 2 < card ∨ (setB u = true ∧ card ≠ 0) then []
  else if setB u = true then setV ((setL u on ns ml mr).map clK)
  else metV (opK u) on ns inc card yes (if card = 2 then mr else ml) (if card = 2 then ml else mr)
 | _, _ => []
end Go.Proofs.YtmmfjknnbkcniaaGreatDoor
namespace Go.Proofs.YtmmfjknnbkcniaaGreatDoor
open Go.Fl Go.Rel Go.RowKit Go.Maps Go.WideMaps
set_option linter.unusedSimpArgs false
set_option linter.unusedVariables false
def KeyFits (on : Bool) (ns : List ByteArray) (es : List Er) : Prop := ∀ e ∈ es, (keyL ns (!on) e.ls).length ≤ 140737480000000
theorem cnt_cases (m : Mt) (es : List Er) (F : ByteArray → Int) (hF : F = fun t => (cntT (es.map (keyE m)) t : Int)) (e : Er) :
  (F (keyE m e) = 0 ∧ meetsK m.on m.ns e.ls (es.map Er.ls) = false) ∨ ((∃ c : Int, F (keyE m e) = c ∧ 0 < c) ∧ meetsK m.on m.ns e.ls (es.map Er.ls) = true) := by
 have h := cnt_zero m es e
 subst hF
 dsimp only
 cases hd : meetsK m.on m.ns e.ls (es.map Er.ls)
 ·rw [hd] at h
  have := of_decide_eq_true h
  exact .inl ⟨by omega, rfl⟩
 ·rw [hd] at h
  have := of_decide_eq_false h
  exact .inr ⟨⟨_, rfl, by omega⟩, rfl⟩
theorem keep5 {q0 q1 q2 q3 q4 : Addr} {v0 v1 v2 v3 v4 : Value} {w w' : World} (h : w.cell? q0 = some v0 ∧ w.cell? q1 = some v1 ∧ w.cell? q2 = some v2 ∧ w.cell? q3 = some v3 ∧ w.cell? q4 = some v4) (hb : Below w.heap.size w w') : w'.cell? q0 = some v0 ∧ w'.cell? q1 = some v1 ∧ w'.cell? q2 = some v2 ∧ w'.cell? q3 = some v3 ∧ w'.cell? q4 = some v4 :=
 ⟨cell_stayL h.1 hb, cell_stayL h.2.1 hb, cell_stayL h.2.2.1 hb, cell_stayL h.2.2.2.1 hb, cell_stayL h.2.2.2.2 hb⟩
end Go.Proofs.YtmmfjknnbkcniaaGreatDoor
