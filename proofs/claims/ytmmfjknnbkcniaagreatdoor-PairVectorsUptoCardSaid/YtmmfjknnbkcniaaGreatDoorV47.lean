/- awake, great, and how an argument is opened: what the laws over Vectors share. PairVectors: the law. How an argument is opened that holds two vectors and how they meet, where what is read is of small bulk. -/
import Derived.Test.YtmmfjknnbkcniaaGreatDoorV40
import Derived.Test.YtmmfjknnbkcniaaGreatDoorV46
import Derived.Test.YtmmfjknnbkcniaaGreatDoorRows
import Derived.Lib.ItoaLen
set_option maxHeartbeats 64000000
set_option maxRecDepth 100000
namespace Go.Proofs.YtmmfjknnbkcniaaGreatDoor
open Go.Fl Go.Rel Go.RowKit Go.Sort
set_option linter.unusedSimpArgs false
set_option linter.unusedVariables false
def txtX : ByteArray := ⟨#[120]⟩
def txtY : ByteArray := ⟨#[121]⟩
theorem valid_x : validK ([⟨MN, txtX⟩, ⟨nmA, txt1⟩], 0) = true := by decide +kernel
theorem valid_y : validK ([⟨MN, txtY⟩, ⟨nmA, txt1⟩], 0) = true := by decide +kernel
def kX : Ek := ([⟨MN, txtX⟩, ⟨nmA, txt1⟩], 4618441417868443648)
def kY : Ek := ([⟨MN, txtY⟩, ⟨nmA, txt1⟩], 4613937818241073152)
theorem val_2 : valS 3 4618441417868443648 4613937818241073152 = 4611686018427387904 := by decide +kernel
theorem awake_out : outK 3 false [] [] 0 false kX kY = some ([⟨nmA, txt1⟩], 4611686018427387904) := by
 have h2 : toldL false [] [] 0 (stepF 3 false) kX.1 kY.1 = [⟨nmA, txt1⟩] := by kernel_rfl
 have h4 : stepV 3 kX.2 kY.2 kX.2 false = 4611686018427387904 := by unfold stepV; rw [if_pos (by omega)]; exact val_2
 have hc : ¬ ((0 : Int) = 2) := by decide
 unfold outK
 simp only [if_neg hc]
 rw [show stepO 3 kX.2 kY.2 false = true from rfl, if_pos rfl, h2, h4]
theorem awake_met : metL 3 false [] [] 0 false [kX] [kY] = [([⟨nmA, txt1⟩], 4611686018427387904)] := by
 have h1 : partK false [] [kY] kX = some kY := by kernel_rfl
 unfold metL roundK
 rw [List.filterMap_cons, h1, Option.bind_some, awake_out]; rfl
theorem awake_vecs : vecsE [47] false [] [] 0 false [kX] [kY] = 0 ∧ vecsV [47] false [] [] 0 false [kX] [kY] = [([⟨nmA, txt1⟩], 4611686018427387904)] := by
 have hk : opK [47] = 3 := by decide
 have hx : vecK [kX] = some [kX] := vec_one kX valid_x
 have hy : vecK [kY] = some [kY] := vec_one kY valid_y
 have hs : setB [47] = false := by decide
 have hd : dupM false [] [kY] = false := by kernel_rfl
 have hm : multM false [] [kX] [kY] = false := by kernel_rfl
 have h1 : setE [(([⟨nmA, txt1⟩], 4611686018427387904) : Ek)] = 0 ∧ setV [(([⟨nmA, txt1⟩], 4611686018427387904) : Ek)] = [(([⟨nmA, txt1⟩], 4611686018427387904) : Ek)] := set_one _ valid_a
 have h2 := met_ok (k := 3) (on := false) (ns := []) (inc := []) (card := 0) (yes := false) (many := [kX]) (single := [kY]) hd (fun _ => hm)
 rw [awake_met, h1.1, h1.2] at h2
 unfold vecsE vecsV
 rw [hx, hy, hk, hs]
 simpa using h2
def mt0 : Mt := ⟨false, false, none, 0, 0, 0, none, 0, 0, [], []⟩
theorem mt0_ok (w : World) : MtOk w mt0 := ⟨⟨rfl, by decide, fun s hs => absurd hs List.not_mem_nil, fun h => absurd h (by decide)⟩, ⟨rfl, by decide, fun s hs => absurd hs List.not_mem_nil, fun h => absurd h (by decide)⟩⟩
theorem itoa_two : Lib.itoa 1 = [49] ∧ Lib.itoa 8 = [56] := by
 constructor
 ·rw [Lib.itoa, if_neg (by decide), Lib.decDigits]; rfl
 ·rw [Lib.itoa, if_neg (by decide), Lib.decDigits]; rfl
theorem fit_small (f : Nat) (t : ByteArray) (ht : t.size = 1) (hf : W64 f) : FitK false [] 0 [(([⟨MN, t⟩, ⟨nmA, txt1⟩], f) : Ek)] := fun k hk => by
 obtain rfl : k = _ := by simpa using hk
 refine ⟨hf, ?_, by show (2 : Nat) + 0 ≤ _; omega⟩
 have h1 : keyL [] (!false) [⟨MN, t⟩, ⟨nmA, txt1⟩] = labT ⟨nmA, txt1⟩ := by
  unfold keyL
  rw [show ([⟨MN, t⟩, ⟨nmA, txt1⟩] : List Lb).filter (fun l => stayB [] (!false) l.n) = [⟨nmA, txt1⟩] by kernel_rfl]
  simp
 dsimp only
 rw [h1]
 unfold labT
 rw [labT_len, numT_len, numT_len]
 show (Lib.itoa ((1 : Nat) : Int)).length + 1 + 1 + ((Lib.itoa ((1 : Nat) : Int)).length + 1 + 1) ≤ _
 rw [show (((1 : Nat) : Int)) = 1 by rfl, itoa_two.1]; decide
theorem AnsO.n {err : Int} {ks : List Ek} {w w' : World} {e : Ending} (h : AnsO err ks w e w') : AnsN err ks.length ks w e w' := h.ret.n
theorem first_vecs {W : World} {g g2 c c2 : Nat} {a a2 : Option Addr} (hr : ERow W (some ⟨g, 0, none⟩) 1 [⟨a, 2, c, 4618441417868443648, [⟨MN, txtX⟩, ⟨nmA, txt1⟩]⟩]) (hr2 : ERow W (some ⟨g2, 0, none⟩) 1 [⟨a2, 2, c2, 4613937818241073152, [⟨MN, txtY⟩, ⟨nmA, txt1⟩]⟩]) (hT : Tab W.heap.size W) :
  Calls Tryz.prog 13 #[.string ⟨#[47]⟩, .slice (some ⟨g, 0, none⟩) 1 1, .slice (some ⟨g2, 0, none⟩) 1 1, .agg #[.bool false, .bool false, .slice none 0 0, .int .i64 0, .slice none 0 0], .bool false] W (AnsN 0 1 [([⟨nmA, txt1⟩], 4611686018427387904)] W) := by
 refine (vectors_any ⟨#[47]⟩ _ _ 1 1 1 1 _ _ mt0 false W hr hr2 (mt0_ok W) (fit_small 4618441417868443648 txtX rfl (by unfold W64; decide +kernel)) (fit_small 4613937818241073152 txtY rfl (by unfold W64; decide +kernel)) hT (by omega)).mono fun e w' h => ?_
 have h1 := h.n
 have hl : (⟨#[47]⟩ : ByteArray).toList = [47] := by rw [ByteArray.toList_eq]
 rw [hl] at h1
 have e1 : vecsE [47] mt0.on mt0.ns mt0.inc mt0.card false ([(⟨a, 2, c, 4618441417868443648, [⟨MN, txtX⟩, ⟨nmA, txt1⟩]⟩ : Er)].map Er.key) ([(⟨a2, 2, c2, 4613937818241073152, [⟨MN, txtY⟩, ⟨nmA, txt1⟩]⟩ : Er)].map Er.key) = 0 := awake_vecs.1
 have e2 : vecsV [47] mt0.on mt0.ns mt0.inc mt0.card false ([(⟨a, 2, c, 4618441417868443648, [⟨MN, txtX⟩, ⟨nmA, txt1⟩]⟩ : Er)].map Er.key) ([(⟨a2, 2, c2, 4613937818241073152, [⟨MN, txtY⟩, ⟨nmA, txt1⟩]⟩ : Er)].map Er.key) = [([⟨nmA, txt1⟩], 4611686018427387904)] := awake_vecs.2
 rw [e1, e2] at h1
 exact h1
theorem small_xy : SmallT txtX ∧ SmallT txtY ∧ SmallT txt1 := ⟨by unfold SmallT; decide, by unfold SmallT; decide, by unfold SmallT; decide⟩
theorem elem_x (v : Nat) (w : World) : Calls Tryz.prog 12 #[.string ⟨#[120]⟩, .string ⟨#[49]⟩, .float .f64 v] w (fun e w' => ∃ a c, e = .returned (.agg #[.slice a 2 c, .float .f64 v]) ∧ ErOwn w.heap.size w' ⟨a, 2, c, v, [⟨MN, txtX⟩, ⟨nmA, txt1⟩]⟩ ∧ Below w.heap.size w w') :=
 elem_some txtX txt1 v w small_xy.1 small_xy.2.2 (by unfold txtX; rw [ByteArray.toList_eq]; rfl)
theorem elem_y (v : Nat) (w : World) : Calls Tryz.prog 12 #[.string ⟨#[121]⟩, .string ⟨#[49]⟩, .float .f64 v] w (fun e w' => ∃ a c, e = .returned (.agg #[.slice a 2 c, .float .f64 v]) ∧ ErOwn w.heap.size w' ⟨a, 2, c, v, [⟨MN, txtY⟩, ⟨nmA, txt1⟩]⟩ ∧ Below w.heap.size w w') :=
 elem_some txtY txt1 v w small_xy.2.1 small_xy.2.2 (by unfold txtY; rw [ByteArray.toList_eq]; rfl)
def Box9 (g : Nat) (u : ByteArray) (l r : Value) (m : Mt) (yes : Bool) (W : World) : Prop :=
 W.cell? ⟨g, 0, none⟩ = some (.string u) ∧ W.cell? ⟨g, 1, none⟩ = some l ∧ W.cell? ⟨g, 2, none⟩ = some r ∧ W.cell? ⟨g, 3, none⟩ = some (.bool m.given) ∧ W.cell? ⟨g, 4, none⟩ = some (.bool m.on) ∧ W.cell? ⟨g, 5, none⟩ = some (.slice m.la m.ln m.lc) ∧ W.cell? ⟨g, 6, none⟩ = some (.int .i64 m.card) ∧ W.cell? ⟨g, 7, none⟩ = some (.slice m.ia m.im m.ic) ∧ W.cell? ⟨g, 8, none⟩ = some (.bool yes)
theorem Box9.below {g : Nat} {u : ByteArray} {l r : Value} {m : Mt} {yes : Bool} {W W' : World} (h : Box9 g u l r m yes W) (hb : Below W.heap.size W W') : Box9 g u l r m yes W' := keep9 h hb
def bothV (u : ByteArray) (l r : Value) (m : Mt) (yes : Bool) : Value := .agg #[.string u, l, r, .bool m.given, .bool m.on, .slice m.la m.ln m.lc, .int .i64 m.card, .slice m.ia m.im m.ic, .bool yes]
theorem FitK.key {on : Bool} {ns : List ByteArray} {im : Nat} {es : List Er} {ks : List Ek} (h : FitK on ns im ks) (hk : es.map Er.key = ks) : FitK on ns im (es.map Er.key) := by rw [hk]; exact h
theorem awake_any (w : World) (hT : Tab w.heap.size w) : Calls Tryz.prog 9 #[] w fun e w' => e = .returned (.bool true) ∧ Below w.heap.size w w' := by
 have HT := qh hT
 clear hT
 go_enter Tryz.func9, Tryz.ntmps9
 go_wp2_with fail
 refine (elem_x _ _).mono ?_
 rintro e w1 ⟨a1, c1, rfl, o1, b1⟩
 have R1 := qh (erow_one o1)
 have g1 : Below w1.heap.size w1 (w1.alloc (.cells #[.slice a1 2 c1, .float .f64 4618441417868443648] 34)) := (Below.refl _ _).alloc (Nat.le_refl _) _
 have K1 := qh (b1.trans (g1.mono b1.size))
 clear o1 b1 g1
 go_wp2_with fail
 refine (elem_y _ _).mono ?_
 rintro e w2 ⟨a2, c2, rfl, o2, b2⟩
 have R2 := qh (erow_one o2)
 have g2 : Below w2.heap.size w2 (w2.alloc (.cells #[.slice a2 2 c2, .float .f64 4613937818241073152] 34)) := (Below.refl _ _).alloc (Nat.le_refl _) _
 have K2 := qh ((K1.out.trans (b2.mono K1.out.size)).trans (g2.mono (Nat.le_trans K1.out.size b2.size)))
 have R1 := qh ((R1.out.below b2).below g2)
 clear o2 b2 g2 K1
 go_wp2_with fail
 refine (first_vecs R1.out R2.out (fun w' h => HT.out w' (K2.out.trans (h.mono K2.out.size)))).mono ?_
 rintro e w3 ⟨a3, c3, e3, rfl, r3, k3, b3⟩
 have R3 := qh r3
 have KE3 := qh k3
 have K3 := qh (K2.out.trans (b3.mono K2.out.size))
 clear r3 k3 b3 R1 R2 K2
 go_wp2_with fail
 refine (elem_a _ _).mono ?_
 rintro e w5 ⟨a5, c5, rfl, o5, b5⟩
 have R5 := qh (erow_one o5)
 have g5 : Below w5.heap.size w5 (w5.alloc (.cells #[.slice a5 1 c5, .float .f64 4611686018427387904] 34)) := (Below.refl _ _).alloc (Nat.le_refl _) _
 have K5 := qh ((K3.out.trans (b5.mono K3.out.size)).trans (g5.mono (Nat.le_trans K3.out.size b5.size)))
 have R3 := qh ((R3.out.below b5).below g5)
 clear o5 b5 g5 K3
 go_wp2_with fail
 refine (same_yes a3 (some ⟨w5.heap.size, 0, none⟩) 1 c3 1 e3 _ _ R3.out R5.out (by rw [KE3.out]; show _ = [(([⟨nmA, txt1⟩], cn 4611686018427387904) : Ek)]; rw [show cn 4611686018427387904 = 4611686018427387904 by decide +kernel])).mono ?_
 rintro e w6 ⟨rfl, m6, rfl⟩
 go_wp2_with fail
 go_ret
 exact ⟨rfl, K5.out.drewN' m6⟩
theorem great_any (a b : Option Addr) (na ca nb cb : Nat) (m : Mt) (w : World) (hi : (m.im : Int) ≤ 9223372036854775807) (hn : na + nb ≤ 4398046511000) : Calls Tryz.prog 10 #[.slice a na ca, .slice b nb cb, m.v] w fun e w' => (∃ d, e = .returned (.bool d)) ∧ Below w.heap.size w w' := by
 obtain ⟨given, on, ma, mn, mc, card, ia, im, ic, ns, inc⟩ := m
 dsimp only [Mt.v] at hi ⊢
 have hB : Below w.heap.size w (w.alloc (.cells #[.bool given, .bool on, .slice ma mn mc, .int .i64 card, .slice ia im ic] 25)) := (Below.refl _ _).alloc (Nat.le_refl _) _
 have HB := qh hB
 clear hB
 by_cases h0 : 0 < im
 ·have h1 : (0 : Int) < (im : Int) := by omega
  have h2 : ((im : Int) == 0) = false := by simp; omega
  have h3 : ¬ (im : Int) = 0 := by omega
  have n1 : (na : Int) + (nb : Int) ≤ 4398046511000 := by omega
  have n2 : IntKind.i64.wrap ((na : Int) + (nb : Int)) = (na : Int) + (nb : Int) := by rw [IntKind.wrap_i64]; omega
  go_enter Tryz.func10, Tryz.ntmps10
  go_wp2_with fail
  go_ret
  exact ⟨⟨_, rfl⟩, HB.out⟩
 ·obtain rfl : im = 0 := by omega
  go_enter Tryz.func10, Tryz.ntmps10
  go_wp2_with fail
  go_ret
  exact ⟨⟨_, rfl⟩, HB.out⟩
end Go.Proofs.YtmmfjknnbkcniaaGreatDoor
namespace Go.Proofs.YtmmfjknnbkcniaaGreatDoor
open Go.Fl Go.Rel Go.RowKit Go.Sort
set_option linter.unusedSimpArgs false
set_option linter.unusedVariables false
theorem law_vecs (u : ByteArray) (a b : Option Addr) (na ca nb cb : Nat) (la lb : List Er) (m : Mt) (yes : Bool) (w : World) (ha : ERow w a na la) (hsa : SlK a na ca) (hb : ERow w b nb lb) (hsb : SlK b nb cb) (hM : MtOk w m)
  (hfa : FitK m.on m.ns m.im (la.map Er.key)) (hfb : FitK m.on m.ns m.im (lb.map Er.key)) (hn : na + nb ≤ 4398046511000) (hi : (m.im : Int) ≤ 9223372036854775807) (hT : Tab w.heap.size w) :
  Calls Tryz.prog 5 #[bothV u (.slice a na ca) (.slice b nb cb) m yes] w fun e w' => e = .returned (.bool true) ∧ Below w.heap.size w w' := by
 obtain ⟨E, hE⟩ : ∃ E, E = vecsE u.toList m.on m.ns m.inc m.card yes (la.map Er.key) (lb.map Er.key) := ⟨_, rfl⟩
 obtain ⟨V, hV⟩ : ∃ V, V = vecsV u.toList m.on m.ns m.inc m.card yes (la.map Er.key) (lb.map Er.key) := ⟨_, rfl⟩
 obtain ⟨n, hnv⟩ : ∃ n, n = V.length := ⟨_, rfl⟩
 have HAW : Hid (∀ W, Below w.heap.size w W → Calls Tryz.prog 9 #[] W fun e w' => e = .returned (.bool true) ∧ Below W.heap.size W w') := qh fun W h => awake_any W (fun w' h2 => hT w' (h.trans (h2.mono h.size)))
 have HGR : Hid (∀ W, Calls Tryz.prog 10 #[.slice a na ca, .slice b nb cb, m.v] W fun e w' => (∃ d, e = .returned (.bool d)) ∧ Below W.heap.size W w') := qh fun W => great_any a b na ca nb cb m W hi hn
 have HRV : Hid (∀ W, Below w.heap.size w W → Calls Tryz.prog 21 #[.string u, .slice a na ca, .slice b nb cb, m.v, .bool yes] W (AnsN E n V W)) := qh fun W h =>
  (rvectors_any u a b na ca nb cb la lb m yes W (ha.below h) hsa (hb.below h) hsb (hM.below h) hfa hfb hn).mono fun e w' h => by rw [hnv, hE, hV]; exact h.n
 have HCL : Hid (∀ W, Below w.heap.size w W → Calls Tryz.prog 11 #[.slice a na ca] W (CopyOf la W)) := qh fun W h => copied21_any a na ca la W (ha.below h)
 have HCR : Hid (∀ W, Below w.heap.size w W → Calls Tryz.prog 11 #[.slice b nb cb] W (CopyOf lb W)) := qh fun W h => copied21_any b nb cb lb W (hb.below h)
 have HPV : Hid (∀ W x cx (O : List Er) y cy (Q : List Er), Below w.heap.size w W → ERow W x O.length O → O.map Er.key = la.map Er.key → ERow W y Q.length Q → Q.map Er.key = lb.map Er.key → Calls Tryz.prog 13 #[.string u, .slice x O.length cx, .slice y Q.length cy, m.v, .bool yes] W (AnsN E n V W)) := qh fun W x cx O y cy Q h ho hk hq hk2 => by
  have hl1 : O.length = na := by have := congrArg List.length hk; rw [List.length_map, List.length_map, ha.1] at this; exact this
  have hl2 : Q.length = nb := by have := congrArg List.length hk2; rw [List.length_map, List.length_map, hb.1] at this; exact this
  refine (vectors_any u x y O.length cx Q.length cy O Q m yes W ho hq (hM.below h) (hfa.key hk) (hfb.key hk2) (fun w' h2 => hT w' (h.trans (h2.mono h.size))) (by omega)).mono fun e w' h => ?_
  rw [hnv, hE, hV, ← hk, ← hk2]; exact h.n
 obtain ⟨given, on, ma, mn, mc, card, ia, im, ic, ns, inc⟩ := m
 dsimp only [Mt.v, bothV] at HGR HRV HPV ⊢
 obtain ⟨W0, hW0⟩ : ∃ W0, W0 = w.alloc (.cells #[.string u, .slice a na ca, .slice b nb cb, .bool given, .bool on, .slice ma mn mc, .int .i64 card, .slice ia im ic, .bool yes] 27) := ⟨_, rfl⟩
 have HB0 : Hid (Below w.heap.size w W0) := qh (by rw [hW0]; exact (Below.refl _ _).alloc (Nat.le_refl _) _)
 have HX0 : Hid (Box9 w.heap.size u (.slice a na ca) (.slice b nb cb) ⟨given, on, ma, mn, mc, card, ia, im, ic, ns, inc⟩ yes W0) := qh (by
  have hi0 : Bk.Is W0 w.heap.size #[.string u, .slice a na ca, .slice b nb cb, .bool given, .bool on, .slice ma mn mc, .int .i64 card, .slice ia im ic, .bool yes] 27 := by rw [hW0]; exact Bk.Is.made w _ _
  have q0 := hi0.cell 0
  have q1 := hi0.cell 1
  have q2 := hi0.cell 2
  have q3 := hi0.cell 3
  have q4 := hi0.cell 4
  have q5 := hi0.cell 5
  have q6 := hi0.cell 6
  have q7 := hi0.cell 7
  have q8 := hi0.cell 8
  simp at q0 q1 q2 q3 q4 q5 q6 q7 q8
  exact ⟨q0, q1, q2, q3, q4, q5, q6, q7, q8⟩)
 have HW0 := qh hW0
 clear ha hsa hb hsb hM hfa hfb hn hi hT hE hV hnv hW0
 go_enter Tryz.func5, Tryz.ntmps5
 go_upto_region 1 with fail
 rw [← HW0.out]
 go_wp2_with fail
 refine (HAW.out _ HB0.out).mono ?_
 rintro e w1 ⟨rfl, b1⟩
 have K1 := qh (HB0.out.trans (b1.mono HB0.out.size))
 have X1 := HX0.out.below b1
 clear b1 HX0
 obtain ⟨x0, x1, x2, x3, x4, x5, x6, x7, x8⟩ := X1
 dsimp only at x3 x4 x5 x6 x7
 go_wp2_with fail
 refine (HGR.out _).mono ?_
 rintro e w2 ⟨⟨d, rfl⟩, b2⟩
 have K2 := qh (K1.out.trans (b2.mono K1.out.size))
 obtain ⟨x0, x1, x2, x3, x4, x5, x6, x7, x8⟩ := keep9 ⟨x0, x1, x2, x3, x4, x5, x6, x7, x8⟩ b2
 clear b2 K1
 cases d
 ·go_wp2_with fail
  refine (HRV.out _ K2.out).mono ?_
  rintro e w3 ⟨a3, c3, e3, rfl, r3, k3, b3⟩
  have R3 := qh r3
  have KE3 := qh k3
  have K3 := qh (K2.out.trans (b3.mono K2.out.size))
  obtain ⟨x0, x1, x2, x3, x4, x5, x6, x7, x8⟩ := keep9 ⟨x0, x1, x2, x3, x4, x5, x6, x7, x8⟩ b3
  clear r3 k3 b3 K2
  go_wp2_with fail
  have s0 : w3.drew.cell? ⟨w.heap.size, 0, none⟩ = some (.string u) ∧ w3.drew.cell? ⟨w.heap.size, 1, none⟩ = some (.slice a na ca) ∧ w3.drew.cell? ⟨w.heap.size, 2, none⟩ = some (.slice b nb cb) ∧ w3.drew.cell? ⟨w.heap.size, 3, none⟩ = some (.bool given) ∧ w3.drew.cell? ⟨w.heap.size, 4, none⟩ = some (.bool on) ∧ w3.drew.cell? ⟨w.heap.size, 5, none⟩ = some (.slice ma mn mc) ∧ w3.drew.cell? ⟨w.heap.size, 6, none⟩ = some (.int .i64 card) ∧ w3.drew.cell? ⟨w.heap.size, 7, none⟩ = some (.slice ia im ic) ∧ w3.drew.cell? ⟨w.heap.size, 8, none⟩ = some (.bool yes) := ⟨x0, x1, x2, x3, x4, x5, x6, x7, x8⟩
  have KD : Hid (Below w.heap.size w w3.drew) := qh (K3.out.drewN' 1)
  have RD : Hid (ERow w3.drew a3 n e3) := qh (R3.out.below ((Below.refl _ w3).drewN' 1))
  go_region_held3 (fun w' => w'.cell? ⟨w.heap.size, 0, none⟩ = some (.string u) ∧ w'.cell? ⟨w.heap.size, 1, none⟩ = some (.slice a na ca) ∧ w'.cell? ⟨w.heap.size, 2, none⟩ = some (.slice b nb cb) ∧ w'.cell? ⟨w.heap.size, 3, none⟩ = some (.bool given) ∧ w'.cell? ⟨w.heap.size, 4, none⟩ = some (.bool on) ∧ w'.cell? ⟨w.heap.size, 5, none⟩ = some (.slice ma mn mc) ∧ w'.cell? ⟨w.heap.size, 6, none⟩ = some (.int .i64 card) ∧ w'.cell? ⟨w.heap.size, 7, none⟩ = some (.slice ia im ic) ∧ w'.cell? ⟨w.heap.size, 8, none⟩ = some (.bool yes)) (first | assumption) (first | (go_at_call 11; (with_reducible refine (HCL.out _ KD.out).mono ?_); rintro e w4 ⟨a4, c4, O, rfl, _, r4, k4, b4⟩; have s1 := keep9 s0 b4; have K4 := qh (KD.out.trans (b4.mono KD.out.size)); have RD4 := qh (RD.out.below b4)) | (go_at_call 11; (with_reducible refine (HCR.out _ K4.out).mono ?_); rintro e w5 ⟨a5, c5, Q, rfl, _, r5, k5, b5⟩; have s2 := keep9 s1 b5; have K5 := qh (K4.out.trans (b5.mono K4.out.size)); have RD5 := qh (RD4.out.below b5); have r4' := r4.below b5) | (go_at_call 13; refine (HPV.out _ a4 c4 O a5 c5 Q K5.out r4' k4 r5 k5).mono ?_; rintro e w6 ⟨a6, c6, e6, rfl, r6, k6, b6⟩; have s3 := keep9 s2 b6; have K6 := qh (K5.out.trans (b6.mono K5.out.size)); have RD6 := qh (RD5.out.below b6); have R6 := qh r6; have KE6 := qh k6))
  rename_i hHeld
  clear hHeld s0 s1 s2 s3 r4 k4 b4 r5 k5 b5 r6 k6 b6 r4' KD K4 K5 RD RD4 RD5 R3 K3 x0 x1 x2 x3 x4 x5 x6 x7 x8
  go_wp2_with fail
  refine (same_yes a6 a3 n c6 c3 e6 e3 _ R6.out RD6.out (by rw [KE6.out, KE3.out])).mono ?_
  rintro e w7 ⟨rfl, m7, rfl⟩
  go_wp2_with fail
  go_ret
  exact ⟨rfl, K6.out.drewN' m7⟩
 ·go_wp2_with fail
  go_ret
  exact ⟨rfl, K2.out⟩
end Go.Proofs.YtmmfjknnbkcniaaGreatDoor
namespace Go.Proofs.YtmmfjknnbkcniaaGreatDoor
open Go.Fl Go.Rel Go.RowKit Go.ChangeShapes Go.WideShapes Go.Deep
set_option linter.unusedVariables false
set_option linter.unusedSimpArgs false
section
variable {H : Type}
theorem bulk_pos (d : DataW H) : 1 ≤ Rows.uptoBulk d := by
 cases d with
 | lit l => cases l <;> simp [Rows.uptoBulk]
 | _ => simp [Rows.uptoBulk]
theorem bulk_mem {d : DataW H} : ∀ {l : List (DataW H)}, d ∈ l → Rows.uptoBulk d ≤ Rows.uptoBulkAll l
 | [], h => absurd h List.not_mem_nil
 | x :: r, h => by
  simp only [Rows.uptoBulkAll]
  rcases List.mem_cons.1 h with rfl | h
  ·omega
  ·have := bulk_mem h; omega
theorem bulk_len : ∀ l : List (DataW H), l.length ≤ Rows.uptoBulkAll l
 | [] => by simp [Rows.uptoBulkAll]
 | x :: r => by
  have h1 := bulk_pos x
  have h2 := bulk_len r
  simp only [Rows.uptoBulkAll, List.length_cons]; omega
end
def BulkL (ls : List Lb) : Prop := ls.length ≤ 1048576 ∧ ∀ l ∈ ls, l.n.size ≤ 1048576 ∧ l.v.size ≤ 1048576
section
variable {H : Type} {enc : TypeId × Value → H} {w : World} {spare : Nat → Bool} {held : Bool}
theorem labels_bulk {fuel : Nat} {cs : List Value} {x : DataW H × List MemPlace} (hf : DataW.trod enc Tryz.prog w 0 spare held fuel 31 cs = some x) (hw : Rows.uptoBulk x.1 ≤ 1048576) :
  ∃ a n cap ls, cs = [.slice a n cap] ∧ LRow w a n ls ∧ SlK a n cap ∧ n ≤ 4398046511104 ∧ BulkL ls := by
 have hc : Tryz.prog.cellsOf 54 = 2 := by kernel_rfl
 have hcs : Tryz.prog.cellsOf 9 = 1 := by kernel_rfl
 rcases open_slice Tryz.underlying31 hf with ⟨hcs, _⟩ | ⟨a, len, cap, m, n, D, Pl, hcl, _, hl, hm, hmm, hxx, hx⟩
 ·exact ⟨none, 0, 0, [], hcs, LRow.nothing _, ⟨Nat.le_refl _, fun _ => rfl⟩, by omega, by simp [BulkL]⟩
 ·have hle : len ≤ m := by rw [hmm]; split <;> omega
  rw [hxx] at hw
  simp only [Rows.uptoBulk] at hw
  have hwd : ∀ i, i < len → Rows.uptoBulk (D i) ≤ 1048576 := fun i hi => by
   have := bulk_mem (List.mem_map.2 ⟨i, List.mem_range.2 hi, rfl⟩ : D i ∈ (List.range len).map D)
   omega
  have hlen0 : len ≤ 1048576 := by
   have := bulk_len ((List.range len).map D)
   rw [List.length_map, List.length_range] at this; omega
  obtain ⟨ls, hsl, hsp⟩ := exists_lbs len (fun i x => w.cell? (a.add (i * 2)) = some (.string x.n) ∧ w.cell? (a.add (i * 2 + 1)) = some (.string x.v) ∧ x.n.size ≤ 1048576 ∧ x.v.size ≤ 1048576) (fun i hi => by
   obtain ⟨cs, h1, h2⟩ := hx i (by omega)
   rw [hc] at h1
   obtain ⟨_, hlen, hcell⟩ := World.cells?_some h1
   obtain ⟨xs, n', _, hdx, _, hlen2, hfs⟩ := DataW.trod_struct Tryz.underlying54 h2
   match cs, hlen, xs, hlen2 with
   | [c0, c1], _, [x0, x1], _ =>
    have g0 := hfs 0 _ rfl
    have g1 := hfs 1 _ rfl
    simp [hcs] at g0 g1
    obtain ⟨s, rfl, e0⟩ := cellm_string Tryz.underlying9 g0
    obtain ⟨v, rfl, e1⟩ := cellm_string Tryz.underlying9 g1
    have hd : D i = .agg [x0.1, x1.1] := congrArg Prod.fst hdx
    have hww := hwd i hi
    rw [hd, e0, e1] at hww
    simp only [Rows.uptoBulk, Rows.uptoBulkAll, Array.length_toList] at hww
    refine ⟨⟨s, v⟩, ?_, ?_, ?_, ?_⟩
    ·have := hcell 0 (by simp); simpa [Deep.add_add] using this
    ·have := hcell 1 (by simp); simpa [Deep.add_add] using this
    ·show s.data.size ≤ _; omega
    ·show v.data.size ≤ _; omega)
  have hb : BulkL ls := ⟨by omega, fun l hl => by
   obtain ⟨i, hi, rfl⟩ := List.getElem_of_mem hl
   have := (hsp i (by omega)).2.2
   rw [lbAt_get hi] at this; exact this⟩
  refine ⟨_, _, _, ls, hcl, ⟨hsl, by omega, small_mem fun l hl => ?_, fun hn => ?_⟩, ⟨hl, fun h => by cases h⟩, by omega, hb⟩
  ·have := hb.2 l hl; unfold SmallT; omega
  ·obtain ⟨b, off, spot⟩ := a
   have h0 := (hsp 0 hn).1
   have hspot : spot = none := by simpa [Addr.add] using World.cell?_spot h0
   subst hspot
   have hbl := World.block_lt_of_cell? w _ h0
   refine ⟨b, off, rfl, by simpa [Addr.add_lit] using hbl, fun i hi => ?_⟩
   obtain ⟨h1, h2, _, _⟩ := hsp i hi
   unfold nL vL
   exact ⟨by simpa [Addr.add_lit] using h1, by simpa [Addr.add_lit, Nat.add_assoc] using h2⟩
theorem elems_bulk {fuel : Nat} {cs : List Value} {x : DataW H × List MemPlace} (hf : DataW.trod enc Tryz.prog w 0 spare held fuel 22 cs = some x) (hw : Rows.uptoBulk x.1 ≤ 1048576) :
  ∃ a n cap es, cs = [.slice a n cap] ∧ ERow w a n es ∧ SlK a n cap ∧ n ≤ 1048576 ∧ ∀ e ∈ es, W64 e.f ∧ BulkL e.ls := by
 have hc : Tryz.prog.cellsOf 34 = 2 := by kernel_rfl
 have hcs : Tryz.prog.cellsOf 31 = 1 := by kernel_rfl
 have hcf : Tryz.prog.cellsOf 32 = 1 := by kernel_rfl
 rcases open_slice Tryz.underlying22 hf with ⟨hcs, _⟩ | ⟨a, len, cap, m, n, D, Pl, hcl, _, hl, hm, hmm, hxx, hx⟩
 ·exact ⟨none, 0, 0, [], hcs, ERow.nothing _, ⟨Nat.le_refl _, fun _ => rfl⟩, by omega, fun e he => absurd he List.not_mem_nil⟩
 ·have hle : len ≤ m := by rw [hmm]; split <;> omega
  rw [hxx] at hw
  simp only [Rows.uptoBulk] at hw
  have hwd : ∀ i, i < len → Rows.uptoBulk (D i) ≤ 1048576 := fun i hi => by
   have := bulk_mem (List.mem_map.2 ⟨i, List.mem_range.2 hi, rfl⟩ : D i ∈ (List.range len).map D)
   omega
  have hlen0 : len ≤ 1048576 := by
   have := bulk_len ((List.range len).map D)
   rw [List.length_map, List.length_range] at this; omega
  obtain ⟨es, hsl, hsp⟩ := exists_ers len (fun i x => w.cell? (a.add (i * 2)) = some (.slice x.a x.n x.c) ∧ w.cell? (a.add (i * 2 + 1)) = some (.float .f64 x.f) ∧ ErOk w x ∧ W64 x.f ∧ BulkL x.ls) (fun i hi => by
   obtain ⟨cs, h1, h2⟩ := hx i (by omega)
   rw [hc] at h1
   obtain ⟨_, hlen, hcell⟩ := World.cells?_some h1
   obtain ⟨xs, n', _, hdx, _, hlen2, hfs⟩ := DataW.trod_struct Tryz.underlying34 h2
   match cs, hlen, xs, hlen2 with
   | [c0, c1], _, [x0, x1], _ =>
    have g0 := hfs 0 _ rfl
    have g1 := hfs 1 _ rfl
    simp [hcs, hcf] at g0 g1
    have hd : D i = .agg [x0.1, x1.1] := congrArg Prod.fst hdx
    have hww := hwd i hi
    rw [hd] at hww
    simp only [Rows.uptoBulk, Rows.uptoBulkAll] at hww
    obtain ⟨xa, xn, xc, xl, he, hr, hk, hn, hb⟩ := labels_bulk g0 (by omega)
    simp at he
    subst he
    obtain ⟨v, rfl, hv⟩ := cellm_float Tryz.underlying32 g1
    refine ⟨⟨xa, xn, xc, v, xl⟩, ?_, ?_, ⟨hr, hk, hn⟩, w64m hv, hb⟩
    ·have := hcell 0 (by simp); simpa [Deep.add_add] using this
    ·have := hcell 1 (by simp); simpa [Deep.add_add] using this)
  have hmem : ∀ e ∈ es, ErOk w e ∧ W64 e.f ∧ BulkL e.ls := fun e he => by
   obtain ⟨i, hi, rfl⟩ := List.getElem_of_mem he
   have := (hsp i (by omega)).2.2
   rw [erAt_get hi] at this; exact this
  refine ⟨_, _, _, es, hcl, ⟨hsl, by omega, fun e he => (hmem e he).1, fun hn => ?_⟩, ⟨hl, fun h => by cases h⟩, hlen0, fun e he => (hmem e he).2⟩
  obtain ⟨b, off, spot⟩ := a
  have h0 := (hsp 0 hn).1
  have hspot : spot = none := by simpa [Addr.add] using World.cell?_spot h0
  subst hspot
  have hbl := World.block_lt_of_cell? w _ h0
  refine ⟨b, off, rfl, by simpa [Addr.add_lit] using hbl, fun i hi => ?_⟩
  obtain ⟨h1, h2, _, _⟩ := hsp i hi
  exact ⟨by simpa [Addr.add_lit] using h1, by simpa [Addr.add_lit, Nat.add_assoc] using h2⟩
theorem exists_txs (n : Nat) (p : Nat → ByteArray → Prop) (h : ∀ i, i < n → ∃ x, p i x) : ∃ ss : List ByteArray, ss.length = n ∧ ∀ i, i < n → p i (nsAt ss i) := by
 induction n with
 | zero => exact ⟨[], rfl, fun i hi => by omega⟩
 | succ n ih =>
  obtain ⟨xs, hl, hp⟩ := ih fun i hi => h i (by omega)
  obtain ⟨x, hx⟩ := h n (by omega)
  refine ⟨xs ++ [x], by simp [hl], fun i hi => ?_⟩
  by_cases hin : i < n
  ·have : nsAt (xs ++ [x]) i = nsAt xs i := by simp [nsAt, List.getD, List.getElem?_append_left (show i < xs.length by omega)]
   rw [this]; exact hp i hin
  ·obtain rfl : i = n := by omega
   have : nsAt (xs ++ [x]) i = x := by subst hl; simp [nsAt, List.getD]
   rw [this]; exact hx
theorem texts_bulk {fuel : Nat} {cs : List Value} {x : DataW H × List MemPlace} (hf : DataW.trod enc Tryz.prog w 0 spare held fuel 23 cs = some x) (hw : Rows.uptoBulk x.1 ≤ 1048576) :
  ∃ a n cap ns, cs = [.slice a n cap] ∧ NRow w a n ns ∧ n ≤ 1048576 := by
 have hc : Tryz.prog.cellsOf 9 = 1 := by kernel_rfl
 rcases open_slice Tryz.underlying23 hf with ⟨hcs, _⟩ | ⟨a, len, cap, m, n, D, Pl, hcl, _, hl, hm, hmm, hxx, hx⟩
 ·exact ⟨none, 0, 0, [], hcs, ⟨rfl, by omega, fun s hs => absurd hs List.not_mem_nil, fun h => by omega⟩, by omega⟩
 ·have hle : len ≤ m := by rw [hmm]; split <;> omega
  rw [hxx] at hw
  simp only [Rows.uptoBulk] at hw
  have hwd : ∀ i, i < len → Rows.uptoBulk (D i) ≤ 1048576 := fun i hi => by
   have := bulk_mem (List.mem_map.2 ⟨i, List.mem_range.2 hi, rfl⟩ : D i ∈ (List.range len).map D)
   omega
  have hlen0 : len ≤ 1048576 := by
   have := bulk_len ((List.range len).map D)
   rw [List.length_map, List.length_range] at this; omega
  obtain ⟨ns, hsl, hsp⟩ := exists_txs len (fun i x => w.cell? (a.add i) = some (.string x) ∧ x.size ≤ 1048576) (fun i hi => by
   obtain ⟨cs, h1, h2⟩ := hx i (by omega)
   rw [hc, Nat.mul_one] at h1
   obtain ⟨_, hlen, hcell⟩ := World.cells?_some h1
   match cs, hlen with
   | [c0], _ =>
    obtain ⟨s, rfl, e0⟩ := cellm_string Tryz.underlying9 h2
    have hww := hwd i hi
    have hd : D i = _ := e0
    rw [hd] at hww
    simp only [Rows.uptoBulk, Array.length_toList] at hww
    refine ⟨s, ?_, by show s.data.size ≤ _; omega⟩
    have := hcell 0 (by simp); simpa [Deep.add_add] using this)
  refine ⟨_, _, _, ns, hcl, ⟨hsl, by omega, fun s hs => ?_, fun hn => ?_⟩, hlen0⟩
  ·obtain ⟨i, hi, rfl⟩ := List.getElem_of_mem hs
   have := (hsp i (by omega)).2
   rw [nsAt_get hi] at this
   unfold SmallT; omega
  ·obtain ⟨b, off, spot⟩ := a
   have h0 := (hsp 0 hn).1
   have hspot : spot = none := by simpa [Addr.add] using World.cell?_spot h0
   subst hspot
   have hbl := World.block_lt_of_cell? w _ h0
   refine ⟨b, off, rfl, by simpa [Addr.add_lit] using hbl, fun i hi => ?_⟩
   have := (hsp i hi).1
   simpa [Addr.add_lit] using this
theorem cellm_int {t : TypeId} {k : IntKind} {fuel : Nat} {v : Value} {x : DataW H × List MemPlace} (ht : Tryz.prog.underlying t = some (.int k)) (h : DataW.trod enc Tryz.prog w 0 spare held fuel t [v] = some x) : ∃ n, v = .int k n := by
 cases fuel with
 | zero => simp [DataW.trod] at h
 | succ m =>
  simp only [DataW.trod, ht] at h
  cases v with
  | int k' n =>
   by_cases hk : k' = k
   ·subst hk; exact ⟨n, rfl⟩
   ·simp [hk] at h
  | _ => simp at h
theorem match_bulk {fuel : Nat} {cs : List Value} {x : DataW H × List MemPlace} (hf : DataW.trod enc Tryz.prog w 0 spare held fuel 25 cs = some x) (hl : cs.length = 5) (hw : Rows.uptoBulk x.1 ≤ 1048576) :
  ∃ m : Mt, cs = [.bool m.given, .bool m.on, .slice m.la m.ln m.lc, .int .i64 m.card, .slice m.ia m.im m.ic] ∧ MtOk w m ∧ m.im ≤ 1048576 := by
 have hc1 : Tryz.prog.cellsOf 23 = 1 := by kernel_rfl
 have hc2 : Tryz.prog.cellsOf 4 = 1 := by kernel_rfl
 have hc3 : Tryz.prog.cellsOf 3 = 1 := by kernel_rfl
 obtain ⟨xs, n', _, hxx, hlen, hlen2, hfs⟩ := DataW.trod_struct Tryz.underlying25 hf
 match cs, hl, xs, hlen2 with
 | [c0, c1, c2, c3, c4], _, [x0, x1, x2, x3, x4], _ =>
  have g0 := hfs 0 _ rfl
  have g1 := hfs 1 _ rfl
  have g2 := hfs 2 _ rfl
  have g3 := hfs 3 _ rfl
  have g4 := hfs 4 _ rfl
  simp [hc1, hc2, hc3] at g0 g1 g2 g3 g4
  have hd : x.1 = .agg [x0.1, x1.1, x2.1, x3.1, x4.1] := congrArg Prod.fst hxx
  rw [hd] at hw
  simp only [Rows.uptoBulk, Rows.uptoBulkAll] at hw
  obtain ⟨given, rfl⟩ := cellm_bool Tryz.underlying4 g0
  obtain ⟨on, rfl⟩ := cellm_bool Tryz.underlying4 g1
  obtain ⟨la, ln, lc, ns, he, hr, _⟩ := texts_bulk g2 (by omega)
  simp at he
  subst he
  obtain ⟨card, rfl⟩ := cellm_int (k := .i64) Tryz.underlying3 g3
  obtain ⟨ia, im, ic, inc, he, hr2, hi⟩ := texts_bulk g4 (by omega)
  simp at he
  subst he
  exact ⟨⟨given, on, la, ln, lc, card, ia, im, ic, ns, inc⟩, rfl, ⟨hr, hr2⟩, hi⟩
theorem keyL_bulk (ns : List ByteArray) (wo : Bool) {ls : List Lb} (h : BulkL ls) : (keyL ns wo ls).length ≤ 140737480000000 := by
 have key : ∀ l : List Lb, (∀ x ∈ l, x.n.size ≤ 1048576 ∧ x.v.size ≤ 1048576) → (l.flatMap labT).length ≤ l.length * 2097252 := by
  intro l
  induction l with
  | nil => intro _; simp
  | cons x l ih =>
   intro hx
   have h1 := ih fun y hy => hx y (List.mem_cons_of_mem _ hy)
   have h2 := hx x (List.mem_cons_self ..)
   have h3 : (labT x).length ≤ 2097252 := by
    unfold labT
    rw [labT_len, numT_len, numT_len]
    have e1 := Lib.itoa_length_le (x.n.size : Int) (by omega) (by omega)
    have e2 := Lib.itoa_length_le (x.v.size : Int) (by omega) (by omega)
    omega
   rw [List.flatMap_cons, List.length_append, List.length_cons]; omega
 unfold keyL
 have h1 := key (ls.filter fun l => stayB ns wo l.n) (fun x hx => h.2 x (List.mem_filter.1 hx).1)
 have h2 := List.length_filter_le (fun l => stayB ns wo l.n) ls
 have h3 := h.1
 omega
theorem fit_bulk {on : Bool} {ns : List ByteArray} {im : Nat} {es : List Er} (h : ∀ e ∈ es, W64 e.f ∧ BulkL e.ls) (hi : im ≤ 1048576) : FitK on ns im (es.map Er.key) := fun k hk => by
 obtain ⟨e, he, rfl⟩ := List.mem_map.1 hk
 obtain ⟨h1, h2⟩ := h e he
 exact ⟨h1, keyL_bulk _ _ h2, by have := h2.1; show e.ls.length + im ≤ _; omega⟩
theorem open_both {v : Value} {r : Reach} {b0 : Nat} {d : DataW H} {ps : List MemPlace} (hval : Value.okWide Tryz.prog w r b0 27 v) (hd : DataW.Trod enc Tryz.prog w 0 spare held 27 v d ps) (hw : Rows.uptoBulk d ≤ 1048576) :
  ∃ s a na ca la b nb cb lb m yes, v = bothV s (.slice a na ca) (.slice b nb cb) m yes ∧ ERow w a na la ∧ SlK a na ca ∧ ERow w b nb lb ∧ SlK b nb cb ∧ MtOk w m ∧ FitK m.on m.ns m.im (la.map Er.key) ∧ FitK m.on m.ns m.im (lb.map Er.key) ∧ na + nb ≤ 4398046511000 ∧ (m.im : Int) ≤ 9223372036854775807 := by
 obtain ⟨cs, rfl, hsz⟩ := okWide_struct Tryz.underlying27 hval
 obtain ⟨fuel, hf⟩ := hd
 have hc1 : Tryz.prog.cellsOf 22 = 1 := by kernel_rfl
 have hc2 : Tryz.prog.cellsOf 25 = 5 := by kernel_rfl
 have hc3 : Tryz.prog.cellsOf 4 = 1 := by kernel_rfl
 have hc4 : Tryz.prog.cellsOf 9 = 1 := by kernel_rfl
 have hcw : Tryz.prog.cellsOf 27 = 9 := by kernel_rfl
 obtain ⟨xs, n', _, hxx, hlen, hlen2, hfs⟩ := DataW.trod_struct Tryz.underlying27 hf
 rw [hcw] at hlen
 obtain ⟨l⟩ := cs
 simp [Value.cells] at hlen hfs
 match l, hlen, xs, hlen2 with
 | [c0, c1, c2, c3, c4, c5, c6, c7, c8], _, [x0, x1, x2, x3, x4], _ =>
  have g0 := hfs 0 _ rfl
  have g1 := hfs 1 _ rfl
  have g2 := hfs 2 _ rfl
  have g3 := hfs 3 _ rfl
  have g4 := hfs 4 _ rfl
  simp [hc1, hc2, hc3, hc4] at g0 g1 g2 g3 g4
  have hdx : d = .agg [x0.1, x1.1, x2.1, x3.1, x4.1] := congrArg Prod.fst hxx
  rw [hdx] at hw
  simp only [Rows.uptoBulk, Rows.uptoBulkAll] at hw
  obtain ⟨s, rfl, _⟩ := cellm_string Tryz.underlying9 g0
  obtain ⟨a, na, ca, la, he, hr, hk, hna, h64⟩ := elems_bulk g1 (by omega)
  simp at he
  subst he
  obtain ⟨b, nb, cb, lb, he, hr2, hk2, hnb, h642⟩ := elems_bulk g2 (by omega)
  simp at he
  subst he
  obtain ⟨m, he, hm, hi⟩ := match_bulk g3 rfl (by omega)
  simp at he
  obtain ⟨rfl, rfl, rfl, rfl, rfl⟩ := he
  obtain ⟨yes, rfl⟩ := cellm_bool Tryz.underlying4 g4
  exact ⟨s, a, na, ca, la, b, nb, cb, lb, m, yes, rfl, hr, hk, hr2, hk2, hm, fit_bulk h64 hi, fit_bulk h642 hi, by omega, by omega⟩
end
end Go.Proofs.YtmmfjknnbkcniaaGreatDoor
