/- PairKeeps: the law. (Printed by tools/genkeeps21.py.) -/
import Derived.Test.YtmmfjknnbkcniaaGreatDoorCKeepsL
import Derived.Deep.Cut
namespace Go.Proofs.YtmmfjknnbkcniaaGreatDoor
open Go.Fl Go.Rel Go.RowKit Go.Sort
set_option linter.unusedSimpArgs false
set_option linter.unusedVariables false

def spL (t : ByteArray) : List Lb := [⟨MN, ⟨#[115, 112, 97, 114, 101]⟩⟩, ⟨nmA, t⟩]
theorem spare_any (t : ByteArray) (v : Nat) (w : World) (ht : SmallT t) : Calls Tryz.prog 12 #[.string ⟨#[115, 112, 97, 114, 101]⟩, .string t, .float .f64 v] w (fun e w' => ∃ a c, e = .returned (.agg #[.slice a 2 c, .float .f64 v]) ∧ ErOwn w.heap.size w' ⟨a, 2, c, v, spL t⟩ ∧ Below w.heap.size w w') :=
  elem_some ⟨#[115, 112, 97, 114, 101]⟩ t v w (by unfold SmallT; decide) ht (by rw [ByteArray.toList_eq]; rfl)
theorem keepC2 {w w' : World} {q0 q1 : Addr} {v0 v1 : Value} (h : w.cell? q0 = some v0 ∧ w.cell? q1 = some v1) (hb : Below w.heap.size w w') : w'.cell? q0 = some v0 ∧ w'.cell? q1 = some v1 := ⟨cell_stayL h.1 hb, cell_stayL h.2 hb⟩
theorem box2 {W0 W : World} {q0 q1 q2 q3 q4 q5 q6 q7 q8 : Addr} {v0 v1 v2 v3 v4 v5 v6 v7 v8 : Value} (h : W0.cell? q0 = some v0 ∧ W0.cell? q1 = some v1 ∧ W0.cell? q2 = some v2 ∧ W0.cell? q3 = some v3 ∧ W0.cell? q4 = some v4 ∧ W0.cell? q5 = some v5 ∧ W0.cell? q6 = some v6 ∧ W0.cell? q7 = some v7 ∧ W0.cell? q8 = some v8) (hb : Below W0.heap.size W0 W) : W.cell? q1 = some v1 ∧ W.cell? q2 = some v2 := ⟨cell_stayL h.2.1 hb, cell_stayL h.2.2.1 hb⟩
theorem small_key {es O : List Er} (h : O.map Er.key = es.map Er.key) (hs : ∀ e ∈ es, e.ls.length ≤ 4398046511000) : ∀ e ∈ O, e.ls.length ≤ 4398046511000 := fun e he => by
  have h1 : e.key ∈ es.map Er.key := by rw [← h]; exact List.mem_map_of_mem he
  obtain ⟨y, hy, hye⟩ := List.mem_map.1 h1
  have h2 : y.ls = e.ls := congrArg Prod.fst hye
  rw [← h2]; exact hs y hy
theorem new_cell0 (w : World) (v0 v1 : Value) (t : TypeId) : (w.alloc (.cells #[v0, v1] t)).cell? ⟨w.heap.size, 0, none⟩ = some v0 := by rw [World.cell?_alloc_at _ _ _ _ (by rfl)]; rfl
theorem new_cell1 (w : World) (v0 v1 : Value) (t : TypeId) : (w.alloc (.cells #[v0, v1] t)).cell? ⟨w.heap.size, 1, none⟩ = some v1 := by rw [World.cell?_alloc_at _ _ _ _ (by rfl)]; rfl
theorem same_ok {x z : Option Addr} {n cx cz : Nat} {es fs : List Er} {w : World} (hx : ERow w x n es) (hz : ERow w z n fs) (h : es.map (fun x => clK x.key) = fs.map (fun x => clK x.key)) :
    Calls Tryz.prog 16 #[.slice x n cx, .slice z n cz] w fun e w' => e = .returned (.bool true) ∧ Below w.heap.size w w' :=
  (same_yes x z n cx cz es fs w hx hz h).mono fun e w' ⟨h1, m, h2⟩ => ⟨h1, by rw [h2]; exact (Below.refl _ _).drewN' m⟩
theorem cl_key {es fs : List Er} (h : es.map Er.key = fs.map Er.key) : es.map (fun x => clK x.key) = fs.map (fun x => clK x.key) := by
  have e : ∀ l : List Er, l.map (fun x => clK x.key) = (l.map Er.key).map clK := fun l => by rw [List.map_map]; rfl
  rw [e, e, h]
def OnRel (n : Nat) (w : World) (v : Value) (wr : World) : Prop := ∃ i : Nat, v = .int .i64 (i : Int) ∧ i ≤ n ∧ Below w.heap.size w wr
/-- A cell below what is written. -/
theorem cell_mid {lo hi : Nat} {w w' : World} {q : Addr} {v : Value} (h : w.cell? q = some v) (hm : Mid lo hi w w') (hq : q.block < lo) : w'.cell? q = some v := (cell_block (hm.1.block _ hq)).trans h

set_option maxHeartbeats 32000000 in
set_option maxRecDepth 100000 in
theorem law_keeps (u : ByteArray) (a b : Option Addr) (na ca nb cb : Nat) (la lb : List Er) (m : Mt) (yes : Bool) (w : World) (ha : ERow w a na la) (hsa : SlK a na ca) (hb : ERow w b nb lb) (hsb : SlK b nb cb) (hM : MtOk w m) (hml : m.la = none → m.lc = 0) (hmn : m.ln ≤ 4398046511104)
    (hfa : FitK m.on m.ns m.im (la.map Er.key)) (hfb : FitK m.on m.ns m.im (lb.map Er.key)) (hn : na + nb ≤ 4398046511000) (hi : (m.im : Int) ≤ 9223372036854775807) (hT : Tab w.heap.size w) :
    Calls Tryz.prog 3 #[bothV u (.slice a na ca) (.slice b nb cb) m yes] w fun e w' => e = .returned (.bool true) ∧ Below w.heap.size w w' := by
  have hA64 : ∀ k ∈ la.map Er.key, W64 k.2 := fun k hk => (hfa k hk).1
  have hB64 : ∀ k ∈ lb.map Er.key, W64 k.2 := fun k hk => (hfb k hk).1
  have hAL : ∀ k ∈ la.map Er.key, k.1.length + m.im ≤ 4398046511000 := fun k hk => (hfa k hk).2.2
  have hBL : ∀ k ∈ lb.map Er.key, k.1.length + m.im ≤ 4398046511000 := fun k hk => (hfb k hk).2.2
  have hal : ∀ e ∈ la, e.ls.length ≤ 4398046511000 := fun e he => by have := hAL e.key (List.mem_map_of_mem he); unfold Er.key at this; dsimp only at this; omega
  have hbl : ∀ e ∈ lb, e.ls.length ≤ 4398046511000 := fun e he => by have := hBL e.key (List.mem_map_of_mem he); unfold Er.key at this; dsimp only at this; omega
  have n1 : na ≤ 4398046511000 := by omega
  have n2 : nb ≤ 4398046511000 := by omega
  have n3 : (na : Int) ≤ 4398046511104 := by omega
  have n4 : (nb : Int) ≤ 4398046511104 := by omega
  obtain ⟨given, on, ma, mn, mc, card, ia, im, ic, ns, inc⟩ := m
  dsimp only [Mt.v, bothV] at hml hmn hAL hBL hfa hfb hi ⊢
  obtain ⟨W0, hW0⟩ : ∃ W0, W0 = w.alloc (.cells #[.string u, .slice a na ca, .slice b nb cb, .bool given, .bool on, .slice ma mn mc, .int .i64 card, .slice ia im ic, .bool yes] 27) := ⟨_, rfl⟩
  have hB0 : Below w.heap.size w W0 := by rw [hW0]; exact (Below.refl _ _).alloc (Nat.le_refl _) _
  have HX0 : Hid (W0.cell? ⟨w.heap.size, 0, none⟩ = some (.string u) ∧ W0.cell? ⟨w.heap.size, 1, none⟩ = some (.slice a na ca) ∧ W0.cell? ⟨w.heap.size, 2, none⟩ = some (.slice b nb cb) ∧ W0.cell? ⟨w.heap.size, 3, none⟩ = some (.bool given) ∧ W0.cell? ⟨w.heap.size, 4, none⟩ = some (.bool on) ∧ W0.cell? ⟨w.heap.size, 5, none⟩ = some (.slice ma mn mc) ∧ W0.cell? ⟨w.heap.size, 6, none⟩ = some (.int .i64 card) ∧ W0.cell? ⟨w.heap.size, 7, none⟩ = some (.slice ia im ic) ∧ W0.cell? ⟨w.heap.size, 8, none⟩ = some (.bool yes)) := Lib.hid (by
    have hi0 : Bk.Is W0 w.heap.size #[.string u, .slice a na ca, .slice b nb cb, .bool given, .bool on, .slice ma mn mc, .int .i64 card, .slice ia im ic, .bool yes] 27 := by rw [hW0]; exact Bk.Is.made w _ _
    have q0 := hi0.cell 0
    have q1 := hi0.cell 1
    have q2 := hi0.cell 2
    have q3 := hi0.cell 3
    have q4 := hi0.cell 4
    have q5 := hi0.cell 5
    have q6 := hi0.cell 6
    have q7 := hi0.cell 7
    have q8 := hi0.cell 8
    simp at q0 q1 q2 q3 q4 q5 q6 q7 q8
    exact ⟨q0, q1, q2, q3, q4, q5, q6, q7, q8⟩)
  have HSZ : Hid (w.heap.size < W0.heap.size) := Lib.hid (World.block_lt_of_cell? _ _ HX0.out.1)
  have hW : ∀ {W}, Below W0.heap.size W0 W → Below w.heap.size w W := fun h => hB0.trans (h.mono hB0.size)
  have HW0 := Lib.hid hW0
  have HWW : Hid (∀ W, Below W0.heap.size W0 W → Below w.heap.size w W) := Lib.hid fun W h => hW h
  -- the calls
  have HAW : Hid (∀ W, Below W0.heap.size W0 W → Calls Tryz.prog 9 #[] W fun e w' => e = .returned (.bool true) ∧ Below W.heap.size W w') := Lib.hid fun W h => awake_any W (fun w' h2 => hT w' ((hW h).trans (h2.mono (hW h).size)))
  have HGR : Hid (∀ W, Calls Tryz.prog 10 #[.slice a na ca, .slice b nb cb, .agg #[.bool given, .bool on, .slice ma mn mc, .int .i64 card, .slice ia im ic]] W fun e w' => (∃ d, e = .returned (.bool d)) ∧ Below W.heap.size W w') := Lib.hid fun W => great_any a b na ca nb cb ⟨given, on, ma, mn, mc, card, ia, im, ic, ns, inc⟩ W hi hn
  obtain ⟨ka, hka⟩ : ∃ ka, ka = la.map Er.key := ⟨_, rfl⟩
  obtain ⟨kb, hkb⟩ : ∃ kb, kb = lb.map Er.key := ⟨_, rfl⟩
  rw [← hka] at hfa hA64 hAL
  rw [← hkb] at hfb hB64 hBL
  obtain ⟨E, hE⟩ : ∃ E, E = vecsE u.toList on ns inc card yes ka kb := ⟨_, rfl⟩
  obtain ⟨V, hV⟩ : ∃ V, V = vecsV u.toList on ns inc card yes ka kb := ⟨_, rfl⟩
  obtain ⟨nv, hnv⟩ : ∃ nv, nv = V.length := ⟨_, rfl⟩
  obtain ⟨EN, hEN⟩ : ∃ EN, EN = negE ka := ⟨_, rfl⟩
  obtain ⟨VN, hVN⟩ : ∃ VN, VN = negV ka := ⟨_, rfl⟩
  obtain ⟨nn, hnn⟩ : ∃ nn, nn = VN.length := ⟨_, rfl⟩
  obtain ⟨EX, hEX⟩ : ∃ EX, EX = mixE (opK u.toList) 4611686018427387904 false yes kb := ⟨_, rfl⟩
  obtain ⟨VX, hVX⟩ : ∃ VX, VX = mixV (opK u.toList) 4611686018427387904 false yes kb := ⟨_, rfl⟩
  obtain ⟨nx, hnx⟩ : ∃ nx, nx = VX.length := ⟨_, rfl⟩
  have hinc : inc.length = im := hM.2.1
  have HVC : Hid (∀ W x cx (O : List Er) z cz (Q : List Er) ga gc, Below W0.heap.size W0 W → ERow W x na O → O.map Er.key = ka → ERow W z nb Q → Q.map Er.key = kb → MtOk W ⟨given, on, ga, mn, gc, card, ia, im, ic, ns, inc⟩ → Calls Tryz.prog 13 #[.string u, .slice x na cx, .slice z nb cz, .agg #[.bool given, .bool on, .slice ga mn gc, .int .i64 card, .slice ia im ic], .bool yes] W (AnsH E nv V W)) := Lib.hid fun W x cx O z cz Q ga gc h ho hk hq hk2 hm => by
    have h1 := vectors_any u x z na cx nb cz O Q ⟨given, on, ga, mn, gc, card, ia, im, ic, ns, inc⟩ yes W ho hq hm (by rw [hk]; exact hfa) (by rw [hk2]; exact hfb) (fun w' h2 => hT w' ((hW h).trans (h2.mono (hW h).size))) hn
    dsimp only [Mt.v] at h1
    rw [hk, hk2, ← hE, ← hV] at h1
    rw [hnv]
    exact h1.mono fun e w' h => h.held (by rw [hV]; exact vecs_len (by rw [hinc]; exact hAL) (by rw [hinc]; exact hBL))
  have HNC : Hid (∀ W x cx (O : List Er), ERow W x na O → O.map Er.key = ka → Calls Tryz.prog 14 #[.slice x na cx] W (AnsH EN nn VN W)) := Lib.hid fun W x cx O ho hk => by
    have h1 := negateO_any x na cx O W ho
    rw [hk, ← hEN, ← hVN] at h1
    rw [hnn]
    exact h1.mono fun e w' h => h.held (by rw [hVN]; exact neg_len fun k hk => by have := hAL k hk; omega)
  have HXC : Hid (∀ W z cz (Q : List Er), ERow W z nb Q → Q.map Er.key = kb → Calls Tryz.prog 15 #[.string u, .slice z nb cz, .float .f64 4611686018427387904, .bool false, .bool yes] W (AnsH EX nx VX W)) := Lib.hid fun W z cz Q hq hk => by
    have h1 := mixedO_any u z nb cz 4611686018427387904 Q false yes W hq (by unfold W64; decide +kernel) (fun e he => by have := hB64 e.key (by rw [← hk]; exact List.mem_map_of_mem he); exact this)
    rw [hk, ← hEX, ← hVX] at h1
    rw [hnx]
    exact h1.mono fun e w' h => h.held (by rw [hVX]; exact mix_len fun k hk => by have := hBL k hk; omega)
  have HCA : Hid (∀ W, Below W0.heap.size W0 W → Calls Tryz.prog 11 #[.slice a na ca] W (CopyAp la W)) := Lib.hid fun W h => copiedA_any a na ca la W (ha.below (hW h))
  have HCB : Hid (∀ W, Below W0.heap.size W0 W → Calls Tryz.prog 11 #[.slice b nb cb] W (CopyAp lb W)) := Lib.hid fun W h => copiedA_any b nb cb lb W (hb.below (hW h))
  have HCL : Hid (∀ W, Below W0.heap.size W0 W → Calls Tryz.prog 11 #[.slice a na ca] W (CopyH na ka W)) := Lib.hid fun W h => by rw [hka]; exact copyH_any a na ca la W (ha.below (hW h)) hal
  have HCR : Hid (∀ W, Below W0.heap.size W0 W → Calls Tryz.prog 11 #[.slice b nb cb] W (CopyH nb kb W)) := Lib.hid fun W h => by rw [hkb]; exact copyH_any b nb cb lb W (hb.below (hW h)) hbl
  have HCH : Hid (∀ (n lo hi : Nat) W x cx (O : List Er), Hd n lo hi W x O → Calls Tryz.prog 11 #[.slice x n cx] W (CopyH n (O.map Er.key) W)) := Lib.hid fun n lo hi W x cx O h => copyH_any x n cx O W h.row h.2.2.2
  have HLA : Hid (∀ W, Below W0.heap.size W0 W → ERow W a na la) := Lib.hid fun W h => ha.below (hW h)
  have HLB : Hid (∀ W, Below W0.heap.size W0 W → ERow W b nb lb) := Lib.hid fun W h => hb.below (hW h)
  have HMT : Hid (∀ W, Below W0.heap.size W0 W → MtOk W ⟨given, on, ma, mn, mc, card, ia, im, ic, ns, inc⟩) := Lib.hid fun W h => hM.below (hW h)
  have HKA := Lib.hid hka
  have HKB := Lib.hid hkb
  have HAL := Lib.hid hal
  have HBL := Lib.hid hbl
  have HML := Lib.hid hml
  have HMN := Lib.hid hmn
  have hla := ha.1
  have hlb := hb.1
  have HLA2 := Lib.hid hla
  have HLB2 := Lib.hid hlb
  clear ha hsa hb hsb hM hfa hfb hn hi hT hA64 hB64 hAL hBL hal hbl hka hkb hE hV hnv hEN hVN hnn hEX hVX hnx hinc hml hmn hB0 hW hW0 hla hlb
  have HE1 : Hid (∀ W, _) := Lib.hid fun W => spare_any ⟨#[49]⟩ 4607182418800017408 W (by unfold SmallT; decide)
  have HE2 : Hid (∀ W, _) := Lib.hid fun W => spare_any ⟨#[50]⟩ 4611686018427387904 W (by unfold SmallT; decide)
  go_enter Tryz.func3, Tryz.ntmps3
  go_upto_region 1 with fail
  rw [← HW0.out]
  go_wp2_with fail
  refine (HAW.out _ (Below.refl _ _)).mono ?_
  rintro e w1 ⟨rfl, b1⟩
  have K1 := Lib.hid b1
  have X1 := Lib.hid (keep9 HX0.out b1)
  clear b1
  obtain ⟨x0, x1, x2, x3, x4, x5, x6, x7, x8⟩ := X1.out
  go_wp2_with fail
  refine (HGR.out _).mono ?_
  rintro e w2 ⟨⟨d, rfl⟩, b2⟩
  have K2 := Lib.hid (K1.out.trans (b2.mono K1.out.size))
  have X2 := Lib.hid (keep9 X1.out b2)
  clear b2 K1 X1 x0 x1 x2 x3 x4 x5 x6 x7 x8
  obtain ⟨x0, x1, x2, x3, x4, x5, x6, x7, x8⟩ := X2.out
  cases d
  · go_wp2_with fail
    have KD : Hid (Below W0.heap.size W0 w2.drew) := Lib.hid (K2.out.drewN' 1)
    have HWZ : Hid (W0.heap.size ≤ w2.drew.heap.size) := Lib.hid KD.out.size
    have s0 : w2.drew.cell? ⟨w.heap.size, 1, none⟩ = some (.slice a na ca) ∧ w2.drew.cell? ⟨w.heap.size, 2, none⟩ = some (.slice b nb cb) := ⟨x1, x2⟩
    clear x0 x1 x2 x3 x4 x5 x6 x7 x8 X2
    go_region_held3 (fun w' => w'.cell? ⟨w.heap.size, 1, none⟩ = some (.slice a na ca) ∧ w'.cell? ⟨w.heap.size, 2, none⟩ = some (.slice b nb cb)) (first | assumption | exact ⟨cell_oldL s2.1 _, cell_oldL s2.2 _⟩ | exact ⟨cell_oldL s5.1 _, cell_oldL s5.2 _⟩) (first
      | (go_at_call 11; (with_reducible refine (HCA.out _ KD.out).mono ?_); rintro e y1 ⟨v1, O1, rfl, ow1, ok1, ky1, ap1, b1⟩; have L1 := Lib.hid (KD.out.trans (b1.mono KD.out.size)); have s1 := box2 HX0.out L1.out)
      | (go_at_call 12; (with_reducible refine (HE1.out y1).mono ?_); rintro e y2 ⟨a2, c2, rfl, o2, b2⟩; have L2 := Lib.hid (L1.out.trans (b2.mono L1.out.size)); have s2 := box2 HX0.out L2.out)
      | (refine step_append_er rfl (.tmp 31) (.tmp 33) rfl w2.drew.heap.size v1 O1 rfl ((ow1.below b2).alloc _) y2.heap.size _ ⟨a2, 2, c2, 4607182418800017408, spL ⟨#[49]⟩⟩ rfl (new_cell0 y2 _ _ _) (new_cell1 y2 _ _ _) (by have e1 := congrArg List.length ky1; rw [List.length_map, List.length_map, HLA2.out] at e1; omega) (Nat.le_trans b1.size (Nat.le_trans b2.size (by simp))) ?_
         intro g3 cap3 y3 own3 gb3
         have hlen1 : O1.length = na := by have e1 := congrArg List.length ky1; rw [List.length_map, List.length_map, HLA2.out] at e1; exact e1
         rw [hlen1] at own3 ⊢
         have bo1 : Below w2.drew.heap.size w2.drew y3 := ((b1.trans (b2.mono b1.size)).alloc (by exact Nat.le_trans b1.size b2.size) _).grown gb3 (by simp; exact Nat.le_succ_of_le (Nat.le_trans b1.size b2.size)) (fun x hx => (ow1.lt x hx).1)
         have L3 := Lib.hid (KD.out.trans (bo1.mono KD.out.size))
         have hd1 := spare_held (n := na) (by rw [hlen1]; exact own3) (fun e he => (((ok1 e he).below b2).below ((Below.refl _ _).alloc (Nat.le_refl _) _)).grown ((ow1.below b2).alloc _) gb3) ap1 hlen1 (by omega) (small_key ky1 HAL.out)
         have HH1 := Lib.hid hd1
         have s3 := box2 HX0.out L3.out
         have hsl1 := slice_hiK g3 0 (na + 1) cap3 na (na : Int) rfl (by have := hd1.2.2.1; omega)
         have BO1 := Lib.hid bo1
         clear own3 gb3 o2 b2 b1 bo1 ow1 ok1 hd1)
      | (go_at_call 11; (with_reducible refine (HCB.out _ L3.out).mono ?_); rintro e y4 ⟨v4, O4, rfl, ow4, ok4, ky4, ap4, b4⟩; have L4 := Lib.hid (L3.out.trans (b4.mono L3.out.size)); have s4 := box2 HX0.out L4.out)
      | (go_at_call 12; (with_reducible refine (HE2.out y4).mono ?_); rintro e y5 ⟨a5, c5, rfl, o5, b5⟩; have L5 := Lib.hid (L4.out.trans (b5.mono L4.out.size)); have s5 := box2 HX0.out L5.out)
      | (refine step_append_er rfl (.tmp 41) (.tmp 43) rfl y3.heap.size v4 O4 rfl ((ow4.below b5).alloc _) y5.heap.size _ ⟨a5, 2, c5, 4611686018427387904, spL ⟨#[50]⟩⟩ rfl (new_cell0 y5 _ _ _) (new_cell1 y5 _ _ _) (by have e1 := congrArg List.length ky4; rw [List.length_map, List.length_map, HLB2.out] at e1; omega) (Nat.le_trans b4.size (Nat.le_trans b5.size (by simp))) ?_
         intro g6 cap6 y6 own6 gb6
         have hlen4 : O4.length = nb := by have e1 := congrArg List.length ky4; rw [List.length_map, List.length_map, HLB2.out] at e1; exact e1
         rw [hlen4] at own6 ⊢
         have bo4 : Below y3.heap.size y3 y6 := ((b4.trans (b5.mono b4.size)).alloc (by exact Nat.le_trans b4.size b5.size) _).grown gb6 (by simp; exact Nat.le_succ_of_le (Nat.le_trans b4.size b5.size)) (fun x hx => (ow4.lt x hx).1)
         have L6 := Lib.hid (L3.out.trans (bo4.mono L3.out.size))
         have hd4 := spare_held (n := nb) (by rw [hlen4]; exact own6) (fun e he => (((ok4 e he).below b5).below ((Below.refl _ _).alloc (Nat.le_refl _) _)).grown ((ow4.below b5).alloc _) gb6) ap4 hlen4 (by omega) (small_key ky4 HBL.out)
         have HH4 := Lib.hid hd4
         have s6 := box2 HX0.out L6.out
         have hsl4 := slice_hiK g6 0 (nb + 1) cap6 nb (nb : Int) rfl (by have := hd4.2.2.1; omega)
         have BO4 := Lib.hid bo4
         clear own6 gb6 o5 b5 b4 bo4 ow4 ok4 hd4))
    rename_i hHeld
    clear hHeld s0 s1 s2 s3 s4 s5 s6 L1 L2 L4 L5 hsl1 hsl4 KD K2 HCA HCB HE1 HE2 L3
    have HL := Lib.hid (HH1.out.1.below BO4.out)
    have HLS := Lib.hid (cell_stayL HH1.out.2.1 BO4.out)
    have HR := Lib.hid HH4.out.1
    have HRS := Lib.hid HH4.out.2.1
    have HLC := Lib.hid HH1.out.2.2.1
    have HRC := Lib.hid HH4.out.2.2.1
    have HKL : Hid (O1.map Er.key = ka) := Lib.hid (ky1.trans HKA.out.symm)
    have HKR : Hid (O4.map Er.key = kb) := Lib.hid (ky4.trans HKB.out.symm)
    have HZ3 : Hid (W0.heap.size ≤ w2.drew.heap.size ∧ w2.drew.heap.size ≤ y3.heap.size ∧ y3.heap.size ≤ y6.heap.size) := Lib.hid ⟨by have := HWZ.out; exact this, BO1.out.size, BO4.out.size⟩
    obtain ⟨z0, hz0⟩ : ∃ z0, z0 = w2.drew.heap.size := ⟨_, rfl⟩
    obtain ⟨z1, hz1⟩ : ∃ z1, z1 = y3.heap.size := ⟨_, rfl⟩
    obtain ⟨z2, hz2⟩ : ∃ z2, z2 = y6.heap.size := ⟨_, rfl⟩
    rw [← hz0, ← hz1] at HL HZ3
    rw [← hz1, ← hz2] at HR
    rw [← hz2] at HZ3
    have HZ2 := Lib.hid hz2
    have K6 := L6
    clear hz0 hz1 hz2 HH1 HH4 BO1 BO4 L6 ap1 ap4 ky1 ky4 hlen1 hlen4
    obtain ⟨x0, x1, x2, x3, x4, x5, x6, x7, x8⟩ := keep9 HX0.out K6.out
    have x5 : (y6.alloc (.cells #[] 9)).cell? ⟨w.heap.size, 5, none⟩ = some (.slice ma mn mc) := cell_oldL x5 _
    go_upto_region 7 with (at_builtin; refine wpList_append_names rfl (.tmp 49) (.tmp 52) rfl y6.heap.size y6.heap.size 0 rfl (World.ownsRow_made y6 #[] 0 (Nat.le_refl _) (by decide) rfl) ma mn mc ns ((HMT.out _ K6.out).1.below ((Below.refl _ _).alloc (Nat.le_refl _) _)) rfl HML.out HMN.out (by simp) ?_; intro g7 c7 y7 hN7 hB7 hg7 hlt7; have HON := Lib.hid hN7; have G7 : Hid (Below y6.heap.size y6 y7) := Lib.hid (((Below.refl _ _).alloc (Nat.le_refl _) _).trans hB7); clear hN7 hB7 hg7 hlt7)
    have HL := Lib.hid (HL.out.below G7.out)
    have HLS := Lib.hid (cell_stayL HLS.out G7.out)
    have HR := Lib.hid (HR.out.below G7.out)
    have HRS := Lib.hid (cell_stayL HRS.out G7.out)
    have K7 := Lib.hid (K6.out.trans (G7.out.mono K6.out.size))
    have HS7 := Lib.hid G7.out.size
    clear G7 K6 x0 x1 x2 x3 x4 x5 x6 x7 x8
    obtain ⟨x0, x1, x2, x3, x4, x5, x6, x7, x8⟩ := keep9 HX0.out K7.out
    go_upto_region 8 with (refine Bk.is_store 25 rfl ?_; refine Bk.wpList_store_box (w0 := y7) (N := 0) rfl 25 _ _ rfl #[.bool given, .bool on, .slice ma mn mc, .int .i64 card, .slice ia im ic] #[.bool false, .bool false, .slice none 0 0, .int .i64 0, .slice none 0 0] 25 rfl rfl (by kernel_rfl) rfl (by kernel_rfl) ?_; intro y8 hI hB; have HJ8 := Lib.hid hI; have G8 := Lib.hid hB; clear hI hB)
    clear x0 x1 x2 x3 x4 x5 x6 x7 x8
    have pf := HJ8.out.free 2
    have p2 := HJ8.out.cell 2
    simp at p2
    go_upto_region 9 with fail
    clear pf p2
    have HJ9 : Hid (Bk.Is (y8.setCell ⟨y7.heap.size, 2, none⟩ (.slice (some ⟨g7, 0, none⟩) mn c7)) y7.heap.size #[.bool given, .bool on, .slice (some ⟨g7, 0, none⟩) mn c7, .int .i64 card, .slice ia im ic] 25) := Lib.hid (HJ8.out.set 2 _)
    have G9 : Hid (Below y7.heap.size y7 (y8.setCell ⟨y7.heap.size, 2, none⟩ (.slice (some ⟨g7, 0, none⟩) mn c7))) := Lib.hid (G8.out.setCell (p := ⟨y7.heap.size, 2, none⟩) (Nat.le_refl _) _)
    clear HJ8 G8
    generalize y8.setCell ⟨y7.heap.size, 2, none⟩ (.slice (some ⟨g7, 0, none⟩) mn c7) = y9 at *
    have HL := Lib.hid (HL.out.below G9.out)
    have HLS := Lib.hid (cell_stayL HLS.out G9.out)
    have HR := Lib.hid (HR.out.below G9.out)
    have HRS := Lib.hid (cell_stayL HRS.out G9.out)
    have HON := Lib.hid (HON.out.below G9.out)
    have K9 := Lib.hid (K7.out.trans (G9.out.mono K7.out.size))
    have HZ9 : Hid (z2 ≤ y9.heap.size) := Lib.hid (by rw [HZ2.out]; exact Nat.le_trans HS7.out G9.out.size)
    obtain ⟨B, hB⟩ : ∃ B, B = y7.heap.size := ⟨_, rfl⟩
    rw [← hB] at HJ9 ⊢
    clear G9 K7 HS7 hB HZ2
    obtain ⟨x0, x1, x2, x3, x4, x5, x6, x7, x8⟩ := keep9 HX0.out K9.out
    have p0 := HJ9.out.cell 0
    have p1 := HJ9.out.cell 1
    have p2 := HJ9.out.cell 2
    have p3 := HJ9.out.cell 3
    have p4 := HJ9.out.cell 4
    simp at p0 p1 p2 p3 p4
    go_wp2_with fail
    have HMO : Hid (MtOk y9 ⟨given, on, some ⟨g7, 0, none⟩, mn, c7, card, ia, im, ic, ns, inc⟩) := Lib.hid ⟨HON.out, (HMT.out _ K9.out).2⟩
    refine (HVC.out y9 _ cap3 O1 _ cap6 O4 (some ⟨g7, 0, none⟩) c7 K9.out HL.out.row HKL.out HR.out.row HKR.out HMO.out).mono ?_
    rintro e y10 ⟨av, cv, ev, rfl, hv, kv, bv⟩
    have HHV := Lib.hid hv
    have HKV := Lib.hid kv
    have HB10 := Lib.hid bv
    clear hv kv x0 x1 x2 x3 x4 x5 x6 x7 x8 p0 p1 p2 p3 p4
    have HL := Lib.hid (HL.out.below bv)
    have HR := Lib.hid (HR.out.below bv)
    have HON := Lib.hid (HON.out.below bv)
    have HMO := Lib.hid (HMO.out.below bv)
    have HLS := Lib.hid (cell_stayL HLS.out bv)
    have HRS := Lib.hid (cell_stayL HRS.out bv)
    have K10 := Lib.hid (K9.out.trans (bv.mono K9.out.size))
    have HJ9 := Lib.hid (HJ9.out.below bv HJ9.out.lt)
    obtain ⟨z3, hz3⟩ : ∃ z3, z3 = y9.heap.size := ⟨_, rfl⟩
    obtain ⟨z4, hz4⟩ : ∃ z4, z4 = y10.heap.size := ⟨_, rfl⟩
    rw [← hz3, ← hz4] at HHV
    rw [← hz3] at HZ9
    have HZ4 : Hid (z3 ≤ z4) := Lib.hid (by rw [hz3, hz4]; exact bv.size)
    have HZE := Lib.hid hz4
    clear bv hz3 hz4 HB10 K9
    obtain ⟨x0, x1, x2, x3, x4, x5, x6, x7, x8⟩ := keep9 HX0.out K10.out
    have p0 := HJ9.out.cell 0
    have p1 := HJ9.out.cell 1
    have p2 := HJ9.out.cell 2
    have p3 := HJ9.out.cell 3
    have p4 := HJ9.out.cell 4
    simp at p0 p1 p2 p3 p4
    go_wp2_with fail
    refine (HVC.out y10 _ cap3 O1 _ cap6 O4 (some ⟨g7, 0, none⟩) c7 K10.out HL.out.row HKL.out HR.out.row HKR.out HMO.out).mono ?_
    rintro e y11 ⟨aw, cw, ew, rfl, hv, kv, bv⟩
    have HHW := Lib.hid hv
    have HKW := Lib.hid kv
    clear hv kv x0 x1 x2 x3 x4 x5 x6 x7 x8 p0 p1 p2 p3 p4 HMO HJ9
    have HL := Lib.hid (HL.out.below bv)
    have HR := Lib.hid (HR.out.below bv)
    have HON := Lib.hid (HON.out.below bv)
    have HHV := Lib.hid (HHV.out.below bv)
    have HLS := Lib.hid (cell_stayL HLS.out bv)
    have HRS := Lib.hid (cell_stayL HRS.out bv)
    have K11 := Lib.hid (K10.out.trans (bv.mono K10.out.size))
    obtain ⟨z5, hz5⟩ : ∃ z5, z5 = y11.heap.size := ⟨_, rfl⟩
    rw [← HZE.out, ← hz5] at HHW
    have HZ5 : Hid (z4 ≤ z5) := Lib.hid (by rw [HZE.out, hz5]; exact bv.size)
    have HZE := Lib.hid hz5
    clear bv hz5 K10
    go_wp2_with fail
    refine (HNC.out y11 _ cap3 O1 HL.out.row HKL.out).mono ?_
    rintro e y12 ⟨an, cn', en, rfl, hv, kv, bv⟩
    have HHN := Lib.hid hv
    clear hv kv
    have HL := Lib.hid (HL.out.below bv)
    have HR := Lib.hid (HR.out.below bv)
    have HON := Lib.hid (HON.out.below bv)
    have HHV := Lib.hid (HHV.out.below bv)
    have HHW := Lib.hid (HHW.out.below bv)
    have HLS := Lib.hid (cell_stayL HLS.out bv)
    have HRS := Lib.hid (cell_stayL HRS.out bv)
    have K12 := Lib.hid (K11.out.trans (bv.mono K11.out.size))
    obtain ⟨z6, hz6⟩ : ∃ z6, z6 = y12.heap.size := ⟨_, rfl⟩
    rw [← HZE.out, ← hz6] at HHN
    have HZ6 : Hid (z5 ≤ z6) := Lib.hid (by rw [HZE.out, hz6]; exact bv.size)
    have HZE := Lib.hid hz6
    clear bv hz6 K11
    obtain ⟨x0, x1, x2, x3, x4, x5, x6, x7, x8⟩ := keep9 HX0.out K12.out
    go_wp2_with fail
    refine (HXC.out y12 _ cap6 O4 HR.out.row HKR.out).mono ?_
    rintro e y13 ⟨ax, cx, ex, rfl, hv, kv, bv⟩
    have HHX := Lib.hid hv
    clear hv kv x0 x1 x2 x3 x4 x5 x6 x7 x8
    have HL := Lib.hid (HL.out.below bv)
    have HR := Lib.hid (HR.out.below bv)
    have HON := Lib.hid (HON.out.below bv)
    have HHV := Lib.hid (HHV.out.below bv)
    have HHW := Lib.hid (HHW.out.below bv)
    have HHN := Lib.hid (HHN.out.below bv)
    have HLS := Lib.hid (cell_stayL HLS.out bv)
    have HRS := Lib.hid (cell_stayL HRS.out bv)
    have K13 := Lib.hid (K12.out.trans (bv.mono K12.out.size))
    obtain ⟨z7, hz7⟩ : ∃ z7, z7 = y13.heap.size := ⟨_, rfl⟩
    rw [← HZE.out, ← hz7] at HHX
    have HZ7 : Hid (z6 ≤ z7) := Lib.hid (by rw [HZE.out, hz7]; exact bv.size)
    have HZE := Lib.hid hz7
    clear bv hz7 K12 HNC HXC
    obtain ⟨x0, x1, x2, x3, x4, x5, x6, x7, x8⟩ := keep9 HX0.out K13.out
    go_wp2_with fail
    obtain ⟨W, hW⟩ : ∃ W, W = y13 := ⟨_, rfl⟩
    rw [← hW] at HL HR HLS HRS K13 HON HHV HHW HHN HHX HZE
    have HC : Hid (∀ wd, Below W.heap.size W wd → wd.cell? ⟨w.heap.size, 1, none⟩ = some (.slice a na ca) ∧ wd.cell? ⟨w.heap.size, 2, none⟩ = some (.slice b nb cb) ∧ wd.cell? ⟨g3, na * 2 + 1, none⟩ = some (.float .f64 4607182418800017408) ∧ wd.cell? ⟨g6, nb * 2 + 1, none⟩ = some (.float .f64 4611686018427387904)) := Lib.hid fun wd hb =>
      have hx := keep9 HX0.out (K13.out.trans (hb.mono K13.out.size))
      ⟨hx.2.1, hx.2.2.1, cell_stayL HLS.out hb, cell_stayL HRS.out hb⟩
    have HS1 : Hid (∀ wd, Below W.heap.size W wd → Calls Tryz.prog 16 #[.slice av nv cv, .slice aw nv cw] wd fun e w' => e = .returned (.bool true) ∧ Below wd.heap.size wd w') := Lib.hid fun wd hb => same_ok (HHV.out.below hb).row (HHW.out.below hb).row (HKV.out.trans HKW.out.symm)
    have HS2 : Hid (∀ wd, Below W.heap.size W wd → Calls Tryz.prog 16 #[.slice (some ⟨g3, 0, none⟩) na cap3, .slice a na ca] wd fun e w' => e = .returned (.bool true) ∧ Below wd.heap.size wd w') := Lib.hid fun wd hb => same_ok (HL.out.below hb).row (HLA.out _ (K13.out.trans (hb.mono K13.out.size))) (cl_key (HKL.out.trans HKA.out))
    have HS3 : Hid (∀ wd, Below W.heap.size W wd → Calls Tryz.prog 16 #[.slice (some ⟨g6, 0, none⟩) nb cap6, .slice b nb cb] wd fun e w' => e = .returned (.bool true) ∧ Below wd.heap.size wd w') := Lib.hid fun wd hb => same_ok (HR.out.below hb).row (HLB.out _ (K13.out.trans (hb.mono K13.out.size))) (cl_key (HKR.out.trans HKB.out))
    have hsL := slice_hiK g3 0 na cap3 (na + 1) ((na : Int) + 1) rfl HLC.out
    have hsR := slice_hiK g6 0 nb cap6 (nb + 1) ((nb : Int) + 1) rfl HRC.out
    have i1 : (0 : Int) ≤ (na : Int) := by omega
    have i2 : (na : Int) < (na : Int) + 1 := by omega
    have i3 : (0 : Int) ≤ (nb : Int) := by omega
    have i4 : (nb : Int) < (nb : Int) + 1 := by omega
    have i5 : IntKind.i64.wrap ((na : Int) + 1) = (na : Int) + 1 := by rw [IntKind.wrap_i64]; omega
    have i6 : IntKind.i64.wrap ((nb : Int) + 1) = (nb : Int) + 1 := by rw [IntKind.wrap_i64]; omega
    rw [← hW]
    clear x0 x1 x2 x3 x4 x5 x6 x7 x8 hW
    refine wp_region_rel (fun wd => Below W.heap.size W wd) (fun _ _ v => v = .bool true) (by kernel_rfl) (by kernel_rfl) ((Below.refl _ _).drew) (LidK.out ?_)
    iterate 2 (refine wpRel_guardK (by rfl) (by kernel_rfl) ?_; intro K hK; have hK2 := LidK.mk hK; clear hK; go_big_quiet_step (fail); refine wpQuiet_nil ?_; refine hK2.out _ ?_; clear hK2 K)
    (refine wpRel_runK (op := .binOp _ _ _ _ _) W (Below.refl _ _) (.bool false) (by rfl) (by kernel_rfl) ?_ ?_; (focus (intro wd hb; simp [go_sem, Act.eval]; done)); intro K hK; have hK2 := LidK.mk hK; clear hK; go_big_quiet_step (fail); refine wpQuiet_nil ?_; refine hK2.out _ ?_; clear hK2 K)
    iterate 3 (refine wpRel_guardK (by rfl) (by kernel_rfl) ?_; intro K hK; have hK2 := LidK.mk hK; clear hK; go_big_quiet_step (fail); refine wpQuiet_nil ?_; refine hK2.out _ ?_; clear hK2 K)
    (refine wpRel_callK 16 Tryz.f16 _ _ #[.slice av nv cv, .slice aw nv cw] (by kernel_rfl) Tryz.func16 (by kernel_rfl) (by kernel_rfl) (by simp only [List.map_toArray, List.map]; rfl) (fun wd hd => (HS1.out wd hd).mono fun e w2 ⟨q1, q2⟩ => ⟨_, q1, rfl, hd.trans (q2.mono hd.size)⟩) ?_; rintro v rfl; intro K hK; have hK2 := LidK.mk hK; clear hK; go_big_quiet_step (fail); refine wpQuiet_nil ?_; refine hK2.out _ ?_; clear hK2 K)
    (refine wpRel_runK (op := .unOp _ _ _) W (Below.refl _ _) (.bool false) (by rfl) (by kernel_rfl) ?_ ?_; (focus (intro wd hb; simp [go_sem, Act.eval]; done)); intro K hK; have hK2 := LidK.mk hK; clear hK; go_big_quiet_step (fail); refine wpQuiet_nil ?_; refine hK2.out _ ?_; clear hK2 K)
    (refine wpRel_runK (op := .pick _ _ _) W (Below.refl _ _) (.bool false) (by rfl) (by kernel_rfl) ?_ ?_; (focus (intro wd hb; simp [go_sem, Act.eval]; done)); intro K hK; have hK2 := LidK.mk hK; clear hK; go_big_quiet_step (fail); refine wpQuiet_nil ?_; refine hK2.out _ ?_; clear hK2 K)
    iterate 2 (refine wpRel_guardK (by rfl) (by kernel_rfl) ?_; intro K hK; have hK2 := LidK.mk hK; clear hK; go_big_quiet_step (fail); refine wpQuiet_nil ?_; refine hK2.out _ ?_; clear hK2 K)
    (refine wpRel_runK (op := .fieldAddr _ _ _) W (Below.refl _ _) (.pointer (some ⟨w.heap.size, 1, none⟩)) (by rfl) (by kernel_rfl) ?_ ?_; (focus (intro wd hb; simp [go_sem, Act.eval]; done)); intro K hK; have hK2 := LidK.mk hK; clear hK; go_big_quiet_step (fail); refine wpQuiet_nil ?_; refine hK2.out _ ?_; clear hK2 K)
    (refine wpRel_runK (op := .load _ _) W (Below.refl _ _) (.slice a na ca) (by rfl) (by kernel_rfl) ?_ ?_; (focus (intro wd hb; simp [go_sem, Act.eval, (HC.out wd hb).1]; done)); intro K hK; have hK2 := LidK.mk hK; clear hK; go_big_quiet_step (fail); refine wpQuiet_nil ?_; refine hK2.out _ ?_; clear hK2 K)
    (refine wpRel_callK 16 Tryz.f16 _ _ #[.slice (some ⟨g3, 0, none⟩) na cap3, .slice a na ca] (by kernel_rfl) Tryz.func16 (by kernel_rfl) (by kernel_rfl) (by simp only [List.map_toArray, List.map]; rfl) (fun wd hd => (HS2.out wd hd).mono fun e w2 ⟨q1, q2⟩ => ⟨_, q1, rfl, hd.trans (q2.mono hd.size)⟩) ?_; rintro v rfl; intro K hK; have hK2 := LidK.mk hK; clear hK; go_big_quiet_step (fail); refine wpQuiet_nil ?_; refine hK2.out _ ?_; clear hK2 K)
    (refine wpRel_runK (op := .unOp _ _ _) W (Below.refl _ _) (.bool false) (by rfl) (by kernel_rfl) ?_ ?_; (focus (intro wd hb; simp [go_sem, Act.eval]; done)); intro K hK; have hK2 := LidK.mk hK; clear hK; go_big_quiet_step (fail); refine wpQuiet_nil ?_; refine hK2.out _ ?_; clear hK2 K)
    (refine wpRel_runK (op := .pick _ _ _) W (Below.refl _ _) (.bool false) (by rfl) (by kernel_rfl) ?_ ?_; (focus (intro wd hb; simp [go_sem, Act.eval]; done)); intro K hK; have hK2 := LidK.mk hK; clear hK; go_big_quiet_step (fail); refine wpQuiet_nil ?_; refine hK2.out _ ?_; clear hK2 K)
    iterate 2 (refine wpRel_guardK (by rfl) (by kernel_rfl) ?_; intro K hK; have hK2 := LidK.mk hK; clear hK; go_big_quiet_step (fail); refine wpQuiet_nil ?_; refine hK2.out _ ?_; clear hK2 K)
    (refine wpRel_runK (op := .fieldAddr _ _ _) W (Below.refl _ _) (.pointer (some ⟨w.heap.size, 2, none⟩)) (by rfl) (by kernel_rfl) ?_ ?_; (focus (intro wd hb; simp [go_sem, Act.eval]; done)); intro K hK; have hK2 := LidK.mk hK; clear hK; go_big_quiet_step (fail); refine wpQuiet_nil ?_; refine hK2.out _ ?_; clear hK2 K)
    (refine wpRel_runK (op := .load _ _) W (Below.refl _ _) (.slice b nb cb) (by rfl) (by kernel_rfl) ?_ ?_; (focus (intro wd hb; simp [go_sem, Act.eval, (HC.out wd hb).2.1]; done)); intro K hK; have hK2 := LidK.mk hK; clear hK; go_big_quiet_step (fail); refine wpQuiet_nil ?_; refine hK2.out _ ?_; clear hK2 K)
    (refine wpRel_callK 16 Tryz.f16 _ _ #[.slice (some ⟨g6, 0, none⟩) nb cap6, .slice b nb cb] (by kernel_rfl) Tryz.func16 (by kernel_rfl) (by kernel_rfl) (by simp only [List.map_toArray, List.map]; rfl) (fun wd hd => (HS3.out wd hd).mono fun e w2 ⟨q1, q2⟩ => ⟨_, q1, rfl, hd.trans (q2.mono hd.size)⟩) ?_; rintro v rfl; intro K hK; have hK2 := LidK.mk hK; clear hK; go_big_quiet_step (fail); refine wpQuiet_nil ?_; refine hK2.out _ ?_; clear hK2 K)
    (refine wpRel_runK (op := .unOp _ _ _) W (Below.refl _ _) (.bool false) (by rfl) (by kernel_rfl) ?_ ?_; (focus (intro wd hb; simp [go_sem, Act.eval]; done)); intro K hK; have hK2 := LidK.mk hK; clear hK; go_big_quiet_step (fail); refine wpQuiet_nil ?_; refine hK2.out _ ?_; clear hK2 K)
    (refine wpRel_runK (op := .pick _ _ _) W (Below.refl _ _) (.bool false) (by rfl) (by kernel_rfl) ?_ ?_; (focus (intro wd hb; simp [go_sem, Act.eval]; done)); intro K hK; have hK2 := LidK.mk hK; clear hK; go_big_quiet_step (fail); refine wpQuiet_nil ?_; refine hK2.out _ ?_; clear hK2 K)
    iterate 2 (refine wpRel_guardK (by rfl) (by kernel_rfl) ?_; intro K hK; have hK2 := LidK.mk hK; clear hK; go_big_quiet_step (fail); refine wpQuiet_nil ?_; refine hK2.out _ ?_; clear hK2 K)
    (refine wpRel_runK (op := .fieldAddr _ _ _) W (Below.refl _ _) (.pointer (some ⟨w.heap.size, 1, none⟩)) (by rfl) (by kernel_rfl) ?_ ?_; (focus (intro wd hb; simp [go_sem, Act.eval]; done)); intro K hK; have hK2 := LidK.mk hK; clear hK; go_big_quiet_step (fail); refine wpQuiet_nil ?_; refine hK2.out _ ?_; clear hK2 K)
    (refine wpRel_runK (op := .load _ _) W (Below.refl _ _) (.slice a na ca) (by rfl) (by kernel_rfl) ?_ ?_; (focus (intro wd hb; simp [go_sem, Act.eval, (HC.out wd hb).1]; done)); intro K hK; have hK2 := LidK.mk hK; clear hK; go_big_quiet_step (fail); refine wpQuiet_nil ?_; refine hK2.out _ ?_; clear hK2 K)
    (refine wpRel_runK (op := .call _) W (Below.refl _ _) (.int .i64 (na : Int)) (by rfl) (by kernel_rfl) ?_ ?_; (focus (intro wd hb; simp [go_sem, Act.eval]; done)); intro K hK; have hK2 := LidK.mk hK; clear hK; go_big_quiet_step (fail); refine wpQuiet_nil ?_; refine hK2.out _ ?_; clear hK2 K)
    (refine wpRel_runK (op := .binOp _ _ _ _ _) W (Below.refl _ _) (.int .i64 ((na : Int) + 1)) (by rfl) (by kernel_rfl) ?_ ?_; (focus (intro wd hb; simp [go_sem, Act.eval, i5]; done)); intro K hK; have hK2 := LidK.mk hK; clear hK; go_big_quiet_step (fail); refine wpQuiet_nil ?_; refine hK2.out _ ?_; clear hK2 K)
    (refine wpRel_runK (op := .slice _ _ _ _ _) W (Below.refl _ _) (.slice (some ⟨g3, 0, none⟩) (na + 1) cap3) (by rfl) (by kernel_rfl) ?_ ?_; (focus (intro wd hb; simp [go_sem, Act.eval, hsL]; done)); intro K hK; have hK2 := LidK.mk hK; clear hK; go_big_quiet_step (fail); refine wpQuiet_nil ?_; refine hK2.out _ ?_; clear hK2 K)
    (refine wpRel_runK (op := .fieldAddr _ _ _) W (Below.refl _ _) (.pointer (some ⟨w.heap.size, 1, none⟩)) (by rfl) (by kernel_rfl) ?_ ?_; (focus (intro wd hb; simp [go_sem, Act.eval]; done)); intro K hK; have hK2 := LidK.mk hK; clear hK; go_big_quiet_step (fail); refine wpQuiet_nil ?_; refine hK2.out _ ?_; clear hK2 K)
    (refine wpRel_runK (op := .load _ _) W (Below.refl _ _) (.slice a na ca) (by rfl) (by kernel_rfl) ?_ ?_; (focus (intro wd hb; simp [go_sem, Act.eval, (HC.out wd hb).1]; done)); intro K hK; have hK2 := LidK.mk hK; clear hK; go_big_quiet_step (fail); refine wpQuiet_nil ?_; refine hK2.out _ ?_; clear hK2 K)
    (refine wpRel_runK (op := .call _) W (Below.refl _ _) (.int .i64 (na : Int)) (by rfl) (by kernel_rfl) ?_ ?_; (focus (intro wd hb; simp [go_sem, Act.eval]; done)); intro K hK; have hK2 := LidK.mk hK; clear hK; go_big_quiet_step (fail); refine wpQuiet_nil ?_; refine hK2.out _ ?_; clear hK2 K)
    (refine wpRel_runK (op := .indexAddr _ _ _) W (Below.refl _ _) (.pointer (some ⟨g3, na * 2, none⟩)) (by rfl) (by kernel_rfl) ?_ ?_; (focus (intro wd hb; simp [go_sem, Act.eval, i1, i2]; done)); intro K hK; have hK2 := LidK.mk hK; clear hK; go_big_quiet_step (fail); refine wpQuiet_nil ?_; refine hK2.out _ ?_; clear hK2 K)
    (refine wpRel_runK (op := .fieldAddr _ _ _) W (Below.refl _ _) (.pointer (some ⟨g3, na * 2 + 1, none⟩)) (by rfl) (by kernel_rfl) ?_ ?_; (focus (intro wd hb; simp [go_sem, Act.eval]; done)); intro K hK; have hK2 := LidK.mk hK; clear hK; go_big_quiet_step (fail); refine wpQuiet_nil ?_; refine hK2.out _ ?_; clear hK2 K)
    (refine wpRel_runK (op := .load _ _) W (Below.refl _ _) (.float .f64 4607182418800017408) (by rfl) (by kernel_rfl) ?_ ?_; (focus (intro wd hb; simp [go_sem, Act.eval, (HC.out wd hb).2.2.1]; done)); intro K hK; have hK2 := LidK.mk hK; clear hK; go_big_quiet_step (fail); refine wpQuiet_nil ?_; refine hK2.out _ ?_; clear hK2 K)
    (refine wpRel_runK (op := .binOp .neq _ _ _ _) W (Below.refl _ _) (.bool false) (by rfl) (by kernel_rfl) ?_ ?_; (focus (intro wd hb; kernel_rfl; done)); intro K hK; have hK2 := LidK.mk hK; clear hK; go_big_quiet_step (fail); refine wpQuiet_nil ?_; refine hK2.out _ ?_; clear hK2 K)
    (refine wpRel_runK (op := .pick _ _ _) W (Below.refl _ _) (.bool false) (by rfl) (by kernel_rfl) ?_ ?_; (focus (intro wd hb; simp [go_sem, Act.eval]; done)); intro K hK; have hK2 := LidK.mk hK; clear hK; go_big_quiet_step (fail); refine wpQuiet_nil ?_; refine hK2.out _ ?_; clear hK2 K)
    iterate 2 (refine wpRel_guardK (by rfl) (by kernel_rfl) ?_; intro K hK; have hK2 := LidK.mk hK; clear hK; go_big_quiet_step (fail); refine wpQuiet_nil ?_; refine hK2.out _ ?_; clear hK2 K)
    (refine wpRel_runK (op := .fieldAddr _ _ _) W (Below.refl _ _) (.pointer (some ⟨w.heap.size, 2, none⟩)) (by rfl) (by kernel_rfl) ?_ ?_; (focus (intro wd hb; simp [go_sem, Act.eval]; done)); intro K hK; have hK2 := LidK.mk hK; clear hK; go_big_quiet_step (fail); refine wpQuiet_nil ?_; refine hK2.out _ ?_; clear hK2 K)
    (refine wpRel_runK (op := .load _ _) W (Below.refl _ _) (.slice b nb cb) (by rfl) (by kernel_rfl) ?_ ?_; (focus (intro wd hb; simp [go_sem, Act.eval, (HC.out wd hb).2.1]; done)); intro K hK; have hK2 := LidK.mk hK; clear hK; go_big_quiet_step (fail); refine wpQuiet_nil ?_; refine hK2.out _ ?_; clear hK2 K)
    (refine wpRel_runK (op := .call _) W (Below.refl _ _) (.int .i64 (nb : Int)) (by rfl) (by kernel_rfl) ?_ ?_; (focus (intro wd hb; simp [go_sem, Act.eval]; done)); intro K hK; have hK2 := LidK.mk hK; clear hK; go_big_quiet_step (fail); refine wpQuiet_nil ?_; refine hK2.out _ ?_; clear hK2 K)
    (refine wpRel_runK (op := .binOp _ _ _ _ _) W (Below.refl _ _) (.int .i64 ((nb : Int) + 1)) (by rfl) (by kernel_rfl) ?_ ?_; (focus (intro wd hb; simp [go_sem, Act.eval, i6]; done)); intro K hK; have hK2 := LidK.mk hK; clear hK; go_big_quiet_step (fail); refine wpQuiet_nil ?_; refine hK2.out _ ?_; clear hK2 K)
    (refine wpRel_runK (op := .slice _ _ _ _ _) W (Below.refl _ _) (.slice (some ⟨g6, 0, none⟩) (nb + 1) cap6) (by rfl) (by kernel_rfl) ?_ ?_; (focus (intro wd hb; simp [go_sem, Act.eval, hsR]; done)); intro K hK; have hK2 := LidK.mk hK; clear hK; go_big_quiet_step (fail); refine wpQuiet_nil ?_; refine hK2.out _ ?_; clear hK2 K)
    (refine wpRel_runK (op := .fieldAddr _ _ _) W (Below.refl _ _) (.pointer (some ⟨w.heap.size, 2, none⟩)) (by rfl) (by kernel_rfl) ?_ ?_; (focus (intro wd hb; simp [go_sem, Act.eval]; done)); intro K hK; have hK2 := LidK.mk hK; clear hK; go_big_quiet_step (fail); refine wpQuiet_nil ?_; refine hK2.out _ ?_; clear hK2 K)
    (refine wpRel_runK (op := .load _ _) W (Below.refl _ _) (.slice b nb cb) (by rfl) (by kernel_rfl) ?_ ?_; (focus (intro wd hb; simp [go_sem, Act.eval, (HC.out wd hb).2.1]; done)); intro K hK; have hK2 := LidK.mk hK; clear hK; go_big_quiet_step (fail); refine wpQuiet_nil ?_; refine hK2.out _ ?_; clear hK2 K)
    (refine wpRel_runK (op := .call _) W (Below.refl _ _) (.int .i64 (nb : Int)) (by rfl) (by kernel_rfl) ?_ ?_; (focus (intro wd hb; simp [go_sem, Act.eval]; done)); intro K hK; have hK2 := LidK.mk hK; clear hK; go_big_quiet_step (fail); refine wpQuiet_nil ?_; refine hK2.out _ ?_; clear hK2 K)
    (refine wpRel_runK (op := .indexAddr _ _ _) W (Below.refl _ _) (.pointer (some ⟨g6, nb * 2, none⟩)) (by rfl) (by kernel_rfl) ?_ ?_; (focus (intro wd hb; simp [go_sem, Act.eval, i3, i4]; done)); intro K hK; have hK2 := LidK.mk hK; clear hK; go_big_quiet_step (fail); refine wpQuiet_nil ?_; refine hK2.out _ ?_; clear hK2 K)
    (refine wpRel_runK (op := .fieldAddr _ _ _) W (Below.refl _ _) (.pointer (some ⟨g6, nb * 2 + 1, none⟩)) (by rfl) (by kernel_rfl) ?_ ?_; (focus (intro wd hb; simp [go_sem, Act.eval]; done)); intro K hK; have hK2 := LidK.mk hK; clear hK; go_big_quiet_step (fail); refine wpQuiet_nil ?_; refine hK2.out _ ?_; clear hK2 K)
    (refine wpRel_runK (op := .load _ _) W (Below.refl _ _) (.float .f64 4611686018427387904) (by rfl) (by kernel_rfl) ?_ ?_; (focus (intro wd hb; simp [go_sem, Act.eval, (HC.out wd hb).2.2.2]; done)); intro K hK; have hK2 := LidK.mk hK; clear hK; go_big_quiet_step (fail); refine wpQuiet_nil ?_; refine hK2.out _ ?_; clear hK2 K)
    (refine wpRel_runK (op := .binOp .neq _ _ _ _) W (Below.refl _ _) (.bool false) (by rfl) (by kernel_rfl) ?_ ?_; (focus (intro wd hb; kernel_rfl; done)); intro K hK; have hK2 := LidK.mk hK; clear hK; go_big_quiet_step (fail); refine wpQuiet_nil ?_; refine hK2.out _ ?_; clear hK2 K)
    (refine wpRel_runK (op := .pick _ _ _) W (Below.refl _ _) (.bool false) (by rfl) (by kernel_rfl) ?_ ?_; (focus (intro wd hb; simp [go_sem, Act.eval]; done)); intro K hK; have hK2 := LidK.mk hK; clear hK; go_big_quiet_step (fail); refine wpQuiet_nil ?_; refine hK2.out _ ?_; clear hK2 K)
    refine LidK.mk (wpRel_nil ?_)
    intro wz hz
    have K14 := Lib.hid (K13.out.trans (hz.mono K13.out.size))
    have HL := Lib.hid (HL.out.below hz)
    have HR := Lib.hid (HR.out.below hz)
    have HON := Lib.hid (HON.out.below hz)
    have HHV := Lib.hid (HHV.out.below hz)
    have HHW := Lib.hid (HHW.out.below hz)
    have HHN := Lib.hid (HHN.out.below hz)
    have HHX := Lib.hid (HHX.out.below hz)
    have HZE : Hid (z7 ≤ wz.heap.size) := Lib.hid (by rw [HZE.out]; exact hz.size)
    clear hz HC HS1 HS2 HS3 hsL hsR i1 i2 i3 i4 i5 i6 HLS HRS K13
    go_wp2_with fail
    go_loopw [15] (OnRel mn wz) (fun v _ => mn - (intOf v).toNat)
    case atStart => exact ⟨0, rfl, by omega, Below.refl _ _⟩
    case round =>
      obtain ⟨i, rfl, hil, bel⟩ := hrel
      have HB := Lib.hid bel
      have KR := Lib.hid (K14.out.trans (bel.mono K14.out.size))
      clear bel
      by_cases hlt : i < mn
      · obtain ⟨S, hS⟩ : ∃ S, S = nsAt ns i := ⟨_, rfl⟩
        have hon := HON.out.below HB.out
        have hmm := (HMT.out _ KR.out).1
        obtain ⟨b1, o1, e1, _, hc1⟩ := hon.2.2.2 (by omega)
        injection e1 with e1
        injection e1 with e1 e2 _
        subst e1 e2
        obtain ⟨b2, o2, e2, _, hc2⟩ := hmm.2.2.2 (show 0 < mn by omega)
        have y0 := hc1 i hlt
        have y1 := hc2 i hlt
        rw [Nat.zero_add] at y0
        rw [← hS] at y0 y1
        obtain ⟨x0, x1, x2, x3, x4, x5, x6, x7, x8⟩ := keep9 HX0.out KR.out
        dsimp only at e2
        subst e2
        have j1 : (0 : Int) ≤ (i : Int) := by omega
        have j2 : (i : Int) < (mn : Int) := by omega
        have j3 : (mn : Int) ≤ 4398046511104 := by have := HMN.out; omega
        clear hon hmm hc1 hc2 hS x0 x1 x2 x3 x4 x6 x7 x8
        go_wp2_with fail
        go_quiet (fail)
        go_wp2_with fail
        go_roundw
        case rel => exact ⟨i + 1, by first | rfl | (congr 1), by omega, HB.out.drewN' nq⟩
        case measure => simp [intOf]; omega
      · have hkn : ¬ (i : Int) < (mn : Int) := by omega
        have HL := Lib.hid (HL.out.below HB.out)
        have HR := Lib.hid (HR.out.below HB.out)
        have HHV := Lib.hid (HHV.out.below HB.out)
        have HHW := Lib.hid (HHW.out.below HB.out)
        have HHN := Lib.hid (HHN.out.below HB.out)
        have HHX := Lib.hid (HHX.out.below HB.out)
        have HZE : Hid (z7 ≤ wr.heap.size) := Lib.hid (Nat.le_trans HZE.out HB.out.size)
        have HKR0 := KR
        clear HON K14 HB KR
        go_wp2_with fail
        have KR0 := Lib.hid (HKR0.out)
        refine (HCH.out nv _ _ wr aw cw ew HHW.out).mono ?_
        rintro e w14 ⟨ak, ck, ek, rfl, hv, kv, bv⟩
        have HHK := Lib.hid hv
        have HEK := Lib.hid kv
        clear hv kv
        have HL := Lib.hid (HL.out.below bv)
        have HR := Lib.hid (HR.out.below bv)
        have HHV := Lib.hid (HHV.out.below bv)
        have HHW := Lib.hid (HHW.out.below bv)
        have HHN := Lib.hid (HHN.out.below bv)
        have HHX := Lib.hid (HHX.out.below bv)
        have K15 := Lib.hid (KR0.out.trans (bv.mono KR0.out.size))
        have HW14 := Lib.hid (Nat.le_trans HZE.out bv.size)
        obtain ⟨z8, hz8⟩ : ∃ z8, z8 = wr.heap.size := ⟨_, rfl⟩
        obtain ⟨z9, hz9⟩ : ∃ z9, z9 = w14.heap.size := ⟨_, rfl⟩
        rw [← hz8, ← hz9] at HHK
        have HZ8 : Hid (z7 ≤ z8 ∧ z8 ≤ z9) := Lib.hid ⟨by rw [hz8]; exact HZE.out, by rw [hz8, hz9]; exact bv.size⟩
        have HZE := Lib.hid hz9
        clear bv hz8 hz9 KR0
        go_wp2_with fail
        refine (HCH.out nn _ _ w14 an cn' en HHN.out).mono ?_
        rintro e w15 ⟨al, cl, el, rfl, hv, kv, bv⟩
        have HHM := Lib.hid hv
        have HEM := Lib.hid kv
        clear hv kv
        have HL := Lib.hid (HL.out.below bv)
        have HR := Lib.hid (HR.out.below bv)
        have HHV := Lib.hid (HHV.out.below bv)
        have HHW := Lib.hid (HHW.out.below bv)
        have HHN := Lib.hid (HHN.out.below bv)
        have HHX := Lib.hid (HHX.out.below bv)
        have HHK := Lib.hid (HHK.out.below bv)
        have K16 := Lib.hid (K15.out.trans (bv.mono K15.out.size))
        obtain ⟨z10, hz10⟩ : ∃ z10, z10 = w15.heap.size := ⟨_, rfl⟩
        rw [← HZE.out, ← hz10] at HHM
        have HZ10 : Hid (z9 ≤ z10) := Lib.hid (by rw [HZE.out, hz10]; exact bv.size)
        have HZE := Lib.hid hz10
        clear bv hz10 K15
        go_wp2_with fail
        refine (HCH.out nx _ _ w15 ax cx ex HHX.out).mono ?_
        rintro e w16 ⟨ay, cy, ey, rfl, hv, kv, bv⟩
        have HHY := Lib.hid hv
        have HEY := Lib.hid kv
        clear hv kv
        have HL := Lib.hid (HL.out.below bv)
        have HR := Lib.hid (HR.out.below bv)
        have HHV := Lib.hid (HHV.out.below bv)
        have HHW := Lib.hid (HHW.out.below bv)
        have HHN := Lib.hid (HHN.out.below bv)
        have HHX := Lib.hid (HHX.out.below bv)
        have HHK := Lib.hid (HHK.out.below bv)
        have HHM := Lib.hid (HHM.out.below bv)
        have K17 := Lib.hid (K16.out.trans (bv.mono K16.out.size))
        obtain ⟨z11, hz11⟩ : ∃ z11, z11 = w16.heap.size := ⟨_, rfl⟩
        rw [← HZE.out, ← hz11] at HHY
        have HZ11 : Hid (z10 ≤ z11) := Lib.hid (by rw [HZE.out, hz11]; exact bv.size)
        have HZZ : Hid (W0.heap.size ≤ z0 ∧ z0 ≤ z1 ∧ z1 ≤ z2 ∧ z2 ≤ z3 ∧ z3 ≤ z4 ∧ z4 ≤ z5 ∧ z5 ≤ z6 ∧ z6 ≤ z7 ∧ z7 ≤ z8 ∧ z8 ≤ z9 ∧ z9 ≤ z10 ∧ z10 ≤ z11 ∧ z11 = w16.heap.size) := Lib.hid ⟨HZ3.out.1, HZ3.out.2.1, HZ3.out.2.2, HZ9.out, HZ4.out, HZ5.out, HZ6.out, HZ7.out, HZ8.out.1, HZ8.out.2, HZ10.out, HZ11.out, hz11⟩
        clear bv hz11 K16 HZ3 HZ4 HZ5 HZ6 HZ7 HZ8 HZ9 HZ10 HZ11 HZE HW14 HCH
        have HSZ : Hid (w.heap.size < z0) := Lib.hid (Nat.lt_of_lt_of_le HSZ.out HZZ.out.1)
        go_wp2_with fail
        refine (HHV.out.mark cv (by have := HZZ.out; omega) (by have := HZZ.out; omega)).mono ?_
        rintro e w17 ⟨rfl, m17⟩
        have HL := Lib.hid (HL.out.mid m17 (.inr (by have := HZZ.out; omega)))
        have HR := Lib.hid (HR.out.mid m17 (.inr (by have := HZZ.out; omega)))
        have HHW := Lib.hid (HHW.out.mid m17 (.inl (by have := HZZ.out; omega)))
        have HHN := Lib.hid (HHN.out.mid m17 (.inl (by have := HZZ.out; omega)))
        have HHX := Lib.hid (HHX.out.mid m17 (.inl (by have := HZZ.out; omega)))
        have HHK := Lib.hid (HHK.out.mid m17 (.inl (by have := HZZ.out; omega)))
        have HHM := Lib.hid (HHM.out.mid m17 (.inl (by have := HZZ.out; omega)))
        have HHY := Lib.hid (HHY.out.mid m17 (.inl (by have := HZZ.out; omega)))
        have K18 := Lib.hid (K17.out.trans (m17.1.mono (by have := HZZ.out; omega)))
        have HS17 : Hid (z11 ≤ w17.heap.size) := Lib.hid (by have := HZZ.out; have := m17.1.size; omega)
        clear m17 HHV K17
        obtain ⟨x0, x1, x2, x3, x4, x5, x6, x7, x8⟩ := keep9 HX0.out K18.out
        go_wp2_with fail
        refine (same_ok (HHW.out.row) (HHK.out.row) (cl_key HEK.out.symm)).mono ?_
        rintro e w18 ⟨rfl, bq⟩
        have HL := Lib.hid (HL.out.below bq)
        have HR := Lib.hid (HR.out.below bq)
        have HHW := Lib.hid (HHW.out.below bq)
        have HHN := Lib.hid (HHN.out.below bq)
        have HHX := Lib.hid (HHX.out.below bq)
        have HHK := Lib.hid (HHK.out.below bq)
        have HHM := Lib.hid (HHM.out.below bq)
        have HHY := Lib.hid (HHY.out.below bq)
        have K19 := Lib.hid (K18.out.trans (bq.mono K18.out.size))
        have HS18 : Hid (z11 ≤ w18.heap.size) := Lib.hid (Nat.le_trans HS17.out bq.size)
        clear bq K18 HS17 x0 x1 x2 x3 x4 x5 x6 x7 x8
        obtain ⟨x0, x1, x2, x3, x4, x5, x6, x7, x8⟩ := keep9 HX0.out K19.out
        go_wp2_with fail
        refine (same_ok (HHN.out.row) (HHM.out.row) (cl_key HEM.out.symm)).mono ?_
        rintro e w19 ⟨rfl, bq⟩
        have HL := Lib.hid (HL.out.below bq)
        have HR := Lib.hid (HR.out.below bq)
        have HHW := Lib.hid (HHW.out.below bq)
        have HHN := Lib.hid (HHN.out.below bq)
        have HHX := Lib.hid (HHX.out.below bq)
        have HHK := Lib.hid (HHK.out.below bq)
        have HHM := Lib.hid (HHM.out.below bq)
        have HHY := Lib.hid (HHY.out.below bq)
        have K20 := Lib.hid (K19.out.trans (bq.mono K19.out.size))
        have HS19 : Hid (z11 ≤ w19.heap.size) := Lib.hid (Nat.le_trans HS18.out bq.size)
        clear bq K19 HS18 x0 x1 x2 x3 x4 x5 x6 x7 x8
        obtain ⟨x0, x1, x2, x3, x4, x5, x6, x7, x8⟩ := keep9 HX0.out K20.out
        go_wp2_with fail
        refine (same_ok (HHX.out.row) (HHY.out.row) (cl_key HEY.out.symm)).mono ?_
        rintro e w20 ⟨rfl, bq⟩
        have HL := Lib.hid (HL.out.below bq)
        have HR := Lib.hid (HR.out.below bq)
        have HHW := Lib.hid (HHW.out.below bq)
        have HHN := Lib.hid (HHN.out.below bq)
        have HHX := Lib.hid (HHX.out.below bq)
        have HHK := Lib.hid (HHK.out.below bq)
        have HHM := Lib.hid (HHM.out.below bq)
        have HHY := Lib.hid (HHY.out.below bq)
        have K21 := Lib.hid (K20.out.trans (bq.mono K20.out.size))
        have HS20 : Hid (z11 ≤ w20.heap.size) := Lib.hid (Nat.le_trans HS19.out bq.size)
        clear bq K20 HS19 x0 x1 x2 x3 x4 x5 x6 x7 x8
        obtain ⟨x0, x1, x2, x3, x4, x5, x6, x7, x8⟩ := keep9 HX0.out K21.out
        go_wp2_with fail
        refine (same_ok (HL.out.row) (HLA.out _ K21.out) (cl_key (HKL.out.trans HKA.out))).mono ?_
        rintro e w21 ⟨rfl, bq⟩
        have HL := Lib.hid (HL.out.below bq)
        have HR := Lib.hid (HR.out.below bq)
        have HHW := Lib.hid (HHW.out.below bq)
        have HHN := Lib.hid (HHN.out.below bq)
        have HHX := Lib.hid (HHX.out.below bq)
        have HHK := Lib.hid (HHK.out.below bq)
        have HHM := Lib.hid (HHM.out.below bq)
        have HHY := Lib.hid (HHY.out.below bq)
        have K22 := Lib.hid (K21.out.trans (bq.mono K21.out.size))
        have HS21 : Hid (z11 ≤ w21.heap.size) := Lib.hid (Nat.le_trans HS20.out bq.size)
        clear bq K21 HS20 x0 x1 x2 x3 x4 x5 x6 x7 x8
        obtain ⟨x0, x1, x2, x3, x4, x5, x6, x7, x8⟩ := keep9 HX0.out K22.out
        go_wp2_with fail
        refine (same_ok (HR.out.row) (HLB.out _ K22.out) (cl_key (HKR.out.trans HKB.out))).mono ?_
        rintro e w22 ⟨rfl, bq⟩
        have HL := Lib.hid (HL.out.below bq)
        have HR := Lib.hid (HR.out.below bq)
        have HHW := Lib.hid (HHW.out.below bq)
        have HHN := Lib.hid (HHN.out.below bq)
        have HHX := Lib.hid (HHX.out.below bq)
        have HHK := Lib.hid (HHK.out.below bq)
        have HHM := Lib.hid (HHM.out.below bq)
        have HHY := Lib.hid (HHY.out.below bq)
        have K23 := Lib.hid (K22.out.trans (bq.mono K22.out.size))
        have HS22 : Hid (z11 ≤ w22.heap.size) := Lib.hid (Nat.le_trans HS21.out bq.size)
        clear bq K22 HS21 x0 x1 x2 x3 x4 x5 x6 x7 x8
        obtain ⟨x0, x1, x2, x3, x4, x5, x6, x7, x8⟩ := keep9 HX0.out K23.out
        go_wp2_with fail
        refine (HHN.out.mark cn' (by have := HZZ.out; have := HS22.out; omega) (by have := HZZ.out; have := HS22.out; omega)).mono ?_
        rintro e w23 ⟨rfl, mq⟩
        have HL := Lib.hid (HL.out.mid mq (.inr (by have := HZZ.out; omega)))
        have HR := Lib.hid (HR.out.mid mq (.inr (by have := HZZ.out; omega)))
        have HHW := Lib.hid (HHW.out.mid mq (.inr (by have := HZZ.out; omega)))
        have HHX := Lib.hid (HHX.out.mid mq (.inl (by have := HZZ.out; omega)))
        have HHK := Lib.hid (HHK.out.mid mq (.inl (by have := HZZ.out; omega)))
        have K24 := Lib.hid (K23.out.trans (mq.1.mono (by have := HZZ.out; omega)))
        have HS23 : Hid (z11 ≤ w23.heap.size) := Lib.hid (Nat.le_trans HS22.out mq.1.size)
        clear mq K23 HS22 HHN x0 x1 x2 x3 x4 x5 x6 x7 x8
        obtain ⟨x0, x1, x2, x3, x4, x5, x6, x7, x8⟩ := keep9 HX0.out K24.out
        go_wp2_with fail
        refine (HHX.out.mark cx (by have := HZZ.out; have := HS23.out; omega) (by have := HZZ.out; have := HS23.out; omega)).mono ?_
        rintro e w24 ⟨rfl, mq⟩
        have HL := Lib.hid (HL.out.mid mq (.inr (by have := HZZ.out; omega)))
        have HR := Lib.hid (HR.out.mid mq (.inr (by have := HZZ.out; omega)))
        have HHW := Lib.hid (HHW.out.mid mq (.inr (by have := HZZ.out; omega)))
        have HHK := Lib.hid (HHK.out.mid mq (.inl (by have := HZZ.out; omega)))
        have K25 := Lib.hid (K24.out.trans (mq.1.mono (by have := HZZ.out; omega)))
        have HS24 : Hid (z11 ≤ w24.heap.size) := Lib.hid (Nat.le_trans HS23.out mq.1.size)
        clear mq K24 HS23 HHX x0 x1 x2 x3 x4 x5 x6 x7 x8
        obtain ⟨x0, x1, x2, x3, x4, x5, x6, x7, x8⟩ := keep9 HX0.out K25.out
        go_wp2_with fail
        refine (same_ok (HHW.out.row) (HHK.out.row) (cl_key HEK.out.symm)).mono ?_
        rintro e w25 ⟨rfl, bq⟩
        have HL := Lib.hid (HL.out.below bq)
        have HR := Lib.hid (HR.out.below bq)
        have HHW := Lib.hid (HHW.out.below bq)
        have HHK := Lib.hid (HHK.out.below bq)
        have K26 := Lib.hid (K25.out.trans (bq.mono K25.out.size))
        have HS25 : Hid (z11 ≤ w25.heap.size) := Lib.hid (Nat.le_trans HS24.out bq.size)
        clear bq K25 HS24 x0 x1 x2 x3 x4 x5 x6 x7 x8
        obtain ⟨x0, x1, x2, x3, x4, x5, x6, x7, x8⟩ := keep9 HX0.out K26.out
        go_wp2_with fail
        refine (same_ok (HL.out.row) (HLA.out _ K26.out) (cl_key (HKL.out.trans HKA.out))).mono ?_
        rintro e w26 ⟨rfl, bq⟩
        have HL := Lib.hid (HL.out.below bq)
        have HR := Lib.hid (HR.out.below bq)
        have HHW := Lib.hid (HHW.out.below bq)
        have HHK := Lib.hid (HHK.out.below bq)
        have K27 := Lib.hid (K26.out.trans (bq.mono K26.out.size))
        have HS26 : Hid (z11 ≤ w26.heap.size) := Lib.hid (Nat.le_trans HS25.out bq.size)
        clear bq K26 HS25 x0 x1 x2 x3 x4 x5 x6 x7 x8
        obtain ⟨x0, x1, x2, x3, x4, x5, x6, x7, x8⟩ := keep9 HX0.out K27.out
        go_wp2_with fail
        refine (same_ok (HR.out.row) (HLB.out _ K27.out) (cl_key (HKR.out.trans HKB.out))).mono ?_
        rintro e w27 ⟨rfl, bq⟩
        have HL := Lib.hid (HL.out.below bq)
        have HR := Lib.hid (HR.out.below bq)
        have HHW := Lib.hid (HHW.out.below bq)
        have HHK := Lib.hid (HHK.out.below bq)
        have K28 := Lib.hid (K27.out.trans (bq.mono K27.out.size))
        have HS27 : Hid (z11 ≤ w27.heap.size) := Lib.hid (Nat.le_trans HS26.out bq.size)
        clear bq K27 HS26 x0 x1 x2 x3 x4 x5 x6 x7 x8
        obtain ⟨x0, x1, x2, x3, x4, x5, x6, x7, x8⟩ := keep9 HX0.out K28.out
        go_wp2_with fail
        refine (HL.out.mark cap3 (by have := HZZ.out; have := HS27.out; omega) (by have := HZZ.out; have := HS27.out; omega)).mono ?_
        rintro e w28 ⟨rfl, mq⟩
        have HR := Lib.hid (HR.out.mid mq (.inl (by have := HZZ.out; omega)))
        have HHW := Lib.hid (HHW.out.mid mq (.inl (by have := HZZ.out; omega)))
        have HHK := Lib.hid (HHK.out.mid mq (.inl (by have := HZZ.out; omega)))
        have K29 := Lib.hid (K28.out.trans (mq.1.mono (by have := HZZ.out; omega)))
        have HS28 : Hid (z11 ≤ w28.heap.size) := Lib.hid (Nat.le_trans HS27.out mq.1.size)
        clear mq K28 HS27 HL x0 x1 x2 x3 x4 x5 x6 x7 x8
        obtain ⟨x0, x1, x2, x3, x4, x5, x6, x7, x8⟩ := keep9 HX0.out K29.out
        go_wp2_with fail
        refine (HR.out.mark cap6 (by have := HZZ.out; have := HS28.out; omega) (by have := HZZ.out; have := HS28.out; omega)).mono ?_
        rintro e w29 ⟨rfl, mq⟩
        have HHW := Lib.hid (HHW.out.mid mq (.inl (by have := HZZ.out; omega)))
        have HHK := Lib.hid (HHK.out.mid mq (.inl (by have := HZZ.out; omega)))
        have K30 := Lib.hid (K29.out.trans (mq.1.mono (by have := HZZ.out; omega)))
        have HS29 : Hid (z11 ≤ w29.heap.size) := Lib.hid (Nat.le_trans HS28.out mq.1.size)
        clear mq K29 HS28 HR x0 x1 x2 x3 x4 x5 x6 x7 x8
        obtain ⟨x0, x1, x2, x3, x4, x5, x6, x7, x8⟩ := keep9 HX0.out K30.out
        go_wp2_with fail
        have s0 : w29.drew.cell? ⟨w.heap.size, 0, none⟩ = some (.string u) ∧ w29.drew.cell? ⟨w.heap.size, 1, none⟩ = some (.slice a na ca) ∧ w29.drew.cell? ⟨w.heap.size, 2, none⟩ = some (.slice b nb cb) ∧ w29.drew.cell? ⟨w.heap.size, 3, none⟩ = some (.bool given) ∧ w29.drew.cell? ⟨w.heap.size, 4, none⟩ = some (.bool on) ∧ w29.drew.cell? ⟨w.heap.size, 5, none⟩ = some (.slice ma mn mc) ∧ w29.drew.cell? ⟨w.heap.size, 6, none⟩ = some (.int .i64 card) ∧ w29.drew.cell? ⟨w.heap.size, 7, none⟩ = some (.slice ia im ic) ∧ w29.drew.cell? ⟨w.heap.size, 8, none⟩ = some (.bool yes) := ⟨x0, x1, x2, x3, x4, x5, x6, x7, x8⟩
        have KD : Hid (Below W0.heap.size W0 w29.drew) := Lib.hid (K30.out.drewN' 1)
        have GD : Hid (Below w29.heap.size w29 w29.drew) := Lib.hid ((Below.refl _ w29).drewN' 1)
        clear x0 x1 x2 x3 x4 x5 x6 x7 x8
        go_region_held3 (fun w' => w'.cell? ⟨w.heap.size, 0, none⟩ = some (.string u) ∧ w'.cell? ⟨w.heap.size, 1, none⟩ = some (.slice a na ca) ∧ w'.cell? ⟨w.heap.size, 2, none⟩ = some (.slice b nb cb) ∧ w'.cell? ⟨w.heap.size, 3, none⟩ = some (.bool given) ∧ w'.cell? ⟨w.heap.size, 4, none⟩ = some (.bool on) ∧ w'.cell? ⟨w.heap.size, 5, none⟩ = some (.slice ma mn mc) ∧ w'.cell? ⟨w.heap.size, 6, none⟩ = some (.int .i64 card) ∧ w'.cell? ⟨w.heap.size, 7, none⟩ = some (.slice ia im ic) ∧ w'.cell? ⟨w.heap.size, 8, none⟩ = some (.bool yes)) (first | assumption) (first
          | (go_at_call 11; (with_reducible refine (HCL.out _ KD.out).mono ?_); rintro e q1 ⟨ac, cc, O5, rfl, h5, k5, b5⟩; have s1 := keep9 s0 b5; have KX : Hid (Below W0.heap.size W0 q1) := Lib.hid (KD.out.trans (b5.mono KD.out.size)); have GX : Hid (Below w29.heap.size w29 q1) := Lib.hid (GD.out.trans b5))
          | (go_at_call 11; (with_reducible refine (HCR.out _ KX.out).mono ?_); rintro e q2 ⟨ad, cd, O6, rfl, h6, k6, b6⟩; have s2 := keep9 s1 b6; have KY : Hid (Below W0.heap.size W0 q2) := Lib.hid (KX.out.trans (b6.mono KX.out.size)); have GY : Hid (Below w29.heap.size w29 q2) := Lib.hid (GX.out.trans (b6.mono GX.out.size)); have h5' := h5.below b6)
          | (go_at_call 13; (with_reducible refine (HVC.out q2 ac cc O5 ad cd O6 ma mc KY.out h5'.row k5 h6.row k6 (HMT.out _ KY.out)).mono ?_); rintro e q3 ⟨ar, cr, er, rfl, h7, k7, b7⟩; have s3 := keep9 s2 b7; have KZ : Hid (Below W0.heap.size W0 q3) := Lib.hid (KY.out.trans (b7.mono KY.out.size)); have GZ : Hid (Below w29.heap.size w29 q3) := Lib.hid (GY.out.trans (b7.mono GY.out.size)); have HR7 := Lib.hid h7; have HK7 := Lib.hid k7))
        rename_i hHeld
        have HHW := Lib.hid (HHW.out.below GZ.out)
        have HHK := Lib.hid (HHK.out.below GZ.out)
        clear hHeld s0 s1 s2 s3 h5 h5' h6 h7 k5 k6 k7 b5 b6 b7 KD KX KY GD GX GY GZ K30 HS29
        go_wp2_with fail
        refine (same_ok HHW.out.row HHK.out.row (cl_key HEK.out.symm)).mono ?_
        rintro e q4 ⟨rfl, bq⟩
        have HHK := Lib.hid (HHK.out.below bq)
        have HR7 := Lib.hid (HR7.out.below bq)
        have K31 := Lib.hid (KZ.out.trans (bq.mono KZ.out.size))
        clear bq KZ HHW
        go_wp2_with fail
        refine (same_ok HR7.out.row HHK.out.row (HK7.out.trans ((cl_key HEK.out).trans HKW.out).symm)).mono ?_
        rintro e q5 ⟨rfl, bq⟩
        have K32 := Lib.hid (K31.out.trans (bq.mono K31.out.size))
        clear bq K31
        go_wp2_with fail
        go_ret
        exact ⟨rfl, HWW.out _ K32.out⟩
  · go_wp2_with fail
    go_ret
    exact ⟨rfl, HWW.out _ K2.out⟩
end Go.Proofs.YtmmfjknnbkcniaaGreatDoor
