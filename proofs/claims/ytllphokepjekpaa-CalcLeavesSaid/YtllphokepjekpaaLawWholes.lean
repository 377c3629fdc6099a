/- weirlaw06.CalcWholes returns true whatever comes in. -/
import Derived.Test.YtllphokepjekpaaGrow
import Derived.Test.YtllphokepjekpaaWholeSum
namespace Go.Proofs.Ytllphokepjekpaa
open Go.Fl Go.Rel Go.RowKit

/-- What a slice of int64 holds. -/
def RowI (w : World) (a : Option Addr) (n : Nat) (zs : List Int) : Prop :=
  zs.length = n ∧ n ≤ 9223372036854775807 ∧ (∀ i, -9223372036854775808 ≤ zs.getD i 0 ∧ zs.getD i 0 ≤ 9223372036854775807) ∧ (0 < n → ∃ b off, a = some ⟨b, off, none⟩ ∧ ∀ i, i < n → w.cell? ⟨b, off + i, none⟩ = some (.int .i64 (zs.getD i 0)))

theorem takeI_snoc (zs : List Int) (k : Nat) (h : k < zs.length) : zs.take (k + 1) = zs.take k ++ [zs.getD k 0] := by
  rw [List.take_add_one, List.getElem?_eq_getElem h]; simp [List.getD, h]

theorem mapw_snoc (zs : List Int) (k : Nat) (h : k < zs.length) : (zs.take (k + 1)).map wz = (zs.take k).map wz ++ [floatOfInt .f64 (zs.getD k 0)] := by
  rw [takeI_snoc zs k h, List.map_append]; rfl

def WholesRel (zs : List Int) (n : Nat) (w : World) (vs vz va vb i : Value) (wr : World) : Prop :=
  ∃ k, k ≤ n ∧ i = .int .i64 (k : Int) ∧ vs = .int .i64 (sI zs k) ∧ vz = .int .i64 ((aI zs k : Nat) : Int) ∧ aI zs k ≤ 9007199254740992 ∧
    Own w.heap.size wr va ((zs.take k).map wz) ∧ Own w.heap.size wr vb ((zs.reverse.take k).map wz) ∧ (∀ g, va.ownBlock = some g → vb.ownBlock ≠ some g) ∧ Below w.heap.size w wr

theorem max_abs (v : Int) : max v (-v) = (v.natAbs : Int) := by omega

theorem dis_ne {va vb : Value} (h : ∀ g, va.ownBlock = some g → vb.ownBlock ≠ some g) : vb.ownBlock = none ∨ vb.ownBlock ≠ va.ownBlock := by
  cases hb : vb.ownBlock with
  | none => exact .inl rfl
  | some g => exact .inr fun e => h g e.symm hb

theorem wholes_step {zs : List Int} {n k : Nat} {w wr w1 w2 : World} {va vb va' vb' : Value} {o1 o2 : Obj} {x y : Nat} {S A : Int} {vi : Value}
    (hlt : k < n) (hi : vi = .int .i64 ((k : Int) + 1))
    (hT1 : (zs.take (k + 1)).map wz = (zs.take k).map wz ++ [x]) (hR1 : (zs.reverse.take (k + 1)).map wz = (zs.reverse.take k).map wz ++ [y])
    (hS : S = sI zs (k + 1)) (hA : A = ((aI zs (k + 1) : Nat) : Int)) (hle : A ≤ 9007199254740992)
    (hob : Own w.heap.size wr vb ((zs.reverse.take k).map wz)) (hdis : ∀ g, va.ownBlock = some g → vb.ownBlock ≠ some g)
    (hown1 : Own w.heap.size w1 va' ((zs.take k).map wz ++ [x])) (hgrow1 : (wr.alloc o1).grownBy w1 va.ownBlock) (hloc1 : va'.ownBlock = va.ownBlock ∨ va'.ownBlock = some (wr.alloc o1).heap.size) (hb1 : Below w.heap.size w w1)
    (hown2 : Own w.heap.size w2 vb' ((zs.reverse.take k).map wz ++ [y])) (hgrow2 : (w1.alloc o2).grownBy w2 vb.ownBlock) (hloc2 : vb'.ownBlock = vb.ownBlock ∨ vb'.ownBlock = some (w1.alloc o2).heap.size) :
    WholesRel zs n w (.int .i64 S) (.int .i64 A) va' vb' vi w2 := by
  have hs1 := hgrow1.size
  have hlb : ∀ g, vb.ownBlock = some g → g < wr.heap.size := fun g h => (World.ownsRow.lt hob g h).2
  have hla : ∀ g, va'.ownBlock = some g → g < w1.heap.size := fun g h => (World.ownsRow.lt hown1 g h).2
  have hne : va'.ownBlock = none ∨ va'.ownBlock ≠ vb.ownBlock := by
    cases hb : vb.ownBlock with
    | none => cases ha : va'.ownBlock with
      | none => exact .inl rfl
      | some g => exact .inr (by simp)
    | some g =>
      have h3 := hlb g hb
      refine .inr fun e => ?_
      rcases hloc1 with h | h
      · exact hdis g (by rw [← h, e]) hb
      · rw [h] at e; injection e with e; simp at e; omega
  refine ⟨k + 1, by omega, by rw [hi]; simp, by rw [hS], by rw [hA], by omega, ?_, ?_, ?_, ?_⟩
  · rw [hT1]; exact (hown1.alloc o2).kept hgrow2 hne
  · rw [hR1]; exact hown2
  · intro g hg he
    have h4 := hla g hg
    rcases hloc2 with h | h
    · rw [h] at he
      rcases hne with hn | hn
      · rw [hn] at hg; cases hg
      · exact hn (by rw [hg, he])
    · rw [h] at he; injection he with he; simp at he; omega
  · have hz := hb1.size
    refine (hb1.alloc hz o2).grown hgrow2 (by simp; omega) fun j hj => ?_
    exact (World.ownsRow.lt hob j hj).1

theorem fdiv_notN {x y : Nat} (hx : isF x) (hy : isF y) (h0 : uv y ≠ 0) : isN (fdiv x y) = false := by
  obtain ⟨m, i, h1, h2⟩ := read_fin hx
  obtain ⟨n, j, h3, h4⟩ := read_fin hy
  have hn : n ≠ 0 := by
    intro h; subst h
    unfold uv at h0; rw [← h4] at h0
    simp at h0
  unfold fdiv Ieee.Format.div
  rw [h1, h3]
  unfold Ieee.Datum.quotient
  dsimp only
  rw [if_neg hn]
  simp only [Option.map_some, Option.getD_some]
  exact write_not_nan _ rfl

theorem eq_of_class {r c : Nat} (h : cn r = c) (hc : isN c = false) : r = c := by
  have h2 : isN r = false := by rw [← isN_cn, h]; exact hc
  rw [← h, cn_of_notN h2]

theorem ford_eq {r : Nat} (h : isN r = false) : (FloatKind.f64.format.order r r == some .eq) = true := by
  have := ford_self h
  unfold ford at this
  show (Ieee.double.order r r == some .eq) = true
  rw [this]; rfl

theorem two_closed : sumS ([4611686018427387904, 13842939354630062080].map cn) = 13840687554816376832 := by decide +kernel
theorem mean_closed : meanS ([4617315517961601024, 4618441417868443648].map cn) = 4617878467915022336 := by decide +kernel

theorem mean_whole (zs : List Int) {n : Nat} (hl : zs.length = n) (hn : 0 < n) (h : aI zs zs.length ≤ 9007199254740992) : meanS ((zs.map wz).map cn) = fdiv (wz (sI zs n)) (nfl n) := by
  have hs := sI_le zs zs.length
  unfold meanS
  rw [map_cn_wz zs h, List.length_map, hl, if_neg (by omega), sum_whole zs h, hl, finf_fin (wz_read (by rw [← hl]; omega)).1, if_neg (by simp)]

def TrueRet (w : World) (e : Ending) (w' : World) : Prop := e = .returned (.bool true) ∧ Below w.heap.size w w'

set_option maxHeartbeats 1000000 in
set_option maxRecDepth 100000 in
theorem law_wholes (a : Option Addr) (n cap : Nat) (zs : List Int) (w : World) (hr : RowI w a n zs) :
    Calls Try.prog 4 #[.slice a n cap] w (TrueRet w) := by
  obtain ⟨hl, hm, hbd, hc⟩ := hr
  have Hl := Lib.hid hl
  clear hl
  by_cases hbig : 65536 < n
  · go_enter Try.func4, Try.ntmps4
    go_wp2_with fail
    go_ret
    exact ⟨rfl, Below.refl _ _⟩
  · go_enter Try.func4, Try.ntmps4
    go_wp2_with fail
    go_loopw [3, 4, 5, 6, 7] (WholesRel zs n w) (fun _ _ _ _ i _ => n - (intOf i).toNat)
    case atStart => exact ⟨0, by omega, rfl, rfl, rfl, by simp [aI], own_nil _ _, own_nil _ _, fun g h => by simp [Value.ownBlock] at h, Below.refl _ _⟩
    case round =>
      obtain ⟨k, hk, rfl, rfl, rfl, hsz, hoa, hob, hdis, bw⟩ := hrel
      have Hdis := Lib.hid hdis
      clear hdis
      by_cases hlt : k < n
      · obtain ⟨b, off, rfl, hcell⟩ := hc (by omega)
        have c0 := hcell k hlt
        have c1 := hcell (n - 1 - k) (by omega)
        have hblt : b < w.heap.size := World.block_lt_of_cell? w _ c0
        have ck : wr.cell? ⟨b, off + k, none⟩ = some (.int .i64 (zs.getD k 0)) := by rw [bw.cell (p := ⟨b, off + k, none⟩) hblt]; exact c0
        clear c0 hcell hc
        have hv := hbd k
        have hu := hbd (n - 1 - k)
        have hS := sI_le zs k
        have HA1 : Hid (aI zs (k + 1) = aI zs k + (zs.getD k 0).natAbs) := rfl
        have HS1 : Hid (sI zs (k + 1) = sI zs k + zs.getD k 0) := rfl
        have hT1 := Lib.hid (mapw_snoc zs k (by rw [Hl.out]; exact hlt))
        have hR1 := Lib.hid (mapw_snoc zs.reverse k (by rw [List.length_reverse, Hl.out]; exact hlt))
        have hRv : Hid (zs.reverse.getD k 0 = zs.getD (n - 1 - k) 0) := by have := getD_rev zs (k := k) (by rw [Hl.out]; exact hlt); rw [Hl.out] at this; exact this
        clear hbd
        generalize zs.getD k 0 = v at ck hv HS1 HA1 hT1
        generalize sI zs k = S at hS HS1
        generalize aI zs k = A at hsz hS HA1
        generalize zs.getD (n - 1 - k) 0 = u at c1 hu hRv
        by_cases hv1 : v < -9007199254740992
        · go_wp2_with fail
          go_ret
          exact ⟨rfl, bw⟩
        · by_cases hv2 : 9007199254740992 < v
          · go_wp2_with fail
            go_ret
            exact ⟨rfl, bw⟩
          · by_cases hv0 : 0 ≤ v
            · by_cases hov : 9007199254740992 < (A : Int) + v
              · go_wp2_with fail
                go_ret
                exact ⟨rfl, bw⟩
              · go_wp2_with (first | (at_builtin; refine wpList_append_f rfl _ _ rfl w.heap.size u5 _ rfl (Own.alloc hoa _) ⟨wr.heap.size, 0, none⟩ 1 (floatOfInt .f64 v) rfl (by exact World.cell?_alloc_at _ _ _ _ rfl) (by simp; omega) (by have := bw.size; simp; omega) ?_; intro va w1 hown1 hgrow1 hloc1; have bw1 : Below w.heap.size w w1 := Own.below (Own.alloc hoa _) (bw.alloc bw.size _) hgrow1 (by have := bw.size; simp; omega); have cu : w1.cell? ⟨b, off + (n - 1 - k), none⟩ = some (.int .i64 u) := (by rw [bw1.cell (p := ⟨b, off + (n - 1 - k), none⟩) hblt]; exact c1); have Hown1 := Lib.hid hown1; have Hgrow1 := Lib.hid hgrow1; have Hloc1 := Lib.hid hloc1; clear hown1 hgrow1 hloc1) | (at_builtin; refine wpList_append_f rfl _ _ rfl w.heap.size u6 _ rfl (Own.alloc (Own.kept (Own.alloc hob _) Hgrow1.out (dis_ne Hdis.out)) _) ⟨w1.heap.size, 0, none⟩ 1 (floatOfInt .f64 u) rfl (by exact World.cell?_alloc_at _ _ _ _ rfl) (by simp; omega) (by have := bw1.size; simp; omega) ?_; intro vb w2 hown2 hgrow2 hloc2))
                exact ⟨wholes_step hlt rfl hT1.out (by rw [hR1.out, hRv.out]) (by have := HS1.out; omega) (by have := HA1.out; omega) (by omega) hob Hdis.out Hown1.out Hgrow1.out Hloc1.out bw1 hown2 hgrow2 hloc2, by simp [intOf]; omega⟩
            · by_cases hov : 9007199254740992 < (A : Int) + -v
              · go_wp2_with fail
                go_ret
                exact ⟨rfl, bw⟩
              · go_wp2_with (first | (at_builtin; refine wpList_append_f rfl _ _ rfl w.heap.size u5 _ rfl (Own.alloc hoa _) ⟨wr.heap.size, 0, none⟩ 1 (floatOfInt .f64 v) rfl (by exact World.cell?_alloc_at _ _ _ _ rfl) (by simp; omega) (by have := bw.size; simp; omega) ?_; intro va w1 hown1 hgrow1 hloc1; have bw1 : Below w.heap.size w w1 := Own.below (Own.alloc hoa _) (bw.alloc bw.size _) hgrow1 (by have := bw.size; simp; omega); have cu : w1.cell? ⟨b, off + (n - 1 - k), none⟩ = some (.int .i64 u) := (by rw [bw1.cell (p := ⟨b, off + (n - 1 - k), none⟩) hblt]; exact c1); have Hown1 := Lib.hid hown1; have Hgrow1 := Lib.hid hgrow1; have Hloc1 := Lib.hid hloc1; clear hown1 hgrow1 hloc1) | (at_builtin; refine wpList_append_f rfl _ _ rfl w.heap.size u6 _ rfl (Own.alloc (Own.kept (Own.alloc hob _) Hgrow1.out (dis_ne Hdis.out)) _) ⟨w1.heap.size, 0, none⟩ 1 (floatOfInt .f64 u) rfl (by exact World.cell?_alloc_at _ _ _ _ rfl) (by simp; omega) (by have := bw1.size; simp; omega) ?_; intro vb w2 hown2 hgrow2 hloc2))
                exact ⟨wholes_step hlt rfl hT1.out (by rw [hR1.out, hRv.out]) (by have := HS1.out; omega) (by have := HA1.out; omega) (by omega) hob Hdis.out Hown1.out Hgrow1.out Hloc1.out bw1 hown2 hgrow2 hloc2, by simp [intOf]; omega⟩
      · have hk' : k = n := by omega
        subst hk'
        have hta : zs.take k = zs := List.take_of_length_le (by rw [Hl.out]; omega)
        have htb : zs.reverse.take k = zs.reverse := List.take_of_length_le (by rw [List.length_reverse, Hl.out]; omega)
        rw [hta] at hoa
        rw [htb] at hob
        have Hsz : Hid (aI zs zs.length ≤ 9007199254740992) := by rw [Hl.out]; exact hsz
        have hS := sI_le zs k
        clear hta htb hc hbd
        by_cases h0 : k = 0
        · subst h0
          go_wp2_with fail
          refine (sum_any _ 2 2 [4611686018427387904, 13842939354630062080] _ (row_two _ _ _)).mono ?_
          rintro e w1 ⟨r, rfl, hrr, b1⟩
          rw [two_closed] at hrr
          have := eq_of_cn hrr (by decide +kernel)
          subst this
          clear hrr
          have he := ford_eq (r := 13840687554816376832) (by decide +kernel)
          go_wp2_with fail
          go_ret
          exact ⟨rfl, (bw.alloc bw.size _).trans (b1.mono (by have := bw.size; simp; omega))⟩
        · have hn0 : ((k : Int) == 0) = false := by simp; omega
          have hwz := wz_read (z := sI zs k) (by omega)
          have Hsum : Hid (sumS ((zs.map wz).map cn) = wz (sI zs k)) := by show _ = _; rw [map_cn_wz zs Hsz.out, sum_whole zs Hsz.out, Hl.out]
          have Hsum2 : Hid (sumS ((zs.reverse.map wz).map cn) = wz (sI zs k)) := by
            have h1 : aI zs.reverse zs.reverse.length ≤ 9007199254740992 := by rw [List.length_reverse, aI_rev_all]; exact Hsz.out
            show _ = _
            rw [map_cn_wz _ h1, sum_whole _ h1, List.length_reverse, sI_rev_all, Hl.out]
          have Hmean : Hid (meanS ((zs.map wz).map cn) = fdiv (wz (sI zs k)) (nfl k)) := mean_whole zs Hl.out (by omega) Hsz.out
          have hdn : isN (fdiv (wz (sI zs k)) (nfl k)) = false := by
            have h3 := wz_read (z := (k : Int)) (by omega)
            refine fdiv_notN hwz.1 h3.1 ?_
            rw [show nfl k = wz (k : Int) from rfl, h3.2.1]
            have := U_pos
            intro h
            rcases Int.mul_eq_zero.1 h with h | h <;> omega
          have heS := ford_eq (isF_notN hwz.1)
          have Hwz := Lib.hid hwz
          have Hdn := Lib.hid hdn
          clear hwz hdn hS hsz h0
          obtain ⟨a5, cap5, hv5, hrow5⟩ := hoa.row
          obtain ⟨a6, cap6, hv6, hrow6⟩ := hob.row
          rw [List.length_map, Hl.out] at hv5 hrow5
          rw [List.length_map, List.length_reverse, Hl.out] at hv6 hrow6
          subst hv5
          subst hv6
          clear hoa hob Hdis
          have hS0 : floatOfInt .f64 (sI zs k) = wz (sI zs k) := rfl
          generalize sI zs k = S at *
          go_wp2_with fail
          refine (sum_any _ _ _ (zs.map wz) _ hrow5).mono ?_
          rintro e w1 ⟨r, rfl, hrr, b1⟩
          rw [Hsum.out] at hrr
          have := eq_of_class hrr (isF_notN Hwz.out.1)
          subst this
          clear hrr
          have c1 := bw.trans (b1.mono bw.size)
          go_wp2_with fail
          refine (sum_any _ _ _ (zs.reverse.map wz) _ (hrow6.below b1)).mono ?_
          rintro e w2 ⟨r, rfl, hrr, b2⟩
          rw [Hsum2.out] at hrr
          have := eq_of_class hrr (isF_notN Hwz.out.1)
          subst this
          clear hrr
          have c2 := c1.trans (b2.mono c1.size)
          go_wp2_with fail
          refine (mean_any _ _ _ (zs.map wz) _ (hrow5.below (b1.trans (b2.mono b1.size)))).mono ?_
          rintro e w3 ⟨r, rfl, hrr, b3⟩
          rw [Hmean.out] at hrr
          have c3 := c2.trans (b3.mono c2.size)
          have heq : ∀ q, cn q = fop .quo (cn (wz S)) (cn (wz (k : Int))) → (FloatKind.f64.format.order r q == some .eq) = true := by
            intro q hq
            have h2 : cn q = fdiv (wz S) (nfl k) := by rw [hq]; exact fop_cn .quo _ _
            rw [eq_of_class hrr Hdn.out, eq_of_class h2 Hdn.out]
            exact ford_eq Hdn.out
          have Heq := Lib.hid heq
          clear heq hrr
          obtain ⟨q, nq, hrun, hq⟩ := run_fop (P := Try.prog) w3 .quo (by simp) 23 (wz S) (floatOfInt .f64 (k : Int))
          rw [← fop_cn] at hq
          have hoq := Heq.out q hq
          clear hq
          go_wp2_with fail
          refine (mean_any _ 2 2 [4617315517961601024, 4618441417868443648] _ (row_two _ _ _)).mono ?_
          rintro e w4 ⟨r4, rfl, hrr, b4⟩
          rw [mean_closed] at hrr
          have := eq_of_cn hrr (by decide +kernel)
          subst this
          clear hrr
          have he := ford_eq (r := 4617878467915022336) (by decide +kernel)
          go_wp2_with fail
          go_ret
          exact ⟨rfl, ((c3.drewN' nq).alloc (by have := c3.size; exact this) _).trans (b4.mono (by have := c3.size; simp; omega))⟩

end Go.Proofs.Ytllphokepjekpaa
