/- calc.together: the buckets sorted, those of one bound made one. -/
import Derived.Test.YtllphokepjekpaaHNone
import Derived.Test.YtllphokepjekpaaSortB
import Derived.Test.YtllphokepjekpaaLineAll
import Derived.Test.YtllphokepjekpaaRelTail
namespace Go.Proofs.Ytllphokepjekpaa
open Go.Fl Go.Rel Go.RowKit Go.Sort Go.Lib Go.Stab Go.Shelf

/-- How far the buckets have been taken over. -/
def TakeRel (bs : List Hb) (n : Nat) (w : World) (v3 i : Value) (wr : World) : Prop :=
  ∃ k, k ≤ n ∧ i = .int .i64 (k : Int) ∧ OwnH w.heap.size wr v3 (kept (bs.take k)) ∧ (kept (bs.take k) = [] → v3 = .slice none 0 0) ∧ Below w.heap.size w wr

theorem kept_yes {bs : List Hb} {k : Nat} (h : k < bs.length) (hn : isN (uH bs k) = false) : kept (bs.take (k + 1)) = kept (bs.take k) ++ [hAt bs k] := by
  rw [take_more h, kept_append]
  congr 1
  unfold kept
  have : isN (hAt bs k).u = false := hn
  simp [this]
theorem kept_no {bs : List Hb} {k : Nat} (h : k < bs.length) (hn : isN (uH bs k) = true) : kept (bs.take (k + 1)) = kept (bs.take k) := by
  rw [take_more h, kept_append]
  have : isN (hAt bs k).u = true := hn
  simp [kept, this]

/-- The row that together leaves. -/
def TogRet (S : List Hb) (w : World) (e : Ending) (w' : World) : Prop :=
  ∃ a m c O, e = .returned (.slice a m c) ∧ O.length = m ∧ O.map clsB = S ∧ Below w.heap.size w w' ∧ m ≤ 9223372036854775807 ∧ (0 < m → ∃ g, a = some ⟨g, 0, none⟩ ∧ w.heap.size ≤ g ∧ WR w' g O)

theorem wr_holds {w : World} {g : Nat} {xs : List Hb} (h : WR w g xs) : HoldsK hbCells 2 w g 0 xs.toArray := fun j hj => by
  rw [size_flatK] at hj
  rw [get_flatK _ _ _ _ hj]
  have hj' : j < xs.length * 2 := by simpa using hj
  obtain ⟨c0, c1, f0, f1⟩ := h.2 (j / 2) (by omega)
  have e : xs.toArray[j / 2]! = hAt xs (j / 2) := by
    rw [hAt_get (show j / 2 < xs.length by omega)]
    simp [show j / 2 < xs.length by omega]
  rw [e, Nat.zero_add]
  rcases Nat.mod_two_eq_zero_or_one j with h2 | h2
  · rw [h2, show j = j / 2 * 2 by omega]
    rw [show j / 2 * 2 / 2 = j / 2 by omega]
    exact ⟨c0, f0⟩
  · rw [h2, show j = j / 2 * 2 + 1 by omega]
    rw [show (j / 2 * 2 + 1) / 2 = j / 2 by omega]
    exact ⟨c1, f1⟩

/-- The row sorted in place. -/
theorem sort_rowH (g n c' : Nat) (xs : List Hb) (w : World) (h : WR w g xs) (hl : xs.length = n) (hb : n < 17592186044416) :
    Calls Try.prog 113 #[.slice (some ⟨g, 0, none⟩) n c', .func (.func 114) #[] #[]] w fun e w' => e = .returned (.tuple #[]) ∧ WR w' g (xs.mergeSort leH) ∧ Go.RowKit.Below g w w' := by
  have hsz : xs.toArray.size = n := by simp [hl]
  have := sortStableB (cap := c') hbCells 2 (fun _ => rfl) (fun x v hv => by simp [hbCells] at hv; rcases hv with rfl | rfl <;> rfl) (fun w => by kernel_rfl) (fun w => by kernel_rfl) cmpH swo_cmpH 114 #[] (fun args w => by kernel_rfl) g 0 xs.toArray w (wr_holds h) h.1 (by rw [hsz]; omega) (fun W i j _ => cmpH_any _ _ W)
  rw [hsz] at this
  refine this.mono ?_
  rintro e w' ⟨rfl, hk, ms, hms, hml, hc⟩
  have hms' : ms = xs.mergeSort leH := by rw [hms, leH_eq]
  subst hms'
  refine ⟨rfl, ⟨by have := hk.size; have := h.1; omega, fun i hi => ?_⟩, hk.below h.1⟩
  obtain ⟨a0, b0⟩ := hc i (by omega) 0 (by omega)
  obtain ⟨a1, b1⟩ := hc i (by omega) 1 (by omega)
  simp only [Nat.zero_add, Nat.add_zero] at a0 a1 b0 b1
  exact ⟨a0, a1, b0, b1⟩

/-- How far the row has been made one, in place. -/
def PackRel (s : List Hb) (g : Nat) (w : World) (v6 i : Value) (wr : World) : Prop :=
  ∃ (k j : Nat) (cur : List Hb), j ≤ s.length ∧ v6 = .int .i64 (k : Int) ∧ i = .int .i64 (j : Int) ∧ InPl s j k cur ∧ WR wr g cur ∧ Go.RowKit.Below w.heap.size w wr

set_option maxHeartbeats 4000000 in
set_option maxRecDepth 100000 in
theorem tog_any (a : Option Addr) (n cap : Nat) (bs : List Hb) (w : World) (hr : HRow w a n bs) (hb : n < 8796093022208) :
    Calls Try.prog 88 #[.slice a n cap] w (TogRet (hTog bs) w) := by
  have HR := Lib.hid hr
  have hl := hr.1
  have Hl := Lib.hid hl
  clear hr hl
  go_enter Try.func88, Try.ntmps88
  go_wp2_with fail
  go_loopw [3, 11] (TakeRel bs n w) (fun _ i _ => n - (intOf i).toNat)
  case atStart => exact ⟨0, by omega, rfl, ownH_nil _ _, fun _ => rfl, Below.refl _ _⟩
  case round =>
    obtain ⟨k, hk, rfl, hown, hnil, bw⟩ := hrel
    have HNIL := Lib.hid hnil
    clear hnil
    have hsz := bw.size
    have HO := Lib.hid hown
    clear hown
    by_cases hlt : k < n
    · obtain ⟨b, off, rfl, hcell⟩ := HR.out.2.2 (by omega)
      obtain ⟨c0, c1⟩ := hcell k hlt
      have hblt : b < w.heap.size := World.block_lt_of_cell? w _ c0
      have k0 : wr.cell? ⟨b, off + k * 2, none⟩ = some (.float .f64 (uH bs k)) := by rw [bw.cell (p := ⟨b, off + k * 2, none⟩) hblt]; exact c0
      have k1 : wr.cell? ⟨b, off + k * 2 + 1, none⟩ = some (.float .f64 (cH bs k)) := by rw [bw.cell (p := ⟨b, off + k * 2 + 1, none⟩) hblt]; exact c1
      clear hcell c0 c1
      have hkb : k < bs.length := by have := Hl.out; omega
      have EY := Lib.hid (fun h => kept_yes hkb h)
      have EN := Lib.hid (fun h => kept_no hkb h)
      have hlen : (kept (bs.take k)).length ≤ k := Nat.le_trans (length_kept _) (by rw [List.length_take]; omega)
      have HLEN := Lib.hid hlen
      clear hlen hkb
      generalize htt : uH bs k = uu at *
      generalize hvv : cH bs k = cc at *
      have HAT : Hid (hAt bs k = ⟨uu, cc⟩) := by show _ = _; rw [← htt, ← hvv]; rfl
      clear htt hvv
      cases hn : isN uu
      case true =>
        have HN := Lib.hid (EN.out hn)
        clear EY EN
        go_wp2_with (first | (refine Bk.is_store 46 rfl ?_; refine Bk.wpList_store_box0 rfl 46 _ _ rfl #[.float .f64 uu, .float .f64 cc] #[.float .f64 0, .float .f64 0] 46 rfl rfl (by kernel_rfl) rfl rfl ?_; intro W hI hbW; have q0 := hI.cell 0; have q1 := hI.cell 1; simp at q0 q1) | (go_at_call 66; refine (isnan_any _ _).mono ?_; rintro e w' ⟨rfl, rfl⟩; rw [hn]))
        go_roundw
        case rel => exact ⟨k + 1, by omega, by go_num, by rw [HN.out]; exact HO.out.alloc _, by rw [HN.out]; exact HNIL.out, bw.alloc hsz _⟩
        case measure => simp [intOf]; omega
      case false =>
        have HN := Lib.hid (EY.out hn)
        clear EY EN
        go_wp2_with (first | (refine Bk.is_store 46 rfl ?_; refine Bk.wpList_store_box0 rfl 46 _ _ rfl #[.float .f64 uu, .float .f64 cc] #[.float .f64 0, .float .f64 0] 46 rfl rfl (by kernel_rfl) rfl rfl ?_; intro W hI hbW; have q0 := hI.cell 0; have q1 := hI.cell 1; simp at q0 q1) | (go_at_call 66; refine (isnan_any _ _).mono ?_; rintro e w' ⟨rfl, rfl⟩; rw [hn]) | (at_builtin; refine wpList_append_h rfl (.tmp 19) (.tmp 21) rfl w.heap.size _ _ rfl ((HO.out.alloc _).alloc _) _ _ ⟨uu, cc⟩ rfl ⟨World.cell?_alloc_at _ _ _ _ (by simp), World.cell?_alloc_at _ _ _ _ (by simp)⟩ (by have := HLEN.out; omega) (by simp; omega) ?_; intro v' w' hown' hg hv))
        have bw' := OwnH.below ((HO.out.alloc _).alloc _) ((bw.alloc hsz _).alloc (by simp; omega) _) hg (by simp; omega)
        have HO' := Lib.hid hown'
        clear hown' hg hv
        go_wp2_with fail
        go_roundw
        case rel => exact ⟨k + 1, by omega, by go_num, by rw [HN.out, HAT.out]; exact HO'.out, by rw [HN.out]; simp, bw'⟩
        case measure => simp [intOf]; omega
    · have hkn : k = n := by omega
      subst hkn
      have hall : bs.take k = bs := by rw [← Hl.out, List.take_length]
      rw [hall] at HO HNIL
      have HS : Hid ((kept bs).length ≤ k) := by show _ ≤ _; rw [← Hl.out]; exact length_kept bs
      by_cases hne : kept bs = []
      · obtain rfl := HNIL.out hne
        have HT : Hid (hTog bs = []) := by show _ = _; unfold hTog; rw [hne]; simp [hOne]
        clear hall HNIL HO
        go_wp2_with fail
        refine (sort_none _ _ _).mono ?_
        rintro e w1 ⟨rfl, rfl⟩
        go_wp2_with fail
        go_loopw [6, 28] (fun v u wr' => v = .int .i64 0 ∧ u = .int .i64 0 ∧ wr' = w1) (fun _ _ _ => 0)
        case atStart => exact ⟨rfl, rfl, rfl⟩
        case round =>
          obtain ⟨rfl, rfl, rfl⟩ := hrel
          go_wp2_with fail
          go_ret
          exact ⟨_, _, _, [], rfl, rfl, HT.out.symm, bw, by omega, fun h => by omega⟩
      · have hpos : 0 < (kept bs).length := List.length_pos_iff.2 hne
        obtain ⟨g, c', rfl, hg0, hg1, hg2, hg3, hw⟩ := HO.out.form hpos
        have SRT := fun w1 (h : WR w1 g (kept bs)) => sort_rowH g (kept bs).length c' (kept bs) w1 h rfl (by have := HS.out; omega)
        have HSRT := Lib.hid SRT
        have HW := Lib.hid hw
        have HT : Hid (hTog bs = hOne ((kept bs).mergeSort leH)) := rfl
        have HSL : Hid (((kept bs).mergeSort leH).length = (kept bs).length) := List.length_mergeSort _
        clear SRT hw hall HNIL HO hne
        generalize (kept bs).mergeSort leH = s at *
        generalize (kept bs).length = m at *
        go_wp2_with fail
        refine (HSRT.out _ HW.out).mono ?_
        rintro e w1 ⟨rfl, W1, b1⟩
        have bw1 : Go.RowKit.Below w.heap.size w w1 := bw.trans (b1.mono hg0)
        have HW1 := Lib.hid W1
        clear W1 HSRT HW bw
        go_wp2_with fail
        go_loopw [6, 28] (PackRel s g w) (fun _ i _ => m - (intOf i).toNat)
        case atStart => exact ⟨0, 0, s, by omega, rfl, rfl, inpl_start s, HW1.out, bw1⟩
        case round =>
          clear HW1
          obtain ⟨k2, j, cur, hj, rfl, rfl, hin, hwr, bw⟩ := hrel
          have hsm := HSL.out
          have hsz2 := bw.size
          have hkj := hin.2.1
          have hcl := hin.1
          have HIN := Lib.hid hin
          have HWR := Lib.hid hwr
          clear hin hwr
          by_cases hjm : j < m
          · have hjs : j < s.length := by omega
            obtain ⟨k0, k1, _, _⟩ := HWR.out.2 j (by omega)
            have e1 : uH cur j = uH s j := by unfold uH; rw [HIN.out.2.2.2 j (Nat.le_refl _)]
            have e2 : cH cur j = cH s j := by unfold cH; rw [HIN.out.2.2.2 j (Nat.le_refl _)]
            rw [e1] at k0
            rw [e2] at k1
            have HADD := Lib.hid (fun r h0 hs hr => HIN.out.add (r := r) hjs h0 hs hr)
            have HNEW := Lib.hid (fun h => HIN.out.new hjs h)
            clear e1 e2
            generalize htt : uH s j = uu at *
            generalize hvv : cH s j = cc at *
            have HAT : Hid (hAt s j = ⟨uu, cc⟩) := by show _ = _; rw [← htt, ← hvv]; rfl
            clear htt hvv
            have hglt := HWR.out.1
            have hkm : (k2 : Int) < (m : Int) := by omega
            by_cases hk0 : k2 = 0
            · have hkz : decide (0 < k2) = false := decide_eq_false (by omega)
              have HN := Lib.hid (HNEW.out (.inl hk0))
              clear HNEW HADD HIN hk0
              go_wp2_with fail
              have hbx : Go.RowKit.Below wr.heap.size wr (wr.alloc (.cells #[.float .f64 uu, .float .f64 cc] 46)) := (Go.RowKit.Below.refl _ _).alloc (Nat.le_refl _) _
              have HWR2 := Lib.hid (HWR.out.alloc (.cells #[.float .f64 uu, .float .f64 cc] 46))
              have q0 : (wr.alloc (.cells #[.float .f64 uu, .float .f64 cc] 46)).cell? ⟨wr.heap.size, 0, none⟩ = some (.float .f64 uu) := by rw [World.cell?_alloc_at _ _ _ _ rfl]; rfl
              have q1 : (wr.alloc (.cells #[.float .f64 uu, .float .f64 cc] 46)).cell? ⟨wr.heap.size, 1, none⟩ = some (.float .f64 cc) := by rw [World.cell?_alloc_at _ _ _ _ rfl]; rfl
              have bw2 := bw.trans (hbx.mono hsz2)
              generalize wr.alloc (.cells #[.float .f64 uu, .float .f64 cc] 46) = W at *
              clear hbx
              go_quiet (fail)
              obtain ⟨d0, d1, g0, g1⟩ := HWR2.out.2 k2 (by omega)
              go_wp2_with fail
              go_roundw
              case rel => exact ⟨k2 + 1, j + 1, _, by omega, by go_num, by go_num, HN.out, by rw [HAT.out]; exact (HWR2.out.drewN nq).setB k2 ⟨uu, cc⟩ (by omega), by exact below_setCells (bw2.drewN' nq) (k := g) hg0 [.float .f64 uu, .float .f64 cc] _⟩
              case measure => simp [intOf]; omega
            · obtain ⟨p, rfl⟩ : ∃ p, k2 = p + 1 := ⟨k2 - 1, by omega⟩
              have hkz : decide (0 < p + 1) = true := decide_eq_true (by omega)
              obtain ⟨p0, p1, _, p3⟩ := HWR.out.2 p (by omega)
              have HP := Lib.hid (show p + 1 - 1 = p by omega)
              rw [HP.out] at HADD HNEW
              cases he : (ford (uH cur p) uu == some .eq)
              · have HN := Lib.hid (HNEW.out (.inr he))
                have he' : (FloatKind.f64.format.order (uH cur p) uu == some .eq) = false := he
                clear HNEW HADD HIN hk0 he
                go_wp2_with fail
                have hbx : Go.RowKit.Below wr.heap.size wr (wr.alloc (.cells #[.float .f64 uu, .float .f64 cc] 46)) := (Go.RowKit.Below.refl _ _).alloc (Nat.le_refl _) _
                have HWR2 := Lib.hid (HWR.out.alloc (.cells #[.float .f64 uu, .float .f64 cc] 46))
                have q0 : (wr.alloc (.cells #[.float .f64 uu, .float .f64 cc] 46)).cell? ⟨wr.heap.size, 0, none⟩ = some (.float .f64 uu) := by rw [World.cell?_alloc_at _ _ _ _ rfl]; rfl
                have q1 : (wr.alloc (.cells #[.float .f64 uu, .float .f64 cc] 46)).cell? ⟨wr.heap.size, 1, none⟩ = some (.float .f64 cc) := by rw [World.cell?_alloc_at _ _ _ _ rfl]; rfl
                have bw2 := bw.trans (hbx.mono hsz2)
                generalize wr.alloc (.cells #[.float .f64 uu, .float .f64 cc] 46) = W at *
                clear hbx
                have p0' : W.cell? ⟨g, p * 2, none⟩ = some (.float .f64 (uH cur p)) := (HWR2.out.2 p (by omega)).1
                have p1' : W.cell? ⟨g, p * 2 + 1, none⟩ = some (.float .f64 (cH cur p)) := (HWR2.out.2 p (by omega)).2.1
                have p3' : W.frozen? ⟨g, p * 2 + 1, none⟩ = false := (HWR2.out.2 p (by omega)).2.2.2
                go_quiet (fail)
                obtain ⟨d0, d1, g0, g1⟩ := HWR2.out.2 (p + 1) (by omega)
                go_wp2_with fail
                go_roundw
                case rel => exact ⟨p + 1 + 1, j + 1, _, by omega, by go_num, by go_num, HN.out, by rw [HAT.out]; exact (HWR2.out.drewN nq).setB (p + 1) ⟨uu, cc⟩ (by omega), by exact below_setCells (bw2.drewN' nq) (k := g) hg0 [.float .f64 uu, .float .f64 cc] _⟩
                case measure => simp [intOf]; omega
              · have he' : (FloatKind.f64.format.order (uH cur p) uu == some .eq) = true := he
                have HN := Lib.hid (fun r => HADD.out r (by omega) he)
                clear HNEW HADD HIN hk0 he
                go_wp2_with fail
                have hbx : Go.RowKit.Below wr.heap.size wr (wr.alloc (.cells #[.float .f64 uu, .float .f64 cc] 46)) := (Go.RowKit.Below.refl _ _).alloc (Nat.le_refl _) _
                have HWR2 := Lib.hid (HWR.out.alloc (.cells #[.float .f64 uu, .float .f64 cc] 46))
                have q0 : (wr.alloc (.cells #[.float .f64 uu, .float .f64 cc] 46)).cell? ⟨wr.heap.size, 0, none⟩ = some (.float .f64 uu) := by rw [World.cell?_alloc_at _ _ _ _ rfl]; rfl
                have q1 : (wr.alloc (.cells #[.float .f64 uu, .float .f64 cc] 46)).cell? ⟨wr.heap.size, 1, none⟩ = some (.float .f64 cc) := by rw [World.cell?_alloc_at _ _ _ _ rfl]; rfl
                have bw2 := bw.trans (hbx.mono hsz2)
                generalize wr.alloc (.cells #[.float .f64 uu, .float .f64 cc] 46) = W at *
                clear hbx
                have p0' : W.cell? ⟨g, p * 2, none⟩ = some (.float .f64 (uH cur p)) := (HWR2.out.2 p (by omega)).1
                have p1' : W.cell? ⟨g, p * 2 + 1, none⟩ = some (.float .f64 (cH cur p)) := (HWR2.out.2 p (by omega)).2.1
                have p3' : W.frozen? ⟨g, p * 2 + 1, none⟩ = false := (HWR2.out.2 p (by omega)).2.2.2
                go_quiet (fail)
                go_wp2_with fail
                refine wp_region_rel_tail (fun wd => ∃ nd, wd = W.drewN nd) (fun _ _ _ => False) (by kernel_rfl) (by kernel_rfl) rfl rfl (by repeat (first | exact ⟨_, rfl⟩ | refine drew_class _ _ ?_ | refine drewN_class _ _ _ ?_)) ?_
                dsimp only [List.dropLast]
                repeat (first | (refine wpRel_fop _ _ _ _ _ _ _ rfl rfl rfl rfl (drewN_class W) ?_; intro r hr9; go_big_quiet_step (fail); refine wpQuiet_nil ?_) | (refine wpRel_quiet rfl ?_; go_big_quiet_step (fail); refine wpQuiet_nil ?_))
                refine wpRel_nil ?_
                rintro w2 ⟨m1, rfl⟩
                have HR9 := Lib.hid hr9
                clear hr9
                go_wp2_with fail
                go_roundw
                case rel => exact ⟨p + 1, j + 1, _, by omega, by go_num, by go_num, HN.out r HR9.out, (HWR2.out.drewN m1).setC p r (by omega), (bw2.drewN' m1).setCell (p := ⟨g, p * 2 + 1, none⟩) hg0 _⟩
                case measure => simp [intOf]; omega
          · have hjm' : j = m := by omega
            subst hjm'
            have hkl : k2 ≤ cur.length := by omega
            have HMS : Hid (cur.length = j) := by show _ = _; omega
            go_wp2_with fail
            go_ret
            have hmd := HIN.out.2.2.1
            rw [← HSL.out] at hmd
            have e := hmd.done
            refine ⟨_, _, _, cur.take k2, rfl, by rw [List.length_take]; omega, by rw [HT.out]; exact e, bw, by omega, fun _ => ⟨g, rfl, hg0, HWR.out.1, fun i hi => ?_⟩⟩
            rw [List.length_take] at hi
            unfold uH cH
            rw [hAt_take _ (by omega)]
            exact HWR.out.2 i (by omega)
end Go.Proofs.Ytllphokepjekpaa
