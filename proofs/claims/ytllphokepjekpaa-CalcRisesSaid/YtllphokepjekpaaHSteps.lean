/- weirref06.Steps: the buckets, one a bound, their counts not falling. -/
import Derived.Test.YtllphokepjekpaaHSort
import Derived.Test.YtllphokepjekpaaRelTail
namespace Go.Proofs.Ytllphokepjekpaa
open Go.Fl Go.Rel Go.RowKit

def stepsS (S : List Hb) : List Hb := if hSound S = true then levels S else []

/-- A row of these classes. -/
def ClsRow (S : List Hb) (w : World) (e : Ending) (w' : World) : Prop :=
  ∃ a' m c' O, e = .returned (.slice a' m c') ∧ O.map clsB = S ∧ HRow w' a' m O ∧ Below w.heap.size w w'

def OneRel (s : List Hb) (w : World) (v3 i : Value) (wr : World) : Prop :=
  ∃ (j : Nat) (O : List Hb), i = .int .i64 (j : Int) ∧ Made s j O ∧ OwnH w.heap.size wr v3 O ∧ Below w.heap.size w wr

def LvlRel (S : List Hb) (g : Nat) (w : World) (t i : Value) (wr : World) : Prop :=
  ∃ (j top : Nat) (cur : List Hb), t = .float .f64 top ∧ i = .int .i64 (j : Int) ∧ LvR S j top cur ∧ WR wr g cur ∧ Below w.heap.size w wr

set_option maxHeartbeats 8000000 in
set_option maxRecDepth 100000 in
theorem steps_any (a : Option Addr) (n cap : Nat) (bs : List Hb) (w : World) (hr : HRow w a n bs) (hs : SlOk a n cap) (hb : n < 8796093022208) :
    Calls Try.prog 90 #[.slice a n cap] w (ClsRow (stepsS (hTog bs)) w) := by
  have HSRT := Lib.hid (sortH_any n a n cap bs w (Nat.le_refl _) hr hs hb)
  have HT : Hid (hTog bs = hOne ((kept bs).mergeSort leH)) := rfl
  have HSL : Hid (((kept bs).mergeSort leH).length ≤ n) := by
    show _ ≤ _; rw [List.length_mergeSort]; exact Nat.le_trans (length_kept bs) (by rw [hr.1]; exact Nat.le_refl _)
  generalize hTog bs = S at *
  generalize (kept bs).mergeSort leH = s at *
  clear hr hs
  go_enter Try.func90, Try.ntmps90
  go_wp2_with fail
  refine HSRT.out.mono ?_
  rintro e w1 ⟨a1, c1, rfl, ok1, r1, b1⟩
  obtain ⟨m, hm⟩ : ∃ m, m = s.length := ⟨_, rfl⟩
  rw [← hm] at ok1 r1 ⊢
  have HM := Lib.hid hm
  have HR1 := Lib.hid r1
  have B1 := Lib.hid b1
  clear HSRT ok1 r1 b1 hm
  go_wp2_with fail
  go_loopw [3, 5] (OneRel s w1) (fun _ i _ => m - (intOf i).toNat)
  case atStart => exact ⟨0, [], rfl, made_nil s, ownH_nil _ _, Below.refl _ _⟩
  case round =>
    obtain ⟨j, O, rfl, hmade, hown, bw⟩ := hrel
    have hsz := bw.size
    have hjl := hmade.1
    have hol := hmade.len
    have hms1 : m ≤ s.length := Nat.le_of_eq HM.out
    have hms2 : s.length ≤ m := Nat.le_of_eq HM.out.symm
    have hmn := HSL.out
    have HMD := Lib.hid hmade
    have HO := Lib.hid hown
    clear hmade hown
    by_cases hjm : j < m
    · have hjs : j < s.length := by omega
      obtain ⟨b, off, rfl, hcell⟩ := HR1.out.2.2 (by omega)
      obtain ⟨c0, c1'⟩ := hcell j hjm
      have hblt : b < w1.heap.size := World.block_lt_of_cell? w1 _ c0
      have k0 : wr.cell? ⟨b, off + j * 2, none⟩ = some (.float .f64 (uH s j)) := by rw [bw.cell (p := ⟨b, off + j * 2, none⟩) hblt]; exact c0
      have k1 : wr.cell? ⟨b, off + j * 2 + 1, none⟩ = some (.float .f64 (cH s j)) := by rw [bw.cell (p := ⟨b, off + j * 2 + 1, none⟩) hblt]; exact c1'
      have HADD := Lib.hid (fun r hs hr => HMD.out.add (r := r) hjs hs hr)
      have HNEW := Lib.hid (fun h => HMD.out.new hjs h)
      clear hcell c0 c1'
      generalize htt : uH s j = uu at *
      generalize hvv : cH s j = cc at *
      have HAT : Hid (hAt s j = ⟨uu, cc⟩) := by show _ = _; rw [← htt, ← hvv]; rfl
      clear htt hvv
      by_cases h0 : O.length = 0
      · obtain rfl : O = [] := List.eq_nil_of_length_eq_zero h0
        obtain ⟨a3, c3, rfl, _, _⟩ := HO.out.row'
        have HN := Lib.hid (HNEW.out (by simp [same1]))
        clear HNEW HADD HMD h0 hol
        rw [List.length_nil] at HO ⊢
        have hz2 : decide ((0 : Int) < 0) = false := by decide
        go_wp2_with fail
        go_quiet (fail)
        go_wp2_with (at_builtin; refine wpList_append_h rfl (.tmp 53) (.tmp 58) rfl w1.heap.size (.slice a3 0 c3) [] rfl (OwnH.alloc (OwnH.drewN HO.out nq) _) wr.heap.size _ ⟨uu, cc⟩ rfl ⟨World.cell?_alloc_at _ _ _ _ rfl, World.cell?_alloc_at _ _ _ _ rfl⟩ (by simp) (by simp; omega) ?_; intro v' w' hown' hg hv)
        have bw' := OwnH.below (OwnH.alloc (OwnH.drewN HO.out nq) _) ((bw.drewN' nq).alloc (by exact hsz) _) hg (by simp; omega)
        have HO' := Lib.hid hown'
        clear hown' hg hv
        go_wp2_with fail
        go_roundw
        case rel => exact ⟨j + 1, _, by go_num, HN.out, by rw [HAT.out]; exact HO'.out, bw'⟩
        case measure => simp [intOf]; omega
      · obtain ⟨g, c3, rfl, hg0, hg1, hg2, hg3, hwr⟩ := HO.out.form (by omega)
        obtain ⟨p, hp⟩ : ∃ p, O.length = p + 1 := ⟨O.length - 1, by omega⟩
        obtain ⟨p0, p1, _, p3⟩ := hwr.2 p (by omega)
        have hhz : decide (0 < p + 1) = true := decide_eq_true (by omega)
        have HSM : Hid (same1 O uu = (ford (uH O p) uu == some .eq)) := by
          show _ = _
          unfold same1; rw [hp]; simp
        have HP := Lib.hid hp
        cases he : (ford (uH O p) uu == some .eq)
        · have HN := Lib.hid (HNEW.out (by rw [HSM.out]; exact he))
          have he' : (FloatKind.f64.format.order (uH O p) uu == some .eq) = false := he
          clear HNEW HADD HMD h0 he hwr
          rw [hp] at HO hg2 hg3 hol ⊢
          clear hp
          go_wp2_with fail
          go_quiet (fail)
          go_wp2_with (at_builtin; refine wpList_append_h rfl (.tmp 53) (.tmp 58) rfl w1.heap.size (.slice (some ⟨g, 0, none⟩) (p + 1) c3) O rfl (OwnH.alloc (OwnH.drewN HO.out nq) _) wr.heap.size _ ⟨uu, cc⟩ rfl ⟨World.cell?_alloc_at _ _ _ _ rfl, World.cell?_alloc_at _ _ _ _ rfl⟩ (by rw [HP.out]; omega) (by simp; omega) ?_; intro v' w' hown' hg hv)
          have bw' := OwnH.below (OwnH.alloc (OwnH.drewN HO.out nq) _) ((bw.drewN' nq).alloc (by exact hsz) _) hg (by simp; omega)
          have HO' := Lib.hid hown'
          clear hown' hg hv
          go_wp2_with fail
          go_roundw
          case rel => exact ⟨j + 1, _, by go_num, HN.out, by rw [HAT.out]; exact HO'.out, bw'⟩
          case measure => simp [intOf]; omega
        · have HN := Lib.hid (fun r => HADD.out r (by rw [HSM.out]; exact he))
          have he' : (FloatKind.f64.format.order (uH O p) uu == some .eq) = true := he
          clear HNEW HADD HMD h0 he hwr
          rw [hp] at HO hg2 hg3 hol ⊢
          clear hp
          go_wp2_with fail
          go_quiet (fail)
          go_wp2_with fail
          refine wp_region_rel_tail (fun wd => ∃ nd, wd = wr.drewN nd) (fun _ _ _ => False) (by kernel_rfl) (by kernel_rfl) rfl rfl (by repeat (first | exact ⟨_, rfl⟩ | refine drew_class _ _ ?_ | refine drewN_class _ _ _ ?_)) ?_
          dsimp only [List.dropLast]
          repeat (first | (refine wpRel_fop _ _ _ _ _ _ _ rfl rfl rfl rfl (drewN_class wr) ?_; intro r hr9; go_big_quiet_step (fail); refine wpQuiet_nil ?_) | (refine wpRel_quiet rfl ?_; go_big_quiet_step (fail); refine wpQuiet_nil ?_))
          refine wpRel_nil ?_
          rintro w2 ⟨m1, rfl⟩
          have HR9 := Lib.hid hr9
          clear hr9
          go_wp2_with fail
          have hset := OwnH.setC (HO.out.drewN m1) HP.out p r (by rw [HP.out]; omega)
          have HSET := Lib.hid hset
          clear hset
          go_roundw
          case rel =>
            have h1 := HN.out r (by rw [HP.out]; exact HR9.out)
            rw [HP.out, show p + 1 - 1 = p by omega] at h1
            exact ⟨j + 1, _, by go_num, h1, HSET.out, (bw.drewN' m1).setCell (p := ⟨g, p * 2 + 1, none⟩) hg0 _⟩
          case measure => simp [intOf]; omega
    · have hjm' : j = m := by omega
      have hd : O.map clsB = S := by
        have h1 := HMD.out
        rw [hjm', HM.out] at h1
        rw [HT.out]; exact h1.done
      have hSl : S.length = O.length := by rw [← hd, List.length_map]
      have HD := Lib.hid hd
      clear hd
      by_cases h2 : O.length < 2
      · have hsn : stepsS S = [] := by
          unfold stepsS hSound
          rw [hSl, decide_eq_false (by omega)]; rfl
        have HSN := Lib.hid hsn
        clear hsn
        obtain ⟨a3, c3, rfl, _, _⟩ := HO.out.row'
        have hz : decide (O.length < 2) = true := decide_eq_true h2
        generalize O.length = L at *
        go_wp2_with fail
        go_ret
        exact ⟨none, 0, 0, [], rfl, HSN.out.symm, HRow.nothing _, B1.out.trans (bw.mono B1.out.size)⟩
      · obtain ⟨g, c3, rfl, hg0, hg1, hg2, hg3, hwr⟩ := HO.out.form (by omega)
        obtain ⟨p, hp⟩ : ∃ p, O.length = p + 2 := ⟨O.length - 2, by omega⟩
        obtain ⟨p0, p1, _, p3⟩ := hwr.2 (p + 1) (by omega)
        obtain ⟨t0, t1, _, _⟩ := hwr.2 0 (by omega)
        have hSo : hSound S = (FloatKind.f64.format.order (uH O (p + 1)) 9218868437227405311 == some .gt) := by
          unfold hSound
          rw [hSl, hp, ← HD.out, uH_map, decide_eq_true (by omega), Bool.true_and]; rfl
        have HP := Lib.hid hp
        have HWR := Lib.hid hwr
        have hz : decide (p + 2 < 2) = false := decide_eq_false (by omega)
        cases ho : (FloatKind.f64.format.order (uH O (p + 1)) 9218868437227405311 == some .gt)
        · have hsn : stepsS S = [] := by
            unfold stepsS; rw [hSo, ho]; rfl
          have HSN := Lib.hid hsn
          clear hSo hwr hsn
          rw [hp] at HO hg2 hg3 hol ⊢
          clear hp
          go_wp2_with fail
          go_ret
          exact ⟨none, 0, 0, [], rfl, HSN.out.symm, HRow.nothing _, B1.out.trans (bw.mono B1.out.size)⟩
        · have hsn : stepsS S = levels S := by
            unfold stepsS; rw [hSo, ho]; rfl
          have HSN := Lib.hid hsn
          have HS0 := Lib.hid (lvr_start HD.out (by omega))
          have HSL2 : Hid (S.length = p + 2) := by show _ = _; omega
          clear hSo hwr hsn hSl
          rw [hp] at HO hg2 hg3 hol ⊢
          clear hp
          go_wp2_with fail
          go_loopw [6, 7] (LvlRel S g w) (fun _ i _ => p + 2 - (intOf i).toNat)
          case atStart => exact ⟨1, cH O 0, O, rfl, rfl, HS0.out, HWR.out, B1.out.trans (bw.mono B1.out.size)⟩
          case round =>
            clear HS0 HWR p0 p1 p3 t0 t1
            obtain ⟨i, top, cur, rfl, rfl, hlv, hwr, bw2⟩ := hrel
            have hcl := hlv.1
            have hil := hlv.2.1
            have hS2 : S.length ≤ p + 2 := Nat.le_of_eq HSL2.out
            have hS3 : p + 2 ≤ S.length := Nat.le_of_eq HSL2.out.symm
            have hg5 : w.heap.size ≤ g := Nat.le_trans B1.out.size hg0
            have HLV := Lib.hid hlv
            have HWR := Lib.hid hwr
            clear hlv hwr
            by_cases hi : i < p + 2
            · obtain ⟨_, k1, _, k3⟩ := HWR.out.2 i (by omega)
              have hiS : i < S.length := by omega
              have hiL : i < cur.length := by omega
              cases h1 : (ford (cH cur i) top == some .lt)
              · have h1' : (FloatKind.f64.format.order (cH cur i) top == some .lt) = false := h1
                cases h3 : (ford (cH cur i) top == some .gt)
                · have h3' : (FloatKind.f64.format.order (cH cur i) top == some .gt) = false := h3
                  have HN := Lib.hid (HLV.out.eq hiS h1 h3)
                  clear h1 h3
                  go_wp2_with fail
                  go_roundw
                  case rel => exact ⟨i + 1, top, cur, rfl, by go_num, HN.out, HWR.out, bw2⟩
                  case measure => simp [intOf]; omega
                · have h3' : (FloatKind.f64.format.order (cH cur i) top == some .gt) = true := h3
                  have HN := Lib.hid (HLV.out.gt hiS h1 h3)
                  clear h1 h3
                  go_wp2_with fail
                  go_roundw
                  case rel => exact ⟨i + 1, cH cur i, cur, rfl, by go_num, HN.out, HWR.out, bw2⟩
                  case measure => simp [intOf]; omega
              · have h1' : (FloatKind.f64.format.order (cH cur i) top == some .lt) = true := h1
                have HN := Lib.hid (HLV.out.lt hiS h1)
                clear h1
                go_wp2_with fail
                go_roundw
                case rel => exact ⟨i + 1, top, _, rfl, by go_num, HN.out, HWR.out.setC i top hiL, bw2.setCell (p := ⟨g, i * 2 + 1, none⟩) hg5 _⟩
                case measure => simp [intOf]; omega
            · have hi' : i = p + 2 := by omega
              have hc2 : cur.length = p + 2 := by omega
              have HC2 := Lib.hid hc2
              clear hc2
              have hdn := HLV.out
              rw [hi', ← HSL2.out] at hdn
              have HDN := Lib.hid hdn.done
              clear hdn
              go_wp2_with fail
              go_ret
              have hh := HWR.out.hrow (by rw [HC2.out]; omega)
              rw [HC2.out] at hh
              exact ⟨_, _, _, cur, rfl, by rw [HDN.out, HSN.out], hh, bw2⟩
end Go.Proofs.Ytllphokepjekpaa
