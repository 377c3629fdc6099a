/- weirref06.Sort: a new row that holds the buckets without NaN bounds, sorted by merging. -/
import Derived.Test.YtllphokepjekpaaHPlain
import Derived.Test.YtllphokepjekpaaSmallQ
import Derived.Test.YtllphokepjekpaaLineAll
import Derived.Deep.QuietTactic
import Derived.BigQuiet
import Derived.Deep.RegionHeld3
namespace Go.Proofs.Ytllphokepjekpaa
open Go.Fl Go.Rel Go.RowKit

/-- A row of the call's own that holds these. -/
def NewRowH (ys : List Hb) (w : World) (e : Ending) (w' : World) : Prop :=
  ∃ a' c', e = .returned (.slice a' ys.length c') ∧ SlOk a' ys.length c' ∧ HRow w' a' ys.length ys ∧ Below w.heap.size w w'

def lenOfH (v : Value) : Nat := match v with | .slice _ n _ => n | _ => 0

theorem le_both {x y : Nat} (hx : isN x = false) (hy : isN y = false) : (FloatKind.f64.format.order x y == some .lt || FloatKind.f64.format.order x y == some .eq) = leF x y := by
  have h : FloatKind.f64.format.order x y = some (compare (pl x) (pl y)) := ford_pl hx hy
  rw [h]
  unfold leF
  rcases Int.lt_trichotomy (pl x) (pl y) with g | g | g
  · rw [Std.compare_eq_lt.2 g, decide_eq_true (by omega)]; rfl
  · rw [g, show compare (pl y) (pl y) = .eq from Std.ReflCmp.compare_self, decide_eq_true (by omega)]; rfl
  · rw [Std.compare_eq_gt.2 g, decide_eq_false (by omega)]; rfl

theorem sortH_small (a : Option Addr) (n cap : Nat) (xs : List Hb) (w : World) (hr : HRow w a n xs) (hn : n < 2) :
    Calls Try.prog 115 #[.slice a n cap] w (NewRowH ((kept xs).mergeSort leH) w) := by
  have hl := hr.1
  match n, xs, hl with
  | 0, [], _ =>
    rw [show (kept []).mergeSort leH = [] by simp [kept]]
    clear hr
    go_enter Try.func115, Try.ntmps115
    go_wp2_with fail
    go_ret
    exact ⟨none, 0, rfl, ⟨by omega, fun _ => rfl⟩, HRow.nothing _, Below.refl _ _⟩
  | 1, [x], _ =>
    obtain ⟨b, off, rfl, hblt, c0, c1⟩ := hr.head
    obtain ⟨uu, cc⟩ := x
    dsimp only at c0 c1
    cases hn : isN uu
    case true =>
      have hk : (kept [⟨uu, cc⟩]).mergeSort leH = [] := by simp [kept, hn]
      rw [hk]
      clear hr hk
      go_enter Try.func115, Try.ntmps115
      go_wp2_with (go_at_call 77; refine (bad_any _ _).mono ?_; rintro e w' ⟨rfl, rfl⟩; rw [hn])
      go_ret
      exact ⟨none, 0, rfl, ⟨by simp, fun _ => rfl⟩, HRow.nothing _, Below.refl _ _⟩
    case false =>
      have hk : (kept [⟨uu, cc⟩]).mergeSort leH = [⟨uu, cc⟩] := by simp [kept, hn]
      rw [hk]
      clear hr hk
      go_enter Try.func115, Try.ntmps115
      go_wp2_with (go_at_call 77; refine (bad_any _ _).mono ?_; rintro e w' ⟨rfl, rfl⟩; rw [hn])
      go_ret
      refine ⟨some ⟨w.heap.size, 0, none⟩, 1, rfl, ⟨by simp, fun h => by cases h⟩, ⟨rfl, by simp, fun _ => ⟨_, _, rfl, fun i hi => ?_⟩⟩, (Below.refl _ _).alloc (Nat.le_refl _) _⟩
      obtain rfl : i = 0 := by simpa using hi
      exact ⟨by rw [World.cell?_alloc_at _ _ _ _ rfl]; rfl, by rw [World.cell?_alloc_at _ _ _ _ rfl]; rfl⟩
/-- How far the merging is. -/
def MergeRelH (target : List Hb) (w0 : World) (v3 v4 v5 : Value) (wr : World) : Prop :=
  ∃ aa ca na A ab cb nb C O, v3 = .slice aa na ca ∧ v4 = .slice ab nb cb ∧ SlOk aa na ca ∧ SlOk ab nb cb ∧ HRow w0 aa na A ∧ HRow w0 ab nb C ∧
    OwnH w0.heap.size wr v5 O ∧ Below w0.heap.size w0 wr ∧ O ++ List.merge A C leH = target ∧ (∀ x ∈ A, isN x.u = false) ∧ (∀ x ∈ C, isN x.u = false)

set_option maxHeartbeats 4000000 in
set_option maxRecDepth 100000 in
theorem sortH_any : ∀ (N : Nat) (a : Option Addr) (n cap : Nat) (xs : List Hb) (w : World), n ≤ N → HRow w a n xs → SlOk a n cap → n < 8796093022208 →
    Calls Try.prog 115 #[.slice a n cap] w (NewRowH ((kept xs).mergeSort leH) w) := by
  intro N
  induction N with
  | zero => intro a n cap xs w hN hr hs _; exact sortH_small a n cap xs w hr (by omega)
  | succ N ih =>
    intro a n cap xs w hN hr hs hreach
    by_cases hn2 : n < 2
    · exact sortH_small a n cap xs w hr hn2
    obtain ⟨b, off, rfl, _⟩ := hr.2.2 (by omega)
    have hm := hr.2.1
    have hcap := hs.1
    have e0 : ((n : Int) == 0) = false := by simp; omega
    have e1 : ((n : Int) == 1) = false := by simp; omega
    have e2 : ¬ n = 0 := by omega
    have e3 : ¬ n = 1 := by omega
    obtain ⟨p, hp⟩ : ∃ p, p = n / 2 := ⟨_, rfl⟩
    obtain ⟨m, hmm⟩ : ∃ m, m = n - p := ⟨_, rfl⟩
    have hdiv : (n : Int) / 2 = (p : Int) := by omega
    have hR1 := hr.take (k := p) (by omega)
    have hR2 := hr.drop (k := p) (by omega)
    rw [← hmm] at hR2
    have HR1 := Lib.hid hR1
    have HR2 := Lib.hid hR2
    have HM := Lib.hid (merge_sorts leH leH_trans leH_total (kept (xs.take p)) (kept (xs.drop p)))
    rw [← kept_append, List.take_append_drop] at HM
    have H1 := fun w1 (h : HRow w1 (some ⟨b, off, none⟩) p (xs.take p)) => ih (some ⟨b, off, none⟩) p cap (xs.take p) w1 (by omega) h ⟨by omega, fun h => by cases h⟩ (by omega)
    have H2 := fun w1 (h : HRow w1 (some ⟨b, off + p * 2, none⟩) m (xs.drop p)) => ih (some ⟨b, off + p * 2, none⟩) m (cap - p) (xs.drop p) w1 (by omega) h ⟨by omega, fun h => by cases h⟩ (by omega)
    have HH1 : Hid (∀ w1, HRow w1 (some ⟨b, off, none⟩) p (xs.take p) → _) := H1
    have HH2 : Hid (∀ w1, HRow w1 (some ⟨b, off + p * 2, none⟩) m (xs.drop p) → _) := H2
    have hq : IntKind.i64.wrap ((n : Int) / 2) = (n : Int) / 2 := by rw [IntKind.wrap_i64]; omega
    have hs1 := slice_hiH b off n cap p ((n : Int) / 2) hdiv (by omega)
    have hs2 := slice_loH b off n cap p ((n : Int) / 2) hdiv (by omega) (by omega)
    rw [← hmm] at hs2
    have hpn : p + m = n := by omega
    have hA : ∀ x ∈ (kept (xs.take p)).mergeSort leH, isN x.u = false := fun x hx => kept_nan (List.mem_mergeSort.1 hx)
    have hC : ∀ x ∈ (kept (xs.drop p)).mergeSort leH, isN x.u = false := fun x hx => kept_nan (List.mem_mergeSort.1 hx)
    have LT : Hid (((kept xs).mergeSort leH).length ≤ n) := by
      show _ ≤ _; rw [List.length_mergeSort]; exact Nat.le_trans (length_kept xs) (by rw [hr.1]; exact Nat.le_refl _)
    generalize (kept (xs.take p)).mergeSort leH = A0 at *
    generalize (kept (xs.drop p)).mergeSort leH = C0 at *
    generalize (kept xs).mergeSort leH = target at *
    have HA := Lib.hid hA
    have HC := Lib.hid hC
    have HPN := Lib.hid hpn
    clear hdiv H1 H2 ih hR1 hR2 hp hmm hr hs hA hC hN hcap hpn
    go_enter Try.func115, Try.ntmps115
    go_wp2_with fail
    have B0 : Below w.heap.size w w.drew := (Below.refl _ _).drewN' 1
    go_region_held3 (fun w' => Below w.heap.size w w') (first | assumption | exact B0) (first | (go_at_call 115; (with_reducible refine (HH1.out _ (HR1.out.below (by assumption))).mono ?_); rintro e w1 ⟨a1, c1, rfl, ok1, r1, b1⟩; have s1 : Below w.heap.size w w1 := (B0.trans (b1.mono (by have := B0.size; first | assumption | omega)))) | (go_at_call 115; (with_reducible refine (HH2.out _ (HR2.out.below (by assumption))).mono ?_); rintro e w2 ⟨a2, c2, rfl, ok2, r2, b2⟩; have s2 : Below w.heap.size w w2 := s1.trans (b2.mono s1.size)))
    have r1' := r1.below b2
    have R1 := Lib.hid r1'
    have R2 := Lib.hid r2
    have O1 := Lib.hid ok1
    have O2 := Lib.hid ok2
    have S2 := Lib.hid s2
    clear r1' r2 ok1 ok2 hs1 hs2 hq HH1 HH2 HR1 HR2 r1 b1 b2 s1 s2 B0
    go_wp2_with fail
    go_loopw [3, 4, 5] (MergeRelH target w2) (fun v3 v4 _ _ => lenOfH v3 + lenOfH v4)
    case atStart => exact ⟨a1, c1, A0.length, A0, a2, c2, C0.length, C0, [], rfl, rfl, O1.out, O2.out, R1.out, R2.out, ownH_nil _ _, Below.refl _ _, HM.out, HA.out, HC.out⟩
    case round =>
      clear HM R1 R2 O1 O2 HA HC
      obtain ⟨aa, ca, na, A, ab, cb, nb, C, O, rfl, rfl, oa, oc, ra, rc, hown, bw, hm, wa, wc⟩ := hrel
      have hna := ra.1
      have hnb := rc.1
      have hsum : O.length + na + nb ≤ n := by
        have h1 := LT.out
        rw [← hm, List.length_append, (List.merge_perm_append leH).length_eq, List.length_append] at h1
        omega
      have HOWN := Lib.hid hown
      have HMM := Lib.hid hm
      have WA := Lib.hid wa
      have WC := Lib.hid wc
      have OA := Lib.hid oa
      have OC := Lib.hid oc
      have RA := Lib.hid ra
      have RC := Lib.hid rc
      have HS := Lib.hid hsum
      clear hown hm wa wc oa oc ra rc hsum
      cases A with
      | nil =>
        obtain rfl : na = 0 := by simpa using hna.symm
        cases C with
        | nil =>
          obtain rfl : nb = 0 := by simpa using hnb.symm
          have hO : O = target := by have := HMM.out; simpa using this
          subst hO
          clear hna hnb
          go_wp2_with fail
          obtain ⟨a9, c9, hv9, hok, hr9⟩ := OwnH.row' HOWN.out
          subst hv9
          go_ret
          exact ⟨_, _, rfl, hok, hr9, S2.out.trans (bw.mono S2.out.size)⟩
        | cons y C =>
          obtain ⟨yu, yc⟩ := y
          obtain ⟨k, rfl⟩ : ∃ k, nb = k + 1 := ⟨C.length, by simpa using hnb.symm⟩
          obtain ⟨ac, okc, rc', hsl⟩ := slice_restH RC.out OC.out
          obtain ⟨bb, ob, rfl, hblt, hcell, hcell1⟩ := RC.out.head
          have ck : wr.cell? ⟨bb, ob, none⟩ = some (.float .f64 yu) := by rw [bw.cell (p := ⟨bb, ob, none⟩) hblt]; exact hcell
          have ck1 : wr.cell? ⟨bb, ob + 1, none⟩ = some (.float .f64 yc) := by rw [bw.cell (p := ⟨bb, ob + 1, none⟩) hblt]; exact hcell1
          have OKC := Lib.hid okc
          have RC' := Lib.hid rc'
          have hz : (((k : Int) + 1) == 0) = false := by simp; omega
          have hz2 : decide ((0 : Int) < 0) = false := by decide
          clear hna hnb hcell hcell1 okc rc'
          go_wp2_with fail
          go_quiet (fail)
          go_wp2_with (at_builtin; refine wpList_append_h rfl (.tmp 75) (.tmp 79) rfl w2.heap.size _ O rfl (OwnH.alloc (OwnH.drewN HOWN.out nq) _) wr.heap.size _ ⟨yu, yc⟩ rfl ⟨World.cell?_alloc_at _ _ _ _ rfl, World.cell?_alloc_at _ _ _ _ rfl⟩ (by have := HS.out; omega) (by have := bw.size; simp; omega) ?_; intro v' w' hown' hg hv)
          have bw' := OwnH.below (OwnH.alloc (OwnH.drewN HOWN.out nq) _) ((bw.drewN' nq).alloc (by have := bw.size; exact this) _) hg (by have := bw.size; simp; omega)
          have HOWN' := Lib.hid hown'
          clear hown' hg hv
          go_wp2_with fail
          go_roundw
          case rel => exact ⟨aa, ca, 0, [], ac, cb - 1, k, C, O ++ [⟨yu, yc⟩], rfl, rfl, OA.out, OKC.out, RA.out, RC'.out, HOWN'.out, bw', by rw [← HMM.out]; simp, WA.out, fun z hz => WC.out z (List.mem_cons_of_mem _ hz)⟩
          case measure => simp [lenOfH]
      | cons x A =>
        obtain ⟨xu, xc⟩ := x
        obtain ⟨k, rfl⟩ : ∃ k, na = k + 1 := ⟨A.length, by simpa using hna.symm⟩
        obtain ⟨ba, oa', rfl, hblt, hcell, hcell1⟩ := RA.out.head
        have ck : wr.cell? ⟨ba, oa', none⟩ = some (.float .f64 xu) := by rw [bw.cell (p := ⟨ba, oa', none⟩) hblt]; exact hcell
        have ck1 : wr.cell? ⟨ba, oa' + 1, none⟩ = some (.float .f64 xc) := by rw [bw.cell (p := ⟨ba, oa' + 1, none⟩) hblt]; exact hcell1
        cases C with
        | nil =>
          obtain rfl : nb = 0 := by simpa using hnb.symm
          obtain ⟨ac, okc, rc', hsl⟩ := slice_restH RA.out OA.out
          have OKC := Lib.hid okc
          have RC' := Lib.hid rc'
          have hz2 : decide ((0 : Int) < 0) = false := by decide
          clear hna hnb hcell hcell1 okc rc'
          go_wp2_with fail
          go_quiet (fail)
          go_wp2_with (at_builtin; refine wpList_append_h rfl (.tmp 67) (.tmp 71) rfl w2.heap.size _ O rfl (OwnH.alloc (OwnH.drewN HOWN.out nq) _) wr.heap.size _ ⟨xu, xc⟩ rfl ⟨World.cell?_alloc_at _ _ _ _ rfl, World.cell?_alloc_at _ _ _ _ rfl⟩ (by have := HS.out; omega) (by have := bw.size; simp; omega) ?_; intro v' w' hown' hg hv)
          have bw' := OwnH.below (OwnH.alloc (OwnH.drewN HOWN.out nq) _) ((bw.drewN' nq).alloc (by have := bw.size; exact this) _) hg (by have := bw.size; simp; omega)
          have HOWN' := Lib.hid hown'
          clear hown' hg hv
          go_wp2_with fail
          go_roundw
          case rel => exact ⟨ac, ca - 1, k, A, ab, cb, 0, [], O ++ [⟨xu, xc⟩], rfl, rfl, OKC.out, OC.out, RC'.out, RC.out, HOWN'.out, bw', by rw [← HMM.out]; simp, fun z hz => WA.out z (List.mem_cons_of_mem _ hz), WC.out⟩
          case measure => simp [lenOfH]
        | cons y C =>
          obtain ⟨yu, yc⟩ := y
          obtain ⟨l, rfl⟩ : ∃ l, nb = l + 1 := ⟨C.length, by simpa using hnb.symm⟩
          obtain ⟨bb, ob, rfl, hblt2, hcell2, hcell3⟩ := RC.out.head
          have ck2 : wr.cell? ⟨bb, ob, none⟩ = some (.float .f64 yu) := by rw [bw.cell (p := ⟨bb, ob, none⟩) hblt2]; exact hcell2
          have ck3 : wr.cell? ⟨bb, ob + 1, none⟩ = some (.float .f64 yc) := by rw [bw.cell (p := ⟨bb, ob + 1, none⟩) hblt2]; exact hcell3
          have hz : (((l : Int) + 1) == 0) = false := by simp; omega
          have hz3 : decide ((0 : Int) < (k : Int) + 1) = true := decide_eq_true (by omega)
          have hle0 := le_both (WA.out ⟨xu, xc⟩ (by simp)) (WC.out ⟨yu, yc⟩ (by simp))
          dsimp only at hle0
          by_cases hle : leF xu yu = true
          · obtain ⟨ac, okc, rc', hsl⟩ := slice_restH RA.out OA.out
            have OKC := Lib.hid okc
            have RC' := Lib.hid rc'
            have HL := Lib.hid (show leH ⟨xu, xc⟩ ⟨yu, yc⟩ = true from hle)
            rw [hle] at hle0
            clear hna hnb hcell hcell1 hcell2 hcell3 okc rc' hle
            go_wp2_with fail
            go_quiet (fail)
            go_wp2_with (at_builtin; refine wpList_append_h rfl (.tmp 67) (.tmp 71) rfl w2.heap.size _ O rfl (OwnH.alloc (OwnH.drewN HOWN.out nq) _) wr.heap.size _ ⟨xu, xc⟩ rfl ⟨World.cell?_alloc_at _ _ _ _ rfl, World.cell?_alloc_at _ _ _ _ rfl⟩ (by have := HS.out; omega) (by have := bw.size; simp; omega) ?_; intro v' w' hown' hg hv)
            have bw' := OwnH.below (OwnH.alloc (OwnH.drewN HOWN.out nq) _) ((bw.drewN' nq).alloc (by have := bw.size; exact this) _) hg (by have := bw.size; simp; omega)
            have HOWN' := Lib.hid hown'
            clear hown' hg hv
            go_wp2_with fail
            go_roundw
            case rel => exact ⟨ac, ca - 1, k, A, some ⟨bb, ob, none⟩, cb, l + 1, ⟨yu, yc⟩ :: C, O ++ [⟨xu, xc⟩], rfl, rfl, OKC.out, OC.out, RC'.out, RC.out, HOWN'.out, bw', by rw [← HMM.out, List.merge, if_pos HL.out]; simp, fun z hz => WA.out z (List.mem_cons_of_mem _ hz), WC.out⟩
            case measure => simp [lenOfH]
          · obtain ⟨ac, okc, rc', hsl⟩ := slice_restH RC.out OC.out
            have OKC := Lib.hid okc
            have RC' := Lib.hid rc'
            have HL := Lib.hid (show ¬ leH ⟨xu, xc⟩ ⟨yu, yc⟩ = true from hle)
            have hle1 : leF xu yu = false := by simpa using hle
            rw [hle1] at hle0
            clear hna hnb hcell hcell1 hcell2 hcell3 okc rc' hle hle1
            go_wp2_with fail
            go_quiet (fail)
            go_wp2_with (at_builtin; refine wpList_append_h rfl (.tmp 75) (.tmp 79) rfl w2.heap.size _ O rfl (OwnH.alloc (OwnH.drewN HOWN.out nq) _) wr.heap.size _ ⟨yu, yc⟩ rfl ⟨World.cell?_alloc_at _ _ _ _ rfl, World.cell?_alloc_at _ _ _ _ rfl⟩ (by have := HS.out; omega) (by have := bw.size; simp; omega) ?_; intro v' w' hown' hg hv)
            have bw' := OwnH.below (OwnH.alloc (OwnH.drewN HOWN.out nq) _) ((bw.drewN' nq).alloc (by have := bw.size; exact this) _) hg (by have := bw.size; simp; omega)
            have HOWN' := Lib.hid hown'
            clear hown' hg hv
            go_wp2_with fail
            go_roundw
            case rel => exact ⟨some ⟨ba, oa', none⟩, ca, k + 1, ⟨xu, xc⟩ :: A, ac, cb - 1, l, C, O ++ [⟨yu, yc⟩], rfl, rfl, OA.out, OKC.out, RA.out, RC'.out, HOWN'.out, bw', by rw [← HMM.out, show List.merge (⟨xu, xc⟩ :: A) (⟨yu, yc⟩ :: C) leH = ⟨yu, yc⟩ :: List.merge (⟨xu, xc⟩ :: A) C leH by rw [List.merge, if_neg HL.out]]; simp, WA.out, fun z hz => WC.out z (List.mem_cons_of_mem _ hz)⟩
            case measure => simp [lenOfH]

end Go.Proofs.Ytllphokepjekpaa
