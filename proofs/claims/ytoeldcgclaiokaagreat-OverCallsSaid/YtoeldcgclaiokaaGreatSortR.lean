/- weirref06.Sorted: a new row that holds the list, sorted by merging. -/
import Derived.Test.YtoeldcgclaiokaaGreatRowF
import Derived.Test.YtoeldcgclaiokaaGreatSmallQ
import Derived.Deep.QuietTactic
import Derived.BigQuiet
import Derived.Deep.RegionHeld3
namespace Go.Proofs.YtoeldcgclaiokaaGreat
open Go.Fl Go.Rel Go.RowKit

/-- A row of the call's own that holds these. -/
def NewRow (n : Nat) (ys : List Nat) (w : World) (e : Ending) (w' : World) : Prop :=
  ∃ a' c', e = .returned (.slice a' n c') ∧ SlOk a' n c' ∧ Row w' a' n ys ∧ Below w.heap.size w w'

def lenOf (v : Value) : Nat := match v with | .slice _ n _ => n | _ => 0

theorem sorted_small (a : Option Addr) (n cap : Nat) (xs : List Nat) (w : World) (hr : Row w a n xs) (hs : SlOk a n cap) (hn : n < 2) :
    Calls Tryz.prog 62 #[.slice a n cap] w (NewRow n (xs.mergeSort leF) w) := by
  have hl := hr.1
  have hxs : xs.mergeSort leF = xs := by
    match xs, hl with
    | [], _ => simp
    | [x], _ => simp
    | x :: y :: zs, hl => simp at hl; omega
  rw [hxs]
  have d1 : decide ((n : Int) < 2) = true := decide_eq_true (by omega)
  clear hxs hl
  have HR := Lib.hid hr
  have HS := Lib.hid hs
  clear hr hs
  go_enter Tryz.func62, Tryz.ntmps62
  go_wp2_with (at_builtin; refine wpList_append_fs rfl (.tmp 9) (.tmp 10) rfl w.heap.size _ [] rfl (own_made w) a n cap xs HS.out rfl (HR.out.below ((Below.refl _ _).alloc (Nat.le_refl _) _)) (by simp; omega) (by simp) ?_; intro v' w' hown hg hv)
  have bw := Own.below (own_made w) ((Below.refl w.heap.size w).alloc (Nat.le_refl _) _) hg (by simp)
  obtain ⟨a9, c9, hv9, hok, hr9⟩ := Own.row' hown
  subst hv9
  rw [List.nil_append, HR.out.1] at *
  clear hown hg hv
  go_wp2_with fail
  go_ret
  exact ⟨_, _, rfl, hok, hr9, bw⟩

/-- How far the merging is. -/
def MergeRel (target : List Nat) (w0 : World) (v3 v4 v5 : Value) (wr : World) : Prop :=
  ∃ aa ca na A ab cb nb C O, v3 = .slice aa na ca ∧ v4 = .slice ab nb cb ∧ SlOk aa na ca ∧ SlOk ab nb cb ∧ Row w0 aa na A ∧ Row w0 ab nb C ∧
    Own w0.heap.size wr v5 O ∧ Below w0.heap.size w0 wr ∧ O ++ List.merge A C leF = target ∧ (∀ x ∈ A, W64 x) ∧ (∀ x ∈ C, W64 x)

set_option maxHeartbeats 4000000 in
set_option maxRecDepth 100000 in
theorem sorted_any : ∀ (N : Nat) (a : Option Addr) (n cap : Nat) (xs : List Nat) (w : World), n ≤ N → Row w a n xs → SlOk a n cap → (∀ x ∈ xs, W64 x) → n < 17592186044416 →
    Calls Tryz.prog 62 #[.slice a n cap] w (NewRow n (xs.mergeSort leF) w) := by
  intro N
  induction N with
  | zero => intro a n cap xs w hN hr hs _ _; exact sorted_small a n cap xs w hr hs (by omega)
  | succ N ih =>
    intro a n cap xs w hN hr hs h64 hreach
    by_cases hn2 : n < 2
    · exact sorted_small a n cap xs w hr hs hn2
    have d1 : decide ((n : Int) < 2) = false := decide_eq_false (by omega)
    obtain ⟨b, off, rfl, _⟩ := hr.2.2 (by omega)
    have hm := hr.2.1
    have hcap := hs.1
    obtain ⟨p, hp⟩ : ∃ p, p = n / 2 := ⟨_, rfl⟩
    obtain ⟨m, hmm⟩ : ∃ m, m = n - p := ⟨_, rfl⟩
    have hdiv : (n : Int) / 2 = (p : Int) := by omega
    have hR1 := hr.take (k := p) (by omega)
    have hR2 := hr.drop (k := p) (by omega)
    rw [← hmm] at hR2
    have HR1 := Lib.hid hR1
    have HR2 := Lib.hid hR2
    have HM := Lib.hid (merge_sorts leF leF_trans leF_total (xs.take p) (xs.drop p))
    rw [List.take_append_drop] at HM
    have H1 := fun w1 (h : Row w1 (some ⟨b, off, none⟩) p (xs.take p)) => ih (some ⟨b, off, none⟩) p cap (xs.take p) w1 (by omega) h ⟨by omega, fun h => by cases h⟩ (fun x hx => h64 x (List.mem_of_mem_take hx)) (by omega)
    have H2 := fun w1 (h : Row w1 (some ⟨b, off + p, none⟩) m (xs.drop p)) => ih (some ⟨b, off + p, none⟩) m (cap - p) (xs.drop p) w1 (by omega) h ⟨by omega, fun h => by cases h⟩ (fun x hx => h64 x (List.mem_of_mem_drop hx)) (by omega)
    have HH1 : Hid (∀ w1, Row w1 (some ⟨b, off, none⟩) p (xs.take p) → _) := H1
    have HH2 : Hid (∀ w1, Row w1 (some ⟨b, off + p, none⟩) m (xs.drop p) → _) := H2
    have hq : IntKind.i64.wrap ((n : Int) / 2) = (n : Int) / 2 := by rw [IntKind.wrap_i64]; omega
    have hs1 := slice_hi b off n cap p ((n : Int) / 2) hdiv (by omega)
    have hs2 := slice_lo b off n cap p ((n : Int) / 2) hdiv (by omega) (by omega)
    rw [← hmm] at hs2
    have hpn : p + m = n := by omega
    have hA : ∀ x ∈ (xs.take p).mergeSort leF, W64 x := fun x hx => h64 x (List.mem_of_mem_take (List.mem_mergeSort.1 hx))
    have hC : ∀ x ∈ (xs.drop p).mergeSort leF, W64 x := fun x hx => h64 x (List.mem_of_mem_drop (List.mem_mergeSort.1 hx))
    have LT : Hid ((xs.mergeSort leF).length = n) := by show _ = _; rw [List.length_mergeSort]; exact hr.1
    generalize (xs.take p).mergeSort leF = A0 at *
    generalize (xs.drop p).mergeSort leF = C0 at *
    generalize xs.mergeSort leF = target at *
    have HA := Lib.hid hA
    have HC := Lib.hid hC
    have HPN := Lib.hid hpn
    clear hdiv H1 H2 ih hR1 hR2 hp hmm hr hs h64 hA hC hN hcap hpn
    go_enter Tryz.func62, Tryz.ntmps62
    go_wp2_with fail
    have B0 : Below w.heap.size w w.drew := (Below.refl _ _).drewN' 1
    go_region_held3 (fun w' => Below w.heap.size w w') (first | assumption | exact B0) (first | (go_at_call 62; (with_reducible refine (HH1.out _ (HR1.out.below (by assumption))).mono ?_); rintro e w1 ⟨a1, c1, rfl, ok1, r1, b1⟩; have s1 : Below w.heap.size w w1 := (B0.trans (b1.mono (by have := B0.size; first | assumption | omega)))) | (go_at_call 62; (with_reducible refine (HH2.out _ (HR2.out.below (by assumption))).mono ?_); rintro e w2 ⟨a2, c2, rfl, ok2, r2, b2⟩; have s2 : Below w.heap.size w w2 := s1.trans (b2.mono s1.size)))
    have r1' := r1.below b2
    obtain rfl : p = A0.length := r1.1.symm
    obtain rfl : m = C0.length := r2.1.symm
    have R1 := Lib.hid r1'
    have R2 := Lib.hid r2
    have O1 := Lib.hid ok1
    have O2 := Lib.hid ok2
    have S2 := Lib.hid s2
    clear r1' r2 ok1 ok2 hs1 hs2 hq HH1 HH2 HR1 HR2 r1 b1 b2 s1 s2 B0
    go_wp2_with fail
    go_loopw [3, 4, 5] (MergeRel target w2) (fun v3 v4 _ _ => lenOf v3 + lenOf v4)
    case atStart => exact ⟨a1, c1, A0.length, A0, a2, c2, C0.length, C0, [], rfl, rfl, O1.out, O2.out, R1.out, R2.out, own_nil _ _, Below.refl _ _, HM.out, HA.out, HC.out⟩
    case round =>
      clear HM R1 R2 O1 O2 HA HC
      obtain ⟨aa, ca, na, A, ab, cb, nb, C, O, rfl, rfl, oa, oc, ra, rc, hown, bw, hm, wa, wc⟩ := hrel
      have hna := ra.1
      have hnb := rc.1
      have hsum : O.length + na + nb = n := by
        have h1 := LT.out
        rw [← hm, List.length_append, (List.merge_perm_append leF).length_eq, List.length_append] at h1
        omega
      have HOWN := Lib.hid hown
      have HMM := Lib.hid hm
      have WA := Lib.hid wa
      have WC := Lib.hid wc
      have OA := Lib.hid oa
      have OC := Lib.hid oc
      have RA := Lib.hid ra
      have RC := Lib.hid rc
      have HS := Lib.hid hsum
      clear hown hm wa wc oa oc ra rc hsum
      cases A with
      | nil =>
        obtain rfl : na = 0 := by simpa using hna.symm
        cases C with
        | nil =>
          obtain rfl : nb = 0 := by simpa using hnb.symm
          have hO : O = target := by have := HMM.out; simpa using this
          subst hO
          clear hna hnb
          go_wp2_with fail
          obtain ⟨a9, c9, hv9, hok, hr9⟩ := Own.row' HOWN.out
          subst hv9
          rw [LT.out] at *
          go_ret
          exact ⟨_, _, rfl, hok, hr9, S2.out.trans (bw.mono S2.out.size)⟩
        | cons y C =>
          obtain ⟨k, rfl⟩ : ∃ k, nb = k + 1 := ⟨C.length, by simpa using hnb.symm⟩
          obtain ⟨ac, okc, rc', hsl⟩ := slice_rest RC.out OC.out
          obtain ⟨bb, ob, rfl, hblt, hcell⟩ := RC.out.head
          have ck : wr.cell? ⟨bb, ob, none⟩ = some (.float .f64 y) := by rw [bw.cell (p := ⟨bb, ob, none⟩) hblt]; exact hcell
          have OKC := Lib.hid okc
          have RC' := Lib.hid rc'
          have hz : (((k : Int) + 1) == 0) = false := by simp; omega
          have hz2 : decide ((0 : Int) < 0) = false := by decide
          clear hna hnb hcell okc rc'
          go_wp2_with fail
          go_quiet (fail)
          go_wp2_with (at_builtin; refine wpList_append_f rfl (.tmp 58) (.tmp 62) rfl w2.heap.size _ O rfl (Own.alloc (Own.drewN HOWN.out nq) _) ⟨wr.heap.size, 0, none⟩ _ y rfl (by exact World.cell?_alloc_at _ _ _ _ rfl) (by have := HS.out; omega) (by have := bw.size; simp; omega) ?_; intro v' w' hown' hg hv)
          have bw' := Own.below (Own.alloc (Own.drewN HOWN.out nq) _) ((bw.drewN' nq).alloc (by have := bw.size; exact this) _) hg (by have := bw.size; simp; omega)
          have HOWN' := Lib.hid hown'
          clear hown' hg hv ck
          go_wp2_with fail
          go_roundw
          case rel => exact ⟨aa, ca, 0, [], ac, cb - 1, k, C, O ++ [y], rfl, rfl, OA.out, OKC.out, RA.out, RC'.out, HOWN'.out, bw', by rw [← HMM.out]; simp, WA.out, fun z hz => WC.out z (List.mem_cons_of_mem _ hz)⟩
          case measure => simp [lenOf]
      | cons x A =>
        obtain ⟨k, rfl⟩ : ∃ k, na = k + 1 := ⟨A.length, by simpa using hna.symm⟩
        obtain ⟨ba, oa', rfl, hblt, hcell⟩ := RA.out.head
        have ck : wr.cell? ⟨ba, oa', none⟩ = some (.float .f64 x) := by rw [bw.cell (p := ⟨ba, oa', none⟩) hblt]; exact hcell
        cases C with
        | nil =>
          obtain rfl : nb = 0 := by simpa using hnb.symm
          obtain ⟨ac, okc, rc', hsl⟩ := slice_rest RA.out OA.out
          have OKC := Lib.hid okc
          have RC' := Lib.hid rc'
          have hz2 : decide ((0 : Int) < 0) = false := by decide
          clear hna hnb hcell okc rc'
          go_wp2_with fail
          go_quiet (fail)
          go_wp2_with (at_builtin; refine wpList_append_f rfl (.tmp 50) (.tmp 54) rfl w2.heap.size _ O rfl (Own.alloc (Own.drewN HOWN.out nq) _) ⟨wr.heap.size, 0, none⟩ _ x rfl (by exact World.cell?_alloc_at _ _ _ _ rfl) (by have := HS.out; omega) (by have := bw.size; simp; omega) ?_; intro v' w' hown' hg hv)
          have bw' := Own.below (Own.alloc (Own.drewN HOWN.out nq) _) ((bw.drewN' nq).alloc (by have := bw.size; exact this) _) hg (by have := bw.size; simp; omega)
          have HOWN' := Lib.hid hown'
          clear hown' hg hv ck
          go_wp2_with fail
          go_roundw
          case rel => exact ⟨ac, ca - 1, k, A, ab, cb, 0, [], O ++ [x], rfl, rfl, OKC.out, OC.out, RC'.out, RC.out, HOWN'.out, bw', by rw [← HMM.out]; simp, fun z hz => WA.out z (List.mem_cons_of_mem _ hz), WC.out⟩
          case measure => simp [lenOf]
        | cons y C =>
          obtain ⟨l, rfl⟩ : ∃ l, nb = l + 1 := ⟨C.length, by simpa using hnb.symm⟩
          obtain ⟨bb, ob, rfl, hblt2, hcell2⟩ := RC.out.head
          have ck2 : wr.cell? ⟨bb, ob, none⟩ = some (.float .f64 y) := by rw [bw.cell (p := ⟨bb, ob, none⟩) hblt2]; exact hcell2
          have hz : (((l : Int) + 1) == 0) = false := by simp; omega
          have hz3 : decide ((0 : Int) < (k : Int) + 1) = true := decide_eq_true (by omega)
          by_cases hle : leF x y = true
          · obtain ⟨ac, okc, rc', hsl⟩ := slice_rest RA.out OA.out
            have OKC := Lib.hid okc
            have RC' := Lib.hid rc'
            have HL := Lib.hid hle
            have ho : decide (ordI x y ≤ 0) = true := decide_eq_true (by unfold leF at hle; have := of_decide_eq_true hle; unfold ordI; split <;> (try split) <;> omega)
            clear hna hnb hcell hcell2 okc rc' hle
            go_wp2_with fail
            go_quiet ((go_at_call 87; exact quiet_of_eq (reforder_any x y _ (WA.out x (by simp)) (WC.out y (by simp)))))
            go_wp2_with (at_builtin; refine wpList_append_f rfl (.tmp 50) (.tmp 54) rfl w2.heap.size _ O rfl (Own.alloc (Own.drewN HOWN.out nq) _) ⟨wr.heap.size, 0, none⟩ _ x rfl (by exact World.cell?_alloc_at _ _ _ _ rfl) (by have := HS.out; omega) (by have := bw.size; simp; omega) ?_; intro v' w' hown' hg hv)
            have bw' := Own.below (Own.alloc (Own.drewN HOWN.out nq) _) ((bw.drewN' nq).alloc (by have := bw.size; exact this) _) hg (by have := bw.size; simp; omega)
            have HOWN' := Lib.hid hown'
            clear hown' hg hv ck
            go_wp2_with fail
            go_roundw
            case rel => exact ⟨ac, ca - 1, k, A, some ⟨bb, ob, none⟩, cb, l + 1, y :: C, O ++ [x], rfl, rfl, OKC.out, OC.out, RC'.out, RC.out, HOWN'.out, bw', by rw [← HMM.out, List.merge, if_pos HL.out]; simp, fun z hz => WA.out z (List.mem_cons_of_mem _ hz), WC.out⟩
            case measure => simp [lenOf]
          · obtain ⟨ac, okc, rc', hsl⟩ := slice_rest RC.out OC.out
            have OKC := Lib.hid okc
            have RC' := Lib.hid rc'
            have HL := Lib.hid hle
            have ho : decide (ordI x y ≤ 0) = false := decide_eq_false (by unfold leF at hle; have := of_decide_eq_false (by simpa using hle : decide (pl x ≤ pl y) = false); unfold ordI; split <;> (try split) <;> omega)
            clear hna hnb hcell hcell2 okc rc' hle
            go_wp2_with fail
            go_quiet ((go_at_call 87; exact quiet_of_eq (reforder_any x y _ (WA.out x (by simp)) (WC.out y (by simp)))))
            go_wp2_with (at_builtin; refine wpList_append_f rfl (.tmp 58) (.tmp 62) rfl w2.heap.size _ O rfl (Own.alloc (Own.drewN HOWN.out nq) _) ⟨wr.heap.size, 0, none⟩ _ y rfl (by exact World.cell?_alloc_at _ _ _ _ rfl) (by have := HS.out; omega) (by have := bw.size; simp; omega) ?_; intro v' w' hown' hg hv)
            have bw' := Own.below (Own.alloc (Own.drewN HOWN.out nq) _) ((bw.drewN' nq).alloc (by have := bw.size; exact this) _) hg (by have := bw.size; simp; omega)
            have HOWN' := Lib.hid hown'
            clear hown' hg hv ck
            go_wp2_with fail
            go_roundw
            case rel => exact ⟨some ⟨ba, oa', none⟩, ca, k + 1, x :: A, ac, cb - 1, l, C, O ++ [y], rfl, rfl, OA.out, OKC.out, RA.out, RC'.out, HOWN'.out, bw', by rw [← HMM.out, show List.merge (x :: A) (y :: C) leF = y :: List.merge (x :: A) C leF by rw [List.merge, if_neg HL.out]]; simp, WA.out, fun z hz => WC.out z (List.mem_cons_of_mem _ hz)⟩
            case measure => simp [lenOf]

end Go.Proofs.YtoeldcgclaiokaaGreat
