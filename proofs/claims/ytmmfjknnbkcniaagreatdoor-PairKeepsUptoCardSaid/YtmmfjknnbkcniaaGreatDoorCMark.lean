/- weirlaw21.mark: the walk. -/
import Derived.Test.YtmmfjknnbkcniaaGreatDoorCMarkP
import Derived.Test.YtmmfjknnbkcniaaGreatDoorCOwnT
import Derived.Test.YtmmfjknnbkcniaaGreatDoorCRelTail
namespace Go.Proofs.YtmmfjknnbkcniaaGreatDoor
open Go.Fl Go.Rel Go.RowKit Go.Sort
set_option linter.unusedSimpArgs false
set_option linter.unusedVariables false

def markL (i : Nat) : Lb := ⟨⟨#[109, 97, 114, 107, 101, 100]⟩, ownS i⟩
/-- The labels of the element at j are written over, up to the place k. -/
def MarkedTo (L : Nat → List Lb) (j k : Nat) : Prop := ∀ q, q < k → vL (L j) q = ownS j
def MarkA (lo top g : Nat) (es : List Er) (w : World) (v3 : Value) (wr : World) : Prop :=
  ∃ (i : Nat) (L : Nat → List Lb), v3 = .int .i64 (i : Int) ∧ i ≤ es.length ∧ MkS lo g es L wr ∧ (∀ j, j < i → MarkedTo L j (erAt es j).n) ∧ Mid lo top w wr
def MarkB (lo top g : Nat) (es : List Er) (i : Nat) (w : World) (v4 : Value) (wr : World) : Prop :=
  ∃ (k : Nat) (L : Nat → List Lb), v4 = .int .i64 (k : Int) ∧ k ≤ (erAt es i).n ∧ MkS lo g es L wr ∧ (∀ j, j < i → MarkedTo L j (erAt es j).n) ∧ MarkedTo L i k ∧ Mid lo top w wr
/-- All are marked. -/
def MarkZ (lo top g : Nat) (es : List Er) (w wr : World) : Prop :=
  ∃ L : Nat → List Lb, MkS lo g es L wr ∧ (∀ j, j < es.length → MarkedTo L j (erAt es j).n) ∧ Mid lo top w wr
def MarkC (lo top g : Nat) (es : List Er) (w : World) (v5 : Value) (wr : World) : Prop := ∃ r : Nat, v5 = .int .i64 (r : Int) ∧ r ≤ 2 ∧ MarkZ lo top g es w wr
def MarkD (lo top g : Nat) (es : List Er) (w : World) (v6 : Value) (wr : World) : Prop := ∃ i : Nat, v6 = .int .i64 (i : Int) ∧ i ≤ es.length ∧ MarkZ lo top g es w wr
def MarkE (n : Nat) (w : World) (v8 : Value) (wr : World) : Prop := ∃ k : Nat, v8 = .int .i64 (k : Int) ∧ k ≤ n ∧ Below w.heap.size w wr
/-- The labels of the element at i grow: in its own row, or in a new one. -/
def MarkF (lo top g : Nat) (es : List Er) (i : Nat) (w : World) (v7 v9 : Value) (wr : World) : Prop :=
  ∃ (t : Nat) (ls : List Lb), v9 = .int .i64 (t : Int) ∧ t ≤ 12 ∧ ls.length = (erAt es i).n + t ∧ OwnL lo wr v7 ls ∧ (v7.ownBlock = none ∨ v7.ownBlock = ownE (erAt es i) ∨ ∃ b, v7.ownBlock = some b ∧ w.heap.size ≤ b) ∧ MarkZ lo top g es w wr

set_option maxHeartbeats 16000000 in
set_option maxRecDepth 100000 in
theorem mark_any (lo top g cap : Nat) (es : List Er) (L0 : Nat → List Lb) (w : World) (hf : MkF lo top g es w) (hs : MkS lo g es L0 w) (hn : es.length ≤ 4398046511104) :
    Calls Tryz.prog 17 #[.slice (some ⟨g, 0, none⟩) es.length cap] w fun e w' => e = .returned (.bool true) ∧ Mid lo top w w' := by
  have HF := Lib.hid hf
  have n1 : (es.length : Int) ≤ 4398046511104 := by omega
  have HLT : Hid (lo ≤ w.heap.size) := Lib.hid (by have := hf.g1; have := hf.g2; have := hf.top; omega)
  have HS := Lib.hid hs
  clear hf hs
  go_enter Tryz.func17, Tryz.ntmps17
  go_wp2_with fail
  go_loopw [3] (MarkA lo top g es w) (fun v _ => es.length - (intOf v).toNat)
  case atStart => exact ⟨0, L0, rfl, by omega, HS.out, fun j h => by omega, Mid.refl _ _ _⟩
  case round =>
    obtain ⟨i, L, rfl, hi, hs, hm, mid⟩ := hrel
    have HMS := Lib.hid hs
    have HM := Lib.hid hm
    have HMID := Lib.hid mid
    clear hs hm mid
    by_cases hlt : i < es.length
    · have k1 : (0 : Int) ≤ (i : Int) := by omega
      have k2 : (i : Int) < (es.length : Int) := by omega
      have k3 : (i : Int) ≤ 4398046511104 := by omega
      obtain ⟨x0, f1, ⟨f, x1⟩, h4, h5⟩ := HMS.out.2 i hlt
      clear h4 h5
      have HB0 : Hid (MarkB lo top g es i w (.int .i64 0) (wr.setCell ⟨g, i * 2 + 1, none⟩ (.float .f64 (floatOfInt .f64 (-7 - (i : Int)))))) := Lib.hid
        ⟨0, L, rfl, by omega, HMS.out.value HF.out hlt _, HM.out, fun q h => by omega, HMID.out.set HF.out.g1 HF.out.g2 _⟩
      go_wp2_with fail
      go_loopw [4] (MarkB lo top g es i w) (fun v _ => (erAt es i).n - (intOf v).toNat)
      case atStart => exact HB0.out
      case round =>
        obtain ⟨k, L2, rfl, hk, hs2, hm2, hq, mid2⟩ := hrel
        have HMS2 := Lib.hid hs2
        have HM2 := Lib.hid hm2
        have HQ2 := Lib.hid hq
        have HMID2 := Lib.hid mid2
        clear hs2 hm2 hq mid2 HB0 HMS HM HMID x0 f1 x1
        obtain ⟨y0, _, _, own2, len2⟩ := HMS2.out.2 i hlt
        obtain ⟨EA, hEA⟩ : ∃ x, x = (erAt es i).a := ⟨_, rfl⟩
        obtain ⟨EN, hEN⟩ : ∃ x, x = (erAt es i).n := ⟨_, rfl⟩
        obtain ⟨EC, hEC⟩ : ∃ x, x = (erAt es i).c := ⟨_, rfl⟩
        have hsm := HF.out.small i hlt
        rw [← hEA, ← hEN, ← hEC] at own2 y0
        rw [← hEN] at len2 hsm hk
        have HEA := Lib.hid hEA
        have HEN := Lib.hid hEN
        have HOWN := Lib.hid own2
        have HLEN := Lib.hid len2
        by_cases hlt2 : k < EN
        · have j1 : (0 : Int) ≤ (k : Int) := by omega
          have j2 : (k : Int) < (EN : Int) := by omega
          obtain ⟨b, rfl⟩ : ∃ b, EA = some ⟨b, 0, none⟩ := by
            rcases own2.form with ⟨e, e2⟩ | ⟨b, c, e, _⟩
            · rw [e2] at len2; simp at len2; omega
            · injection e with e1 e2 e3; exact ⟨b, e1⟩
          have HNEW : Hid (∀ W, Below wr.heap.size wr W → MarkB lo top g es i w (.int .i64 ((k : Int) + 1)) (W.setCells b (k * 2) (lbCells (markL i)))) := Lib.hid fun W hb => by
            have hob : ownE (erAt es i) = some b := by unfold ownE; rw [← HEA.out]; rfl
            obtain ⟨o1, o2, o3⟩ := HF.out.own i hlt b hob
            have hm1 := HMID2.out.below hb (Nat.le_trans HLT.out HMID2.out.1.size)
            refine ⟨k + 1, fun j => if j = i then (L2 i).set k (markL i) else L2 j, by first | rfl | (congr 1), by rw [← HEN.out]; omega, (HMS2.out.below hb).label (b := b) (n := EN) (c := EC) HF.out hlt HEA.out.symm (by rw [← HEN.out]; exact hlt2) (markL i), ?_, ?_, (hm1.set o1 o2 _).set o1 o2 _⟩
            · intro j hj q hq
              show vL (if j = i then _ else _) q = _
              rw [if_neg (by omega)]
              exact HM2.out j hj q hq
            · intro q hq
              show vL (if i = i then _ else _) q = _
              rw [if_pos rfl]
              unfold vL lbAt
              by_cases hqk : q = k
              · subst hqk
                simp [List.getD, HLEN.out, hlt2, markL]
              · simp only [List.getD, List.getElem?_set, if_neg (Ne.symm hqk)]
                exact HQ2.out q (by omega)
          have HTH : Hid (∀ W, Below wr.heap.size wr W → W.there b (k * 2) 2) := Lib.hid fun W hb j hj => by
            have ho := OwnL.below HOWN.out hb
            have h1 := ho.cell (i := k) (c := j) (by rw [HLEN.out]; exact hlt2) hj
            rw [Nat.zero_add] at h1
            exact ⟨by rw [h1]; rcases (by omega : j = 0 ∨ j = 1) with rfl | rfl <;> rfl, OwnL.frozenK ho _⟩
          have HO : Hid (∀ W, _) := Lib.hid fun W => own_any i W (by omega)
          clear own2 len2 hEA hEN hEC
          go_wp2_with fail
          obtain ⟨W, hW⟩ : ∃ W, W = wr := ⟨_, rfl⟩
          rw [← hW] at y0 HNEW HTH
          have HC0 : Hid (∀ wd, Below W.heap.size W wd → wd.cell? ⟨g, i * 2, none⟩ = some (.slice (some ⟨b, 0, none⟩) EN EC)) := Lib.hid fun wd hb => cell_stayL y0 hb
          rw [← hW]
          clear y0
          refine wp_region_rel_tail (fun wd => Below W.heap.size W wd) (fun _ _ v => v = .string (ownS i)) (by kernel_rfl) (by kernel_rfl) rfl rfl ((Below.refl _ _).drew) (LidK.out ?_)
          repeat ((first
            | (refine wpRel_runK W (Below.refl _ _) (.slice (some ⟨b, 0, none⟩) EN EC) (by rfl) (by kernel_rfl) ?_ ?_; focus (intro wd hb; simp [go_sem, Act.eval, HC0.out wd hb]; done))
            | (refine wpRel_runK W (Below.refl _ _) (.pointer (some ⟨g, i * 2, none⟩)) (by rfl) (by kernel_rfl) ?_ ?_; focus (intro wd hb; simp [go_sem, Act.eval, k1, k2]; done))
            | (refine wpRel_runK W (Below.refl _ _) (.pointer (some ⟨b, k * 2, none⟩)) (by rfl) (by kernel_rfl) ?_ ?_; focus (intro wd hb; simp [go_sem, Act.eval, j1, j2]; done))
            | (refine wpRel_runK W (Below.refl _ _) (.agg #[.string ⟨#[109, 97, 114, 107, 101, 100]⟩, .string (ownS i)]) (by rfl) (by kernel_rfl) ?_ ?_; focus (intro wd hb; simp [go_sem, Act.eval]; done))
            | (refine wpRel_callK 32 Tryz.f32 _ _ #[.int .i64 (i : Int)] (by kernel_rfl) Tryz.func32 (by kernel_rfl) (by kernel_rfl) (by simp only [List.map_toArray, List.map]; rfl) (fun wd hd => (HO.out wd).mono fun e w2 ⟨g1, g2⟩ => ⟨_, g1, rfl, hd.trans (g2.mono hd.size)⟩) ?_; rintro v rfl)
            | (refine wpRel_guardK (by rfl) (by kernel_rfl) ?_)); intro K hK; have hK2 := LidK.mk hK; clear hK; go_big_quiet_step (fail); refine wpQuiet_nil ?_; refine hK2.out _ ?_; clear hK2 K)
          refine LidK.mk (wpRel_nil ?_)
          intro wz hz
          refine wp_store_mid 54 _ _ rfl b (k * 2) #[.string ⟨#[109, 97, 114, 107, 101, 100]⟩, .string (ownS i)] rfl rfl (HTH.out wz hz) (by kernel_rfl) (by simp [Value.oneCell']) ?_
          have HN2 := Lib.hid (HNEW.out wz hz)
          go_wp2_with fail
          go_roundw
          case rel => exact HN2.out
          case measure => have := HEN.out; simp [intOf]; omega
        · have hkn : ¬ (k : Int) < (EN : Int) := by omega
          clear own2 len2
          have HNX : Hid (MarkA lo top g es w (.int .i64 ((i : Int) + 1)) wr) := Lib.hid ⟨i + 1, L2, by first | rfl | (congr 1), by omega, HMS2.out, fun j hj => by
            by_cases hji : j = i
            · subst hji; rw [← HEN.out]; intro q hq; exact HQ2.out q (by omega)
            · exact HM2.out j (by omega), HMID2.out⟩
          go_wp2_with fail
          go_roundw
          case rel => exact HNX.out
          case measure => simp [intOf]; omega
    · have hkn : ¬ (i : Int) < (es.length : Int) := by omega
      have HZ : Hid (MarkZ lo top g es w wr) := Lib.hid ⟨L, HMS.out, fun j hj => HM.out j (by omega), HMID.out⟩
      clear HMS HM HMID
      go_wp2_with fail
      go_loopw [5] (MarkC lo top g es w) (fun v _ => 2 - (intOf v).toNat)
      case atStart => exact ⟨0, rfl, by omega, HZ.out⟩
      case round =>
        obtain ⟨r, rfl, hr, hz⟩ := hrel
        have HZ2 := Lib.hid hz
        clear hz HZ hkn hi hlt
        by_cases hlt : r < 2
        · have r1 : (r : Int) < 2 := by omega
          have r2 : (0 : Int) ≤ (r : Int) := by omega
          go_wp2_with fail
          go_loopw [6] (MarkD lo top g es w) (fun v _ => es.length - (intOf v).toNat)
          case atStart => exact ⟨0, rfl, by omega, HZ2.out⟩
          case round =>
            obtain ⟨p, rfl, hp, hz⟩ := hrel
            have HZ3 := Lib.hid hz
            clear hz HZ2
            by_cases hlt2 : p < es.length
            · have k1 : (0 : Int) ≤ (p : Int) := by omega
              have k2 : (p : Int) < (es.length : Int) := by omega
              obtain ⟨L2, hs2, hm2, mid2⟩ := HZ3.out
              obtain ⟨y0, _, _, own2, len2⟩ := hs2.2 p hlt2
              have hsm := HF.out.small p hlt2
              have HM2 := Lib.hid (hm2 p hlt2)
              have HOB : Hid (∀ b, ownE (erAt es p) = some b → b < wr.heap.size) := Lib.hid fun b hb => own2.lt b hb |>.2
              have HWS := Lib.hid mid2.1.size
              obtain ⟨EA, hEA⟩ : ∃ x, x = (erAt es p).a := ⟨_, rfl⟩
              obtain ⟨EN, hEN⟩ : ∃ x, x = (erAt es p).n := ⟨_, rfl⟩
              obtain ⟨EC, hEC⟩ : ∃ x, x = (erAt es p).c := ⟨_, rfl⟩
              have HOE : Hid (ownE (erAt es p) = (Value.slice EA EN EC).ownBlock) := Lib.hid (by unfold ownE; rw [hEA, hEN, hEC])
              rw [← hEA, ← hEN, ← hEC] at own2 y0
              rw [← hEN] at len2 hsm HM2
              have HEN := Lib.hid hEN
              have HOWN := Lib.hid own2
              have HLEN := Lib.hid len2
              have e1 : (EN : Int) ≤ 4398046511104 := by omega
              clear hs2 hm2 mid2 own2 len2 hEA hEN hEC
              go_wp2_with fail
              obtain ⟨W1, rfl⟩ : ∃ W1, W1 = wr := ⟨_, rfl⟩
              go_loopw [8] (MarkE EN W1) (fun v _ => EN - (intOf v).toNat)
              case atStart => exact ⟨0, rfl, by omega, Below.refl _ _⟩
              case round =>
                obtain ⟨k, rfl, hk, bel⟩ := hrel
                have HB := Lib.hid bel
                clear bel
                by_cases hlt3 : k < EN
                · have j1 : (0 : Int) ≤ (k : Int) := by omega
                  have j2 : (k : Int) < (EN : Int) := by omega
                  obtain ⟨b, rfl⟩ : ∃ b, EA = some ⟨b, 0, none⟩ := by
                    have len2 := HLEN.out
                    rcases OwnL.form HOWN.out with ⟨e, e2⟩ | ⟨b, c, e, _⟩
                    · rw [e2] at len2; simp at len2; omega
                    · injection e with e1 e2 e3; exact ⟨b, e1⟩
                  have s0 : wr.drew.cell? ⟨b, k * 2 + 1, none⟩ = some (.string (ownS p)) := by
                    have h := (OwnL.below HOWN.out HB.out).cell (i := k) (c := 1) (by rw [HLEN.out]; exact hlt3) (by omega)
                    rw [Nat.zero_add] at h
                    have h2 := HM2.out k hlt3
                    show wr.cell? _ = _
                    rw [h, ← h2]; rfl
                  have HO : Hid (Calls Tryz.prog 32 #[.int .i64 (p : Int)] wr.drew fun e w' => e = .returned (.string (ownS p)) ∧ Below wr.drew.heap.size wr.drew w') := Lib.hid (own_any p _ (by omega))
                  have HBD : Hid (Below wr.heap.size wr wr.drew) := Lib.hid ((Below.refl _ wr).drewN' 1)
                  go_wp2_with fail
                  go_region_held3 (fun w' => w'.cell? ⟨b, k * 2 + 1, none⟩ = some (.string (ownS p))) (first | assumption) (first | (go_at_call 32; refine HO.out.mono ?_; rintro e w5 ⟨rfl, b5⟩; have s5 := cell_stayL s0 b5))
                  have HB5 := Lib.hid (HB.out.trans ((HBD.out.trans b5).mono HB.out.size))
                  clear b5 s0 s5
                  go_wp2_with fail
                  go_roundw
                  case rel => exact ⟨k + 1, by first | rfl | (congr 1), by omega, HB5.out⟩
                  case measure => simp [intOf]; omega
                · have hkn : ¬ (k : Int) < (EN : Int) := by omega
                  obtain ⟨W2, rfl⟩ : ∃ W2, W2 = wr := ⟨_, rfl⟩
                  have HZ4 : Hid (MarkZ lo top g es w W2) := Lib.hid (by
                    obtain ⟨L, h1, h2, h3⟩ := HZ3.out
                    exact ⟨L, h1.below HB.out, h2, h3.below HB.out (Nat.le_trans HLT.out h3.1.size)⟩)
                  have HST : Hid (MarkF lo top g es p w (.slice EA EN EC) (.int .i64 0) W2) := Lib.hid
                    ⟨0, L2 p, rfl, by omega, by rw [HLEN.out, HEN.out]; rfl, OwnL.below HOWN.out HB.out, .inr (.inl HOE.out.symm), HZ4.out⟩
                  go_wp2_with fail
                  go_loopw [7, 9] (MarkF lo top g es p w) (fun _ v _ => 12 - (intOf v).toNat)
                  case atStart => exact HST.out
                  case round =>
                    obtain ⟨q, ls, rfl, hq, hl, own3, hov, hz⟩ := hrel
                    have HO3 := Lib.hid own3
                    have HL3 := Lib.hid hl
                    have HV3 := Lib.hid hov
                    have HZ5 := Lib.hid hz
                    clear own3 hl hov hz HZ4 HST
                    by_cases hlt4 : q < 12
                    · have q1 : (q : Int) < 12 := by omega
                      have q2 : (0 : Int) ≤ (q : Int) := by omega
                      have HLB : Hid (ls.length < 4398046511104) := Lib.hid (by have := HL3.out; have := HEN.out; omega)
                      have HLS : Hid (lo ≤ wr.heap.size) := Lib.hid (by obtain ⟨_, _, _, h3⟩ := HZ5.out; exact Nat.le_trans HLT.out h3.1.size)
                      go_wp2_with (first | (at_builtin; refine wpList_append_lbK rfl (.tmp 76) (.tmp 78) rfl lo u7 ls rfl (OwnL.alloc HO3.out _) wr.heap.size _ ⟨⟨#[103, 114, 111, 119, 110]⟩, ⟨#[]⟩⟩ rfl (by rw [World.cell?_alloc_at _ _ _ _ (by rfl)]; rfl) (by rw [World.cell?_alloc_at _ _ _ _ (by rfl)]; rfl) HLB.out (Nat.le_trans HLS.out (by simp)) ?_; intro v8 w8 own8 gb8 hat8 keep8; have HO8 := Lib.hid own8; have HG8 := Lib.hid gb8; have HA8 := Lib.hid hat8; have HKP8 := Lib.hid keep8; clear own8 gb8 hat8 keep8))
                      go_roundw
                      case rel =>
                        have hz := HZ5.out
                        obtain ⟨L, h1, h2, h3⟩ := hz
                        have hba : ∀ o, Below wr.heap.size wr (wr.alloc o) := fun o => (Below.refl _ _).alloc (Nat.le_refl _) _
                        refine ⟨q + 1, ls ++ [⟨⟨#[103, 114, 111, 119, 110]⟩, ⟨#[]⟩⟩], by first | rfl | (congr 1), by omega, by rw [List.length_append, HL3.out]; rfl, HO8.out, ?_, L, (h1.below (hba _)).grow HF.out hlt2 HG8.out HV3.out (by rw [HL3.out]; omega) HKP8.out, h2, (h3.below (hba _) (Nat.le_trans HLT.out h3.1.size)).grown HG8.out ?_ HLT.out⟩
                        · rcases HA8.out with e | e
                          · rw [e]; exact HV3.out
                          · exact .inr (.inr ⟨_, e, Nat.le_trans h3.1.size (hba _).size⟩)
                        · intro b hb
                          rcases HV3.out with e | e | ⟨b', e, hb'⟩
                          · rw [e] at hb; cases hb
                          · rw [e] at hb
                            have := HF.out.own p hlt2 b hb
                            exact .inl ⟨this.1, this.2.1⟩
                          · rw [e] at hb; injection hb with hb; subst hb
                            exact .inr ⟨Nat.le_trans HLT.out hb', hb'⟩
                      case measure => simp [intOf]; omega
                    · have hqn : ¬ (q : Int) < 12 := by omega
                      go_wp2_with fail
                      go_roundw
                      case rel => exact ⟨p + 1, by first | rfl | (congr 1), by omega, HZ5.out⟩
                      case measure => simp [intOf]; omega
            · have hkn : ¬ (p : Int) < (es.length : Int) := by omega
              go_wp2_with fail
              go_roundw
              case rel => exact ⟨r + 1, by first | rfl | (congr 1), by omega, HZ3.out⟩
              case measure => simp [intOf]; omega
        · have r1 : ¬ (r : Int) < 2 := by omega
          go_wp2_with fail
          go_ret
          obtain ⟨_, _, _, h3⟩ := HZ2.out
          exact ⟨rfl, h3⟩
end Go.Proofs.YtmmfjknnbkcniaaGreatDoor
