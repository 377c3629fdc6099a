/- slices.SortStableFunc at weir/api.Elem: what the row holds is the list, sorted by merging. -/
import Derived.Test.YtmmfjknnbkcniaaGreatStableE
import Derived.Test.YtmmfjknnbkcniaaGreatKept
import Derived.Test.YtmmfjknnbkcniaaGreatProg
import Derived.Shelf.SlSortCmp.KitK
import Derived.Sort.WalkB2
import Derived.Sort.WalkB12
import Derived.Deep.LoopGhost
namespace Go.Proofs.YtmmfjknnbkcniaaGreat
open Go.Shelf Go.RowKit Go.Lib Go.Sort Go.Stab
set_option linter.unusedVariables false
set_option linter.unusedSimpArgs false

section
variable {enc : Nat → List Value} {k blk off cap : Nat} {d0 : Array Nat} {w0 : World}

end
set_option maxHeartbeats 4000000 in
set_option maxRecDepth 1000000 in
/-- The row holds the list sorted by merging; nothing else turns. -/
theorem sortStableE {β : Type} [Inhabited β] (enc0 : β → List Value) (k : Nat) (hk : ∀ x, (enc0 x).length = k) (h1 : ∀ x, ∀ v ∈ enc0 x, v.oneCell' = true)  (aE : ∀ w, (isAgg 31).run Tryz.prog w = .ok true w) (zE : ∀ w, (Go.sizeOf 31).run Tryz.prog w = .ok k w) (cf : β → β → Int) (hO : SWO (ltOf cf)) (g : Nat) (cb : Array Value) (eg : ∀ args w, (callFunc g args).run Tryz.prog w = .ok (.enter g args) w) (blk off cap : Nat) (vs : Array β) (w0 : World)
    (hH : HoldsK enc0 k w0 blk off vs) (hblk : blk < w0.heap.size) (hsz : vs.size < 2305843009213693952)
    (hcmp : ∀ (W : World) (i j : Nat), KeptButF blk w0 W → Calls Tryz.prog g (#[.agg (enc0 vs[i]!).toArray, .agg (enc0 vs[j]!).toArray] ++ cb) W fun e w' => e = .returned (.int .i64 (cf vs[i]! vs[j]!)) ∧ ∃ q os', w' = grow (W.drewN q) os') :
    Calls Tryz.prog 29 #[.slice (some ⟨blk, off, none⟩) vs.size cap, .func (.func g) #[] cb] w0 fun e w' => e = .returned (.tuple #[]) ∧ KeptButF blk w0 w' ∧
      ∃ ms : List β, ms = vs.toList.mergeSort (fun x y => !ltOf cf y x) ∧ ms.length = vs.size ∧ ∀ i, i < vs.size → (∀ c, c < k → w'.cell? ⟨blk, off + i * k + c, none⟩ = some (enc0 (ms.getD i default))[c]! ∧ w'.frozen? ⟨blk, off + i * k + c, none⟩ = false) := by
  obtain ⟨d, hd⟩ : ∃ d, d = Array.range vs.size := ⟨_, rfl⟩
  have hds : d.size = vs.size := by rw [hd]; simp
  have hid : ∀ i, i < d.size → d[i]! = i := fun i hi => by rw [hds] at hi; rw [hd]; simp [hi]
  obtain ⟨enc, henc⟩ : ∃ enc : Nat → List Value, enc = fun t => enc0 vs[t]! := ⟨_, rfl⟩
  have hget : ∀ t, enc t = enc0 vs[t]! := fun t => by rw [henc]
  have hflat : flatK enc k d = flatK enc0 k vs := by
    unfold flatK
    rw [hds]
    refine Array.map_congr_left fun t ht => ?_
    have ht2 : t < vs.size * k := Array.mem_range.1 ht
    have : t / k < vs.size := Nat.div_lt_of_lt_mul (by rwa [Nat.mul_comm] at ht2)
    rw [hget, hid _ (by omega)]
  have hHd : HoldsK enc k w0 blk off d := by unfold HoldsK; rw [hflat]; exact hH
  have R : RowK enc k w0 blk off d := ⟨fun x => by rw [hget]; exact hk _, fun x => by rw [hget]; exact h1 _, hHd, hblk⟩
  have S0 : SWK enc k w0 blk off d w0 := SWK.start hHd
  have hC : CmpLays Tryz.prog g cb enc k (fun s t => cf vs[s]! vs[t]!) blk off d.size w0 := fun m os dk _ x y => by
    have := hcmp _ x y (keptBut_sortWorldK enc k w0 blk off m dk os)
    rw [← hget, ← hget] at this
    exact this
  have HR : ∀ x y, x < y → ((fun s t => cf vs[s]! vs[t]!) y x < 0 ↔ lexR (ltOf cf) vs y x) := fun x y hxy => by
    rw [lexR_later _ _ hxy]; simp [ltOf]
  have hst := stableE (cap := cap) aE zE (lexR (ltOf cf) vs) (lexR_ord _ _ hO) (fun s t => cf vs[s]! vs[t]!) g cb eg hC HR R d w0 rfl S0 (by rw [hds]; exact hsz) hid
  rw [hds] at hst
  have HST : Hid (Calls _ _ _ _ _) := hst
  have HGET : Hid (∀ t, enc t = enc0 vs[t]!) := hget
  clear hst HR hC hcmp eg henc hget
  go_enter Tryz.func29, Tryz.ntmps29
  go_wp2_with fail
  refine Calls.mono HST.out ?_
  rintro e w1 ⟨rfl, p, ⟨n, os, rfl⟩, hp, hperm, hsort⟩
  have hps : p.size = vs.size := by rw [hp, hds]
  have hp' : PermIn 0 vs.size (Array.range vs.size) p := by rw [← hd]; exact hperm
  have key := sorted_is (ltOf cf) vs hO hp' hsort
  have HH : HoldsK enc k (sortWorldK enc k w0 blk off n p os) blk off p := SWK.holds ⟨n, os, rfl⟩ hblk R.hH hp
  have HHH : Hid _ := HH
  have KEY : Hid _ := key
  have HKB : Hid _ := keptBut_sortWorldK enc k w0 blk off n p os
  clear HST hperm hsort hp' key HH R S0 hH
  go_wp2_with fail
  go_end0
  refine ⟨rfl, HKB.out, _, rfl, by simp, fun i hi => ?_⟩
  intro c hc
  have h2 := HoldsK.cell HHH.out (i := i) (c := c) (by omega) hc
  refine ⟨?_, h2.2⟩
  rw [h2.1, HGET.out]
  congr 3
  have : (p.toList.map (fun t => vs[t]!))[i]? = some vs[p[i]!]! := by simp [hps, hi]
  rw [KEY.out] at this
  simp [List.getD, this]

end Go.Proofs.YtmmfjknnbkcniaaGreat
