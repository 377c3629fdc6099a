/- Histograms: their quantile as a plain function of classes; what stands while the buckets are made one, levelled, searched. -/
import Derived.Test.YtllphokepjekpaaHB
import Derived.Test.YtllphokepjekpaaFlAll
namespace Go.Fl
open Go.Proofs.Ytllphokepjekpaa (hAt_take)

def clsB (b : Hb) : Hb := ⟨b.u, cn b.c⟩
def leH (a b : Hb) : Bool := leF a.u b.u
def cmpH (a b : Hb) : Int := ordI a.u b.u
def kept (bs : List Hb) : List Hb := bs.filter fun b => !isN b.u
theorem leH_eq : (fun x y : Hb => !Go.Proofs.ltOf cmpH y x) = leH := by
  have h := fun (a b : Nat) => congrFun (congrFun leF_eq a) b
  funext x y
  exact h x.u y.u
theorem swo_cmpH : Go.Sort.SWO (Go.Proofs.ltOf cmpH) where
  irrefl x := swo_ordI.irrefl x.u
  trans x y z := swo_ordI.trans x.u y.u z.u
  ntrans x y z := swo_ordI.ntrans x.u y.u z.u
theorem leH_trans (a b c : Hb) : leH a b = true → leH b c = true → leH a c = true := leF_trans a.u b.u c.u
theorem leH_total (a b : Hb) : (leH a b || leH b a) = true := leF_total a.u b.u
theorem kept_nan {bs : List Hb} {x : Hb} (h : x ∈ kept bs) : isN x.u = false := by
  have := (List.mem_filter.1 h).2; simpa using this
theorem kept_append (a b : List Hb) : kept (a ++ b) = kept a ++ kept b := List.filter_append ..
theorem length_kept (a : List Hb) : (kept a).length ≤ a.length := List.length_filter_le ..

/-- Do the last bound and this one stand for one bucket? -/
def same1 (out : List Hb) (u : Nat) : Bool := out.length != 0 && ford (uH out (out.length - 1)) u == some .eq
def hPut (out : List Hb) (b : Hb) : List Hb :=
  if same1 out b.u then out.set (out.length - 1) ⟨uH out (out.length - 1), fadd (cH out (out.length - 1)) b.c⟩ else out ++ [b]
/-- The buckets of one bound made one. -/
def hOne (s : List Hb) : List Hb := (s.map clsB).foldl hPut []
def hTog (bs : List Hb) : List Hb := hOne ((kept bs).mergeSort leH)

theorem uH_map (l : List Hb) (i : Nat) : uH (l.map clsB) i = uH l i := by
  unfold uH hAt
  by_cases h : i < l.length
  · simp [List.getD, h, clsB]
  · simp [List.getD, h]
theorem cH_map (l : List Hb) {i : Nat} (h : i < l.length) : cH (l.map clsB) i = cn (cH l i) := by
  unfold cH hAt
  simp [List.getD, h, clsB]
theorem same1_map (l : List Hb) (u : Nat) : same1 (l.map clsB) u = same1 l u := by
  unfold same1; rw [List.length_map, uH_map]

theorem hPut_len (out : List Hb) (b : Hb) : 1 ≤ (hPut out b).length ∧ (hPut out b).length ≤ out.length + 1 := by
  unfold hPut
  split
  · rename_i h; unfold same1 at h; simp at h; rw [List.length_set]; have := h.1; have : out.length ≠ 0 := fun e => this (List.eq_nil_of_length_eq_zero e); omega
  · simp

theorem put_add {O : List Hb} {b : Hb} {r : Nat} (h : same1 O b.u = true) (hr : cn r = fadd (cn (cH O (O.length - 1))) (cn b.c)) :
    (O.set (O.length - 1) ⟨uH O (O.length - 1), r⟩).map clsB = hPut (O.map clsB) (clsB b) := by
  have hne : O.length ≠ 0 := by unfold same1 at h; simp at h; exact fun e => h.1 (List.eq_nil_of_length_eq_zero e)
  unfold hPut
  rw [same1_map, show (clsB b).u = b.u from rfl, if_pos h, List.map_set, List.length_map, uH_map, cH_map _ (by omega)]
  unfold clsB
  dsimp only
  rw [hr]
theorem put_new {O : List Hb} {b : Hb} (h : same1 O b.u = false) : (O ++ [b]).map clsB = hPut (O.map clsB) (clsB b) := by
  unfold hPut
  rw [same1_map, show (clsB b).u = b.u from rfl, if_neg (by rw [h]; simp), List.map_append]
  rfl

/-- What has been made one of the first i. -/
def Made (s : List Hb) (i : Nat) (O : List Hb) : Prop := i ≤ s.length ∧ O.map clsB = hOne (s.take i)
theorem hOne_succ {s : List Hb} {i : Nat} (h : i < s.length) : hOne (s.take (i + 1)) = hPut (hOne (s.take i)) (clsB (hAt s i)) := by
  unfold hOne
  rw [List.take_succ_eq_append_getElem h, List.map_append, List.foldl_append, hAt_get h]
  rfl
theorem made_nil (s : List Hb) : Made s 0 [] := ⟨by omega, by simp [hOne]⟩
theorem Made.add {s O : List Hb} {i r : Nat} (h : Made s i O) (hi : i < s.length) (hs : same1 O (uH s i) = true) (hr : cn r = fadd (cn (cH O (O.length - 1))) (cn (cH s i))) :
    Made s (i + 1) (O.set (O.length - 1) ⟨uH O (O.length - 1), r⟩) := by
  refine ⟨by omega, ?_⟩
  rw [hOne_succ hi, ← h.2]
  exact put_add (b := hAt s i) hs hr
theorem Made.new {s O : List Hb} {i : Nat} (h : Made s i O) (hi : i < s.length) (hs : same1 O (uH s i) = false) : Made s (i + 1) (O ++ [hAt s i]) := by
  refine ⟨by omega, ?_⟩
  rw [hOne_succ hi, ← h.2]
  exact put_new (b := hAt s i) hs
theorem Made.done {s O : List Hb} (h : Made s s.length O) : O.map clsB = hOne s := by rw [h.2, List.take_length]
theorem hOne_len (s : List Hb) : (hOne s).length ≤ s.length := by
  have : ∀ (l : List Hb) (out : List Hb), (l.foldl hPut out).length ≤ out.length + l.length := by
    intro l
    induction l with
    | nil => intro out; simp
    | cons b l ih => intro out; have := ih (hPut out b); have := (hPut_len out b).2; simp only [List.foldl_cons, List.length_cons]; omega
  have := this (s.map clsB) []
  unfold hOne; simpa using this
theorem Made.len {s O : List Hb} {i : Nat} (h : Made s i O) : O.length ≤ i := by
  have h1 := hOne_len (s.take i)
  rw [← h.2, List.length_map, List.length_take] at h1
  omega

/-- .. in place: the first n cells hold them, from place i on the row is as it was. -/
def InPl (s : List Hb) (i n : Nat) (cur : List Hb) : Prop := cur.length = s.length ∧ n ≤ i ∧ Made s i (cur.take n) ∧ ∀ j, i ≤ j → hAt cur j = hAt s j

theorem inpl_start (s : List Hb) : InPl s 0 0 s := ⟨rfl, by omega, by rw [List.take_zero]; exact made_nil s, fun j _ => rfl⟩
theorem InPl.add {s cur : List Hb} {i n r : Nat} (h : InPl s i n cur) (hi : i < s.length) (h0 : 0 < n) (hs : (ford (uH cur (n - 1)) (uH s i) == some .eq) = true) (hr : cn r = fadd (cn (cH cur (n - 1))) (cn (cH s i))) :
    InPl s (i + 1) n (cur.set (n - 1) ⟨uH cur (n - 1), r⟩) := by
  obtain ⟨h1, h2, h3, h4⟩ := h
  have hl : (cur.take n).length = n := by rw [List.length_take]; omega
  have eu : uH (cur.take n) (n - 1) = uH cur (n - 1) := by unfold uH; rw [hAt_take _ (by omega)]
  have ec : cH (cur.take n) (n - 1) = cH cur (n - 1) := by unfold cH; rw [hAt_take _ (by omega)]
  have key := h3.add (r := r) hi (by unfold same1; rw [hl, eu, hs]; simp; omega) (by rw [hl, ec]; exact hr)
  rw [hl, eu] at key
  refine ⟨by rw [List.length_set]; exact h1, by omega, by rw [List.take_set]; exact key, fun j hj => ?_⟩
  rw [hAt_set (by omega), if_neg (by omega)]
  exact h4 j (by omega)
theorem InPl.new {s cur : List Hb} {i n : Nat} (h : InPl s i n cur) (hi : i < s.length) (hs : n = 0 ∨ (ford (uH cur (n - 1)) (uH s i) == some .eq) = false) : InPl s (i + 1) (n + 1) (cur.set n (hAt s i)) := by
  obtain ⟨h1, h2, h3, h4⟩ := h
  have hl : (cur.take n).length = n := by rw [List.length_take]; omega
  have key := h3.new hi (by
    unfold same1
    rcases hs with rfl | hs
    · simp
    · by_cases h0 : n = 0
      · subst h0; simp
      · have eu : uH (cur.take n) (n - 1) = uH cur (n - 1) := by unfold uH; rw [hAt_take _ (by omega)]
        rw [hl, eu, hs]; simp)
  refine ⟨by rw [List.length_set]; exact h1, by omega, ?_, fun j hj => ?_⟩
  · have : (cur.set n (hAt s i)).take (n + 1) = cur.take n ++ [hAt s i] := by
      rw [List.take_succ_eq_append_getElem (by rw [List.length_set]; omega), List.getElem_set_self, List.take_set, List.set_eq_of_length_le (by omega)]
    rw [this]; exact key
  · rw [hAt_set (by omega), if_neg (by omega)]
    exact h4 j (by omega)

/-- Counts that fall raised to what stood before. -/
def hLvl (top : Nat) : List Hb → List Hb
  | [] => []
  | b :: t => if ford b.c top == some .lt then ⟨b.u, top⟩ :: hLvl top t else if ford b.c top == some .gt then b :: hLvl b.c t else b :: hLvl top t
def levels (l : List Hb) : List Hb := l.take 1 ++ hLvl (cH l 0) (l.drop 1)
theorem length_hLvl (top : Nat) (l : List Hb) : (hLvl top l).length = l.length := by
  induction l generalizing top with
  | nil => rfl
  | cons b t ih =>
    unfold hLvl
    split
    · simp [ih]
    · split <;> simp [ih]
theorem length_levels (l : List Hb) : (levels l).length = l.length := by
  unfold levels; rw [List.length_append, length_hLvl]; simp; omega

def LvR (S : List Hb) (i top : Nat) (cur : List Hb) : Prop := cur.length = S.length ∧ i ≤ S.length ∧ (cur.take i).map clsB ++ hLvl (cn top) ((cur.drop i).map clsB) = levels S
theorem lvr_start {S cur : List Hb} (h : cur.map clsB = S) (h0 : 0 < cur.length) : LvR S 1 (cH cur 0) cur := by
  subst h
  refine ⟨by simp, by rw [List.length_map]; omega, ?_⟩
  unfold levels
  rw [cH_map _ h0, List.map_take, List.map_drop]
theorem drop_head {l : List Hb} {i : Nat} (h : i < l.length) : l.drop i = hAt l i :: l.drop (i + 1) := by
  rw [hAt_get h]; exact List.drop_eq_getElem_cons h
theorem take_more {l : List Hb} {i : Nat} (h : i < l.length) : l.take (i + 1) = l.take i ++ [hAt l i] := by
  rw [List.take_succ_eq_append_getElem h, hAt_get h]
theorem LvR.lt {S cur : List Hb} {i top : Nat} (h : LvR S i top cur) (hi : i < S.length) (hc : (ford (cH cur i) top == some .lt) = true) : LvR S (i + 1) top (cur.set i ⟨uH cur i, top⟩) := by
  obtain ⟨h1, h2, h3⟩ := h
  refine ⟨by rw [List.length_set]; exact h1, by omega, ?_⟩
  rw [← h3, drop_head (show i < cur.length by omega), List.map_cons]
  have e : (cur.set i ⟨uH cur i, top⟩).take (i + 1) = cur.take i ++ [⟨uH cur i, top⟩] := by
    rw [take_more (by rw [List.length_set]; omega), hAt_set (by omega), if_pos rfl, List.take_set, List.set_eq_of_length_le (by simp; omega)]
  have e2 : (cur.set i ⟨uH cur i, top⟩).drop (i + 1) = cur.drop (i + 1) := by rw [List.drop_set_of_lt (by omega)]
  have hb : hLvl (cn top) (clsB (hAt cur i) :: (cur.drop (i + 1)).map clsB) = ⟨uH cur i, cn top⟩ :: hLvl (cn top) ((cur.drop (i + 1)).map clsB) := by
    show (if ford (cn (cH cur i)) (cn top) == some .lt then _ else _) = _
    rw [ford_cn, if_pos hc]
    rfl
  rw [hb, e, e2, List.map_append, List.append_assoc]
  rfl
theorem LvR.gt {S cur : List Hb} {i top : Nat} (h : LvR S i top cur) (hi : i < S.length) (hc : (ford (cH cur i) top == some .lt) = false) (hg : (ford (cH cur i) top == some .gt) = true) : LvR S (i + 1) (cH cur i) cur := by
  obtain ⟨h1, h2, h3⟩ := h
  refine ⟨h1, by omega, ?_⟩
  have hb : hLvl (cn top) (clsB (hAt cur i) :: (cur.drop (i + 1)).map clsB) = clsB (hAt cur i) :: hLvl (cn (cH cur i)) ((cur.drop (i + 1)).map clsB) := by
    show (if ford (cn (cH cur i)) (cn top) == some .lt then _ else if ford (cn (cH cur i)) (cn top) == some .gt then _ else _) = _
    rw [ford_cn, hc, hg, if_neg (by simp), if_pos rfl]
    rfl
  rw [← h3, drop_head (show i < cur.length by omega), List.map_cons, hb, take_more (by omega), List.map_append, List.append_assoc]
  rfl
theorem LvR.eq {S cur : List Hb} {i top : Nat} (h : LvR S i top cur) (hi : i < S.length) (hc : (ford (cH cur i) top == some .lt) = false) (hg : (ford (cH cur i) top == some .gt) = false) : LvR S (i + 1) top cur := by
  obtain ⟨h1, h2, h3⟩ := h
  refine ⟨h1, by omega, ?_⟩
  have hb : hLvl (cn top) (clsB (hAt cur i) :: (cur.drop (i + 1)).map clsB) = clsB (hAt cur i) :: hLvl (cn top) ((cur.drop (i + 1)).map clsB) := by
    show (if ford (cn (cH cur i)) (cn top) == some .lt then _ else if ford (cn (cH cur i)) (cn top) == some .gt then _ else _) = _
    rw [ford_cn, hc, hg, if_neg (by simp), if_neg (by simp)]
  rw [← h3, drop_head (show i < cur.length by omega), List.map_cons, hb, take_more (by omega), List.map_append, List.append_assoc]
  rfl
theorem LvR.done {S cur : List Hb} {top : Nat} (h : LvR S S.length top cur) : cur.map clsB = levels S := by
  obtain ⟨h1, h2, h3⟩ := h
  rw [← h3, ← h1, List.take_length, List.drop_length]
  simp [hLvl]

/-- Is a count at least this? -/
def geF (x y : Nat) : Bool := ford x y == some .gt || ford x y == some .eq
def leFF (x y : Nat) : Bool := ford x y == some .lt || ford x y == some .eq
/-- The first bucket, the last one left out, whose count is at least the rank; else the last. -/
def IsIdx (L : List Hb) (rank b : Nat) : Prop := b ≤ L.length - 1 ∧ (∀ j, j < b → geF (cH L j) rank = false) ∧ (b < L.length - 1 → geF (cH L b) rank = true)
theorem IsIdx.one {L : List Hb} {rank b b' : Nat} (h : IsIdx L rank b) (h' : IsIdx L rank b') : b = b' := by
  obtain ⟨h1, h2, h3⟩ := h
  obtain ⟨k1, k2, k3⟩ := h'
  rcases Nat.lt_trichotomy b b' with g | g | g
  · have := k2 b g; rw [h3 (by omega)] at this; cases this
  · exact g
  · have := h2 b' g; rw [k3 (by omega)] at this; cases this
noncomputable def hIdx (L : List Hb) (rank : Nat) : Nat := Classical.epsilon fun b => IsIdx L rank b
theorem hIdx_of {L : List Hb} {rank b : Nat} (h : IsIdx L rank b) : hIdx L rank = b :=
  (Classical.epsilon_spec (p := fun b => IsIdx L rank b) ⟨b, h⟩ : IsIdx L rank (hIdx L rank)).one h

/-- The quantile, the bucket found. -/
def hAns (L : List Hb) (rank b : Nat) : Nat :=
  if b = L.length - 1 then cn (uH L (L.length - 2))
  else if (b == 0 && leFF (uH L 0) 0) = true then cn (uH L 0)
  else if 0 < b then fadd (cn (uH L (b - 1))) (fmul (fsub (cn (uH L b)) (cn (uH L (b - 1)))) (fdiv (fsub rank (cH L (b - 1))) (fsub (cH L b) (cH L (b - 1)))))
  else fadd 0 (fmul (fsub (cn (uH L b)) 0) (fdiv (fsub rank 0) (fsub (cH L b) 0)))
noncomputable def hVal (q : Nat) (L : List Hb) : Nat :=
  if (ford (cH L (L.length - 1)) 0 == some .gt) = false then nanc
  else hAns L (fmul q (cH L (L.length - 1))) (hIdx L (fmul q (cH L (L.length - 1))))
def fmax64 : Nat := 9218868437227405311
def hSound (S : List Hb) : Bool := decide (2 ≤ S.length) && ford (uH S (S.length - 1)) fmax64 == some .gt
noncomputable def bucketsS (q : Nat) (bs : List Hb) : Nat :=
  if isN q = true then nanc else if (ford q 0 == some .lt) = true then ninf else if (ford q w1 == some .gt) = true then pinf
  else if hSound (hTog bs) = true then hVal q (levels (hTog bs)) else nanc
end Go.Fl
