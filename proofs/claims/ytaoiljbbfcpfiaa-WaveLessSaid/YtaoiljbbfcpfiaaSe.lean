/- Plain: the rows of a wavelet matrix, level by level. -/
import Derived.Test.YtaoiljbbfcpfiaaSd
set_option linter.unusedVariables false
set_option linter.unusedSimpArgs false
namespace Go.Proofs.Ytaoiljbbfcpfiaa.Wf
/-- Bit k of a symbol, from the top of nine. -/
def bitF (c : Int) (k : Nat) : Bool := decide ((c / 2 ^ (8 - k)) % 2 = 1)
def partF (k : Nat) (r : List Int) : List Int := r.filter (fun x => !bitF x k) ++ r.filter (fun x => bitF x k)
def levelF (l : List Int) : Nat → List Int
  | 0 => l
  | k + 1 => partF k (levelF l k)
theorem part_length (k : Nat) (r : List Int) : (partF k r).length = r.length := by
  unfold partF
  rw [List.length_append]
  induction r with
  | nil => rfl
  | cons x r ih =>
    rw [List.filter_cons, List.filter_cons]
    cases bitF x k <;> simp <;> omega
theorem level_length (l : List Int) (k : Nat) : (levelF l k).length = l.length := by
  induction k with
  | zero => rfl
  | succ k ih => rw [levelF, part_length, ih]
/-- The bits of a level. -/
def bitsF (l : List Int) (k : Nat) : List Bool := (levelF l k).map (fun x => bitF x k)
def zerosF (l : List Int) (k : Nat) : Nat := ((levelF l k).filter (fun x => !bitF x k)).length
/-- One step down: where place i of level k comes to lie if it goes the way b. -/
def downF (l : List Int) (k : Nat) (b : Bool) (i : Nat) : Nat := if b then zerosF l k + ones ((bitsF l k).take i) else i - ones ((bitsF l k).take i)
/-- A cut of a filtered row. -/
theorem filter_cut (p : Int → Bool) (r : List Int) (lo hi : Nat) (hh : lo ≤ hi) : ((r.filter p).drop ((r.take lo).filter p).length).take (((r.take hi).filter p).length - ((r.take lo).filter p).length) = ((r.take hi).drop lo).filter p := by
  have e1 : r = (r.take hi).take lo ++ ((r.take hi).drop lo ++ r.drop hi) := by
    rw [← List.append_assoc, List.take_append_drop, List.take_append_drop]
  have e2 : (r.take hi).take lo = r.take lo := by rw [List.take_take, Nat.min_eq_left hh]
  have e3 : r.take hi = r.take lo ++ (r.take hi).drop lo := by rw [← e2, List.take_append_drop]
  have e4 : r.filter p = (r.take lo).filter p ++ (((r.take hi).drop lo).filter p ++ (r.drop hi).filter p) := by
    conv => lhs; rw [e1]
    rw [List.filter_append, List.filter_append, e2]
  have e5 : ((r.take hi).filter p).length = ((r.take lo).filter p).length + (((r.take hi).drop lo).filter p).length := by
    conv => lhs; rw [e3]
    rw [List.filter_append, List.length_append]
  rw [e4, List.drop_left, e5, Nat.add_sub_cancel_left, List.take_left]
theorem ones_filter (k : Nat) (r : List Int) : ones (r.map (fun x => bitF x k)) = (r.filter (fun x => bitF x k)).length := by
  unfold ones
  rw [List.countP_map, List.countP_eq_length_filter]
  rfl
theorem zeros_filter (k : Nat) (r : List Int) : r.length - ones (r.map (fun x => bitF x k)) = (r.filter (fun x => !bitF x k)).length := by
  have h := part_length k r
  unfold partF at h
  rw [List.length_append] at h
  rw [ones_filter]
  omega
theorem down_one (l : List Int) (k i : Nat) : downF l k true i = zerosF l k + (((levelF l k).take i).filter (fun x => bitF x k)).length := by
  unfold downF bitsF
  rw [if_pos rfl, ← List.map_take, ones_filter]
theorem down_zero (l : List Int) (k i : Nat) (hi : i ≤ l.length) : downF l k false i = (((levelF l k).take i).filter (fun x => !bitF x k)).length := by
  unfold downF bitsF
  rw [if_neg (by decide), ← List.map_take, ← zeros_filter, List.length_take, level_length, Nat.min_eq_left hi]
theorem down_mono (l : List Int) (k : Nat) (b : Bool) {i j : Nat} (h : i ≤ j) (hj : j ≤ l.length) : downF l k b i ≤ downF l k b j := by
  have hp : (levelF l k).take i <+: (levelF l k).take j := by
    rw [← Nat.min_eq_left h, ← List.take_take]
    exact List.take_prefix _ _
  cases b with
  | true =>
    rw [down_one, down_one]
    have := (hp.filter (fun x => bitF x k)).length_le
    omega
  | false =>
    rw [down_zero _ _ _ (by omega), down_zero _ _ _ hj]
    exact (hp.filter _).length_le
theorem down_le (l : List Int) (k : Nat) (b : Bool) {i : Nat} (hi : i ≤ l.length) : downF l k b i ≤ l.length := by
  have h := part_length k (levelF l k)
  rw [level_length] at h
  unfold partF at h
  rw [List.length_append] at h
  have hp : (levelF l k).take i <+: levelF l k := List.take_prefix _ _
  cases b with
  | true =>
    rw [down_one]
    have := (hp.filter (fun x => bitF x k)).length_le
    unfold zerosF
    omega
  | false =>
    rw [down_zero _ _ _ hi]
    have := (hp.filter (fun x => !bitF x k)).length_le
    omega
/-- **What lies between two places, one level down: those that go that way.** -/
theorem down_cut (l : List Int) (k : Nat) (b : Bool) {lo hi : Nat} (hh : lo ≤ hi) (hi2 : hi ≤ l.length) :
    ((levelF l (k + 1)).take (downF l k b hi)).drop (downF l k b lo) = (((levelF l k).take hi).drop lo).filter (fun x => bitF x k == b) := by
  have hm := down_mono l k b hh hi2
  rw [List.drop_take]
  cases b with
  | true =>
    rw [down_one, down_one, levelF, partF]
    have e : (fun x => bitF x k == true) = (fun x => bitF x k) := by funext x; simp
    rw [e, ← filter_cut (fun x => bitF x k) (levelF l k) lo hi hh]
    have h1 : zerosF l k = ((levelF l k).filter (fun x => !bitF x k)).length := rfl
    rw [h1, ← List.drop_drop, List.drop_left]
    congr 1
    omega
  | false =>
    rw [down_zero _ _ _ hi2, down_zero _ _ _ (by omega), levelF, partF]
    have e : (fun x => bitF x k == false) = (fun x => !bitF x k) := by funext x; simp
    rw [e, ← filter_cut (fun x => !bitF x k) (levelF l k) lo hi hh]
    have hp : (levelF l k).take hi <+: levelF l k := List.take_prefix _ _
    have h2 := (hp.filter (fun x => !bitF x k)).length_le
    have hp2 : (levelF l k).take lo <+: levelF l k := List.take_prefix _ _
    have h3 := (hp2.filter (fun x => !bitF x k)).length_le
    rw [List.drop_append_of_le_length h3, List.take_append_of_le_length (by rw [List.length_drop]; omega)]
end Go.Proofs.Ytaoiljbbfcpfiaa.Wf
