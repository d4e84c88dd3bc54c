/- Plain lemmas: tables, and sorting by counting. -/
import Derived.Test.YtadekjidjhglaaaSb
namespace Go.Proofs.Ytadekjidjhglaaa.Sf

def ni (l : List Nat) : List Int := l.map (fun (p : Nat) => (p : Int))
theorem ni_length (l : List Nat) : (ni l).length = l.length := by simp [ni]
theorem ni_getD (l : List Nat) (j : Nat) : (ni l).getD j 0 = ((l.getD j 0 : Nat) : Int) := by
  unfold ni
  rw [List.getD_eq_getElem?_getD, List.getElem?_map, List.getD_eq_getElem?_getD]
  cases l[j]? <;> rfl
theorem ni_append (a b : List Nat) : ni (a ++ b) = ni a ++ ni b := by simp [ni]
theorem ni_set (l : List Nat) (i v : Nat) : ni (l.set i v) = (ni l).set i (v : Int) := by simp [ni, List.map_set]
theorem ni_take (l : List Nat) (i : Nat) : ni (l.take i) = (ni l).take i := by simp [ni, List.map_take]

/-- A table of numbers. -/
def tab (n : Nat) (f : Nat → Int) : List Int := (List.range n).map f
theorem tab_length (n : Nat) (f : Nat → Int) : (tab n f).length = n := by simp [tab]
theorem tab_getD {n : Nat} (f : Nat → Int) {i : Nat} (h : i < n) : (tab n f).getD i 0 = f i := by
  unfold tab
  rw [List.getD_eq_getElem?_getD, List.getElem?_map, List.getElem?_range h]; rfl
theorem tab_congr {n : Nat} {f g : Nat → Int} (h : ∀ i, i < n → f i = g i) : tab n f = tab n g := by
  unfold tab
  exact List.map_congr_left (fun i hi => h i (List.mem_range.1 hi))
theorem tab_set (n : Nat) (f : Nat → Int) (i : Nat) (v : Int) : (tab n f).set i v = tab n (fun c => if c = i then v else f c) := by
  apply List.ext_getElem?
  intro j
  unfold tab
  rw [List.getElem?_set]
  simp only [List.length_map, List.length_range, List.getElem?_map]
  by_cases h : i = j
  · subst h
    by_cases hi : i < n
    · rw [if_pos rfl, if_pos hi, List.getElem?_range hi]; simp
    · rw [if_pos rfl, if_neg hi]
      rw [List.getElem?_eq_none (by simp; omega)]; rfl
  · rw [if_neg h]
    by_cases hj : j < n
    · rw [List.getElem?_range hj]; simp [Ne.symm h]
    · rw [List.getElem?_eq_none (by simp; omega)]; rfl
theorem tab_replicate (n : Nat) (v : Int) : List.replicate n v = tab n (fun _ => v) := by
  apply List.ext_getElem?
  intro j
  unfold tab
  rw [List.getElem?_replicate, List.getElem?_map]
  by_cases h : j < n
  · rw [if_pos h, List.getElem?_range h]; rfl
  · rw [if_neg h, List.getElem?_eq_none (by simp; omega)]; rfl

section
variable (l : List Nat) (rank : List Int)
/-- How many of the first j have rank c. -/
def cnt (j c : Nat) : Nat := ((l.take j).filter fun p => rank.getD p 0 = (c : Int)).length
/-- How many have a rank below c. -/
def ltF : Nat → Nat
  | 0 => 0
  | c + 1 => ltF c + cnt l rank l.length c
def segF (j c : Nat) : List Nat := ((l.take j).filter fun p => rank.getD p 0 = (c : Int)) ++ List.replicate (cnt l rank l.length c - cnt l rank j c) 0
def outF (K j : Nat) : List Nat := (List.range K).flatMap (segF l rank j)
end
variable {l : List Nat} {rank : List Int}
theorem cnt_zero (c : Nat) : cnt l rank 0 c = 0 := by simp [cnt]
theorem cnt_succ {j : Nat} (hj : j < l.length) (c : Nat) : cnt l rank (j + 1) c = cnt l rank j c + if rank.getD (l.getD j 0) 0 = (c : Int) then 1 else 0 := by
  unfold cnt
  rw [List.take_succ_eq_append_getElem hj, List.filter_append, List.length_append, List.getD_eq_getElem?_getD (l := l), List.getElem?_eq_getElem hj]
  simp only [List.filter_cons, List.filter_nil, Option.getD_some]
  by_cases h : rank.getD l[j] 0 = (c : Int)
  · simp only [h, decide_true, if_true, List.length_cons, List.length_nil]
  · simp only [h, decide_false, if_false]; rfl
theorem cnt_mono {j k : Nat} (h : j ≤ k) (c : Nat) : cnt l rank j c ≤ cnt l rank k c := by
  unfold cnt
  have : l.take j = (l.take k).take j := by rw [List.take_take, Nat.min_eq_left h]
  rw [this]
  exact List.Sublist.length_le (List.Sublist.filter _ (List.take_sublist _ _))
theorem cnt_le (j c : Nat) : cnt l rank j c ≤ l.length := by
  unfold cnt
  exact Nat.le_trans (List.length_filter_le _ _) (by simp; omega)
theorem segF_length {j : Nat} (hj : j ≤ l.length) (c : Nat) : (segF l rank j c).length = cnt l rank l.length c := by
  unfold segF
  have := cnt_mono (l := l) (rank := rank) hj c
  rw [List.length_append, List.length_replicate]
  show cnt l rank j c + _ = _
  omega
theorem flat_length {j : Nat} (hj : j ≤ l.length) (c : Nat) : ((List.range c).flatMap (segF l rank j)).length = ltF l rank c := by
  induction c with
  | zero => simp [ltF]
  | succ c ih => rw [List.range_succ, List.flatMap_append, List.length_append, ih]; simp [ltF, segF_length hj]
theorem ltF_mono {c d : Nat} (h : c ≤ d) : ltF l rank c ≤ ltF l rank d := by
  induction d with
  | zero => have : c = 0 := by omega
            subst this; exact Nat.le_refl _
  | succ d ih =>
    by_cases e : c = d + 1
    · subst e; exact Nat.le_refl _
    · have := ih (by omega); simp only [ltF]; omega
theorem outF_done (K : Nat) : outF l rank K l.length = bucket l rank K := by
  unfold outF bucket
  congr 1
  funext c
  unfold segF
  rw [Nat.sub_self, List.replicate_zero, List.append_nil, List.take_length]
theorem outF_length {K j : Nat} (hj : j ≤ l.length) : (outF l rank K j).length = ltF l rank K := flat_length hj K
/-- All are told: there are as many places as things. -/
theorem ltF_all {K : Nat} (h : ∀ p ∈ l, 0 ≤ rank.getD p 0 ∧ rank.getD p 0 < K) : ltF l rank K = l.length := by
  rw [← outF_length (Nat.le_refl _), outF_done]
  exact (perm_flatMap_filter l (fun p => rank.getD p 0) K h).length_eq
theorem outF_zero {K : Nat} (h : ∀ p ∈ l, 0 ≤ rank.getD p 0 ∧ rank.getD p 0 < K) : outF l rank K 0 = List.replicate l.length 0 := by
  rw [List.eq_replicate_iff]
  refine ⟨by rw [outF_length (Nat.zero_le _), ltF_all h], ?_⟩
  intro b hb
  obtain ⟨c, _, hb⟩ := List.mem_flatMap.1 hb
  simp [segF] at hb
  exact hb.2
theorem set_mid {A B C : List Nat} {i v : Nat} (hi : i < B.length) : (A ++ (B ++ C)).set (A.length + i) v = A ++ (B.set i v ++ C) := by
  rw [List.set_append_right _ _ (by omega), Nat.add_sub_cancel_left, List.set_append_left _ _ hi]
theorem outF_succ {K j c : Nat} (hj : j < l.length) (hc : rank.getD (l.getD j 0) 0 = (c : Int)) (hK : c < K) :
    outF l rank K (j + 1) = (outF l rank K j).set (ltF l rank c + cnt l rank j c) (l.getD j 0) := by
  unfold outF
  have e : List.range K = List.range c ++ (c :: (List.range (K - c - 1)).map (c + 1 + ·)) := by
    have h1 : List.range K = List.range c ++ (List.range (K - c)).map (c + ·) := by rw [← List.range_add, show c + (K - c) = K by omega]
    rw [h1, show K - c = (K - c - 1) + 1 by omega, List.range_succ_eq_map, List.map_cons, List.map_map, Nat.add_zero, show K - c - 1 + 1 - 1 = K - c - 1 by omega]
    congr 2
    apply List.map_congr_left
    intro a _
    simp only [Function.comp]; omega
  have hsame : ∀ d, d ≠ c → segF l rank (j + 1) d = segF l rank j d := by
    intro d hd
    unfold segF
    rw [cnt_succ hj, hc, if_neg (by omega), List.take_succ_eq_append_getElem hj, List.filter_append]
    have : rank.getD l[j] 0 = (c : Int) := by rw [← hc, List.getD_eq_getElem?_getD (l := l), List.getElem?_eq_getElem hj]; rfl
    have hne : ¬ ((c : Int) = (d : Int)) := by omega
    simp [List.filter_cons, List.getD_eq_getElem?_getD] at this ⊢
    rw [this]; simp [hne]
  have hme : segF l rank (j + 1) c = (segF l rank j c).set (cnt l rank j c) (l.getD j 0) := by
    have h1 := cnt_succ (l := l) (rank := rank) hj c
    rw [if_pos hc] at h1
    have h2 := cnt_mono (l := l) (rank := rank) (show j + 1 ≤ l.length by omega) c
    unfold segF
    have es : ∀ (A B : List Nat) (v : Nat), (A ++ B).set A.length v = A ++ B.set 0 v := fun A B v => by rw [List.set_append_right _ _ (Nat.le_refl _), Nat.sub_self]
    have es2 := es ((l.take j).filter fun p => rank.getD p 0 = (c : Int)) (List.replicate (cnt l rank l.length c - cnt l rank j c) 0) (l.getD j 0)
    rw [show ((l.take j).filter fun p => decide (rank.getD p 0 = (c : Int))).length = cnt l rank j c from rfl] at es2
    rw [es2, show cnt l rank l.length c - cnt l rank j c = (cnt l rank l.length c - cnt l rank (j + 1) c) + 1 by omega, List.replicate_succ, List.set_cons_zero]
    rw [List.take_succ_eq_append_getElem hj, List.filter_append]
    have e1 : l[j] = l.getD j 0 := by rw [List.getD_eq_getElem?_getD (l := l), List.getElem?_eq_getElem hj]; rfl
    rw [e1]
    simp only [List.filter_cons, hc, decide_true, if_true, List.filter_nil, List.append_assoc, List.cons_append, List.nil_append]
  rw [e, List.flatMap_append, List.flatMap_append, List.flatMap_cons, List.flatMap_cons]
  have hA : (List.range c).flatMap (segF l rank (j + 1)) = (List.range c).flatMap (segF l rank j) := by
    rw [List.flatMap_def, List.flatMap_def, List.map_congr_left (fun d hd => hsame d (by have := List.mem_range.1 hd; omega))]
  have hC : ((List.range (K - c - 1)).map (c + 1 + ·)).flatMap (segF l rank (j + 1)) = ((List.range (K - c - 1)).map (c + 1 + ·)).flatMap (segF l rank j) := by
    rw [List.flatMap_def, List.flatMap_def, List.map_congr_left (fun d hd => by
      obtain ⟨a, _, rfl⟩ := List.mem_map.1 hd
      exact hsame _ (by omega))]
  rw [hA, hC, hme]
  have hl := flat_length (l := l) (rank := rank) (show j ≤ l.length by omega) c
  rw [← hl, set_mid]
  rw [segF_length (by omega)]
  have h1 := cnt_succ (l := l) (rank := rank) hj c
  rw [if_pos hc] at h1
  have h2 := cnt_mono (l := l) (rank := rank) (show j + 1 ≤ l.length by omega) c
  omega
theorem place_lt {K j c : Nat} (hj : j < l.length) (hc : rank.getD (l.getD j 0) 0 = (c : Int)) (hK : c < K) (h : ∀ p ∈ l, 0 ≤ rank.getD p 0 ∧ rank.getD p 0 < K) : ltF l rank c + cnt l rank j c < l.length := by
  have h1 := cnt_succ (l := l) (rank := rank) hj c
  rw [if_pos hc] at h1
  have h2 := cnt_mono (l := l) (rank := rank) (show j + 1 ≤ l.length by omega) c
  have h3 := ltF_mono (l := l) (rank := rank) (show c + 1 ≤ K by omega)
  rw [ltF_all h] at h3
  simp only [ltF] at h3
  omega
theorem bucket_length {K : Nat} (h : ∀ p ∈ l, 0 ≤ rank.getD p 0 ∧ rank.getD p 0 < K) : (bucket l rank K).length = l.length := by
  rw [← outF_done, outF_length (Nat.le_refl _), ltF_all h]
end Go.Proofs.Ytadekjidjhglaaa.Sf
