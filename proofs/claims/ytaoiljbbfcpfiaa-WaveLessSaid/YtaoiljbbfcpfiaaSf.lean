/- Plain: going down all nine levels: ranks, lesser symbols. -/
import Derived.Test.YtaoiljbbfcpfiaaSe
set_option linter.unusedVariables false
set_option linter.unusedSimpArgs false
namespace Go.Proofs.Ytaoiljbbfcpfiaa.Wf
/-- The place at level k, going c's way. -/
def pathF (l : List Int) (c : Int) : Nat → Nat → Nat
  | 0, i => i
  | k + 1, i => downF l k (bitF c k) (pathF l c k i)
def topF (x : Int) (k : Nat) : Int := x / 2 ^ (9 - k)
theorem top_succ (x : Int) {k : Nat} (hk : k < 9) : topF x (k + 1) / 2 = topF x k ∧ bitF x k = decide (topF x (k + 1) % 2 = 1) := by
  unfold topF bitF
  rw [show 9 - (k + 1) = 8 - k by omega, show 9 - k = (8 - k) + 1 by omega, Int.pow_succ]
  refine ⟨?_, rfl⟩
  rw [Int.ediv_ediv_of_nonneg]
  exact Int.pow_nonneg (by decide)
theorem path_mono (l : List Int) (c : Int) (k : Nat) {i j : Nat} (h : i ≤ j) (hj : j ≤ l.length) : pathF l c k i ≤ pathF l c k j ∧ pathF l c k j ≤ l.length := by
  induction k with
  | zero => exact ⟨h, hj⟩
  | succ k ih => exact ⟨down_mono l k _ ih.1 ih.2, down_le l k _ ih.2⟩
theorem path_cut (l : List Int) (c : Int) {k : Nat} (hk : k ≤ 9) {lo hi : Nat} (hh : lo ≤ hi) (hi2 : hi ≤ l.length) (h0 : ∀ x ∈ l, topF x 0 = topF c 0) :
    ((levelF l k).take (pathF l c k hi)).drop (pathF l c k lo) = ((l.take hi).drop lo).filter (fun x => decide (topF x k = topF c k)) := by
  induction k with
  | zero =>
    rw [List.filter_eq_self.2]
    · rfl
    · intro x hx
      exact decide_eq_true (h0 x (List.mem_of_mem_take (List.mem_of_mem_drop hx)))
  | succ k ih =>
    obtain ⟨h1, h2⟩ := path_mono l c k hh hi2
    rw [pathF, pathF, down_cut l k (bitF c k) h1 h2, ih (by omega), List.filter_filter]
    congr 1
    funext x
    obtain ⟨e1, e2⟩ := top_succ x (show k < 9 by omega)
    obtain ⟨f1, f2⟩ := top_succ c (show k < 9 by omega)
    rw [e2, f2, ← e1, ← f1, Bool.eq_iff_iff]
    generalize topF x (k + 1) = a
    generalize topF c (k + 1) = b
    simp only [Bool.and_eq_true, beq_iff_eq, decide_eq_true_eq, decide_eq_decide]
    omega
theorem path_len (l : List Int) (c : Int) {k : Nat} (hk : k ≤ 9) {i : Nat} (hi : i ≤ l.length) (h0 : ∀ x ∈ l, topF x 0 = topF c 0) :
    pathF l c k i - pathF l c k 0 = (l.take i).countP (fun x => decide (topF x k = topF c k)) := by
  have h := congrArg List.length (path_cut l c hk (Nat.zero_le i) hi h0)
  have hm := path_mono l c k (Nat.zero_le i) hi
  rw [List.length_drop, List.length_take, level_length, Nat.min_eq_left hm.2, List.drop_zero, ← List.countP_eq_length_filter] at h
  exact h
theorem top_nine (x : Int) : topF x 9 = x := by simp [topF]
theorem top_zero {x : Int} (h0 : 0 ≤ x) (h1 : x ≤ 256) : topF x 0 = 0 := by unfold topF; omega
/-- **Rank**: how many of the first i symbols are c. -/
theorem rank_law (l : List Int) (c : Int) {i : Nat} (hi : i ≤ l.length) (hl : ∀ x ∈ l, 0 ≤ x ∧ x ≤ 256) (hc : 0 ≤ c ∧ c ≤ 256) : pathF l c 9 i - pathF l c 9 0 = (l.take i).countP (fun x => decide (x = c)) := by
  rw [path_len l c (Nat.le_refl 9) hi (fun x hx => by rw [top_zero (hl x hx).1 (hl x hx).2, top_zero hc.1 hc.2])]
  simp only [top_nine]
/-- Those that go left where c goes right, level by level. -/
def lessF (l : List Int) (c : Int) (i : Nat) : Nat → Nat
  | 0 => 0
  | k + 1 => lessF l c i k + if bitF c k then downF l k false (pathF l c k i) - downF l k false (pathF l c k 0) else 0
theorem countP_add {p q r : Int → Bool} (l : List Int) (h : ∀ x ∈ l, (r x).toNat = (p x).toNat + (q x).toNat) : l.countP r = l.countP p + l.countP q := by
  induction l with
  | nil => rfl
  | cons x l ih =>
    rw [List.countP_cons, List.countP_cons, List.countP_cons, ih (fun y hy => h y (List.mem_cons_of_mem _ hy))]
    have := h x (by simp)
    cases hr : r x <;> cases hp : p x <;> cases hq : q x <;> simp [hr, hp, hq] at this ⊢ <;> omega
theorem less_step (l : List Int) (c : Int) {k : Nat} (hk : k ≤ 9) {i : Nat} (hi : i ≤ l.length) (h0 : ∀ x ∈ l, topF x 0 = topF c 0) :
    lessF l c i k = (l.take i).countP (fun x => decide (topF x k < topF c k)) := by
  induction k with
  | zero =>
    symm
    rw [lessF, List.countP_eq_zero]
    intro x hx
    have := h0 x (List.mem_of_mem_take hx)
    simp
    omega
  | succ k ih =>
    have hm := path_mono l c k (Nat.zero_le i) hi
    have hcut := congrArg List.length (down_cut l k false hm.1 hm.2)
    rw [List.length_drop, List.length_take, level_length, Nat.min_eq_left (down_le l k false hm.2), path_cut l c (by omega) (Nat.zero_le i) hi h0, List.drop_zero, List.filter_filter, ← List.countP_eq_length_filter] at hcut
    rw [lessF, ih (by omega), hcut]
    obtain ⟨f1, f2⟩ := top_succ c (show k < 9 by omega)
    have key : (l.take i).countP (fun x => decide (topF x (k + 1) < topF c (k + 1))) = (l.take i).countP (fun x => decide (topF x k < topF c k)) + (l.take i).countP (fun x => bitF c k && ((bitF x k == false) && decide (topF x k = topF c k))) := by
      apply countP_add
      intro x _
      obtain ⟨e1, e2⟩ := top_succ x (show k < 9 by omega)
      rw [e2, f2, ← e1, ← f1]
      generalize topF x (k + 1) = a
      generalize topF c (k + 1) = b
      by_cases g1 : a < b <;> by_cases g2 : a / 2 < b / 2 <;> by_cases g3 : b % 2 = 1 <;> by_cases g4 : a % 2 = 1 <;> by_cases g5 : a / 2 = b / 2 <;> simp [g1, g2, g3, g4, g5] <;> omega
    rw [key]
    congr 1
    cases hb : bitF c k with
    | true => simp
    | false => simp
/-- **Less**: how many of the first i symbols are below c. -/
theorem less_law (l : List Int) (c : Int) {i : Nat} (hi : i ≤ l.length) (hl : ∀ x ∈ l, 0 ≤ x ∧ x ≤ 256) (hc : 0 ≤ c ∧ c ≤ 256) : lessF l c i 9 = (l.take i).countP (fun x => decide (x < c)) := by
  rw [less_step l c (Nat.le_refl 9) hi (fun x hx => by rw [top_zero (hl x hx).1 (hl x hx).2, top_zero hc.1 hc.2])]
  simp only [top_nine]
end Go.Proofs.Ytaoiljbbfcpfiaa.Wf
