/- Plain: how much neighbours share. -/
import Derived.Test.YtadekjidjhglaaaSg
set_option linter.unusedVariables false
set_option linter.unusedSimpArgs false
namespace Go.Proofs.Ytadekjidjhglaaa.Sf

def lcp : List Int → List Int → Nat
  | a :: x, b :: y => if a = b then lcp x y + 1 else 0
  | _, _ => 0
@[simp] theorem lcp_nil_left (y : List Int) : lcp [] y = 0 := by simp [lcp]
@[simp] theorem lcp_nil_right (x : List Int) : lcp x [] = 0 := by cases x <;> simp [lcp]
theorem lcp_cons (a b : Int) (x y : List Int) : lcp (a :: x) (b :: y) = if a = b then lcp x y + 1 else 0 := by simp [lcp]
theorem lcp_same (a : Int) (x y : List Int) : lcp (a :: x) (a :: y) = lcp x y + 1 := by simp [lcp]
theorem lcp_le : ∀ (x y : List Int), lcp x y ≤ x.length ∧ lcp x y ≤ y.length
  | [], y => by simp
  | a :: x, [] => by simp
  | a :: x, b :: y => by
    rw [lcp_cons]
    have := lcp_le x y
    split
    · simp; omega
    · simp
theorem lcp_in : ∀ (x y : List Int) (n : Nat), n < lcp x y → x.getD n 0 = y.getD n 0
  | [], y, n, h => by simp at h
  | a :: x, [], n, h => by simp at h
  | a :: x, b :: y, n, h => by
    rw [lcp_cons] at h
    split at h
    · rename_i e
      cases n with
      | zero => exact e
      | succ n => exact lcp_in x y n (by omega)
    · omega
theorem lcp_at : ∀ (x y : List Int), lcp x y < x.length → lcp x y < y.length → x.getD (lcp x y) 0 ≠ y.getD (lcp x y) 0
  | [], y, h, _ => by simp at h
  | a :: x, [], _, h => by simp at h
  | a :: x, b :: y, h1, h2 => by
    rw [lcp_cons] at h1 h2 ⊢
    split
    · rename_i e
      rw [if_pos e] at h1 h2
      exact lcp_at x y (by simp at h1; omega) (by simp at h2; omega)
    · rename_i e
      exact e
theorem lcp_comm : ∀ (x y : List Int), lcp x y = lcp y x
  | [], y => by simp
  | a :: x, [] => by simp
  | a :: x, b :: y => by
    rw [lcp_cons, lcp_cons, lcp_comm x y]
    by_cases h : a = b
    · rw [if_pos h, if_pos h.symm]
    · rw [if_neg h, if_neg (fun e => h e.symm)]
/-- What lies between shares no less. -/
theorem lcp_between : ∀ {x y z : List Int}, ll x y → ll y z → lcp x z ≤ lcp y z
  | [], y, z, _, _ => by simp
  | a :: x, [], z, h, _ => absurd h (by simp)
  | a :: x, b :: y, [], _, h => absurd h (by simp)
  | a :: x, b :: y, c :: z, h1, h2 => by
    rw [ll_cons] at h1 h2
    rw [lcp_cons, lcp_cons]
    by_cases hac : a = c
    · rw [if_pos hac]
      rcases h1 with h1 | ⟨h1, h1'⟩
      · rcases h2 with h2 | ⟨h2, _⟩ <;> omega
      · rcases h2 with h2 | ⟨h2, h2'⟩
        · omega
        · rw [if_pos h2]
          have := lcp_between h1' h2'
          omega
    · rw [if_neg hac]
      exact Nat.zero_le _
theorem getD_drop (r : List Int) (p n : Nat) : (r.drop p).getD n 0 = r.getD (p + n) 0 := by
  rw [List.getD_eq_getElem?_getD, List.getElem?_drop, List.getD_eq_getElem?_getD]

/-- How much a place's row shares with the one ahead. -/
def CN (r : List Int) (sa : List Nat) (j : Nat) : Nat := lcp (r.drop (sa.getD j 0)) (r.drop (sa.getD (j - 1) 0))
def comF (r : List Int) (sa : List Nat) : List Int := (List.range r.length).map fun j => if j = 0 then 0 else (CN r sa j : Int)

/-- Places that differ: their rows differ ahead of their ends. -/
theorem lcp_lt {ds : List (List Int)} (hb : Bytes ds) {p q : Nat} (hp : p < (r0 ds).length) (hq : q < (r0 ds).length) (hne : p ≠ q) : p + lcp ((r0 ds).drop p) ((r0 ds).drop q) < (r0 ds).length := by
  have hle := lcp_le ((r0 ds).drop p) ((r0 ds).drop q)
  rw [List.length_drop, List.length_drop] at hle
  by_cases h : p + lcp ((r0 ds).drop p) ((r0 ds).drop q) < (r0 ds).length
  · exact h
  · exfalso
    have hl := lcp_in ((r0 ds).drop p) ((r0 ds).drop q) ((r0 ds).length - 1 - p) (by omega)
    rw [getD_drop, getD_drop] at hl
    have e : p + ((r0 ds).length - 1 - p) = (rowF ds).length - 1 := by rw [r0_len] at *; omega
    rw [e] at hl
    have hrl := r0_len ds
    have := (r0_same hb (p := (rowF ds).length - 1) (q := q + ((r0 ds).length - 1 - p)) (by omega) (by omega) hl (by omega)).1
    exact this (row_last ds (by omega))
theorem cond_iff {ds : List (List Int)} (hb : Bytes ds) {p q : Nat} (hp : p < (r0 ds).length) (hq : q < (r0 ds).length) (hne : p ≠ q) :
    ((rowF ds).getD p 0 ≠ 0 ∧ (rowF ds).getD p 0 = (rowF ds).getD q 0) ↔ (r0 ds).getD p 0 = (r0 ds).getD q 0 := by
  have hrl := r0_len ds
  constructor
  · rintro ⟨h1, h2⟩
    rw [r0_at1 ds hb (by omega) h1, r0_at1 ds hb (by omega) (by rw [← h2]; exact h1), h2]
  · intro h
    obtain ⟨h1, h2⟩ := r0_same hb hp hq h hne
    rw [r0_at1 ds hb (by omega) h1, r0_at1 ds hb (by omega) h2] at h
    exact ⟨h1, by omega⟩
/-- The inner loop's step: at n of what is shared, one goes on or ends. -/
theorem com_step {ds : List (List Int)} (hb : Bytes ds) {p q n : Nat} (hp : p < (r0 ds).length) (hq : q < (r0 ds).length) (hne : p ≠ q) (hn : n ≤ lcp ((r0 ds).drop p) ((r0 ds).drop q)) :
    p + n < (r0 ds).length ∧ q + n < (r0 ds).length ∧ (((rowF ds).getD (p + n) 0 ≠ 0 ∧ (rowF ds).getD (p + n) 0 = (rowF ds).getD (q + n) 0) ↔ n < lcp ((r0 ds).drop p) ((r0 ds).drop q)) := by
  have h1 := lcp_lt hb hp hq hne
  have h2 := lcp_lt hb hq hp (Ne.symm hne)
  rw [lcp_comm] at h2
  refine ⟨by omega, by omega, ?_⟩
  rw [cond_iff hb (by omega) (by omega) (by omega)]
  constructor
  · intro h
    by_cases e : n < lcp ((r0 ds).drop p) ((r0 ds).drop q)
    · exact e
    · exfalso
      have e2 : n = lcp ((r0 ds).drop p) ((r0 ds).drop q) := by omega
      have := lcp_at ((r0 ds).drop p) ((r0 ds).drop q) (by rw [List.length_drop]; omega) (by rw [List.length_drop]; omega)
      rw [getD_drop, getD_drop, ← e2] at this
      exact this h
  · intro h
    have := lcp_in _ _ _ h
    rwa [getD_drop, getD_drop] at this
theorem SA_ne {r : List Int} {sa : List Nat} (h : SA r sa) {i j : Nat} (hij : i < j) (hj : j < r.length) : sa.getD i 0 ≠ sa.getD j 0 := by
  intro e
  have := SA_ll h hij hj
  rw [e] at this
  exact ll_irrefl _ this
/-- The place behind shares at most one less. -/
theorem kasai {ds : List (List Int)} (hb : Bytes ds) {sa : List Nat} (hs : SA (r0 ds) sa) {i i' p : Nat} (hi : i < (r0 ds).length) (hi' : i' < (r0 ds).length) (e : sa.getD i 0 = p) (e' : sa.getD i' 0 = p + 1) (h0 : i ≠ 0) (h0' : i' ≠ 0) :
    CN (r0 ds) sa i - 1 ≤ CN (r0 ds) sa i' := by
  by_cases h1 : CN (r0 ds) sa i ≤ 1
  · omega
  · have hll := SA_ll hs (show i - 1 < i by omega) hi
    have hql := SA_lt hs (show i - 1 < (r0 ds).length by omega)
    have hpl := SA_lt hs hi
    have hne := SA_ne hs (show i - 1 < i by omega) hi
    unfold CN at h1 ⊢
    rw [e] at h1 hll hpl hne ⊢
    generalize sa.getD (i - 1) 0 = q at *
    have hlt := lcp_lt hb hql hpl hne
    rw [lcp_comm] at hlt
    rw [List.drop_eq_getElem_cons hpl, List.drop_eq_getElem_cons hql] at h1 hll ⊢
    rw [lcp_cons] at h1 ⊢
    by_cases hab : (r0 ds)[p] = (r0 ds)[q]
    · rw [if_pos hab] at h1 ⊢
      rw [hab, ll_cons] at hll
      have hll2 : ll ((r0 ds).drop (q + 1)) ((r0 ds).drop (p + 1)) := by
        rcases hll with h | ⟨_, h⟩
        · exact absurd h (Int.lt_irrefl _)
        · exact h
      have hq1 : q + 1 < (r0 ds).length := by
        have := lcp_le ((r0 ds).drop (p + 1)) ((r0 ds).drop (q + 1))
        rw [List.length_drop, List.length_drop] at this
        omega
      have hp1 : p + 1 < (r0 ds).length := by rw [← e']; exact SA_lt hs hi'
      obtain ⟨k, hk, ek⟩ := SA_at hs hq1
      have hki : k < i' := SA_lt_of hs hk hi' (by rw [ek, e']; exact hll2)
      rw [e']
      by_cases hk2 : k = i' - 1
      · rw [← hk2, ek]
        omega
      · have hb1 := SA_ll hs (show k < i' - 1 by omega) (show i' - 1 < (r0 ds).length by omega)
        have hb2 := SA_ll hs (show i' - 1 < i' by omega) hi'
        rw [ek] at hb1
        rw [e'] at hb2
        have := lcp_between hb1 hb2
        rw [lcp_comm ((r0 ds).drop (p + 1)) ((r0 ds).drop (q + 1)), lcp_comm ((r0 ds).drop (p + 1)) ((r0 ds).drop (sa.getD (i' - 1) 0))]
        omega
    · rw [if_neg hab]
      omega
/-- What is shared, told by documents. -/
theorem lcp_seps {m : Nat} {i j : Nat} (hi : i < m) (hj : j < m) : ∀ (x y u v : List Int), (∀ c ∈ x, 0 ≤ c) → (∀ c ∈ y, 0 ≤ c) → (i ≠ j ∨ x.length ≠ y.length) →
    lcp (x.map (fun c => (m : Int) + (c + 1)) ++ (i : Int) :: u) (y.map (fun c => (m : Int) + (c + 1)) ++ (j : Int) :: v) = lcp x y
  | [], [], u, v, _, _, h => by
    have : (i : Int) ≠ j := by simp at h; omega
    simp [lcp, this]
  | [], b :: y, u, v, _, hy, _ => by
    have := hy b (List.mem_cons_self ..)
    have : (i : Int) ≠ (m : Int) + (b + 1) := by omega
    simp [lcp, this]
  | a :: x, [], u, v, hx, _, _ => by
    have := hx a (List.mem_cons_self ..)
    have : ¬ ((m : Int) + (a + 1)) = j := by omega
    simp [lcp, this]
  | a :: x, b :: y, u, v, hx, hy, h => by
    have ih := lcp_seps hi hj x y u v (fun c hc => hx c (List.mem_cons_of_mem _ hc)) (fun c hc => hy c (List.mem_cons_of_mem _ hc)) (by simpa using h)
    rw [List.map_cons, List.map_cons, List.cons_append, List.cons_append, lcp_cons, lcp_cons, ih]
    by_cases e : a = b
    · rw [if_pos e, if_pos (by rw [e])]
    · rw [if_neg e, if_neg (by omega)]
theorem lcp_hits {ds : List (List Int)} (hb : Bytes ds) {a b : Nat × Nat} (ha : a ∈ hitsF 0 ds) (hb' : b ∈ hitsF 0 ds) (hne : a ≠ b) :
    lcp ((r0 ds).drop (placeF ds a)) ((r0 ds).drop (placeF ds b)) = lcp ((docF ds a.1).drop a.2) ((docF ds b.1).drop b.2) := by
  have h1 := hit_bounds ha
  have h2 := hit_bounds hb'
  obtain ⟨u, hu⟩ := rk_drop ds.length 0 ds a.1 a.2 h1.1 h1.2
  obtain ⟨v, hv⟩ := rk_drop ds.length 0 ds b.1 b.2 h2.1 h2.2
  unfold r0 placeF
  rw [hu, hv, Nat.zero_add, Nat.zero_add]
  refine lcp_seps h1.1 h2.1 _ _ _ _ (fun c hc => (byte1_drop (byte1_doc hb a.1) a.2 c hc).1) (fun c hc => (byte1_drop (byte1_doc hb b.1) b.2 c hc).1) ?_
  rw [List.length_drop, List.length_drop]
  by_cases e : a.1 = b.1
  · right
    rw [e] at h1 ⊢
    intro h
    apply hne
    ext1
    · exact e
    · omega
  · exact .inl e
end Go.Proofs.Ytadekjidjhglaaa.Sf
