/- Plain: an order is told as right. -/
import Derived.Test.YtadekjidjhglaaaSe
set_option linter.unusedVariables false
set_option linter.unusedSimpArgs false
namespace Go.Proofs.Ytadekjidjhglaaa.Sf
theorem SA_len {r : List Int} {sa : List Nat} (h : SA r sa) : sa.length = r.length := by have := h.1.length_eq; simpa using this
theorem SA_perm {r : List Int} {sa : List Nat} (h : SA r sa) : sa.Perm (List.range sa.length) := by rw [SA_len h]; exact h.1
theorem SA_lt {r : List Int} {sa : List Nat} (h : SA r sa) {i : Nat} (hi : i < r.length) : sa.getD i 0 < r.length := (perm_range_mem h.1).1 (getD_mem (by rw [SA_len h]; exact hi))
theorem SA_at {r : List Int} {sa : List Nat} (h : SA r sa) {x : Nat} (hx : x < r.length) : ∃ i, i < r.length ∧ sa.getD i 0 = x := by
  have := (perm_range_mem h.1).2 hx
  obtain ⟨i, hi, e⟩ := List.getElem_of_mem this
  exact ⟨i, by rw [← SA_len h]; exact hi, by rw [List.getD_eq_getElem?_getD, List.getElem?_eq_getElem hi]; exact e⟩
def invA (sa : List Nat) : List Int := invF sa sa.length
theorem invA_length (sa : List Nat) : (invA sa).length = sa.length := invF_length sa _
theorem invA_at {r : List Int} {sa : List Nat} (h : SA r sa) {i : Nat} (hi : i < r.length) : (invA sa).getD (sa.getD i 0) 0 = (i : Int) := invF_at (SA_perm h) _ (Nat.le_refl _) i (by rw [SA_len h]; exact hi)
theorem SA_ll {r : List Int} {sa : List Nat} (h : SA r sa) {i j : Nat} (hij : i < j) (hj : j < r.length) : ll (r.drop (sa.getD i 0)) (r.drop (sa.getD j 0)) :=
  pairwise_getD (R := fun p q => ll (r.drop p) (r.drop q)) h.2 hij (by rw [SA_len h]; exact hj)
theorem SA_lt_of {r : List Int} {sa : List Nat} (h : SA r sa) {i j : Nat} (hi : i < r.length) (hj : j < r.length) (hl : ll (r.drop (sa.getD i 0)) (r.drop (sa.getD j 0))) : i < j := by
  rcases Nat.lt_trichotomy i j with g | g | g
  · exact g
  · subst g; exact absurd hl (ll_irrefl _)
  · exact absurd hl (ll_asymm (SA_ll h g hi))
theorem sa_inv_lt {r : List Int} {sa : List Nat} (h : SA r sa) {x y : Nat} (hx : x < r.length) (hy : y < r.length) (hl : ll (r.drop x) (r.drop y)) : (invA sa).getD x 0 < (invA sa).getD y 0 := by
  obtain ⟨i, hi, rfl⟩ := SA_at h hx
  obtain ⟨j, hj, rfl⟩ := SA_at h hy
  rw [invA_at h hi, invA_at h hj]
  have := SA_lt_of h hi hj hl
  omega
theorem zcF_mono (row : List Int) {p q : Nat} (h : p ≤ q) (hq : q ≤ row.length) : zcF row p ≤ zcF row q := by
  induction q with
  | zero => have : p = 0 := by omega
            subst this; exact Nat.le_refl _
  | succ q ih =>
    by_cases e : p = q + 1
    · subst e; exact Nat.le_refl _
    · have := ih (by omega) (by omega)
      rw [zcF_succ row (by omega)]
      omega
theorem row_last (ds : List (List Int)) (h : 0 < (rowF ds).length) : (rowF ds).getD ((rowF ds).length - 1) 0 = 0 := by
  have hd : ds ≠ [] := by rintro rfl; simp [rowF] at h
  obtain ⟨l, d, rfl⟩ : ∃ l d, ds = l ++ [d] := ⟨ds.dropLast, ds.getLast hd, (List.dropLast_concat_getLast hd).symm⟩
  rw [rowF_append]
  have e : rowF [d] = d.map (· + 1) ++ [0] := by simp [rowF]
  rw [e, ← List.append_assoc, List.length_append]
  simp [List.getD_eq_getElem?_getD]
theorem r0_len (ds : List (List Int)) : (r0 ds).length = (rowF ds).length := by rw [r0_length, rowF_length]
/-- A separator's rank is its own. -/
theorem r0_same {ds : List (List Int)} (hb : Bytes ds) {p q : Nat} (hp : p < (r0 ds).length) (hq : q < (r0 ds).length) (he : (r0 ds).getD p 0 = (r0 ds).getD q 0) (hne : p ≠ q) : (rowF ds).getD p 0 ≠ 0 ∧ (rowF ds).getD q 0 ≠ 0 := by
  rw [r0_len] at hp hq
  have hz : ∀ x, x < (rowF ds).length → (rowF ds).getD x 0 = 0 → zcF (rowF ds) x < ds.length := by
    intro x hx h0
    have h1 := zcF_succ (rowF ds) hx
    rw [if_pos h0] at h1
    have h2 := zcF_mono (rowF ds) (p := x + 1) (q := (rowF ds).length) (by omega) (Nat.le_refl _)
    have h3 : zcF (rowF ds) (rowF ds).length = ds.length := by
      unfold zcF
      rw [List.take_length]
      clear h1 h2 hx h0 he hne hp hq
      induction ds with
      | nil => rfl
      | cons d ds ih =>
        have := countP_map_succ d (fun c hc => (hb d (List.mem_cons_self ..) c hc).1)
        simp only [rowF, List.countP_append, List.countP_cons, this]
        rw [ih (fun d hd => hb d (List.mem_cons_of_mem _ hd))]
        simp
    omega
  have key : ∀ x y, x < (rowF ds).length → y < (rowF ds).length → (r0 ds).getD x 0 = (r0 ds).getD y 0 → x ≠ y → (rowF ds).getD x 0 ≠ 0 := by
    intro x y hx hy he hne h0
    rw [r0_at0 ds hb hx h0] at he
    have hzx := hz x hx h0
    by_cases hy0 : (rowF ds).getD y 0 = 0
    · rw [r0_at0 ds hb hy hy0] at he
      have hzy := hz y hy hy0
      have h1 := zcF_succ (rowF ds) hx
      have h2 := zcF_succ (rowF ds) hy
      rw [if_pos h0] at h1
      rw [if_pos hy0] at h2
      rcases Nat.lt_or_gt_of_ne hne with g | g
      · have := zcF_mono (rowF ds) (p := x + 1) (q := y) (by omega) (by omega)
        omega
      · have := zcF_mono (rowF ds) (p := y + 1) (q := x) (by omega) (by omega)
        omega
    · rw [r0_at1 ds hb hy hy0] at he
      have := (row_bounds ds hb y).1
      omega
  exact ⟨key p q hp hq he hne, key q p hq hp he.symm (Ne.symm hne)⟩
theorem row_pos {ds : List (List Int)} {p : Nat} (hp : p < (rowF ds).length) (h : (rowF ds).getD p 0 ≠ 0) : p + 1 < (rowF ds).length := by
  by_cases e : p + 1 = (rowF ds).length
  · exact absurd (by rw [show p = (rowF ds).length - 1 by omega]; exact row_last ds (by omega)) h
  · omega
theorem ok_step {ds : List (List Int)} (hb : Bytes ds) {sa : List Nat} (hs : SA (r0 ds) sa) {i : Nat} (h0 : 0 < i) (h1 : i < (r0 ds).length) :
    (r0 ds).getD (sa.getD (i - 1) 0) 0 < (r0 ds).getD (sa.getD i 0) 0 ∨ ((r0 ds).getD (sa.getD (i - 1) 0) 0 = (r0 ds).getD (sa.getD i 0) 0 ∧ sa.getD (i - 1) 0 + 1 < (r0 ds).length ∧ sa.getD i 0 + 1 < (r0 ds).length ∧
      (invA sa).getD (sa.getD (i - 1) 0 + 1) 0 < (invA sa).getD (sa.getD i 0 + 1) 0) := by
  have hll := SA_ll hs (show i - 1 < i by omega) h1
  have hp := SA_lt hs (show i - 1 < (r0 ds).length by omega)
  have hq := SA_lt hs h1
  have hne : sa.getD (i - 1) 0 ≠ sa.getD i 0 := by
    intro e
    rw [e] at hll
    exact ll_irrefl _ hll
  generalize sa.getD (i - 1) 0 = p at *
  generalize sa.getD i 0 = q at *
  rw [List.drop_eq_getElem_cons hp, List.drop_eq_getElem_cons hq, ll_cons] at hll
  have e1 : (r0 ds).getD p 0 = (r0 ds)[p] := by rw [List.getD_eq_getElem?_getD, List.getElem?_eq_getElem hp]; rfl
  have e2 : (r0 ds).getD q 0 = (r0 ds)[q] := by rw [List.getD_eq_getElem?_getD, List.getElem?_eq_getElem hq]; rfl
  rw [← e1, ← e2] at hll
  rcases hll with g | ⟨g, g2⟩
  · exact .inl g
  · obtain ⟨n1, n2⟩ := r0_same hb hp hq g hne
    have a1 := row_pos (by rw [← r0_len]; exact hp) n1
    have a2 := row_pos (by rw [← r0_len]; exact hq) n2
    rw [← r0_len] at a1 a2
    exact .inr ⟨g, a1, a2, sa_inv_lt hs a1 a2 g2⟩
end Go.Proofs.Ytadekjidjhglaaa.Sf
