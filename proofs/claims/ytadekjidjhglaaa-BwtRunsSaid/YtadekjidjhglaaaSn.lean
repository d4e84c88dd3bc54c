/- Plain: what the printed functions of rows answer. Plain: what the reference's printed functions answer. -/
import Derived.Test.YtadekjidjhglaaaSl
import Derived.Test.YtadekjidjhglaaaPd
set_option linter.unusedVariables false
set_option linter.unusedSimpArgs false
namespace Go.Proofs.Ytadekjidjhglaaa.Sf
open Go.Proofs.YtadekjidjhglaaaW.PrintWords

theorem rd_nat (xs : List Int) (i : Nat) : rd xs (i : Int) = xs.getD i 0 := by simp [rd]
/-- Two ends exchanged, from outside to inside. -/
def revAt (l : List Int) (i : Nat) : List Int := (List.range l.length).map fun t => if t < i ∨ l.length ≤ t + i then l.getD (l.length - 1 - t) 0 else l.getD t 0
theorem revAt_length (l : List Int) (i : Nat) : (revAt l i).length = l.length := by simp [revAt]
theorem revAt_at (l : List Int) (i : Nat) {t : Nat} (h : t < l.length) : (revAt l i).getD t 0 = if t < i ∨ l.length ≤ t + i then l.getD (l.length - 1 - t) 0 else l.getD t 0 := by
  unfold revAt
  rw [List.getD_eq_getElem?_getD, List.getElem?_map, List.getElem?_range h]
  rfl
theorem list_ext_getD {xs ys : List Int} (hl : xs.length = ys.length) (h : ∀ t, t < xs.length → xs.getD t 0 = ys.getD t 0) : xs = ys := by
  apply List.ext_getElem hl
  intro i h1 h2
  have := h i h1
  rw [List.getD_eq_getElem?_getD, List.getD_eq_getElem?_getD, List.getElem?_eq_getElem h1, List.getElem?_eq_getElem h2] at this
  exact this
theorem getD_set (xs : List Int) (i t : Nat) (v : Int) (hi : i < xs.length) : (xs.set i v).getD t 0 = if t = i then v else xs.getD t 0 := by
  rw [List.getD_eq_getElem?_getD, List.getElem?_set]
  by_cases e : i = t
  · subst e; rw [if_pos rfl, if_pos hi, if_pos rfl]; rfl
  · rw [if_neg e, if_neg (fun h => e h.symm), List.getD_eq_getElem?_getD]
theorem getD_reverse (l : List Int) {t : Nat} (h : t < l.length) : l.reverse.getD t 0 = l.getD (l.length - 1 - t) 0 := by
  rw [List.getD_eq_getElem?_getD, List.getElem?_reverse h, ← List.getD_eq_getElem?_getD]
theorem rev_l (l : List Int) (hm : l.length ≤ 1000000) : ∀ (k i : Nat), l.length - i < k → 2 * i ≤ l.length + 1 → slices_Reverse_byte_byte.l0 k (revAt l i) (i : Int) ((l.length : Int) - 1 - i) = some l.reverse
  | 0, _, h, _ => absurd h (by omega)
  | k + 1, i, hk, h2 => by
    unfold slices_Reverse_byte_byte.l0
    have hlen := revAt_length l i
    by_cases hlt : (i : Int) < (l.length : Int) - 1 - i
    · obtain ⟨j, hj⟩ : ∃ j : Nat, j = l.length - 1 - i := ⟨_, rfl⟩
      have hjj : (l.length : Int) - 1 - i = (j : Int) := by omega
      rw [hjj] at hlt ⊢
      rw [if_pos hlt, if_pos (by omega), if_pos (by omega), if_pos (by omega), if_pos (by omega), wrap64_in' _ (by omega), wrap64_in' _ (by omega), rd_nat, rd_nat, Int.toNat_natCast, Int.toNat_natCast]
      have e : ((revAt l i).set i ((revAt l i).getD j 0)).set j ((revAt l i).getD i 0) = revAt l (i + 1) := by
        apply list_ext_getD
        · rw [List.length_set, List.length_set, revAt_length, revAt_length]
        · intro t ht
          rw [List.length_set, List.length_set, revAt_length] at ht
          rw [getD_set _ _ _ _ (by rw [List.length_set, revAt_length]; omega), getD_set _ _ _ _ (by rw [revAt_length]; omega), revAt_at l (i + 1) ht, revAt_at l i ht, revAt_at l i (t := i) (by omega), revAt_at l i (t := j) (by omega)]
          by_cases e1 : t = j
          · subst e1
            rw [if_pos rfl, if_neg (by omega), if_pos (by omega)]
            congr 1
            omega
          · rw [if_neg e1]
            by_cases e2 : t = i
            · subst e2
              rw [if_pos rfl, if_neg (by omega), if_pos (by omega), hj]
            · rw [if_neg e2]
              by_cases e3 : t < i ∨ l.length ≤ t + i
              · rw [if_pos e3, if_pos (by omega)]
              · rw [if_neg e3, if_neg (by omega)]
      rw [e, show (i : Int) + 1 = ((i + 1 : Nat) : Int) by omega, show (j : Int) - 1 = (l.length : Int) - 1 - ((i + 1 : Nat) : Int) by omega]
      exact rev_l l hm k (i + 1) (by omega) (by omega)
    · rw [if_neg hlt]
      congr 1
      apply list_ext_getD
      · rw [revAt_length, List.length_reverse]
      · intro t ht
        rw [revAt_length] at ht
        rw [revAt_at l i ht, getD_reverse l ht]
        by_cases e3 : t < i ∨ l.length ≤ t + i
        · rw [if_pos e3]
        · rw [if_neg e3]
          congr 1
          omega
theorem rev_f (l : List Int) (hm : l.length ≤ 1000000) : slices_Reverse_byte_byte.f (l.length + 1) l = some l.reverse := by
  unfold slices_Reverse_byte_byte.f
  have e : revAt l 0 = l := by
    apply list_ext_getD (revAt_length l 0)
    intro t ht
    rw [revAt_length] at ht
    rw [revAt_at l 0 ht, if_neg (by omega)]
  have := rev_l l hm (l.length + 1) 0 (by omega) (by omega)
  rw [e] at this
  rw [wrap64_in' _ (by omega)]
  simpa using this
theorem equal_l (x y : List Int) (hl : x.length = y.length) (hm : x.length ≤ 1000000) : ∀ (k i : Nat), x.length - i < k → i ≤ x.length → (∀ t, t < i → x.getD t 0 = y.getD t 0) → slices_Equal_uint16_uint16.l0 k x y (x.length : Int) (i : Int) = some (decide (x = y))
  | 0, _, h, _, _ => absurd h (by omega)
  | k + 1, i, hk, hi, hp => by
    unfold slices_Equal_uint16_uint16.l0
    by_cases hlt : i < x.length
    · rw [if_pos (by omega), if_pos (by omega), if_pos (by omega), if_pos (by omega), rd_nat, rd_nat]
      by_cases e : x.getD i 0 = y.getD i 0
      · rw [if_pos e, wrap64_in' _ (by omega), show (i : Int) + 1 = ((i + 1 : Nat) : Int) by omega]
        refine equal_l x y hl hm k (i + 1) (by omega) (by omega) (fun t ht => ?_)
        by_cases e2 : t = i
        · subst e2; exact e
        · exact hp t (by omega)
      · rw [if_neg e, decide_eq_false (fun h => e (by rw [h]))]
    · rw [if_neg (by omega), decide_eq_true (list_ext_getD hl (fun t ht => hp t (by omega)))]
theorem equal_f (x y : List Int) (hm : x.length ≤ 1000000) : slices_Equal_uint16_uint16.f (x.length + 1) x y = some (decide (x = y)) := by
  unfold slices_Equal_uint16_uint16.f
  by_cases hl : x.length = y.length
  · rw [if_pos (by omega)]
    exact equal_l x y hl hm _ 0 (by omega) (by omega) (fun t ht => by omega)
  · rw [if_neg (by omega), decide_eq_false (fun h => hl (by rw [h]))]
end Go.Proofs.Ytadekjidjhglaaa.Sf
set_option linter.unusedVariables false
set_option linter.unusedSimpArgs false
namespace Go.Proofs.Ytadekjidjhglaaa.Sf
open Go.RowKit Go.Proofs.YtadekjidjhglaaaW.PrintWords

theorem syms_l (x y : List Int) (hl : x.length = y.length) (hm : x.length ≤ 1000000) : ∀ (k i : Nat), x.length - i < k → i ≤ x.length → (∀ t, t < i → x.getD t 0 = y.getD t 0) → concordanceref9_SameSyms.l0 k x y (i : Int) = some (decide (x = y))
  | 0, _, h, _, _ => absurd h (by omega)
  | k + 1, i, hk, hi, hp => by
    unfold concordanceref9_SameSyms.l0
    by_cases hlt : i < x.length
    · rw [if_pos (by omega), if_pos (by omega), if_pos (by omega), rd_nat, rd_nat]
      by_cases e : x.getD i 0 = y.getD i 0
      · rw [if_pos e, wrap64_in' _ (by omega), show (i : Int) + 1 = ((i + 1 : Nat) : Int) by omega]
        refine syms_l x y hl hm k (i + 1) (by omega) (by omega) (fun t ht => ?_)
        by_cases e2 : t = i
        · subst e2; exact e
        · exact hp t (by omega)
      · rw [if_neg e, decide_eq_false (fun h => e (by rw [h]))]
    · rw [if_neg (by omega), decide_eq_true (list_ext_getD hl (fun t ht => hp t (by omega)))]
theorem syms_f (x y : List Int) (hm : x.length ≤ 1000000) : concordanceref9_SameSyms.f (x.length + 1) x y = some (decide (x = y)) := by
  unfold concordanceref9_SameSyms.f
  by_cases hl : x.length = y.length
  · rw [if_pos (by omega)]
    exact syms_l x y hl hm _ 0 (by omega) (by omega) (fun t ht => by omega)
  · rw [if_neg (by omega), decide_eq_false (fun h => hl (by rw [h]))]
theorem docs_ext {ds ds' : List (List Int)} (hl : ds.length = ds'.length) (h : ∀ t, t < ds.length → docF ds t = docF ds' t) : ds = ds' := by
  apply List.ext_getElem hl
  intro i h1 h2
  have := h i h1
  unfold docF at this
  rw [List.getD_eq_getElem?_getD, List.getD_eq_getElem?_getD, List.getElem?_eq_getElem h1, List.getElem?_eq_getElem h2] at this
  exact this
theorem texts_l {x y : List (List Int)} (hx : Bytes x) (hy : Bytes y) (hl : x.length = y.length) (hm : x.length ≤ 1000000) : ∀ (k i : Nat), x.length - i < k → i ≤ x.length → (∀ t, t < i → docF x t = docF y t) → concordanceref9_SameTexts.l0 k (strsF x) (strsF y) (i : Int) = some (decide (x = y))
  | 0, _, h, _, _ => absurd h (by omega)
  | k + 1, i, hk, hi, hp => by
    unfold concordanceref9_SameTexts.l0
    rw [strsF_length, strsF_length]
    by_cases hlt : i < x.length
    · rw [if_pos (by omega), if_pos (by omega), if_pos (by omega), strsF_at x hlt, strsF_at y (by omega), str_toList, str_toList]
      by_cases e : docF x i = docF y i
      · rw [if_pos (by rw [e]), wrap64_in' _ (by omega), show (i : Int) + 1 = ((i + 1 : Nat) : Int) by omega]
        refine texts_l hx hy hl hm k (i + 1) (by omega) (by omega) (fun t ht => ?_)
        by_cases e2 : t = i
        · subst e2; exact e
        · exact hp t (by omega)
      · rw [if_neg (fun h => e ((u8L_inj (byte1_doc hx i) (byte1_doc hy i)).1 h)), decide_eq_false (fun h => e (by rw [h]))]
    · rw [if_neg (by omega), decide_eq_true (docs_ext hl (fun t ht => hp t (by omega)))]
theorem texts_f {x y : List (List Int)} (hx : Bytes x) (hy : Bytes y) (hm : x.length ≤ 1000000) : concordanceref9_SameTexts.f (x.length + 1) (strsF x) (strsF y) = some (decide (x = y)) := by
  unfold concordanceref9_SameTexts.f
  rw [strsF_length, strsF_length]
  by_cases hl : x.length = y.length
  · rw [if_pos (by omega)]
    exact texts_l hx hy hl hm _ 0 (by omega) (by omega) (fun t ht => by omega)
  · rw [if_neg (by omega), decide_eq_false (fun h => hl (by rw [h]))]
theorem sameC_succ (l : List Int) (c : Int) {t : Nat} (h : t < l.length) : sameC l c (t + 1) = sameC l c t + if l.getD t 0 = c then 1 else 0 := by
  unfold sameC
  rw [take_snoc l h, List.countP_append]
  congr 1
  by_cases e : l.getD t 0 = c
  · rw [if_pos e]
    rw [List.countP_cons, List.countP_nil, decide_eq_true e]; rfl
  · rw [if_neg e]
    rw [List.countP_cons, List.countP_nil, decide_eq_false e]; rfl
theorem sameC_le (l : List Int) (c : Int) (t : Nat) : sameC l c t ≤ t := by
  unfold sameC
  have := List.countP_le_length (p := fun x => decide (x = c)) (l := l.take t)
  rw [List.length_take] at this
  omega
theorem sameC_ge (l : List Int) (c : Int) {t : Nat} (h : l.length ≤ t) : sameC l c t = sameC l c l.length := by
  unfold sameC
  rw [List.take_of_length_le h, List.take_length]
theorem rank_l (l : List Int) (hl : ∀ x ∈ l, 0 ≤ x ∧ x ≤ 65535) (hm : l.length ≤ 1000000) (c i : Int) : ∀ (k t : Nat), 2 * (l.length - t) + 1 < k → t ≤ l.length → t ≤ i.toNat → concordanceref9_Rank.l0 k l c i (sameC l c t : Int) (t : Int) = some (sameC l c i.toNat : Int)
  | 0, _, h, _, _ => absurd h (by omega)
  | 1, _, h, _, _ => absurd h (by omega)
  | k + 2, t, hk, ht, hi => by
    rw [concordanceref9_Rank.l0]
    have hb := sameC_le l c t
    by_cases hlt : t < l.length
    · rw [if_pos (by omega), concordanceref9_Rank.j1]
      by_cases h2 : (t : Int) < i
      · rw [decide_eq_true h2, if_pos rfl, if_pos (by omega), if_pos (by omega), rd_nat]
        have hx := hl _ (mem_of_getD hlt)
        rw [wrap64_in' (l.getD t 0) (by omega), wrap64_in' ((t : Int) + 1) (by omega)]
        have hs := sameC_succ l c hlt
        by_cases e : l.getD t 0 = c
        · rw [if_pos e] at hs
          rw [if_pos e, wrap64_in' _ (by omega), show (sameC l c t : Int) + 1 = (sameC l c (t + 1) : Int) by omega, show (t : Int) + 1 = ((t + 1 : Nat) : Int) by omega]
          exact rank_l l hl hm c i k (t + 1) (by omega) (by omega) (by omega)
        · rw [if_neg e] at hs
          rw [if_neg e, show (sameC l c t : Int) = (sameC l c (t + 1) : Int) by omega, show (t : Int) + 1 = ((t + 1 : Nat) : Int) by omega]
          exact rank_l l hl hm c i k (t + 1) (by omega) (by omega) (by omega)
      · rw [decide_eq_false h2, if_neg (by simp)]
        rw [show i.toNat = t by omega]
    · rw [if_neg (by omega), concordanceref9_Rank.j1, if_neg (by simp), sameC_ge l c (t := i.toNat) (by omega), sameC_ge l c (t := t) (by omega)]
theorem rank_f (l : List Int) (hl : ∀ x ∈ l, 0 ≤ x ∧ x ≤ 65535) (hm : l.length ≤ 1000000) (c i : Int) : concordanceref9_Rank.f (2 * l.length + 2) l c i = some (sameC l c i.toNat : Int) := by
  unfold concordanceref9_Rank.f
  have := rank_l l hl hm c i (2 * l.length + 2) 0 (by omega) (by omega) (by omega)
  simpa [sameC] using this
/-- The reference's Starts on its way. -/
def rsAt (l : List Int) (t j : Nat) (y : Int) : List Int := (List.range 257).map fun c : Nat => (belowC (l.take t) (c : Int) : Int) + if y < (c : Int) ∧ c < j then 1 else 0
theorem rsAt_length (l : List Int) (t j : Nat) (y : Int) : (rsAt l t j y).length = 257 := by simp [rsAt]
theorem rsAt_at (l : List Int) (t j : Nat) (y : Int) {c : Nat} (h : c < 257) : (rsAt l t j y).getD c 0 = (belowC (l.take t) (c : Int) : Int) + if y < (c : Int) ∧ c < j then 1 else 0 := by
  unfold rsAt
  rw [List.getD_eq_getElem?_getD, List.getElem?_map, List.getElem?_range h]
  rfl
theorem rsAt_zero (l : List Int) (t j : Nat) (y : Int) (h : (j : Int) ≤ y + 1) : rsAt l t j y = (List.range 257).map fun c : Nat => (belowC (l.take t) (c : Int) : Int) := by
  unfold rsAt
  apply List.map_congr_left
  intro c hc
  rw [if_neg (by omega), Int.add_zero]
theorem belowC_take_succ (l : List Int) (c : Int) {t : Nat} (h : t < l.length) : belowC (l.take (t + 1)) c = belowC (l.take t) c + if l.getD t 0 < c then 1 else 0 := by
  unfold belowC
  rw [take_snoc l h, List.countP_append]
  congr 1
  by_cases e : l.getD t 0 < c
  · rw [if_pos e, List.countP_cons, List.countP_nil, decide_eq_true e]; rfl
  · rw [if_neg e, List.countP_cons, List.countP_nil, decide_eq_false e]; rfl
theorem rsAt_all (l : List Int) {t j : Nat} (ht : t < l.length) (hj : 257 ≤ j) : rsAt l t j (l.getD t 0) = (List.range 257).map fun c : Nat => (belowC (l.take (t + 1)) (c : Int) : Int) := by
  unfold rsAt
  apply List.map_congr_left
  intro c hc
  have := List.mem_range.1 hc
  rw [belowC_take_succ l _ ht]
  by_cases e : l.getD t 0 < (c : Int)
  · rw [if_pos ⟨e, by omega⟩, if_pos e]; omega
  · rw [if_neg (fun h => e h.1), if_neg e]; omega
theorem rsAt_set (l : List Int) (t j : Nat) (y : Int) (hj : j < 257) (hy : y < (j : Int)) : (rsAt l t j y).set j ((belowC (l.take t) (j : Int) : Int) + 1) = rsAt l t (j + 1) y := by
  apply list_ext_getD
  · rw [List.length_set, rsAt_length, rsAt_length]
  · intro c hc
    rw [List.length_set, rsAt_length] at hc
    rw [getD_set _ _ _ _ (by rw [rsAt_length]; exact hj), rsAt_at _ _ _ _ hc, rsAt_at _ _ _ _ hc]
    by_cases e : c = j
    · subst e
      rw [if_pos rfl, if_pos ⟨hy, by omega⟩]
    · rw [if_neg e]
      by_cases e2 : y < (c : Int) ∧ c < j
      · rw [if_pos e2, if_pos ⟨e2.1, by omega⟩]
      · rw [if_neg e2, if_neg (by omega)]
theorem rs_fuel {L t k j : Nat} (h : t < L) (hk : (L - t) * 300 + (257 - j) + 1 < k + 1) : (L - (t + 1)) * 300 + 300 < k := by
  have h2 : (L - (t + 1)) + 1 = L - t := by omega
  have h3 : (L - (t + 1)) * 300 + 1 * 300 = (L - t) * 300 := by rw [← Nat.add_mul, h2]
  have h4 : (L - t) * 300 < k := Nat.lt_of_le_of_lt (Nat.le_add_right _ _) (Nat.lt_of_succ_lt_succ hk)
  exact Nat.lt_of_le_of_lt (Nat.le_of_eq h3) h4
theorem rstarts_l (l : List Int) (hl : ∀ x ∈ l, 0 ≤ x ∧ x ≤ 65535) (hm : l.length ≤ 1000000) : ∀ (k : Nat),
    (∀ t, (l.length - t) * 300 + 300 < k → t ≤ l.length → concordanceref9_Starts.l0 k l ((List.range 257).map fun c : Nat => (belowC (l.take t) (c : Int) : Int)) (t : Int) = some ((List.range 257).map fun c : Nat => (belowC l (c : Int) : Int))) ∧
    (∀ t j, (l.length - t) * 300 + (257 - j) + 1 < k → t < l.length → l.getD t 0 < (j : Int) → j ≤ 70000 → concordanceref9_Starts.l1 k l (rsAt l t j (l.getD t 0)) (t : Int) (j : Int) = some ((List.range 257).map fun c : Nat => (belowC l (c : Int) : Int)))
  | 0 => ⟨fun t h => absurd h (by omega), fun t j h => absurd h (by omega)⟩
  | k + 1 => by
    obtain ⟨ih0, ih1⟩ := rstarts_l l hl hm k
    refine ⟨fun t hk ht => ?_, fun t j hk ht hy hj => ?_⟩
    · rw [concordanceref9_Starts.l0]
      by_cases hlt : t < l.length
      · have hx := hl _ (mem_of_getD hlt)
        rw [if_pos (by omega), if_pos (by omega), rd_nat, wrap64_in' (l.getD t 0) (by omega), wrap64_in' _ (by omega)]
        obtain ⟨y, hy⟩ := Int.eq_ofNat_of_zero_le hx.1
        have e := rsAt_zero l t (y + 1) (l.getD t 0) (by rw [hy]; omega)
        rw [← e, show l.getD t 0 + 1 = ((y + 1 : Nat) : Int) by rw [hy]; omega]
        exact ih1 t (y + 1) (by omega) hlt (by rw [hy]; omega) (by omega)
      · rw [if_neg (by omega), List.take_of_length_le (by omega)]
    · rw [concordanceref9_Starts.l1]
      have hbl : belowC (l.take t) (j : Int) ≤ t := by
        unfold belowC
        have := List.countP_le_length (p := fun x => decide (x < (j : Int))) (l := l.take t)
        rw [List.length_take] at this
        omega
      by_cases hlt : j < 257
      · rw [if_pos (by omega), if_pos (by omega), if_pos (by rw [rsAt_length]; omega), rd_nat, Int.toNat_natCast, rsAt_at _ _ _ _ hlt, if_neg (by omega), Int.add_zero, wrap64_in' _ (by omega), wrap64_in' _ (by omega), rsAt_set l t j _ hlt hy, show (j : Int) + 1 = ((j + 1 : Nat) : Int) by omega]
        exact ih1 t (j + 1) (by omega) ht (by omega) (by omega)
      · have h1 : ¬ ((j : Int) < 257) := by omega
        have h2 : wrap64 ((t : Int) + 1) = ((t + 1 : Nat) : Int) := by rw [wrap64_in' _ (by omega)]; omega
        have h3 : 257 ≤ j := by omega
        rw [if_neg h1, h2, rsAt_all l ht h3]
        exact ih0 (t + 1) (rs_fuel ht hk) ht
theorem rstarts_f (l : List Int) (hl : ∀ x ∈ l, 0 ≤ x ∧ x ≤ 65535) (hm : l.length ≤ 1000000) : concordanceref9_Starts.f (l.length * 300 + 301) l = some ((List.range 257).map fun c : Nat => (belowC l (c : Int) : Int)) := by
  have h0 : (257 : Nat) ≤ 35184372088832 := by omega
  unfold concordanceref9_Starts.f
  refine (if_pos h0).trans ?_
  have := (rstarts_l l hl hm (l.length * 300 + 301)).1 0 (by omega) (by omega)
  have e : ((List.range 257).map fun c : Nat => (belowC (l.take 0) (c : Int) : Int)) = List.replicate 257 0 := by
    rw [List.take_zero]
    apply list_ext_getD
    · rw [List.length_map, List.length_range, List.length_replicate]
    · intro t ht
      rw [List.length_map, List.length_range] at ht
      rw [List.getD_eq_getElem?_getD, List.getElem?_map, List.getElem?_range ht, List.getD_eq_getElem?_getD, List.getElem?_replicate, if_pos ht]
      rfl
  rw [e] at this
  exact this
theorem len_l {ds : List (List Int)} (hn : lenF ds ≤ 100000000) : ∀ (k i : Nat), ds.length - i < k → i ≤ ds.length → concordanceref9_Len.l0 k (strsF ds) ((startF ds i + (ds.length - i) : Nat) : Int) (i : Int) = some (lenF ds : Int)
  | 0, _, h, _ => absurd h (by omega)
  | k + 1, i, hk, hi => by
    unfold concordanceref9_Len.l0
    rw [strsF_length]
    have hl : ds.length ≤ lenF ds := by
      have := start_ge ds (j := ds.length) (Nat.le_refl _)
      rwa [startF_all] at this
    have hsl := startF_le ds i
    by_cases hlt : i < ds.length
    · have hs := startF_succ ds hlt
      have hsl2 := startF_le ds (i + 1)
      rw [if_pos (by omega), if_pos (by omega), strsF_at ds hlt, strOfNums_size, wrap64_in' _ (by omega), wrap64_in' _ (by omega)]
      rw [show ((startF ds i + (ds.length - i) : Nat) : Int) + ((docF ds i).length : Int) = ((startF ds (i + 1) + (ds.length - (i + 1)) : Nat) : Int) by omega, show (i : Int) + 1 = ((i + 1 : Nat) : Int) by omega]
      exact len_l hn k (i + 1) (by omega) (by omega)
    · rw [if_neg (by omega), show i = ds.length by omega, startF_all]
      congr 1
      omega
theorem len_f {ds : List (List Int)} (hn : lenF ds ≤ 100000000) : concordanceref9_Len.f (ds.length + 1) (strsF ds) = some (lenF ds : Int) := by
  unfold concordanceref9_Len.f
  have := len_l hn (ds.length + 1) 0 (by omega) (by omega)
  rw [strsF_length]
  simpa [startF_zero] using this
theorem may_l {ds : List (List Int)} (hn : lenF ds ≤ 100000000) : ∀ (k i : Nat), ds.length - i < k → i ≤ ds.length → (∀ t, t < i → (docF ds t).length ≤ 2000) →
    ∃ r, concordanceref9_May.l0 k (strsF ds) ((startF ds i + (ds.length - i) : Nat) : Int) (i : Int) = some r ∧ (r = 0 ↔ (∀ t, t < ds.length → (docF ds t).length ≤ 2000) ∧ lenF ds ≤ 60000)
  | 0, _, h, _, _ => absurd h (by omega)
  | k + 1, i, hk, hi, hp => by
    unfold concordanceref9_May.l0
    rw [strsF_length]
    have hl : ds.length ≤ lenF ds := by
      have := start_ge ds (j := ds.length) (Nat.le_refl _)
      rwa [startF_all] at this
    have hsl := startF_le ds i
    by_cases hlt : i < ds.length
    · have hs := startF_succ ds hlt
      have hsl2 := startF_le ds (i + 1)
      rw [if_pos (by omega), if_pos (by omega), strsF_at ds hlt, strOfNums_size]
      by_cases h2 : (docF ds i).length ≤ 2000
      · rw [if_neg (by omega), wrap64_in' _ (by omega), wrap64_in' _ (by omega)]
        rw [show ((startF ds i + (ds.length - i) : Nat) : Int) + ((docF ds i).length : Int) = ((startF ds (i + 1) + (ds.length - (i + 1)) : Nat) : Int) by omega, show (i : Int) + 1 = ((i + 1 : Nat) : Int) by omega]
        refine may_l hn k (i + 1) (by omega) (by omega) (fun t ht => ?_)
        by_cases e : t = i
        · subst e; exact h2
        · exact hp t (by omega)
      · rw [if_pos (by omega)]
        exact ⟨2, rfl, fun h => by omega, fun h => absurd (h.1 i hlt) h2⟩
    · have e : i = ds.length := by omega
      rw [if_neg (by omega)]
      subst e
      rw [startF_all]
      by_cases h6 : lenF ds ≤ 60000
      · rw [if_neg (by omega)]
        exact ⟨0, rfl, fun _ => ⟨hp, h6⟩, fun _ => rfl⟩
      · rw [if_pos (by omega)]
        exact ⟨2, rfl, fun h => by omega, fun h => absurd h.2 h6⟩
theorem may_f {ds : List (List Int)} (hn : lenF ds ≤ 100000000) : ∃ r, concordanceref9_May.f (ds.length + 1) (strsF ds) = some r ∧ (r = 0 ↔ ds.length ≤ 500 ∧ (∀ d ∈ ds, d.length ≤ 2000) ∧ lenF ds ≤ 60000) := by
  unfold concordanceref9_May.f
  rw [strsF_length]
  by_cases h5 : ds.length ≤ 500
  · rw [if_neg (by omega)]
    obtain ⟨r, h1, h2⟩ := may_l hn (ds.length + 1) 0 (by omega) (by omega) (fun t ht => by omega)
    refine ⟨r, by simpa [startF_zero] using h1, ?_⟩
    rw [h2]
    constructor
    · rintro ⟨h3, h4⟩
      refine ⟨h5, fun d hd => ?_, h4⟩
      obtain ⟨t, ht, rfl⟩ := List.getElem_of_mem hd
      have := h3 t ht
      unfold docF at this
      rw [List.getD_eq_getElem?_getD, List.getElem?_eq_getElem ht] at this
      exact this
    · rintro ⟨_, h3, h4⟩
      refine ⟨fun t ht => h3 _ ?_, h4⟩
      unfold docF
      rw [List.getD_eq_getElem?_getD, List.getElem?_eq_getElem ht]
      exact List.getElem_mem ht
  · rw [if_pos (by omega)]
    exact ⟨65, rfl, fun h => by omega, fun h => absurd h.1 h5⟩
end Go.Proofs.Ytadekjidjhglaaa.Sf
