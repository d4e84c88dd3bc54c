/- Plain: the rows that begin with a text. -/
import Derived.Test.YtadekjidjhglaaaSh
set_option linter.unusedVariables false
set_option linter.unusedSimpArgs false
namespace Go.Proofs.Ytadekjidjhglaaa.Sf

/-- What stands behind a place, as symbols. -/
theorem row_drop (ds : List (List Int)) : ∀ (i o : Nat), i < ds.length → o ≤ (docF ds i).length → ∃ u, (rowF ds).drop (startF ds i + o) = ((docF ds i).drop o).map (· + 1) ++ 0 :: u := by
  induction ds with
  | nil => intro i o h; simp at h
  | cons d ds ih =>
    intro i o hi ho
    match i with
    | 0 =>
      have ho' : o ≤ d.length := ho
      refine ⟨rowF ds, ?_⟩
      have e : startF (d :: ds) 0 = 0 := rfl
      rw [e, Nat.zero_add]
      show (d.map (· + 1) ++ 0 :: rowF ds).drop o = (d.drop o).map (· + 1) ++ _
      rw [List.drop_append_of_le_length (by simp; omega), List.map_drop]
    | i + 1 =>
      obtain ⟨u, hu⟩ := ih i o (by simpa using hi) ho
      refine ⟨u, ?_⟩
      rw [startF_succ_cons]
      show (d.map (· + 1) ++ 0 :: rowF ds).drop (d.length + 1 + startF ds i + o) = _
      have e : d.map (· + 1) ++ 0 :: rowF ds = (d.map (· + 1) ++ [0]) ++ rowF ds := by simp
      have e2 : d.length + 1 + startF ds i + o = (d.map (· + 1) ++ [(0 : Int)]).length + (startF ds i + o) := by simp; omega
      rw [e, e2, List.drop_append, List.drop_eq_nil_of_le (by omega), List.nil_append, Nat.add_sub_cancel_left]
      exact hu

/-- The program's compare. -/
def cmpF : List Int → List Int → Int
  | _, [] => 0
  | x, c :: p => if x.getD 0 0 = c + 1 then cmpF (x.drop 1) p else x.getD 0 0 - c - 1
/-- More than a text, not beginning with it. -/
def gtF (d p : List Int) : Prop := ll p (d.take p.length)
instance (d p : List Int) : Decidable (gtF d p) := by unfold gtF; infer_instance
theorem cmp_sign : ∀ (p d u : List Int), (∀ c ∈ p, 0 ≤ c) → (0 ≤ cmpF (d.map (· + 1) ++ 0 :: u) p ↔ ¬ ll d p) ∧ (0 < cmpF (d.map (· + 1) ++ 0 :: u) p ↔ gtF d p)
  | [], d, u, _ => by simp [cmpF, gtF]
  | c :: p, [], u, hp => by
    have := hp c (List.mem_cons_self ..)
    have h : ¬ (0 : Int) = c + 1 := by omega
    simp [cmpF, gtF, h]
    omega
  | c :: p, a :: d, u, hp => by
    have ih := cmp_sign p d u (fun c hc => hp c (List.mem_cons_of_mem _ hc))
    unfold gtF at ih ⊢
    simp only [cmpF, List.map_cons, List.cons_append, List.getD_cons_zero, List.drop_succ_cons, List.drop_zero, List.length_cons, List.take_succ_cons, ll_cons]
    by_cases h : a = c
    · subst h
      rw [if_pos rfl, ih.1, ih.2]
      simp
    · rw [if_neg (by omega)]
      constructor <;> omega
theorem cmp_walk : ∀ (p x : List Int) (i : Nat), i ≤ p.length → (∀ t, t < i → x.getD t 0 = p.getD t 0 + 1) → cmpF x p = cmpF (x.drop i) (p.drop i)
  | p, x, 0, _, _ => by simp
  | [], x, i + 1, h, _ => by simp at h
  | c :: p, x, i + 1, h, hm => by
    have h0 := hm 0 (by omega)
    simp only [List.getD_cons_zero] at h0
    have ih := cmp_walk p (x.drop 1) i (by simpa using h) (fun t ht => by
      have := hm (t + 1) (by omega)
      rw [getD_drop]
      simpa [Nat.add_comm] using this)
    rw [cmpF, if_pos h0, ih, List.drop_drop, List.drop_succ_cons, Nat.add_comm]
theorem cmp_here {p x : List Int} {i : Nat} (h : i < p.length) (hm : ∀ t, t < i → x.getD t 0 = p.getD t 0 + 1) (hne : x.getD i 0 ≠ p.getD i 0 + 1) : cmpF x p = x.getD i 0 - p.getD i 0 - 1 := by
  rw [cmp_walk p x i (by omega) hm, List.drop_eq_getElem_cons h, cmpF]
  have e : (x.drop i).getD 0 0 = x.getD i 0 := by rw [getD_drop, Nat.add_zero]
  have e2 : p[i] = p.getD i 0 := by rw [List.getD_eq_getElem?_getD, List.getElem?_eq_getElem h]; rfl
  rw [e, e2, if_neg hne]
theorem cmp_all {p x : List Int} (hm : ∀ t, t < p.length → x.getD t 0 = p.getD t 0 + 1) : cmpF x p = 0 := by
  rw [cmp_walk p x p.length (Nat.le_refl _) hm]
  simp [cmpF]
theorem cmp_in {p x : List Int} (hp : ∀ c ∈ p, 0 ≤ c) {z i : Nat} (hz : z < x.length) (h0 : x.getD z 0 = 0) (hi : i ≤ p.length) (hm : ∀ t, t < i → x.getD t 0 = p.getD t 0 + 1) : i < x.length := by
  by_cases h : i ≤ z
  · omega
  · have h1 := hm z (by omega)
    have h2 := hp _ (mem_of_getD (d := p) (p := z) (by omega))
    omega

/-- Where something begins to hold. -/
def Split (P : Nat → Prop) (n r : Nat) : Prop := r ≤ n ∧ (∀ i, i < r → ¬ P i) ∧ ∀ i, r ≤ i → i < n → P i
theorem split_unique {P : Nat → Prop} {n a b : Nat} (ha : Split P n a) (hb : Split P n b) : a = b := by
  rcases Nat.lt_trichotomy a b with h | h | h
  · exact absurd (ha.2.2 a (Nat.le_refl _) (by have := hb.1; omega)) (hb.2.1 a h)
  · exact h
  · exact absurd (hb.2.2 b (Nat.le_refl _) (by have := ha.1; omega)) (ha.2.1 b h)
theorem split_congr {P Q : Nat → Prop} {n r : Nat} (h : ∀ i, i < n → (P i ↔ Q i)) (hs : Split P n r) : Split Q n r :=
  ⟨hs.1, fun i hi hq => hs.2.1 i hi ((h i (by have := hs.1; omega)).2 hq), fun i h1 h2 => (h i h2).1 (hs.2.2 i h1 h2)⟩
theorem split_exists {P : Nat → Prop} [DecidablePred P] (n : Nat) (hm : ∀ i j, i ≤ j → j < n → P i → P j) : ∃ r, Split P n r := by
  induction n with
  | zero => exact ⟨0, Nat.le_refl _, fun i h => absurd h (Nat.not_lt_zero _), fun i _ h => absurd h (Nat.not_lt_zero _)⟩
  | succ n ih =>
    obtain ⟨r, h1, h2, h3⟩ := ih (fun i j hij hj => hm i j hij (by omega))
    by_cases hr : r < n
    · refine ⟨r, by omega, h2, fun i hi hin => ?_⟩
      by_cases e : i = n
      · exact hm r i hi hin (h3 r (Nat.le_refl _) hr)
      · exact h3 i hi (by omega)
    · have : r = n := by omega
      subst this
      by_cases hp : P r
      · exact ⟨r, by omega, h2, fun i hi hin => by have : i = r := by omega
                                                   subst this; exact hp⟩
      · exact ⟨r + 1, by omega, fun i hi => by
          by_cases e : i = r
          · subst e; exact hp
          · exact h2 i (by omega), fun i hi hin => by omega⟩
theorem split_le {P Q : Nat → Prop} {n a b : Nat} (ha : Split P n a) (hb : Split Q n b) (h : ∀ i, i < n → Q i → P i) : a ≤ b := by
  by_cases hab : a ≤ b
  · exact hab
  · exact absurd (h b (by have := ha.1; omega) (hb.2.2 b (Nat.le_refl _) (by have := ha.1; omega))) (ha.2.1 b (by omega))

/-- The i-th row's text. -/
def sufF (ds : List (List Int)) (r : List (Nat × Nat)) (i : Nat) : List Int := (docF ds (r.getD i (0, 0)).1).drop (r.getD i (0, 0)).2
/-- Rows in order. -/
def Sorted (ds : List (List Int)) (r : List (Nat × Nat)) : Prop := r.Perm (hitsF 0 ds) ∧ r.Pairwise (hless ds)
theorem hless_le {ds : List (List Int)} {a b : Nat × Nat} (h : hless ds a b) : ¬ ll ((docF ds b.1).drop b.2) ((docF ds a.1).drop a.2) := by
  unfold hless at h
  rcases h with h | ⟨h, _⟩
  · exact ll_asymm h
  · rw [h]; exact ll_irrefl _
theorem suf_le {ds : List (List Int)} {r : List (Nat × Nat)} (hs : Sorted ds r) {i j : Nat} (hij : i ≤ j) (hj : j < r.length) : ¬ ll (sufF ds r j) (sufF ds r i) := by
  by_cases e : i = j
  · subst e; exact ll_irrefl _
  · unfold sufF
    have h := List.pairwise_iff_getElem.1 hs.2 i j (by omega) hj (by omega)
    have h2 := hless_le h
    rw [List.getD_eq_getElem?_getD, List.getD_eq_getElem?_getD, List.getElem?_eq_getElem (show i < r.length by omega), List.getElem?_eq_getElem hj]
    exact h2
theorem ll_of_le {x y z : List Int} (h : ¬ ll y x) (h2 : ll y z) : ll x z := by
  rcases ll_tri x y with g | g | g
  · exact ll_trans g h2
  · rw [g]; exact h2
  · exact absurd g h
theorem ll_of_lt_le {x y z : List Int} (h : ll x y) (h2 : ¬ ll z y) : ll x z := by
  rcases ll_tri y z with g | g | g
  · exact ll_trans h g
  · rw [← g]; exact h
  · exact absurd g h2
theorem mono_lo {ds : List (List Int)} {r : List (Nat × Nat)} (hs : Sorted ds r) (p : List Int) : ∀ i j, i ≤ j → j < r.length → ¬ ll (sufF ds r i) p → ¬ ll (sufF ds r j) p :=
  fun i j hij hj h h2 => h (ll_of_le (suf_le hs hij hj) h2)
theorem mono_hi {ds : List (List Int)} {r : List (Nat × Nat)} (hs : Sorted ds r) (p : List Int) : ∀ i j, i ≤ j → j < r.length → gtF (sufF ds r i) p → gtF (sufF ds r j) p := by
  intro i j hij hj h
  unfold gtF at h ⊢
  exact ll_of_lt_le h (fun h2 => suf_le hs hij hj (ll_take p.length h2))
theorem gt_not {d p : List Int} (h : gtF d p) : ¬ ll d p := by
  intro h2
  unfold gtF at h
  have h3 : ¬ ll (d.take p.length) p := ll_asymm h
  apply h3
  have h4 : ll (d.take p.length) (p.take p.length) ∨ d.take p.length = p := by
    clear h h3
    induction p generalizing d with
    | nil => exact absurd h2 (by simp)
    | cons c p ih =>
      cases d with
      | nil => left; simp
      | cons a d =>
        rw [ll_cons] at h2
        simp only [List.length_cons, List.take_succ_cons, ll_cons, List.cons.injEq]
        rcases h2 with h2 | ⟨h2, h2'⟩
        · exact .inl (.inl h2)
        · rcases ih h2' with g | g
          · exact .inl (.inr ⟨h2, g⟩)
          · exact .inr ⟨h2, g⟩
  rcases h4 with h4 | h4
  · rwa [List.take_length] at h4
  · exact absurd h (by rw [h4]; exact ll_irrefl _)
/-- Neither less nor more: it begins with the text. -/
theorem pre_iff (d p : List Int) : d.take p.length = p ↔ (¬ ll d p ∧ ¬ gtF d p) := by
  unfold gtF
  constructor
  · intro h
    rw [h]
    refine ⟨fun h2 => ?_, ll_irrefl _⟩
    have h3 : d = p ++ d.drop p.length := by
      conv => lhs; rw [← List.take_append_drop p.length d, h]
    have : ∀ (p u : List Int), ¬ ll (p ++ u) p := by
      intro p u
      induction p with
      | nil => simp
      | cons a p ih => simp [ih]
    rw [h3] at h2
    exact this p _ h2
  · rintro ⟨h1, h2⟩
    rcases ll_tri p (d.take p.length) with g | g | g
    · exact absurd g h2
    · exact g.symm
    · exfalso
      apply h1
      have h3 := ll_append_right (v := d.drop p.length) g
      by_cases hl : p.length ≤ d.length
      · have h4 := ll_append_left (u := d.drop p.length) (v := []) g (by simp; omega)
        rwa [List.take_append_drop, List.append_nil] at h4
      · rwa [List.take_of_length_le (by omega)] at g
theorem rows_exist {ds : List (List Int)} : ∃ r, Sorted ds r := by
  have h : ∀ l : List (Nat × Nat), (∀ x ∈ l, x ∈ hitsF 0 ds) → l.Nodup → ∃ r : List (Nat × Nat), r.Perm l ∧ r.Pairwise (hless ds) := by
    intro l
    induction l with
    | nil => exact fun _ _ => ⟨[], .refl _, .nil⟩
    | cons x l ih =>
      intro hin hnd
      rw [List.nodup_cons] at hnd
      obtain ⟨r, h1, h2⟩ := ih (fun y hy => hin y (List.mem_cons_of_mem _ hy)) hnd.2
      refine ⟨mergeF (fun x y => decide (hless ds x y)) [x] r, (merge_perm _ _ _).trans (List.Perm.cons x h1), ?_⟩
      refine merge_sorted (R := hless ds) (S := hitsF 0 ds) (fun _ _ _ => hless_trans) (fun a b ha hb => hless_tri a b ha hb) [x] r ?_ ?_ ?_ (List.pairwise_singleton _ _) h2
      · intro y hy
        rw [List.mem_singleton.1 hy]
        exact hin x (List.mem_cons_self ..)
      · exact fun y hy => hin y (List.mem_cons_of_mem _ (h1.subset hy))
      · intro y hy z hz e
        rw [List.mem_singleton.1 hy] at e
        subst e
        exact hnd.1 (h1.subset hz)
  have hnd : (hitsF 0 ds).Nodup := by
    have h : ((hitsF 0 ds).map (placeF ds)).Nodup := by rw [place_hits]; exact List.nodup_range
    unfold List.Nodup at h ⊢
    rw [List.pairwise_map] at h
    exact h.imp (fun h e => h (by rw [e]))
  exact h _ (fun _ h => h) hnd
theorem rows_SA {ds : List (List Int)} (hb : Bytes ds) {r : List (Nat × Nat)} (hs : Sorted ds r) {sa : List Nat} (h : SA (r0 ds) sa) : sa = r.map (placeF ds) :=
  SA_unique h (SA_of_hits hb hs.1 hs.2)
end Go.Proofs.Ytadekjidjhglaaa.Sf
