/- Plain: what stands ahead of each end, and where its steps lead. Plain: rows of what stands ahead of each end are read back, document by document. -/
import Derived.Test.YtadekjidjhglaaaSi
set_option linter.unusedVariables false
set_option linter.unusedSimpArgs false
namespace Go.Proofs.Ytadekjidjhglaaa.Sf

/-- The symbol ahead of a place. -/
def ahF (row : List Int) (p : Nat) : Int := if p = 0 then 0 else row.getD (p - 1) 0
def bwF (row : List Int) (sa : List Nat) : List Int := sa.map (ahF row)
theorem bwF_length (row : List Int) (sa : List Nat) : (bwF row sa).length = sa.length := by simp [bwF]
theorem bwF_at (row : List Int) {sa : List Nat} {i : Nat} (h : i < sa.length) : (bwF row sa).getD i 0 = ahF row (sa.getD i 0) := by
  unfold bwF
  rw [List.getD_eq_getElem?_getD, List.getElem?_map, List.getD_eq_getElem?_getD, List.getElem?_eq_getElem h]
  rfl
/-- How many are below a symbol, and how often it stands in the first so many. -/
def belowC (l : List Int) (c : Int) : Nat := l.countP (fun x => decide (x < c))
def sameC (l : List Int) (c : Int) (i : Nat) : Nat := (l.take i).countP (fun x => decide (x = c))

theorem take_mem {α : Type} [Inhabited α] {l : List α} {i : Nat} {x d : α} (h : x ∈ l.take i) : ∃ j, j < i ∧ j < l.length ∧ l.getD j d = x := by
  obtain ⟨j, hj, e⟩ := List.getElem_of_mem h
  rw [List.length_take] at hj
  rw [List.getElem_take] at e
  exact ⟨j, by omega, by omega, by rw [List.getD_eq_getElem?_getD, List.getElem?_eq_getElem (by omega)]; exact e⟩
theorem drop_mem {α : Type} [Inhabited α] {l : List α} {i : Nat} {x d : α} (h : x ∈ l.drop i) : ∃ j, i ≤ j ∧ j < l.length ∧ l.getD j d = x := by
  obtain ⟨j, hj, e⟩ := List.getElem_of_mem h
  rw [List.length_drop] at hj
  rw [List.getElem_drop] at e
  exact ⟨i + j, by omega, by omega, by rw [List.getD_eq_getElem?_getD, List.getElem?_eq_getElem (by omega)]; exact e⟩
/-- Counting what lies ahead of a row, and more. -/
theorem count_ahead {r : List Int} {sa : List Nat} (h : SA r sa) {i : Nat} (hi : i < r.length) (f : Nat → Bool) :
    (List.range r.length).countP (fun y => f y && decide (ll (r.drop y) (r.drop (sa.getD i 0)))) = (sa.take i).countP f := by
  have hl := SA_len h
  obtain ⟨p0, hp0⟩ : ∃ p0, p0 = sa.getD i 0 := ⟨_, rfl⟩
  rw [← hp0]
  have e1 : (sa.take i).countP (fun y => f y && decide (ll (r.drop y) (r.drop p0))) = (sa.take i).countP f := by
    apply List.countP_congr
    intro y hy
    obtain ⟨j, h1, h2, rfl⟩ := take_mem (d := 0) hy
    have := SA_ll h h1 hi
    rw [← hp0] at this
    rw [decide_eq_true this, Bool.and_true]
  have e2 : (sa.drop i).countP (fun y => f y && decide (ll (r.drop y) (r.drop p0))) = 0 := by
    rw [List.countP_eq_zero]
    intro y hy
    obtain ⟨j, h1, h2, rfl⟩ := drop_mem (d := 0) hy
    have : ¬ ll (r.drop (sa.getD j 0)) (r.drop p0) := by
      rw [hp0]
      by_cases e : i = j
      · subst e; exact ll_irrefl _
      · exact ll_asymm (SA_ll h (by omega) (by omega))
    rw [decide_eq_false this, Bool.and_false]
    simp
  rw [← h.1.countP_eq]
  conv => lhs; rw [← List.take_append_drop i sa]
  rw [List.countP_append, e1, e2, Nat.add_zero]
theorem count_rank {r : List Int} {sa : List Nat} (h : SA r sa) {i : Nat} (hi : i < r.length) : (List.range r.length).countP (fun y => decide (ll (r.drop y) (r.drop (sa.getD i 0)))) = i := by
  have := count_ahead h hi (fun _ => true)
  simp only [Bool.true_and] at this
  rw [this, List.countP_true, List.length_take, SA_len h]
  omega
theorem countP_or {α : Type} (l : List α) (f g : α → Bool) (hd : ∀ x ∈ l, ¬ (f x = true ∧ g x = true)) : l.countP (fun x => f x || g x) = l.countP f + l.countP g := by
  induction l with
  | nil => rfl
  | cons a l ih =>
    have h1 := ih (fun x hx => hd x (List.mem_cons_of_mem _ hx))
    have h2 := hd a (List.mem_cons_self ..)
    rw [List.countP_cons, List.countP_cons, List.countP_cons, h1]
    cases hf : f a <;> cases hg : g a <;> simp_all <;> omega
theorem countP_range_list (l : List Int) (f : Int → Bool) : (List.range l.length).countP (fun x => f (l.getD x 0)) = l.countP f := by
  have e : l = (List.range l.length).map (fun x => l.getD x 0) := by
    apply List.ext_getElem
    · simp
    · intro i h1 h2
      rw [List.getElem_map, List.getElem_range, List.getD_eq_getElem?_getD, List.getElem?_eq_getElem h1]
      rfl
  conv => rhs; rw [e]
  rw [List.countP_map]
  rfl
theorem countP_shift (n : Nat) (F : Nat → Bool) (h0 : F 0 = false) (hn : F n = false) : (List.range n).countP (fun x => F (x + 1)) = (List.range n).countP F := by
  have h1 : (List.range (n + 1)).countP F = (List.range n).countP F := by
    rw [List.range_succ, List.countP_append]
    simp [hn]
  have h2 : (List.range (n + 1)).countP F = (List.range n).countP (fun x => F (x + 1)) := by
    rw [List.range_succ_eq_map, List.countP_cons, List.countP_map, h0]
    simp
    rfl
  omega
/-- The symbols ahead are the row's, in another order. -/
theorem bw_perm {ds : List (List Int)} {sa : List Nat} (h : SA (r0 ds) sa) (hn : 0 < (rowF ds).length) : (bwF (rowF ds) sa).Perm (rowF ds) := by
  have hl := r0_len ds
  have h1 : (bwF (rowF ds) sa).Perm ((List.range (rowF ds).length).map (ahF (rowF ds))) := by
    unfold bwF
    have := h.1
    rw [hl] at this
    exact this.map _
  refine h1.trans ?_
  have e1 : (List.range (rowF ds).length).map (ahF (rowF ds)) = 0 :: (rowF ds).take ((rowF ds).length - 1) := by
    obtain ⟨m, hm⟩ : ∃ m, (rowF ds).length = m + 1 := ⟨(rowF ds).length - 1, by omega⟩
    rw [hm, List.range_succ_eq_map, List.map_cons, List.map_map, Nat.add_sub_cancel]
    congr 1
    apply List.ext_getElem
    · simp; omega
    · intro i h1 h2
      simp only [List.length_map, List.length_range] at h1
      rw [List.getElem_map, List.getElem_range, List.getElem_take]
      show ahF (rowF ds) (i + 1) = _
      unfold ahF
      rw [if_neg (by omega), Nat.add_sub_cancel, List.getD_eq_getElem?_getD, List.getElem?_eq_getElem (by omega)]
      rfl
  have e2 : rowF ds = (rowF ds).take ((rowF ds).length - 1) ++ [0] := by
    have := take_snoc (rowF ds) (p := (rowF ds).length - 1) (by omega)
    rw [row_last ds hn, show (rowF ds).length - 1 + 1 = (rowF ds).length by omega, List.take_length] at this
    exact this
  rw [e1]
  conv => rhs; rw [e2]
  exact (List.perm_append_singleton 0 _).symm
theorem zcF_all {ds : List (List Int)} (hb : Bytes ds) : zcF (rowF ds) (rowF ds).length = ds.length := by
  unfold zcF
  rw [List.take_length]
  induction ds with
  | nil => rfl
  | cons d ds ih =>
    have := countP_map_succ d (fun c hc => (hb d (List.mem_cons_self ..) c hc).1)
    simp only [rowF, List.countP_append, List.countP_cons, this]
    rw [ih (fun d hd => hb d (List.mem_cons_of_mem _ hd))]
    simp
theorem r0_lt {ds : List (List Int)} (hb : Bytes ds) {x q : Nat} (hx : x < (rowF ds).length) (hq : q < (rowF ds).length) (hne : (rowF ds).getD q 0 ≠ 0) :
    ((r0 ds).getD x 0 < (r0 ds).getD q 0 ↔ (rowF ds).getD x 0 < (rowF ds).getD q 0) ∧ ((r0 ds).getD x 0 = (r0 ds).getD q 0 ↔ (rowF ds).getD x 0 = (rowF ds).getD q 0) := by
  have hbq := row_bounds ds hb q
  have hbx := row_bounds ds hb x
  rw [r0_at1 ds hb hq hne]
  by_cases h0 : (rowF ds).getD x 0 = 0
  · rw [r0_at0 ds hb hx h0, h0]
    have hz : zcF (rowF ds) x < ds.length := by
      have := (r0_bounds hb x (by rw [r0_len]; exact hx))
      have h1 := zcF_succ (rowF ds) hx
      rw [if_pos h0] at h1
      have h2 := zcF_mono (rowF ds) (p := x + 1) (q := (rowF ds).length) (by omega) (Nat.le_refl _)
      have h3 : zcF (rowF ds) (rowF ds).length = ds.length := zcF_all hb
      omega
    constructor <;> omega
  · rw [r0_at1 ds hb hx h0]
    constructor <;> omega
/-- Where a step leads: to the place ahead. -/
theorem lf {ds : List (List Int)} (hb : Bytes ds) {sa : List Nat} (h : SA (r0 ds) sa) {i q : Nat} (hi : i < (r0 ds).length) (e : sa.getD i 0 = q + 1) (hc : (rowF ds).getD q 0 ≠ 0) :
    sa.getD (belowC (bwF (rowF ds) sa) ((rowF ds).getD q 0) + sameC (bwF (rowF ds) sa) ((rowF ds).getD q 0) i) 0 = q ∧
    belowC (bwF (rowF ds) sa) ((rowF ds).getD q 0) + sameC (bwF (rowF ds) sa) ((rowF ds).getD q 0) i < (r0 ds).length := by
  have hrl := r0_len ds
  have hq1 : q + 1 < (r0 ds).length := by rw [← e]; exact SA_lt h hi
  have hq : q < (r0 ds).length := by omega
  obtain ⟨k, hk, ek⟩ := SA_at h hq
  have hrank := count_rank h hk
  rw [ek] at hrank
  have hsplit : (List.range (r0 ds).length).countP (fun y => decide (ll ((r0 ds).drop y) ((r0 ds).drop q))) =
      (List.range (r0 ds).length).countP (fun y => decide ((rowF ds).getD y 0 < (rowF ds).getD q 0) || (decide ((rowF ds).getD y 0 = (rowF ds).getD q 0) && decide (ll ((r0 ds).drop (y + 1)) ((r0 ds).drop (q + 1))))) := by
    apply List.countP_congr
    intro y hy
    have hy := List.mem_range.1 hy
    have hlt := r0_lt hb (x := y) (q := q) (by omega) (by omega) hc
    rw [List.drop_eq_getElem_cons hy, List.drop_eq_getElem_cons hq]
    have e1 : (r0 ds)[y] = (r0 ds).getD y 0 := by rw [List.getD_eq_getElem?_getD, List.getElem?_eq_getElem hy]; rfl
    have e2 : (r0 ds)[q] = (r0 ds).getD q 0 := by rw [List.getD_eq_getElem?_getD, List.getElem?_eq_getElem hq]; rfl
    rw [e1, e2, decide_eq_true_iff, ll_cons, hlt.1, hlt.2]
    simp only [Bool.or_eq_true, Bool.and_eq_true, decide_eq_true_eq]
  have hfirst : (List.range (r0 ds).length).countP (fun y => decide ((rowF ds).getD y 0 < (rowF ds).getD q 0)) = belowC (bwF (rowF ds) sa) ((rowF ds).getD q 0) := by
    rw [hrl, countP_range_list (rowF ds) (fun x => decide (x < (rowF ds).getD q 0))]
    unfold belowC
    exact ((bw_perm h (by omega)).countP_eq _).symm
  have hsecond : (List.range (r0 ds).length).countP (fun y => decide ((rowF ds).getD y 0 = (rowF ds).getD q 0) && decide (ll ((r0 ds).drop (y + 1)) ((r0 ds).drop (q + 1)))) = sameC (bwF (rowF ds) sa) ((rowF ds).getD q 0) i := by
    have hsh := countP_shift (r0 ds).length (fun y => decide (ahF (rowF ds) y = (rowF ds).getD q 0) && decide (ll ((r0 ds).drop y) ((r0 ds).drop (q + 1)))) (by
      have : ¬ ahF (rowF ds) 0 = (rowF ds).getD q 0 := by unfold ahF; rw [if_pos rfl]; exact fun h => hc h.symm
      show (decide _ && _) = false
      rw [decide_eq_false this, Bool.false_and]) (by
      have : ¬ ahF (rowF ds) (r0 ds).length = (rowF ds).getD q 0 := by
        unfold ahF
        rw [if_neg (by omega), hrl, row_last ds (by omega)]
        exact fun h => hc h.symm
      show (decide _ && _) = false
      rw [decide_eq_false this, Bool.false_and])
    have hah : ∀ y, ahF (rowF ds) (y + 1) = (rowF ds).getD y 0 := fun y => by unfold ahF; rw [if_neg (by omega), Nat.add_sub_cancel]
    simp only [hah] at hsh
    rw [hsh]
    have := count_ahead h hi (fun y => decide (ahF (rowF ds) y = (rowF ds).getD q 0))
    rw [e] at this
    rw [this]
    unfold sameC bwF
    rw [← List.map_take, List.countP_map]
    rfl
  rw [hsplit, countP_or _ _ _ (fun x _ hx => by
    have h1 := of_decide_eq_true hx.1
    have h2 := hx.2
    rw [Bool.and_eq_true, decide_eq_true_iff] at h2
    omega), hfirst, hsecond] at hrank
  rw [hrank]
  exact ⟨ek, hk⟩
end Go.Proofs.Ytadekjidjhglaaa.Sf
set_option linter.unusedVariables false
set_option linter.unusedSimpArgs false
namespace Go.Proofs.Ytadekjidjhglaaa.Sf

/-- The row of what stands ahead of a row. -/
def nextF (l : List Int) (i : Nat) : Nat := belowC l (l.getD i 0) + sameC l (l.getD i 0) i
/-- Where a row's step leads; below 0: nowhere. -/
def stepF (l : List Int) (i : Nat) : Int := if l.getD i 0 = 0 then -1 else (nextF l i : Int)
def stepsL (l : List Int) : List Int := (List.range l.length).map (stepF l)
def pathF (l : List Int) (j : Nat) : Nat → Nat
  | 0 => j
  | t + 1 => nextF l (pathF l j t)
/-- From a row on, a document is read from its end on. -/
def Chain (l : List Int) (j : Nat) (d : List Int) : Prop :=
  (∀ t, t < d.length → l.getD (pathF l j t) 0 = d.getD (d.length - 1 - t) 0 + 1) ∧ l.getD (pathF l j d.length) 0 = 0
/-- The first documents have been read. -/
structure PreF (l : List Int) (j : Nat) (ds : List (List Int)) : Prop where
  n : ds.length = j
  b : Bytes ds
  c : ∀ t, t < j → Chain l t (docF ds t)

theorem next_lt {l : List Int} {i : Nat} (h : i < l.length) : nextF l i < l.length := by
  unfold nextF belowC sameC
  have h1 : l.countP (fun x => decide (x < l.getD i 0) || decide (x = l.getD i 0)) ≤ l.length := List.countP_le_length
  rw [countP_or _ _ _ (fun x _ hx => by
    have h1 := of_decide_eq_true hx.1
    have h2 := of_decide_eq_true hx.2
    omega)] at h1
  have h2 : l.countP (fun x => decide (x = l.getD i 0)) = (l.take i).countP (fun x => decide (x = l.getD i 0)) + (l.drop i).countP (fun x => decide (x = l.getD i 0)) := by
    rw [← List.countP_append, List.take_append_drop]
  have h3 : 0 < (l.drop i).countP (fun x => decide (x = l.getD i 0)) := by
    rw [List.countP_pos_iff]
    refine ⟨l.getD i 0, ?_, by simp⟩
    rw [List.drop_eq_getElem_cons h, List.getD_eq_getElem?_getD, List.getElem?_eq_getElem h]
    exact List.mem_cons_self ..
  omega
theorem path_lt {l : List Int} {j : Nat} (h : j < l.length) : ∀ t, pathF l j t < l.length
  | 0 => h
  | t + 1 => next_lt (path_lt h t)
theorem chain_len {l : List Int} {j : Nat} {d d' : List Int} (h : Chain l j d) (h' : Chain l j d') (hb' : Byte1 d') : ¬ d.length < d'.length := fun hl => by
  have h1 := h'.1 d.length hl
  rw [h.2] at h1
  have h2 := (hb' (d'.getD (d'.length - 1 - d.length) 0) (mem_of_getD (by omega))).1
  omega
theorem chain_unique {l : List Int} {j : Nat} {d d' : List Int} (h : Chain l j d) (h' : Chain l j d') (hb : Byte1 d) (hb' : Byte1 d') : d = d' := by
  have h1 := chain_len h h' hb'
  have h2 := chain_len h' h hb
  have hl : d.length = d'.length := by omega
  apply List.ext_getElem hl
  intro s h3 h4
  have e1 := h.1 (d.length - 1 - s) (by omega)
  have e2 := h'.1 (d.length - 1 - s) (by omega)
  rw [e1, show d.length - 1 - (d.length - 1 - s) = s by omega, show d'.length - 1 - (d.length - 1 - s) = s by omega, List.getD_eq_getElem?_getD, List.getD_eq_getElem?_getD, List.getElem?_eq_getElem h3, List.getElem?_eq_getElem h4] at e2
  simpa using e2
theorem pre_take {l : List Int} {n j : Nat} {ds ds' : List (List Int)} (h : PreF l n ds) (h' : PreF l j ds') (hj : j ≤ n) : ds.take j = ds' := by
  apply List.ext_getElem
  · rw [List.length_take, h.n, h'.n]; omega
  · intro t h1 h2
    have ht : t < j := by have := h'.n; omega
    have e := chain_unique (h.c t (by omega)) (h'.c t ht) (byte1_doc h.b t) (byte1_doc h'.b t)
    rw [List.getElem_take]
    unfold docF at e
    rw [List.getD_eq_getElem?_getD, List.getD_eq_getElem?_getD, List.getElem?_eq_getElem h2, List.getElem?_eq_getElem (by have := h.n; omega)] at e
    exact e
theorem pre_unique {l : List Int} {n : Nat} {ds ds' : List (List Int)} (h : PreF l n ds) (h' : PreF l n ds') : ds = ds' := by
  have := pre_take h h' (Nat.le_refl _)
  rwa [List.take_of_length_le (by rw [h.n]; omega)] at this
theorem pre_nil (l : List Int) : PreF l 0 [] := ⟨rfl, fun _ h => by simp at h, fun _ h => by omega⟩
theorem pre_snoc {l : List Int} {j : Nat} {ds : List (List Int)} {d : List Int} (h : PreF l j ds) (hb : Byte1 d) (hc : Chain l j d) : PreF l (j + 1) (ds ++ [d]) := by
  refine ⟨by rw [List.length_append, h.n]; rfl, fun x hx => ?_, fun t ht => ?_⟩
  · rcases List.mem_append.1 hx with hx | hx
    · exact h.b x hx
    · rw [List.mem_singleton.1 hx]; exact hb
  · unfold docF
    rw [List.getD_eq_getElem?_getD]
    by_cases e : t < j
    · rw [List.getElem?_append_left (by rw [h.n]; exact e), ← List.getD_eq_getElem?_getD]
      exact h.c t e
    · obtain rfl : t = j := by omega
      rw [List.getElem?_append_right (by rw [h.n]; omega), h.n]
      simpa using hc
theorem lenF_snoc (ds : List (List Int)) (d : List Int) : lenF (ds ++ [d]) = lenF ds + (d.length + 1) := by
  rw [lenF_append]; simp [lenF]
/-- What has been read of a document that goes on. -/
theorem chain_more {l : List Int} {j k : Nat} (hnz : ∀ t, t ≤ k → l.getD (pathF l j t) 0 ≠ 0) {d : List Int} (h : Chain l j d) (hb : Byte1 d) : k < d.length := by
  rcases Nat.lt_or_ge k d.length with h1 | h1
  · exact h1
  · exact absurd h.2 (hnz _ h1)
/-- Such documents are too long. -/
theorem read_stop {l : List Int} {n j k : Nat} {ds' : List (List Int)} (h' : PreF l j ds') (hj : j < n) (hnz : ∀ t, t ≤ k → l.getD (pathF l j t) 0 ≠ 0) {ds : List (List Int)} (h : PreF l n ds) :
    (∃ d ∈ ds, k < d.length) ∧ lenF ds' + (k + 2) ≤ lenF ds := by
  have ht := pre_take h h' (by omega)
  have hk := chain_more hnz (h.c j hj) (byte1_doc h.b j)
  have hjl : j < ds.length := by rw [h.n]; exact hj
  have hs := startF_succ ds hjl
  have hle := startF_le ds (j + 1)
  have e : startF ds j = lenF ds' := by unfold startF; rw [ht]
  refine ⟨⟨docF ds j, ?_, hk⟩, by omega⟩
  unfold docF
  rw [List.getD_eq_getElem?_getD, List.getElem?_eq_getElem hjl]
  exact List.getElem_mem hjl
/-- What has been read, the last symbol first. -/
def curF (l : List Int) (j k : Nat) : List Int := (List.range k).map fun t => l.getD (pathF l j t) 0 - 1
theorem cur_length (l : List Int) (j k : Nat) : (curF l j k).length = k := by simp [curF]
theorem cur_succ (l : List Int) (j k : Nat) : curF l j (k + 1) = curF l j k ++ [l.getD (pathF l j k) 0 - 1] := by simp [curF, List.range_succ]
theorem cur_at (l : List Int) (j : Nat) {k t : Nat} (h : t < k) : (curF l j k).getD t 0 = l.getD (pathF l j t) 0 - 1 := by
  unfold curF
  rw [List.getD_eq_getElem?_getD, List.getElem?_map, List.getElem?_range h]
  rfl
theorem cur_byte {l : List Int} {j k : Nat} (hj : j < l.length) (hl : ∀ x ∈ l, 0 ≤ x ∧ x ≤ 256) (hnz : ∀ t, t < k → l.getD (pathF l j t) 0 ≠ 0) : Byte1 (curF l j k) := by
  intro c hc
  unfold curF at hc
  obtain ⟨t, ht, rfl⟩ := List.mem_map.1 hc
  have h1 := hl _ (mem_of_getD (path_lt hj t))
  have h2 := hnz t (List.mem_range.1 ht)
  omega
theorem cur_chain {l : List Int} {j k : Nat} (h0 : l.getD (pathF l j k) 0 = 0) : Chain l j (curF l j k).reverse := by
  refine ⟨fun t ht => ?_, by rw [List.length_reverse, cur_length]; exact h0⟩
  rw [List.length_reverse, cur_length] at ht ⊢
  have h1 := cur_at l j (k := k) (t := t) ht
  rw [List.getD_eq_getElem?_getD (l := (curF l j k).reverse), List.getElem?_reverse (by rw [cur_length]; omega), cur_length, show k - 1 - (k - 1 - t) = t by omega, ← List.getD_eq_getElem?_getD, h1]
  omega
theorem byte1_reverse {d : List Int} (h : Byte1 d) : Byte1 d.reverse := fun c hc => h c (List.mem_reverse.1 hc)

/-! Rows of documents. -/
theorem row_doc (ds : List (List Int)) {i o : Nat} (hi : i < ds.length) (ho : o < (docF ds i).length) : (rowF ds).getD (startF ds i + o) 0 = (docF ds i).getD o 0 + 1 := by
  obtain ⟨u, h⟩ := row_drop ds i o hi (by omega)
  have e := getD_drop (rowF ds) (startF ds i + o) 0
  rw [h, Nat.add_zero, List.drop_eq_getElem_cons ho] at e
  rw [← e, List.getD_eq_getElem?_getD (l := docF ds i), List.getElem?_eq_getElem ho]
  rfl
theorem row_end (ds : List (List Int)) {i : Nat} (hi : i < ds.length) : (rowF ds).getD (startF ds i + (docF ds i).length) 0 = 0 := by
  obtain ⟨u, h⟩ := row_drop ds i (docF ds i).length hi (Nat.le_refl _)
  have e := getD_drop (rowF ds) (startF ds i + (docF ds i).length) 0
  rw [h, Nat.add_zero, List.drop_eq_nil_of_le (Nat.le_refl _)] at e
  rw [← e]
  rfl
theorem ah_doc (ds : List (List Int)) {i o : Nat} (hi : i < ds.length) (ho : o ≤ (docF ds i).length) : ahF (rowF ds) (startF ds i + o) = if o = 0 then 0 else (docF ds i).getD (o - 1) 0 + 1 := by
  unfold ahF
  by_cases h0 : o = 0
  · subst h0
    rw [if_pos rfl]
    cases i with
    | zero => rw [startF_zero, if_pos rfl]
    | succ i =>
      have := startF_succ ds (i := i) (by omega)
      rw [if_neg (by omega), this, Nat.add_zero, Nat.add_sub_cancel]
      exact row_end ds (by omega)
  · rw [if_neg (by omega), if_neg h0, show startF ds i + o - 1 = startF ds i + (o - 1) by omega]
    exact row_doc ds hi (by omega)
theorem end_lt (ds : List (List Int)) {i o : Nat} (hi : i < ds.length) (ho : o ≤ (docF ds i).length) : startF ds i + o < (r0 ds).length := by
  have h1 := startF_succ ds hi
  have h2 := startF_le ds (i + 1)
  rw [r0_length]
  omega
theorem rk_count (m : Nat) : ∀ (ds : List (List Int)) (s t : Nat), Bytes ds → t ≤ m → (rkF m s ds).countP (fun x => decide (x < (t : Int))) = min (t - s) ds.length
  | [], s, t, _, _ => by simp [rkF]
  | d :: ds, s, t, hb, ht => by
    have ih := rk_count m ds (s + 1) t (fun d h => hb d (List.mem_cons_of_mem _ h)) ht
    have h0 : (d.map (fun c => (m : Int) + (c + 1))).countP (fun x => decide (x < (t : Int))) = 0 := by
      rw [List.countP_eq_zero]
      intro x hx
      obtain ⟨c, hc, rfl⟩ := List.mem_map.1 hx
      have := (hb d (List.mem_cons_self ..) c hc).1
      simp; omega
    unfold rkF
    rw [List.countP_append, List.countP_cons, ih, h0, List.length_cons]
    by_cases h : s < t
    · have : ((s : Int) < (t : Int)) := by omega
      simp only [this, decide_true, if_true]
      omega
    · have : ¬ ((s : Int) < (t : Int)) := by omega
      simp only [this, decide_false]
      rw [if_neg (by simp)]
      omega
theorem countP_ge (r : List Int) (f : Int → Bool) : (List.range r.length).countP (fun x => f (r.getD x 0)) = r.countP f := countP_range_list r f
/-- The first rows are the documents' ends. -/
theorem sa_head {ds : List (List Int)} (hb : Bytes ds) {sa : List Nat} (h : SA (r0 ds) sa) {j : Nat} (hj : j < ds.length) : sa.getD j 0 = startF ds j + (docF ds j).length := by
  have hE := end_lt ds hj (Nat.le_refl _)
  obtain ⟨k, hk, ek⟩ := SA_at h hE
  have hrank := count_rank h hk
  rw [ek] at hrank
  have hz := row_end ds hj
  have hrl := r0_len ds
  have hr : (r0 ds).getD (startF ds j + (docF ds j).length) 0 = (j : Int) := by
    obtain ⟨u, hu⟩ := rk_drop ds.length 0 ds j (docF ds j).length hj (Nat.le_refl _)
    have e := getD_drop (r0 ds) (startF ds j + (docF ds j).length) 0
    unfold r0 at e
    rw [hu, Nat.add_zero, List.drop_eq_nil_of_le (Nat.le_refl _)] at e
    unfold r0
    rw [← e]
    simp
  generalize startF ds j + (docF ds j).length = E at *
  have hsplit : (List.range (r0 ds).length).countP (fun y => decide (ll ((r0 ds).drop y) ((r0 ds).drop E))) = (List.range (r0 ds).length).countP (fun y => decide ((r0 ds).getD y 0 < (j : Int))) := by
    apply List.countP_congr
    intro y hy
    have hy := List.mem_range.1 hy
    rw [decide_eq_true_iff, decide_eq_true_iff]
    by_cases e : y = E
    · subst e
      rw [hr]
      constructor
      · intro h; exact absurd h (ll_irrefl _)
      · intro h; omega
    · rw [List.drop_eq_getElem_cons hy, List.drop_eq_getElem_cons hE, ll_cons]
      have e1 : (r0 ds)[y] = (r0 ds).getD y 0 := by rw [List.getD_eq_getElem?_getD, List.getElem?_eq_getElem hy]; rfl
      have e2 : (r0 ds)[E] = (r0 ds).getD E 0 := by rw [List.getD_eq_getElem?_getD, List.getElem?_eq_getElem hE]; rfl
      rw [e1, e2, hr]
      constructor
      · rintro (h1 | ⟨h1, _⟩)
        · exact h1
        · exact absurd hz (r0_same hb hy hE (h1.trans hr.symm) e).2
      · exact Or.inl
  rw [hsplit, countP_ge (r0 ds) (fun x => decide (x < (j : Int)))] at hrank
  unfold r0 at hrank
  rw [rk_count _ _ _ _ hb (by omega)] at hrank
  have : k = j := by omega
  rw [← this]
  exact ek
theorem start_ge (ds : List (List Int)) : ∀ {j : Nat}, j ≤ ds.length → j ≤ startF ds j
  | 0, _ => Nat.zero_le _
  | j + 1, h => by
    have h1 := start_ge ds (j := j) (by omega)
    have h2 := startF_succ ds (i := j) (by omega)
    omega
theorem path_bw {ds : List (List Int)} (hb : Bytes ds) {sa : List Nat} (h : SA (r0 ds) sa) {j : Nat} (hj : j < ds.length) : ∀ t, t ≤ (docF ds j).length →
    sa.getD (pathF (bwF (rowF ds) sa) j t) 0 = startF ds j + ((docF ds j).length - t) ∧ pathF (bwF (rowF ds) sa) j t < (r0 ds).length
  | 0, _ => ⟨sa_head hb h hj, by
      have h1 := end_lt ds hj (o := 0) (Nat.zero_le _)
      have h2 := start_ge ds (j := j) (by omega)
      show j < _
      omega⟩
  | t + 1, ht => by
    obtain ⟨h1, h2⟩ := path_bw hb h hj t (by omega)
    have e : sa.getD (pathF (bwF (rowF ds) sa) j t) 0 = (startF ds j + ((docF ds j).length - (t + 1))) + 1 := by rw [h1]; omega
    have hne : (rowF ds).getD (startF ds j + ((docF ds j).length - (t + 1))) 0 ≠ 0 := by
      rw [row_doc ds hj (by omega)]
      have := (byte1_doc hb j ((docF ds j).getD ((docF ds j).length - (t + 1)) 0) (mem_of_getD (by omega))).1
      omega
    have hlf := lf hb h h2 e hne
    have hl : (bwF (rowF ds) sa).getD (pathF (bwF (rowF ds) sa) j t) 0 = (rowF ds).getD (startF ds j + ((docF ds j).length - (t + 1))) 0 := by
      rw [bwF_at (rowF ds) (by rw [SA_len h]; exact h2), e]
      unfold ahF
      rw [if_neg (by omega), Nat.add_sub_cancel]
    show sa.getD (nextF _ _) 0 = _ ∧ nextF _ _ < _
    unfold nextF
    rw [hl]
    exact hlf
theorem chain_bw {ds : List (List Int)} (hb : Bytes ds) {sa : List Nat} (h : SA (r0 ds) sa) {j : Nat} (hj : j < ds.length) : Chain (bwF (rowF ds) sa) j (docF ds j) := by
  have hat : ∀ t, t ≤ (docF ds j).length → (bwF (rowF ds) sa).getD (pathF (bwF (rowF ds) sa) j t) 0 = if (docF ds j).length - t = 0 then 0 else (docF ds j).getD ((docF ds j).length - t - 1) 0 + 1 := fun t ht => by
    obtain ⟨h1, h2⟩ := path_bw hb h hj t ht
    rw [bwF_at (rowF ds) (by rw [SA_len h]; exact h2), h1, ah_doc ds hj (by omega)]
  refine ⟨fun t ht => ?_, ?_⟩
  · rw [hat t (by omega), if_neg (by omega)]
    congr 2
    omega
  · rw [hat _ (Nat.le_refl _), if_pos (by omega)]
theorem bw_zeros {ds : List (List Int)} (hb : Bytes ds) {sa : List Nat} (h : SA (r0 ds) sa) : belowC (bwF (rowF ds) sa) 1 = ds.length := by
  by_cases hn : 0 < (rowF ds).length
  · unfold belowC
    rw [(bw_perm h hn).countP_eq, ← zcF_all hb]
    unfold zcF
    rw [List.take_length]
    apply List.countP_congr
    intro x hx
    obtain ⟨i, hi, rfl⟩ := List.getElem_of_mem hx
    have := (row_bounds ds hb i).1
    rw [List.getD_eq_getElem?_getD, List.getElem?_eq_getElem hi] at this
    simp only [Option.getD_some] at this
    rw [decide_eq_true_iff, beq_iff_eq]
    omega
  · have h1 : lenF ds = 0 := by rw [← rowF_length]; omega
    have h2 : ds = [] := by
      cases ds with
      | nil => rfl
      | cons d ds => simp [lenF] at h1
    subst h2
    have h3 := SA_len h
    rw [r0_length] at h3
    obtain rfl : sa = [] := List.eq_nil_of_length_eq_zero h3
    rfl
theorem pre_bw {ds : List (List Int)} (hb : Bytes ds) {sa : List Nat} (h : SA (r0 ds) sa) : PreF (bwF (rowF ds) sa) (belowC (bwF (rowF ds) sa) 1) ds ∧ lenF ds = (bwF (rowF ds) sa).length := by
  refine ⟨⟨(bw_zeros hb h).symm, hb, fun t ht => chain_bw hb h (by rwa [bw_zeros hb h] at ht)⟩, ?_⟩
  rw [bwF_length, SA_len h, r0_length]
theorem bw_bounds {ds : List (List Int)} (hb : Bytes ds) {sa : List Nat} (h : SA (r0 ds) sa) : ∀ x ∈ bwF (rowF ds) sa, 0 ≤ x ∧ x ≤ 256 := by
  intro x hx
  unfold bwF at hx
  obtain ⟨p, _, rfl⟩ := List.mem_map.1 hx
  unfold ahF
  split
  · omega
  · exact row_bounds ds hb _
end Go.Proofs.Ytadekjidjhglaaa.Sf
