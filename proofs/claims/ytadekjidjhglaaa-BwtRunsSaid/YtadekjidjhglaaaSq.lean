/- Plain: the runs of a row. -/
namespace Go.Proofs.Ytadekjidjhglaaa.Sf
def rl : List Int → List (Int × Int)
  | [] => []
  | x :: xs => match rl xs with
    | (y, n) :: rest => if y = x then (y, n + 1) :: rest else (x, 1) :: (y, n) :: rest
    | [] => [(x, 1)]
theorem rl_cons (x : Int) (xs : List Int) : ∃ n rest, rl (x :: xs) = (x, n) :: rest := by
  simp only [rl]
  split
  · split
    · rename_i h; subst h; exact ⟨_, _, rfl⟩
    · exact ⟨_, _, rfl⟩
  · exact ⟨_, _, rfl⟩
theorem rl_run (x : Int) (m : List Int) (h : m.head? ≠ some x) : ∀ k : Nat, rl (List.replicate (k + 1) x ++ m) = (x, (k : Int) + 1) :: rl m
  | 0 => by
    cases m with
    | nil => rfl
    | cons y ys =>
      obtain ⟨n, rest, e⟩ := rl_cons y ys
      have hne : y ≠ x := by intro hh; exact h (by simp [hh])
      show rl (x :: y :: ys) = _
      rw [rl, e]
      simp [hne]
  | k + 1 => by
    have ih := rl_run x m h k
    rw [List.replicate_succ, List.cons_append, rl, ih]
    simp
def expand (rs : List (Int × Int)) : List Int := rs.flatMap (fun p => List.replicate p.2.toNat p.1)
theorem expand_nil : expand [] = [] := rfl
theorem expand_cons (p : Int × Int) (rs : List (Int × Int)) : expand (p :: rs) = List.replicate p.2.toNat p.1 ++ expand rs := by simp [expand]
theorem expand_append (a b : List (Int × Int)) : expand (a ++ b) = expand a ++ expand b := by simp [expand]
def adj : List (Int × Int) → Prop
  | a :: b :: r => a.1 ≠ b.1 ∧ adj (b :: r)
  | _ => True
theorem rl_ok : ∀ l : List Int, expand (rl l) = l ∧ (∀ p ∈ rl l, 1 ≤ p.2) ∧ adj (rl l)
  | [] => ⟨rfl, by simp [rl], trivial⟩
  | x :: xs => by
    obtain ⟨h1, h2, h3⟩ := rl_ok xs
    rw [rl]
    cases hr : rl xs with
    | nil =>
      rw [hr] at h1
      have hxs : xs = [] := by rw [← h1]; rfl
      subst hxs
      exact ⟨rfl, by simp, trivial⟩
    | cons p rest =>
      obtain ⟨y, n⟩ := p
      rw [hr] at h1 h2 h3
      have hn : 1 ≤ n := h2 (y, n) (by simp)
      by_cases e : y = x
      · subst e
        simp only [if_true]
        refine ⟨?_, ?_, ?_⟩
        · rw [expand_cons] at h1 ⊢
          have e2 : (n + 1).toNat = n.toNat + 1 := by omega
          dsimp only at h1 ⊢
          rw [e2, List.replicate_succ, List.cons_append, h1]
        · intro p hp
          rcases List.mem_cons.1 hp with rfl | hp
          · dsimp only; omega
          · exact h2 p (List.mem_cons_of_mem _ hp)
        · cases rest with
          | nil => trivial
          | cons q qs => exact h3
      · simp only [e, if_false]
        refine ⟨?_, ?_, ?_⟩
        · rw [expand_cons, h1]; rfl
        · intro p hp
          rcases List.mem_cons.1 hp with rfl | hp
          · exact Int.le_refl 1
          · exact h2 p hp
        · exact ⟨fun hh => e hh.symm, h3⟩
theorem adj_getD : ∀ {rs : List (Int × Int)}, adj rs → ∀ i, i + 1 < rs.length → (rs.map Prod.fst).getD (i + 1) 0 ≠ (rs.map Prod.fst).getD i 0
  | [], _, i, h => by simp at h
  | [_], _, i, h => by simp at h
  | a :: b :: r, hA, 0, _ => by simpa using fun e => hA.1 e.symm
  | a :: b :: r, hA, i + 1, h => by
    have := adj_getD (rs := b :: r) hA.2 i (by simpa using h)
    simpa using this
theorem expand_le {rs : List (Int × Int)} {p : Int × Int} (h : p ∈ rs) : p.2.toNat ≤ (expand rs).length := by
  obtain ⟨a, b, rfl⟩ := List.append_of_mem h
  rw [expand_append, expand_cons]
  simp
  omega
theorem expand_len {rs : List (Int × Int)} (h : ∀ p ∈ rs, 1 ≤ p.2) : rs.length ≤ (expand rs).length := by
  induction rs with
  | nil => simp
  | cons p rs ih =>
    have h1 := h p (by simp)
    have h2 := ih (fun q hq => h q (List.mem_cons_of_mem _ hq))
    rw [expand_cons]
    simp
    omega
theorem rl_len (l : List Int) : (rl l).length ≤ l.length := by
  have h := rl_ok l
  have := expand_len h.2.1
  rw [h.1] at this
  exact this
theorem rl_bound {l : List Int} {i : Nat} (hi : i < (rl l).length) : 1 ≤ ((rl l).map Prod.snd).getD i 0 ∧ ((rl l).map Prod.snd).getD i 0 ≤ l.length := by
  have h := rl_ok l
  have hm : (rl l)[i] ∈ rl l := List.getElem_mem hi
  have h1 := h.2.1 _ hm
  have h2 := expand_le hm
  rw [h.1] at h2
  have e : ((rl l).map Prod.snd).getD i 0 = (rl l)[i].2 := by simp [List.getD_eq_getElem?_getD, List.getElem?_eq_getElem hi]
  rw [e]
  omega
theorem expand_take {l : List Int} {i : Nat} (hi : i < (rl l).length) : expand ((rl l).take (i + 1)) = expand ((rl l).take i) ++ List.replicate (((rl l).map Prod.snd).getD i 0).toNat (((rl l).map Prod.fst).getD i 0) := by
  have e1 : ((rl l).map Prod.snd).getD i 0 = (rl l)[i].2 := by simp [List.getD_eq_getElem?_getD, List.getElem?_eq_getElem hi]
  have e2 : ((rl l).map Prod.fst).getD i 0 = (rl l)[i].1 := by simp [List.getD_eq_getElem?_getD, List.getElem?_eq_getElem hi]
  rw [e1, e2, List.take_succ_eq_append_getElem hi, expand_append, expand_cons]
  simp [expand_nil]
theorem expand_take_le (l : List Int) (i : Nat) : (expand ((rl l).take i)).length ≤ l.length := by
  have h := (rl_ok l).1
  have h2 : expand ((rl l).take i) ++ expand ((rl l).drop i) = l := by rw [← expand_append, List.take_append_drop, h]
  have h3 := congrArg List.length h2
  rw [List.length_append] at h3
  omega
theorem expand_all (l : List Int) : expand ((rl l).take (rl l).length) = l := by rw [List.take_length]; exact (rl_ok l).1
theorem drop_run {l : List Int} {x : Int} {a e : Nat} (hae : a ≤ e) (he : e ≤ l.length) (h : ∀ t, a ≤ t → t < e → l.getD t 0 = x) : l.drop a = List.replicate (e - a) x ++ l.drop e := by
  apply List.ext_getElem
  · simp; omega
  · intro i h1 h2
    simp at h1
    rw [List.getElem_append]
    split
    · rename_i h3
      simp at h3
      have := h (a + i) (by omega) (by omega)
      rw [List.getD_eq_getElem?_getD, List.getElem?_eq_getElem (by omega)] at this
      simpa using this
    · rename_i h3
      simp at h3
      simp only [List.getElem_drop, List.length_replicate]
      congr 1
      omega
theorem rl_round {l : List Int} {a e : Nat} (hae : a < e) (he : e ≤ l.length) (h : ∀ t, a ≤ t → t < e → l.getD t 0 = l.getD a 0) (hs : e < l.length → l.getD e 0 ≠ l.getD a 0) :
    rl (l.drop a) = (l.getD a 0, (e : Int) - a) :: rl (l.drop e) := by
  rw [drop_run (by omega) he h]
  obtain ⟨k, hk⟩ : ∃ k, e - a = k + 1 := ⟨e - a - 1, by omega⟩
  have hc : (k : Int) + 1 = (e : Int) - a := by omega
  rw [hk, rl_run, hc]
  rw [List.head?_drop]
  intro hh
  by_cases h1 : e < l.length
  · apply hs h1
    rw [List.getD_eq_getElem?_getD, hh]
    rfl
  · rw [List.getElem?_eq_none (by omega)] at hh
    cases hh
end Go.Proofs.Ytadekjidjhglaaa.Sf
