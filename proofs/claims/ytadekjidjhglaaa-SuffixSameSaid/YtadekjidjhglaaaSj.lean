/- Plain: the same document twice. -/
import Derived.Test.YtadekjidjhglaaaSi
set_option linter.unusedVariables false
set_option linter.unusedSimpArgs false
namespace Go.Proofs.Ytadekjidjhglaaa.Sf
def twoF (os : List Nat) : List (Nat × Nat) := os.flatMap fun o => [(0, o), (1, o)]
theorem twoF_perm (os : List Nat) : (twoF os).Perm (os.map (fun o => (0, o)) ++ os.map (fun o => (1, o))) := by
  induction os with
  | nil => exact .refl _
  | cons o os ih =>
    show ((0, o) :: (1, o) :: twoF os).Perm ((0, o) :: (os.map (fun o => (0, o)) ++ (1, o) :: os.map (fun o => (1, o))))
    refine List.Perm.cons _ ?_
    refine (List.Perm.cons _ ih).trans ?_
    exact (List.perm_middle (a := (1, o)) (l₁ := os.map (fun o => (0, o))) (l₂ := os.map (fun o => (1, o)))).symm
theorem twoF_at : ∀ (os : List Nat) (i : Nat), i < os.length → (twoF os).getD (2 * i) (0, 0) = (0, os.getD i 0) ∧ (twoF os).getD (2 * i + 1) (0, 0) = (1, os.getD i 0)
  | [], i, h => by simp at h
  | o :: os, 0, _ => ⟨rfl, rfl⟩
  | o :: os, i + 1, h => by
    have ih := twoF_at os i (by simpa using h)
    have e : twoF (o :: os) = (0, o) :: (1, o) :: twoF os := rfl
    rw [e, show 2 * (i + 1) = 2 * i + 1 + 1 by omega, show 2 * i + 1 + 1 + 1 = (2 * i + 1) + 1 + 1 by omega]
    simp only [List.getD_cons_succ]
    exact ih
theorem twoF_length (os : List Nat) : (twoF os).length = 2 * os.length := by
  rw [(twoF_perm os).length_eq]; simp; omega
theorem hits_one (d : List Int) : hitsF 0 [d] = (List.range (d.length + 1)).map fun o => (0, o) := by simp [hitsF]
theorem hits_two (d : List Int) : hitsF 0 [d, d] = (List.range (d.length + 1)).map (fun o => (0, o)) ++ (List.range (d.length + 1)).map fun o => (1, o) := by simp [hitsF]
theorem same_sorted {d : List Int} (hb : Bytes [d]) {r : List (Nat × Nat)} (hs : Sorted [d] r) : Sorted [d, d] (twoF (r.map (·.2))) := by
  have hz : ∀ x ∈ r, x.1 = 0 := by
    intro x hx
    have := hs.1.subset hx
    rw [hits_one] at this
    obtain ⟨o, _, rfl⟩ := List.mem_map.1 this
    rfl
  have hp : (r.map (·.2)).Perm (List.range (d.length + 1)) := by
    have := hs.1.map (·.2)
    rw [hits_one, List.map_map] at this
    refine this.trans ?_
    have e : ((fun x : Nat × Nat => x.2) ∘ fun o => ((0 : Nat), o)) = id := rfl
    rw [e, List.map_id]
  refine ⟨(twoF_perm _).trans ?_, ?_⟩
  · rw [hits_two]
    exact (hp.map _).append (hp.map _)
  · have h2 : (r.map (·.2)).Pairwise (fun a b => ll (d.drop a) (d.drop b)) := by
      rw [List.pairwise_map]
      refine List.Pairwise.imp_of_mem ?_ hs.2
      intro a b ha hb' h
      unfold hless at h
      rw [hz a ha, hz b hb'] at h
      rcases h with h | ⟨_, h⟩
      · exact h
      · omega
    generalize r.map (·.2) = os at h2
    induction os with
    | nil => exact .nil
    | cons o os ih =>
      rw [List.pairwise_cons] at h2
      have hh : ∀ (i j a b : Nat), i ≤ 1 → j ≤ 1 → ll (d.drop a) (d.drop b) → hless [d, d] (i, a) (j, b) := by
        intro i j a b hi hj h
        left
        have e : ∀ k, k ≤ 1 → docF [d, d] k = d := by
          intro k hk
          match k, hk with
          | 0, _ => rfl
          | 1, _ => rfl
        show ll ((docF [d, d] i).drop a) ((docF [d, d] j).drop b)
        rw [e i hi, e j hj]
        exact h
      have hm : ∀ x ∈ twoF os, x.1 ≤ 1 ∧ x.2 ∈ os := by
        intro x hx
        obtain ⟨a, ha, hx⟩ := List.mem_flatMap.1 hx
        simp only [List.mem_cons, List.not_mem_nil, or_false] at hx
        rcases hx with rfl | rfl
        · exact ⟨by omega, ha⟩
        · exact ⟨by omega, ha⟩
      show ((0, o) :: (1, o) :: twoF os).Pairwise _
      rw [List.pairwise_cons, List.pairwise_cons]
      refine ⟨fun x hx => ?_, fun x hx => ?_, ih h2.2⟩
      · rcases List.mem_cons.1 hx with rfl | hx
        · right
          exact ⟨rfl, by omega⟩
        · exact hh 0 x.1 o x.2 (by omega) (hm x hx).1 (h2.1 x.2 (hm x hx).2)
      · exact hh 1 x.1 o x.2 (by omega) (hm x hx).1 (h2.1 x.2 (hm x hx).2)
theorem same_at {d : List Int} (hb : Bytes [d]) {sa : List Nat} (hs : SA (r0 [d, d]) sa) : ∃ os : List Nat, ∀ i, i < d.length + 1 →
    sa.getD (2 * i) 0 = placeF [d, d] (0, os.getD i 0) ∧ (0, os.getD i 0) ∈ hitsF 0 [d, d] ∧ sa.getD (2 * i + 1) 0 = placeF [d, d] (1, os.getD i 0) ∧ (1, os.getD i 0) ∈ hitsF 0 [d, d] := by
  obtain ⟨r, hr⟩ := rows_exist (ds := [d])
  have h2 := same_sorted hb hr
  have hb2 : Bytes [d, d] := by
    intro x hx
    exact hb x (by simpa using hx)
  have e := rows_SA hb2 h2 hs
  have hrl : (r.map (·.2)).length = d.length + 1 := by
    rw [List.length_map, hr.1.length_eq, hits_one]; simp
  refine ⟨r.map (·.2), fun i hi => ?_⟩
  have hat := twoF_at (r.map (·.2)) i (by omega)
  have hl := twoF_length (r.map (·.2))
  have hg : ∀ t, t < (twoF (r.map (·.2))).length → sa.getD t 0 = placeF [d, d] ((twoF (r.map (·.2))).getD t (0, 0)) ∧ (twoF (r.map (·.2))).getD t (0, 0) ∈ hitsF 0 [d, d] := by
    intro t ht
    rw [e, List.getD_eq_getElem?_getD, List.getElem?_map, List.getD_eq_getElem?_getD, List.getElem?_eq_getElem ht]
    exact ⟨rfl, h2.1.subset (List.getElem_mem ht)⟩
  have g1 := hg (2 * i) (by omega)
  have g2 := hg (2 * i + 1) (by omega)
  rw [hat.1] at g1
  rw [hat.2] at g2
  exact ⟨g1.1, g1.2, g2.1, g2.2⟩
end Go.Proofs.Ytadekjidjhglaaa.Sf
