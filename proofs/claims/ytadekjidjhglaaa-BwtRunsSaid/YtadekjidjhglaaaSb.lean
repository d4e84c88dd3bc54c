/- Plain lemmas: ranks by symbols. -/
import Derived.Test.YtadekjidjhglaaaSa
namespace Go.Proofs.Ytadekjidjhglaaa.Sf

/-- How many of the first p symbols are noughts. -/
def zcF (row : List Int) (p : Nat) : Nat := (row.take p).countP (fun c => c == 0)

theorem zcF_zero (row : List Int) : zcF row 0 = 0 := by simp [zcF]
theorem zcF_succ (row : List Int) {p : Nat} (h : p < row.length) : zcF row (p + 1) = zcF row p + if row.getD p 0 = 0 then 1 else 0 := by
  unfold zcF
  rw [List.take_succ_eq_append_getElem h, List.countP_append, List.getD_eq_getElem?_getD, List.getElem?_eq_getElem h]
  simp [List.countP_cons]

theorem getD_append_left {a b : List Int} {p : Nat} (h : p < a.length) : (a ++ b).getD p 0 = a.getD p 0 := by
  rw [List.getD_eq_getElem?_getD, List.getElem?_append_left h, List.getD_eq_getElem?_getD]
theorem getD_append_right {a b : List Int} {p : Nat} (h : a.length ≤ p) : (a ++ b).getD p 0 = b.getD (p - a.length) 0 := by
  rw [List.getD_eq_getElem?_getD, List.getElem?_append_right h, List.getD_eq_getElem?_getD]

theorem getD_map_lt {a : List Int} (f : Int → Int) {p : Nat} (h : p < a.length) : (a.map f).getD p 0 = f (a.getD p 0) := by
  rw [List.getD_eq_getElem?_getD, List.getElem?_map, List.getD_eq_getElem?_getD, List.getElem?_eq_getElem h]; rfl

theorem countP_map_succ (d : List Int) (h : ∀ c ∈ d, 0 ≤ c) : (d.map (· + 1)).countP (fun c => c == 0) = 0 := by
  rw [List.countP_eq_zero]
  intro c hc
  obtain ⟨b, hb, rfl⟩ := List.mem_map.1 hc
  have := h b hb
  simp; omega

theorem mem_of_getD {d : List Int} {p : Nat} (h : p < d.length) : d.getD p 0 ∈ d := by
  rw [List.getD_eq_getElem?_getD, List.getElem?_eq_getElem h]; exact List.getElem_mem h

theorem rk_at (m j : Nat) (ds : List (List Int)) (hb : Bytes ds) : ∀ p, p < (rowF ds).length →
    ((rowF ds).getD p 0 = 0 → (rkF m j ds).getD p 0 = ((j + zcF (rowF ds) p : Nat) : Int)) ∧ ((rowF ds).getD p 0 ≠ 0 → (rkF m j ds).getD p 0 = (m : Int) + (rowF ds).getD p 0) := by
  induction ds generalizing j with
  | nil => intro p h; simp [rowF] at h
  | cons d ds ih =>
    intro p h
    have hd : ∀ c ∈ d, 0 ≤ c := fun c hc => (hb d (by simp) c hc).1
    have er : rowF (d :: ds) = d.map (· + 1) ++ 0 :: rowF ds := rfl
    have ek : rkF m j (d :: ds) = d.map (fun c => (m : Int) + (c + 1)) ++ (j : Int) :: rkF m (j + 1) ds := rfl
    rw [er] at h ⊢
    rw [ek]
    by_cases h1 : p < d.length
    · rw [getD_append_left (by simpa using h1), getD_append_left (by simpa using h1), getD_map_lt _ h1, getD_map_lt _ h1]
      have := hd _ (mem_of_getD h1)
      exact ⟨fun e => by omega, fun _ => rfl⟩
    · rw [getD_append_right (by simp; omega), getD_append_right (by simp; omega)]
      simp only [List.length_map]
      have hz : ∀ q, zcF (d.map (· + 1) ++ 0 :: rowF ds) (d.length + (q + 1)) = 1 + zcF (rowF ds) q := by
        intro q
        unfold zcF
        rw [List.take_append, List.countP_append, List.take_of_length_le (by simp), countP_map_succ _ hd]
        simp only [List.length_map, show d.length + (q + 1) - d.length = q + 1 by omega, List.take_succ_cons, List.countP_cons]
        simp; omega
      cases e : p - d.length with
      | zero =>
        have hp : p = d.length := by omega
        subst hp
        simp only [List.getD_cons_zero]
        refine ⟨fun _ => ?_, fun h => absurd rfl h⟩
        have : zcF (d.map (· + 1) ++ 0 :: rowF ds) d.length = 0 := by
          unfold zcF
          rw [List.take_append_of_le_length (by simp), List.take_of_length_le (by simp), countP_map_succ _ hd]
        rw [this]
        rfl
      | succ q =>
        simp only [List.getD_cons_succ]
        have hp : p = d.length + (q + 1) := by omega
        rw [hp, hz]
        have := ih (j + 1) (fun d hd => hb d (by simp [hd])) q (by simp at h; omega)
        exact ⟨fun e => by rw [this.1 e]; omega, this.2⟩
theorem r0_at0 (ds : List (List Int)) (hb : Bytes ds) {p : Nat} (h : p < (rowF ds).length) (e : (rowF ds).getD p 0 = 0) : (r0 ds).getD p 0 = (zcF (rowF ds) p : Int) := by
  have := (rk_at ds.length 0 ds hb p h).1 e
  rwa [Nat.zero_add] at this
theorem r0_at1 (ds : List (List Int)) (hb : Bytes ds) {p : Nat} (h : p < (rowF ds).length) (e : (rowF ds).getD p 0 ≠ 0) : (r0 ds).getD p 0 = (ds.length : Int) + (rowF ds).getD p 0 :=
  (rk_at ds.length 0 ds hb p h).2 e
theorem take_snoc (l : List Int) {p : Nat} (h : p < l.length) : l.take (p + 1) = l.take p ++ [l.getD p 0] := by
  rw [List.take_succ_eq_append_getElem h, List.getD_eq_getElem?_getD, List.getElem?_eq_getElem h]; rfl
theorem row_bounds (ds : List (List Int)) (hb : Bytes ds) : ∀ p, 0 ≤ (rowF ds).getD p 0 ∧ (rowF ds).getD p 0 ≤ 256 := by
  have : ∀ c ∈ rowF ds, 0 ≤ c ∧ c ≤ 256 := by
    induction ds with
    | nil => simp [rowF]
    | cons d ds ih =>
      intro c hc
      simp only [rowF, List.mem_append, List.mem_map, List.mem_cons] at hc
      rcases hc with ⟨b, h, rfl⟩ | rfl | h
      · have := hb d (by simp) b h; omega
      · omega
      · exact ih (fun d hd => hb d (by simp [hd])) c h
  intro p
  by_cases h : p < (rowF ds).length
  · exact this _ (mem_of_getD h)
  · rw [List.getD_eq_getElem?_getD, List.getElem?_eq_none (by omega)]; simp
theorem zcF_le (row : List Int) (p : Nat) : zcF row p ≤ p := by
  unfold zcF
  exact Nat.le_trans List.countP_le_length (by simp; omega)
end Go.Proofs.Ytadekjidjhglaaa.Sf
namespace Go.Proofs.Ytadekjidjhglaaa.Sf
theorem rowF_append (a b : List (List Int)) : rowF (a ++ b) = rowF a ++ rowF b := by
  induction a with
  | nil => rfl
  | cons d a ih => simp [rowF, ih]
theorem rowF_take_succ (ds : List (List Int)) {i : Nat} (h : i < ds.length) : rowF (ds.take (i + 1)) = rowF (ds.take i) ++ (docF ds i).map (· + 1) ++ [0] := by
  rw [List.take_succ_eq_append_getElem h, rowF_append]
  have e : docF ds i = ds[i] := by unfold docF; rw [List.getD_eq_getElem?_getD, List.getElem?_eq_getElem h]; rfl
  rw [e]
  simp [rowF]
theorem take_succ_doc (ds : List (List Int)) {i : Nat} (h : i < ds.length) : ds.take (i + 1) = ds.take i ++ [docF ds i] := by
  have e : docF ds i = ds[i] := by unfold docF; rw [List.getD_eq_getElem?_getD, List.getElem?_eq_getElem h]; rfl
  rw [List.take_succ_eq_append_getElem h, e]
end Go.Proofs.Ytadekjidjhglaaa.Sf
