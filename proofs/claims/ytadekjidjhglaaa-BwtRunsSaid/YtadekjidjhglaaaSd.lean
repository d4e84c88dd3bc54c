/- Plain: a document more (SuffixMore). -/
import Derived.Test.YtadekjidjhglaaaSc
namespace Go.Proofs.Ytadekjidjhglaaa.Sf

theorem hit_of (ds : List (List Int)) {p : Nat} (hp : p < lenF ds) : ∃ h, h ∈ hitsF 0 ds ∧ placeF ds h = p := by
  have : p ∈ (hitsF 0 ds).map (placeF ds) := by rw [place_hits]; exact List.mem_range.2 hp
  obtain ⟨h, h1, h2⟩ := List.mem_map.1 this
  exact ⟨h, h1, h2⟩
theorem hit_lt (ds : List (List Int)) {h : Nat × Nat} (hh : h ∈ hitsF 0 ds) : placeF ds h < lenF ds := by
  have : placeF ds h ∈ (hitsF 0 ds).map (placeF ds) := List.mem_map.2 ⟨h, hh, rfl⟩
  rw [place_hits] at this
  exact List.mem_range.1 this
theorem docF_append (a b : List (List Int)) {i : Nat} (h : i < a.length) : docF (a ++ b) i = docF a i := by
  unfold docF
  rw [List.getD_eq_getElem?_getD, List.getElem?_append_left h, List.getD_eq_getElem?_getD]
theorem hit_append {a b : List (List Int)} {h : Nat × Nat} (hh : h ∈ hitsF 0 a) : h ∈ hitsF 0 (a ++ b) ∧ placeF (a ++ b) h = placeF a h := by
  rw [mem_hitsF] at hh
  simp only [Nat.zero_le, Nat.zero_add, Nat.sub_zero, true_and] at hh
  refine ⟨?_, ?_⟩
  · rw [mem_hitsF]
    simp only [Nat.zero_le, Nat.zero_add, Nat.sub_zero, true_and]
    rw [docF_append a b hh.1, List.length_append]
    exact ⟨by omega, hh.2⟩
  · unfold placeF startF
    rw [List.take_append_of_le_length (by omega)]
theorem hless_append {a b : List (List Int)} {x y : Nat × Nat} (hx : x ∈ hitsF 0 a) (hy : y ∈ hitsF 0 a) : hless (a ++ b) x y ↔ hless a x y := by
  rw [mem_hitsF] at hx hy
  simp only [Nat.zero_le, Nat.zero_add, Nat.sub_zero, true_and] at hx hy
  unfold hless
  rw [docF_append a b hx.1, docF_append a b hy.1]
theorem bytes_append {a b : List (List Int)} (ha : Bytes a) (hb : Bytes b) : Bytes (a ++ b) := by
  intro d hd
  rcases List.mem_append.1 hd with h | h
  · exact ha d h
  · exact hb d h
/-- A document more changes nothing in the order of the others' places. -/
theorem more {l : List (List Int)} {d : List (List Int)} {a all : List Nat} (hb : Bytes (l ++ d)) (ha : SA (r0 l) a) (hall : SA (r0 (l ++ d)) all) :
    all.filter (fun p => decide (p < lenF l)) = a := by
  have hbl : Bytes l := fun x hx => hb x (List.mem_append.2 (.inl hx))
  refine SA_unique (r := r0 l) ⟨?_, ?_⟩ ha
  · rw [r0_length]
    have h1 := hall.1.filter (fun p => decide (p < lenF l))
    refine h1.trans ?_
    rw [r0_length, lenF_append, List.range_add, List.filter_append]
    have e1 : (List.range (lenF l)).filter (fun p => decide (p < lenF l)) = List.range (lenF l) := List.filter_eq_self.2 (fun x hx => by simpa using List.mem_range.1 hx)
    have e2 : ((List.range (lenF d)).map (lenF l + ·)).filter (fun p => decide (p < lenF l)) = [] := by
      rw [List.filter_eq_nil_iff]
      intro x hx
      obtain ⟨y, _, rfl⟩ := List.mem_map.1 hx
      simp
    rw [e1, e2, List.append_nil]
  · refine List.Pairwise.imp_of_mem ?_ (hall.2.filter _)
    intro p q hp hq h
    have hp' : p < lenF l := by simpa using (List.mem_filter.1 hp).2
    have hq' : q < lenF l := by simpa using (List.mem_filter.1 hq).2
    obtain ⟨x, hx, rfl⟩ := hit_of l hp'
    obtain ⟨y, hy, rfl⟩ := hit_of l hq'
    rw [ll_hits hbl hx hy, ← hless_append (b := d) hx hy, ← ll_hits hb (hit_append hx).1 (hit_append hy).1, (hit_append hx).2, (hit_append hy).2]
    exact h
end Go.Proofs.Ytadekjidjhglaaa.Sf
