/- Plain: back up from the last level to a place. -/
import Derived.Test.YtaoiljbbfcpfiaaSf
set_option linter.unusedVariables false
set_option linter.unusedSimpArgs false
namespace Go.Proofs.Ytaoiljbbfcpfiaa.Wf
/-- Down j levels from place x of level t, going c's way. -/
def fromF (l : List Int) (c : Int) : Nat → Nat → Nat → Nat
  | 0, _, x => x
  | j + 1, t, x => fromF l c j (t + 1) (downF l t (bitF c t) x)
theorem from_path (l : List Int) (c : Int) (x : Nat) : fromF l c 9 0 x = pathF l c 9 x := rfl
theorem ones_one (bs : List Bool) (p : Nat) : ones (bs.take p) ≤ ones (bs.take (p + 1)) ∧ ones (bs.take (p + 1)) ≤ ones (bs.take p) + 1 := by
  rw [List.take_add, ones_append]
  have h := ones_le ((bs.drop p).take 1)
  rw [List.length_take] at h
  omega
/-- Place a of level t lies in c's part, and leads to place q of the last. -/
def UpAt (l : List Int) (c : Int) (n q t a : Nat) : Prop := a < n ∧ fromF l c (9 - t) t a = q ∧ fromF l c (9 - t) t (a + 1) = q + 1 ∧ pathF l c t 0 ≤ a ∧ a < pathF l c t n
theorem bits_len (l : List Int) (t : Nat) : (bitsF l t).length = l.length := by unfold bitsF; rw [List.length_map, level_length]
theorem zeros_eq (l : List Int) (t : Nat) : zerosF l t = l.length - ones (bitsF l t) := by
  have h := zeros_filter t (levelF l t)
  rw [level_length] at h
  exact h.symm
theorem up_step {l : List Int} {c : Int} {n q t a p : Nat} (hl : l.length = n) (ht : t < 9) (h : UpAt l c n q (t + 1) a) (hp : p < n) (h1 : downF l t (bitF c t) p = a) (h2 : downF l t (bitF c t) (p + 1) = a + 1) : UpAt l c n q t p := by
  obtain ⟨g1, g2, g3, g4, g5⟩ := h
  have e : 9 - t = (9 - (t + 1)) + 1 := by omega
  refine ⟨hp, ?_, ?_, ?_, ?_⟩
  · rw [e, fromF, h1]; exact g2
  · rw [e, fromF, h2]; exact g3
  · rcases Nat.lt_or_ge p (pathF l c t 0) with hlt | hge
    · have hm := (path_mono l c t (Nat.zero_le n) (by omega))
      have := down_mono l t (bitF c t) (show p + 1 ≤ pathF l c t 0 from hlt) (by omega)
      rw [h2] at this
      have e2 : pathF l c (t + 1) 0 = downF l t (bitF c t) (pathF l c t 0) := rfl
      omega
    · exact hge
  · rcases Nat.lt_or_ge p (pathF l c t n) with hlt | hge
    · exact hlt
    · have := down_mono l t (bitF c t) hge (by omega)
      rw [h1] at this
      have e2 : pathF l c (t + 1) n = downF l t (bitF c t) (pathF l c t n) := rfl
      omega
theorem up_true {l : List Int} {c : Int} {n q t a : Nat} (hl : l.length = n) (ht : t < 9) (h : UpAt l c n q (t + 1) a) (hb : bitF c t = true) : zerosF l t ≤ a ∧ a - zerosF l t < ones (bitsF l t) := by
  obtain ⟨g1, g2, g3, g4, g5⟩ := h
  have e1 : pathF l c (t + 1) 0 = downF l t (bitF c t) (pathF l c t 0) := rfl
  have e2 : pathF l c (t + 1) n = downF l t (bitF c t) (pathF l c t n) := rfl
  have hm := (path_mono l c t (Nat.zero_le n) (by omega))
  have h3 := down_mono l t (bitF c t) hm.2 (Nat.le_refl _)
  rw [hb] at e1 e2 h3
  have h4 : downF l t true l.length = zerosF l t + ones (bitsF l t) := by unfold downF; rw [if_pos rfl, List.take_of_length_le (by rw [bits_len]; omega)]
  have h5 : zerosF l t ≤ downF l t true (pathF l c t 0) := by unfold downF; rw [if_pos rfl]; omega
  omega
theorem up_false {l : List Int} {c : Int} {n q t a : Nat} (hl : l.length = n) (ht : t < 9) (h : UpAt l c n q (t + 1) a) (hb : bitF c t = false) : a < n - ones (bitsF l t) := by
  obtain ⟨g1, g2, g3, g4, g5⟩ := h
  have e2 : pathF l c (t + 1) n = downF l t (bitF c t) (pathF l c t n) := rfl
  have hm := (path_mono l c t (Nat.zero_le n) (by omega))
  have h3 := down_mono l t (bitF c t) hm.2 (Nat.le_refl _)
  rw [hb] at e2 h3
  have h4 : downF l t false l.length = n - ones (bitsF l t) := by unfold downF; rw [if_neg (by decide), List.take_of_length_le (by rw [bits_len]; omega), hl]
  omega
theorem up_true_of {l : List Int} {c : Int} {n q t a p : Nat} (hl : l.length = n) (ht : t < 9) (h : UpAt l c n q (t + 1) a) (hb : bitF c t = true) (hp : p < n) (h1 : ones ((bitsF l t).take p) ≤ a - zerosF l t) (h2 : a - zerosF l t < ones ((bitsF l t).take (p + 1))) : UpAt l c n q t p := by
  have h3 := ones_one (bitsF l t) p
  have h4 := up_true hl ht h hb
  refine up_step hl ht h hp ?_ ?_
  · rw [hb]; unfold downF; rw [if_pos rfl]; omega
  · rw [hb]; unfold downF; rw [if_pos rfl]; omega
theorem up_false_of {l : List Int} {c : Int} {n q t a p : Nat} (hl : l.length = n) (ht : t < 9) (h : UpAt l c n q (t + 1) a) (hb : bitF c t = false) (hp : p < n) (h1 : p - ones ((bitsF l t).take p) ≤ a) (h2 : a < p + 1 - ones ((bitsF l t).take (p + 1))) : UpAt l c n q t p := by
  have h3 := ones_one (bitsF l t) p
  have h4 := ones_le ((bitsF l t).take p)
  rw [List.length_take] at h4
  refine up_step hl ht h hp ?_ ?_
  · rw [hb]; unfold downF; rw [if_neg (by decide)]; omega
  · rw [hb]; unfold downF; rw [if_neg (by decide)]; omega
end Go.Proofs.Ytaoiljbbfcpfiaa.Wf
