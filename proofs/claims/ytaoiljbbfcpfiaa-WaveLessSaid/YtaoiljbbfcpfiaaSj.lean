/- Plain: Row answers, and its symbols are at most 256. -/
import Derived.Test.YtaoiljbbfcpfiaaPa
import Derived.Test.YtaoiljbbfcpfiaaSf
set_option linter.unusedVariables false
set_option linter.unusedSimpArgs false
namespace Go.Proofs.Ytaoiljbbfcpfiaa.Wf
open Go Go.RowKit Go.Proofs Go.Proofs.Ytaoiljbbfcpfiaa Go.Proofs.YtaoiljbbfcpfiaaW.PrintWords Go.Proofs.YtaoiljbbfcpfiaaW.PrintLast Go.Proofs.YtaoiljbbfcpfiaaW.PrintMore
theorem and3 (x : Int) (h0 : 0 ≤ x) (h1 : x < 65536) : Go.bits .and .u16 x 3 = x % 4 := by
  have hk : ∀ n : Int, 0 ≤ n → n < 2 ^ 16 → IntKind.u16.wrap n = n := fun n a b => by rw [IntKind.wrap_u16]; omega
  have h := bits_mask .u16 16 (by decide) hk 2 (by decide) x h0 (by omega)
  exact h
theorem row_f (l0 : List Int) (hb : ∀ x ∈ l0, 0 ≤ x ∧ x ≤ 255) (a1 : Int) (ha : 0 ≤ a1 ∧ a1 ≤ 2047) : ∀ (m : Nat) (i : Int) (xs : List Int), 0 ≤ i → i ≤ a1 → (a1 - i).toNat ≤ m → (xs.length : Int) = i → (∀ x ∈ xs, 0 ≤ x ∧ x ≤ 256) →
    ∃ r, concordancelaw8_Row.l0 (2 * m + 2) l0 a1 xs i = some r ∧ (∀ x ∈ r, 0 ≤ x ∧ x ≤ 256) ∧ (r.length : Int) ≤ a1 := by
  intro m
  induction m with
  | zero =>
    intro i xs h0 h1 h2 h3 h4
    have hn : ¬ i < a1 := by omega
    exact ⟨xs, by simp [concordancelaw8_Row.l0, concordancelaw8_Row.j1, hn], h4, by omega⟩
  | succ m ih =>
    intro i xs h0 h1 h2 h3 h4
    by_cases hlt : i < a1
    · by_cases hl : (l0.length : Int) > 0
      · have hm0 : 0 ≤ Int.tmod i (l0.length : Int) := by rw [Int.tmod_eq_emod_of_nonneg h0]; exact Int.emod_nonneg _ (by omega)
        have hm1 : Int.tmod i (l0.length : Int) < (l0.length : Int) := by rw [Int.tmod_eq_emod_of_nonneg h0]; exact Int.emod_lt_of_pos _ hl
        have hx : 0 ≤ rd l0 (Int.tmod i (l0.length : Int)) ∧ rd l0 (Int.tmod i (l0.length : Int)) ≤ 255 := by
          unfold rd
          rw [List.getD_eq_getElem?_getD, List.getElem?_eq_getElem (by omega)]
          exact hb _ (List.getElem_mem _)
        have hwx : IntKind.u16.wrap (rd l0 (Int.tmod i (l0.length : Int))) = rd l0 (Int.tmod i (l0.length : Int)) := by rw [IntKind.wrap_u16]; omega
        have hwi : wrap64 (i + 1) = i + 1 := by unfold wrap64; omega
        have hlen : xs.length < 70368744177664 := by omega
        have hgo : ∀ c : Int, 0 ≤ c ∧ c ≤ 256 → ∃ r, concordancelaw8_Row.l0 (2 * m + 2) l0 a1 (xs ++ [c]) (i + 1) = some r ∧ (∀ x ∈ r, 0 ≤ x ∧ x ≤ 256) ∧ (r.length : Int) ≤ a1 := fun c hc =>
          ih (i + 1) (xs ++ [c]) (by omega) (by omega) (by omega) (by simp; omega) (fun x hx => by
            rw [List.mem_append, List.mem_singleton] at hx
            rcases hx with hx | rfl
            · exact h4 x hx
            · exact hc)
        have ha3 := and3 _ hx.1 (by omega)
        rw [show 2 * (m + 1) + 2 = (2 * m + 2) + 1 + 1 by omega, concordancelaw8_Row.l0, if_pos hlt, concordancelaw8_Row.j1, if_pos (decide_eq_true hl), if_neg (by omega), if_pos hm0, if_pos hm1, hwx, hwi, ha3]
        simp only [if_pos hlen]
        generalize rd l0 (Int.tmod i (l0.length : Int)) = x at *
        split
        · split
          · exact hgo 256 (by omega)
          · exact hgo _ (by omega)
        · split
          · exact hgo 256 (by omega)
          · exact hgo _ (by omega)
      · rw [show 2 * (m + 1) + 2 = (2 * m + 2) + 1 + 1 by omega, concordancelaw8_Row.l0, if_pos hlt, concordancelaw8_Row.j1, if_neg (by simpa using hl)]
        exact ⟨xs, rfl, h4, by omega⟩
    · rw [show 2 * (m + 1) + 2 = (2 * m + 2) + 1 + 1 by omega, concordancelaw8_Row.l0, if_neg hlt, concordancelaw8_Row.j1, if_neg (by decide)]
      exact ⟨xs, rfl, h4, by omega⟩
theorem row_some (l0 : List Int) (hb : ∀ x ∈ l0, 0 ≤ x ∧ x ≤ 255) (a1 : Int) (ha : 0 ≤ a1 ∧ a1 ≤ 2047) : ∃ k r, concordancelaw8_Row.f k l0 a1 = some r ∧ (∀ x ∈ r, 0 ≤ x ∧ x ≤ 256) ∧ r.length ≤ 2047 := by
  obtain ⟨r, h1, h2, h3⟩ := row_f l0 hb a1 ha (a1 - 0).toNat 0 [] (by omega) (by omega) (Nat.le_refl _) rfl (by simp)
  exact ⟨_, r, h1, h2, by omega⟩
end Go.Proofs.Ytaoiljbbfcpfiaa.Wf
