/- Plain: bits in words. -/
import Derived.Test.YtaoiljbbfcpfiaaSa
set_option linter.unusedVariables false
set_option linter.unusedSimpArgs false
namespace Go.Proofs.Ytaoiljbbfcpfiaa.Wf
def wordOf : List Bool → Nat
  | [] => 0
  | b :: r => b.toNat + 2 * wordOf r
/-- How many are true. -/
def ones (bs : List Bool) : Nat := bs.countP id
theorem ones_cons (b : Bool) (r : List Bool) : ones (b :: r) = b.toNat + ones r := by
  unfold ones
  cases b <;> simp; omega
theorem ones_append (a b : List Bool) : ones (a ++ b) = ones a + ones b := List.countP_append
theorem ones_le (bs : List Bool) : ones bs ≤ bs.length := List.countP_le_length
theorem popc_word : ∀ (bs : List Bool) (n : Nat), bs.length ≤ n → popc n (wordOf bs) = ones bs
  | [], n, _ => by rw [wordOf, popc_zero]; rfl
  | b :: r, 0, h => by simp at h
  | b :: r, n + 1, h => by
    have ih := popc_word r n (by simpa using h)
    have hb : b.toNat ≤ 1 := by cases b <;> decide
    rw [popc, wordOf, ones_cons, ← ih, show (b.toNat + 2 * wordOf r) % 2 = b.toNat by omega, show (b.toNat + 2 * wordOf r) / 2 = wordOf r by omega]
theorem word_lt : ∀ bs : List Bool, wordOf bs < 2 ^ bs.length
  | [] => by decide
  | b :: r => by
    have ih := word_lt r
    have hb : b.toNat ≤ 1 := by cases b <;> decide
    rw [wordOf, List.length_cons, Nat.pow_succ]
    omega
theorem word_append : ∀ a b : List Bool, wordOf (a ++ b) = wordOf a + 2 ^ a.length * wordOf b
  | [], b => by simp [wordOf]
  | x :: r, b => by
    rw [List.cons_append, wordOf, word_append r b, wordOf, List.length_cons, Nat.pow_succ, Nat.mul_add, Nat.mul_comm (2 ^ r.length) 2, Nat.mul_assoc]
    omega
theorem word_take (bs : List Bool) (k : Nat) : wordOf bs % 2 ^ k = wordOf (bs.take k) := by
  have h := word_append (bs.take k) (bs.drop k)
  rw [List.take_append_drop] at h
  by_cases hk : k ≤ bs.length
  · have hl : (bs.take k).length = k := by rw [List.length_take]; omega
    have hlt := word_lt (bs.take k)
    rw [hl] at h hlt
    rw [h, Nat.add_mul_mod_self_left, Nat.mod_eq_of_lt hlt]
  · have hlt := word_lt bs
    have hp : 2 ^ bs.length ≤ 2 ^ k := Nat.pow_le_pow_right (by decide) (by omega)
    rw [List.take_of_length_le (by omega), Nat.mod_eq_of_lt (by omega)]
theorem word_snoc (bs : List Bool) (b : Bool) : wordOf (bs ++ [b]) = wordOf bs + 2 ^ bs.length * b.toNat := by
  rw [word_append]
  simp [wordOf]
/-- The words of a row of bits: the j-th holds 64 of them. -/
def wordAt (bs : List Bool) (j : Nat) : Nat := wordOf ((bs.drop (64 * j)).take 64)
theorem wordAt_lt (bs : List Bool) (j : Nat) : wordAt bs j < 18446744073709551616 := by
  have h := word_lt ((bs.drop (64 * j)).take 64)
  have h2 : ((bs.drop (64 * j)).take 64).length ≤ 64 := by rw [List.length_take]; omega
  have h3 : 2 ^ ((bs.drop (64 * j)).take 64).length ≤ 2 ^ 64 := Nat.pow_le_pow_right (by decide) h2
  exact Nat.lt_of_lt_of_le h h3
/-- Ones ahead of place i. -/
theorem ones_at (bs : List Bool) (j t : Nat) (ht : t ≤ 64) : ones (bs.take (64 * j + t)) = ones (bs.take (64 * j)) + popc 64 (wordAt bs j % 2 ^ t) := by
  unfold wordAt
  rw [word_take, popc_word _ 64 (by rw [List.length_take, List.length_take]; omega), List.take_take, Nat.min_eq_left ht, List.take_add, ones_append]
end Go.Proofs.Ytaoiljbbfcpfiaa.Wf
