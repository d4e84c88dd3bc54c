/- Plain: a word grows by a bit. -/
import Derived.Test.YtaoiljbbfcpfiaaSc
import Derived.Test.YtaoiljbbfcpfiaaSd
set_option linter.unusedVariables false
set_option linter.unusedSimpArgs false
namespace Go.Proofs.Ytaoiljbbfcpfiaa.Wf
open Go Go.RowKit Go.Proofs Go.Proofs.Ytaoiljbbfcpfiaa Go.Proofs.YtaoiljbbfcpfiaaW.PrintWords
theorem or_nat (a b : Nat) (ha : a < 18446744073709551616) (hb : b < 18446744073709551616) : Go.bits .or .u64 (a : Int) (b : Int) = ((a ||| b : Nat) : Int) := by
  show IntKind.u64.wrap ((BitVec.ofInt 64 a ||| BitVec.ofInt 64 b).toNat : Int) = _
  rw [BitVec.toNat_or, BitVec.ofInt_natCast, BitVec.ofInt_natCast, BitVec.toNat_ofNat, BitVec.toNat_ofNat, Nat.mod_eq_of_lt (by omega), Nat.mod_eq_of_lt (by omega), wrapu]
  have h : a ||| b < 2 ^ 64 := Nat.or_lt_two_pow (by omega) (by omega)
  exact h
theorem or_bit {a t : Nat} (ha : a < 2 ^ t) (ht : t < 64) : Go.bits .or .u64 (a : Int) ((2 ^ t : Nat) : Int) = ((a + 2 ^ t : Nat) : Int) := by
  have hp : 2 ^ t ≤ 2 ^ 63 := Nat.pow_le_pow_right (by decide) (by omega)
  rw [or_nat a (2 ^ t) (by omega) (by omega)]
  have h := Nat.two_pow_add_eq_or_of_lt ha 1
  rw [Nat.mul_one] at h
  rw [Nat.or_comm, ← h, Nat.add_comm]
theorem at_take_lt (bs : List Bool) (i : Nat) : wordAt (bs.take i) (i / 64) < 2 ^ (i % 64) := by
  unfold wordAt
  refine Nat.lt_of_lt_of_le (word_lt _) (Nat.pow_le_pow_right (by decide) ?_)
  rw [List.length_take, List.length_drop, List.length_take]
  omega
theorem at_take_same {bs : List Bool} {i : Nat} (hi : i < bs.length) : wordAt (bs.take (i + 1)) (i / 64) = wordAt (bs.take i) (i / 64) + 2 ^ (i % 64) * (bs.getD i false).toNat := by
  have e : bs.take (i + 1) = bs.take i ++ [bs.getD i false] := by
    rw [List.take_succ_eq_append_getElem hi, List.getD_eq_getElem?_getD, List.getElem?_eq_getElem hi]
    rfl
  have hl : (bs.take i).length = i := by rw [List.length_take]; omega
  have hd : ((bs.take i).drop (64 * (i / 64))).length = i % 64 := by rw [List.length_drop, hl]; omega
  have e2 : ((bs.take i).drop (64 * (i / 64))).take 64 = (bs.take i).drop (64 * (i / 64)) := List.take_of_length_le (by omega)
  unfold wordAt
  rw [e, List.drop_append_of_le_length (by omega), List.take_of_length_le (by rw [List.length_append, hd]; simp; omega), word_snoc, hd, e2]
theorem at_take_other (bs : List Bool) {i j : Nat} (h : j ≠ i / 64) : wordAt (bs.take (i + 1)) j = wordAt (bs.take i) j := by
  unfold wordAt
  by_cases hj : j < i / 64
  · rw [List.drop_take, List.drop_take, List.take_take, List.take_take, Nat.min_eq_left (by omega), Nat.min_eq_left (by omega)]
  · rw [List.drop_eq_nil_of_le (by rw [List.length_take]; omega), List.drop_eq_nil_of_le (by rw [List.length_take]; omega)]
end Go.Proofs.Ytaoiljbbfcpfiaa.Wf
