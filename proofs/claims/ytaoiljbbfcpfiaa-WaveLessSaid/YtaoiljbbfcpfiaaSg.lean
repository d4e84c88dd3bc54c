/- Plain: the walk of bit answers bitF. -/
import Derived.Test.YtaoiljbbfcpfiaaPa
import Derived.Test.YtaoiljbbfcpfiaaSf
set_option linter.unusedVariables false
set_option linter.unusedSimpArgs false
namespace Go.Proofs.Ytaoiljbbfcpfiaa.Wf
open Go Go.RowKit Go.Proofs Go.Proofs.Ytaoiljbbfcpfiaa Go.Proofs.YtaoiljbbfcpfiaaW.PrintWords Go.Proofs.YtaoiljbbfcpfiaaW.PrintLast Go.Proofs.YtaoiljbbfcpfiaaW.PrintMore
theorem and1 (x : Int) (h0 : 0 ≤ x) (h1 : x < 4611686018427387904) : Go.bits .and .i64 x 1 = x % 2 := by
  have hk : ∀ n : Int, 0 ≤ n → n < 2 ^ 62 → IntKind.i64.wrap n = n := fun n a b => by rw [IntKind.wrap_i64]; omega
  have h := bits_mask .i64 62 (by decide) hk 1 (by decide) x h0 (by omega)
  exact h
theorem bit_f (c : Int) (k : Nat) (hc : 0 ≤ c ∧ c ≤ 256) (hk : k < 9) : wave_bit.f c (k : Int) = some (bitF c k) := by
  have e : wrap64 (8 - (k : Int)) = ((8 - k : Nat) : Int) := by unfold wrap64; omega
  unfold wave_bit.f bitF
  rw [e, if_pos (by omega)]
  have hs : shr .i64 c ((8 - k : Nat) : Int) = c / 2 ^ (8 - k) := by
    have hj : 8 - k ≤ 64 := by omega
    generalize 8 - k = j at *
    show c / 2 ^ min (Int.toNat (j : Int)) 64 = _
    rw [Int.toNat_natCast, Nat.min_eq_left hj]
  have hp : (0 : Int) < 2 ^ (8 - k) := Int.pow_pos (by decide)
  have h0 : 0 ≤ c / 2 ^ (8 - k) := Int.ediv_nonneg hc.1 (Int.le_of_lt hp)
  have h1 : c / 2 ^ (8 - k) ≤ c := Int.ediv_le_self _ hc.1
  rw [hs, and1 _ h0 (by omega)]
  congr 1
end Go.Proofs.Ytaoiljbbfcpfiaa.Wf
