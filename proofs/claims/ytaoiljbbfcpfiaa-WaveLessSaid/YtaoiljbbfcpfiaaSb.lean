/- Plain: the eight counts summed. -/
import Derived.Test.YtaoiljbbfcpfiaaSa
namespace Go.Proofs.Ytaoiljbbfcpfiaa.Wf
theorem div_of {a b c d : Nat} (h : a = b + c * d) (hb : b < c) : a / c = d := by
  subst h
  rw [Nat.add_mul_div_left _ _ (by omega), Nat.div_eq_of_lt hb, Nat.zero_add]
/-- Eight digits. -/
def dig (a1 a2 a3 a4 a5 a6 a7 a8 : Nat) : Nat := a1 + 256 * (a2 + 256 * (a3 + 256 * (a4 + 256 * (a5 + 256 * (a6 + 256 * (a7 + 256 * a8))))))
theorem dig_add (a1 a2 a3 a4 a5 a6 a7 a8 b1 b2 b3 b4 b5 b6 b7 b8 : Nat) : dig a1 a2 a3 a4 a5 a6 a7 a8 + dig b1 b2 b3 b4 b5 b6 b7 b8 = dig (a1 + b1) (a2 + b2) (a3 + b3) (a4 + b4) (a5 + b5) (a6 + b6) (a7 + b7) (a8 + b8) := by
  unfold dig; omega
theorem dig_8 (a1 a2 a3 a4 a5 a6 a7 a8 : Nat) (h : a1 < 256) : dig a1 a2 a3 a4 a5 a6 a7 a8 / 256 = dig a2 a3 a4 a5 a6 a7 a8 0 := by
  apply div_of (b := a1) _ h
  unfold dig; omega
theorem dig_16 (a1 a2 a3 a4 a5 a6 a7 a8 : Nat) (h1 : a1 < 256) (h2 : a2 < 256) : dig a1 a2 a3 a4 a5 a6 a7 a8 / 65536 = dig a3 a4 a5 a6 a7 a8 0 0 := by
  rw [show (65536 : Nat) = 256 * 256 from rfl, ← Nat.div_div_eq_div_mul, dig_8 _ _ _ _ _ _ _ _ h1, dig_8 _ _ _ _ _ _ _ _ h2]
theorem dig_32 (a1 a2 a3 a4 a5 a6 a7 a8 : Nat) (h1 : a1 < 256) (h2 : a2 < 256) (h3 : a3 < 256) (h4 : a4 < 256) : dig a1 a2 a3 a4 a5 a6 a7 a8 / 4294967296 = dig a5 a6 a7 a8 0 0 0 0 := by
  rw [show (4294967296 : Nat) = 65536 * 65536 from rfl, ← Nat.div_div_eq_div_mul, dig_16 _ _ _ _ _ _ _ _ h1 h2, dig_16 _ _ _ _ _ _ _ _ h3 h4]
theorem dig_mod (a1 a2 a3 a4 a5 a6 a7 a8 : Nat) (h1 : a1 < 128) : dig a1 a2 a3 a4 a5 a6 a7 a8 % 128 = a1 := by
  have e : dig a1 a2 a3 a4 a5 a6 a7 a8 = a1 + 128 * (2 * (a2 + 256 * (a3 + 256 * (a4 + 256 * (a5 + 256 * (a6 + 256 * (a7 + 256 * a8))))))) := by unfold dig; omega
  rw [e, Nat.add_mul_mod_self_left, Nat.mod_eq_of_lt h1]
theorem dig_lt (a1 a2 a3 a4 a5 a6 a7 a8 : Nat) (h1 : a1 < 128) (h2 : a2 < 128) (h3 : a3 < 128) (h4 : a4 < 128) (h5 : a5 < 128) (h6 : a6 < 128) (h7 : a7 < 128) (h8 : a8 < 64) : dig a1 a2 a3 a4 a5 a6 a7 a8 < 4611686018427387904 := by
  unfold dig
  have k7 : a7 + 256 * a8 < 16384 := by omega
  generalize a7 + 256 * a8 = x7 at *
  have k6 : a6 + 256 * x7 < 4194304 := by omega
  generalize a6 + 256 * x7 = x6 at *
  have k5 : a5 + 256 * x6 < 1073741824 := by omega
  generalize a5 + 256 * x6 = x5 at *
  have k4 : a4 + 256 * x5 < 274877906944 := by omega
  generalize a4 + 256 * x5 = x4 at *
  have k3 : a3 + 256 * x4 < 70368744177664 := by omega
  generalize a3 + 256 * x4 = x3 at *
  have k2 : a2 + 256 * x3 < 18014398509481984 := by omega
  generalize a2 + 256 * x3 = x2 at *
  omega
def Summed (c r : Nat) : Prop := c < 4611686018427387904 ∧ c + c / 256 < 4611686018427387904 ∧ (c + c / 256) + (c + c / 256) / 65536 < 4611686018427387904 ∧
  ((c + c / 256) + (c + c / 256) / 65536) + ((c + c / 256) + (c + c / 256) / 65536) / 4294967296 < 4611686018427387904 ∧ (((c + c / 256) + (c + c / 256) / 65536) + ((c + c / 256) + (c + c / 256) / 65536) / 4294967296) % 128 = r
theorem summed8 (a1 a2 a3 a4 a5 a6 a7 a8 : Nat) (q1 : a1 ≤ 8) (q2 : a2 ≤ 8) (q3 : a3 ≤ 8) (q4 : a4 ≤ 8) (q5 : a5 ≤ 8) (q6 : a6 ≤ 8) (q7 : a7 ≤ 8) (q8 : a8 ≤ 8) :
    Summed (dig a1 a2 a3 a4 a5 a6 a7 a8) (a1 + (a2 + (a3 + (a4 + (a5 + (a6 + (a7 + (a8 + 0)))))))) := by
  unfold Summed
  rw [dig_8 _ _ _ _ _ _ _ _ (by omega), dig_add, dig_16 _ _ _ _ _ _ _ _ (by omega) (by omega), dig_add, dig_32 _ _ _ _ _ _ _ _ (by omega) (by omega) (by omega) (by omega), dig_add]
  refine ⟨dig_lt _ _ _ _ _ _ _ _ (by omega) (by omega) (by omega) (by omega) (by omega) (by omega) (by omega) (by omega), dig_lt _ _ _ _ _ _ _ _ (by omega) (by omega) (by omega) (by omega) (by omega) (by omega) (by omega) (by omega),
    dig_lt _ _ _ _ _ _ _ _ (by omega) (by omega) (by omega) (by omega) (by omega) (by omega) (by omega) (by omega), dig_lt _ _ _ _ _ _ _ _ (by omega) (by omega) (by omega) (by omega) (by omega) (by omega) (by omega) (by omega), ?_⟩
  rw [dig_mod _ _ _ _ _ _ _ _ (by omega)]
  omega
/-- The eight counts, summed as the code does it. -/
theorem summed (x : Nat) : Summed (cnts 8 x) (popc 64 x) := by
  have p1 := popc_cnts 7 x
  have p2 := popc_cnts 6 (x / 256)
  have p3 := popc_cnts 5 (x / 256 / 256)
  have p4 := popc_cnts 4 (x / 256 / 256 / 256)
  have p5 := popc_cnts 3 (x / 256 / 256 / 256 / 256)
  have p6 := popc_cnts 2 (x / 256 / 256 / 256 / 256 / 256)
  have p7 := popc_cnts 1 (x / 256 / 256 / 256 / 256 / 256 / 256)
  have p8 := popc_cnts 0 (x / 256 / 256 / 256 / 256 / 256 / 256 / 256)
  have q1 := popc8_le x
  have q2 := popc8_le (x / 256)
  have q3 := popc8_le (x / 256 / 256)
  have q4 := popc8_le (x / 256 / 256 / 256)
  have q5 := popc8_le (x / 256 / 256 / 256 / 256)
  have q6 := popc8_le (x / 256 / 256 / 256 / 256 / 256)
  have q7 := popc8_le (x / 256 / 256 / 256 / 256 / 256 / 256)
  have q8 := popc8_le (x / 256 / 256 / 256 / 256 / 256 / 256 / 256)
  have p9 : popc (8 * 0) (x / 256 / 256 / 256 / 256 / 256 / 256 / 256 / 256) = 0 := rfl
  simp only [Nat.reduceAdd, Nat.reduceMul] at p1 p2 p3 p4 p5 p6 p7 p8 p9
  rw [p9] at p8
  have hcd : cnts 8 x = dig (popc 8 (x % 256)) (popc 8 (x / 256 % 256)) (popc 8 (x / 256 / 256 % 256)) (popc 8 (x / 256 / 256 / 256 % 256)) (popc 8 (x / 256 / 256 / 256 / 256 % 256)) (popc 8 (x / 256 / 256 / 256 / 256 / 256 % 256)) (popc 8 (x / 256 / 256 / 256 / 256 / 256 / 256 % 256)) (popc 8 (x / 256 / 256 / 256 / 256 / 256 / 256 / 256 % 256)) := by
    simp only [cnts, dig, Nat.mul_zero, Nat.add_zero]
  rw [hcd]
  clear hcd
  rw [p1, p2, p3, p4, p5, p6, p7, p8]
  generalize popc 8 (x % 256) = a1 at *
  generalize popc 8 (x / 256 % 256) = a2 at *
  generalize popc 8 (x / 256 / 256 % 256) = a3 at *
  generalize popc 8 (x / 256 / 256 / 256 % 256) = a4 at *
  generalize popc 8 (x / 256 / 256 / 256 / 256 % 256) = a5 at *
  generalize popc 8 (x / 256 / 256 / 256 / 256 / 256 % 256) = a6 at *
  generalize popc 8 (x / 256 / 256 / 256 / 256 / 256 / 256 % 256) = a7 at *
  generalize popc 8 (x / 256 / 256 / 256 / 256 / 256 / 256 / 256 % 256) = a8 at *
  exact summed8 a1 a2 a3 a4 a5 a6 a7 a8 q1 q2 q3 q4 q5 q6 q7 q8
end Go.Proofs.Ytaoiljbbfcpfiaa.Wf
