/- Plain: OnesCount64 answers the count of the bits. -/
import Derived.Test.YtaoiljbbfcpfiaaPa
import Derived.Test.YtaoiljbbfcpfiaaSb
namespace Go.Proofs.Ytaoiljbbfcpfiaa.Wf
open Go Go.RowKit Go.Proofs Go.Proofs.Ytaoiljbbfcpfiaa
theorem wrapu {n : Nat} (h : n < 18446744073709551616) : IntKind.u64.wrap ((n : Nat) : Int) = (n : Int) := by
  rw [IntKind.wrap_u64]
  omega
theorem and_nat (a b : Nat) (ha : a < 18446744073709551616) (hb : b < 18446744073709551616) : Go.bits .and .u64 (a : Int) (b : Int) = ((a &&& b : Nat) : Int) := by
  show IntKind.u64.wrap ((BitVec.ofInt 64 a &&& BitVec.ofInt 64 b).toNat : Int) = _
  rw [BitVec.toNat_and, BitVec.ofInt_natCast, BitVec.ofInt_natCast, BitVec.toNat_ofNat, BitVec.toNat_ofNat, Nat.mod_eq_of_lt (by omega), Nat.mod_eq_of_lt (by omega), wrapu]
  exact Nat.lt_of_le_of_lt Nat.and_le_right hb
theorem m1_8 : m1 8 = 6148914691236517205 := by decide
theorem m2_8 : m2 8 = 3689348814741910323 := by decide
theorem m3_8 : m3 8 = 1085102592571150095 := by decide
theorem s1_le (x : Nat) : s1 8 x ≤ 12297829382473034410 := by
  have h1 : (x / 2) &&& m1 8 ≤ m1 8 := Nat.and_le_right
  have h2 : x &&& m1 8 ≤ m1 8 := Nat.and_le_right
  rw [m1_8] at h1 h2
  unfold s1
  rw [m1_8]
  omega
theorem s2_le (x : Nat) : s2 8 x ≤ 7378697629483820646 := by
  have h1 : (x / 4) &&& m2 8 ≤ m2 8 := Nat.and_le_right
  have h2 : x &&& m2 8 ≤ m2 8 := Nat.and_le_right
  rw [m2_8] at h1 h2
  unfold s2
  rw [m2_8]
  omega
theorem and127 (x : Int) (h0 : 0 ≤ x) (h1 : x < 4611686018427387904) : Go.bits .and .i64 x 127 = x % 128 := by
  have hk : ∀ n : Int, 0 ≤ n → n < 2 ^ 62 → IntKind.i64.wrap n = n := fun n a b => by rw [IntKind.wrap_i64]; omega
  have h := bits_mask .i64 62 (by decide) hk 7 (by decide) x h0 (by omega)
  exact h

theorem and_lit (a : Nat) (b : Int) (m : Nat) (hm : b = (m : Int)) (ha : a < 18446744073709551616) (hb : m < 18446744073709551616) : Go.bits .and .u64 (a : Int) b = ((a &&& m : Nat) : Int) := by
  rw [hm]; exact and_nat a m ha hb
theorem stage1 (x : Nat) (hx : x < 18446744073709551616) : IntKind.u64.wrap ((Go.bits .and .u64 ((x : Int) / 2) 6148914691236517205) + (Go.bits .and .u64 (x : Int) 6148914691236517205)) = ((s1 8 x : Nat) : Int) := by
  have hs1 := s1_le x
  have k1 := and_lit (x / 2) 6148914691236517205 (m1 8) (by rw [m1_8]; rfl) (by omega) (by rw [m1_8]; omega)
  have k2 := and_lit x 6148914691236517205 (m1 8) (by rw [m1_8]; rfl) (by omega) (by rw [m1_8]; omega)
  rw [Int.natCast_ediv] at k1
  have k3 : (((2 : Nat) : Int)) = 2 := rfl
  rw [k3] at k1
  rw [k1, k2, ← Int.natCast_add]
  exact wrapu (Nat.lt_of_le_of_lt hs1 (by omega))
theorem stage2 (x : Nat) (hx : x < 18446744073709551616) : IntKind.u64.wrap ((Go.bits .and .u64 ((x : Int) / 4) 3689348814741910323) + (Go.bits .and .u64 (x : Int) 3689348814741910323)) = ((s2 8 x : Nat) : Int) := by
  have hs1 := s2_le x
  have k1 := and_lit (x / 4) 3689348814741910323 (m2 8) (by rw [m2_8]; rfl) (by omega) (by rw [m2_8]; omega)
  have k2 := and_lit x 3689348814741910323 (m2 8) (by rw [m2_8]; rfl) (by omega) (by rw [m2_8]; omega)
  rw [Int.natCast_ediv] at k1
  have k3 : (((4 : Nat) : Int)) = 4 := rfl
  rw [k3] at k1
  rw [k1, k2, ← Int.natCast_add]
  exact wrapu (Nat.lt_of_le_of_lt hs1 (by omega))
theorem stage3 (y : Nat) (hy : y ≤ 7378697629483820646) : Go.bits .and .u64 (IntKind.u64.wrap (((y : Int) / 16) + (y : Int))) 1085102592571150095 = ((s3 8 y : Nat) : Int) := by
  have k0 : ((y : Int) / 16) + (y : Int) = ((y / 16 + y : Nat) : Int) := by omega
  rw [k0, wrapu (by omega)]
  exact and_lit (y / 16 + y) 1085102592571150095 (m3 8) (by rw [m3_8]; rfl) (by omega) (by rw [m3_8]; omega)
theorem stage4 (z d : Nat) (di : Int) (hd : di = (d : Int)) (h : z + z / d < 4611686018427387904) : IntKind.u64.wrap ((z : Int) + (z : Int) / di) = ((z + z / d : Nat) : Int) := by
  rw [hd, ← Int.natCast_ediv, ← Int.natCast_add]
  exact wrapu (by omega)
theorem ones_f (x : Nat) (hx : x < 18446744073709551616) : bits_OnesCount64.f (x : Int) = some ((popc 64 x : Nat) : Int) := by
  have hs1 := s1_le x
  have hs2 := s2_le (s1 8 x)
  have h3 := (stages 8 x (by exact hx)).2
  have hsum := summed x
  rw [← h3] at hsum
  have e2 := stage2 (s1 8 x) (by omega)
  have e3 := stage3 (s2 8 (s1 8 x)) hs2
  unfold bits_OnesCount64.f
  rw [stage1 x hx, e2, e3]
  clear e2 e3 h3 hs2 hs1
  generalize s3 8 (s2 8 (s1 8 x)) = z at *
  obtain ⟨c1, c2, c3, c4, c5⟩ := hsum
  rw [stage4 z 256 256 rfl c2]
  generalize z + z / 256 = z2 at *
  rw [stage4 z2 65536 65536 rfl c3]
  generalize z2 + z2 / 65536 = z3 at *
  rw [stage4 z3 4294967296 4294967296 rfl c4]
  generalize z3 + z3 / 4294967296 = z4 at *
  have e7 : wrap64 (z4 : Int) = (z4 : Int) := by unfold wrap64; omega
  have e8 := and127 (z4 : Int) (by omega) (by omega)
  rw [e7, e8, ← c5, Int.natCast_emod]
  rfl
end Go.Proofs.Ytaoiljbbfcpfiaa.Wf
