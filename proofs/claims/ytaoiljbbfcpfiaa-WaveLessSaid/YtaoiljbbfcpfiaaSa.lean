/- Plain: the bits of a number, counted. -/
namespace Go.Proofs.Ytaoiljbbfcpfiaa.Wf
/-- How many of the low n bits are set. -/
def popc : Nat → Nat → Nat
  | 0, _ => 0
  | n + 1, x => x % 2 + popc n (x / 2)
theorem popc_zero (n : Nat) : popc n 0 = 0 := by
  induction n with
  | zero => rfl
  | succ n ih => simp [popc, ih]
theorem popc_split (k n x : Nat) : popc (k + n) x = popc k (x % 2 ^ k) + popc n (x / 2 ^ k) := by
  induction k generalizing x with
  | zero => simp [popc]
  | succ k ih =>
    rw [show k + 1 + n = (k + n) + 1 by omega, popc, popc, ih]
    have h1 : x % 2 ^ (k + 1) % 2 = x % 2 := by rw [Nat.pow_succ, Nat.mul_comm]; exact Nat.mod_mul_right_mod x 2 (2 ^ k)
    have h2 : x % 2 ^ (k + 1) / 2 = x / 2 % 2 ^ k := by
      rw [Nat.pow_succ, Nat.mul_comm, Nat.mod_mul_right_div_self]
    have h3 : x / 2 ^ (k + 1) = x / 2 / 2 ^ k := by rw [Nat.pow_succ, Nat.mul_comm, Nat.div_div_eq_div_mul]
    rw [h1, h2, h3]
    omega
/-! One byte, and the bytes behind it. -/
theorem and_byte {a b y m : Nat} (ha : a < 256) (hb : b < 256) : (a + 256 * y) &&& (b + 256 * m) = (a &&& b) + 256 * (y &&& m) := by
  have hab : a &&& b < 2 ^ 8 := Nat.and_lt_two_pow _ hb
  apply Nat.eq_of_testBit_eq
  intro i
  rw [Nat.testBit_and, show a + 256 * y = 2 ^ 8 * y + a by omega, show b + 256 * m = 2 ^ 8 * m + b by omega, show (a &&& b) + 256 * (y &&& m) = 2 ^ 8 * (y &&& m) + (a &&& b) by omega,
    Nat.testBit_two_pow_mul_add _ (by omega), Nat.testBit_two_pow_mul_add _ (by omega), Nat.testBit_two_pow_mul_add _ hab]
  split
  · rw [Nat.testBit_and]
  · rw [Nat.testBit_and]
def m1 : Nat → Nat
  | 0 => 0
  | n + 1 => 0x55 + 256 * m1 n
def m2 : Nat → Nat
  | 0 => 0
  | n + 1 => 0x33 + 256 * m2 n
def m3 : Nat → Nat
  | 0 => 0
  | n + 1 => 0x0f + 256 * m3 n
def s1 (n x : Nat) : Nat := ((x / 2) &&& m1 n) + (x &&& m1 n)
def s2 (n x : Nat) : Nat := ((x / 4) &&& m2 n) + (x &&& m2 n)
def s3 (n x : Nat) : Nat := (x / 16 + x) &&& m3 n
theorem b1 : ∀ a : Fin 256, ∀ t : Fin 2, ((a.1 / 2 + 128 * t.1) &&& 0x55) = ((a.1 / 2) &&& 0x55) := by decide +kernel
theorem b2 : ∀ a : Fin 256, ∀ t : Fin 4, ((a.1 / 4 + 64 * t.1) &&& 0x33) = ((a.1 / 4) &&& 0x33) := by decide +kernel
theorem s1_byte (n a y : Nat) (ha : a < 256) : s1 (n + 1) (a + 256 * y) = s1 1 a + 256 * s1 n y := by
  have h := b1 ⟨a, ha⟩ ⟨y % 2, Nat.mod_lt _ (by decide)⟩
  dsimp only at h
  have e : (a + 256 * y) / 2 = (a / 2 + 128 * (y % 2)) + 256 * (y / 2) := by omega
  unfold s1
  rw [e, m1, and_byte (by omega) (by decide), and_byte ha (by decide), h]
  simp only [m1, Nat.mul_zero, Nat.add_zero]
  omega
theorem s2_byte (n a y : Nat) (ha : a < 256) : s2 (n + 1) (a + 256 * y) = s2 1 a + 256 * s2 n y := by
  have h := b2 ⟨a, ha⟩ ⟨y % 4, Nat.mod_lt _ (by decide)⟩
  dsimp only at h
  have e : (a + 256 * y) / 4 = (a / 4 + 64 * (y % 4)) + 256 * (y / 4) := by omega
  unfold s2
  rw [e, m2, and_byte (by omega) (by decide), and_byte ha (by decide), h]
  simp only [m2, Nat.mul_zero, Nat.add_zero]
  omega
/-- Each half of each byte is at most 4. -/
def Low : Nat → Nat → Prop
  | 0, x => x = 0
  | n + 1, x => ∃ a y, x = a + 256 * y ∧ a < 256 ∧ a % 16 ≤ 4 ∧ a / 16 ≤ 4 ∧ Low n y
theorem b3 : ∀ h : Fin 5, ∀ l : Fin 5, ∀ t : Fin 5, ((h.1 + 16 * t.1 + (16 * h.1 + l.1)) &&& 0x0f) = h.1 + l.1 := by decide
theorem low_mod {n y : Nat} (h : Low n y) : y % 16 ≤ 4 := by
  cases n with
  | zero => rw [show y = 0 from h]; omega
  | succ n => obtain ⟨a, z, rfl, _, h2, _⟩ := h; omega
theorem s3_byte (n a y : Nat) (h1 : a % 16 ≤ 4) (h2 : a / 16 ≤ 4) (hy : Low n y) : s3 (n + 1) (a + 256 * y) = (a / 16 + a % 16) + 256 * s3 n y := by
  have ht := low_mod hy
  have h := b3 ⟨a / 16, by omega⟩ ⟨a % 16, by omega⟩ ⟨y % 16, by omega⟩
  dsimp only at h
  have e : (a + 256 * y) / 16 + (a + 256 * y) = (a / 16 + 16 * (y % 16) + (16 * (a / 16) + a % 16)) + 256 * (y / 16 + y) := by omega
  unfold s3
  rw [e, m3, and_byte (by omega) (by decide), h]
theorem b4 : ∀ a : Fin 256, s2 1 (s1 1 a.1) % 16 ≤ 4 ∧ s2 1 (s1 1 a.1) / 16 ≤ 4 ∧ s1 1 a.1 < 256 ∧ s2 1 (s1 1 a.1) / 16 + s2 1 (s1 1 a.1) % 16 = popc 8 a.1 ∧ popc 8 a.1 ≤ 8 := by decide +kernel
/-- n bytes: the number whose bytes are the counts of x's bytes. -/
def cnts : Nat → Nat → Nat
  | 0, _ => 0
  | n + 1, x => popc 8 (x % 256) + 256 * cnts n (x / 256)
theorem stages (n x : Nat) (hx : x < 256 ^ n) : Low n (s2 n (s1 n x)) ∧ s3 n (s2 n (s1 n x)) = cnts n x := by
  induction n generalizing x with
  | zero =>
    have : x = 0 := by simpa using hx
    subst this
    exact ⟨rfl, rfl⟩
  | succ n ih =>
    have hd : x / 256 < 256 ^ n := by rw [Nat.div_lt_iff_lt_mul (by decide)]; rw [Nat.pow_succ] at hx; exact hx
    obtain ⟨h1, h2⟩ := ih (x / 256) hd
    obtain ⟨c1, c2, c3, c4, c5⟩ := b4 ⟨x % 256, Nat.mod_lt _ (by decide)⟩
    dsimp only at c1 c2 c3 c4 c5
    have e : x = x % 256 + 256 * (x / 256) := by omega
    have e1 : s1 (n + 1) x = s1 1 (x % 256) + 256 * s1 n (x / 256) := by
      conv => lhs; rw [e]
      exact s1_byte n _ _ (by omega)
    have e2 : s2 (n + 1) (s1 (n + 1) x) = s2 1 (s1 1 (x % 256)) + 256 * s2 n (s1 n (x / 256)) := by
      rw [e1]; exact s2_byte n _ _ c3
    refine ⟨?_, ?_⟩
    · rw [e2]
      exact ⟨_, _, rfl, by omega, c1, c2, h1⟩
    · rw [e2, s3_byte n _ _ c1 c2 h1, h2, c4, cnts]
theorem popc_cnts (n x : Nat) : popc (8 * (n + 1)) x = popc 8 (x % 256) + popc (8 * n) (x / 256) := by
  rw [show 8 * (n + 1) = 8 + 8 * n by omega, popc_split]
theorem popc8_le (x : Nat) : popc 8 (x % 256) ≤ 8 := (b4 ⟨x % 256, Nat.mod_lt _ (by decide)⟩).2.2.2.2
end Go.Proofs.Ytaoiljbbfcpfiaa.Wf
