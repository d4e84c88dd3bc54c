/- Walks: Vec.Rank. -/
import Derived.Test.YtaoiljbbfcpfiaaBc
set_option linter.unusedVariables false
set_option linter.unusedSimpArgs false
namespace Go.Proofs.Ytaoiljbbfcpfiaa
open Go.RowKit Go.Proofs.YtaoiljbbfcpfiaaW.PrintWords Go.Proofs.YtaoiljbbfcpfiaaW.PrintLast Go.Proofs.YtaoiljbbfcpfiaaW.PrintMore
attribute [local go_sem] max2_int min2_int max_two min_two max_three min_three max_four min_four
theorem getD_map_range (f : Nat → Int) (n j : Nat) (h : j < n) : ((List.range n).map f).getD j 0 = f j := by
  simp [List.getD_eq_getElem?_getD, h]
set_option maxRecDepth 100000 in
set_option maxHeartbeats 2000000 in
theorem rank_calls (g : Nat) (bs : List Bool) (w : World) (hV : VecAt w g bs) (hn : bs.length ≤ 100000) (i : Nat) (hi : i ≤ bs.length) :
    Calls Try.prog 22 #[.pointer (some ⟨g, 0, none⟩), .int .i64 (i : Int)] w fun e w' => e = .returned (.int .i64 (Wf.ones (bs.take i) : Nat)) ∧ Drawn0 w w' := by
  obtain ⟨A1, c1, A2, c2, h0, h1, h2, l1, l2, r1, r2⟩ := hV.out
  have hj : i / 64 < (bs.length + 63) / 64 + 1 := by omega
  obtain ⟨ad2, e2, hx2⟩ := at_nat r2 (Below.refl _ _) (i / 64) hj
  cases e2
  rw [aheadL, getD_map_range _ _ _ hj] at hx2
  have hmx : mx (i : Int) 0 = (i : Int) := by unfold mx; omega
  have hmn : mn (i : Int) (bs.length : Int) = (i : Int) := by unfold mn; omega
  by_cases ht : 0 < i % 64
  · have hw : i / 64 < (bs.length + 63) / 64 := by omega
    obtain ⟨ad1, e1, hx1⟩ := at_nat r1 (Below.refl _ _) (i / 64) hw
    cases e1
    rw [wordsL, getD_map_range _ _ _ hw] at hx1
    have hx : (i : Int) % 64 > 0 := by omega
    have hwq : IntKind.i64.wrap ((i : Int) / 64) = ((i / 64 : Nat) : Int) := by rw [IntKind.wrap_i64]; omega
    have htt : ((i : Int) % 64).toNat = i % 64 := by omega
    have hp : 2 ^ (i % 64) ≤ 2 ^ 63 := Nat.pow_le_pow_right (by decide) (by omega)
    have hp1 : 1 ≤ 2 ^ (i % 64) := Nat.one_le_two_pow
    have hsh0 : IntKind.u64.wrap (2 ^ (i % 64)) = ((2 ^ (i % 64) : Nat) : Int) := by
      rw [show (2 : Int) ^ (i % 64) = ((2 ^ (i % 64) : Nat) : Int) by push_cast; rfl]
      exact Wf.wrapu (by omega)
    have hsh : IntKind.u64.wrap (2 ^ ((i : Int) % 64).toNat) = ((2 ^ (i % 64) : Nat) : Int) := by rw [htt]; exact hsh0
    have hsh2 : IntKind.u64.wrap (2 ^ min ((i : Int) % 64).toNat 64) = ((2 ^ (i % 64) : Nat) : Int) := by rw [htt, Nat.min_eq_left (by omega)]; exact hsh0
    have hsb : IntKind.u64.wrap (((2 ^ (i % 64) : Nat) : Int) - 1) = ((2 ^ (i % 64) - 1 : Nat) : Int) := by
      rw [show (((2 ^ (i % 64) : Nat) : Int) - 1) = ((2 ^ (i % 64) - 1 : Nat) : Int) by omega]
      exact Wf.wrapu (by omega)
    have hand : Go.bits .and .u64 (Wf.wordAt bs (i / 64) : Nat) ((2 ^ (i % 64) - 1 : Nat) : Int) = ((Wf.wordAt bs (i / 64) % 2 ^ (i % 64) : Nat) : Int) := by
      rw [Wf.and_nat _ _ (Wf.wordAt_lt _ _) (by omega), Nat.and_two_pow_sub_one_eq_mod]
    have hon := Wf.ones_at bs (i / 64) (i % 64) (by omega)
    rw [Nat.div_add_mod] at hon
    have hml : Wf.wordAt bs (i / 64) % 2 ^ (i % 64) < 18446744073709551616 := Nat.lt_of_le_of_lt (Nat.mod_le _ _) (Wf.wordAt_lt _ _)
    have HML := Aside0.mk (And.intro hml hon)
    clear hml hon hp hp1 hsh hsh2
    generalize hP : 2 ^ (i % 64) = P2 at *
    clear hP
    have hq : (i : Int) / 64 = ((i / 64 : Nat) : Int) := by omega
    have hr : (i : Int) % 64 = ((i % 64 : Nat) : Int) := by omega
    have hr64 : i % 64 < 64 := by omega
    have htm : Int.tmod (i : Int) 64 = ((i % 64 : Nat) : Int) := by rw [Int.tmod_eq_emod_of_nonneg (by omega)]; omega
    rw [hq] at hwq
    clear r1 r2 htt hx
    generalize i / 64 = j at *
    generalize i % 64 = t at *
    generalize (bs.length + 63) / 64 = m at *
    go_enter Try.func22, Try.ntmps22
    go_wp2_with fail
    go_quiet (first | (go_at_call 26; refine (ones_calls _ HML.out.1 _).mono ?_; rintro e w' ⟨rfl, hD⟩; obtain ⟨nd, rfl⟩ := hD.out; exact ⟨rfl, _, World.drewN_drewN _ _ _⟩))
    go_wp2_with fail
    go_ret
    refine ⟨?_, ⟨nq, rfl⟩⟩
    have hle := Wf.ones_le (bs.take i)
    rw [List.length_take] at hle
    rw [HML.out.2]
    have hb := HML.out.2
    have hw : wrap64 ((Wf.ones (bs.take (64 * j)) : Int) + (Wf.popc 64 (Wf.wordAt bs j % P2) : Int)) = ((Wf.ones (bs.take (64 * j)) + Wf.popc 64 (Wf.wordAt bs j % P2) : Nat) : Int) := by unfold wrap64; omega
    rw [← hw]
    rfl
  · have hx : decide ((i : Int) % 64 > 0) = false := by simp; omega
    have hx3 : ¬ (0 < (i : Int) % 64) := by omega
    go_enter Try.func22, Try.ntmps22
    go_wp2_with fail
    go_ret
    refine ⟨?_, Drawn0.refl _⟩
    have : 64 * (i / 64) = i := by omega
    show Ending.returned (Value.int .i64 ((Wf.ones (bs.take (64 * (i / 64))) : Nat) : Int)) = _
    rw [this]
end Go.Proofs.Ytaoiljbbfcpfiaa
