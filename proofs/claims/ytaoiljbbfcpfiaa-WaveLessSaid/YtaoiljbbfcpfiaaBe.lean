/- Walks: Vec.Zeros. -/
import Derived.Test.YtaoiljbbfcpfiaaBd
set_option linter.unusedVariables false
set_option linter.unusedSimpArgs false
namespace Go.Proofs.Ytaoiljbbfcpfiaa
open Go.RowKit Go.Proofs.YtaoiljbbfcpfiaaW.PrintWords Go.Proofs.YtaoiljbbfcpfiaaW.PrintLast Go.Proofs.YtaoiljbbfcpfiaaW.PrintMore
attribute [local go_sem] max2_int min2_int max_two min_two max_three min_three max_four min_four
set_option maxRecDepth 100000 in
set_option maxHeartbeats 2000000 in
theorem zeros_calls (g : Nat) (bs : List Bool) (w : World) (hV : VecAt w g bs) (hn : bs.length ≤ 100000) (i : Nat) (hi : i ≤ bs.length) :
    Calls Try.prog 23 #[.pointer (some ⟨g, 0, none⟩), .int .i64 (i : Int)] w fun e w' => e = .returned (.int .i64 ((i - Wf.ones (bs.take i) : Nat) : Int)) ∧ Drawn0 w w' := by
  have HR := Aside0.mk (rank_calls g bs w hV hn i hi)
  obtain ⟨A1, c1, A2, c2, h0, h1, h2, l1, l2, r1, r2⟩ := hV.out
  have hmx : mx (i : Int) 0 = (i : Int) := by unfold mx; omega
  have hmn : mn (i : Int) (bs.length : Int) = (i : Int) := by unfold mn; omega
  have hle := Wf.ones_le (bs.take i)
  rw [List.length_take] at hle
  have hw : wrap64 ((i : Int) - (Wf.ones (bs.take i) : Int)) = ((i - Wf.ones (bs.take i) : Nat) : Int) := by unfold wrap64; omega
  have HW := Aside0.mk hw
  clear hV r1 r2 hle hw
  go_enter Try.func23, Try.ntmps23
  go_wp2_with (first | (go_at_call 22; refine HR.out.mono ?_; rintro e w' ⟨rfl, hD⟩; have HD := Aside0.mk hD; clear hD))
  go_ret
  refine ⟨?_, HD.out⟩
  rw [← HW.out]
  first | rfl | (simp; done) | skip
end Go.Proofs.Ytaoiljbbfcpfiaa
