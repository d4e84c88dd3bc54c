/- Walks: a Vec in memory; Vec.Rank. -/
import Derived.Test.YtaoiljbbfcpfiaaBb
import Derived.Test.YtaoiljbbfcpfiaaPa
import Derived.Test.YtaoiljbbfcpfiaaSc
import Derived.Test.YtaoiljbbfcpfiaaSg
set_option linter.unusedVariables false
set_option linter.unusedSimpArgs false
namespace Go.Proofs.Ytaoiljbbfcpfiaa
open Go.RowKit Go.Proofs.YtaoiljbbfcpfiaaW.PrintWords Go.Proofs.YtaoiljbbfcpfiaaW.PrintLast Go.Proofs.YtaoiljbbfcpfiaaW.PrintMore
attribute [local go_sem] max2_int min2_int max_two min_two max_three min_three max_four min_four
def wordsL (bs : List Bool) : List Int := (List.range ((bs.length + 63) / 64)).map (fun j => (Wf.wordAt bs j : Int))
def aheadL (bs : List Bool) : List Int := (List.range ((bs.length + 63) / 64 + 1)).map (fun j => (Wf.ones (bs.take (64 * j)) : Int))
/-- A Vec at block g. -/
structure VecAt (W : World) (g : Nat) (bs : List Bool) : Prop where
  mk ::
  (out : ∃ A1 c1 A2 c2, W.cell? ⟨g, 0, none⟩ = some (.int .i64 bs.length) ∧ W.cell? ⟨g, 1, none⟩ = some (.slice A1 ((bs.length + 63) / 64) c1) ∧ W.cell? ⟨g, 2, none⟩ = some (.slice A2 ((bs.length + 63) / 64 + 1) c2) ∧
    (bs.length + 63) / 64 ≤ c1 ∧ (bs.length + 63) / 64 + 1 ≤ c2 ∧ Kd.C (Kd.int .u64) W A1 ((bs.length + 63) / 64) (wordsL bs) ∧ Kd.C (Kd.int .i64) W A2 ((bs.length + 63) / 64 + 1) (aheadL bs))
theorem VecAt.below {W W1 : World} {g : Nat} {bs : List Bool} (h : VecAt W g bs) (hb : Below W.heap.size W W1) : VecAt W1 g bs := by
  obtain ⟨A1, c1, A2, c2, h0, h1, h2, l1, l2, r1, r2⟩ := h.out
  exact ⟨A1, c1, A2, c2, pw_cell_below hb h0, pw_cell_below hb h1, pw_cell_below hb h2, l1, l2, Kd.C_below r1 hb, Kd.C_below r2 hb⟩
theorem ones_calls (x : Nat) (hx : x < 18446744073709551616) (w : World) : Calls Try.prog 26 #[.int .u64 (x : Int)] w fun e w' => e = .returned (.int .i64 (Wf.popc 64 x : Nat)) ∧ Drawn0 w w' := bits_OnesCount64.calls _ _ w (Wf.ones_f x hx)
theorem bit_calls (c : Int) (k : Nat) (hc : 0 ≤ c ∧ c ≤ 256) (hk : k < 9) (w : World) : Calls Try.prog 13 #[.int .i64 c, .int .i64 (k : Int)] w fun e w' => e = .returned (.bool (Wf.bitF c k)) ∧ Drawn0 w w' := wave_bit.calls _ _ _ w (Wf.bit_f c k hc hk)
end Go.Proofs.Ytaoiljbbfcpfiaa
