/- A word for the rows: an argument that is a slice of documents is no longer than its room. -/
import Derived.Test.YtadekjidjhglaaaRo
set_option linter.unusedVariables false
set_option linter.unusedSimpArgs false
namespace Go.Proofs.Ytadekjidjhglaaa
open Go.RowKit Go.Proofs.YtadekjidjhglaaaW.PrintWords
open Go.ChangeShapes Go.WideShapes Go.ChangeAt
theorem docs_le {H : Type} {enc : TypeId × Value → H} {W : World} {d : DataW H} {ps : List MemPlace} {a : Option Addr} {len cap : Nat}
    (h : DataW.Trod enc Try.prog W 0 (fun _ => true) true 22 (.slice a len cap) d ps) : ∃ ds : List (List Int), (Kd.slice 5 (Kd.int .u8)).C W a len ds ∧ Sf.Bytes ds ∧ len ≤ cap := by
  obtain ⟨ds, h1, h2⟩ := docs_of h
  refine ⟨ds, h1, h2, ?_⟩
  obtain ⟨fuel, hf⟩ := h
  rcases Go.Deep.open_int_rows Try.underlying22 Try.underlying23 Try.underlying5 (by kernel_rfl) (by kernel_rfl) hf with ⟨hcs, _⟩ | ⟨a', len', cap', A, L, C, Z, hcs, _, hl, hm, _, hr⟩
  · simp [Value.cells] at hcs
    obtain ⟨rfl, rfl, rfl⟩ := hcs
    exact Nat.le_refl _
  · simp [Value.cells] at hcs
    obtain ⟨rfl, rfl, rfl⟩ := hcs
    exact hl
end Go.Proofs.Ytadekjidjhglaaa
