/- Walks: text.Size, whole. -/
import Derived.Test.YtadekjidjhglaaaBu
set_option linter.unusedVariables false
set_option linter.unusedSimpArgs false
namespace Go.Proofs.Ytadekjidjhglaaa
open Go.RowKit Go.Proofs.YtadekjidjhglaaaW.PrintWords Go.Proofs.YtadekjidjhglaaaW.PrintLast Go.Proofs.YtadekjidjhglaaaW.PrintMore

set_option maxRecDepth 100000 in
set_option maxHeartbeats 1000000 in
theorem size_calls (g : Nat) (ds : List (List Int)) (w : World) (hT : TextAt w g ds) (hm : ds.length ≤ 500) {i : Nat} (hi : i < ds.length) :
    Calls Try.prog 60 #[.pointer (some ⟨g, 0, none⟩), .int .i64 i] w fun e w' => e = .returned (.int .i64 (Sf.docF ds i).length) ∧ w = w' := by
  obtain ⟨A0, c0, A1, c1, A2, c2, h0, h1, h2, l0, l2, r0, r1, r2⟩ := hT.out
  obtain ⟨ad, Ad, cd, e, hx, hcd, hC⟩ := at_doc r0 (Below.refl _ _) i hi
  cases e
  clear hT r0 r1 r2 hC
  generalize (Sf.docF ds i).length = k at *
  generalize ds.length = m at *
  go_enter Try.func60, Try.ntmps60
  go_wp2_with fail
  go_ret
  exact ⟨rfl, rfl⟩

set_option maxRecDepth 100000 in
set_option maxHeartbeats 1000000 in
theorem whole_calls (g : Nat) (ds : List (List Int)) (w : World) (hT : TextAt w g ds) (hm : ds.length ≤ 500) (hn : (Sf.rowF ds).length ≤ 60000) {h : Nat × Nat} (hh : h ∈ Sf.hitsF 0 ds) (k : Nat) (hk : k ≤ 1000000) :
    Calls Try.prog 32 #[.pointer (some ⟨g, 0, none⟩), .int .i64 (Sf.placeF ds h : Nat), .int .i64 k] w fun e w' => e = .returned (.bool (decide (((Sf.docF ds h.1).drop h.2).length = k))) ∧ Drawn0 w w' := by
  have hbd := Sf.hit_bounds hh
  have hlt := Sf.hit_lt ds hh
  have HAT := Aside0.mk (at_calls g ds w hT hm hn hh)
  have HSZ := Aside0.mk (fun (W : World) (hB : Below w.heap.size w W) => size_calls g ds W (TextAt.below hT hB) hm hbd.1)
  rw [Sf.rowF_length] at hn
  have hb2 : h.2 ≤ 60000 := by unfold Sf.placeF at hlt; omega
  have hdec : ((((h.2 + k : Nat)) : Int) == (((Sf.docF ds h.1).length : Nat) : Int)) = decide (((Sf.docF ds h.1).drop h.2).length = k) := by
    rw [List.length_drop, Bool.eq_iff_iff, beq_iff_eq, decide_eq_true_iff]
    omega
  have HD := Aside0.mk hdec
  have hw : IntKind.i64.wrap ((h.2 : Int) + (k : Int)) = ((h.2 + k : Nat) : Int) := by rw [IntKind.wrap_i64]; omega
  have hw' : wrap64 ((h.2 : Int) + (k : Int)) = ((h.2 + k : Nat) : Int) := by rw [Sf.wrap64_in' _ (by omega)]; omega
  clear hT hbd hlt hdec
  generalize Sf.placeF ds h = p at *
  generalize (Sf.docF ds h.1).length = L at *
  generalize h.2 + k = hk2 at *
  go_enter Try.func32, Try.ntmps32
  go_wp2_with (first | (go_at_call 31; refine HAT.out.mono ?_; rintro e w' ⟨rfl, hD⟩; have HDR := Aside0.mk hD; clear hD) | (go_at_call 60; refine (HSZ.out _ HDR.out.below).mono ?_; rintro e w' ⟨rfl, rfl⟩))
  go_ret
  exact ⟨by rw [← HD.out]; rfl, HDR.out⟩
end Go.Proofs.Ytadekjidjhglaaa
