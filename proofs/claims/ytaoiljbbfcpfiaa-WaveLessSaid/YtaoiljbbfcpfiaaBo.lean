/- Walks: New refuses; awake. -/
import Derived.Test.YtaoiljbbfcpfiaaBn
set_option linter.unusedVariables false
set_option linter.unusedSimpArgs false
namespace Go.Proofs.Ytaoiljbbfcpfiaa
open Go.RowKit Go.Proofs.YtaoiljbbfcpfiaaW.PrintWords Go.Proofs.YtaoiljbbfcpfiaaW.PrintLast Go.Proofs.YtaoiljbbfcpfiaaW.PrintMore
set_option maxRecDepth 100000 in
theorem newbig_calls (A : Option Addr) (n c : Nat) (l : List Int) (w : World) (h : Kd.C (Kd.int .u16) w A n l) (hn : n ≤ 100000) (hl : bigB l = true) :
    Calls Try.prog 5 #[.slice A n c] w fun e w' => e = .returned (.tuple #[.pointer none, .int .i64 1]) ∧ w = w' := by
  have HD := Aside0.mk h
  have HLB := Aside0.mk hl
  clear h hl
  go_enter Try.func5, Try.ntmps5
  go_wp2_with (first | (go_at_call 10; refine (contains_calls A n c l _ HD.out (by omega)).mono ?_; rw [HLB.out]; rintro e w' ⟨rfl, rfl⟩))
  go_ret2
  exact ⟨rfl, rfl⟩
theorem C_lit (W : World) (xs : List Int) (hn : xs.length ≤ 1000) : (Kd.int .u16).C (W.alloc (.cells (xs.map (Value.int .u16)).toArray 33)) (some ⟨W.heap.size, 0, none⟩) xs.length xs := by
  have h1 := World.ownsRow_lit (base := 0) (e := 33) (size := 1) W (xs.map (Value.int .u16)).toArray xs.length (Nat.zero_le _) (by simp only [maxLen]; omega) (by simp)
  exact own_C (Kd.R_of_own (enc := Value.int .u16) (h1 := fun _ => rfl) (xs := xs) (ok := fun _ => True) (by simpa [encs] using h1) (fun _ _ => trivial))
theorem aw_facts {W : World} {g : Nat} (hM : MatAt W g [5, 1, 5] 3) :
    (∀ W1, Drawn0 W W1 → Calls Try.prog 7 #[.pointer (some ⟨g, 0, none⟩), .int .i64 5, .int .i64 3] W1 fun e w' => e = .returned (.int .i64 2) ∧ Drawn0 W w') ∧
    (∀ W1, Drawn0 W W1 → Calls Try.prog 17 #[.pointer (some ⟨g, 0, none⟩), .int .i64 5, .int .i64 1] W1 fun e w' => e = .returned (.int .i64 2) ∧ Drawn0 W w') ∧
    (∀ W1, Drawn0 W W1 → Calls Try.prog 6 #[.pointer (some ⟨g, 0, none⟩), .int .i64 5, .int .i64 3] W1 fun e w' => e = .returned (.int .i64 1) ∧ Drawn0 W w') ∧
    (∀ W1, Drawn0 W W1 → Calls Try.prog 8 #[.pointer (some ⟨g, 0, none⟩), .int .i64 1] W1 fun e w' => e = .returned (.int .i64 1) ∧ Drawn0 W w') ∧
    (∀ W1, Drawn0 W W1 → Calls Try.prog 18 #[.pointer (some ⟨g, 0, none⟩), .int .i64 5] W1 fun e w' => e = .returned (.int .i64 2) ∧ Drawn0 W w') := by
  have hl : Syms [5, 1, 5] := by unfold Syms; decide
  have c2 : countF [5, 1, 5] 5 3 = 2 := by decide
  refine ⟨fun W1 hD => ?_, fun W1 hD => ?_, fun W1 hD => ?_, fun W1 hD => ?_, fun W1 hD => ?_⟩
  · refine (mrank_calls g 3 [5, 1, 5] W1 (hM.below hD.below) hl (by omega) 5 (by omega) 3 (Nat.le_refl 3)).mono ?_
    rintro e w' ⟨rfl, h⟩
    rw [c2]
    exact ⟨rfl, drawn_two hD h⟩
  · refine (mselect_calls g 3 [5, 1, 5] W1 (hM.below hD.below) hl (by omega) 5 (by omega) 1 (by decide)).mono ?_
    rintro e w' ⟨p, rfl, h1, h2, h3, h⟩
    have hp : p = 2 := by
      have : p = 0 ∨ p = 1 ∨ p = 2 := by omega
      rcases this with rfl | rfl | rfl
      · exact absurd h2 (by decide)
      · exact absurd h3 (by decide)
      · rfl
    subst hp
    exact ⟨rfl, drawn_two hD h⟩
  · refine (mless_calls g 3 [5, 1, 5] W1 (hM.below hD.below) hl (by omega) 5 3 (Nat.le_refl 3)).mono ?_
    rintro e w' ⟨rfl, h⟩
    exact ⟨rfl, drawn_two hD h⟩
  · refine (mget_calls g 3 [5, 1, 5] W1 (hM.below hD.below) hl 1 (by omega)).mono ?_
    rintro e w' ⟨rfl, h⟩
    exact ⟨rfl, drawn_two hD h⟩
  · refine (mcount_calls g 3 [5, 1, 5] W1 (hM.below hD.below) hl (by omega) 5 (by omega)).mono ?_
    rintro e w' ⟨rfl, h⟩
    rw [c2]
    exact ⟨rfl, drawn_two hD h⟩
set_option maxRecDepth 100000 in
set_option maxHeartbeats 2000000 in
theorem awake_calls (w : World) : Calls Try.prog 9 #[] w fun e w' => e = .returned (.bool true) ∧ Below w.heap.size w w' := by
  go_enter Try.func9, Try.ntmps9
  have HC1 := Aside0.mk (C_lit w [5, 1, 5] (by decide))
  have HB1 := Aside0.mk (below_alloc (Below.refl w.heap.size w) (.cells #[.int .u16 5, .int .u16 1, .int .u16 5] 33))
  go_wp2_with (first | (go_at_call 5; refine (new_calls _ 3 3 [5, 1, 5] _ HC1.out (by omega) (by decide) (by decide)).mono ?_; rintro e w2 ⟨g, A1, c1, rfl, hM, hB⟩; have HM := Aside0.mk hM.mat; have HB2 := Aside0.mk (below_then HB1.out HB1.out.size hB); have HC2 := Aside0.mk (C_lit w2 [257] (by decide)); have HB3 := Aside0.mk (below_alloc (Below.refl w2.heap.size w2) (.cells #[.int .u16 257] 33)); clear hM hB HC1 HB1) | (go_at_call 5; refine (newbig_calls _ 1 1 [257] _ HC2.out (by omega) (by decide)).mono ?_; rintro e w3 ⟨rfl, rfl⟩; have HM3 := Aside0.mk (HM.out.below HB3.out); have HB4 := Aside0.mk (below_then HB2.out HB2.out.size HB3.out); have HD := Aside0.mk (Drawn0.refl (w2.alloc (.cells #[.int .u16 257] 33))); have HQ := Aside0.mk (aw_facts HM3.out); clear HM HB2 HB3 HC2 HM3) | (go_at_call 7; refine (HQ.out.1 _ HD.out).mono ?_; rintro e w4 ⟨rfl, hD⟩; replace HD := Aside0.mk hD; clear hD) | (go_at_call 17; refine (HQ.out.2.1 _ HD.out).mono ?_; rintro e w5 ⟨rfl, hD⟩; replace HD := Aside0.mk hD; clear hD) | (go_at_call 6; refine (HQ.out.2.2.1 _ HD.out).mono ?_; rintro e w6 ⟨rfl, hD⟩; replace HD := Aside0.mk hD; clear hD) | (go_at_call 8; refine (HQ.out.2.2.2.1 _ HD.out).mono ?_; rintro e w7 ⟨rfl, hD⟩; replace HD := Aside0.mk hD; clear hD) | (go_at_call 18; refine (HQ.out.2.2.2.2 _ HD.out).mono ?_; rintro e w8 ⟨rfl, hD⟩; replace HD := Aside0.mk hD; clear hD))
  go_ret
  exact ⟨rfl, below_then HB4.out HB4.out.size HD.out.below⟩
end Go.Proofs.Ytaoiljbbfcpfiaa
