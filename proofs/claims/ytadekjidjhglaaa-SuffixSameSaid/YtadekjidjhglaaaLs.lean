/- Walk of the law SuffixSame. -/
import Derived.Test.YtadekjidjhglaaaRo
import Derived.Test.YtadekjidjhglaaaSj
import Derived.Test.YtadekjidjhglaaaBu
set_option linter.unusedVariables false
set_option linter.unusedSimpArgs false
namespace Go.Proofs.Ytadekjidjhglaaa
open Go.RowKit Go.Proofs.YtadekjidjhglaaaW.PrintWords Go.Proofs.YtadekjidjhglaaaW.PrintLast Go.Proofs.YtadekjidjhglaaaW.PrintMore

theorem array_nil (w : World) : Calls Try.prog 18 #[.pointer none] w fun e w' => e = .returned (.slice none 0 0) ∧ w = w' := by
  go_enter Try.func18, Try.ntmps18
  go_wp2
  go_ret
  exact ⟨rfl, rfl⟩

set_option maxRecDepth 100000 in
set_option maxHeartbeats 1000000 in
theorem same_row (A : Option Addr) (n c : Nat) (d : List Int) (w : World)
    (h : Kd.C (Kd.int .u8) w A n d) (hwf : ∀ x ∈ d, (Lit.int .u8 x).wf = true) (hc : n ≤ c) :
    Calls Try.prog 7 #[.slice A n c] w fun e w' => e = .returned (.bool true) ∧ Below w.heap.size w w' := by
  have H := Aside0.mk h
  have HBy : Aside0 (Sf.Bytes [d]) := ⟨fun x hx y hy => by rw [List.mem_singleton.1 hx] at hy; exact u8_bounds (hwf y hy)⟩
  have hnn := h.2.1
  clear h hwf
  by_cases hd : n ≤ 300
  · go_enter Try.func7, Try.ntmps7
    have hblk := blk_new w (.cells #[.slice A n c, .slice A n c] 23)
    have hBW : Below w.heap.size w (w.alloc (.cells #[.slice A n c, .slice A n c] 23)) := below_alloc (Below.refl _ _) _
    have hcA := Kd.C_below H.out hBW
    have hl : d.length = n := H.out.1
    have hC : (Kd.slice 5 (Kd.int .u8)).C (w.alloc (.cells #[.slice A n c, .slice A n c] 23)) (some ⟨w.heap.size, 0, none⟩) 2 [d, d] := C_docs hblk (by simp) (fun j' x hj => by
      match j', hj with
      | 0, hj => simp at hj; subst hj; rw [hl]; exact ⟨_, _, rfl, hc, hcA⟩
      | 1, hj => simp at hj; subst hj; rw [hl]; exact ⟨_, _, rfl, hc, hcA⟩
      | j' + 2, hj => simp at hj)
    have hF : Fits [d, d] := ⟨by simp, by simp; omega, by simp [Sf.lenF]; omega, fun x hx => HBy.out x (by simpa using hx)⟩
    have HLF : Aside0 (Sf.lenF [d, d] = 2 * (n + 1)) := ⟨by simp [Sf.lenF]; omega⟩
    have HLD := Aside0.mk hl
    have HC := Aside0.mk hC
    have HF := Aside0.mk hF
    have HBW := Aside0.mk hBW
    clear hblk hcA hC hF hBW hl
    go_wp2_with fail
    refine (made_calls _ 2 2 [d, d] _ HC.out HF.out).mono ?_
    rintro e w4 ⟨g, rfl, hT, hg, hB⟩
    have HT := Aside0.mk hT
    have HB4 := Aside0.mk (below_then HBW.out HBW.out.size hB)
    clear hT hB hg HC HBW
    go_wp2_with fail
    have HRL : Aside0 ((Sf.rowF [d, d]).length = 2 * (n + 1)) := ⟨by rw [Sf.rowF_length]; exact HLF.out⟩
    refine (array_calls g [d, d] _ HT.out HF.out.b HF.out.n (by rw [HRL.out]; omega)).mono ?_
    rintro e w5 ⟨v, sa, rfl, hs, hR, hB⟩
    obtain ⟨Av, cv, rfl, hcv, hCv⟩ := R_is (n := 2 * (n + 1)) hR (by rw [← HRL.out, ← Sf.r0_len, ← Sf.SA_len hs]; simp [Sf.ni])
    have HS := Aside0.mk hs
    have HCv := Aside0.mk hCv
    have HB45 := Aside0.mk hB
    have HBW5 := Aside0.mk (below_then HB4.out HB4.out.size hB)
    obtain ⟨os, hos⟩ := Sf.same_at HBy.out hs
    rw [HLD.out] at hos
    have HOS := Aside0.mk hos
    clear hs hCv hB hR hos
    have hne : ((((2 * (n + 1) : Nat)) : Int) != 2 * ((n : Int) + 1)) = false := by simp
    generalize hN : 2 * (n + 1) = N at *
    go_wp2_with fail
    go_loopw [5, 6, 7, 8, 9, 10, 11] (fun v5 v6 v7 v8 v9 v10 v11 w' => ∃ i : Nat, v5 = .int .i64 (2 * i : Nat) ∧ Aside0 (i ≤ n + 1) ∧ Aside0 (Below w5.heap.size w5 w')) (fun v5 _ _ _ _ _ _ _ => N - (intOf v5).toNat)
    case atStart => exact ⟨0, rfl, ⟨Nat.zero_le _⟩, ⟨Below.refl _ _⟩⟩
    case round =>
      obtain ⟨i, rfl, HI, HB⟩ := hrel
      by_cases hlt : i < n + 1
      · obtain ⟨h1, h2, h3, h4⟩ := HOS.out i hlt
        obtain ⟨ad, e, hx1⟩ := at_nat HCv.out HB.out (2 * i) (by omega)
        cases e
        obtain ⟨_, e, hx2⟩ := at_nat HCv.out HB.out (2 * i + 1) (by omega)
        cases e
        rw [Sf.ni_getD, h1] at hx1
        rw [Sf.ni_getD, h3] at hx2
        have hiN : 2 * i < N := by omega
        have hiN2 : 2 * i + 1 < N := by omega
        have HAT1 := Aside0.mk (fun (W : World) (hB : Below w5.heap.size w5 W) => at_calls g [d, d] W (TextAt.below HT.out (below_then HB45.out HB45.out.size hB)) HF.out.n (by rw [HRL.out]; omega) h2)
        have HAT2 := Aside0.mk (fun (W : World) (hB : Below w5.heap.size w5 W) => at_calls g [d, d] W (TextAt.below HT.out (below_then HB45.out HB45.out.size hB)) HF.out.n (by rw [HRL.out]; omega) h4)
        generalize Sf.placeF [d, d] (0, os.getD i 0) = p1 at *
        generalize Sf.placeF [d, d] (1, os.getD i 0) = p2 at *
        generalize os.getD i 0 = o at *
        have hw1 : wrap64 (((2 * i : Nat) : Int) + 1) = ((2 * i + 1 : Nat) : Int) := by rw [Sf.wrap64_in' _ (by omega)]; omega
        have hw1' : IntKind.i64.wrap (((2 * i : Nat) : Int) + 1) = ((2 * i + 1 : Nat) : Int) := by rw [IntKind.wrap_i64]; omega
        have hw2 : wrap64 (((2 * i : Nat) : Int) + 2) = ((2 * (i + 1) : Nat) : Int) := by rw [Sf.wrap64_in' _ (by omega)]; omega
        have HE2 : Aside0 ((2 * i : Nat) + 2 = 2 * (i + 1)) := ⟨by omega⟩
        have hoo : ((o : Int) != (o : Int)) = false := by simp
        clear h1 h2 h3 h4
        generalize 2 * i = i2 at *
        generalize i2 + 1 = i3 at *
        go_wp2_with (first | (go_at_call 31; refine (HAT1.out _ HB.out).mono ?_; rintro e w' ⟨rfl, hD⟩; have hB6 := below_then HB.out HB.out.size hD.below; have HB6 := Aside0.mk hB6; replace hx2 := pw_cell_below hD.below hx2; clear hB6 hD HAT1) | (go_at_call 31; refine (HAT2.out _ HB6.out).mono ?_; rintro e w' ⟨rfl, hD⟩; have HB7 := Aside0.mk (below_then HB6.out HB6.out.size hD.below); clear hD HAT2))
        exact ⟨⟨i + 1, by rw [← HE2.out]; go_num, ⟨by omega⟩, HB7⟩, by simp [intOf]; omega⟩
      · have hj : i = n + 1 := by have := HI.out; omega
        have HOK := Aside0.mk (fun (W : World) (hB : Below w5.heap.size w5 W) => ok_calls g [d, d] W (TextAt.below HT.out (below_then HB45.out HB45.out.size hB)) HF.out.b HF.out.n (by rw [HRL.out]; omega) Av N cv hcv sa (Kd.C_below HCv.out hB) HS.out)
        have hiN : ¬ (((2 * i : Nat) : Int) < (N : Int)) := by omega
        clear hj
        generalize 2 * i = i2 at *
        go_wp2_with (first | (go_at_call 18; refine (array_nil _).mono ?_; rintro e w' ⟨rfl, rfl⟩) | (go_at_call 23; refine (HOK.out _ HB.out).mono ?_; rintro e w9 ⟨rfl, hB9⟩; have HB9 := Aside0.mk (below_then HBW5.out HBW5.out.size (below_then HB.out HB.out.size hB9)); clear hB9) | (go_at_call 16; refine (awake10_calls _).mono ?_; rintro e w10 ⟨rfl, hB10⟩; have HB10 := Aside0.mk (below_then HB9.out HB9.out.size hB10); clear hB10))
        go_ret
        exact ⟨rfl, HB10.out⟩
  · go_enter Try.func7, Try.ntmps7
    go_wp2_with (first | (go_at_call 16; refine (awake10_calls _).mono ?_; rintro e w' ⟨rfl, hB⟩; have HB := Aside0.mk hB; clear hB))
    go_ret
    exact ⟨rfl, HB.out⟩
end Go.Proofs.Ytadekjidjhglaaa
