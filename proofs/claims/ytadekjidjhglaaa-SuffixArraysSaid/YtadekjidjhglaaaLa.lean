/- Walk of the law SuffixArrays. -/
import Derived.Test.YtadekjidjhglaaaRp
import Derived.Test.YtadekjidjhglaaaLr
import Derived.Test.YtadekjidjhglaaaBp
set_option linter.unusedVariables false
set_option linter.unusedSimpArgs false
namespace Go.Proofs.Ytadekjidjhglaaa
open Go.RowKit Go.Proofs.YtadekjidjhglaaaW.PrintWords Go.Proofs.YtadekjidjhglaaaW.PrintLast Go.Proofs.YtadekjidjhglaaaW.PrintMore

set_option maxRecDepth 100000 in
set_option maxHeartbeats 1000000 in
theorem arrays_row (A : Option Addr) (n c : Nat) (ds : List (List Int)) (w : World)
    (h : Kd.C (Kd.slice 5 (Kd.int .u8)) w A n ds) (hb : Sf.Bytes ds) (hc : n ≤ c) :
    Calls Try.prog 5 #[.slice A n c] w fun e w' => e = .returned (.bool true) ∧ Below w.heap.size w w' := by
  have H := Aside0.mk h
  have HBy := Aside0.mk hb
  clear h hb
  go_enter Try.func5, Try.ntmps5
  go_wp2_with fail
  refine (few_calls A n c ds _ H.out).mono ?_
  rintro e w' ⟨⟨b, rfl, hfew⟩, rfl⟩
  cases b with
  | false =>
    clear hfew
    go_wp2_with (first | (go_at_call 16; refine (awake10_calls _).mono ?_; rintro e w' ⟨rfl, hB⟩; have HB := Aside0.mk hB; clear hB))
    go_ret
    exact ⟨rfl, HB.out⟩
  | true =>
    have HF := Aside0.mk (fits_few (hfew rfl) HBy.out)
    have hn40 : n ≤ 40 := by have := hfew rfl; unfold fewF at this; rw [decide_eq_true_iff] at this; rw [← H.out.1]; exact this.1
    clear hfew
    go_wp2_with fail
    refine (made_calls A n c ds _ H.out HF.out.1).mono ?_
    rintro e w1 ⟨g, rfl, hT, hg, hB⟩
    have HT := Aside0.mk hT
    have HB1 := Aside0.mk hB
    clear hT hB hg
    go_wp2_with fail
    refine (strings_calls A n c ds _ (Kd.C_below H.out HB1.out) hc (by omega)).mono ?_
    rintro e w2 ⟨A2, c2, rfl, hc2, hC2, hB2⟩
    have HC2 := Aside0.mk hC2
    have HB12 := Aside0.mk hB2
    have HB2 := Aside0.mk (below_then HB1.out HB1.out.size hB2)
    clear hC2 hB2
    go_wp2_with fail
    have HRL : Aside0 ((Sf.rowF ds).length ≤ 60000) := ⟨by rw [Sf.rowF_length]; exact HF.out.1.t⟩
    refine (array_calls g ds _ (TextAt.below HT.out HB12.out) HF.out.1.b HF.out.1.n HRL.out).mono ?_
    rintro e w3 ⟨v, sa, rfl, hs, hR, hB⟩
    have hsl : sa.length = (Sf.rowF ds).length := by rw [Sf.SA_len hs, Sf.r0_len]
    generalize hN : (Sf.rowF ds).length = N at *
    obtain ⟨Av, cv, rfl, hcv, hCv⟩ := R_is (n := N) hR (by simpa [Sf.ni] using hsl)
    have HS := Aside0.mk hs
    have HCv := Aside0.mk hCv
    have HB23 := Aside0.mk hB
    have HNN := Aside0.mk (And.intro hN hsl)
    have HB3 := Aside0.mk (below_then HB2.out HB2.out.size hB)
    clear hs hCv hB hR hN hsl
    go_wp2_with fail
    refine (sort_calls A n c ds _ (Kd.C_below H.out HB3.out) HF.out.1).mono ?_
    rintro e w4 ⟨v4, sa4, rfl, hs4, hR4, hB4⟩
    obtain rfl : sa4 = sa := Sf.SA_unique hs4 HS.out
    obtain ⟨A4, c4, rfl, hc4, hC4⟩ := R_is (n := N) hR4 (by have := HNN.out.2; simpa [Sf.ni] using this)
    have HC4 := Aside0.mk hC4
    have HB34 := Aside0.mk hB4
    have HB4 := Aside0.mk (below_then HB3.out HB3.out.size hB4)
    have HB24 := Aside0.mk (below_then HB23.out HB23.out.size hB4)
    clear hs4 hR4 hC4 hB4
    go_wp2_with fail
    refine (refArray_calls ds HF.out.1.b (by have := HF.out.2; omega) A2 n c2 hc2 _ (Kd.C_below HC2.out HB24.out)).mono ?_
    rintro e w5 ⟨v5, sa5, rfl, hs5, hR5, hB5⟩
    obtain rfl : sa5 = sa4 := Sf.SA_unique hs5 HS.out
    obtain ⟨A5, c5, rfl, hc5, hC5⟩ := R_is (n := N) hR5 (by have := HNN.out.2; simpa [Sf.ni] using this)
    have HC5 := Aside0.mk hC5
    have HB45 := Aside0.mk hB5
    have HB35 := Aside0.mk (below_then HB34.out HB34.out.size hB5)
    have HB25 := Aside0.mk (below_then HB24.out HB24.out.size hB5)
    have HB5 := Aside0.mk (below_then HB4.out HB4.out.size hB5)
    clear hs5 hR5 hC5 hB5
    go_wp2_with fail
    refine (sameInts_calls Av N cv _ A5 N c5 _ _ (Kd.C_below HCv.out HB35.out) HC5.out).mono ?_
    rintro e w6 ⟨rfl, hB6⟩
    rw [decide_eq_true rfl]
    have HB56 := Aside0.mk hB6
    clear hB6
    go_wp2_with fail
    refine (sameInts_calls A4 N c4 _ A5 N c5 _ _ (Kd.C_below HC4.out (below_then HB45.out HB45.out.size HB56.out)) (Kd.C_below HC5.out HB56.out)).mono ?_
    rintro e w7 ⟨rfl, hB7⟩
    rw [decide_eq_true rfl]
    have HB57 := Aside0.mk (below_then HB56.out HB56.out.size hB7)
    have HB37 := Aside0.mk (below_then HB35.out HB35.out.size HB57.out)
    clear hB7
    go_wp2_with fail
    have HB17 : Aside0 (Below w1.heap.size w1 w7) := ⟨below_then HB12.out HB12.out.size (below_then HB25.out HB25.out.size HB57.out)⟩
    refine (ok_calls g ds _ (TextAt.below HT.out HB17.out) HF.out.1.b HF.out.1.n (by rw [HNN.out.1]; exact HRL.out) Av N cv hcv sa5 (Kd.C_below HCv.out HB37.out) HS.out).mono ?_
    rintro e w8 ⟨rfl, hB8⟩
    have HB38 := Aside0.mk (below_then HB37.out HB37.out.size hB8)
    have HB58 := Aside0.mk (below_then HB57.out HB57.out.size hB8)
    have HB18 := Aside0.mk (below_then HB17.out HB17.out.size hB8)
    clear hB8
    go_wp2_with fail
    refine (common_calls g ds _ (TextAt.below HT.out HB18.out) HF.out.1.b HF.out.1.n (by rw [HNN.out.1]; exact HRL.out) Av N cv hcv sa5 (Kd.C_below HCv.out HB38.out) HS.out).mono ?_
    rintro e w9 ⟨v9, rfl, hR9, hB9⟩
    obtain ⟨A9, c9, rfl, hc9, hC9⟩ := R_is (n := N) hR9 (by rw [Sf.comF_length, Sf.r0_len]; exact HNN.out.1)
    have HC9 := Aside0.mk hC9
    have HB29 := Aside0.mk (below_then HB25.out HB25.out.size (below_then HB58.out HB58.out.size hB9))
    have HB39 := Aside0.mk (below_then HB38.out HB38.out.size hB9)
    clear hR9 hC9 hB9
    go_wp2_with fail
    refine (rows_calls ds HF.out.1.b (by have := HF.out.2; omega) A2 n c2 hc2 _ (Kd.C_below HC2.out HB29.out)).mono ?_
    rintro e w10 ⟨A10, c10, r, rfl, hc10, hC10, hS10, hB10⟩
    have HC10 := Aside0.mk hC10
    have HS10 := Aside0.mk hS10
    have HB910 := Aside0.mk hB10
    clear hC10 hS10 hB10
    go_wp2_with fail
    refine (refCommon_calls ds HF.out.1.b A2 n c2 A10 _ c10 r _ (Kd.C_below HC2.out (below_then HB29.out HB29.out.size HB910.out)) HC10.out HS10.out (by have := HF.out.2; omega)).mono ?_
    rintro e w11 ⟨v11, rfl, hR11, hB11⟩
    have hSAr : Sf.SA (Sf.r0 ds) (r.map (Sf.placeF ds)) := Sf.SA_of_hits HF.out.1.b HS10.out.1 HS10.out.2
    rw [Sf.SA_unique hSAr HS.out] at hR11
    obtain ⟨A11, c11, rfl, hc11, hC11⟩ := R_is (n := N) hR11 (by rw [Sf.comF_length, Sf.r0_len]; exact HNN.out.1)
    have HC11 := Aside0.mk hC11
    have HB911 := Aside0.mk (below_then HB910.out HB910.out.size hB11)
    clear hR11 hC11 hB11 hSAr
    go_wp2_with fail
    refine (sameInts_calls A9 N c9 _ A11 N c11 _ _ (Kd.C_below HC9.out HB911.out) HC11.out).mono ?_
    rintro e w12 ⟨rfl, hB12⟩
    rw [decide_eq_true rfl]
    have HBF := Aside0.mk (below_then HB3.out HB3.out.size (below_then HB39.out HB39.out.size (below_then HB911.out HB911.out.size hB12)))
    clear hB12
    go_wp2_with (first | (go_at_call 16; refine (awake10_calls _).mono ?_; rintro e w13 ⟨rfl, hB13⟩; have HB13 := Aside0.mk (below_then HBF.out HBF.out.size hB13); clear hB13))
    go_ret
    exact ⟨rfl, HB13.out⟩
end Go.Proofs.Ytadekjidjhglaaa
