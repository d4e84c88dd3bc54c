/- Walk of the law SuffixRanges. -/
import Derived.Test.YtadekjidjhglaaaRp
import Derived.Test.YtadekjidjhglaaaLr
import Derived.Test.YtadekjidjhglaaaBr
import Derived.Test.YtadekjidjhglaaaBt
set_option linter.unusedVariables false
set_option linter.unusedSimpArgs false
namespace Go.Proofs.Ytadekjidjhglaaa
open Go.RowKit Go.Proofs.YtadekjidjhglaaaW.PrintWords Go.Proofs.YtadekjidjhglaaaW.PrintLast Go.Proofs.YtadekjidjhglaaaW.PrintMore

set_option maxRecDepth 100000 in
set_option maxHeartbeats 1000000 in
theorem ranges_row (A : Option Addr) (n c : Nat) (ds : List (List Int)) (A2 : Option Addr) (n2 c2 : Nat) (p : List Int) (w : World)
    (h : Kd.C (Kd.slice 5 (Kd.int .u8)) w A n ds) (hb : Sf.Bytes ds) (hc : n ≤ c) (h2 : Kd.C (Kd.int .u8) w A2 n2 p) (hwf : ∀ x ∈ p, (Lit.int .u8 x).wf = true) (hc2 : n2 ≤ c2) :
    Calls Try.prog 6 #[.slice A n c, .slice A2 n2 c2] w fun e w' => e = .returned (.bool true) ∧ Below w.heap.size w w' := by
  have H := Aside0.mk h
  have H2 := Aside0.mk h2
  have HBy := Aside0.mk hb
  have HPy : Aside0 (Sf.Byte1 p) := ⟨fun x hx => u8_bounds (hwf x hx)⟩
  have hn2 := h2.2.1
  clear h hb h2 hwf
  by_cases hd : n2 ≤ 200
  · go_enter Try.func6, Try.ntmps6
    go_wp2_with fail
    refine (few_calls A n c ds _ H.out).mono ?_
    rintro e w' ⟨⟨b, rfl, hfew⟩, rfl⟩
    cases b with
    | false =>
      clear hfew
      go_wp2_with (first | (go_at_call 16; refine (awake10_calls _).mono ?_; rintro e w' ⟨rfl, hB⟩; have HB := Aside0.mk hB; clear hB))
      go_ret
      exact ⟨rfl, HB.out⟩
    | true =>
      have HF := Aside0.mk (fits_few (hfew rfl) HBy.out)
      have hn40 : n ≤ 40 := by have := hfew rfl; unfold fewF at this; rw [decide_eq_true_iff] at this; rw [← H.out.1]; exact this.1
      clear hfew
      go_wp2_with fail
      refine (made_calls A n c ds _ H.out HF.out.1).mono ?_
      rintro e w1 ⟨g, rfl, hT, hg, hB⟩
      have HT := Aside0.mk hT
      have HB1 := Aside0.mk hB
      clear hT hB hg
      go_wp2_with fail
      refine (strings_calls A n c ds _ (Kd.C_below H.out HB1.out) hc (by omega)).mono ?_
      rintro e w2 ⟨A3, c3, rfl, hc3, hC3, hB2⟩
      have HC3 := Aside0.mk hC3
      have HB12 := Aside0.mk hB2
      have HB2 := Aside0.mk (below_then HB1.out HB1.out.size hB2)
      clear hC3 hB2
      go_wp2_with fail
      refine (refArray_calls ds HF.out.1.b (by have := HF.out.2; omega) A3 n c3 hc3 _ HC3.out).mono ?_
      rintro e w3 ⟨v3, sa, rfl, hs, hR3, hB3⟩
      have HRL : Aside0 ((Sf.rowF ds).length ≤ 60000) := ⟨by rw [Sf.rowF_length]; exact HF.out.1.t⟩
      have hsl : sa.length = (Sf.rowF ds).length := by rw [Sf.SA_len hs, Sf.r0_len]
      have hrl : (Sf.rowF ds).length = Sf.lenF ds := Sf.rowF_length ds
      have hN3 := HF.out.2
      generalize hN : (Sf.rowF ds).length = N at *
      obtain ⟨Av, cv, rfl, hcv, hCv⟩ := R_is (n := N) hR3 (by simpa [Sf.ni] using hsl)
      have HS := Aside0.mk hs
      have HCv := Aside0.mk hCv
      have HB23 := Aside0.mk hB3
      have HNN := Aside0.mk (And.intro hN (And.intro hsl hrl))
      have HB3 := Aside0.mk (below_then HB2.out HB2.out.size hB3)
      have HB13 := Aside0.mk (below_then HB12.out HB12.out.size hB3)
      have hNs : N ≤ 3040 := by omega
      clear hs hCv hB3 hR3 hN hsl hrl hN3
      go_wp2_with fail
      refine (range_calls g ds _ (TextAt.below HT.out HB13.out) HF.out.1.b HF.out.1.n (by rw [HNN.out.1]; exact HRL.out) Av N cv hcv sa HCv.out HS.out A2 n2 c2 p (Kd.C_below H2.out HB3.out) HPy.out (by omega)).mono ?_
      rintro e w4 ⟨lo, hi, rfl, hsp, hB4⟩
      have HSP := Aside0.mk hsp
      have HB24 := Aside0.mk (below_then HB23.out HB23.out.size hB4)
      have HB4 := Aside0.mk (below_then HB3.out HB3.out.size hB4)
      have hcv1 := Kd.C_string (P := Try.prog) (A := A2) (c := c2) Try.underlying23 Try.underlying5 Try.underlying9 (Kd.C_below H2.out (below_drew HB4.out))
      clear hsp hB4
      go_upto_region 9 with fail
      go_cut [10, 11] (fun s10 s11 wx => s10 = .int .i64 lo ∧ s11 = .int .i64 hi ∧ Aside0 (Below w4.heap.size w4 wx))
      case first =>
        go_region_law
          (first
            | (refine goes_ (N := some 39) Try.func27 (by kernel_rfl) rfl #[.slice A3 n c3] (by rfl) rfl rfl (by simp [Act.eval, Act.put]) ?_; refine (rows_calls ds HF.out.1.b (by have := HF.out.2; omega) A3 n c3 hc3 w4.drew (Kd.C_below HC3.out (below_drew HB24.out))).mono ?_; rintro e w5 ⟨A5, c5, r, rfl, hc5, hC5, hS5, hB5'⟩; have hB5 := below_then (below_drew (Below.refl w4.heap.size w4)) (Nat.le_refl _) hB5'; clear hB5'; have hcv2 := Kd.C_string (P := Try.prog) (A := A2) (c := c2) Try.underlying23 Try.underlying5 Try.underlying9 (Kd.C_below H2.out (below_then HB4.out HB4.out.size hB5)); refine ⟨_, rfl, ?_⟩)
            | (refine goes_ (N := some 42) Try.func29 (by kernel_rfl) rfl #[.slice A3 n c3, .slice A5 (Sf.lenF ds) c5, .string (strOfNums p)] (by rfl) rfl rfl (by simp [Act.eval, Act.put]) ?_; refine (refRange_calls ds HF.out.1.b A3 n c3 A5 (Sf.lenF ds) c5 r w5 (Kd.C_below HC3.out (below_then HB24.out HB24.out.size hB5)) hC5 ⟨hS5.1, hS5.2⟩ (by have := HF.out.2; omega) p HPy.out lo hi (by rw [← HNN.out.2.2]; exact (HSP.out r ⟨hS5.1, hS5.2⟩).1) (by rw [← HNN.out.2.2]; exact (HSP.out r ⟨hS5.1, hS5.2⟩).2)).mono ?_; rintro e w6 ⟨rfl, hB6⟩; refine ⟨_, rfl, ?_⟩))
        all_goals (go_wp2_with fail; go_meet; exact ⟨rfl, rfl, ⟨below_then hB5 hB5.size hB6⟩⟩)
      case rest =>
        obtain ⟨rfl, rfl, HBC⟩ := hcut
        clear hcv1
        have HBW := Aside0.mk (below_then HB4.out HB4.out.size HBC.out)
        have HB2W := Aside0.mk (below_then HB24.out HB24.out.size HBC.out)
        by_cases hz : n2 = 0
        · subst hz
          go_wp2_with (first | (go_at_call 16; refine (awake10_calls _).mono ?_; rintro e w10 ⟨rfl, hB10⟩; have HB10 := Aside0.mk (below_then HBW.out HBW.out.size hB10); clear hB10))
          go_ret
          exact ⟨rfl, HB10.out⟩
        · have hcv3 := Kd.C_string (P := Try.prog) (A := A2) (c := c2) Try.underlying23 Try.underlying5 Try.underlying9 (Kd.C_below H2.out HBW.out)
          have hz1 : ((n2 : Int) == 0) = false := by simp; omega
          have hpl : p.length = n2 := H2.out.1
          obtain ⟨r, hr⟩ := Sf.rows_exist (ds := ds)
          have hrl : r.length = N := by rw [hr.1.length_eq, Sf.hitsF_length]; exact HNN.out.2.2.symm
          have hsp := HSP.out r hr
          have hlh : lo ≤ hi := Sf.split_le hsp.1 hsp.2 (fun i _ h => Sf.gt_not h)
          have hfc := Sf.find_count hr (p := p) (lo := lo) (hi := hi) (by rw [hrl]; exact hsp.1) (by rw [hrl]; exact hsp.2) hlh
          have hhi : hi ≤ N := hsp.2.1
          have HFIND := Aside0.mk (refFind_calls ds HF.out.1.b (by have := HF.out.2; omega) A3 n c3 wc (Kd.C_below HC3.out HB2W.out) p HPy.out (by omega) (by omega))
          generalize (Sf.findF ds p).length = k at *
          have hk : ((hi : Int) - (lo : Int) == (k : Int)) = true := by simp; omega
          have hw : wrap64 ((hi : Int) - (lo : Int)) = ((hi : Int) - (lo : Int)) := Sf.wrap64_in' _ (by omega)
          clear hrl hsp hfc hpl hr r
          go_wp2_with (first | (go_at_call 30; refine HFIND.out.mono ?_; rintro e w9 ⟨A9, c9, rfl, hB9⟩; have HB9 := Aside0.mk (below_then HBW.out HBW.out.size hB9); clear hB9) | (go_at_call 16; refine (awake10_calls _).mono ?_; rintro e w10 ⟨rfl, hB10⟩; have HB10 := Aside0.mk (below_then HB9.out HB9.out.size hB10); clear hB10))
          go_ret
          exact ⟨rfl, HB10.out⟩
  · go_enter Try.func6, Try.ntmps6
    go_wp2_with fail
    refine (few_calls A n c ds _ H.out).mono ?_
    rintro e w' ⟨⟨b, rfl, hfew⟩, rfl⟩
    clear hfew
    cases b <;>
    · go_wp2_with (first | (go_at_call 16; refine (awake10_calls _).mono ?_; rintro e w' ⟨rfl, hB⟩; have HB := Aside0.mk hB; clear hB))
      go_ret
      exact ⟨rfl, HB.out⟩
end Go.Proofs.Ytadekjidjhglaaa
