/- Walk of the law BwtTells. -/
import Derived.Test.YtadekjidjhglaaaRo
import Derived.Test.YtadekjidjhglaaaCe
set_option linter.unusedVariables false
set_option linter.unusedSimpArgs false
namespace Go.Proofs.Ytadekjidjhglaaa
open Go.RowKit Go.Proofs.YtadekjidjhglaaaW.PrintWords Go.Proofs.YtadekjidjhglaaaW.PrintLast Go.Proofs.YtadekjidjhglaaaW.PrintMore

theorem strings_calls (A : Option Addr) (n c : Nat) (ds : List (List Int)) (w : World) (h : Kd.C (Kd.slice 5 (Kd.int .u8)) w A n ds) (hc : n ≤ c) (hn : n ≤ 1000000) :
    Calls Try.prog 22 #[.slice A n c] w fun e w' => ∃ A1 c1, e = .returned (.slice A1 n c1) ∧ n ≤ c1 ∧ Kd.C Kd.string w' A1 n (Sf.strsF ds) ∧ Below w.heap.size w w' := by
  obtain rfl : ds.length = n := h.1
  refine (concordanceref9_Strings.calls _ A c ds _ w h hc (Sf.strings_f hn)).mono ?_
  rintro e w' ⟨v, rfl, hR, hB⟩
  obtain ⟨A1, c1, rfl, hc1, hC⟩ := R_is (n := ds.length) hR (Sf.strsF_length ds)
  exact ⟨A1, c1, rfl, hc1, hC, hB⟩
set_option maxRecDepth 100000 in
set_option maxHeartbeats 2000000 in
theorem tells_row (A : Option Addr) (n c : Nat) (ds : List (List Int)) (w : World) (h : Kd.C (Kd.slice 5 (Kd.int .u8)) w A n ds) (hb : Sf.Bytes ds) (hc : n ≤ c) :
    Calls Try.prog 10 #[.slice A n c] w fun e w' => e = .returned (.bool true) ∧ Below w.heap.size w w' := by
  have H := Aside0.mk h
  have HL := Aside0.mk h.1
  have HBy := Aside0.mk hb
  clear h hb
  go_enter Try.func10, Try.ntmps10
  go_wp2_with fail
  refine (few_calls A n c ds _ H.out).mono ?_
  rintro e w' ⟨⟨b, rfl, hfew⟩, rfl⟩
  cases b with
  | false =>
    clear hfew
    go_wp2_with (first | (go_at_call 33; refine (awake11_calls _).mono ?_; rintro e w' ⟨rfl, hB⟩; have HB := Aside0.mk hB; clear hB))
    go_ret
    exact ⟨rfl, HB.out⟩
  | true =>
    have hfit := fits_few (hfew rfl) HBy.out
    have HF := Aside0.mk hfit.1
    have HLF := Aside0.mk hfit.2
    clear hfit hfew
    have hnb : n ≤ 500 := by rw [← HL.out]; exact HF.out.n
    go_wp2_with fail
    refine (new_calls A n c ds _ H.out HL.out hnb HF.out.d HF.out.t HBy.out).mono ?_
    rintro e w1 ⟨g, rfl, hT, hg, hB1⟩
    have HT := Aside0.mk hT
    have HB1 := Aside0.mk hB1
    clear hT hg hB1
    have HRL : Aside0 ((Sf.rowF ds).length ≤ 3040) := ⟨by rw [Sf.rowF_length]; exact HLF.out⟩
    go_wp2_with fail
    refine (strings_calls A n c ds _ (Kd.C_below H.out HB1.out) hc (by omega)).mono ?_
    rintro e w2 ⟨As, cs, rfl, hcs, hCs, hB2⟩
    have HCS := Aside0.mk hCs
    have HT2 := Aside0.mk (TextAt.below HT.out hB2)
    have HB2 := Aside0.mk (below_then HB1.out HB1.out.size hB2)
    clear hCs hB2 HT HB1
    go_wp2_with fail
    refine (of_calls g ds w2 HT2.out HBy.out HF.out.n (by have := HRL.out; omega)).mono ?_
    rintro e w3 ⟨A3, N, sa, rfl, hs, hC3, hN, hB3⟩
    have HS := Aside0.mk hs
    have HC3 := Aside0.mk hC3
    have HIS := Aside0.mk (isBwt_of HF.out hs)
    have HLB := Aside0.mk (Sf.bw_bounds HBy.out hs)
    have hNb : N ≤ 3040 := by rw [hN]; exact HRL.out
    have HCS3 := Aside0.mk (Kd.C_below HCS.out hB3)
    have HB3 := Aside0.mk (below_then HB2.out HB2.out.size hB3)
    clear hs hC3 hN hB3 HB2 HCS HT2
    go_wp2_with fail
    refine (docs_walk A3 N N _ w3 HC3.out (Nat.le_refl _) (by omega) (by
      cases hbb : bigB (Sf.bwF (Sf.rowF ds) sa) with
      | true => exact absurd HIS.out (not_arg (.inr hbb) ds)
      | false => rfl) (fun x hx => (HLB.out x hx).1)).mono ?_
    rintro e w4 ⟨hB4, ⟨rfl, hn⟩ | ⟨ds4, A4, rfl, hC4, hi4⟩⟩
    · exact absurd HIS.out (hn ds)
    have e4 : ds = ds4 := isBwt_unique HIS.out hi4
    subst e4
    have HC34 := Aside0.mk (Kd.C_below HC3.out hB4)
    have HCS4 := Aside0.mk (Kd.C_below HCS3.out hB4)
    have HC4 := Aside0.mk hC4
    rw [HL.out] at HC4 ⊢
    have HB4 := Aside0.mk (below_then HB3.out HB3.out.size hB4)
    clear hi4 hC4 hB4 HB3 HC3 HCS3
    go_wp2_with fail
    refine (refBwt_calls ds HBy.out (by have := HLF.out; omega) As n cs hcs w4 HCS4.out).mono ?_
    rintro e w5 ⟨v5, sa5, rfl, hs5, hR5, hB5⟩
    rw [Sf.SA_unique hs5 HS.out] at hR5
    obtain ⟨A5, c5, rfl, hc5, hC5⟩ := R_is (n := N) hR5 HC34.out.1
    have HC5 := Aside0.mk hC5
    have HC345 := Aside0.mk (Kd.C_below HC34.out hB5)
    have HCS5 := Aside0.mk (Kd.C_below HCS4.out hB5)
    have HC45 := Aside0.mk (Kd.C_below HC4.out hB5)
    have HB5 := Aside0.mk (below_then HB4.out HB4.out.size hB5)
    clear hs5 hR5 hC5 hB5 HB4 HC34 HCS4 HC4
    go_wp2_with fail
    refine (syms_calls A3 N N _ A5 N c5 _ w5 HC345.out (Nat.le_refl _) HC5.out hc5 (by omega)).mono ?_
    rintro e w6 ⟨rfl, hD6⟩
    rw [decide_eq_true rfl]
    have HC36 := Aside0.mk (Kd.C_below HC345.out hD6.below)
    have HCS6 := Aside0.mk (Kd.C_below HCS5.out hD6.below)
    have HC46 := Aside0.mk (Kd.C_below HC45.out hD6.below)
    have HB6 := Aside0.mk (below_then HB5.out HB5.out.size hD6.below)
    clear hD6 HB5 HC345 HCS5 HC45 HC5
    go_wp2_with fail
    refine (strings_calls A4 n n ds w6 HC46.out (Nat.le_refl _) (by omega)).mono ?_
    rintro e w7 ⟨A7, c7, rfl, hc7, hC7, hB7⟩
    have HC7 := Aside0.mk hC7
    have HCS7 := Aside0.mk (Kd.C_below HCS6.out hB7)
    have HC37 := Aside0.mk (Kd.C_below HC36.out hB7)
    have HB7 := Aside0.mk (below_then HB6.out HB6.out.size hB7)
    clear hC7 hB7 HB6 HC36 HCS6 HC46
    go_wp2_with fail
    refine (texts_calls A7 n c7 ds As n cs ds w7 HC7.out hc7 HCS7.out hcs (by omega) HBy.out HBy.out).mono ?_
    rintro e w8 ⟨rfl, hD8⟩
    rw [decide_eq_true rfl]
    have HC38 := Aside0.mk (Kd.C_below HC37.out hD8.below)
    have HB8 := Aside0.mk (below_then HB7.out HB7.out.size hD8.below)
    clear hD8 HB7 HC37 HC7 HCS7
    go_wp2_with fail
    refine (okrow_calls A3 N N _ w8 HC38.out (Nat.le_refl _) (by omega) (fun x hx => (HLB.out x hx).1)).mono ?_
    rintro e w9 ⟨hB9, ⟨rfl, hn⟩ | ⟨rfl, _⟩⟩
    · exact absurd HIS.out (hn ds)
    have HB9 := Aside0.mk (below_then HB8.out HB8.out.size hB9)
    clear hB9 HB8 HC38
    go_wp2_with (first | (go_at_call 33; refine (awake11_calls _).mono ?_; rintro e w10 ⟨rfl, hB10⟩; have HB10 := Aside0.mk (below_then HB9.out HB9.out.size hB10); clear hB10))
    go_ret
    exact ⟨rfl, HB10.out⟩
end Go.Proofs.Ytadekjidjhglaaa
