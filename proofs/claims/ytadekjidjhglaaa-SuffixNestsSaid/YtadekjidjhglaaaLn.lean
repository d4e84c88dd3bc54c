/- Walk of the law SuffixNests. -/
import Derived.Test.YtadekjidjhglaaaRo
import Derived.Test.YtadekjidjhglaaaSk
import Derived.Test.YtadekjidjhglaaaBr
import Derived.Test.YtadekjidjhglaaaBv
set_option linter.unusedVariables false
set_option linter.unusedSimpArgs false
namespace Go.Proofs.Ytadekjidjhglaaa
open Go.RowKit Go.Proofs.YtadekjidjhglaaaW.PrintWords Go.Proofs.YtadekjidjhglaaaW.PrintLast Go.Proofs.YtadekjidjhglaaaW.PrintMore

set_option maxRecDepth 100000 in
set_option maxHeartbeats 2000000 in
theorem nests_row (A : Option Addr) (n c : Nat) (ds : List (List Int)) (A2 : Option Addr) (n2 c2 : Nat) (p : List Int) (w : World)
    (h : Kd.C (Kd.slice 5 (Kd.int .u8)) w A n ds) (hb : Sf.Bytes ds) (h2 : Kd.C (Kd.int .u8) w A2 n2 p) (hwf : ∀ x ∈ p, (Lit.int .u8 x).wf = true) (hc2 : n2 ≤ c2) :
    Calls Try.prog 8 #[.slice A n c, .slice A2 n2 c2] w fun e w' => e = .returned (.bool true) ∧ Below w.heap.size w w' := by
  have H := Aside0.mk h
  have H2 := Aside0.mk h2
  have HBy := Aside0.mk hb
  have HPy : Aside0 (Sf.Byte1 p) := ⟨fun x hx => u8_bounds (hwf x hx)⟩
  have hn2 := h2.2.1
  clear h hb h2 hwf
  by_cases hd : n2 ≤ 50
  · go_enter Try.func8, Try.ntmps8
    go_wp2_with fail
    refine (few_calls A n c ds _ H.out).mono ?_
    rintro e w' ⟨⟨b, rfl, hfew⟩, rfl⟩
    cases b with
    | false =>
      clear hfew
      go_wp2_with (first | (go_at_call 16; refine (awake10_calls _).mono ?_; rintro e w' ⟨rfl, hB⟩; have HB := Aside0.mk hB; clear hB))
      go_ret
      exact ⟨rfl, HB.out⟩
    | true =>
      have HF := Aside0.mk (fits_few (hfew rfl) HBy.out)
      clear hfew
      go_wp2_with fail
      refine (made_calls A n c ds _ H.out HF.out.1).mono ?_
      rintro e w1 ⟨g, rfl, hT, hg, hB⟩
      have HT := Aside0.mk hT
      have HB1 := Aside0.mk hB
      clear hT hB hg
      go_wp2_with fail
      have HRL : Aside0 ((Sf.rowF ds).length ≤ 60000) := ⟨by rw [Sf.rowF_length]; exact HF.out.1.t⟩
      refine (array_calls g ds _ HT.out HF.out.1.b HF.out.1.n HRL.out).mono ?_
      rintro e w3 ⟨v3, sa, rfl, hs, hR3, hB3⟩
      have hsl : sa.length = (Sf.rowF ds).length := by rw [Sf.SA_len hs, Sf.r0_len]
      have hrl : (Sf.rowF ds).length = Sf.lenF ds := Sf.rowF_length ds
      have hN3 := HF.out.2
      generalize hN : (Sf.rowF ds).length = N at *
      obtain ⟨Av, cv, rfl, hcv, hCv⟩ := R_is (n := N) hR3 (by simpa [Sf.ni] using hsl)
      have HS := Aside0.mk hs
      have HCv := Aside0.mk hCv
      have HB13 := Aside0.mk hB3
      have HNN := Aside0.mk (And.intro hN (And.intro hsl hrl))
      have HB3 := Aside0.mk (below_then HB1.out HB1.out.size hB3)
      have hNs : N ≤ 3040 := by omega
      clear hs hCv hB3 hR3 hN hsl hrl hN3
      go_wp2_with fail
      have HRANGE := Aside0.mk (fun (W : World) (hB : Below w3.heap.size w3 W) (A4 : Option Addr) (m4 c4 : Nat) (q : List Int) (hq : Kd.C (Kd.int .u8) W A4 m4 q) (hq2 : Sf.Byte1 q) (hm4 : m4 ≤ 1000000) => range_calls g ds W (TextAt.below HT.out (below_then HB13.out HB13.out.size hB)) HF.out.1.b HF.out.1.n (by rw [HNN.out.1]; exact HRL.out) Av N cv hcv sa (Kd.C_below HCv.out hB) HS.out A4 m4 c4 q hq hq2 hm4)
      refine (HRANGE.out _ (Below.refl _ _) A2 n2 c2 p (Kd.C_below H2.out HB3.out) HPy.out (by omega)).mono ?_
      rintro e w4 ⟨lo, hi, rfl, hsp, hB4⟩
      obtain ⟨r, hr⟩ := Sf.rows_exist (ds := ds)
      have hsp := hsp r hr
      have hrN : r.length = N := by rw [hr.1.length_eq, Sf.hitsF_length]; exact HNN.out.2.2.symm
      have hcut : ∀ c, ∃ m, Sf.Split (Sf.cutP ds r p c) N m := fun c => by
        have hdec : DecidablePred (Sf.cutP ds r p c) := fun i => by unfold Sf.cutP; infer_instance
        refine Sf.split_exists N (fun i j hij hj h => ?_)
        unfold Sf.cutP at h ⊢
        by_cases h256 : c < 256
        · rw [if_pos h256] at h ⊢
          exact Sf.mono_lo hr _ i j hij (by omega) h
        · rw [if_neg h256] at h ⊢
          exact Sf.mono_hi hr _ i j hij (by omega) h
      obtain ⟨B, hB⟩ := Classical.axiomOfChoice hcut
      have hBhi : ∀ c, B c ≤ hi := fun c => Sf.split_le (hB c) hsp.2 (fun i _ h => Sf.cut_gt HF.out.1.b h)
      have hlo0 : lo ≤ B 0 := Sf.split_le hsp.1 (hB 0) (fun i _ h => Sf.cut_lo h)
      have hB256 : B 256 = hi := Sf.split_unique (hB 256) (Sf.split_congr (fun i _ => by unfold Sf.cutP; rw [if_neg (by omega)]) hsp.2)
      have hhiN : hi ≤ N := hsp.2.1
      have HSP := Aside0.mk hsp
      have HR := Aside0.mk hr
      have HBB := Aside0.mk hB
      have HBH := Aside0.mk (And.intro hBhi hB256)
      have HB4 := Aside0.mk hB4
      have hb0 := hBhi 0
      clear hsp hr hB hBhi hB4 hcut hB256
      go_wp2_with fail
      go_loopw [9] (fun v9 w' => ∃ i : Nat, v9 = .int .i64 i ∧ Aside0 (lo ≤ i ∧ i ≤ B 0) ∧ Aside0 (Below w3.heap.size w3 w')) (fun v9 _ => B 0 - (intOf v9).toNat)
      case atStart => exact ⟨lo, rfl, ⟨Nat.le_refl _, hlo0⟩, HB4⟩
      case round =>
        obtain ⟨i, rfl, HI, HB⟩ := hrel
        have hI := HI.out
        have hrow : i < hi → i < N ∧ sa.getD i 0 = Sf.placeF ds (r.getD i (0, 0)) ∧ r.getD i (0, 0) ∈ Sf.hitsF 0 ds := fun hlt => by
          have e := Sf.rows_SA HF.out.1.b HR.out HS.out
          refine ⟨by omega, ?_, HR.out.1.subset (by rw [List.getD_eq_getElem?_getD, List.getElem?_eq_getElem (by omega)]; exact List.getElem_mem _)⟩
          rw [e, List.getD_eq_getElem?_getD, List.getElem?_map, List.getD_eq_getElem?_getD, List.getElem?_eq_getElem (by omega)]
          rfl
        have HROW := Aside0.mk hrow
        clear hrow
        have hpn : p.length = n2 := H2.out.1
        by_cases hlt : i < hi
        · obtain ⟨hiN, hsa, hmem⟩ := HROW.out hlt
          have HWH := Aside0.mk (fun (W : World) (hB : Below w3.heap.size w3 W) => whole_calls g ds W (TextAt.below HT.out (below_then HB13.out HB13.out.size hB)) HF.out.1.n (by rw [HNN.out.1]; exact HRL.out) hmem n2 (by omega))
          have hcw := Sf.cut_whole HF.out.1.b (r := r) (p := p) (i := i) (HSP.out.1.2.2 i hI.1 hiN) (HSP.out.2.2.1 i hlt)
          by_cases hib : i < B 0
          · have hdl : decide (((Sf.docF ds (r.getD i (0, 0)).1).drop (r.getD i (0, 0)).2).length = n2) = true := decide_eq_true (by rw [← hpn]; exact hcw.1 (HBB.out 0 |>.2.1 i hib))
            rw [hsa.symm] at HWH
            obtain ⟨ad, e, hx⟩ := at_nat HCv.out HB.out i hiN
            cases e
            rw [Sf.ni_getD] at hx
            clear hcw hmem hsa hI
            generalize sa.getD i 0 = q at *
            go_wp2_with (first | (go_at_call 32; refine (HWH.out _ HB.out).mono ?_; rintro e w' ⟨rfl, hD⟩; rw [hdl]; have HB2 := Aside0.mk (below_then HB.out HB.out.size hD.below); clear hD HWH hdl))
            exact ⟨⟨i + 1, by go_num, ⟨by have := HI.out; omega⟩, HB2⟩, by simp [intOf]; omega⟩
          · have he0 : B 0 = i := by omega
            have hdl : decide (((Sf.docF ds (r.getD i (0, 0)).1).drop (r.getD i (0, 0)).2).length = n2) = false := decide_eq_false (fun h => by
              rw [← hpn] at h
              exact hcw.2 h (HBB.out 0 |>.2.2 i (by omega) hiN))
            rw [hsa.symm] at HWH
            obtain ⟨ad, e, hx⟩ := at_nat HCv.out HB.out i hiN
            cases e
            rw [Sf.ni_getD] at hx
            clear hcw hmem hsa
            generalize sa.getD i 0 = q at *
            go_wp2_with (first | (go_at_call 32; refine (HWH.out _ HB.out).mono ?_; rintro e wx ⟨rfl, hD⟩; rw [hdl]; have HBX := Aside0.mk (below_then HB.out HB.out.size hD.below); clear hD HWH hdl))
            have HE0 := Aside0.mk he0
            clear he0 hI
            obtain ⟨wl, hwl⟩ : ∃ wl, wl = wx := ⟨_, rfl⟩
            rw [← hwl] at HBX
            go_loopw [9, 10, 11, 12] (fun v9 v10 v11 v12 w' => ∃ k : Nat, v10 = .int .i64 k ∧ v9 = .int .i64 (B k : Nat) ∧ Aside0 (k ≤ 256) ∧ Aside0 (Below w3.heap.size w3 w')) (fun _ v10 _ _ _ => 256 - (intOf v10).toNat)
            case atStart => exact ⟨0, rfl, by rw [HE0.out], ⟨by omega⟩, by rw [← hwl]; exact HBX⟩
            case round =>
              clear HBX hwl HB
              obtain ⟨k, rfl, rfl, HK, HB⟩ := hrel
              by_cases hk : k < 256
              · have hw8 : IntKind.u8.wrap (k : Int) = (k : Int) := by rw [IntKind.wrap_u8]; omega
                have HO0 := Aside0.mk (own_empty (Kd.int .u8) 5 wr w3.heap.size HB.out.size)
                have HB0 := Aside0.mk (below_alloc HB.out (.cells #[] 5))
                have HC0 := Aside0.mk (Kd.C_below H2.out (below_then HB3.out HB3.out.size HB0.out))
                have HL0 : Aside0 (([] : List Int).length + n2 ≤ 100000000) := ⟨by simp; omega⟩
                have HL1 : Aside0 (([] ++ p : List Int).length ≤ 100000000) := ⟨by simp; omega⟩
                go_wp2_with (first | (at_builtin; refine app_rows (k := .u8) 23 5 1 Try.underlying23 info5 (by omega) (by omega) (w0 := w3) rfl (.tmp 58) (.tmp 59) rfl _ [] p A2 n2 c2 rfl rfl HO0 HC0 HB0 HL0 ?_; intro v5 w5 HO1 HB5 hg hat; clear hg hat HO0 HB0 HC0 HL0) | (at_builtin; refine app_u8 (w0 := w3) rfl (.tmp 60) (.tmp 63) rfl v5 _ _ rfl rfl HO1 HB5 HL1 ?_; intro v6 w6 HO2 HB6 hg hat; clear hg hat HO1 HB5))
                rw [List.nil_append] at HO2
                obtain ⟨A6, c6, rfl, hc6, hC6⟩ := R_is (n := n2 + 1) HO2.out (by rw [List.length_append, H2.out.1]; rfl)
                refine (HRANGE.out _ HB6.out A6 (n2 + 1) c6 (p ++ [(k : Int)]) hC6 (fun x hx => by
                  rcases List.mem_append.1 hx with hx | hx
                  · exact HPy.out x hx
                  · rw [List.mem_singleton.1 hx]; omega) (by omega)).mono ?_
                rintro e w7 ⟨x, y, rfl, hxy, hB7⟩
                have hxy := hxy r HR.out
                have hxe : x = B k := Sf.split_unique (Sf.split_congr (fun i _ => by unfold Sf.cutP; rw [if_pos hk]) hxy.1) (HBB.out k)
                have hye : y = B (k + 1) := Sf.split_unique (Sf.split_congr (fun i _ => Sf.cut_next HF.out.1.b hk) hxy.2) (HBB.out (k + 1))
                have hle : B k ≤ B (k + 1) := by rw [← hxe, ← hye]; exact Sf.split_le hxy.1 hxy.2 (fun i _ h => Sf.gt_not h)
                have hle2 : B (k + 1) ≤ hi := HBH.out.1 _
                have HB7 := Aside0.mk (below_then HB6.out HB6.out.size hB7)
                subst hxe hye
                clear hxy hB7 hC6 HO2
                have hz1 : (((B k : Nat) : Int) != ((B k : Nat) : Int)) = false := by simp
                have hz2 : ¬ ((B (k + 1) : Nat) : Int) < ((B k : Nat) : Int) := by omega
                have hz3 : ¬ ((B (k + 1) : Nat) : Int) > ((hi : Nat) : Int) := by omega
                have hz2' : decide (((B (k + 1) : Nat) : Int) < ((B k : Nat) : Int)) = false := decide_eq_false hz2
                have hz3' : decide (((B (k + 1) : Nat) : Int) > ((hi : Nat) : Int)) = false := decide_eq_false hz3
                have hz3'' : decide (((hi : Nat) : Int) < ((B (k + 1) : Nat) : Int)) = false := decide_eq_false (by omega)
                go_wp2_with fail
                exact ⟨⟨k + 1, by go_num, rfl, ⟨by omega⟩, HB7⟩, by simp [intOf]; omega⟩
              · have hk2 : k = 256 := by have := HK.out; omega
                have hBk : B k = hi := by rw [hk2]; exact HBH.out.2
                rw [hBk]
                have hz1 : (((hi : Nat) : Int) == ((hi : Nat) : Int)) = true := by simp
                have HBF := Aside0.mk (below_then HB3.out HB3.out.size HB.out)
                go_wp2_with (first | (go_at_call 16; refine (awake10_calls _).mono ?_; rintro e w10 ⟨rfl, hB10⟩; have HB10 := Aside0.mk (below_then HBF.out HBF.out.size hB10); clear hB10))
                go_ret
                exact ⟨rfl, HB10.out⟩
        · have he0 : B 0 = i := by omega
          have HBX := HB
          go_wp2_with fail
          have HE0 := Aside0.mk he0
          clear he0 hI
          obtain ⟨wl, hwl⟩ : ∃ wl, wl = wr := ⟨_, rfl⟩
          rw [← hwl] at HBX
          go_loopw [9, 10, 11, 12] (fun v9 v10 v11 v12 w' => ∃ k : Nat, v10 = .int .i64 k ∧ v9 = .int .i64 (B k : Nat) ∧ Aside0 (k ≤ 256) ∧ Aside0 (Below w3.heap.size w3 w')) (fun _ v10 _ _ _ => 256 - (intOf v10).toNat)
          case atStart => exact ⟨0, rfl, by rw [HE0.out], ⟨by omega⟩, by rw [← hwl]; exact HBX⟩
          case round =>
            clear HBX hwl HB
            obtain ⟨k, rfl, rfl, HK, HB⟩ := hrel
            by_cases hk : k < 256
            · have hw8 : IntKind.u8.wrap (k : Int) = (k : Int) := by rw [IntKind.wrap_u8]; omega
              have HO0 := Aside0.mk (own_empty (Kd.int .u8) 5 wr w3.heap.size HB.out.size)
              have HB0 := Aside0.mk (below_alloc HB.out (.cells #[] 5))
              have HC0 := Aside0.mk (Kd.C_below H2.out (below_then HB3.out HB3.out.size HB0.out))
              have HL0 : Aside0 (([] : List Int).length + n2 ≤ 100000000) := ⟨by simp; omega⟩
              have HL1 : Aside0 (([] ++ p : List Int).length ≤ 100000000) := ⟨by simp; omega⟩
              go_wp2_with (first | (at_builtin; refine app_rows (k := .u8) 23 5 1 Try.underlying23 info5 (by omega) (by omega) (w0 := w3) rfl (.tmp 58) (.tmp 59) rfl _ [] p A2 n2 c2 rfl rfl HO0 HC0 HB0 HL0 ?_; intro v5 w5 HO1 HB5 hg hat; clear hg hat HO0 HB0 HC0 HL0) | (at_builtin; refine app_u8 (w0 := w3) rfl (.tmp 60) (.tmp 63) rfl v5 _ _ rfl rfl HO1 HB5 HL1 ?_; intro v6 w6 HO2 HB6 hg hat; clear hg hat HO1 HB5))
              rw [List.nil_append] at HO2
              obtain ⟨A6, c6, rfl, hc6, hC6⟩ := R_is (n := n2 + 1) HO2.out (by rw [List.length_append, H2.out.1]; rfl)
              refine (HRANGE.out _ HB6.out A6 (n2 + 1) c6 (p ++ [(k : Int)]) hC6 (fun x hx => by
                rcases List.mem_append.1 hx with hx | hx
                · exact HPy.out x hx
                · rw [List.mem_singleton.1 hx]; omega) (by omega)).mono ?_
              rintro e w7 ⟨x, y, rfl, hxy, hB7⟩
              have hxy := hxy r HR.out
              have hxe : x = B k := Sf.split_unique (Sf.split_congr (fun i _ => by unfold Sf.cutP; rw [if_pos hk]) hxy.1) (HBB.out k)
              have hye : y = B (k + 1) := Sf.split_unique (Sf.split_congr (fun i _ => Sf.cut_next HF.out.1.b hk) hxy.2) (HBB.out (k + 1))
              have hle : B k ≤ B (k + 1) := by rw [← hxe, ← hye]; exact Sf.split_le hxy.1 hxy.2 (fun i _ h => Sf.gt_not h)
              have hle2 : B (k + 1) ≤ hi := HBH.out.1 _
              have HB7 := Aside0.mk (below_then HB6.out HB6.out.size hB7)
              subst hxe hye
              clear hxy hB7 hC6 HO2
              have hz1 : (((B k : Nat) : Int) != ((B k : Nat) : Int)) = false := by simp
              have hz2 : ¬ ((B (k + 1) : Nat) : Int) < ((B k : Nat) : Int) := by omega
              have hz3 : ¬ ((B (k + 1) : Nat) : Int) > ((hi : Nat) : Int) := by omega
              have hz2' : decide (((B (k + 1) : Nat) : Int) < ((B k : Nat) : Int)) = false := decide_eq_false hz2
              have hz3' : decide (((B (k + 1) : Nat) : Int) > ((hi : Nat) : Int)) = false := decide_eq_false hz3
              have hz3'' : decide (((hi : Nat) : Int) < ((B (k + 1) : Nat) : Int)) = false := decide_eq_false (by omega)
              go_wp2_with fail
              exact ⟨⟨k + 1, by go_num, rfl, ⟨by omega⟩, HB7⟩, by simp [intOf]; omega⟩
            · have hk2 : k = 256 := by have := HK.out; omega
              have hBk : B k = hi := by rw [hk2]; exact HBH.out.2
              rw [hBk]
              have hz1 : (((hi : Nat) : Int) == ((hi : Nat) : Int)) = true := by simp
              have HBF := Aside0.mk (below_then HB3.out HB3.out.size HB.out)
              go_wp2_with (first | (go_at_call 16; refine (awake10_calls _).mono ?_; rintro e w10 ⟨rfl, hB10⟩; have HB10 := Aside0.mk (below_then HBF.out HBF.out.size hB10); clear hB10))
              go_ret
              exact ⟨rfl, HB10.out⟩
  · go_enter Try.func8, Try.ntmps8
    go_wp2_with fail
    refine (few_calls A n c ds _ H.out).mono ?_
    rintro e w' ⟨⟨b, rfl, hfew⟩, rfl⟩
    clear hfew
    cases b <;>
    · go_wp2_with (first | (go_at_call 16; refine (awake10_calls _).mono ?_; rintro e w' ⟨rfl, hB⟩; have HB := Aside0.mk hB; clear hB))
      go_ret
      exact ⟨rfl, HB.out⟩
end Go.Proofs.Ytadekjidjhglaaa
