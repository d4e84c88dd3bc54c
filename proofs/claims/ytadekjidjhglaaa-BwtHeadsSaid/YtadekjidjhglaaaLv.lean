/- Walk of the law BwtHeads. -/
import Derived.Test.YtadekjidjhglaaaLu
set_option linter.unusedVariables false
set_option linter.unusedSimpArgs false
namespace Go.Proofs.Ytadekjidjhglaaa
open Go.RowKit Go.Proofs.YtadekjidjhglaaaW.PrintWords Go.Proofs.YtadekjidjhglaaaW.PrintLast Go.Proofs.YtadekjidjhglaaaW.PrintMore

theorem zeros_same {l : List Int} (hl : ∀ x ∈ l, 0 ≤ x) : Sf.sameC l 0 l.length = Sf.belowC l 1 := by
  unfold Sf.sameC Sf.belowC
  rw [List.take_length]
  apply List.countP_congr
  intro x hx
  have := hl x hx
  rw [decide_eq_true_iff, decide_eq_true_iff]
  omega
theorem below_zero {l : List Int} (hl : ∀ x ∈ l, 0 ≤ x) : Sf.belowC l 0 = 0 := by
  unfold Sf.belowC
  rw [List.countP_eq_zero]
  intro x hx
  have := hl x hx
  simp; omega
theorem below_top {l : List Int} (hl : ∀ x ∈ l, x ≤ 256) : Sf.belowC l 256 + Sf.sameC l 256 l.length = l.length := by
  have h1 := below_succ l 256
  have h2 : Sf.belowC l ((256 + 1 : Nat) : Int) = l.length := by
    unfold Sf.belowC
    rw [List.countP_eq_length]
    intro x hx
    have := hl x hx
    simp; omega
  rw [h2] at h1
  exact h1.symm
theorem head_at {ds : List (List Int)} (hb : Sf.Bytes ds) {sa : List Nat} (h : Sf.SA (Sf.r0 ds) sa) {j : Nat} (hj : j < ds.length) :
    (Sf.bwF (Sf.rowF ds) sa).getD j 0 = if (Sf.docF ds j).length = 0 then 0 else (Sf.docF ds j).getD ((Sf.docF ds j).length - 1) 0 + 1 := by
  have h1 := Sf.sa_head hb h hj
  have h2 := Sf.end_lt ds hj (Nat.le_refl _)
  have h3 := Sf.start_ge ds (j := j) (by omega)
  rw [Sf.bwF_at (Sf.rowF ds) (by rw [Sf.SA_len h]; omega), h1, Sf.ah_doc ds hj (Nat.le_refl _)]
set_option maxRecDepth 100000 in
set_option maxHeartbeats 2000000 in
theorem heads_row (A : Option Addr) (n c : Nat) (ds : List (List Int)) (w : World) (h : Kd.C (Kd.slice 5 (Kd.int .u8)) w A n ds) (hb : Sf.Bytes ds) (hc : n ≤ c) :
    Calls Try.prog 9 #[.slice A n c] w fun e w' => e = .returned (.bool true) ∧ Below w.heap.size w w' := by
  have H := Aside0.mk h
  have HL := Aside0.mk h.1
  have HBy := Aside0.mk hb
  clear h hb
  go_enter Try.func9, Try.ntmps9
  go_wp2_with fail
  refine (few_calls A n c ds _ H.out).mono ?_
  rintro e w' ⟨⟨b, rfl, hfew⟩, rfl⟩
  cases b with
  | false =>
    clear hfew
    go_wp2_with (first | (go_at_call 33; refine (awake11_calls _).mono ?_; rintro e w' ⟨rfl, hB⟩; have HB := Aside0.mk hB; clear hB))
    go_ret
    exact ⟨rfl, HB.out⟩
  | true =>
    have hfit := fits_few (hfew rfl) HBy.out
    have HF := Aside0.mk hfit.1
    have HLF := Aside0.mk hfit.2
    clear hfit hfew
    have hnb : n ≤ 500 := by rw [← HL.out]; exact HF.out.n
    go_wp2_with fail
    refine (strings_calls A n c ds _ H.out hc (by omega)).mono ?_
    rintro e w2 ⟨As, cs, rfl, hcs, hCs, hB2⟩
    have HCS := Aside0.mk hCs
    have HB2 := Aside0.mk hB2
    clear hCs hB2
    go_wp2_with fail
    refine (refBwt_calls ds HBy.out (by have := HLF.out; omega) As n cs hcs w2 HCS.out).mono ?_
    rintro e w3 ⟨v3, sa, rfl, hs, hR3, hB3⟩
    have HSL : Aside0 ((Sf.bwF (Sf.rowF ds) sa).length ≤ 3040) := ⟨by rw [Sf.bwF_length, Sf.SA_len hs, Sf.r0_length]; exact HLF.out⟩
    have HIS := Aside0.mk (isBwt_of HF.out hs)
    have HLB := Aside0.mk (Sf.bw_bounds HBy.out hs)
    have HHD := Aside0.mk (fun (j : Nat) (hj : j < ds.length) => head_at HBy.out hs hj)
    have HZ := Aside0.mk (Sf.bw_zeros HBy.out hs)
    have HNL := Aside0.mk (show ds.length ≤ (Sf.bwF (Sf.rowF ds) sa).length by
      rw [Sf.bwF_length, Sf.SA_len hs, Sf.r0_length]
      have := Sf.start_ge ds (j := ds.length) (Nat.le_refl _)
      rwa [Sf.startF_all] at this)
    generalize Sf.bwF (Sf.rowF ds) sa = l at *
    obtain ⟨A3, c3, rfl, hc3, hC3⟩ := R_is (n := l.length) hR3 rfl
    have HC3 := Aside0.mk hC3
    have HB3 := Aside0.mk (below_then HB2.out HB2.out.size hB3)
    clear hs hR3 hC3 hB3 HB2 HCS
    generalize hN : l.length = N at *
    have HN := Aside0.mk hN
    clear hN
    have hNb : N ≤ 3040 := HSL.out
    go_wp2_with fail
    refine (docs_walk A3 N c3 l w3 HC3.out hc3 (by omega) (by
      cases hbb : bigB l with
      | true => exact absurd HIS.out (not_arg (.inr hbb) ds)
      | false => rfl) (fun x hx => (HLB.out x hx).1)).mono ?_
    rintro e w4 ⟨hB4, ⟨rfl, hn⟩ | ⟨ds4, A4, rfl, hC4, hi4⟩⟩
    · exact absurd HIS.out (hn ds)
    have e4 : ds = ds4 := isBwt_unique HIS.out hi4
    subst e4
    have HC34 := Aside0.mk (Kd.C_below HC3.out hB4)
    have HC4 := Aside0.mk hC4
    rw [HL.out] at HC4 HNL HHD HZ ⊢
    have HB4 := Aside0.mk (below_then HB3.out HB3.out.size hB4)
    clear hi4 hC4 hB4 HB3 HC3
    go_wp2_with fail
    go_loopw [6, 7, 8] (fun v6 v7 v8 w' => ∃ i : Nat, v7 = .int .i64 i ∧ v6 = .int .i64 (Sf.sameC l 0 i : Int) ∧ Aside0 (i ≤ N) ∧ Aside0 (Below w4.heap.size w4 w')) (fun _ v7 _ _ => N - (intOf v7).toNat)
    case atStart => exact ⟨0, rfl, by simp [Sf.sameC], ⟨Nat.zero_le _⟩, ⟨Below.refl _ _⟩⟩
    case round =>
      obtain ⟨i, rfl, rfl, HI, HB⟩ := hrel
      have hsc := Sf.sameC_le l 0 i
      by_cases hlt : i < N
      · obtain ⟨ad, e, hx⟩ := at_nat HC34.out HB.out i hlt
        cases e
        have hs := Sf.sameC_succ l 0 (t := i) (by rw [HN.out]; exact hlt)
        have HWB := Aside0.mk (below_then HB4.out HB4.out.size HB.out)
        by_cases hin : i < n
        · have hh := HHD.out i hin
          obtain ⟨ad1, Ad1, cd1, e, hx1, hcd1, hCd1⟩ := at_doc H.out HWB.out i hin
          cases e
          obtain ⟨ad2, Ad2, cd2, e, hx2, hcd2, hCd2⟩ := at_doc HC4.out HB.out i hin
          cases e
          have hcv1 := Kd.C_string (P := Try.prog) (A := Ad1) (c := cd1) Try.underlying23 Try.underlying5 Try.underlying9 hCd1
          have hcv2 := Kd.C_string (P := Try.prog) (A := Ad2) (c := cd2) Try.underlying23 Try.underlying5 Try.underlying9 hCd2
          have hcv3 := fun m => Kd.C_string (P := Try.prog) (A := Ad1) (c := cd1) Try.underlying23 Try.underlying5 Try.underlying9 (Kd.C_drewN hCd1 m)
          have hcv4 := fun m => Kd.C_string (P := Try.prog) (A := Ad2) (c := cd2) Try.underlying23 Try.underlying5 Try.underlying9 (Kd.C_drewN hCd2 m)
          have hdl : (Sf.docF ds i).length ≤ 2000 := HF.out.d _ (by unfold Sf.docF; rw [List.getD_eq_getElem?_getD, List.getElem?_eq_getElem (by rw [HL.out]; exact hin)]; exact List.getElem_mem _)
          by_cases hq0 : (Sf.docF ds i).length = 0
          · rw [if_pos hq0] at hh
            rw [hh, if_pos rfl] at hs
            rw [hh] at hx
            rw [hq0] at hx1 hx2 hcv1 hcv2 hcv3 hcv4
            have HS := Aside0.mk hs
            clear hh hs hCd1 hCd2 hdl hq0
            generalize strOfNums (Sf.docF ds i) = s at *
            generalize Sf.sameC l 0 i = z at *
            go_upto_region 17 with fail
            go_quiet (fail)
            go_wp2_with fail
            go_roundw
            case rel => exact ⟨i + 1, by go_num, by rw [HS.out]; go_num, ⟨by omega⟩, ⟨pw_below_drewN HB.out _⟩⟩
            case measure => simp [intOf]; omega
          · rw [if_neg hq0] at hh
            obtain ⟨k, hk⟩ : ∃ k, (Sf.docF ds i).length = k + 1 := ⟨(Sf.docF ds i).length - 1, by omega⟩
            rw [hk, Nat.add_sub_cancel] at hh
            obtain ⟨ad3, e, hx3⟩ := at_nat hCd1 (Below.refl _ _) k (by omega)
            cases e
            have hcb := HBy.out.doc i _ (Sf.mem_of_getD (d := Sf.docF ds i) (p := k) (by omega))
            rw [hh, if_neg (by omega)] at hs
            rw [hh] at hx
            rw [hk] at hx1 hx2 hcv1 hcv2 hcv3 hcv4
            have HS := Aside0.mk hs
            clear hh hs hCd1 hCd2 hq0
            have hkb : k ≤ 2000 := by omega
            clear hdl hk
            generalize strOfNums (Sf.docF ds i) = s at *
            generalize Sf.sameC l 0 i = z at *
            generalize (Sf.docF ds i).getD k 0 = x at *
            obtain ⟨y, hy⟩ : ∃ y, y = x + 1 := ⟨_, rfl⟩
            have hw1 : IntKind.u16.wrap (x + 1) = y := by rw [IntKind.wrap_u16]; omega
            have hw0 : IntKind.u16.wrap x = x := by rw [IntKind.wrap_u16]; omega
            rw [← hy] at hx
            have hy0 : (y == 0) = false := by have : ¬ y = 0 := by omega
                                              simpa using this
            obtain ⟨q, hq⟩ : ∃ q : Nat, q = k + 1 := ⟨_, rfl⟩
            rw [← hq] at hx1 hx2 hcv1 hcv2 hcv3 hcv4
            have hqp : (q : Int) > 0 := by omega
            have hkq : (k : Int) < (q : Int) := by omega
            have hw2 : IntKind.i64.wrap ((q : Int) - 1) = (k : Int) := by rw [IntKind.wrap_i64]; omega
            clear hy hq hcb
            go_upto_region 16 with fail
            go_quiet (fail)
            go_upto_region 17 with fail
            go_quiet (fail)
            go_wp2_with fail
            go_roundw
            case rel => exact ⟨i + 1, by go_num, by rw [HS.out]; rfl, ⟨by omega⟩, ⟨pw_below_drewN HB.out _⟩⟩
            case measure => simp [intOf]; omega
        · by_cases hx0 : l.getD i 0 = 0
          · rw [if_pos hx0] at hs
            rw [hx0] at hx
            have HS := Aside0.mk hs
            clear hx0 hs
            generalize Sf.sameC l 0 i = z at *
            go_wp2_with fail
            go_roundw
            case rel => exact ⟨i + 1, by go_num, by rw [HS.out]; go_num, ⟨by omega⟩, HB⟩
            case measure => simp [intOf]; omega
          · rw [if_neg hx0] at hs
            have HS := Aside0.mk hs
            generalize l.getD i 0 = x at *
            have hy0 : (x == 0) = false := by simpa using hx0
            clear hx0 hs
            generalize Sf.sameC l 0 i = z at *
            go_wp2_with fail
            go_roundw
            case rel => exact ⟨i + 1, by go_num, by rw [HS.out]; rfl, ⟨by omega⟩, HB⟩
            case measure => simp [intOf]; omega
      · have hj : i = N := by have := HI.out; omega
        have hz : Sf.sameC l 0 i = n := by rw [hj, ← HN.out, zeros_same (fun x hx => (HLB.out x hx).1)]; exact HZ.out
        have HC5 := Aside0.mk (Kd.C_below HC34.out HB.out)
        have HWB := Aside0.mk (below_then HB4.out HB4.out.size HB.out)
        rw [hz]
        clear hj hz hsc
        go_wp2_with fail
        refine (starts_calls A3 N c3 l _ HC5.out (fun x hx => by have := HLB.out x hx; omega) (by omega)).mono ?_
        rintro e w6 ⟨rfl, hB6⟩
        have HC6 := Aside0.mk (Kd.C_below HC5.out hB6)
        have HB6 := Aside0.mk (below_then HWB.out HWB.out.size hB6)
        clear hB6 HC5 HWB HB
        go_upto_region 20 with (first | ((with_reducible refine gate_store (t := 58) (p := 9) rfl ?_); refine store_event rfl rfl rfl (store_run rfl rfl rfl (store_new l)) ?_; rintro w7 rfl))
        have HAT := Aside0.mk (arr_mk (xs := startsL l) HB6.out (startsL_length l))
        have HB7 := Aside0.mk (below_alloc HB6.out (.cells (nums .i64 (startsL l)).toArray 58))
        have HC7 := Aside0.mk (Kd.C_alloc HC6.out (.cells (nums .i64 (startsL l)).toArray 58))
        generalize w6.alloc (.cells (nums .i64 (startsL l)).toArray 58) = W2 at *
        generalize w6.heap.size = g at *
        have hc0 := own_nat HAT 0 (by omega)
        have hc1 := own_nat HAT 1 (by omega)
        have hc256 := own_nat HAT 256 (by omega)
        rw [startsL_at l (by omega)] at hc0 hc1 hc256
        have hz0 : Sf.belowC l ((0 : Nat) : Int) = 0 := below_zero (l := l) (fun x hx => (HLB.out x hx).1)
        rw [hz0] at hc0
        replace hc0 : W2.cell? ⟨g, 0, none⟩ = some (.int .i64 0) := hc0
        clear hz0
        have hz1 : Sf.belowC l ((1 : Nat) : Int) = n := HZ.out
        rw [hz1] at hc1
        have htop := below_top (l := l) (fun x hx => (HLB.out x hx).2)
        have hRK := Aside0.mk (fun (W : World) (hB : Below W2.heap.size W2 W) => rank_calls A3 N c3 l 256 (N : Int) W (Kd.C_below HC7.out hB) hc3 (by omega) (fun x hx => by have := HLB.out x hx; omega))
        rw [Int.toNat_natCast] at hRK
        rw [HN.out] at htop
        have hb256 : Sf.belowC l ((256 : Nat) : Int) = Sf.belowC l 256 := rfl
        rw [hb256] at hc256
        clear hz1 hb256
        generalize Sf.belowC l 256 = z256 at *
        generalize Sf.sameC l 256 N = r256 at *
        have hsum : IntKind.i64.wrap ((z256 : Int) + (r256 : Int)) = (N : Int) := by rw [IntKind.wrap_i64]; omega
        clear htop
        go_region_held3 (fun w' => w'.cell? ⟨g, 0, none⟩ = some (.int .i64 0) ∧ w'.cell? ⟨g, 1, none⟩ = some (.int .i64 (n : Int)) ∧ w'.cell? ⟨g, 256, none⟩ = some (.int .i64 (z256 : Int)))
          (first | exact ⟨hc0, hc1, hc256⟩ | exact ⟨pw_cell_below hB9 hc0, pw_cell_below hB9 hc1, pw_cell_below hB9 hc256⟩)
          (first | (go_at_call 37; refine (hRK.out _ (by first | exact Below.refl _ _ | exact pw_below_drewN (Below.refl _ _) _ | exact below_drew (Below.refl _ _))).mono ?_; rintro e w8 ⟨rfl, ⟨m8, rfl⟩⟩) | (go_at_call 33; refine (awake11_calls _).mono ?_; rintro e w9 ⟨rfl, hB9⟩))
        all_goals
          have HB9 := Aside0.mk (below_then HB7.out HB7.out.size (below_then (pw_below_drewN (Below.refl W2.heap.size W2) _) (Nat.le_refl _) hB9))
          clear hB9
          go_wp2_with fail
          go_ret
          exact ⟨rfl, HB9.out⟩
end Go.Proofs.Ytadekjidjhglaaa
