/- Walk of the law BwtSteps. -/
import Derived.Test.YtadekjidjhglaaaRo
import Derived.Test.YtadekjidjhglaaaCa
set_option linter.unusedVariables false
set_option linter.unusedSimpArgs false
namespace Go.Proofs.Ytadekjidjhglaaa
open Go.RowKit Go.Proofs.YtadekjidjhglaaaW.PrintWords Go.Proofs.YtadekjidjhglaaaW.PrintLast Go.Proofs.YtadekjidjhglaaaW.PrintMore

section
variable {ops : Array Oper} {rest : List Oper} {o : Oper} {a : Act} {Q : Exit → Act → World → Prop}
/-- make([]bool, n). -/
theorem mk_bool {w0 W : World} (hgd : o.guard = none) {N : Tmp} (hd : o.dst = some N) (x y : Operand) (ho : o.op = .makeSlice 74 x y) (n : Nat) (hx : a.eval x = .int .i64 n) (hy : a.eval y = .int .i64 n)
    (HB : Aside0 (Below w0.heap.size w0 W)) (hl : Aside0 (n ≤ 100000000))
    (h : ∀ g cap w1, Aside0 (Kd.bool.R 4 w1 w0.heap.size (fun _ => True) (.slice (some ⟨g, 0, none⟩) n cap) (List.replicate n false)) → Aside0 (Below w0.heap.size w0 w1) → Aside0 (W.grownBy w1 none) → Aside0 (W.heap.size ≤ g) → wpList Try.prog ops Q rest (a.put o.dst (.slice (some ⟨g, 0, none⟩) n cap)) w1) :
    wpList Try.prog ops Q (o :: rest) a W := by
  refine Kd.R_make Kd.bool (w0 := w0) w0.heap.size 4 hgd hd 74 x y ho n hx hy Try.underlying74 (.bool false) 1 info4 rfl (show 0 < 1 by omega) (by omega) false (ok := fun _ => True) (okp := fun _ => True) rfl (fun _ _ => trivial) trivial (by omega) ?_ HB.out HB.out.size ?_
  · have := hl.out
    rw [Int.toNat_natCast]
    omega
  · rintro v1 w1 h1 h2 h3 ⟨b, h4, h5⟩
    rw [Int.toNat_natCast] at h1
    obtain ⟨cap, rfl⟩ := own_some h1 h4
    rw [List.length_replicate] at h1 h4 ⊢
    exact h b cap w1 ⟨h1⟩ ⟨h2⟩ ⟨h3⟩ ⟨h5⟩
/-- A store of a bool into a row of the call's own. -/
theorem put_bool {w0 W : World} (p : Tmp) (y : Operand) (hgd : o.guard = none) (ho : o.op = .store 4 (.tmp p) y) (hN : o.dst = none)
    {g n cap i : Nat} {x : Bool} {xs : List Bool} (hp : a.eval (.tmp p) = .pointer (some ⟨g, i, none⟩)) (hy : a.eval y = .bool x)
    (HO : Aside0 (Kd.bool.R 4 W w0.heap.size (fun _ => True) (.slice (some ⟨g, 0, none⟩) n cap) xs)) (HB : Aside0 (Below w0.heap.size w0 W)) (hi : i < n)
    (h : ∀ w1, Aside0 (Kd.bool.R 4 w1 w0.heap.size (fun _ => True) (.slice (some ⟨g, 0, none⟩) n cap) (xs.set i x)) → Aside0 (Below w0.heap.size w0 w1) → Aside0 (W.grownBy w1 (some g)) → wpList Try.prog ops Q rest a w1) :
    wpList Try.prog ops Q (o :: rest) a W := by
  obtain ⟨hc, hf⟩ := Kd.R_celln false HO.out (i : Int) (by omega) (by omega)
  obtain ⟨h1, h2⟩ := Kd.R_putg HO.out (i : Int) x
  rw [Int.toNat_natCast] at hc hf h1 h2
  have hb := Kd.R_base HO.out g (by simp [Value.ownBlock])
  have hsz := size4
  refine store_event (t := 4) (p := p) (v := y) (w1 := W.setCell ⟨g, i, none⟩ (.bool x)) hgd ho hN ?_ ?_
  · unfold execOp
    rw [ho]
    simp only [hp, hy]
    go_simp
  · rintro w' rfl
    exact h _ ⟨h1⟩ ⟨below_set HB.out hb⟩ ⟨h2⟩
end
theorem own_bool {e base : Nat} {w : World} {g n cap : Nat} {xs : List Bool} (h : Aside0 (Kd.bool.R e w base (fun _ => True) (.slice (some ⟨g, 0, none⟩) n cap) xs)) (j : Nat) (hj : j < n) :
    w.cell? ⟨g, j, none⟩ = some (.bool (xs.getD j false)) := by
  have := (Kd.R_celln false h.out (j : Int) (by omega) (by omega)).1
  rw [Int.toNat_natCast] at this
  rw [this]; simp [rdOf]
/-- Which rows have been gone through. -/
def SeenAt (ds : List (List Int)) (sa : List Nat) (j lo : Nat) (xs : List Bool) : Prop := xs.length = sa.length ∧ ∀ r, r < sa.length → xs.getD r false = true → sa.getD r 0 < Sf.startF ds j ∨ (lo < sa.getD r 0 ∧ sa.getD r 0 < Sf.startF ds (j + 1))
theorem seen_set {ds : List (List Int)} {sa : List Nat} {j lo row : Nat} {xs : List Bool} (h : SeenAt ds sa j (lo + 1) xs) (hr : sa.getD row 0 = lo + 1) (hl : lo + 1 < Sf.startF ds (j + 1)) : SeenAt ds sa j lo (xs.set row true) := by
  refine ⟨by rw [List.length_set]; exact h.1, fun r hr' hs => ?_⟩
  rw [List.getD_eq_getElem?_getD, List.getElem?_set] at hs
  by_cases e : row = r
  · subst e; exact .inr ⟨by omega, by omega⟩
  · rw [if_neg e, ← List.getD_eq_getElem?_getD] at hs
    rcases h.2 r hr' hs with h1 | h1
    · exact .inl h1
    · exact .inr ⟨by omega, h1.2⟩
theorem seen_end {ds : List (List Int)} {sa : List Nat} {j row lo : Nat} {xs : List Bool} (h : SeenAt ds sa j lo xs) (hlo : lo = Sf.startF ds j) (hr : sa.getD row 0 = lo) (hl : lo < Sf.startF ds (j + 1)) (lo' : Nat) : SeenAt ds sa (j + 1) lo' (xs.set row true) := by
  refine ⟨by rw [List.length_set]; exact h.1, fun r hr' hs => .inl ?_⟩
  rw [List.getD_eq_getElem?_getD, List.getElem?_set] at hs
  by_cases e : row = r
  · subst e; omega
  · rw [if_neg e, ← List.getD_eq_getElem?_getD] at hs
    rcases h.2 r hr' hs with h1 | h1 <;> omega
theorem seen_not {ds : List (List Int)} {sa : List Nat} {j lo row : Nat} {xs : List Bool} (h : SeenAt ds sa j lo xs) (hrow : row < sa.length) (h1 : sa.getD row 0 ≤ lo) (h2 : Sf.startF ds j ≤ sa.getD row 0) : xs.getD row false = false := by
  cases hc : xs.getD row false with
  | false => rfl
  | true => rcases h.2 row hrow hc with h3 | h3 <;> omega

set_option maxRecDepth 100000 in
set_option maxHeartbeats 2000000 in
theorem stepslaw_row (A : Option Addr) (n c : Nat) (ds : List (List Int)) (w : World) (h : Kd.C (Kd.slice 5 (Kd.int .u8)) w A n ds) (hb : Sf.Bytes ds) :
    Calls Try.prog 13 #[.slice A n c] w fun e w' => e = .returned (.bool true) ∧ Below w.heap.size w w' := by
  have H := Aside0.mk h
  have HL := Aside0.mk h.1
  have HBy := Aside0.mk hb
  clear h hb
  go_enter Try.func13, Try.ntmps13
  go_wp2_with fail
  refine (few_calls A n c ds _ H.out).mono ?_
  rintro e w' ⟨⟨b, rfl, hfew⟩, rfl⟩
  cases b with
  | false =>
    clear hfew
    go_wp2_with (first | (go_at_call 33; refine (awake11_calls _).mono ?_; rintro e w' ⟨rfl, hB⟩; have HB := Aside0.mk hB; clear hB))
    go_ret
    exact ⟨rfl, HB.out⟩
  | true =>
    have hfit := fits_few (hfew rfl) HBy.out
    have HF := Aside0.mk hfit.1
    have HLF := Aside0.mk hfit.2
    clear hfit hfew
    go_wp2_with fail
    refine (new_calls A n c ds _ H.out HL.out (by rw [← HL.out]; exact HF.out.n) HF.out.d HF.out.t HBy.out).mono ?_
    rintro e w1 ⟨g, rfl, hT, hg, hB1⟩
    have HT := Aside0.mk hT
    have HB1 := Aside0.mk hB1
    clear hT hg hB1
    have HRL : Aside0 ((Sf.rowF ds).length ≤ 3040) := ⟨by rw [Sf.rowF_length]; exact HLF.out⟩
    go_wp2_with fail
    refine (of_calls g ds w1 HT.out HBy.out HF.out.n (by have := HRL.out; omega)).mono ?_
    rintro e w2 ⟨A2, N, sa, rfl, hs, hC2, hN, hB2⟩
    have HS := Aside0.mk hs
    have HC2 := Aside0.mk hC2
    have HN := Aside0.mk hN
    have HT2 := Aside0.mk (TextAt.below HT.out hB2)
    have HB2 := Aside0.mk (below_then HB1.out HB1.out.size hB2)
    have HSL : Aside0 (sa.length = N) := ⟨by rw [Sf.SA_len hs, Sf.r0_len, hN]⟩
    have hNb : N ≤ 3040 := by rw [hN]; exact HRL.out
    have HNb : Aside0 (N ≤ 100000000) := ⟨by omega⟩
    clear hs hC2 hN hB2 HT HB1
    obtain ⟨_, _, _, _, Ay, cy, q0, q1, ht2, q2⟩ := HT2.out.out
    rw [← HN.out] at ht2
    have HB20 : Aside0 (Below w2.heap.size w2 w2) := ⟨Below.refl _ _⟩
    go_wp2_with (first | (go_at_call 19; refine (len_calls g Ay N cy _ ht2).mono ?_; rintro e w' ⟨rfl, rfl⟩) | (at_make; refine mk_bool (w0 := w2) rfl rfl _ _ rfl N rfl rfl HB20 HNb ?_; intro gs caps w3 HSN HB3 HG HG2; clear HB20 HG HG2 HNb ht2))
    clear q0 q1 q2 HT2
    have HSE : Aside0 (SeenAt ds sa 0 (Sf.startF ds 0 + (Sf.docF ds 0).length) (List.replicate N false)) := ⟨by rw [List.length_replicate, HSL.out], fun r _ hr => by
      rw [List.getD_eq_getElem?_getD, List.getElem?_replicate] at hr
      split at hr <;> cases hr⟩
    have HPB : Aside0 (∀ j, j < ds.length → ∀ t, t ≤ (Sf.docF ds j).length → sa.getD (Sf.pathF (Sf.bwF (Sf.rowF ds) sa) j t) 0 = Sf.startF ds j + ((Sf.docF ds j).length - t) ∧ Sf.pathF (Sf.bwF (Sf.rowF ds) sa) j t < N) := ⟨fun j hj t ht => by
      have := Sf.path_bw HBy.out HS.out hj t ht
      rw [Sf.r0_len, ← HN.out] at this
      exact this⟩
    have HCH : Aside0 (∀ j, j < ds.length → Sf.Chain (Sf.bwF (Sf.rowF ds) sa) j (Sf.docF ds j)) := ⟨fun j hj => Sf.chain_bw HBy.out HS.out hj⟩
    have HLB := Aside0.mk (Sf.bw_bounds HBy.out HS.out)
    generalize Sf.bwF (Sf.rowF ds) sa = l at *
    go_loopw [7] (fun v7 w' => ∃ j : Nat, v7 = .int .i64 j ∧ Aside0 (j ≤ n) ∧ (∃ xs, Aside0 (SeenAt ds sa j (Sf.startF ds j + (Sf.docF ds j).length) xs) ∧ Aside0 (Kd.bool.R 4 w' w2.heap.size (fun _ => True) (.slice (some ⟨gs, 0, none⟩) N caps) xs)) ∧ Aside0 (Below w2.heap.size w2 w')) (fun v7 _ => n - (intOf v7).toNat)
    case atStart => exact ⟨0, rfl, ⟨Nat.zero_le _⟩, ⟨_, HSE, HSN⟩, HB3⟩
    case round =>
      clear HSE HSN HB3
      obtain ⟨j, rfl, HJ, ⟨xs, HSE, HSN⟩, HB⟩ := hrel
      have hnb : n ≤ 500 := by rw [← HL.out]; exact HF.out.n
      by_cases hlt : j < n
      · have HJD : Aside0 (j < ds.length) := ⟨by rw [HL.out]; exact hlt⟩
        have HSS := Aside0.mk (Sf.startF_succ ds HJD.out)
        have HWB := Aside0.mk (below_then HB2.out HB2.out.size HB.out)
        obtain ⟨ad, Ad, cd, e, hx, hcd, hCd⟩ := at_doc H.out HWB.out j hlt
        cases e
        have HCD := Aside0.mk hCd
        have hq : (Sf.docF ds j).length ≤ 2000 := HF.out.d _ (by unfold Sf.docF; rw [List.getD_eq_getElem?_getD, List.getElem?_eq_getElem HJD.out]; exact List.getElem_mem _)
        clear hCd hcd
        generalize hqe : (Sf.docF ds j).length = q at *
        have HQ := Aside0.mk hqe
        clear hqe
        obtain ⟨wo, hwo⟩ : ∃ wo : World, wo = wr := ⟨_, rfl⟩
        have HP0 : Aside0 (j = Sf.pathF l j 0) := ⟨rfl⟩
        go_wp2_with fail
        go_loopw [8, 9] (fun v8 v9 w' => ∃ (t row : Nat) (K : Int), v8 = .int .i64 row ∧ v9 = .int .i64 K ∧ Aside0 (K = (q : Int) - 1 - (t : Int) ∧ t ≤ q) ∧ Aside0 (row = Sf.pathF l j t) ∧ (∃ xs, Aside0 (SeenAt ds sa j (Sf.startF ds j + (q - t)) xs) ∧ Aside0 (Kd.bool.R 4 w' w2.heap.size (fun _ => True) (.slice (some ⟨gs, 0, none⟩) N caps) xs)) ∧ Aside0 (Below w2.heap.size w2 w')) (fun _ v9 _ => (intOf v9 + 1).toNat)
        case atStart => exact ⟨0, j, _, rfl, rfl, ⟨by omega, Nat.zero_le _⟩, HP0, ⟨xs, HSE, HSN⟩, HB⟩
        case round =>
          clear HSE HSN HB HP0 hwo HCD HWB hx
          obtain ⟨t, row, K, rfl, rfl, HK, HR, ⟨ys, HSE, HSN⟩, HB⟩ := hrel
          have hpb := HPB.out j HJD.out t (by rw [HQ.out]; exact HK.out.2)
          rw [← HR.out, HQ.out] at hpb
          have hrow := hpb.2
          have HPR := Aside0.mk hpb.1
          clear hpb
          have HWB := Aside0.mk (below_then HB2.out HB2.out.size HB.out)
          have hseen := own_bool HSN row hrow
          have hnot := seen_not HSE.out (row := row) (by rw [HSL.out]; exact hrow) (by rw [HPR.out]; omega) (by rw [HPR.out]; omega)
          rw [hnot] at hseen
          obtain ⟨ad2, e, hx2⟩ := at_nat HC2.out HB.out row hrow
          cases e
          clear hnot
          by_cases hK : 0 ≤ K
          · obtain ⟨k, rfl⟩ := Int.eq_ofNat_of_zero_le hK
            have htq : t < q := by have := HK.out.1; omega
            have hkq : k < q := by have := HK.out.1; omega
            have hch := (HCH.out j HJD.out).1 t (by rw [HQ.out]; exact htq)
            rw [← HR.out, HQ.out, show q - 1 - t = k by have := HK.out.1; omega] at hch
            obtain ⟨_, Ad3, cd3, e, hx, hcd, hCd⟩ := at_doc H.out HWB.out j hlt
            cases e
            rw [HQ.out] at hx hCd hcd
            obtain ⟨ad3, e, hx3⟩ := at_nat hCd (Below.refl _ _) k hkq
            cases e
            have hcb := HBy.out.doc j _ (Sf.mem_of_getD (d := Sf.docF ds j) (p := k) (by rw [HQ.out]; exact hkq))
            rw [hch] at hx2
            have HLX := Aside0.mk hch
            clear hch hCd
            generalize (Sf.docF ds j).getD k 0 = c0 at *
            have hwr : IntKind.u16.wrap (c0 + 1) = c0 + 1 := by rw [IntKind.wrap_u16]; omega
            have hne : (c0 + 1 != c0 + 1) = false := by simp
            have HST := Aside0.mk (fun (W : World) (hB : Below w2.heap.size w2 W) => step_calls (some ad2) N N l row W (Kd.C_below HC2.out hB) (Nat.le_refl _) (by omega) (fun x hx => by have := HLB.out x hx; omega) hrow (by rw [HLX.out]; omega) (by rw [HLX.out]; omega))
            have HNXE : Aside0 (Sf.nextF l row = Sf.pathF l j (t + 1)) := ⟨by rw [HR.out]; rfl⟩
            have hnx : Sf.nextF l row < N := by
              have := (HPB.out j HJD.out (t + 1) (by rw [HQ.out]; omega)).2
              rw [HNXE.out]; exact this
            generalize Sf.nextF l row = nx at *
            go_upto_region 17 with fail
            go_quiet (fail)
            go_wp2_with (first | ((with_reducible refine gate_store (t := 4) (p := 76) rfl ?_); refine put_bool (w0 := w2) 76 _ rfl rfl rfl rfl rfl ⟨Kd.R_drewN HSN.out _⟩ ⟨pw_below_drewN HB.out _⟩ hrow ?_; intro w6 HSN6 HB6 HG6; clear HSN HB HG6) | (go_at_call 45; refine (HST.out _ HB6.out).mono ?_; rintro e w7 ⟨rfl, hB7⟩; have HSN7 := Aside0.mk (Kd.R_below HSN6.out hB7); have HB7 := Aside0.mk (below_then HB6.out HB6.out.size hB7); clear hB7 HSN6 HB6 HST))
            go_roundw
            case rel => exact ⟨t + 1, nx, (k : Int) - 1, rfl, rfl, ⟨by have := HK.out.1; omega, by omega⟩, HNXE, ⟨_, ⟨seen_set (lo := Sf.startF ds j + (q - (t + 1))) (by rw [show Sf.startF ds j + (q - (t + 1)) + 1 = Sf.startF ds j + (q - t) by omega]; exact HSE.out) (by rw [HPR.out]; omega) (by rw [HSS.out]; omega)⟩, HSN7⟩, HB7⟩
            case measure => simp [intOf]
          · have htq : t = q := by have := HK.out.1; have := HK.out.2; omega
            have hch := (HCH.out j HJD.out).2
            rw [HQ.out, ← htq, ← HR.out] at hch
            rw [hch] at hx2
            have hKd : decide (K ≥ 0) = false := decide_eq_false (by omega)
            have HTQ := Aside0.mk htq
            clear hch htq
            go_wp2_with (first | ((with_reducible refine gate_store (t := 4) (p := 109) rfl ?_); refine put_bool (w0 := w2) 109 _ rfl rfl rfl rfl rfl HSN HB hrow ?_; intro w6 HSN6 HB6 HG6; clear HSN HB HG6))
            go_roundw
            case rel => exact ⟨j + 1, by go_num, ⟨by omega⟩, ⟨_, ⟨seen_end HSE.out (by have := HTQ.out; omega) HPR.out (by rw [HSS.out]; have := HTQ.out; omega) _⟩, HSN6⟩, HB6⟩
            case measure => simp [intOf]; omega
      · go_wp2_with (first | (go_at_call 33; refine (awake11_calls _).mono ?_; rintro e w10 ⟨rfl, hB10⟩; have HB10 := Aside0.mk (below_then HB2.out HB2.out.size (below_then HB.out HB.out.size hB10)); clear hB10))
        go_ret
        exact ⟨rfl, HB10.out⟩
end Go.Proofs.Ytadekjidjhglaaa
