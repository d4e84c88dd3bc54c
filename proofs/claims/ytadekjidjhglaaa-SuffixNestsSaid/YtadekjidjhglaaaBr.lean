/- Walks: sort.Search over the closures of Range, suffix.Range. -/
import Derived.Test.YtadekjidjhglaaaBq
set_option linter.unusedVariables false
set_option linter.unusedSimpArgs false
namespace Go.Proofs.Ytadekjidjhglaaa
open Go.RowKit Go.Proofs.YtadekjidjhglaaaW.PrintWords Go.Proofs.YtadekjidjhglaaaW.PrintLast Go.Proofs.YtadekjidjhglaaaW.PrintMore

set_option maxRecDepth 100000 in
set_option maxHeartbeats 1000000 in
theorem split_bool {P : Nat → Bool} {Q : Nat → Prop} {n r : Nat} (h : ∀ i, i < n → (P i = true ↔ Q i)) (hs : Sf.Split (fun i => P i = true) n r) : Sf.Split Q n r := Sf.split_congr h hs
theorem cmp_row {ds : List (List Int)} (hb : Sf.Bytes ds) {r : List (Nat × Nat)} (hs : Sf.Sorted ds r) {sa : List Nat} (h : Sf.SA (Sf.r0 ds) sa) {p : List Int} (hp : Sf.Byte1 p) {i : Nat} (hi : i < (Sf.r0 ds).length) :
    (0 ≤ Sf.cmpF ((Sf.rowF ds).drop (sa.getD i 0)) p ↔ ¬ Sf.ll (Sf.sufF ds r i) p) ∧ (0 < Sf.cmpF ((Sf.rowF ds).drop (sa.getD i 0)) p ↔ Sf.gtF (Sf.sufF ds r i) p) := by
  have e := Sf.rows_SA hb hs h
  have hl : r.length = (Sf.r0 ds).length := by rw [hs.1.length_eq, Sf.hitsF_length, Sf.r0_length]
  have hin : r.getD i (0, 0) ∈ Sf.hitsF 0 ds := hs.1.subset (by rw [List.getD_eq_getElem?_getD, List.getElem?_eq_getElem (by omega)]; exact List.getElem_mem _)
  have e2 : sa.getD i 0 = Sf.placeF ds (r.getD i (0, 0)) := by
    rw [e, List.getD_eq_getElem?_getD, List.getElem?_map, List.getD_eq_getElem?_getD, List.getElem?_eq_getElem (by omega)]
    rfl
  have hbd := Sf.hit_bounds hin
  obtain ⟨u, hu⟩ := Sf.row_drop ds (r.getD i (0, 0)).1 (r.getD i (0, 0)).2 hbd.1 hbd.2
  rw [e2]
  unfold Sf.placeF
  rw [hu]
  exact Sf.cmp_sign p _ u (fun c hc => (hp c hc).1)

set_option maxRecDepth 100000 in
set_option maxHeartbeats 1000000 in
theorem search56_calls (n b1 b2 b3 : Nat) (P : Nat → Bool) (w : World) (hn : n ≤ 1000000)
    (hcl : ∀ i, i < n → ∀ m, Calls Try.prog 56 #[.int .i64 i, .pointer (some ⟨b1, 0, none⟩), .pointer (some ⟨b2, 0, none⟩), .pointer (some ⟨b3, 0, none⟩)] (w.drewN m) fun e w' => e = .returned (.bool (P i)) ∧ Drawn0 (w.drewN m) w')
    (hmono : ∀ i j, i ≤ j → j < n → P i = true → P j = true) :
    Calls Try.prog 55 #[.int .i64 n, .func (.func 56) #[] #[.pointer (some ⟨b1, 0, none⟩), .pointer (some ⟨b2, 0, none⟩), .pointer (some ⟨b3, 0, none⟩)]] w fun e w' => ∃ r : Nat, e = .returned (.int .i64 r) ∧ Sf.Split (fun i => P i = true) n r ∧ ∃ m, w' = w.drewN m := by
  have HCL := Aside0.mk hcl
  have HMO := Aside0.mk hmono
  clear hcl hmono
  go_enter Try.func55, Try.ntmps55
  go_wp2_with fail
  go_loopw [5, 6, 7] (fun v5 v6 v7 w' => ∃ i j : Nat, v5 = .int .i64 i ∧ v6 = .int .i64 j ∧ Aside0 (i ≤ j ∧ j ≤ n ∧ (∀ t, t < i → P t = false) ∧ (∀ t, j ≤ t → t < n → P t = true)) ∧ Aside0 (∃ m, w' = w.drewN m)) (fun v5 v6 _ _ => (intOf v6).toNat - (intOf v5).toNat)
  case atStart => exact ⟨0, n, rfl, rfl, ⟨Nat.zero_le _, Nat.le_refl _, fun t h => absurd h (Nat.not_lt_zero _), fun t h1 h2 => by omega⟩, ⟨0, rfl⟩⟩
  case round =>
    obtain ⟨i, j, rfl, rfl, HI, HW⟩ := hrel
    obtain ⟨m, hm⟩ := HW.out
    subst hm
    clear HW
    have hij := HI.out.1
    have hjn := HI.out.2.1
    by_cases hlt : i < j
    · have hq : IntKind.u64.wrap ((i : Int) + (j : Int)) = (((i + j : Nat)) : Int) := by rw [IntKind.wrap_u64]; omega
      go_wp2_with fail
      have e2 : ((i : Int) + (j : Int)) / 2 = ((((i + j) / 2 : Nat)) : Int) := by omega
      rw [e2]
      have h1 : i ≤ (i + j) / 2 := by omega
      have h2 : (i + j) / 2 < j := by omega
      clear hq e2
      generalize (i + j) / 2 = h at *
      refine (HCL.out h (by omega) m).mono ?_
      rintro e w' ⟨rfl, ⟨m2, rfl⟩⟩
      cases hP : P h with
      | true =>
        have HN : Aside0 (∀ t, h ≤ t → t < n → P t = true) := ⟨fun t h3 h4 => HMO.out h t h3 h4 hP⟩
        go_wp2_with fail
        go_roundw
        case rel => exact ⟨i, h, rfl, rfl, ⟨h1, by omega, HI.out.2.2.1, HN.out⟩, ⟨⟨_, rfl⟩⟩⟩
        case measure => simp [intOf]; omega
      | false =>
        have HN : Aside0 (∀ t, t < h + 1 → P t = false) := ⟨fun t h3 => by
          cases hPt : P t with
          | false => rfl
          | true => exact absurd (HMO.out t h (by omega) (by omega) hPt) (by rw [hP]; simp)⟩
        go_wp2_with fail
        go_roundw
        case rel => exact ⟨h + 1, j, by go_num, rfl, ⟨by omega, hjn, HN.out, HI.out.2.2.2⟩, ⟨⟨_, rfl⟩⟩⟩
        case measure => simp [intOf]; omega
    · have hj : j = i := by omega
      subst hj
      go_wp2_with fail
      go_ret
      exact ⟨j, rfl, ⟨hjn, fun t ht h => by have := HI.out.2.2.1 t ht; simp [this] at h, HI.out.2.2.2⟩, ⟨m, rfl⟩⟩

set_option maxRecDepth 100000 in
set_option maxHeartbeats 1000000 in
theorem search58_calls (n b1 b2 b3 : Nat) (P : Nat → Bool) (w : World) (hn : n ≤ 1000000)
    (hcl : ∀ i, i < n → ∀ m, Calls Try.prog 58 #[.int .i64 i, .pointer (some ⟨b1, 0, none⟩), .pointer (some ⟨b2, 0, none⟩), .pointer (some ⟨b3, 0, none⟩)] (w.drewN m) fun e w' => e = .returned (.bool (P i)) ∧ Drawn0 (w.drewN m) w')
    (hmono : ∀ i j, i ≤ j → j < n → P i = true → P j = true) :
    Calls Try.prog 55 #[.int .i64 n, .func (.func 58) #[] #[.pointer (some ⟨b1, 0, none⟩), .pointer (some ⟨b2, 0, none⟩), .pointer (some ⟨b3, 0, none⟩)]] w fun e w' => ∃ r : Nat, e = .returned (.int .i64 r) ∧ Sf.Split (fun i => P i = true) n r ∧ ∃ m, w' = w.drewN m := by
  have HCL := Aside0.mk hcl
  have HMO := Aside0.mk hmono
  clear hcl hmono
  go_enter Try.func55, Try.ntmps55
  go_wp2_with fail
  go_loopw [5, 6, 7] (fun v5 v6 v7 w' => ∃ i j : Nat, v5 = .int .i64 i ∧ v6 = .int .i64 j ∧ Aside0 (i ≤ j ∧ j ≤ n ∧ (∀ t, t < i → P t = false) ∧ (∀ t, j ≤ t → t < n → P t = true)) ∧ Aside0 (∃ m, w' = w.drewN m)) (fun v5 v6 _ _ => (intOf v6).toNat - (intOf v5).toNat)
  case atStart => exact ⟨0, n, rfl, rfl, ⟨Nat.zero_le _, Nat.le_refl _, fun t h => absurd h (Nat.not_lt_zero _), fun t h1 h2 => by omega⟩, ⟨0, rfl⟩⟩
  case round =>
    obtain ⟨i, j, rfl, rfl, HI, HW⟩ := hrel
    obtain ⟨m, hm⟩ := HW.out
    subst hm
    clear HW
    have hij := HI.out.1
    have hjn := HI.out.2.1
    by_cases hlt : i < j
    · have hq : IntKind.u64.wrap ((i : Int) + (j : Int)) = (((i + j : Nat)) : Int) := by rw [IntKind.wrap_u64]; omega
      go_wp2_with fail
      have e2 : ((i : Int) + (j : Int)) / 2 = ((((i + j) / 2 : Nat)) : Int) := by omega
      rw [e2]
      have h1 : i ≤ (i + j) / 2 := by omega
      have h2 : (i + j) / 2 < j := by omega
      clear hq e2
      generalize (i + j) / 2 = h at *
      refine (HCL.out h (by omega) m).mono ?_
      rintro e w' ⟨rfl, ⟨m2, rfl⟩⟩
      cases hP : P h with
      | true =>
        have HN : Aside0 (∀ t, h ≤ t → t < n → P t = true) := ⟨fun t h3 h4 => HMO.out h t h3 h4 hP⟩
        go_wp2_with fail
        go_roundw
        case rel => exact ⟨i, h, rfl, rfl, ⟨h1, by omega, HI.out.2.2.1, HN.out⟩, ⟨⟨_, rfl⟩⟩⟩
        case measure => simp [intOf]; omega
      | false =>
        have HN : Aside0 (∀ t, t < h + 1 → P t = false) := ⟨fun t h3 => by
          cases hPt : P t with
          | false => rfl
          | true => exact absurd (HMO.out t h (by omega) (by omega) hPt) (by rw [hP]; simp)⟩
        go_wp2_with fail
        go_roundw
        case rel => exact ⟨h + 1, j, by go_num, rfl, ⟨by omega, hjn, HN.out, HI.out.2.2.2⟩, ⟨⟨_, rfl⟩⟩⟩
        case measure => simp [intOf]; omega
    · have hj : j = i := by omega
      subst hj
      go_wp2_with fail
      go_ret
      exact ⟨j, rfl, ⟨hjn, fun t ht h => by have := HI.out.2.2.1 t ht; simp [this] at h, HI.out.2.2.2⟩, ⟨m, rfl⟩⟩

set_option maxRecDepth 100000 in
set_option maxHeartbeats 1000000 in
theorem range_calls (g : Nat) (ds : List (List Int)) (w : World) (hT : TextAt w g ds) (hb : Sf.Bytes ds) (hm : ds.length ≤ 500) (hn : (Sf.rowF ds).length ≤ 60000) (A0 : Option Addr) (n c0 : Nat) (hc : n ≤ c0) (sa : List Nat)
    (h0 : Kd.C (Kd.int .i64) w A0 n (Sf.ni sa)) (hs : Sf.SA (Sf.r0 ds) sa) (A2 : Option Addr) (m c2 : Nat) (p : List Int) (h2 : Kd.C (Kd.int .u8) w A2 m p) (hp : Sf.Byte1 p) (hpm : m ≤ 1000000) :
    Calls Try.prog 28 #[.pointer (some ⟨g, 0, none⟩), .slice A0 n c0, .slice A2 m c2] w fun e w' => ∃ lo hi : Nat, e = .returned (.tuple #[.int .i64 lo, .int .i64 hi]) ∧ (∀ r, Sf.Sorted ds r → Sf.Split (fun i => ¬ Sf.ll (Sf.sufF ds r i) p) n lo ∧ Sf.Split (fun i => Sf.gtF (Sf.sufF ds r i) p) n hi) ∧ Below w.heap.size w w' := by
  have hl : sa.length = n := by have := h0.1; simpa [Sf.ni] using this
  have hl2 : (Sf.r0 ds).length = n := by rw [← Sf.SA_len hs]; exact hl
  have hl3 : (Sf.rowF ds).length = n := by rw [← Sf.r0_len]; exact hl2
  have hn' : n ≤ 60000 := by omega
  have HT := Aside0.mk hT
  have H0 := Aside0.mk h0
  have H2 := Aside0.mk h2
  have HS := Aside0.mk hs
  have HLL := Aside0.mk (And.intro hl (And.intro hl2 hl3))
  clear h0 hs hl hl2 hl3 h2
  go_enter Try.func28, Try.ntmps28
  go_wp2_with fail
  have hBa : Below w.heap.size w ((w.alloc (Obj.cells #[Value.slice A0 n c0] 28)).alloc (Obj.cells #[Value.slice A2 m c2] 23)) := below_alloc (below_alloc (Below.refl _ _) _) _
  have hc2 : ((w.alloc (Obj.cells #[Value.slice A0 n c0] 28)).alloc (Obj.cells #[Value.slice A2 m c2] 23)).cell? ⟨w.heap.size, 0, none⟩ = some (.slice A0 n c0) := by simp
  have hc3 : ((w.alloc (Obj.cells #[Value.slice A0 n c0] 28)).alloc (Obj.cells #[Value.slice A2 m c2] 23)).cell? ⟨w.heap.size + 1, 0, none⟩ = some (.slice A2 m c2) := by simp
  generalize (w.alloc (Obj.cells #[Value.slice A0 n c0] 28)).alloc (Obj.cells #[Value.slice A2 m c2] 23) = W at *
  have HBa := Aside0.mk hBa
  have HC23 := Aside0.mk (And.intro hc2 hc3)
  clear hBa hc2 hc3
  refine (ok_calls g ds _ (TextAt.below HT.out HBa.out) hb hm hn A0 n c0 hc sa (Kd.C_below H0.out HBa.out) HS.out).mono ?_
  rintro e w1 ⟨rfl, hB1⟩
  have HB1 := Aside0.mk (below_then HBa.out HBa.out.size hB1)
  have hc2 := pw_cell_below hB1 HC23.out.1
  have hc3 := pw_cell_below hB1 HC23.out.2
  obtain ⟨_, _, _, _, Ay, cy, _, _, ht2, _, hcy, _, _, hrow⟩ := (TextAt.below HT.out HB1.out).out
  rw [HLL.out.2.2] at ht2 hrow hcy
  have HROW := Aside0.mk hrow
  clear hB1 hrow
  go_upto_region 4 with (first | (go_at_call 53; refine (row_calls g Ay n cy _ ht2).mono ?_; rintro e w' ⟨rfl, rfl⟩))
  have hB2 : Below w1.heap.size w1 (w1.alloc (Obj.cells #[Value.slice Ay n cy] 53)) := below_alloc (Below.refl _ _) _
  have hc1 : (w1.alloc (Obj.cells #[Value.slice Ay n cy] 53)).cell? ⟨w1.heap.size, 0, none⟩ = some (.slice Ay n cy) := by simp
  replace hc2 := pw_cell_below hB2 hc2
  replace hc3 := pw_cell_below hB2 hc3
  have HROW2 := Aside0.mk (Kd.C_below HROW.out hB2)
  have HB2 := Aside0.mk (below_then HB1.out HB1.out.size hB2)
  generalize w1.alloc (Obj.cells #[Value.slice Ay n cy] 53) = W2 at *
  have HC0' := Aside0.mk (Kd.C_below H0.out HB2.out)
  have HC2' := Aside0.mk (Kd.C_below H2.out HB2.out)
  generalize w1.heap.size = b1 at *
  have hpl : p.length = m := H2.out.1
  have HRA : Aside0 (RangeAt W2 b1 w.heap.size (w.heap.size + 1) n (Sf.rowF ds) sa p) := ⟨⟨⟨Ay, cy, A0, c0, A2, c2, hc1, hc2, by rw [hpl]; exact hc3, hcy, hc, HROW2.out, HC0'.out, by rw [hpl]; exact HC2'.out⟩⟩⟩
  have hx := Sf.row_bounds ds hb
  have HCL1 := Aside0.mk (fun (i : Nat) (hi : i < n) (W : World) (hB : Below W2.heap.size W2 W) => rlo_calls i b1 w.heap.size (w.heap.size + 1) n (Sf.rowF ds) sa p W (RangeAt.below HRA.out hB) hx hp (by omega) (by rw [← HLL.out.2.2]; exact Sf.row_last ds (by rw [HLL.out.2.2]; omega)) hi (by rw [← HLL.out.2.1]; exact Sf.SA_lt HS.out (by rw [HLL.out.2.1]; exact hi)) (by omega))
  have HCL2 := Aside0.mk (fun (i : Nat) (hi : i < n) (W : World) (hB : Below W2.heap.size W2 W) => rhi_calls i b1 w.heap.size (w.heap.size + 1) n (Sf.rowF ds) sa p W (RangeAt.below HRA.out hB) hx hp (by omega) (by rw [← HLL.out.2.2]; exact Sf.row_last ds (by rw [HLL.out.2.2]; omega)) hi (by rw [← HLL.out.2.1]; exact Sf.SA_lt HS.out (by rw [HLL.out.2.1]; exact hi)) (by omega))
  obtain ⟨r, hr⟩ := Sf.rows_exist (ds := ds)
  have hrl : r.length = n := by rw [hr.1.length_eq, Sf.hitsF_length, ← Sf.r0_length]; exact HLL.out.2.1
  have hcr : ∀ r, Sf.Sorted ds r → ∀ i, i < n → (0 ≤ Sf.cmpF ((Sf.rowF ds).drop (sa.getD i 0)) p ↔ ¬ Sf.ll (Sf.sufF ds r i) p) ∧ (0 < Sf.cmpF ((Sf.rowF ds).drop (sa.getD i 0)) p ↔ Sf.gtF (Sf.sufF ds r i) p) := fun r hr i hi => cmp_row hb hr HS.out hp (by rw [HLL.out.2.1]; exact hi)
  have HM1 : Aside0 (∀ i j, i ≤ j → j < n → decide (0 ≤ Sf.cmpF ((Sf.rowF ds).drop (sa.getD i 0)) p) = true → decide (0 ≤ Sf.cmpF ((Sf.rowF ds).drop (sa.getD j 0)) p) = true) := ⟨fun i j hij hj h => by
    rw [decide_eq_true_iff] at h ⊢
    rw [(hcr r hr i (by omega)).1] at h
    rw [(hcr r hr j hj).1]
    exact Sf.mono_lo hr p i j hij (by omega) h⟩
  have HM2 : Aside0 (∀ i j, i ≤ j → j < n → decide (0 < Sf.cmpF ((Sf.rowF ds).drop (sa.getD i 0)) p) = true → decide (0 < Sf.cmpF ((Sf.rowF ds).drop (sa.getD j 0)) p) = true) := ⟨fun i j hij hj h => by
    rw [decide_eq_true_iff] at h ⊢
    rw [(hcr r hr i (by omega)).2] at h
    rw [(hcr r hr j hj).2]
    exact Sf.mono_hi hr p i j hij (by omega) h⟩
  have HCR := Aside0.mk hcr
  clear hcr hr hrl hx hpl hp hb
  go_wp2_with fail
  refine (search56_calls n b1 w.heap.size (w.heap.size + 1) (fun i => decide (0 ≤ Sf.cmpF ((Sf.rowF ds).drop (sa.getD i 0)) p)) _ (by omega) (fun i hi m => HCL1.out i hi _ (pw_below_drewN (Below.refl _ _) m)) HM1.out).mono ?_
  rintro e w3 ⟨lo, rfl, hlo, ⟨k, hk⟩⟩
  have HLO := Aside0.mk hlo
  have hB3 : Below W2.heap.size W2 w3 := by rw [hk]; exact pw_below_drewN (Below.refl _ _) k
  have HB3 := Aside0.mk hB3
  replace hc2 := pw_cell_below hB3 hc2
  clear hlo hk hB3
  go_wp2_with fail
  refine (search58_calls n b1 w.heap.size (w.heap.size + 1) (fun i => decide (0 < Sf.cmpF ((Sf.rowF ds).drop (sa.getD i 0)) p)) _ (by omega) (fun i hi m => HCL2.out i hi _ (pw_below_drewN HB3.out m)) HM2.out).mono ?_
  rintro e w4 ⟨hi, rfl, hhi, ⟨k, hk⟩⟩
  have HHI := Aside0.mk hhi
  have hB4 : Below W2.heap.size W2 w4 := by rw [hk]; exact pw_below_drewN HB3.out k
  have HB4 := Aside0.mk hB4
  clear hhi hk hB4
  go_wp2_with fail
  go_ret2
  exact ⟨lo, hi, rfl, fun r hr => ⟨split_bool (fun i hi => by rw [decide_eq_true_iff]; exact (HCR.out r hr i hi).1) HLO.out, split_bool (fun i hi => by rw [decide_eq_true_iff]; exact (HCR.out r hr i hi).2) HHI.out⟩, below_then HB2.out HB2.out.size HB4.out⟩
end Go.Proofs.Ytadekjidjhglaaa
