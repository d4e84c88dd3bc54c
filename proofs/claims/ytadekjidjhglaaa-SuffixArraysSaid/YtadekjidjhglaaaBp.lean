/- Walks: suffix.Common. -/
import Derived.Test.YtadekjidjhglaaaBo
import Derived.Test.YtadekjidjhglaaaBn
set_option linter.unusedVariables false
set_option linter.unusedSimpArgs false
namespace Go.Proofs.Ytadekjidjhglaaa.Sf
/-- What is written so far. -/
def ComAt (r : List Int) (sa : List Nat) (p : Nat) (xs : List Int) : Prop := xs.length = r.length ∧ ∀ j, j < r.length → xs.getD j 0 = if j ≠ 0 ∧ sa.getD j 0 < p then (CN r sa j : Int) else 0
def KAt (r : List Int) (sa : List Nat) (p k : Nat) : Prop := k ≤ r.length ∧ ∀ i, i < r.length → i ≠ 0 → sa.getD i 0 = p → k ≤ CN r sa i
theorem com_start (r : List Int) (sa : List Nat) : ComAt r sa 0 (List.replicate r.length 0) ∧ KAt r sa 0 0 := by
  refine ⟨⟨by simp, fun j hj => ?_⟩, Nat.zero_le _, fun _ _ _ _ => Nat.zero_le _⟩
  rw [if_neg (by omega), List.getD_eq_getElem?_getD, List.getElem?_replicate, if_pos hj]
  rfl
theorem com_end {r : List Int} {sa : List Nat} (hs : SA r sa) {p : Nat} (hp : r.length ≤ p) {xs : List Int} (h : ComAt r sa p xs) : xs = comF r sa := by
  apply List.ext_getElem
  · rw [h.1]; simp [comF]
  · intro j h1 h2
    have hj : j < r.length := by rw [← h.1]; exact h1
    have := h.2 j hj
    rw [List.getD_eq_getElem?_getD, List.getElem?_eq_getElem h1] at this
    simp only [Option.getD_some] at this
    rw [this]
    have e2 : (comF r sa)[j] = if j = 0 then 0 else (CN r sa j : Int) := by simp [comF]
    rw [e2]
    have := SA_lt hs hj
    by_cases e : j = 0
    · rw [if_neg (by omega), if_pos e]
    · rw [if_pos ⟨e, by omega⟩, if_neg e]
theorem com_zero {ds : List (List Int)} {sa : List Nat} (hs : SA (r0 ds) sa) {p : Nat} {xs : List Int} (h : ComAt (r0 ds) sa p xs) (e : sa.getD 0 0 = p) : ComAt (r0 ds) sa (p + 1) xs := by
  refine ⟨h.1, fun j hj => ?_⟩
  rw [h.2 j hj]
  by_cases h0 : j = 0
  · rw [if_neg (by omega), if_neg (by omega)]
  · have := SA_ne hs (show 0 < j by omega) hj
    rw [e] at this
    by_cases h1 : sa.getD j 0 < p
    · rw [if_pos ⟨h0, h1⟩, if_pos ⟨h0, by omega⟩]
    · rw [if_neg (by omega), if_neg (by omega)]
theorem com_next {ds : List (List Int)} {sa : List Nat} (hs : SA (r0 ds) sa) {p i : Nat} {xs : List Int} (h : ComAt (r0 ds) sa p xs) (hi : i < (r0 ds).length) (h0 : i ≠ 0) (e : sa.getD i 0 = p) : ComAt (r0 ds) sa (p + 1) (xs.set i (CN (r0 ds) sa i : Int)) := by
  refine ⟨by rw [List.length_set]; exact h.1, fun j hj => ?_⟩
  rw [List.getD_eq_getElem?_getD, List.getElem?_set]
  by_cases hij : i = j
  · subst hij
    rw [if_pos rfl, if_pos (by rw [h.1]; exact hi), if_pos ⟨h0, by omega⟩]
    rfl
  · rw [if_neg hij, ← List.getD_eq_getElem?_getD, h.2 j hj]
    have hne : sa.getD j 0 ≠ p := by
      intro e2
      rcases Nat.lt_or_gt_of_ne hij with g | g
      · exact SA_ne hs g hj (e.trans e2.symm)
      · exact SA_ne hs g hi (e2.trans e.symm)
    by_cases h1 : j ≠ 0 ∧ sa.getD j 0 < p
    · rw [if_pos h1, if_pos ⟨h1.1, by omega⟩]
    · rw [if_neg h1, if_neg (by omega)]
theorem k_next {ds : List (List Int)} (hb : Bytes ds) {sa : List Nat} (hs : SA (r0 ds) sa) {p i : Nat} (hi : i < (r0 ds).length) (h0 : i ≠ 0) (e : sa.getD i 0 = p) : KAt (r0 ds) sa (p + 1) (CN (r0 ds) sa i - 1) := by
  refine ⟨?_, fun i' hi' h0' e' => kasai hb hs hi hi' e e' h0 h0'⟩
  have := (lcp_le ((r0 ds).drop (sa.getD i 0)) ((r0 ds).drop (sa.getD (i - 1) 0))).1
  rw [List.length_drop] at this
  unfold CN
  omega
theorem k_zero (r : List Int) (sa : List Nat) (p : Nat) : KAt r sa p 0 := ⟨Nat.zero_le _, fun _ _ _ _ => Nat.zero_le _⟩
end Go.Proofs.Ytadekjidjhglaaa.Sf
namespace Go.Proofs.Ytadekjidjhglaaa
open Go.RowKit Go.Proofs.YtadekjidjhglaaaW.PrintWords Go.Proofs.YtadekjidjhglaaaW.PrintLast Go.Proofs.YtadekjidjhglaaaW.PrintMore
attribute [local go_sem] max2_int min2_int max_two min_two

set_option maxRecDepth 100000 in
set_option maxHeartbeats 2000000 in
theorem common_calls (g : Nat) (ds : List (List Int)) (w : World) (hT : TextAt w g ds) (hb : Sf.Bytes ds) (hm : ds.length ≤ 500) (hn : (Sf.rowF ds).length ≤ 60000) (A0 : Option Addr) (n c0 : Nat) (hc : n ≤ c0) (sa : List Nat)
    (h0 : Kd.C (Kd.int .i64) w A0 n (Sf.ni sa)) (hs : Sf.SA (Sf.r0 ds) sa) :
    Calls Try.prog 25 #[.pointer (some ⟨g, 0, none⟩), .slice A0 n c0] w fun e w' => ∃ v, e = .returned v ∧ Kd.R (Kd.int .i64) 3 w' w.heap.size (fun _ => True) v (Sf.comF (Sf.r0 ds) sa) ∧ Below w.heap.size w w' := by
  have hl : sa.length = n := by have := h0.1; simpa [Sf.ni] using this
  have hl2 : (Sf.r0 ds).length = n := by rw [← Sf.SA_len hs]; exact hl
  have hl3 : (Sf.rowF ds).length = n := by rw [← Sf.r0_len]; exact hl2
  have hn' : n ≤ 60000 := by omega
  have HT := Aside0.mk hT
  have H0 := Aside0.mk h0
  have HS := Aside0.mk hs
  have HLL := Aside0.mk (And.intro hl (And.intro hl2 hl3))
  clear h0 hs hl hl2 hl3
  go_enter Try.func25, Try.ntmps25
  go_wp2_with (first | (go_at_call 23; refine (ok_calls g ds _ HT.out hb hm hn A0 n c0 hc sa H0.out HS.out).mono ?_; rintro e w1 ⟨rfl, hB1⟩; have HB1 := Aside0.mk hB1; clear hB1))
  refine (inverse_calls A0 n c0 hc ds sa _ (Kd.C_below H0.out HB1.out) HS.out (by omega)).mono ?_
  rintro e w2 ⟨A1, c1, rfl, hc1, hC1, hB2⟩
  have HC1 := Aside0.mk hC1
  have HB2 := Aside0.mk (below_then HB1.out HB1.out.size hB2)
  obtain ⟨_, _, _, _, Ay, cy, _, _, ht2, _, _, _, _, hrow⟩ := (TextAt.below HT.out HB2.out).out
  rw [HLL.out.2.2] at ht2 hrow
  have HROW := Aside0.mk hrow
  have HB0 : Aside0 (Below w2.heap.size w2 w2) := ⟨Below.refl _ _⟩
  have HNb : Aside0 (n ≤ 100000000) := ⟨by omega⟩
  clear hC1 hB2 hrow
  go_wp2_with (first | (go_at_call 53; refine (row_calls g Ay n cy _ ht2).mono ?_; rintro e w' ⟨rfl, rfl⟩) | (at_make; refine mk_int (w0 := w2) 28 3 8 Try.underlying28 info3 (by omega) (by omega) rfl rfl _ _ rfl n rfl rfl HB0 HNb ?_; intro gx cap w3 HO HB3 HG HG2; clear HB0 HNb HG HG2))
  have HST := Aside0.mk (Sf.com_start (Sf.r0 ds) sa)
  rw [HLL.out.2.1] at HST
  go_loopw [9, 10, 11, 32] (fun v9 v10 v11 v32 w' => ∃ p k : Nat, v32 = .int .i64 p ∧ v9 = .int .i64 k ∧ Aside0 (p ≤ n) ∧ Aside0 (Sf.KAt (Sf.r0 ds) sa p k) ∧ (∃ xs : List Int, Aside0 (Sf.ComAt (Sf.r0 ds) sa p xs) ∧ Aside0 (Kd.R (Kd.int .i64) 3 w' w2.heap.size (fun _ => True) (.slice (some ⟨gx, 0, none⟩) n cap) xs)) ∧ Aside0 (Below w2.heap.size w2 w')) (fun _ _ _ v32 _ => n - (intOf v32).toNat)
  case atStart => exact ⟨0, 0, rfl, rfl, ⟨Nat.zero_le _⟩, ⟨HST.out.2⟩, ⟨_, ⟨HST.out.1⟩, HO⟩, HB3⟩
  case round =>
    clear HO HB3 HST ht2
    obtain ⟨p, k, rfl, rfl, HP, HK, ⟨xs, HX, HO⟩, HB⟩ := hrel
    by_cases hlt : p < n
    · obtain ⟨i, hi, e⟩ := Sf.SA_at HS.out (x := p) (by rw [HLL.out.2.1]; exact hlt)
      rw [HLL.out.2.1] at hi
      have hat := Sf.invA_at HS.out (i := i) (by rw [HLL.out.2.1]; exact hi)
      rw [e] at hat
      have HE := Aside0.mk e
      obtain ⟨ad1, e1, hx1⟩ := at_nat HC1.out HB.out p hlt
      cases e1
      rw [hat] at hx1
      have HAT := Aside0.mk hat
      clear hat e
      by_cases hi0 : i = 0
      · subst hi0
        have HZ := Aside0.mk (Sf.com_zero HS.out HX.out HE.out)
        go_wp2_with fail
        go_roundw
        case rel => exact ⟨p + 1, 0, by go_num, rfl, ⟨by omega⟩, ⟨Sf.k_zero _ _ _⟩, ⟨xs, HZ, HO⟩, HB⟩
        case measure => simp [intOf]; omega
      · have hz : ((i : Int) == 0) = false := by simp; omega
        have HKL := Aside0.mk (HK.out.2 i (by rw [HLL.out.2.1]; exact hi) hi0 HE.out)
        have hqe : sa.getD (i - 1) 0 < n := by rw [← HLL.out.2.1]; exact Sf.SA_lt HS.out (by rw [HLL.out.2.1]; omega)
        have HNE := Aside0.mk (Sf.SA_ne HS.out (show i - 1 < i by omega) (by rw [HLL.out.2.1]; exact hi))
        have HBW := Aside0.mk (below_then HB2.out HB2.out.size HB.out)
        obtain ⟨ad0, e1, hx0⟩ := at_nat H0.out HBW.out (i - 1) (by omega)
        cases e1
        rw [Sf.ni_getD] at hx0
        have HCN : Aside0 (Sf.CN (Sf.r0 ds) sa i = Sf.lcp ((Sf.r0 ds).drop p) ((Sf.r0 ds).drop (sa.getD (i - 1) 0))) := ⟨by unfold Sf.CN; rw [HE.out]⟩
        rw [HE.out] at HNE
        have HNX := Aside0.mk (Sf.com_next HS.out HX.out (by rw [HLL.out.2.1]; exact hi) hi0 HE.out)
        have HKN := Aside0.mk (Sf.k_next hb HS.out (by rw [HLL.out.2.1]; exact hi) hi0 HE.out)
        rw [HCN.out] at HKL HNX HKN
        have hLn : Sf.lcp ((Sf.r0 ds).drop p) ((Sf.r0 ds).drop (sa.getD (i - 1) 0)) ≤ n := by
          have := (Sf.lcp_le ((Sf.r0 ds).drop p) ((Sf.r0 ds).drop (sa.getD (i - 1) 0))).1
          rw [List.length_drop, HLL.out.2.1] at this
          omega
        have HSTEP := Aside0.mk (fun (t : Nat) (ht : t ≤ Sf.lcp ((Sf.r0 ds).drop p) ((Sf.r0 ds).drop (sa.getD (i - 1) 0))) => Sf.com_step hb (by rw [HLL.out.2.1]; exact hlt) (by rw [HLL.out.2.1]; exact hqe) (Ne.symm HNE.out) ht)
        generalize sa.getD (i - 1) 0 = q at *
        generalize hL : Sf.lcp ((Sf.r0 ds).drop p) ((Sf.r0 ds).drop q) = L at *
        clear hL HCN HE HNE
        go_wp2_with fail
        obtain ⟨wq, hwq⟩ : ∃ wq, wq = wr := ⟨_, rfl⟩
        rw [← hwq] at HO HB hx1
        go_loopw [9] (fun v9 w' => ∃ k : Nat, v9 = .int .i64 k ∧ Aside0 (k ≤ L) ∧ Aside0 (Kd.R (Kd.int .i64) 3 w' w2.heap.size (fun _ => True) (.slice (some ⟨gx, 0, none⟩) n cap) xs) ∧ Aside0 (Below w2.heap.size w2 w')) (fun v9 _ => L - (intOf v9).toNat)
        case atStart => exact ⟨k, rfl, HKL, by rw [← hwq]; exact HO, by rw [← hwq]; exact HB⟩
        case round =>
          clear HO HB HKL HK hwq hx1 hx0
          obtain ⟨k, rfl, HKL, HO, HB⟩ := hrel
          obtain ⟨h1, h2, h3⟩ := HSTEP.out k HKL.out
          rw [HLL.out.2.1] at h1 h2
          have hkL := HKL.out
          have HO2 := fun m => Aside0.mk (Kd.R_drewN HO.out m)
          have HB2' := fun m => Aside0.mk (pw_below_drewN HB.out m)
          obtain ⟨adr, e1, hr1⟩ := at_nat HROW.out HB.out (p + k) h1
          cases e1
          obtain ⟨_, e1, hr2⟩ := at_nat HROW.out HB.out (q + k) h2
          cases e1
          obtain ⟨_, ey, hy1⟩ := at_nat HC1.out HB.out p hlt
          cases ey
          rw [HAT.out] at hy1
          have hw1 : IntKind.i64.wrap ((p : Int) + (k : Int)) = ((p + k : Nat) : Int) := by rw [IntKind.wrap_i64]; omega
          have hw2 : IntKind.i64.wrap ((q : Int) + (k : Int)) = ((q + k : Nat) : Int) := by rw [IntKind.wrap_i64]; omega
          generalize p + k = pk at *
          generalize q + k = qk at *
          generalize (Sf.rowF ds).getD pk 0 = a at *
          generalize (Sf.rowF ds).getD qk 0 = b at *
          by_cases hk : k < L
          · obtain ⟨g1, g2⟩ := h3.2 hk
            subst g2
            have hz1 : (a != 0) = true := by simpa using g1
            have hz2 : (a == a) = true := by simp
            clear h3 g1 HO HB hkL
            go_wp2_with fail
            go_quiet (fail)
            go_wp2_with fail
            go_roundw
            case rel => exact ⟨k + 1, by go_num, ⟨by omega⟩, HO2 _, HB2' _⟩
            case measure => simp [intOf]; omega
          · have hkE : k = L := by omega
            subst hkE
            by_cases ha : a = 0
            · subst ha
              have hz1 : ((0 : Int) != 0) = false := by simp
              clear h3 hkL HO HB
              go_wp2_with fail
              go_quiet (fail)
              go_wp2_with (first | ((with_reducible refine gate_store (t := 3) (p := 78) rfl ?_); refine put_int 3 size3 78 _ rfl rfl rfl rfl rfl (HO2 _) (HB2' _) hi ?_; intro w5 HO1 HB1 HG; clear HG HO2 HB2'))
              exact ⟨⟨p + 1, k - 1, by go_num, by congr 1; split <;> omega, ⟨by omega⟩, HKN, ⟨_, HNX, HO1⟩, HB1⟩, by simp [intOf]; omega⟩
            · have hz1 : (a != 0) = true := by simpa using ha
              have hz2 : (a == b) = false := by
                rw [beq_eq_false_iff_ne]
                intro e
                exact absurd (h3.1 ⟨ha, e⟩) (Nat.lt_irrefl _)
              clear ha
              clear h3 hkL HO HB
              go_wp2_with fail
              go_quiet (fail)
              go_wp2_with (first | ((with_reducible refine gate_store (t := 3) (p := 78) rfl ?_); refine put_int 3 size3 78 _ rfl rfl rfl rfl rfl (HO2 _) (HB2' _) hi ?_; intro w5 HO1 HB1 HG; clear HG HO2 HB2'))
              exact ⟨⟨p + 1, k - 1, by go_num, by congr 1; split <;> omega, ⟨by omega⟩, HKN, ⟨_, HNX, HO1⟩, HB1⟩, by simp [intOf]; omega⟩
    · have hj : p = n := by have := HP.out; omega
      have HF := Aside0.mk (Sf.com_end HS.out (p := p) (by rw [HLL.out.2.1]; omega) HX.out)
      go_wp2_with fail
      go_ret
      exact ⟨_, rfl, by rw [← HF.out]; exact R_low HO.out HB2.out, below_then HB2.out HB2.out.size HB.out⟩
end Go.Proofs.Ytadekjidjhglaaa
