/- Walks: suffix.Ok tells a right order as right. -/
import Derived.Test.YtadekjidjhglaaaSg
import Derived.Test.YtadekjidjhglaaaBj
set_option linter.unusedVariables false
set_option linter.unusedSimpArgs false
namespace Go.Proofs.Ytadekjidjhglaaa
open Go.RowKit Go.Proofs.YtadekjidjhglaaaW.PrintWords Go.Proofs.YtadekjidjhglaaaW.PrintLast Go.Proofs.YtadekjidjhglaaaW.PrintMore

theorem inverse_calls (A0 : Option Addr) (n c0 : Nat) (hc : n ≤ c0) (ds : List (List Int)) (sa : List Nat) (w : World) (h0 : Kd.C (Kd.int .i64) w A0 n (Sf.ni sa)) (hs : Sf.SA (Sf.r0 ds) sa) (hn : n ≤ 1000000) :
    Calls Try.prog 52 #[.slice A0 n c0] w fun e w' => ∃ A c, e = .returned (.tuple #[.slice A n c, .bool true]) ∧ n ≤ c ∧ Kd.C (Kd.int .i64) w' A n (Sf.invA sa) ∧ Below w.heap.size w w' := by
  have hl : (Sf.ni sa).length = n := h0.1
  have hl2 : sa.length = n := by simpa [Sf.ni] using hl
  subst hl
  refine (suffix_Inverse.calls (sa.length + 1) A0 c0 (Sf.ni sa) _ _ w h0 hc (Sf.inv_f (Sf.SA_perm hs) (by omega))).mono ?_
  rintro e w' ⟨v, rfl, hR, hB⟩
  obtain ⟨A, c, rfl, h1, h2⟩ := R_is (n := (Sf.ni sa).length) hR (by rw [Sf.invF_length]; exact hl2)
  exact ⟨A, c, rfl, h1, h2, hB⟩

set_option maxRecDepth 100000 in
set_option maxHeartbeats 1000000 in
theorem ok_calls (g : Nat) (ds : List (List Int)) (w : World) (hT : TextAt w g ds) (hb : Sf.Bytes ds) (hm : ds.length ≤ 500) (hn : (Sf.rowF ds).length ≤ 60000) (A0 : Option Addr) (n c0 : Nat) (hc : n ≤ c0) (sa : List Nat)
    (h0 : Kd.C (Kd.int .i64) w A0 n (Sf.ni sa)) (hs : Sf.SA (Sf.r0 ds) sa) :
    Calls Try.prog 23 #[.pointer (some ⟨g, 0, none⟩), .slice A0 n c0] w fun e w' => e = .returned (.bool true) ∧ Below w.heap.size w w' := by
  have hl : sa.length = n := by have := h0.1; simpa [Sf.ni] using this
  have hl2 : (Sf.r0 ds).length = n := by rw [← Sf.SA_len hs]; exact hl
  have hl3 : (Sf.rowF ds).length = n := by rw [← Sf.r0_len]; exact hl2
  have hn' : n ≤ 60000 := by omega
  have HT := Aside0.mk hT
  have H0 := Aside0.mk h0
  have HS := Aside0.mk hs
  have HLL := Aside0.mk (And.intro hl (And.intro hl2 hl3))
  clear h0 hs hl hl2 hl3
  go_enter Try.func23, Try.ntmps23
  go_wp2_with fail
  refine (inverse_calls A0 n c0 hc ds sa _ H0.out HS.out (by omega)).mono ?_
  rintro e w1 ⟨A1, c1, rfl, hc1, hC1, hB1⟩
  have HC1 := Aside0.mk hC1
  have HB1 := Aside0.mk hB1
  obtain ⟨_, _, _, _, Ay, cy, _, _, ht2, _, _, _, _, _⟩ := (TextAt.below HT.out HB1.out).out
  rw [HLL.out.2.2] at ht2
  have hnn : ((n : Int) != (n : Int)) = false := by simp
  clear hC1 hB1
  go_wp2_with (first | (go_at_call 19; refine (len_calls g Ay n cy _ ht2).mono ?_; rintro e w' ⟨rfl, rfl⟩) | (go_at_call 47; refine (firsts_calls g ds _ (TextAt.below HT.out HB1.out) hb hm hn).mono ?_; rintro e w2 ⟨v2, rfl, hR2, hB2⟩; obtain ⟨A2, c2, rfl, hc2, hC2⟩ := R_is (n := n) hR2 HLL.out.2.1; have HC2 := Aside0.mk hC2; have HB2 := Aside0.mk (below_then HB1.out HB1.out.size hB2); have HC1' := Aside0.mk (Kd.C_below HC1.out hB2); clear hC2 hB2 hR2))
  obtain ⟨wq, hwq⟩ : ∃ wq, wq = w2 := ⟨_, rfl⟩
  rw [← hwq] at HC2 HC1' HB2
  have HBQ : Aside0 (Below wq.heap.size wq w2) := ⟨by rw [hwq]; exact Below.refl _ _⟩
  clear hwq ht2
  go_loopw [9, 10, 11] (fun v9 v10 v11 w' => ∃ i : Nat, v9 = .int .i64 i ∧ Aside0 (1 ≤ i ∧ i ≤ n + 1) ∧ Aside0 (Below wq.heap.size wq w')) (fun v9 _ _ _ => n + 1 - (intOf v9).toNat)
  case atStart => exact ⟨1, rfl, ⟨by omega⟩, HBQ⟩
  case round =>
    clear HBQ
    obtain ⟨i, rfl, HI, HB⟩ := hrel
    by_cases hlt : i < n
    · have hst := Sf.ok_step hb HS.out (i := i) (by have := HI.out; omega) (by rw [HLL.out.2.1]; exact hlt)
      have hpl := Sf.SA_lt HS.out (i := i - 1) (by rw [HLL.out.2.1]; omega)
      have hql := Sf.SA_lt HS.out (i := i) (by rw [HLL.out.2.1]; omega)
      rw [HLL.out.2.1] at hst hpl hql
      have HBW := Aside0.mk (below_then HB2.out HB2.out.size HB.out)
      obtain ⟨ad, e, hx⟩ := at_nat H0.out HBW.out (i - 1) (by omega)
      cases e
      obtain ⟨_, e, hy⟩ := at_nat H0.out HBW.out i hlt
      cases e
      rw [Sf.ni_getD] at hx hy
      generalize sa.getD (i - 1) 0 = p at *
      generalize sa.getD i 0 = q at *
      obtain ⟨ad2, e, hp2⟩ := at_nat HC2.out HB.out p hpl
      cases e
      obtain ⟨_, e, hq2⟩ := at_nat HC2.out HB.out q hql
      cases e
      have hi1 : 1 ≤ i := by have := HI.out; omega
      rcases hst with hst | ⟨hst, hp1, hq1, hinv⟩
      · generalize (Sf.r0 ds).getD p 0 = x at *
        generalize (Sf.r0 ds).getD q 0 = y at *
        have d1 : decide (x > y) = false := by simp; omega
        have d2 : (x == y) = false := by simp; omega
        have d3 : decide (y < x) = false := by simp; omega
        go_wp2_with fail
        go_quiet (fail)
        go_wp2_with fail
        go_quiet (fail)
        have HB3 := fun m => Aside0.mk (pw_below_drewN HB.out m)
        clear HB
        go_wp2_with fail
        go_roundw
        case rel => exact ⟨i + 1, by go_num, ⟨by omega⟩, HB3 _⟩
        case measure => simp [intOf]; omega
      · obtain ⟨ad3, e, hp3⟩ := at_nat HC1'.out HB.out (p + 1) hp1
        cases e
        obtain ⟨_, e, hq3⟩ := at_nat HC1'.out HB.out (q + 1) hq1
        cases e
        rw [hst] at hp2
        generalize (Sf.r0 ds).getD q 0 = y at *
        generalize (Sf.invA sa).getD (p + 1) 0 = x' at *
        generalize (Sf.invA sa).getD (q + 1) 0 = y' at *
        clear hst
        have d1 : decide (y > y) = false := by simp
        have d2 : (y == y) = true := by simp
        have d3 : decide (y < y) = false := by simp
        have hw1 : IntKind.i64.wrap ((p : Int) + 1) = ((p + 1 : Nat) : Int) := by rw [IntKind.wrap_i64]; omega
        have hw2 : IntKind.i64.wrap ((q : Int) + 1) = ((q + 1 : Nat) : Int) := by rw [IntKind.wrap_i64]; omega
        generalize p + 1 = p1 at *
        generalize q + 1 = q1 at *
        have d4 : decide (x' > y') = false := by simp; omega
        have d5 : decide (y' < x') = false := by simp; omega
        go_wp2_with fail
        go_quiet (fail)
        go_wp2_with fail
        go_quiet (fail)
        have HB3 := fun m => Aside0.mk (pw_below_drewN HB.out m)
        clear HB
        go_wp2_with fail
        go_roundw
        case rel => exact ⟨i + 1, by go_num, ⟨by omega⟩, HB3 _⟩
        case measure => simp [intOf]; omega
    · go_wp2_with fail
      go_ret
      exact ⟨rfl, below_then HB2.out HB2.out.size HB.out⟩
end Go.Proofs.Ytadekjidjhglaaa
