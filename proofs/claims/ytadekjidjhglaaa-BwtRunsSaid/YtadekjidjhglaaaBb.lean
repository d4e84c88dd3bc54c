/- Walks: (*Text).Row, Docs, Len; suffix.firsts. -/
import Derived.Test.YtadekjidjhglaaaBa
set_option linter.unusedVariables false
set_option linter.unusedSimpArgs false
namespace Go.Proofs.Ytadekjidjhglaaa
open Go.RowKit Go.Proofs.YtadekjidjhglaaaW.PrintWords Go.Proofs.YtadekjidjhglaaaW.PrintLast Go.Proofs.YtadekjidjhglaaaW.PrintMore

theorem row_calls (g : Nat) (A : Option Addr) (n c : Nat) (w : World) (h : w.cell? ⟨g, 2, none⟩ = some (.slice A n c)) :
    Calls Try.prog 53 #[.pointer (some ⟨g, 0, none⟩)] w fun e w' => e = .returned (.slice A n c) ∧ w = w' := by
  go_enter Try.func53, Try.ntmps53
  go_wp2
  go_ret
  exact ⟨rfl, rfl⟩
theorem docs_calls (g : Nat) (A : Option Addr) (n c : Nat) (w : World) (h : w.cell? ⟨g, 0, none⟩ = some (.slice A n c)) :
    Calls Try.prog 71 #[.pointer (some ⟨g, 0, none⟩)] w fun e w' => e = .returned (.int .i64 n) ∧ w = w' := by
  go_enter Try.func71, Try.ntmps71
  go_wp2
  go_ret
  exact ⟨rfl, rfl⟩
theorem len_calls (g : Nat) (A : Option Addr) (n c : Nat) (w : World) (h : w.cell? ⟨g, 2, none⟩ = some (.slice A n c)) :
    Calls Try.prog 19 #[.pointer (some ⟨g, 0, none⟩)] w fun e w' => e = .returned (.int .i64 n) ∧ w = w' := by
  go_enter Try.func19, Try.ntmps19
  go_wp2
  go_ret
  exact ⟨rfl, rfl⟩

set_option maxRecDepth 100000 in
set_option maxHeartbeats 1000000 in
theorem firsts_calls (g : Nat) (ds : List (List Int)) (w : World) (hT : TextAt w g ds) (hb : Sf.Bytes ds) (hm : ds.length ≤ 500) (hn : (Sf.rowF ds).length ≤ 60000) :
    Calls Try.prog 47 #[.pointer (some ⟨g, 0, none⟩)] w fun e w' => ∃ v, e = .returned (.tuple #[v, .int .i64 ((ds.length : Int) + 257)]) ∧ Kd.R (Kd.int .i64) 3 w' w.heap.size (fun _ => True) v (Sf.r0 ds) ∧ Below w.heap.size w w' := by
  obtain ⟨A0, c0, A1, c1, A2, c2, h0, h1, h2, l0, l2, r0, r1, r2⟩ := hT.out
  have HR2 := Aside0.mk r2
  have HB0 := Aside0.mk hb
  clear r0 r1 r2 hT h1 hb
  have hlen : (Sf.r0 ds).length = (Sf.rowF ds).length := by rw [Sf.r0_length, Sf.rowF_length]
  have HL := Aside0.mk hlen
  clear hlen
  obtain ⟨n, hn'⟩ : ∃ n, (Sf.rowF ds).length = n := ⟨_, rfl⟩
  rw [hn'] at h2 hn l2
  have HN := Aside0.mk hn'
  clear hn'
  go_enter Try.func47, Try.ntmps47
  go_wp2_with (first | (go_at_call 53; refine (row_calls g _ _ _ _ (by assumption)).mono ?_; rintro e w' ⟨rfl, rfl⟩))
  go_loopw [2, 4, 6, 10] (fun v2 v4 v6 v10 w' => ∃ j : Nat, v10 = .int .i64 j ∧ v4 = .int .i64 (Sf.zcF (Sf.rowF ds) j) ∧ Aside0 (j ≤ n) ∧ Aside0 (Kd.R (Kd.int .i64) 3 w' w.heap.size (fun _ => True) v2 ((Sf.r0 ds).take j)) ∧ Aside0 (Below w.heap.size w w')) (fun _ _ _ i _ => n - (intOf i).toNat)
  case atStart => exact ⟨0, rfl, by rw [Sf.zcF_zero]; rfl, ⟨Nat.zero_le _⟩, ⟨Kd.R_nil _ _ _ _ _⟩, ⟨Below.refl _ _⟩⟩
  case round =>
    obtain ⟨j, rfl, rfl, HJ, HO, HB⟩ := hrel
    replace h0 := pw_cell_below HB.out h0
    by_cases hlt : j < n
    · obtain ⟨ad, e, hx⟩ := at_nat HR2.out HB.out j (by have := HN.out; omega)
      cases e
      have hbd := Sf.row_bounds ds HB0.out j
      have hz := Sf.zcF_le (Sf.rowF ds) j
      have hs := Sf.zcF_succ (Sf.rowF ds) (p := j) (by have := HN.out; omega)
      have ht := Sf.take_snoc (Sf.r0 ds) (p := j) (by have := HN.out; have := HL.out; omega)
      have ha0 := Sf.r0_at0 ds HB0.out (p := j) (by have := HN.out; omega)
      have ha1 := Sf.r0_at1 ds HB0.out (p := j) (by have := HN.out; omega)
      have HLT : Aside0 ((List.take j (Sf.r0 ds)).length ≤ 100000000) := ⟨by rw [List.length_take]; have := HN.out; have := HL.out; omega⟩
      generalize (Sf.rowF ds).getD j 0 = c at *
      by_cases hc : c = 0
      · subst hc
        rw [ha0 rfl] at ht
        rw [if_pos rfl] at hs
        have HT := Aside0.mk ht
        have HS := Aside0.mk hs
        clear ht hs ha0 ha1
        go_wp2_with (first | (at_builtin; refine app_i64 rfl _ _ rfl _ _ _ rfl rfl HO HB HLT ?_; intro v1 w1 HO1 HB1 hg hat; clear hg hat HO HB))
        go_roundw
        case rel => exact ⟨j + 1, by go_num, by rw [HS.out]; go_num, ⟨by omega⟩, ⟨by rw [HT.out]; exact HO1.out⟩, HB1⟩
        case measure => simp [intOf]; omega
      · rw [ha1 hc] at ht
        rw [if_neg hc, Nat.add_zero] at hs
        have HT := Aside0.mk ht
        have HS := Aside0.mk hs
        have hc1 : (c == 0) = false := by simpa using hc
        clear ht hs ha0 ha1 hc
        go_wp2_with (first | (go_at_call 71; refine (docs_calls g _ _ _ _ (by assumption)).mono ?_; rintro e w' ⟨rfl, rfl⟩) | (at_builtin; refine app_i64 rfl _ _ rfl _ _ _ rfl rfl HO HB HLT ?_; intro v1 w1 HO1 HB1 hg hat; clear hg hat HO HB))
        go_roundw
        case rel => exact ⟨j + 1, by go_num, by rw [HS.out]; simp, ⟨by omega⟩, ⟨by rw [HT.out]; exact HO1.out⟩, HB1⟩
        case measure => simp [intOf]; omega
    · have hj : j = n := by have := HJ.out; omega
      subst hj
      have hT := List.take_of_length_le (l := Sf.r0 ds) (i := j) (by have := HN.out; have := HL.out; omega)
      have HO1 : Aside0 (Kd.R (Kd.int .i64) 3 wr w.heap.size (fun _ => True) u2 (Sf.r0 ds)) := ⟨by have := HO.out; rwa [hT] at this⟩
      clear HO hT
      go_wp2_with (first | (go_at_call 71; refine (docs_calls g _ _ _ _ (by assumption)).mono ?_; rintro e w' ⟨rfl, rfl⟩))
      go_ret2
      exact ⟨_, rfl, HO1.out, HB.out⟩
end Go.Proofs.Ytadekjidjhglaaa
