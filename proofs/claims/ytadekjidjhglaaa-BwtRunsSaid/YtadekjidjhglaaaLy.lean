/- Walk: the law BwtRuns. -/
import Derived.Test.YtadekjidjhglaaaCj
import Derived.Test.YtadekjidjhglaaaCa
set_option linter.unusedVariables false
set_option linter.unusedSimpArgs false
namespace Go.Proofs.Ytadekjidjhglaaa
open Go.RowKit Go.Proofs.YtadekjidjhglaaaW.PrintWords Go.Proofs.YtadekjidjhglaaaW.PrintLast Go.Proofs.YtadekjidjhglaaaW.PrintMore
theorem mask7 (i : Int) : ∃ q : Nat, q ≤ 7 ∧ bits BinOp.and IntKind.i64 i 7 = (q : Int) := by
  refine ⟨(BitVec.ofInt 64 i &&& BitVec.ofInt 64 7).toNat, ?_, ?_⟩
  · rw [BitVec.toNat_and]
    exact Nat.le_trans Nat.and_le_right (by decide)
  · have hx : (BitVec.ofInt 64 i &&& BitVec.ofInt 64 7).toNat ≤ 7 := by
      rw [BitVec.toNat_and]
      exact Nat.le_trans Nat.and_le_right (by decide)
    show IntKind.i64.wrap ((BitVec.ofInt 64 i &&& BitVec.ofInt 64 7).toNat : Int) = _
    rw [IntKind.wrap_i64]
    omega
theorem replicate_snoc (j : Nat) (x : Int) : List.replicate j x ++ [x] = List.replicate (j + 1) x := by
  rw [List.replicate_succ']
set_option maxRecDepth 100000 in
set_option maxHeartbeats 4000000 in
theorem brun_walk (A : Option Addr) (n c : Nat) (l : List Int) (most : Int) (w : World) (h : Kd.C (Kd.int .u16) w A n l) (hc : n ≤ c) :
    Calls Try.prog 14 #[.slice A n c, .int .i64 most] w fun e w' => e = .returned (.bool true) ∧ Below w.heap.size w w' := by
  have H := Aside0.mk h
  have hln : l.length = n := h.1
  clear h
  by_cases hbig : (n : Int) > 500
  · go_enter Try.func14, Try.ntmps14
    go_wp2_with (first | (go_at_call 33; refine (awake11_calls _).mono ?_; rintro e w' ⟨rfl, hB⟩; have HB := Aside0.mk hB; clear hB))
    go_ret
    exact ⟨rfl, HB.out⟩
  · have hbf : decide ((n : Int) > 500) = false := by simp; omega
    have hn : n ≤ 500 := by omega
    obtain ⟨q, hq, hqe⟩ := mask7 most
    have HQ := Aside0.mk hqe
    have HLN := Aside0.mk hln
    clear hqe hln
    go_enter Try.func14, Try.ntmps14
    go_wp2_with fail
    refine (runs_calls A n c l 1000 w H.out (by omega) (by omega)).mono ?_
    rintro e w1 ⟨A1, c1, A2, c2, N, rfl, hN, hc1, hc2, hC1, hC2, hB1⟩
    have hlen := Sf.rl_len l
    have htake : (Sf.rl l).take (1000 : Int).toNat = Sf.rl l := List.take_of_length_le (by have := HLN.out; omega)
    rw [htake] at hN hC1 hC2
    have hN5 : N ≤ 500 := by have := HLN.out; omega
    have HX := Aside0.mk hC1
    have HY := Aside0.mk hC2
    have HL := Aside0.mk (Kd.C_below H.out hB1)
    have HB1 := Aside0.mk hB1
    have HN := Aside0.mk hN
    clear hC1 hC2 hB1 hN htake hlen
    have HO0 : Aside0 ((Kd.int .u16).R 57 w1 w1.heap.size (fun _ => True) (.slice none 0 0) []) := ⟨Kd.R_nil _ _ _ _ _⟩
    have HBB0 := Aside0.mk (Below.refl w1.heap.size w1)
    obtain ⟨wq, hwq⟩ : ∃ wq, wq = w1 := ⟨_, rfl⟩
    rw [← hwq] at HX HY HL HB1 HBB0
    have HO0' : Aside0 ((Kd.int .u16).R 57 w1 wq.heap.size (fun _ => True) (.slice none 0 0) []) := ⟨Kd.R_nil _ _ _ _ _⟩
    have HBB0' : Aside0 (Below wq.heap.size wq w1) := ⟨by rw [hwq]; exact Below.refl _ _⟩
    clear HO0 HBB0 hwq
    go_wp2_with fail
    go_loopw [7, 8] (fun v7 v8 w' => ∃ i : Nat, v8 = .int .i64 i ∧ Aside0 (i ≤ N) ∧ Aside0 ((Kd.int .u16).R 57 w' wq.heap.size (fun _ => True) v7 (Sf.expand ((Sf.rl l).take i))) ∧ Aside0 (Below wq.heap.size wq w')) (fun _ v8 _ => N - (intOf v8).toNat)
    case atStart => exact ⟨0, rfl, ⟨Nat.zero_le _⟩, HO0', HBB0'⟩
    case round =>
      clear HO0' HBB0'
      obtain ⟨i, rfl, HI, HO, HB⟩ := hrel
      by_cases hlt : i < N
      · have hb := Sf.rl_bound (l := l) (i := i) (by rw [← HN.out]; exact hlt)
        rw [HLN.out] at hb
        obtain ⟨ady, e2, hy⟩ := at_nat HY.out HB.out i hlt
        obtain ⟨adx, e1, hx⟩ := at_nat HX.out HB.out i hlt
        have HEX := Aside0.mk (Sf.expand_take (l := l) (i := i) (by rw [← HN.out]; exact hlt))
        subst e1
        subst e2
        have HADJ : Aside0 (∀ k, i = k + 1 → ((Sf.rl l).map Prod.fst).getD i 0 ≠ ((Sf.rl l).map Prod.fst).getD k 0) := ⟨fun k e => by
          subst e
          exact Sf.adj_getD (Sf.rl_ok l).2.2 k (by rw [← HN.out]; exact hlt)⟩
        have HXV := Aside0.mk (rfl : ((Sf.rl l).map Prod.fst).getD i 0 = ((Sf.rl l).map Prod.fst).getD i 0)
        generalize hcnt : ((Sf.rl l).map Prod.snd).getD i 0 = cnt at *
        generalize hvx : ((Sf.rl l).map Prod.fst).getD i 0 = vx at *
        have HV := Aside0.mk (And.intro hcnt hvx)
        clear hcnt hvx HXV
        have hcn1 : decide (cnt < 1) = false := by simp; omega
        have hcn2 : decide (cnt > (n : Int)) = false := by simp; omega
        obtain ⟨cn, rfl⟩ : ∃ cn : Nat, cnt = (cn : Int) := ⟨cnt.toNat, by omega⟩
        have hcn3 : decide (n < cn) = false := by simp; omega
        by_cases hi0 : i = 0
        · have hp : decide ((i : Int) > 0) = false := by simp; omega
          have hp2 : decide (0 < i) = false := by simp; omega
          have HI0 := Aside0.mk hi0
          clear hi0
          go_wp2_with fail
          go_quiet (fail)
          go_wp2_with fail
          have HO1 : Aside0 ((Kd.int .u16).R 57 (wr.drewN nq) wq.heap.size (fun _ => True) u7 (Sf.expand ((Sf.rl l).take i))) := ⟨Kd.R_drewN HO.out _⟩
          have HB2 := Aside0.mk (pw_below_drewN HB.out nq)
          clear hx hy HO HB hp hp2 hcn1 hcn2 hcn3
          generalize wr.drewN nq = w2 at *
          go_loopw [7, 9] (fun v7 v9 w' => ∃ j : Nat, v9 = .int .i64 j ∧ Aside0 (j ≤ cn) ∧ Aside0 ((Kd.int .u16).R 57 w' wq.heap.size (fun _ => True) v7 (Sf.expand ((Sf.rl l).take i) ++ List.replicate j vx)) ∧ Aside0 (Below wq.heap.size wq w')) (fun _ v9 _ => cn - (intOf v9).toNat)
          case atStart => exact ⟨0, rfl, ⟨Nat.zero_le _⟩, ⟨by simpa using HO1.out⟩, HB2⟩
          case round =>
            clear HO1 HB2
            obtain ⟨j, rfl, HJ, HO2, HB3⟩ := hrel
            obtain ⟨ad3, e3, hy3⟩ := at_nat HY.out HB3.out i hlt
            cases e3
            obtain ⟨ad4, e4, hx3⟩ := at_nat HX.out HB3.out i hlt
            cases e4
            rw [HV.out.1] at hy3
            rw [HV.out.2] at hx3
            by_cases hj : j < cn
            · have HLE : Aside0 ((Sf.expand ((Sf.rl l).take i) ++ List.replicate j vx).length ≤ 100000000) := ⟨by
                have := Sf.expand_take_le l i
                have h3 := HLN.out
                rw [List.length_append, List.length_replicate]
                omega⟩
              go_wp2_with (first | (at_builtin; refine app_u16 (w0 := wq) rfl (.tmp 65) (.tmp 70) rfl _ _ _ rfl rfl HO2 HB3 HLE ?_; intro v2 w3 HO4 HB4 hg hat; clear hg hat HO2 HB3))
              exact ⟨⟨j + 1, by go_num, ⟨hj⟩, ⟨by
                have h4 := HO4.out
                rw [List.append_assoc, replicate_snoc] at h4
                exact h4⟩, HB4⟩, by simp [intOf]; omega⟩
            · have hje : j = cn := by have := HJ.out; omega
              have HJE := Aside0.mk hje
              clear hje
              go_wp2_with fail
              go_roundw
              case rel => exact ⟨i + 1, by go_num, ⟨hlt⟩, ⟨by
                have h4 := HO2.out
                rw [HJE.out] at h4
                rw [HEX.out, Int.toNat_natCast]
                exact h4⟩, HB3⟩
              case measure => simp [intOf]; omega
        · obtain ⟨k, hk⟩ : ∃ k, i = k + 1 := ⟨i - 1, by omega⟩
          obtain ⟨adx', e1, hx'⟩ := at_nat HX.out HB.out k (by omega)
          cases e1
          have hne := HADJ.out k hk
          generalize ((Sf.rl l).map Prod.fst).getD k 0 = vk at *
          have hneq : (vx == vk) = false := by simpa using hne
          have hik : (i : Int) - 1 = (k : Int) := by omega
          have hp : 0 < i := by omega
          have hkN : k < N := by omega
          have HK := Aside0.mk hk
          clear hne hk hi0
          go_wp2_with fail
          go_quiet (fail)
          go_wp2_with fail
          have HO1 : Aside0 ((Kd.int .u16).R 57 (wr.drewN nq) wq.heap.size (fun _ => True) u7 (Sf.expand ((Sf.rl l).take i))) := ⟨Kd.R_drewN HO.out _⟩
          have HB2 := Aside0.mk (pw_below_drewN HB.out nq)
          clear hx hy hx' hneq HO HB hp hik hkN hcn1 hcn2 hcn3
          generalize wr.drewN nq = w2 at *
          go_loopw [7, 9] (fun v7 v9 w' => ∃ j : Nat, v9 = .int .i64 j ∧ Aside0 (j ≤ cn) ∧ Aside0 ((Kd.int .u16).R 57 w' wq.heap.size (fun _ => True) v7 (Sf.expand ((Sf.rl l).take i) ++ List.replicate j vx)) ∧ Aside0 (Below wq.heap.size wq w')) (fun _ v9 _ => cn - (intOf v9).toNat)
          case atStart => exact ⟨0, rfl, ⟨Nat.zero_le _⟩, ⟨by simpa using HO1.out⟩, HB2⟩
          case round =>
            clear HO1 HB2
            obtain ⟨j, rfl, HJ, HO2, HB3⟩ := hrel
            obtain ⟨ad3, e3, hy3⟩ := at_nat HY.out HB3.out i hlt
            cases e3
            obtain ⟨ad4, e4, hx3⟩ := at_nat HX.out HB3.out i hlt
            cases e4
            rw [HV.out.1] at hy3
            rw [HV.out.2] at hx3
            by_cases hj : j < cn
            · have HLE : Aside0 ((Sf.expand ((Sf.rl l).take i) ++ List.replicate j vx).length ≤ 100000000) := ⟨by
                have := Sf.expand_take_le l i
                have h3 := HLN.out
                rw [List.length_append, List.length_replicate]
                omega⟩
              go_wp2_with (first | (at_builtin; refine app_u16 (w0 := wq) rfl (.tmp 65) (.tmp 70) rfl _ _ _ rfl rfl HO2 HB3 HLE ?_; intro v2 w3 HO4 HB4 hg hat; clear hg hat HO2 HB3))
              exact ⟨⟨j + 1, by go_num, ⟨hj⟩, ⟨by
                have h4 := HO4.out
                rw [List.append_assoc, replicate_snoc] at h4
                exact h4⟩, HB4⟩, by simp [intOf]; omega⟩
            · have hje : j = cn := by have := HJ.out; omega
              have HJE := Aside0.mk hje
              clear hje
              go_wp2_with fail
              go_roundw
              case rel => exact ⟨i + 1, by go_num, ⟨hlt⟩, ⟨by
                have h4 := HO2.out
                rw [HJE.out] at h4
                rw [HEX.out, Int.toNat_natCast]
                exact h4⟩, HB3⟩
              case measure => simp [intOf]; omega
      · have hie : i = N := by have := HI.out; omega
        have HOUT : Aside0 ((Kd.int .u16).R 57 wr wq.heap.size (fun _ => True) u7 l) := ⟨by
          have h4 := HO.out
          rw [hie, HN.out, Sf.expand_all] at h4
          exact h4⟩
        clear hie HO
        obtain ⟨A7, c7, rfl, hc7, hC7⟩ := Kd.R_reads HOUT.out
        have HO7 := Aside0.mk hC7
        clear HOUT hC7
        have hqb := HQ.out
        rw [HLN.out] at hc7 HO7
        rw [HLN.out]
        go_wp2_with fail
        refine (runs_calls A n c l (q : Int) wr (Kd.C_below HL.out HB.out) (by omega) (by omega)).mono ?_
        rintro e w4 ⟨A8, c8, A9, c9, M, rfl, hM, hc8, hc9, hC8, hC9, hB4⟩
        rw [Int.toNat_natCast] at hM hC8 hC9
        have hMN : M ≤ N := by rw [hM, List.length_take, HN.out]; omega
        have hmin : min (q : Int) (N : Int) = (M : Int) := by rw [hM, List.length_take, ← HN.out]; omega
        have hpre : ((Sf.rl l).map Prod.fst).take M = ((Sf.rl l).take q).map Prod.fst := by
          rw [hM, List.length_take, ← List.map_take]
          congr 1
          exact (List.take_eq_take_min).symm
        have hXX := HX.out
        have hlx : ((Sf.rl l).map Prod.fst).length = N := hXX.1
        rw [← hlx] at hXX
        have hct := Kd.C_take hXX (m := M) (by rw [hlx]; exact hMN)
        have hlt2 : (((Sf.rl l).map Prod.fst).take M).length = M := by rw [List.length_take, hlx]; omega
        rw [hlt2] at hct
        have HXT := Aside0.mk (Kd.C_below (Kd.C_below hct HB.out) hB4)
        clear hXX hlx hct hlt2
        rw [hpre] at HXT
        have HX8 := Aside0.mk hC8
        have HO8 := Aside0.mk (Kd.C_below HO7.out hB4)
        have HL8 := Aside0.mk (Kd.C_below (Kd.C_below HL.out HB.out) hB4)
        have HB8 := Aside0.mk (below_then (below_then HB1.out HB1.out.size HB.out) (below_then HB1.out HB1.out.size HB.out).size hB4)
        clear hM hC8 hC9 hB4 hpre
        generalize ((Sf.rl l).take q).map Prod.fst = xs8 at *
        have hMc : M ≤ c1 := by omega
        go_wp2_with fail
        refine (syms_calls A7 n c7 l A n c l w4 HO8.out hc7 HL8.out hc (by omega)).mono ?_
        rintro e w5 ⟨rfl, hD5⟩
        rw [decide_eq_true rfl]
        have HXT5 := Aside0.mk (Kd.C_below HXT.out hD5.below)
        have HX85 := Aside0.mk (Kd.C_below HX8.out hD5.below)
        have HB5 := Aside0.mk (below_then HB8.out HB8.out.size hD5.below)
        clear hD5 HXT HX8 HB8 HO8 HL8
        by_cases hqN : q ≤ N
        · obtain rfl : M = q := by omega
          go_wp2_with fail
          refine (syms_calls A8 M c8 xs8 A1 M c1 xs8 w5 HX85.out hc8 HXT5.out hMc (by omega)).mono ?_
          rintro e w6 ⟨rfl, hD6⟩
          rw [decide_eq_true rfl]
          have HB6 := Aside0.mk (below_then HB5.out HB5.out.size hD6.below)
          clear hD6 HB5 HXT5 HX85
          go_wp2_with (first | (go_at_call 33; refine (awake11_calls _).mono ?_; rintro e w14 ⟨rfl, hB14⟩; have HB14 := Aside0.mk (below_then HB6.out HB6.out.size hB14); clear hB14))
          go_ret
          exact ⟨rfl, HB14.out⟩
        · obtain rfl : M = N := by omega
          have hqN2 : M < q := by omega
          go_wp2_with fail
          refine (syms_calls A8 M c8 xs8 A1 M c1 xs8 w5 HX85.out hc8 HXT5.out hMc (by omega)).mono ?_
          rintro e w6 ⟨rfl, hD6⟩
          rw [decide_eq_true rfl]
          have HB6 := Aside0.mk (below_then HB5.out HB5.out.size hD6.below)
          clear hD6 HB5 HXT5 HX85
          go_wp2_with (first | (go_at_call 33; refine (awake11_calls _).mono ?_; rintro e w14 ⟨rfl, hB14⟩; have HB14 := Aside0.mk (below_then HB6.out HB6.out.size hB14); clear hB14))
          go_ret
          exact ⟨rfl, HB14.out⟩
theorem brun_row (A : Option Addr) (n c : Nat) (l : List Int) (most : Int) (w : World) (h : Kd.C (Kd.int .u16) w A n l) (hwf : ∀ x ∈ l, (Lit.int .u16 x).wf = true) (hc : n ≤ c) (_ : (Lit.int .i64 most).wf = true) :
    Calls Try.prog 14 #[.slice A n c, .int .i64 most] w fun e w' => e = .returned (.bool true) ∧ Below w.heap.size w w' := brun_walk A n c l most w h hc
end Go.Proofs.Ytadekjidjhglaaa
