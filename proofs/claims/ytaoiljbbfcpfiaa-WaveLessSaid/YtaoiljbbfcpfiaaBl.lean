/- Walks: Matrix.Rank, Less, Get, Count. -/
import Derived.Test.YtaoiljbbfcpfiaaBk
set_option linter.unusedVariables false
set_option linter.unusedSimpArgs false
namespace Go.Proofs.Ytaoiljbbfcpfiaa
open Go.RowKit Go.Proofs.YtaoiljbbfcpfiaaW.PrintWords Go.Proofs.YtaoiljbbfcpfiaaW.PrintLast Go.Proofs.YtaoiljbbfcpfiaaW.PrintMore
def Syms (l : List Int) : Prop := ∀ x ∈ l, 0 ≤ x ∧ x ≤ 256
def countF (l : List Int) (c : Int) (i : Nat) : Nat := (l.take i).countP (fun x => decide (x = c))
theorem count_le (l : List Int) (c : Int) (i : Nat) : countF l c i ≤ i := by
  have := List.countP_le_length (p := fun x : Int => decide (x = c)) (l := l.take i)
  rw [List.length_take] at this
  unfold countF
  omega
theorem drawn_two {w w1 w2 : World} (h : Drawn0 w w1) (k : Drawn0 w1 w2) : Drawn0 w w2 := by
  obtain ⟨n, rfl⟩ := k.out
  exact h.step n
set_option maxRecDepth 100000 in
set_option maxHeartbeats 2000000 in
theorem mrank_calls (g n : Nat) (l : List Int) (w : World) (hM : MatAt w g l n) (hl : Syms l) (hn : n ≤ 100000) (c : Int) (hc : 0 ≤ c ∧ c ≤ 256) (i : Nat) (hi : i ≤ n) :
    Calls Try.prog 7 #[.pointer (some ⟨g, 0, none⟩), .int .i64 c, .int .i64 (i : Int)] w fun e w' => e = .returned (.int .i64 (countF l c i : Nat)) ∧ Drawn0 w w' := by
  have HM := Aside0.mk hM
  have HL := Aside0.mk hl
  have HB := Aside0.mk (Below.refl w.heap.size w)
  have h1 : decide (c < 0) = false := decide_eq_false (by omega)
  have h2 : decide (c > 256) = false := decide_eq_false (by omega)
  have HD := Aside0.mk (Drawn0.refl w)
  clear hM hl
  go_enter Try.func7, Try.ntmps7
  go_wp2_with (first | (go_at_call 15; refine (within_calls g n l _ HM.out i hi).mono ?_; rintro e w1 ⟨rfl, hD⟩; have HD1 := Aside0.mk hD; clear hD HD))
  go_loopw [7, 8, 19] (fun v7 v8 v19 w' => ∃ k : Nat, v19 = .int .i64 k ∧ v7 = .int .i64 (Wf.pathF l c k 0 : Nat) ∧ v8 = .int .i64 (Wf.pathF l c k i : Nat) ∧ Aside0 (k ≤ 9) ∧ Aside0 (Drawn0 w w')) (fun _ _ v19 _ => 9 - (intOf v19).toNat)
  case atStart => exact ⟨0, rfl, rfl, rfl, ⟨by omega⟩, HD1⟩
  case round =>
    clear HD1
    obtain ⟨k, rfl, rfl, rfl, HK, HD⟩ := hrel
    by_cases hk : k < 9
    · have HP := Aside0.mk (Wf.path_mono l c k (Nat.zero_le i) (by rw [HM.out.len]; exact hi))
      have HS := Aside0.mk (And.intro (show Wf.pathF l c (k + 1) 0 = Wf.downF l k (Wf.bitF c k) (Wf.pathF l c k 0) from rfl) (show Wf.pathF l c (k + 1) i = Wf.downF l k (Wf.bitF c k) (Wf.pathF l c k i) from rfl))
      have HLN := Aside0.mk HM.out.len
      have HBC := Aside0.mk (fun W => bit_calls c k hc hk W)
      generalize Wf.pathF l c k 0 = p at *
      generalize Wf.pathF l c k i = q at *
      generalize Wf.bitF c k = b at *
      go_wp2_with (first | (go_at_call 13; refine (HBC.out _).mono ?_; rintro e w2 ⟨rfl, hD⟩; obtain ⟨nd, rfl⟩ := hD.out) | (go_at_call 16; refine (down_calls g n l _ (HM.out.below (Below.trans HD.out.below (pw_below_drewN (Below.refl _ _) _))) hn k hk p q (by have := HP.out; have := HLN.out; omega) (by have := HP.out; have := HLN.out; omega) b).mono ?_; rintro e w3 ⟨rfl, hD3⟩; have HD3 := Aside0.mk (drawn_two (HD.out.step nd) hD3); clear hD3))
      go_round
      case rel => exact ⟨k + 1, by go_num, by rw [HS.out.1], by rw [HS.out.2], ⟨by omega⟩, HD3⟩
      case measure => simp [intOf]; omega
    · have hke : k = 9 := by have := HK.out; omega
      have hr := Wf.rank_law l c (by rw [HM.out.len]; exact hi) HL.out hc
      have hle := count_le l c i
      have hpm := Wf.path_mono l c 9 (Nat.zero_le i) (by rw [HM.out.len]; exact hi)
      have hln := HM.out.len
      have HW : Aside0 (wrap64 ((Wf.pathF l c k i : Int) - (Wf.pathF l c k 0 : Int)) = (countF l c i : Int)) := ⟨by unfold wrap64; rw [hke]; unfold countF; rw [← hr]; omega⟩
      clear hr hle hpm hln hke
      go_wp2_with fail
      go_ret
      exact ⟨by rw [← HW.out]; rfl, HD.out⟩
def lessC (l : List Int) (c : Int) (i : Nat) : Nat := (l.take i).countP (fun x => decide (x < c))
theorem less_le (l : List Int) (c : Int) (i : Nat) : lessC l c i ≤ i := by
  have := List.countP_le_length (p := fun x : Int => decide (x < c)) (l := l.take i)
  rw [List.length_take] at this
  unfold lessC
  omega
theorem less_zero {l : List Int} (hl : Syms l) {c : Int} (hc : c ≤ 0) (i : Nat) : lessC l c i = 0 := by
  unfold lessC
  rw [List.countP_eq_zero]
  intro x hx
  have := hl x (List.mem_of_mem_take hx)
  simp
  omega
theorem less_all {l : List Int} (hl : Syms l) {c : Int} (hc : 256 < c) {i : Nat} (hi : i ≤ l.length) : lessC l c i = i := by
  unfold lessC
  rw [List.countP_eq_length.2, List.length_take, Nat.min_eq_left hi]
  intro x hx
  have := hl x (List.mem_of_mem_take hx)
  simp
  omega
theorem lessF_le {l : List Int} (hl : Syms l) {c : Int} (hc : 0 ≤ c ∧ c ≤ 256) {i k : Nat} (hi : i ≤ l.length) (hk : k ≤ 9) : Wf.lessF l c i k ≤ i := by
  rw [Wf.less_step l c hk hi (fun x hx => by rw [Wf.top_zero (hl x hx).1 (hl x hx).2, Wf.top_zero hc.1 hc.2])]
  have := List.countP_le_length (p := fun x : Int => decide (Wf.topF x k < Wf.topF c k)) (l := l.take i)
  rw [List.length_take] at this
  omega
set_option maxRecDepth 100000 in
set_option maxHeartbeats 2000000 in
theorem mless_calls (g n : Nat) (l : List Int) (w : World) (hM : MatAt w g l n) (hl : Syms l) (hn : n ≤ 100000) (c : Int) (i : Nat) (hi : i ≤ n) :
    Calls Try.prog 6 #[.pointer (some ⟨g, 0, none⟩), .int .i64 c, .int .i64 (i : Int)] w fun e w' => e = .returned (.int .i64 (lessC l c i : Nat)) ∧ Drawn0 w w' := by
  have HM := Aside0.mk hM
  have HL := Aside0.mk hl
  by_cases h1 : c ≤ 0
  · have HZ := Aside0.mk (less_zero hl h1 i)
    clear hM hl
    go_enter Try.func6, Try.ntmps6
    go_wp2_with (first | (go_at_call 15; refine (within_calls g n l _ HM.out i hi).mono ?_; rintro e w1 ⟨rfl, hD⟩; have HD1 := Aside0.mk hD; clear hD))
    go_ret
    exact ⟨by rw [HZ.out]; rfl, HD1.out⟩
  have h1' : decide (c ≤ 0) = false := decide_eq_false h1
  by_cases h2 : 256 < c
  · have HZ := Aside0.mk (less_all hl h2 (show i ≤ l.length by rw [hM.len]; exact hi))
    have h2' : c > 256 := h2
    clear hM hl
    go_enter Try.func6, Try.ntmps6
    go_wp2_with (first | (go_at_call 15; refine (within_calls g n l _ HM.out i hi).mono ?_; rintro e w1 ⟨rfl, hD⟩; have HD1 := Aside0.mk hD; clear hD))
    go_ret
    exact ⟨by rw [HZ.out]; rfl, HD1.out⟩
  have h2' : decide (c > 256) = false := decide_eq_false h2
  have hc : 0 ≤ c ∧ c ≤ 256 := by omega
  clear hM hl
  go_enter Try.func6, Try.ntmps6
  go_wp2_with (first | (go_at_call 15; refine (within_calls g n l _ HM.out i hi).mono ?_; rintro e w1 ⟨rfl, hD⟩; have HD1 := Aside0.mk hD; clear hD))
  go_loopw [7, 8, 9, 24] (fun v7 v8 v9 v24 w' => ∃ k : Nat, v24 = .int .i64 k ∧ v7 = .int .i64 (Wf.pathF l c k 0 : Nat) ∧ v8 = .int .i64 (Wf.pathF l c k i : Nat) ∧ v9 = .int .i64 (Wf.lessF l c i k : Nat) ∧ Aside0 (k ≤ 9) ∧ Aside0 (Drawn0 w w')) (fun _ _ _ v24 _ => 9 - (intOf v24).toNat)
  case atStart => exact ⟨0, rfl, rfl, rfl, rfl, ⟨by omega⟩, HD1⟩
  case round =>
    clear HD1
    obtain ⟨k, rfl, rfl, rfl, rfl, HK, HD⟩ := hrel
    by_cases hk : k < 9
    · have HP := Aside0.mk (Wf.path_mono l c k (Nat.zero_le i) (by rw [HM.out.len]; exact hi))
      have HPQ : Aside0 (Wf.pathF l c k 0 ≤ n ∧ Wf.pathF l c k i ≤ n) := ⟨by have := HP.out; have := HM.out.len; omega⟩
      have HS := Aside0.mk (And.intro (show Wf.pathF l c (k + 1) 0 = Wf.downF l k (Wf.bitF c k) (Wf.pathF l c k 0) from rfl) (And.intro (show Wf.pathF l c (k + 1) i = Wf.downF l k (Wf.bitF c k) (Wf.pathF l c k i) from rfl) (show Wf.lessF l c i (k + 1) = Wf.lessF l c i k + (if Wf.bitF c k then Wf.downF l k false (Wf.pathF l c k i) - Wf.downF l k false (Wf.pathF l c k 0) else 0) from rfl)))
      have HLF := Aside0.mk (lessF_le HL.out hc (show i ≤ l.length by rw [HM.out.len]; exact hi) (show k + 1 ≤ 9 by omega))
      have HDM := Aside0.mk (Wf.down_mono l k false HP.out.1 (by exact HP.out.2))
      have HDL := Aside0.mk (Wf.down_le l k false HP.out.2)
      have HBC := Aside0.mk (fun W => bit_calls c k hc hk W)
      generalize Wf.lessF l c i k = z at *
      generalize Wf.pathF l c k 0 = p at *
      generalize Wf.pathF l c k i = q at *
      cases hb : Wf.bitF c k with
      | true =>
        rw [hb] at HS HBC
        clear hb
        have hwz : wrap64 ((z : Int) + wrap64 ((Wf.downF l k false q : Int) - (Wf.downF l k false p : Int))) = (Wf.lessF l c i (k + 1) : Int) := by
          have h1 := HS.out.2.2
          rw [if_pos rfl] at h1
          have h2 := HDM.out
          have h3 := HDL.out
          have h4 := HM.out.len
          have h5 := HLF.out
          unfold wrap64
          omega
        have HWZ := Aside0.mk hwz
        clear hwz
        go_wp2_with (first | (go_at_call 13; refine (HBC.out _).mono ?_; rintro e w2 ⟨rfl, hD⟩; replace HD := Aside0.mk (drawn_two HD.out hD); clear hD) | (go_at_call 16; refine (down_calls g n l _ (HM.out.below HD.out.below) hn k hk p q HPQ.out.1 HPQ.out.2 _).mono ?_; rintro e w3 ⟨rfl, hD3⟩; replace HD := Aside0.mk (drawn_two HD.out hD3); clear hD3))
        go_round
        case rel => exact ⟨k + 1, by go_num, by rw [HS.out.1], by rw [HS.out.2.1], by rw [← HWZ.out], ⟨by omega⟩, HD⟩
        case measure => simp [intOf]; omega
      | false =>
        rw [hb] at HS HBC
        clear hb
        go_wp2_with (first | (go_at_call 13; refine (HBC.out _).mono ?_; rintro e w2 ⟨rfl, hD⟩; replace HD := Aside0.mk (drawn_two HD.out hD); clear hD) | (go_at_call 16; refine (down_calls g n l _ (HM.out.below HD.out.below) hn k hk p q HPQ.out.1 HPQ.out.2 _).mono ?_; rintro e w3 ⟨rfl, hD3⟩; replace HD := Aside0.mk (drawn_two HD.out hD3); clear hD3))
        go_round
        case rel => exact ⟨k + 1, by go_num, by rw [HS.out.1], by rw [HS.out.2.1], by rw [HS.out.2.2]; rfl, ⟨by omega⟩, HD⟩
        case measure => simp [intOf]; omega
    · have hke : k = 9 := by have := HK.out; omega
      have hr := Wf.less_law l c (by rw [HM.out.len]; exact hi) HL.out hc
      have HW : Aside0 (Wf.lessF l c i k = lessC l c i) := ⟨by rw [hke, hr]; rfl⟩
      clear hr hke
      go_wp2_with fail
      go_ret
      exact ⟨by rw [← HW.out]; rfl, HD.out⟩
set_option maxRecDepth 100000 in
theorem mget_calls (g n : Nat) (l : List Int) (w : World) (hM : MatAt w g l n) (hl : Syms l) (i : Nat) (hi : i < n) :
    Calls Try.prog 8 #[.pointer (some ⟨g, 0, none⟩), .int .i64 (i : Int)] w fun e w' => e = .returned (.int .i64 (l.getD i 0)) ∧ Drawn0 w w' := by
  obtain ⟨A, c, h1, h2, h3⟩ := hM.c0
  obtain ⟨ad, e, hx⟩ := at_nat h3 (Below.refl _ _) i hi
  cases e
  have hb := hl _ (mem_of_getD (show i < l.length by rw [hM.len]; exact hi))
  generalize l.getD i 0 = x at *
  have hwx : IntKind.i64.wrap x = x := by rw [IntKind.wrap_i64]; omega
  have hneg : decide ((i : Int) < 0) = false := decide_eq_false (by omega)
  have hge : decide ((i : Int) ≥ (n : Int)) = false := decide_eq_false (by omega)
  clear h3 hM hl hb
  go_enter Try.func8, Try.ntmps8
  go_wp2_with fail
  go_ret
  exact ⟨rfl, Drawn0.refl _⟩
set_option maxRecDepth 100000 in
theorem mcount_calls (g n : Nat) (l : List Int) (w : World) (hM : MatAt w g l n) (hl : Syms l) (hn : n ≤ 100000) (c : Int) (hc : 0 ≤ c ∧ c ≤ 256) :
    Calls Try.prog 18 #[.pointer (some ⟨g, 0, none⟩), .int .i64 c] w fun e w' => e = .returned (.int .i64 (countF l c n : Nat)) ∧ Drawn0 w w' := by
  obtain ⟨A, c2, h1, h2, h3⟩ := hM.c0
  have HM := Aside0.mk hM
  have HL := Aside0.mk hl
  clear hM hl h3
  go_enter Try.func18, Try.ntmps18
  go_wp2_with (first | (go_at_call 7; refine (mrank_calls g n l _ (HM.out.below (by first | exact Below.refl _ _ | exact pw_below_drewN (Below.refl _ _) _ | exact below_drew (Below.refl _ _))) HL.out hn c hc n (Nat.le_refl n)).mono ?_; rintro e w1 ⟨rfl, hD⟩; have HD := Aside0.mk hD; clear hD))
  go_ret
  exact ⟨rfl, HD.out⟩
end Go.Proofs.Ytaoiljbbfcpfiaa
