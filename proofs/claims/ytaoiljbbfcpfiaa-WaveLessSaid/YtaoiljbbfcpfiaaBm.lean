/- Walks: Select. -/
import Derived.Test.YtaoiljbbfcpfiaaBl
set_option linter.unusedVariables false
set_option linter.unusedSimpArgs false
namespace Go.Proofs.Ytaoiljbbfcpfiaa
open Go.RowKit Go.Proofs.YtaoiljbbfcpfiaaW.PrintWords Go.Proofs.YtaoiljbbfcpfiaaW.PrintLast Go.Proofs.YtaoiljbbfcpfiaaW.PrintMore
def FindEnd (F : Nat → Nat) (n k : Nat) (w : World) (e : Ending) (w' : World) : Prop := ∃ p : Nat, e = .returned (.int .i64 (p : Int)) ∧ p < n ∧ F p ≤ k ∧ k < F (p + 1) ∧ Drawn0 w w'
set_option maxRecDepth 100000 in
set_option maxHeartbeats 2000000 in
theorem find22_calls (g n k : Nat) (F : Nat → Nat) (w : World) (c0 : w.cell? ⟨g, 0, none⟩ = some (.int .i64 (n : Int))) (hn : n ≤ 100000) (hk : k < F n) (h0 : F 0 = 0) (hle : ∀ i, i ≤ n → F i ≤ 100000)
    (hF : ∀ (W : World) (i : Nat), Drawn0 w W → i ≤ n → Calls Try.prog 22 #[.pointer (some ⟨g, 0, none⟩), .int .i64 (i : Int)] W fun e w' => e = .returned (.int .i64 (F i : Nat)) ∧ Drawn0 W w') :
    Calls Try.prog 27 #[.pointer (some ⟨g, 0, none⟩), .int .i64 (k : Int), .func (.func 22) #[.pointer (some ⟨g, 0, none⟩)] #[]] w fun e w' => FindEnd F n k w e w' := by
  have HF := Aside0.mk hF
  have HL := Aside0.mk hle
  have HK := Aside0.mk hk
  have HN := Aside0.mk (hle n (Nat.le_refl n))
  have h00 := Aside0.mk h0
  have hneg : decide ((k : Int) < 0) = false := decide_eq_false (by omega)
  have hneg2 : ¬ ((k : Int) < 0) := by omega
  have hge : decide ((k : Int) ≥ (F n : Int)) = false := decide_eq_false (by omega)
  have hlt : ¬ ((F n : Int) ≤ (k : Int)) := by omega
  have hn0 : 0 < n := by
    rcases Nat.eq_zero_or_pos n with e | e
    · rw [e, h0] at hk; omega
    · exact e
  have HC := Aside0.mk c0
  clear hF hle hk h0
  go_enter Try.func27, Try.ntmps27
  go_wp2_with (first | (go_at_call 22; refine (HF.out _ n (Drawn0.refl _) (Nat.le_refl n)).mono ?_; rintro e w1 ⟨rfl, hD⟩; obtain ⟨nd, rfl⟩ := hD.out))
  go_quiet (fail)
  clear c0
  have HD0 : Aside0 (Drawn0 w ((w.drewN nd).drewN nq)) := ⟨⟨_, World.drewN_drewN _ _ _⟩⟩
  clear hD
  go_wp2_with fail
  have hdF : decide (F n ≤ k) = false := decide_eq_false (by have := HK.out; omega)
  rw [hdF]
  clear hdF
  go_loopw [7, 8] (fun v7 v8 w' => ∃ lo hi : Nat, v7 = .int .i64 lo ∧ v8 = .int .i64 hi ∧ Aside0 (lo < hi ∧ hi ≤ n ∧ F lo ≤ k ∧ k < F hi) ∧ Aside0 (Drawn0 w w')) (fun v7 v8 _ => (intOf v8).toNat - (intOf v7).toNat)
  case atStart => exact ⟨0, n, rfl, rfl, ⟨hn0, Nat.le_refl n, by rw [h00.out]; omega, HK.out⟩, HD0⟩
  case round =>
    clear HD0
    obtain ⟨lo, hi, rfl, rfl, HI, HD⟩ := hrel
    have hI := HI.out
    by_cases hgt : (hi : Int) - (lo : Int) > 1
    · go_wp2_with fail
      obtain ⟨m, hm⟩ : ∃ m : Nat, m = (lo + hi) / 2 := ⟨_, rfl⟩
      rw [show ((lo : Int) + (hi : Int)) / 2 = (m : Int) by omega]
      have hml : lo < m ∧ m < hi := by omega
      have hFm := HL.out m (by omega)
      refine (HF.out _ m HD.out (by omega)).mono ?_
      rintro e w1 ⟨rfl, hD⟩
      have HD2 := Aside0.mk (drawn_two HD.out hD)
      clear hD HD hm
      by_cases hle : F m ≤ k
      · have hle2 : (F m : Int) ≤ (k : Int) := by omega
        go_wp2_with fail
        exact ⟨⟨m, hi, by go_num, rfl, ⟨hml.2, hI.2.1, hle, hI.2.2.2⟩, HD2⟩, by simp [intOf]; omega⟩
      · have hle2 : decide ((F m : Int) ≤ (k : Int)) = false := decide_eq_false (by omega)
        have hle3 : ¬ ((F m : Int) ≤ (k : Int)) := by omega
        go_wp2_with fail
        exact ⟨⟨lo, m, rfl, by go_num, ⟨hml.1, by omega, hI.2.2.1, by omega⟩, HD2⟩, by simp [intOf]; omega⟩
    · have hgt2 : decide ((hi : Int) - (lo : Int) > 1) = false := decide_eq_false hgt
      have hE : hi = lo + 1 := by omega
      have HE := Aside0.mk hE
      clear hE
      go_wp2_with fail
      go_ret
      refine ⟨lo, rfl, by omega, hI.2.2.1, ?_, HD.out⟩
      rw [← HE.out]
      exact hI.2.2.2
set_option maxRecDepth 100000 in
set_option maxHeartbeats 2000000 in
theorem find23_calls (g n k : Nat) (F : Nat → Nat) (w : World) (c0 : w.cell? ⟨g, 0, none⟩ = some (.int .i64 (n : Int))) (hn : n ≤ 100000) (hk : k < F n) (h0 : F 0 = 0) (hle : ∀ i, i ≤ n → F i ≤ 100000)
    (hF : ∀ (W : World) (i : Nat), Drawn0 w W → i ≤ n → Calls Try.prog 23 #[.pointer (some ⟨g, 0, none⟩), .int .i64 (i : Int)] W fun e w' => e = .returned (.int .i64 (F i : Nat)) ∧ Drawn0 W w') :
    Calls Try.prog 27 #[.pointer (some ⟨g, 0, none⟩), .int .i64 (k : Int), .func (.func 23) #[.pointer (some ⟨g, 0, none⟩)] #[]] w fun e w' => FindEnd F n k w e w' := by
  have HF := Aside0.mk hF
  have HL := Aside0.mk hle
  have HK := Aside0.mk hk
  have HN := Aside0.mk (hle n (Nat.le_refl n))
  have h00 := Aside0.mk h0
  have hneg : decide ((k : Int) < 0) = false := decide_eq_false (by omega)
  have hneg2 : ¬ ((k : Int) < 0) := by omega
  have hge : decide ((k : Int) ≥ (F n : Int)) = false := decide_eq_false (by omega)
  have hlt : ¬ ((F n : Int) ≤ (k : Int)) := by omega
  have hn0 : 0 < n := by
    rcases Nat.eq_zero_or_pos n with e | e
    · rw [e, h0] at hk; omega
    · exact e
  have HC := Aside0.mk c0
  clear hF hle hk h0
  go_enter Try.func27, Try.ntmps27
  go_wp2_with (first | (go_at_call 23; refine (HF.out _ n (Drawn0.refl _) (Nat.le_refl n)).mono ?_; rintro e w1 ⟨rfl, hD⟩; obtain ⟨nd, rfl⟩ := hD.out))
  go_quiet (fail)
  clear c0
  have HD0 : Aside0 (Drawn0 w ((w.drewN nd).drewN nq)) := ⟨⟨_, World.drewN_drewN _ _ _⟩⟩
  clear hD
  go_wp2_with fail
  have hdF : decide (F n ≤ k) = false := decide_eq_false (by have := HK.out; omega)
  rw [hdF]
  clear hdF
  go_loopw [7, 8] (fun v7 v8 w' => ∃ lo hi : Nat, v7 = .int .i64 lo ∧ v8 = .int .i64 hi ∧ Aside0 (lo < hi ∧ hi ≤ n ∧ F lo ≤ k ∧ k < F hi) ∧ Aside0 (Drawn0 w w')) (fun v7 v8 _ => (intOf v8).toNat - (intOf v7).toNat)
  case atStart => exact ⟨0, n, rfl, rfl, ⟨hn0, Nat.le_refl n, by rw [h00.out]; omega, HK.out⟩, HD0⟩
  case round =>
    clear HD0
    obtain ⟨lo, hi, rfl, rfl, HI, HD⟩ := hrel
    have hI := HI.out
    by_cases hgt : (hi : Int) - (lo : Int) > 1
    · go_wp2_with fail
      obtain ⟨m, hm⟩ : ∃ m : Nat, m = (lo + hi) / 2 := ⟨_, rfl⟩
      rw [show ((lo : Int) + (hi : Int)) / 2 = (m : Int) by omega]
      have hml : lo < m ∧ m < hi := by omega
      have hFm := HL.out m (by omega)
      refine (HF.out _ m HD.out (by omega)).mono ?_
      rintro e w1 ⟨rfl, hD⟩
      have HD2 := Aside0.mk (drawn_two HD.out hD)
      clear hD HD hm
      by_cases hle : F m ≤ k
      · have hle2 : (F m : Int) ≤ (k : Int) := by omega
        go_wp2_with fail
        exact ⟨⟨m, hi, by go_num, rfl, ⟨hml.2, hI.2.1, hle, hI.2.2.2⟩, HD2⟩, by simp [intOf]; omega⟩
      · have hle2 : decide ((F m : Int) ≤ (k : Int)) = false := decide_eq_false (by omega)
        have hle3 : ¬ ((F m : Int) ≤ (k : Int)) := by omega
        go_wp2_with fail
        exact ⟨⟨lo, m, rfl, by go_num, ⟨hml.1, by omega, hI.2.2.1, by omega⟩, HD2⟩, by simp [intOf]; omega⟩
    · have hgt2 : decide ((hi : Int) - (lo : Int) > 1) = false := decide_eq_false hgt
      have hE : hi = lo + 1 := by omega
      have HE := Aside0.mk hE
      clear hE
      go_wp2_with fail
      go_ret
      refine ⟨lo, rfl, by omega, hI.2.2.1, ?_, HD.out⟩
      rw [← HE.out]
      exact hI.2.2.2
theorem ones_take_le (bs : List Bool) (i : Nat) : Wf.ones (bs.take i) ≤ i := by
  have := Wf.ones_le (bs.take i)
  rw [List.length_take] at this
  omega
set_option maxRecDepth 100000 in
theorem sel_calls (g : Nat) (bs : List Bool) (w : World) (hV : VecAt w g bs) (hn : bs.length ≤ 100000) (k : Nat) (hk : k < Wf.ones bs) :
    Calls Try.prog 24 #[.pointer (some ⟨g, 0, none⟩), .int .i64 (k : Int)] w fun e w' => FindEnd (fun i => Wf.ones (bs.take i)) bs.length k w e w' := by
  obtain ⟨A1, c1, A2, c2, h0, h1, h2, l1, l2, r1, r2⟩ := hV.out
  have HF := Aside0.mk (find22_calls g bs.length k (fun i => Wf.ones (bs.take i)) w h0 hn (by simpa using hk) (by simp [Wf.ones]) (fun i hi => Nat.le_trans (ones_take_le bs i) (by omega)) (fun W i hD hi => rank_calls g bs W (hV.below hD.below) hn i hi))
  clear hV h0 h1 h2 r1 r2
  go_enter Try.func24, Try.ntmps24
  go_wp2_with (first | (go_at_call 27; refine HF.out.mono ?_; rintro e w1 ⟨p, rfl, h1, h2, h3, h4⟩; have HP := Aside0.mk (And.intro h1 (And.intro h2 (And.intro h3 h4))); clear h1 h2 h3 h4))
  go_ret
  exact ⟨p, rfl, HP.out⟩
set_option maxRecDepth 100000 in
theorem sel0_calls (g : Nat) (bs : List Bool) (w : World) (hV : VecAt w g bs) (hn : bs.length ≤ 100000) (k : Nat) (hk : k < bs.length - Wf.ones bs) :
    Calls Try.prog 25 #[.pointer (some ⟨g, 0, none⟩), .int .i64 (k : Int)] w fun e w' => FindEnd (fun i => i - Wf.ones (bs.take i)) bs.length k w e w' := by
  obtain ⟨A1, c1, A2, c2, h0, h1, h2, l1, l2, r1, r2⟩ := hV.out
  have HF := Aside0.mk (find23_calls g bs.length k (fun i => i - Wf.ones (bs.take i)) w h0 hn (by simpa using hk) (by simp) (fun i hi => by show i - _ ≤ _; omega) (fun W i hD hi => zeros_calls g bs W (hV.below hD.below) hn i hi))
  clear hV h0 h1 h2 r1 r2
  go_enter Try.func25, Try.ntmps25
  go_wp2_with (first | (go_at_call 27; refine HF.out.mono ?_; rintro e w1 ⟨p, rfl, h1, h2, h3, h4⟩; have HP := Aside0.mk (And.intro h1 (And.intro h2 (And.intro h3 h4))); clear h1 h2 h3 h4))
  go_ret
  exact ⟨p, rfl, HP.out⟩
end Go.Proofs.Ytaoiljbbfcpfiaa
