/- Walks: Matrix.Select. -/
import Derived.Test.YtaoiljbbfcpfiaaBm
import Derived.Test.YtaoiljbbfcpfiaaSi
set_option linter.unusedVariables false
set_option linter.unusedSimpArgs false
namespace Go.Proofs.Ytaoiljbbfcpfiaa
open Go.RowKit Go.Proofs.YtaoiljbbfcpfiaaW.PrintWords Go.Proofs.YtaoiljbbfcpfiaaW.PrintLast Go.Proofs.YtaoiljbbfcpfiaaW.PrintMore
def MSelEnd (l : List Int) (c : Int) (k n : Nat) (w : World) (e : Ending) (w' : World) : Prop := ∃ p : Nat, e = .returned (.int .i64 (p : Int)) ∧ p < n ∧ countF l c p = k ∧ countF l c (p + 1) = k + 1 ∧ Drawn0 w w'
set_option maxRecDepth 100000 in
set_option maxHeartbeats 2000000 in
theorem mselect_calls (g n : Nat) (l : List Int) (w : World) (hM : MatAt w g l n) (hl : Syms l) (hn : n ≤ 100000) (c : Int) (hc : 0 ≤ c ∧ c ≤ 256) (k : Nat) (hk : k < countF l c n) :
    Calls Try.prog 17 #[.pointer (some ⟨g, 0, none⟩), .int .i64 c, .int .i64 (k : Int)] w fun e w' => MSelEnd l c k n w e w' := by
  have HM := Aside0.mk hM
  have HL := Aside0.mk hl
  have HK := Aside0.mk hk
  have hneg : decide ((k : Int) < 0) = false := decide_eq_false (by omega)
  have hneg2 : ¬ ((k : Int) < 0) := by omega
  have hge : decide ((k : Int) ≥ (countF l c n : Int)) = false := decide_eq_false (by omega)
  have hge2 : ¬ ((k : Int) ≥ (countF l c n : Int)) := by omega
  have hge3 : decide (countF l c n ≤ k) = false := decide_eq_false (by omega)
  have HCN := Aside0.mk (count_le l c n)
  have HR := Aside0.mk (Wf.rank_law l c (show n ≤ l.length by rw [hM.len]; exact Nat.le_refl n) hl hc)
  have HP9 := Aside0.mk (Wf.path_mono l c 9 (Nat.zero_le n) (by rw [hM.len]; exact Nat.le_refl n))
  clear hM hl hk
  go_enter Try.func17, Try.ntmps17
  go_wp2_with (first | (go_at_call 18; refine (mcount_calls g n l _ HM.out HL.out hn c hc).mono ?_; rintro e w1 ⟨rfl, hD⟩; have HD1 := Aside0.mk hD; clear hD))
  go_loopw [7, 19] (fun v7 v19 w' => ∃ t : Nat, v19 = .int .i64 t ∧ v7 = .int .i64 (Wf.pathF l c t 0 : Nat) ∧ Aside0 (t ≤ 9) ∧ Aside0 (Drawn0 w w')) (fun _ v19 _ => 9 - (intOf v19).toNat)
  case atStart => exact ⟨0, rfl, rfl, ⟨by omega⟩, HD1⟩
  case round =>
    clear HD1
    obtain ⟨t, rfl, rfl, HT, HD⟩ := hrel
    by_cases ht : t < 9
    · have HPQ : Aside0 (Wf.pathF l c t 0 ≤ n) := ⟨by have := Wf.path_mono l c t (Nat.zero_le 0) (Nat.zero_le l.length); have := HM.out.len; omega⟩
      have HS := Aside0.mk (show Wf.pathF l c (t + 1) 0 = Wf.downF l t (Wf.bitF c t) (Wf.pathF l c t 0) from rfl)
      have HBC := Aside0.mk (fun W => bit_calls c t hc ht W)
      generalize Wf.pathF l c t 0 = p at *
      generalize Wf.bitF c t = b at *
      go_wp2_with (first | (go_at_call 13; refine (HBC.out _).mono ?_; rintro e w2 ⟨rfl, hD⟩; replace HD := Aside0.mk (drawn_two HD.out hD); clear hD) | (go_at_call 16; refine (down_calls g n l _ (HM.out.below HD.out.below) hn t ht p p HPQ.out HPQ.out b).mono ?_; rintro e w3 ⟨rfl, hD3⟩; replace HD := Aside0.mk (drawn_two HD.out hD3); clear hD3))
      go_round
      case rel => exact ⟨t + 1, by go_num, by rw [HS.out], ⟨by omega⟩, HD⟩
      case measure => simp [intOf]; omega
    · have hte : t = 9 := by have := HT.out; omega
      obtain ⟨a9, ha9⟩ : ∃ a9, a9 = Wf.pathF l c t 0 + k := ⟨_, rfl⟩
      have ha9z : IntKind.i64.wrap ((Wf.pathF l c t 0 : Int) + (k : Int)) = (a9 : Int) := by
        have h1 := HP9.out
        have h2 := HM.out.len
        have h3 := HK.out
        have h4 := HCN.out
        rw [IntKind.wrap_i64, ha9, hte]
        omega
      have HUP : Aside0 (Wf.UpAt l c n (Wf.pathF l c 9 0 + k) 9 a9) := ⟨by
        have h1 := HP9.out
        have h2 := HM.out.len
        have h3 := HK.out
        have h4 := HR.out
        have h5 : countF l c n = List.countP (fun x => decide (x = c)) (List.take n l) := rfl
        rw [ha9, hte]
        refine ⟨by omega, rfl, rfl, by omega, by omega⟩⟩
      clear ha9 hte
      go_wp2_with fail
      have hd9 : decide ((t : Int) < 9) = false := decide_eq_false (by omega)
      rw [hd9]
      clear hd9
      go_loopw [7, 9] (fun v7 v9 w' => ∃ j a : Nat, v9 = .int .i64 ((j : Int) - 1) ∧ v7 = .int .i64 (a : Int) ∧ Aside0 (j ≤ 9) ∧ Aside0 (Wf.UpAt l c n (Wf.pathF l c 9 0 + k) j a) ∧ Aside0 (Drawn0 w w')) (fun _ v9 _ => (intOf v9 + 1).toNat)
      case atStart => exact ⟨9, a9, rfl, rfl, ⟨Nat.le_refl 9⟩, HUP, HD⟩
      case round =>
        clear HUP HD ha9z
        obtain ⟨j, a, rfl, rfl, HJ, HUP, HD⟩ := hrel
        rcases Nat.eq_zero_or_pos j with hj | hj
        · subst hj
          have hlt0 : ¬ ((-1 : Int) ≥ 0) := by omega
          go_wp2_with fail
          go_ret
          obtain ⟨g1, g2, g3, g4, g5⟩ := HUP.out
          have hn2 : a + 1 ≤ l.length := by rw [HM.out.len]; omega
          have q1 : Wf.pathF l c 9 a = Wf.pathF l c 9 0 + k := g2
          have q2 : Wf.pathF l c 9 (a + 1) = Wf.pathF l c 9 0 + k + 1 := g3
          have r1 := Wf.rank_law l c (show a ≤ l.length by omega) HL.out hc
          have r2 := Wf.rank_law l c hn2 HL.out hc
          refine ⟨a, rfl, g1, ?_, ?_, HD.out⟩
          · unfold countF; rw [← r1]; omega
          · unfold countF; rw [← r2]; omega
        · obtain ⟨s, rfl⟩ : ∃ s, j = s + 1 := ⟨j - 1, by omega⟩
          have hs9 : s < 9 := by have := HJ.out; omega
          rw [show (((s + 1 : Nat) : Int) - 1) = (s : Int) by omega]
          have hge0 : (s : Int) ≥ 0 := by omega
          have hs0 : (0 : Int) ≤ (s : Int) := by omega
          have hs99 : (s : Int) < 9 := by omega
          have HMR := Aside0.mk (HM.out.below HD.out.below)
          obtain ⟨gt, hv1, hv2⟩ := HMR.out.lv s hs9
          have hz := HMR.out.zs s hs9
          have HV2 := Aside0.mk hv2
          have HBC := Aside0.mk (fun W => bit_calls c s hc hs9 W)
          have hbl : (Wf.bitsF l s).length = n := (Wf.bits_len l s).trans HM.out.len
          have HBL := Aside0.mk hbl
          have han := HUP.out.1
          clear hv2 hbl
          cases hb : Wf.bitF c s with
          | true =>
            rw [hb] at HBC
            have hut := Wf.up_true HM.out.len hs9 HUP.out hb
            have HB2 := Aside0.mk hb
            clear hb
            have hwz : IntKind.i64.wrap (((a - Wf.zerosF l s : Nat)) : Int) = ((a - Wf.zerosF l s : Nat) : Int) := by rw [IntKind.wrap_i64]; omega
            have hwz2 : (a : Int) - (Wf.zerosF l s : Int) = ((a - Wf.zerosF l s : Nat) : Int) := by omega
            have HSE := Aside0.mk (fun W (hb : Below wr.heap.size wr W) => sel_calls gt (Wf.bitsF l s) W (HV2.out.below hb) (by rw [HBL.out]; exact hn) (a - Wf.zerosF l s) hut.2)
            have HUT := Aside0.mk (fun p (hp : p < n) => Wf.up_true_of HM.out.len hs9 HUP.out HB2.out hp)
            clear hut
            generalize a - Wf.zerosF l s = d at *
            generalize Wf.zerosF l s = z at *
            go_wp2_with (first | (go_at_call 13; refine (HBC.out _).mono ?_; rintro e w2 ⟨rfl, ⟨nd, rfl⟩⟩))
            go_region_held3 (fun w' => w'.cell? ⟨g, 1 + s, none⟩ = some (.pointer (some ⟨gt, 0, none⟩)) ∧ w'.cell? ⟨g, 10 + s, none⟩ = some (.int .i64 (z : Int)))
              (first | exact ⟨hv1, hz⟩)
              (first | (go_at_call 24; refine (HSE.out _ (by first | exact Below.refl _ _ | exact pw_below_drewN (Below.refl _ _) _ | exact below_drew (Below.refl _ _))).mono ?_; rintro e w5 ⟨p, rfl, h1, h2, h3, ⟨nd5, rfl⟩⟩))
            all_goals
              have HUP2 := Aside0.mk (HUT.out p (by rw [HBL.out] at h1; exact h1) h2 h3)
              have HD2 := Aside0.mk (HD.out.step (nd + 1 + nd5))
              clear h1 h2 h3 HUP HUT HD
              go_wp2_with fail
              go_round
              case rel => exact ⟨s, p, rfl, rfl, ⟨by omega⟩, HUP2, HD2⟩
              case measure => simp [intOf]
          | false =>
            rw [hb] at HBC
            have hut := Wf.up_false HM.out.len hs9 HUP.out hb
            have HB2 := Aside0.mk hb
            clear hb
            have HSE := Aside0.mk (fun W (hb : Below wr.heap.size wr W) => sel0_calls gt (Wf.bitsF l s) W (HV2.out.below hb) (by rw [HBL.out]; exact hn) a (by rw [HBL.out]; exact hut))
            have HUT := Aside0.mk (fun p (hp : p < n) => Wf.up_false_of HM.out.len hs9 HUP.out HB2.out hp)
            clear hut
            go_wp2_with (first | (go_at_call 13; refine (HBC.out _).mono ?_; rintro e w2 ⟨rfl, ⟨nd, rfl⟩⟩) | (go_at_call 25; refine (HSE.out _ (by first | exact Below.refl _ _ | exact pw_below_drewN (Below.refl _ _) _ | exact below_drew (Below.refl _ _))).mono ?_; rintro e w5 ⟨p, rfl, h1, h2, h3, hD5⟩; have HUP2 := Aside0.mk (HUT.out p (by rw [HBL.out] at h1; exact h1) h2 h3); have HD2 := Aside0.mk (drawn_two (HD.out.step nd) hD5); clear h1 h2 h3 hD5 HUP HUT HD))
            go_round
            case rel => exact ⟨s, p, rfl, rfl, ⟨by omega⟩, HUP2, HD2⟩
            case measure => simp [intOf]
end Go.Proofs.Ytaoiljbbfcpfiaa
