/- The law WaveLess: for any bytes told over and over, any symbol and any two places, it returns true. No condition. -/
import Derived.Test.YtaoiljbbfcpfiaaBo
import Derived.Test.YtaoiljbbfcpfiaaSj
import Derived.Test.YtaoiljbbfcpfiaaRo
set_option linter.unusedVariables false
set_option linter.unusedSimpArgs false
namespace Go.Proofs.Ytaoiljbbfcpfiaa
open Go.RowKit Go.Proofs.YtaoiljbbfcpfiaaW.PrintWords Go.Proofs.YtaoiljbbfcpfiaaW.PrintLast Go.Proofs.YtaoiljbbfcpfiaaW.PrintMore
theorem and_low (x : Int) (b : Nat) (hb : b < 1000000) : ∃ n : Nat, bits .and .i64 x (b : Int) = (n : Int) ∧ n ≤ b := by
  have hbb : b % 2 ^ IntKind.i64.bits = b := Nat.mod_eq_of_lt (by simp [IntKind.bits]; omega)
  refine ⟨(BitVec.ofInt IntKind.i64.bits x).toNat &&& b, ?_, Nat.and_le_right⟩
  simp only [bits, BitVec.ofInt_natCast, BitVec.toNat_and, BitVec.toNat_ofNat, hbb]
  have : (BitVec.ofInt IntKind.i64.bits x).toNat &&& b ≤ b := Nat.and_le_right
  rw [IntKind.wrap_i64]
  omega
abbrev RowB (w0 w : World) (g n cap : Nat) (xs : List Int) : Prop := (Kd.int .u8).R 5 w w0.heap.size (fun _ => True) (.slice (some ⟨g, 0, none⟩) n cap) xs

/-- So many noughts. -/
def mb (n : Nat) : Array Value := madeCells #[.int .u8 0] n
theorem MatAt.drawn {W : World} {g n : Nat} {l : List Int} (h : MatAt W g l n) (k : Nat) : MatAt (W.drewN k) g l n := h.below (pw_below_drewN (Below.refl _ _) k)
theorem law_facts {r : List Int} {cc lo hi : Nat} (hs : Syms r) (hcc : cc ≤ 256) (h : lo ≤ hi) (hh : hi ≤ r.length) :
    lessC r ((cc : Int) + 1) lo = lessC r (cc : Int) lo + countF r (cc : Int) lo ∧ lessC r 0 lo = 0 ∧ countF r (cc : Int) lo ≤ countF r (cc : Int) hi ∧ countF r (cc : Int) hi - countF r (cc : Int) lo ≤ hi - lo ∧ countF r (cc : Int) hi ≤ hi ∧ lessC r (cc : Int) lo + countF r (cc : Int) lo ≤ lo := by
  have h1 : lessC r ((cc : Int) + 1) lo = lessC r (cc : Int) lo + countF r (cc : Int) lo := Wf.countP_add _ (fun x _ => by
    by_cases g1 : x < (cc : Int) <;> by_cases g2 : x = (cc : Int) <;> by_cases g3 : x < (cc : Int) + 1 <;> simp [g1, g2, g3] <;> omega)
  have h2 : r.take hi = r.take lo ++ (r.take hi).drop lo := by
    have := (List.take_append_drop lo (r.take hi)).symm
    rw [List.take_take, Nat.min_eq_left h] at this
    exact this
  have h3 : countF r (cc : Int) hi = countF r (cc : Int) lo + ((r.take hi).drop lo).countP (fun x => decide (x = (cc : Int))) := by
    unfold countF
    conv => lhs; rw [h2]
    rw [List.countP_append]
  have h4 := List.countP_le_length (p := fun x => decide (x = (cc : Int))) (l := (r.take hi).drop lo)
  rw [List.length_drop, List.length_take] at h4
  have h5 := less_le r ((cc : Int) + 1) lo
  exact ⟨h1, less_zero hs (by omega) lo, by omega, by omega, count_le r _ hi, by omega⟩
theorem law_calls {W0 : World} {g m : Nat} {r : List Int} (hM : MatAt W0 g r m) (hs : Syms r) (hm : m ≤ 100000) :
    (∀ (W : World) (x : Int) (i v : Nat), i ≤ m → lessC r x i = v → Drawn0 W0 W → Calls Try.prog 6 #[.pointer (some ⟨g, 0, none⟩), .int .i64 x, .int .i64 (i : Int)] W fun e w' => e = .returned (.int .i64 (v : Int)) ∧ Drawn0 W0 w') ∧
    (∀ (W : World) (cc i v : Nat), cc ≤ 256 → i ≤ m → countF r (cc : Int) i = v → Drawn0 W0 W → Calls Try.prog 7 #[.pointer (some ⟨g, 0, none⟩), .int .i64 (cc : Int), .int .i64 (i : Int)] W fun e w' => e = .returned (.int .i64 (v : Int)) ∧ Drawn0 W0 w') ∧
    (∀ (W : World) (i : Nat), i < m → Drawn0 W0 W → Calls Try.prog 8 #[.pointer (some ⟨g, 0, none⟩), .int .i64 (i : Int)] W fun e w' => e = .returned (.int .i64 (r.getD i 0)) ∧ Drawn0 W0 w') := by
  refine ⟨fun W x i v hi hv hD => ?_, fun W cc i v hc hi hv hD => ?_, fun W i hi hD => ?_⟩
  · refine (mless_calls g m r W (hM.below hD.below) hs hm x i hi).mono ?_
    rintro e w' ⟨rfl, h⟩
    rw [hv]
    exact ⟨rfl, drawn_two hD h⟩
  · refine (mrank_calls g m r W (hM.below hD.below) hs hm cc (by omega) i hi).mono ?_
    rintro e w' ⟨rfl, h⟩
    rw [hv]
    exact ⟨rfl, drawn_two hD h⟩
  · refine (mget_calls g m r W (hM.below hD.below) hs i hi).mono ?_
    rintro e w' ⟨rfl, h⟩
    exact ⟨rfl, drawn_two hD h⟩
theorem count_next {r : List Int} {c : Int} {j : Nat} (hj : j < r.length) : countF r c (j + 1) = countF r c j + if r.getD j 0 = c then 1 else 0 := by
  unfold countF
  rw [List.take_succ_eq_append_getElem hj, List.countP_append, List.getD_eq_getElem?_getD, List.getElem?_eq_getElem hj]
  by_cases h : r[j] = c <;> simp [h]
theorem tmod_nat (a b : Nat) : Int.tmod (a : Int) (b : Int) = ((a % b : Nat) : Int) := by rw [Int.tmod_eq_emod_of_nonneg (by omega)]; rfl
set_option maxRecDepth 100000 in
set_option maxHeartbeats 2000000 in
theorem less_walk (A : Option Addr) (c : Nat) (l : List Int) (w : World) (h : Kd.C (Kd.int .u8) w A l.length l) (hl : ∀ x ∈ l, 0 ≤ x ∧ x ≤ 255) (hc : l.length ≤ c) (N C I K : Int) :
    Calls Try.prog 3 #[.slice A l.length c, .int .i64 N, .int .i64 C, .int .i64 I, .int .i64 K] w fun e w' => e = .returned (.bool true) ∧ Below w.heap.size w w' := by
  obtain ⟨n1, hn1, hn2⟩ := and_low N 2047 (by omega)
  obtain ⟨k0, r, hf, hs, hr⟩ := Wf.row_some l hl (n1 : Int) (by omega)
  obtain ⟨c1, hc1, hc2⟩ := and_low C 511 (by omega)
  obtain ⟨i1, hi1, hi2⟩ := and_low I 65535 (by omega)
  obtain ⟨j1, hj1, hj2⟩ := and_low K 65535 (by omega)
  obtain ⟨m, hm⟩ : ∃ m, r.length = m := ⟨_, rfl⟩
  have hcm := tmod_nat c1 257
  have him := tmod_nat i1 (m + 1)
  have hjm := tmod_nat j1 (m + 1)
  obtain ⟨cc, hcc⟩ : ∃ cc, c1 % 257 = cc := ⟨_, rfl⟩
  obtain ⟨ii, hii⟩ : ∃ ii, i1 % (m + 1) = ii := ⟨_, rfl⟩
  obtain ⟨jj, hjj⟩ : ∃ jj, j1 % (m + 1) = jj := ⟨_, rfl⟩
  rw [hcc] at hcm
  rw [hii] at him
  rw [hjj] at hjm
  have hcc2 : cc ≤ 256 := by omega
  have hii2 : ii ≤ m := by have := Nat.mod_lt i1 (show m + 1 > 0 by omega); omega
  have hjj2 : jj ≤ m := by have := Nat.mod_lt j1 (show m + 1 > 0 by omega); omega
  have hn1' : bits .and .i64 N 2047 = (n1 : Int) := hn1
  have hc1' : bits .and .i64 C 511 = (c1 : Int) := hc1
  have hi1' : bits .and .i64 I 65535 = (i1 : Int) := hi1
  have hj1' : bits .and .i64 K 65535 = (j1 : Int) := hj1
  rw [show (((m + 1 : Nat)) : Int) = (m : Int) + 1 by omega] at him hjm
  rw [show (((257 : Nat)) : Int) = 257 by rfl] at hcm
  have hm1 : (m : Int) + 1 ≠ 0 := by omega
  have hm2 : IntKind.i64.wrap ((m : Int) + 1) = (m : Int) + 1 := by rw [IntKind.wrap_i64]; omega
  have HR := Aside0.mk (fun W (hb : Below w.heap.size w W) => concordancelaw8_Row.calls k0 A c l (n1 : Int) r W (Kd.C_below h hb) hc hf)
  have HS := Aside0.mk hs
  have HM := Aside0.mk hm
  have HB := Aside0.mk (big_not (l := r) (fun i hi => (hs _ (mem_of_getD hi)).2))
  have hmr : m ≤ 2047 := by omega
  by_cases hij : jj < ii
  · have hij2 : (ii : Int) > (jj : Int) := by omega
    have HLC := Aside0.mk (law_facts (r := r) (cc := cc) (lo := jj) (hi := ii) hs (by omega) (by omega) (by omega))
    obtain ⟨a, ha⟩ : ∃ a, lessC r (cc : Int) jj = a := ⟨_, rfl⟩
    obtain ⟨b, hb⟩ : ∃ b, countF r (cc : Int) jj = b := ⟨_, rfl⟩
    obtain ⟨d, hd⟩ : ∃ d, countF r (cc : Int) ii = d := ⟨_, rfl⟩
    have HABD := Aside0.mk (And.intro ha (And.intro hb hd))
    rw [ha, hb, hd] at HLC
    have hsum : IntKind.i64.wrap ((a : Int) + (b : Int)) = (a : Int) + (b : Int) := by have := HLC.out; rw [IntKind.wrap_i64]; omega
    have hgt : decide ((b : Int) > (d : Int)) = false := decide_eq_false (by have := HLC.out; omega)
    have hgt2 : ¬ ((b : Int) > (d : Int)) := by have := HLC.out; omega
    have hwd : IntKind.i64.wrap ((d : Int) - (b : Int)) = (d : Int) - (b : Int) := by have := HLC.out; rw [IntKind.wrap_i64]; omega
    have hwk : IntKind.i64.wrap ((ii : Int) - (jj : Int)) = (ii : Int) - (jj : Int) := by rw [IntKind.wrap_i64]; omega
    have hgt3 : decide ((d : Int) - (b : Int) > (ii : Int) - (jj : Int)) = false := decide_eq_false (by have := HLC.out; omega)
    have hgt4 : ¬ ((d : Int) - (b : Int) > (ii : Int) - (jj : Int)) := by have := HLC.out; omega
    clear h hl hc hf hs hn1 hc1 hi1 hj1 hcc hii hjj hr hm ha hb hd
    go_enter Try.func3, Try.ntmps3
    go_wp2_with (first | (go_at_call 4; refine (HR.out _ (Below.refl _ _)).mono ?_; rintro e w1 ⟨v, rfl, hR, hB1⟩; obtain ⟨A1, c3, rfl, hc3, hC1⟩ := R_is hR HM.out; have HB1 := Aside0.mk hB1; have HC1 := Aside0.mk hC1; clear hR hB1 hC1) | (go_at_call 5; refine (new_calls _ m c3 r _ HC1.out (by omega) HB.out (fun x hx => (HS.out x hx).1)).mono ?_; rintro e w2 ⟨g, A2, c4, rfl, hM, hB2⟩; have HMT := Aside0.mk hM.mat; have HB2 := Aside0.mk (below_then HB1.out HB1.out.size hB2); clear hM hB2 HB1 HC1))
    go_quiet (fail)
    have HQ := Aside0.mk (law_calls (HMT.out.drawn nq) HS.out (by omega))
    have HD := Aside0.mk (Drawn0.refl (w2.drewN nq))
    have HBW := Aside0.mk (below_then HB2.out HB2.out.size (pw_below_drewN (Below.refl _ _) nq))
    have HV1 := HABD.out.1
    have HV2 := HLC.out.1
    have HV3 := HLC.out.2.1
    have HK1 := HABD.out.2.1
    have HK2 := HABD.out.2.2
    have HV := Aside0.mk (And.intro HV1 (And.intro HV2 HV3))
    clear HV1 HV2 HV3 HK1 HK2 HMT HB2
    go_wp2_with (first | (go_at_call 6; refine (HQ.out.1 _ _ _ _ (by omega) (by first | exact HV.out.1 | exact HV.out.2.1 | exact HV.out.2.2) HD.out).mono ?_; rintro e w5 ⟨rfl, hD⟩; replace HD := Aside0.mk hD; clear hD) | (go_at_call 7; refine (HQ.out.2.1 _ _ _ _ (by omega) (by omega) (by first | exact HABD.out.2.1 | exact HABD.out.2.2) HD.out).mono ?_; rintro e w6 ⟨rfl, hD⟩; replace HD := Aside0.mk hD; clear hD))
    have hdb : decide (d < b) = false := decide_eq_false (by have := HLC.out; omega)
    rw [hdb]
    clear hdb
    go_loopw [1, 14] (fun v1 v14 w' => ∃ j q : Nat, v14 = .int .i64 (j : Int) ∧ v1 = .int .i64 (q : Int) ∧ Aside0 (jj ≤ j ∧ j ≤ ii ∧ b + q = countF r (cc : Int) j) ∧ Aside0 (Drawn0 (w2.drewN nq) w')) (fun _ v14 _ => ii - (intOf v14).toNat)
    case atStart => exact ⟨jj, 0, rfl, rfl, ⟨Nat.le_refl _, by omega, by rw [HABD.out.2.1]; rfl⟩, HD⟩
    case round =>
      clear HD
      obtain ⟨j, q, rfl, rfl, HJ, HD⟩ := hrel
      by_cases hjk : j < ii
      · have HN := Aside0.mk (count_next (c := (cc : Int)) (show j < r.length by have := HM.out; omega))
        have hq := count_le r (cc : Int) j
        have hjq := HJ.out.2.2
        have hq2 : q ≤ 100000 := by omega
        clear hq hjq
        have HG := Aside0.mk (fun W (hD : Drawn0 (w2.drewN nq) W) => HQ.out.2.2 W j (by omega) hD)
        generalize r.getD j 0 = x at *
        by_cases hxc : x = (cc : Int)
        · rw [if_pos hxc] at HN
          subst hxc
          go_wp2_with (first | (go_at_call 8; refine (HG.out _ HD.out).mono ?_; rintro e w7 ⟨rfl, hD⟩; replace HD := Aside0.mk hD; clear hD))
          exact ⟨⟨j + 1, q + 1, by go_num, by go_num, ⟨by have := HJ.out; omega, by omega, by rw [HN.out]; have := HJ.out; omega⟩, HD⟩, by simp [intOf]; omega⟩
        · rw [if_neg hxc] at HN
          have hxb : (x == (cc : Int)) = false := beq_eq_false_iff_ne.2 hxc
          have hxd : decide (x = (cc : Int)) = false := decide_eq_false hxc
          go_wp2_with (first | (go_at_call 8; refine (HG.out _ HD.out).mono ?_; rintro e w7 ⟨rfl, hD⟩; replace HD := Aside0.mk hD; clear hD))
          exact ⟨⟨j + 1, q, by go_num, rfl, ⟨by have := HJ.out; omega, by omega, by rw [HN.out]; have := HJ.out; omega⟩, HD⟩, by simp [intOf]; omega⟩
      · have hjk2 : ¬ ((j : Int) < (ii : Int)) := by omega
        have hje : j = ii := by have := HJ.out; omega
        have hfin : (d : Int) - (b : Int) = (q : Int) := by
          have h1 := HJ.out.2.2
          rw [hje, HABD.out.2.2] at h1
          omega
        have hfin2 : ((d : Int) - (b : Int) == (q : Int)) = true := beq_iff_eq.2 hfin
        clear hje hfin
        go_wp2_with (first | (go_at_call 7; refine (HQ.out.2.1 _ _ _ _ (by omega) (by omega) (by first | exact HABD.out.2.1 | exact HABD.out.2.2) HD.out).mono ?_; rintro e w6 ⟨rfl, hD⟩; replace HD := Aside0.mk hD; clear hD) | (go_at_call 9; refine (awake_calls _).mono ?_; rintro e w8 ⟨rfl, hB8⟩; have HB8 := Aside0.mk hB8; clear hB8))
        go_ret
        exact ⟨rfl, below_then (below_then HBW.out HBW.out.size HD.out.below) (Nat.le_trans HBW.out.size HD.out.below.size) HB8.out⟩
  · have hij2 : decide ((ii : Int) > (jj : Int)) = false := decide_eq_false (by omega)
    have hij3 : ¬ ((ii : Int) > (jj : Int)) := by omega
    have HLC := Aside0.mk (law_facts (r := r) (cc := cc) (lo := ii) (hi := jj) hs (by omega) (by omega) (by omega))
    obtain ⟨a, ha⟩ : ∃ a, lessC r (cc : Int) ii = a := ⟨_, rfl⟩
    obtain ⟨b, hb⟩ : ∃ b, countF r (cc : Int) ii = b := ⟨_, rfl⟩
    obtain ⟨d, hd⟩ : ∃ d, countF r (cc : Int) jj = d := ⟨_, rfl⟩
    have HABD := Aside0.mk (And.intro ha (And.intro hb hd))
    rw [ha, hb, hd] at HLC
    have hsum : IntKind.i64.wrap ((a : Int) + (b : Int)) = (a : Int) + (b : Int) := by have := HLC.out; rw [IntKind.wrap_i64]; omega
    have hgt : decide ((b : Int) > (d : Int)) = false := decide_eq_false (by have := HLC.out; omega)
    have hgt2 : ¬ ((b : Int) > (d : Int)) := by have := HLC.out; omega
    have hwd : IntKind.i64.wrap ((d : Int) - (b : Int)) = (d : Int) - (b : Int) := by have := HLC.out; rw [IntKind.wrap_i64]; omega
    have hwk : IntKind.i64.wrap ((jj : Int) - (ii : Int)) = (jj : Int) - (ii : Int) := by rw [IntKind.wrap_i64]; omega
    have hgt3 : decide ((d : Int) - (b : Int) > (jj : Int) - (ii : Int)) = false := decide_eq_false (by have := HLC.out; omega)
    have hgt4 : ¬ ((d : Int) - (b : Int) > (jj : Int) - (ii : Int)) := by have := HLC.out; omega
    clear h hl hc hf hs hn1 hc1 hi1 hj1 hcc hii hjj hr hm ha hb hd
    go_enter Try.func3, Try.ntmps3
    go_wp2_with (first | (go_at_call 4; refine (HR.out _ (Below.refl _ _)).mono ?_; rintro e w1 ⟨v, rfl, hR, hB1⟩; obtain ⟨A1, c3, rfl, hc3, hC1⟩ := R_is hR HM.out; have HB1 := Aside0.mk hB1; have HC1 := Aside0.mk hC1; clear hR hB1 hC1) | (go_at_call 5; refine (new_calls _ m c3 r _ HC1.out (by omega) HB.out (fun x hx => (HS.out x hx).1)).mono ?_; rintro e w2 ⟨g, A2, c4, rfl, hM, hB2⟩; have HMT := Aside0.mk hM.mat; have HB2 := Aside0.mk (below_then HB1.out HB1.out.size hB2); clear hM hB2 HB1 HC1))
    go_quiet (fail)
    have HQ := Aside0.mk (law_calls (HMT.out.drawn nq) HS.out (by omega))
    have HD := Aside0.mk (Drawn0.refl (w2.drewN nq))
    have HBW := Aside0.mk (below_then HB2.out HB2.out.size (pw_below_drewN (Below.refl _ _) nq))
    have HV1 := HABD.out.1
    have HV2 := HLC.out.1
    have HV3 := HLC.out.2.1
    have HK1 := HABD.out.2.1
    have HK2 := HABD.out.2.2
    have HV := Aside0.mk (And.intro HV1 (And.intro HV2 HV3))
    clear HV1 HV2 HV3 HK1 HK2 HMT HB2
    go_wp2_with (first | (go_at_call 6; refine (HQ.out.1 _ _ _ _ (by omega) (by first | exact HV.out.1 | exact HV.out.2.1 | exact HV.out.2.2) HD.out).mono ?_; rintro e w5 ⟨rfl, hD⟩; replace HD := Aside0.mk hD; clear hD) | (go_at_call 7; refine (HQ.out.2.1 _ _ _ _ (by omega) (by omega) (by first | exact HABD.out.2.1 | exact HABD.out.2.2) HD.out).mono ?_; rintro e w6 ⟨rfl, hD⟩; replace HD := Aside0.mk hD; clear hD))
    have hdb : decide (d < b) = false := decide_eq_false (by have := HLC.out; omega)
    rw [hdb]
    clear hdb
    go_loopw [1, 14] (fun v1 v14 w' => ∃ j q : Nat, v14 = .int .i64 (j : Int) ∧ v1 = .int .i64 (q : Int) ∧ Aside0 (ii ≤ j ∧ j ≤ jj ∧ b + q = countF r (cc : Int) j) ∧ Aside0 (Drawn0 (w2.drewN nq) w')) (fun _ v14 _ => jj - (intOf v14).toNat)
    case atStart => exact ⟨ii, 0, rfl, rfl, ⟨Nat.le_refl _, by omega, by rw [HABD.out.2.1]; rfl⟩, HD⟩
    case round =>
      clear HD
      obtain ⟨j, q, rfl, rfl, HJ, HD⟩ := hrel
      by_cases hjk : j < jj
      · have HN := Aside0.mk (count_next (c := (cc : Int)) (show j < r.length by have := HM.out; omega))
        have hq := count_le r (cc : Int) j
        have hjq := HJ.out.2.2
        have hq2 : q ≤ 100000 := by omega
        clear hq hjq
        have HG := Aside0.mk (fun W (hD : Drawn0 (w2.drewN nq) W) => HQ.out.2.2 W j (by omega) hD)
        generalize r.getD j 0 = x at *
        by_cases hxc : x = (cc : Int)
        · rw [if_pos hxc] at HN
          subst hxc
          go_wp2_with (first | (go_at_call 8; refine (HG.out _ HD.out).mono ?_; rintro e w7 ⟨rfl, hD⟩; replace HD := Aside0.mk hD; clear hD))
          exact ⟨⟨j + 1, q + 1, by go_num, by go_num, ⟨by have := HJ.out; omega, by omega, by rw [HN.out]; have := HJ.out; omega⟩, HD⟩, by simp [intOf]; omega⟩
        · rw [if_neg hxc] at HN
          have hxb : (x == (cc : Int)) = false := beq_eq_false_iff_ne.2 hxc
          have hxd : decide (x = (cc : Int)) = false := decide_eq_false hxc
          go_wp2_with (first | (go_at_call 8; refine (HG.out _ HD.out).mono ?_; rintro e w7 ⟨rfl, hD⟩; replace HD := Aside0.mk hD; clear hD))
          exact ⟨⟨j + 1, q, by go_num, rfl, ⟨by have := HJ.out; omega, by omega, by rw [HN.out]; have := HJ.out; omega⟩, HD⟩, by simp [intOf]; omega⟩
      · have hjk2 : ¬ ((j : Int) < (jj : Int)) := by omega
        have hje : j = jj := by have := HJ.out; omega
        have hfin : (d : Int) - (b : Int) = (q : Int) := by
          have h1 := HJ.out.2.2
          rw [hje, HABD.out.2.2] at h1
          omega
        have hfin2 : ((d : Int) - (b : Int) == (q : Int)) = true := beq_iff_eq.2 hfin
        clear hje hfin
        go_wp2_with (first | (go_at_call 7; refine (HQ.out.2.1 _ _ _ _ (by omega) (by omega) (by first | exact HABD.out.2.1 | exact HABD.out.2.2) HD.out).mono ?_; rintro e w6 ⟨rfl, hD⟩; replace HD := Aside0.mk hD; clear hD) | (go_at_call 9; refine (awake_calls _).mono ?_; rintro e w8 ⟨rfl, hB8⟩; have HB8 := Aside0.mk hB8; clear hB8))
        go_ret
        exact ⟨rfl, below_then (below_then HBW.out HBW.out.size HD.out.below) (Nat.le_trans HBW.out.size HD.out.below.size) HB8.out⟩
theorem less_row (A : Option Addr) (n c : Nat) (l : List Int) (N C I K : Int) (w : World) (h : Kd.C (Kd.int .u8) w A n l) (hl : ∀ x ∈ l, (Lit.int .u8 x).wf = true) (hc : n ≤ c) (hN : (Lit.int .i64 N).wf = true) (hC : (Lit.int .i64 C).wf = true) (hI : (Lit.int .i64 I).wf = true) (hK : (Lit.int .i64 K).wf = true) :
    Calls Try.prog 3 #[.slice A n c, .int .i64 N, .int .i64 C, .int .i64 I, .int .i64 K] w fun e w' => e = .returned (.bool true) ∧ Below w.heap.size w w' := by
  have hn : l.length = n := h.1
  subst hn
  exact less_walk A c l w h (fun x hx => u8_bounds (hl x hx)) hc N C I K
end Go.Proofs.Ytaoiljbbfcpfiaa
