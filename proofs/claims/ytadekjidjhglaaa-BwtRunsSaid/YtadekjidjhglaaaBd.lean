/- Walks: suffix.second. -/
import Derived.Test.YtadekjidjhglaaaBc
set_option linter.unusedVariables false
set_option linter.unusedSimpArgs false
namespace Go.Proofs.Ytadekjidjhglaaa
open Go.RowKit Go.Proofs.YtadekjidjhglaaaW.PrintWords Go.Proofs.YtadekjidjhglaaaW.PrintLast Go.Proofs.YtadekjidjhglaaaW.PrintMore

namespace Second
/-- Behind the first loop's t rounds; behind the second's j. -/
def s1 (n k t : Nat) : List Nat := (List.range t).map (n - k + ·)
def s2 (sa : List Nat) (k j : Nat) : List Nat := s1 sa.length k k ++ ((sa.take j).filter (k ≤ ·)).map (· - k)
theorem s1_succ (n k t : Nat) : s1 n k (t + 1) = s1 n k t ++ [n - k + t] := by simp [s1, List.range_succ]
theorem s1_length (n k t : Nat) : (s1 n k t).length = t := by simp [s1]
theorem s2_zero (sa : List Nat) (k : Nat) : s2 sa k 0 = s1 sa.length k k := by simp [s2]
theorem s2_done (sa : List Nat) (k : Nat) : s2 sa k sa.length = Sf.secondF sa k := by simp [s2, s1, Sf.secondF]
theorem s2_yes {sa : List Nat} {k j : Nat} (hj : j < sa.length) (h : k ≤ sa.getD j 0) : s2 sa k (j + 1) = s2 sa k j ++ [sa.getD j 0 - k] := by
  have e : sa[j] = sa.getD j 0 := by rw [List.getD_eq_getElem?_getD, List.getElem?_eq_getElem hj]; rfl
  unfold s2
  rw [List.take_succ_eq_append_getElem hj, List.filter_append, e, List.map_append, List.append_assoc]
  simp only [List.filter_cons, h, decide_true, if_true, List.filter_nil, List.map_cons, List.map_nil]
theorem s2_no {sa : List Nat} {k j : Nat} (hj : j < sa.length) (h : ¬ k ≤ sa.getD j 0) : s2 sa k (j + 1) = s2 sa k j := by
  have e : sa[j] = sa.getD j 0 := by rw [List.getD_eq_getElem?_getD, List.getElem?_eq_getElem hj]; rfl
  unfold s2
  rw [List.take_succ_eq_append_getElem hj, List.filter_append, e]
  simp only [List.filter_cons, h, decide_false, List.filter_nil, List.append_nil, Bool.false_eq_true, if_false]
theorem s2_length (sa : List Nat) (k j : Nat) : (s2 sa k j).length ≤ k + sa.length := by
  unfold s2
  rw [List.length_append, s1_length, List.length_map]
  have h1 := List.length_filter_le (fun x => decide (k ≤ x)) (sa.take j)
  have h2 : (sa.take j).length ≤ sa.length := by simp; omega
  omega
end Second
open Second

set_option maxRecDepth 100000 in
set_option maxHeartbeats 2000000 in
theorem second_calls (A0 : Option Addr) (n c0 : Nat) (sa : List Nat) (k : Nat) (w : World) (hr0 : Kd.C (Kd.int .i64) w A0 n (Sf.ni sa)) (hn : n ≤ 100000) (hk : k ≤ n) (hl : sa.length = n) (hs : ∀ p ∈ sa, p < n) :
    Calls Try.prog 49 #[.slice A0 n c0, .int .i64 k] w fun e w' => ∃ v, e = .returned v ∧ Kd.R (Kd.int .i64) 3 w' w.heap.size (fun _ => True) v (Sf.ni (Sf.secondF sa k)) ∧ Below w.heap.size w w' := by
  have HR0 := Aside0.mk hr0
  have HL := Aside0.mk hl
  have HB := Aside0.mk (Below.refl w.heap.size w)
  have HNb : Aside0 (n ≤ 100000000) := ⟨by omega⟩
  have HS := Aside0.mk hs
  clear hr0 hl hs
  have HS1 : ∀ t, t ≤ k → Aside0 ((Sf.ni (s1 n k t)).length ≤ 100000000) := fun t ht => ⟨by rw [Sf.ni_length, s1_length]; omega⟩
  have HS2 : ∀ t, Aside0 ((Sf.ni (s2 sa k t)).length ≤ 100000000) := fun t => ⟨by have := s2_length sa k t; have := HL.out; rw [Sf.ni_length]; omega⟩
  have H1 := Aside0.mk HS1
  have H2 := Aside0.mk HS2
  clear HS1 HS2
  go_enter Try.func49, Try.ntmps49
  go_wp2_with (first | (at_make; refine mk_cap 28 3 8 Try.underlying28 info3 (by omega) (by omega) rfl _ _ rfl n rfl rfl HB HNb ?_; intro v1 w1 HO HB1 HG; clear HB HG; have HB := HB1; clear HB1))
  go_loopw [5, 6] (fun v5 v6 w' => ∃ t : Nat, v6 = .int .i64 ((n : Int) - k + t) ∧ Aside0 (t ≤ k) ∧ Aside0 (Kd.R (Kd.int .i64) 3 w' w.heap.size (fun _ => True) v5 (Sf.ni (s1 n k t))) ∧ Aside0 (Below w.heap.size w w')) (fun _ i _ => n - (intOf i).toNat)
  case atStart => exact ⟨0, by go_num, ⟨Nat.zero_le _⟩, HO, HB⟩
  case round =>
    clear HO HB
    obtain ⟨t, rfl, HT, HO, HB⟩ := hrel
    by_cases hlt : t < k
    · have HLT := H1.out t (by omega)
      have HE : Aside0 ((n : Int) - k + t = ((n - k + t : Nat) : Int)) := ⟨by omega⟩
      go_wp2_with (first | (at_builtin; refine app_i64 rfl _ _ rfl _ _ _ rfl rfl HO HB HLT ?_; intro v2 w2 HO1 HB1 hg hat; clear hg hat HO HB))
      go_roundw
      case rel => exact ⟨t + 1, by go_num, ⟨by omega⟩, ⟨by rw [s1_succ, Sf.ni_append]; have := HO1.out; rw [HE.out] at this; exact this⟩, HB1⟩
      case measure => simp [intOf]; omega
    · have hj : t = k := by have := HT.out; omega
      subst hj
      clear hlt HT
      go_wp2_with fail
      rw [show ((n : Int) - (t : Int) + (t : Int)) = (n : Int) from by omega]
      have HO' : Aside0 (Kd.R (Kd.int .i64) 3 wr w.heap.size (fun _ => True) u5 (Sf.ni (s2 sa t 0))) := ⟨by rw [s2_zero, HL.out]; exact HO.out⟩
      obtain ⟨w3, hw3⟩ : ∃ w3 : World, w3 = wr := ⟨_, rfl⟩
      rw [← hw3] at HO' HB ⊢
      clear hw3 HO
      go_loopw [5, 28] (fun v5 v28 w' => ∃ j : Nat, v28 = .int .i64 j ∧ Aside0 (j ≤ n) ∧ Aside0 (Kd.R (Kd.int .i64) 3 w' w.heap.size (fun _ => True) v5 (Sf.ni (s2 sa t j))) ∧ Aside0 (Below w.heap.size w w')) (fun _ i _ => n - (intOf i).toNat)
      case atStart => exact ⟨0, rfl, ⟨Nat.zero_le _⟩, HO', HB⟩
      case round =>
        clear HO' HB
        obtain ⟨j, rfl, HJ, HO, HB⟩ := hrel
        by_cases hlt : j < n
        · obtain ⟨ad, e, hx⟩ := at_nat HR0.out HB.out j hlt
          cases e
          rw [Sf.ni_getD] at hx
          have HLT := H2.out j
          have hpb : sa.getD j 0 < n := HS.out _ (Sf.getD_mem (by have := HL.out; omega))
          by_cases hp : t ≤ sa.getD j 0
          · have HE := Aside0.mk (s2_yes (by have := HL.out; omega) hp)
            generalize sa.getD j 0 = p at *
            have HE2 : Aside0 ((p : Int) - t = ((p - t : Nat) : Int)) := ⟨by omega⟩
            go_wp2_with (first | (at_builtin; refine app_i64 rfl _ _ rfl _ _ _ rfl rfl HO HB HLT ?_; intro v2 w2 HO1 HB1 hg hat; clear hg hat HO HB))
            go_roundw
            case rel => exact ⟨j + 1, by go_num, ⟨by omega⟩, ⟨by rw [HE.out, Sf.ni_append]; have := HO1.out; rw [HE2.out] at this; exact this⟩, HB1⟩
            case measure => simp [intOf]; omega
          · have HE := Aside0.mk (s2_no (by have := HL.out; omega) hp)
            generalize sa.getD j 0 = p at *
            go_wp2_with fail
            go_roundw
            case rel => exact ⟨j + 1, by go_num, ⟨by omega⟩, ⟨by rw [HE.out]; exact HO.out⟩, HB⟩
            case measure => simp [intOf]; omega
        · have hj : j = n := by have := HJ.out; omega
          subst hj
          clear hlt
          go_wp2_with fail
          go_ret
          exact ⟨_, rfl, by have := HO.out; rw [← HL.out, s2_done] at this; exact this, HB.out⟩
end Go.Proofs.Ytadekjidjhglaaa
