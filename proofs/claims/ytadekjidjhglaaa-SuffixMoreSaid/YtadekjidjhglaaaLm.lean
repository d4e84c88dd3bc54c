/- Walk of the law SuffixMore. -/
import Derived.Test.YtadekjidjhglaaaRo
import Derived.Test.YtadekjidjhglaaaBk
import Derived.Test.YtadekjidjhglaaaSd
set_option linter.unusedVariables false
set_option linter.unusedSimpArgs false
namespace Go.Proofs.Ytadekjidjhglaaa
open Go.RowKit Go.Proofs.YtadekjidjhglaaaW.PrintWords Go.Proofs.YtadekjidjhglaaaW.PrintLast Go.Proofs.YtadekjidjhglaaaW.PrintMore

/-- What was there before a fresh row's block is as it was. -/
theorem below_of_grown {w w1 : World} {row : Option Nat} {B : Nat} (hg : w.grownBy w1 row) (hr : ∀ k, row = some k → B ≤ k) (hB : B ≤ w.heap.size := by simp) : Below B w w1 := (Below.refl B w).grown hg hB hr

set_option maxRecDepth 100000 in
set_option maxHeartbeats 4000000 in
theorem more_walk (A : Option Addr) (n c : Nat) (l : List (List Int)) (A2 : Option Addr) (n2 c2 : Nat) (d : List Int) (w : World)
    (h : Kd.C (Kd.slice 5 (Kd.int .u8)) w A n l) (hb : Sf.Bytes l) (h2 : Kd.C (Kd.int .u8) w A2 n2 d) (hb2 : Sf.Bytes [d]) (hc2 : n2 ≤ c2) :
    Calls Try.prog 3 #[.slice A n c, .slice A2 n2 c2] w fun e w' => e = .returned (.bool true) ∧ Below w.heap.size w w' := by
  have H := Aside0.mk h
  have H2 := Aside0.mk h2
  have HBy := Aside0.mk hb
  have HBy2 := Aside0.mk hb2
  have hn2 := h2.2.1
  clear h h2 hb hb2
  by_cases hd : n2 ≤ 300
  · go_enter Try.func3, Try.ntmps3
    go_wp2_with fail
    refine (few_calls A n c l _ H.out).mono ?_
    rintro e w' ⟨⟨b, rfl, hfew⟩, rfl⟩
    cases b with
    | false =>
      clear hfew
      go_wp2_with (first | (go_at_call 16; refine (awake10_calls _).mono ?_; rintro e w' ⟨rfl, hB⟩; have HB := Aside0.mk hB; clear hB))
      go_ret
      exact ⟨rfl, HB.out⟩
    | true =>
      have HF := Aside0.mk (fits_few (hfew rfl) HBy.out)
      have hl40 : l.length ≤ 40 := by have := hfew rfl; unfold fewF at this; rw [decide_eq_true_iff] at this; exact this.1
      clear hfew
      have hnl := H.out.1
      have HNL := Aside0.mk hnl
      have hn40 : n ≤ 40 := by omega
      clear hnl
      go_wp2_with fail
      refine (made_calls A n c l _ H.out HF.out.1).mono ?_
      rintro e w1 ⟨g1, rfl, hT1, hg1, hB1⟩
      have HT1 := Aside0.mk hT1
      have HB1 := Aside0.mk hB1
      have HBA := Aside0.mk (below_alloc (Below.refl w1.heap.size w1) (.cells #[] 23))
      have HO := Aside0.mk (Kd.R_N (own_empty (Kd.slice 5 (Kd.int .u8)) 23 w1 w1.heap.size (Nat.le_refl _)))
      have HFd := Aside0.mk (Kd.F_step (W1 := w1.alloc (.cells #[] 23)) (Kd.C_F heap_docs H.out) (fun k hk hlt => (below_alloc hB1 (.cells #[] 23)).block k hlt))
      have HV : Aside0 (∀ k, (Value.slice (some ⟨w1.heap.size, 0, none⟩) 0 0).ownBlock = some k → w.heap.size ≤ k) := ⟨fun k hk => by simp [Value.ownBlock] at hk; have := hB1.size; omega⟩
      have HLn : Aside0 (([] : List (List Int)).length + n ≤ 100000000) := ⟨by simp; omega⟩
      clear hT1 hB1
      go_wp2_with (first | (at_builtin; refine app_docs (w0 := w1) rfl _ _ rfl _ _ _ _ _ _ w.heap.size rfl rfl HO HFd HV HBA HLn ?_; intro v3 w3 HO3 HB3 HG hat; refine hold ?_))
      unfold Hid
      rw [List.nil_append] at HO3
      have HFK := Aside0.mk (Kd.FK_below (doc_FK H2.out hc2) (below_then HB1.out HB1.out.size HB3.out))
      have HV3 : Aside0 (∀ k, v3.ownBlock = some k → w.heap.size ≤ k) := ⟨fun k hk => Nat.le_trans HB1.out.size (Kd.N_base HO3.out k hk)⟩
      have HL3 : Aside0 (l.length ≤ 100000000) := ⟨by omega⟩
      clear HO HFd HV HBA HLn HG hat
      go_wp2_with (first | (at_builtin; refine app_doc (w0 := w1) rfl (.tmp 24) (.tmp 26) rfl v3 l d A2 n2 c2 w.heap.size rfl rfl HO3 HFK HV3 HB3 HL3 ?_; intro v4 w4 HO4 HB4 HG4 hat4; refine hold ?_))
      unfold Hid
      have hlen4 : (l ++ [d]).length = n + 1 := by rw [List.length_append, HNL.out]; rfl
      obtain ⟨A4, c4, rfl, _, hC4⟩ := N_is HO4.out hlen4
      have hF2 : Fits (l ++ [d]) := by
        have h1 := HF.out.1
        have h2 := HF.out.2
        have hlf := Sf.lenF_append l [d]
        have hd1 : Sf.lenF [d] = d.length + 1 := by simp [Sf.lenF]
        have hdl := H2.out.1
        refine ⟨by omega, fun x hx => ?_, by omega, Sf.bytes_append h1.b HBy2.out⟩
        rcases List.mem_append.1 hx with h | h
        · exact h1.d x h
        · have := List.mem_singleton.1 h; subst this; omega
      have HF2 := Aside0.mk hF2
      have HC4 := Aside0.mk hC4
      clear HG4 hat4 HO3 HFK HV3 HL3 HB3 hF2 hC4 hlen4
      go_wp2_with fail
      refine (made_calls A4 (n + 1) c4 (l ++ [d]) _ HC4.out HF2.out).mono ?_
      rintro e w5 ⟨g2, rfl, hT5, hg5, hB5⟩
      have HT5 := Aside0.mk hT5
      have HB5 := Aside0.mk (below_then HB4.out HB4.out.size hB5)
      have HT15 := Aside0.mk (TextAt.below HT1.out HB5.out)
      clear hT5 hB5 hg5 HC4 HO4 HB4
      go_wp2_with fail
      have hrl := Sf.rowF_length l
      have hrl2 := Sf.rowF_length (l ++ [d])
      have HRL := Aside0.mk (And.intro hrl hrl2)
      clear hrl hrl2
      refine (array_calls g1 l _ HT15.out HF.out.1.b HF.out.1.n (by rw [HRL.out.1]; exact HF.out.1.t)).mono ?_
      rintro e w6 ⟨v6, a, rfl, hs6, hR6, hB6⟩
      have HS6 := Aside0.mk hs6
      have HR6 := Aside0.mk (R_low hR6 HB5.out)
      have HB6 := Aside0.mk (below_then HB5.out HB5.out.size hB6)
      have HT6 := Aside0.mk (TextAt.below HT5.out hB6)
      clear hs6 hR6 hB6 HB5 HT15 HT5
      go_wp2_with fail
      refine (array_calls g2 (l ++ [d]) _ HT6.out HF2.out.b HF2.out.n (by rw [HRL.out.2]; exact HF2.out.t)).mono ?_
      rintro e w7 ⟨v7, all, rfl, hs7, hR7, hB7⟩
      have HS7 := Aside0.mk hs7
      have HR7 := Aside0.mk (R_low hR7 HB6.out)
      have HB7 := Aside0.mk (below_then HB6.out HB6.out.size hB7)
      have HR67 := Aside0.mk (Kd.R_below HR6.out hB7)
      have HT7 := Aside0.mk (TextAt.below HT6.out hB7)
      have HT17 := Aside0.mk (TextAt.below HT1.out HB7.out)
      clear hs7 hR7 hB7 HB6 HT6 HR6
      go_wp2_with fail
      have hfin := Sf.more (Sf.bytes_append HBy.out HBy2.out) HS6.out HS7.out
      have hp7 := HS7.out.1
      rw [Sf.r0_length] at hp7
      have hl7 : all.length = Sf.lenF (l ++ [d]) := by have := hp7.length_eq; simpa using this
      have hp6 := HS6.out.1
      rw [Sf.r0_length] at hp6
      have hl6 : a.length = Sf.lenF l := by have := hp6.length_eq; simpa using this
      have hb7 : Sf.lenF (l ++ [d]) ≤ 60000 := HF2.out.t
      have hb6 : Sf.lenF l ≤ 60000 := HF.out.1.t
      have hal : ∀ p ∈ all, p < Sf.lenF (l ++ [d]) := fun p hp => (Sf.perm_range_mem hp7).1 hp
      obtain ⟨A6, c6, rfl, _, hC6⟩ := R_is HR67.out (show (Sf.ni a).length = Sf.lenF l by rw [Sf.ni_length, hl6])
      obtain ⟨A7, c7, rfl, _, hC7⟩ := R_is HR7.out (show (Sf.ni all).length = Sf.lenF (l ++ [d]) by rw [Sf.ni_length, hl7])
      have hm1 : ∃ m, Sf.lenF l = m := ⟨_, rfl⟩
      obtain ⟨L1, hL1⟩ := hm1
      obtain ⟨L2, hL2⟩ : ∃ m, Sf.lenF (l ++ [d]) = m := ⟨_, rfl⟩
      have HRL1 : Aside0 ((Sf.rowF l).length = L1 ∧ (Sf.rowF (l ++ [d])).length = L2) := ⟨by rw [HRL.out.1, HRL.out.2]; exact ⟨hL1, hL2⟩⟩
      rw [hL1] at hfin hl6 hb6 hC6 ⊢
      rw [hL2] at hl7 hb7 hal hC7 ⊢
      have HFIN := Aside0.mk hfin
      have HL7 := Aside0.mk hl7
      have HAL := Aside0.mk hal
      have HC6 := Aside0.mk hC6
      have HC7 := Aside0.mk hC7
      clear hfin hp7 hl7 hp6 hl6 hal hC6 hC7 hL1 hL2 HR67 HR7 HS6 HS7 HRL HF HF2
      obtain ⟨wb, hwb⟩ : ∃ wb : World, wb = w7 := ⟨_, rfl⟩
      have HLB := Aside0.mk (Below.refl w7.heap.size w7)
      go_loopw [8, 10] (fun v8 v10 w' => ∃ i : Nat, v10 = .int .i64 i ∧ Aside0 (i ≤ L2) ∧ Aside0 (Kd.R (Kd.int .i64) 3 w' w7.heap.size (fun _ => True) v8 (Sf.ni ((all.take i).filter (fun p => decide (p < L1))))) ∧ Aside0 (Below w7.heap.size w7 w')) (fun _ i _ => L2 - (intOf i).toNat)
      case atStart => exact ⟨0, rfl, ⟨Nat.zero_le _⟩, ⟨by simpa [Sf.ni] using Kd.R_nil _ _ _ _ _⟩, HLB⟩
      case round =>
        clear HLB hwb
        obtain ⟨i, rfl, HI, HO, HB⟩ := hrel
        by_cases hlt : i < L2
        · obtain ⟨_, e, hx⟩ := at_nat HC7.out HB.out i hlt
          cases e
          rw [Sf.ni_getD] at hx
          have hpb := HAL.out _ (Sf.getD_mem (show i < all.length by have := HL7.out; omega))
          obtain ⟨_, _, _, _, Ax, cx, _, _, ht2, _, _, _, _, _⟩ := (TextAt.below HT17.out HB.out).out
          rw [HRL1.out.1] at ht2
          have htk : (all.take (i + 1)).filter (fun p => decide (p < L1)) = (all.take i).filter (fun p => decide (p < L1)) ++ if all.getD i 0 < L1 then [all.getD i 0] else [] := by
            rw [List.take_succ_eq_append_getElem (by have := HL7.out; omega), List.filter_append, List.getD_eq_getElem?_getD, List.getElem?_eq_getElem (by have := HL7.out; omega)]
            simp only [Option.getD_some, List.filter_cons, List.filter_nil]
            congr 1
            by_cases h : all[i]'(by have := HL7.out; omega) < L1 <;> simp [h]
          have HTK := Aside0.mk htk
          clear htk
          have HLT : Aside0 ((Sf.ni ((all.take i).filter (fun p => decide (p < L1)))).length ≤ 100000000) := ⟨by
            rw [Sf.ni_length]
            have h1 := List.length_filter_le (fun p => decide (p < L1)) (all.take i)
            have h2 : (all.take i).length ≤ all.length := by simp; omega
            have := HL7.out; omega⟩
          have HBx := fun m => Aside0.mk (pw_below_drewN HB.out m)
          have HOx := fun m => Aside0.mk (Kd.R_drewN HO.out m)
          have hi1 : (0 : Int) ≤ (i : Int) := by omega
          have hi2 : (i : Int) < (L2 : Int) := by omega
          generalize all.getD i 0 = p at *
          by_cases hp : p < L1
          · rw [if_pos hp] at HTK
            clear HO HB
            go_wp2_with fail
            go_quiet (first | (go_at_call 19; exact quiet_same2 (len_calls g1 Ax L1 cx (wr.drewN _) ht2)))
            go_wp2_with (first | (at_builtin; refine app_i64 (w0 := w7) rfl (.tmp 52) (.tmp 57) rfl u8 _ _ rfl rfl (HOx _) (HBx _) HLT ?_; intro v2 w2 HO1 HB1 hg hat; clear hg hat HOx HBx))
            go_roundw
            case rel => exact ⟨i + 1, by go_num, ⟨by omega⟩, ⟨by rw [HTK.out, Sf.ni_append]; exact HO1.out⟩, HB1⟩
            case measure => simp [intOf]; omega
          · rw [if_neg hp, List.append_nil] at HTK
            clear HO HB
            go_wp2_with fail
            go_quiet (first | (go_at_call 19; exact quiet_same2 (len_calls g1 Ax L1 cx (wr.drewN _) ht2)))
            go_wp2_with fail
            go_roundw
            case rel => exact ⟨i + 1, by go_num, ⟨by omega⟩, ⟨by rw [HTK.out]; exact (HOx _).out⟩, HBx _⟩
            case measure => simp [intOf]; omega
        · have hj : i = L2 := by have := HI.out; omega
          subst hj
          clear hlt
          have htk : all.take i = all := List.take_of_length_le (by have := HL7.out; omega)
          rw [htk, HFIN.out] at HO
          obtain ⟨A8, c8, rfl, _, hC8⟩ := R_is HO.out rfl
          have HC8 := Aside0.mk hC8
          have HB1f := Aside0.mk (below_then HB1.out HB1.out.size (below_then HB7.out HB7.out.size HB.out))
          have HC6' := Aside0.mk (Kd.C_below HC6.out HB.out)
          obtain ⟨_, _, _, _, Ay, cy, _, _, ht2, _, _, _, _, _⟩ := (TextAt.below HT7.out HB.out).out
          rw [HRL1.out.2] at ht2
          clear hC8 htk HO
          go_wp2_with fail
          refine (sameInts_calls A6 L1 c6 _ A8 _ c8 _ _ HC6'.out HC8.out).mono ?_
          rintro e w9 ⟨rfl, hB9⟩
          rw [decide_eq_true rfl]
          replace ht2 := pw_cell_below hB9 ht2
          have HB9 := Aside0.mk (below_then HB1f.out HB1f.out.size hB9)
          clear hB9 HC6' HC8 HB1f
          go_wp2_with (first | (go_at_call 19; refine (len_calls g2 Ay i cy _ ht2).mono ?_; rintro e w' ⟨rfl, rfl⟩) | (go_at_call 16; refine (awake10_calls _).mono ?_; rintro e w10 ⟨rfl, hB10⟩; have HB10 := Aside0.mk (below_then HB9.out HB9.out.size hB10); clear hB10))
          go_ret
          exact ⟨rfl, HB10.out⟩
  · go_enter Try.func3, Try.ntmps3
    go_wp2_with fail
    refine (few_calls A n c l _ H.out).mono ?_
    rintro e w' ⟨⟨b, rfl, hfew⟩, rfl⟩
    clear hfew
    cases b <;>
    · go_wp2_with (first | (go_at_call 16; refine (awake10_calls _).mono ?_; rintro e w' ⟨rfl, hB⟩; have HB := Aside0.mk hB; clear hB))
      go_ret
      exact ⟨rfl, HB.out⟩
end Go.Proofs.Ytadekjidjhglaaa
namespace Go.Proofs.Ytadekjidjhglaaa
open Go.RowKit Go.Proofs.YtadekjidjhglaaaW.PrintWords
theorem more_row (A : Option Addr) (n c : Nat) (l : List (List Int)) (A2 : Option Addr) (n2 c2 : Nat) (d : List Int) (w : World)
    (h : Kd.C (Kd.slice 5 (Kd.int .u8)) w A n l) (hb : Sf.Bytes l) (h2 : Kd.C (Kd.int .u8) w A2 n2 d) (hb2 : ∀ x ∈ d, (Lit.int .u8 x).wf = true) (hc2 : n2 ≤ c2) :
    Calls Try.prog 3 #[.slice A n c, .slice A2 n2 c2] w fun e w' => e = .returned (.bool true) ∧ Below w.heap.size w w' :=
  more_walk A n c l A2 n2 c2 d w h hb h2 (fun x hx y hy => by
    have := List.mem_singleton.1 hx
    subst this
    exact u8_bounds (hb2 y hy)) hc2
end Go.Proofs.Ytadekjidjhglaaa
