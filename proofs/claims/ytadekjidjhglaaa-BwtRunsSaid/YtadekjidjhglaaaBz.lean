/- Walks: bwt.read. -/
import Derived.Test.YtadekjidjhglaaaBw
import Derived.Test.YtadekjidjhglaaaBh
import Derived.Test.YtadekjidjhglaaaSn
set_option linter.unusedVariables false
set_option linter.unusedSimpArgs false
namespace Go.Proofs.Ytadekjidjhglaaa
open Go.RowKit Go.Proofs.YtadekjidjhglaaaW.PrintWords Go.Proofs.YtadekjidjhglaaaW.PrintLast Go.Proofs.YtadekjidjhglaaaW.PrintMore

theorem index58 {xs : List Int} (hx : xs.length = 257) (i : Nat) (hi : i < 257) (W : World) : (Instr.index 58 (.agg (nums .i64 xs).toArray) (.int .i64 (i : Int))).run Try.prog W = .ok (.int .i64 (xs.getD i 0)) W := by
  have h1 : (i : Int) < 257 := by omega
  have h2 : (0 : Int) ≤ (i : Int) := by omega
  have e : (nums .i64 xs)[i]? = some (.int .i64 (xs[i]?.getD 0)) := by
    simp [nums, List.getElem?_eq_getElem (show i < xs.length by omega)]
  simp [Instr.index, run_underlying Try.underlying58, asIntOf, h1, h2, go_sem]
  rw [if_pos hi, e]
  rfl
theorem index_starts (l : List Int) {c : Nat} (hc : c < 257) (W : World) : (Instr.index 58 (startsV l) (.int .i64 (c : Int))).run Try.prog W = .ok (.int .i64 (Sf.belowC l (c : Int) : Int)) W := by
  unfold startsV
  rw [index58 (startsL_length l) c hc, startsL_at l hc]
section
variable {ops : Array Oper} {rest : List Oper} {o : Oper} {a : Act} {Q : Exit → Act → World → Prop}
/-- append(v, d): a document in memory of the call's own. -/
theorem app_part {w0 wr W : World} (hgd : o.guard = none) (s x : Operand) (ho : o.op = .call { callee := .builtin .append, args := #[s, x], argTypes := #[22, 22] })
    (v : Value) (xs : List (List Int)) (d : List Int) (A : Option Addr) (n c : Nat) (hs : a.eval s = v) (hx : a.eval x = .slice (some ⟨W.heap.size, 0, none⟩) 1 1)
    (HO : Aside0 ((part 5 .u8).R 23 W w0.heap.size (fun _ => True) v xs)) (HM : Aside0 ((part 5 .u8).M W wr.heap.size (fun _ => True) d [.slice A n c])) (hv : Aside0 (∀ k, v.ownBlock = some k → k < wr.heap.size)) (hle : Aside0 (w0.heap.size ≤ wr.heap.size)) (HB : Aside0 (Below w0.heap.size w0 W)) (hl : Aside0 (xs.length ≤ 100000000))
    (h : ∀ v1 w1, Aside0 ((part 5 .u8).R 23 w1 w0.heap.size (fun _ => True) v1 (xs ++ [d])) → Aside0 (Below w0.heap.size w0 w1) → Aside0 (W.grownBy w1 v.ownBlock) → wpList Try.prog ops Q rest (a.put o.dst v1) w1) :
    wpList Try.prog ops Q (o :: rest) a (W.alloc (.cells #[.slice A n c] 23)) := by
  refine Kd.R_append (part 5 .u8) (w0 := w0) w0.heap.size hgd s x 22 23 (.slice none 0 0) 24 ho Try.underlying22 info23 rfl (by decide) (by omega) v xs d [.slice A n c] (fun _ => True) (fun k => wr.heap.size ≤ k) hs hx (doc_M HM.out hle.out) (fun k hk => ⟨trivial, fun e => by have := hv.out k e.symm; omega⟩) (fun _ _ => trivial) HO.out HB.out HB.out.size ?_ (fun v1 w1 h1 h2 h3 h4 => h v1 w1 ⟨h1⟩ ⟨h2⟩ ⟨h3⟩)
  have := hl.out
  omega
end
/-- What read answers. -/
def ReadEnd (l : List Int) (w : World) (e : Ending) (w' : World) : Prop := Below w.heap.size w w' ∧ ∃ (v : Value) (ok : Bool), e = .returned (.tuple #[v, .bool ok]) ∧
  (ok = false → ∀ ds, Sf.PreF l (Sf.belowC l 1) ds → (∀ d ∈ ds, d.length ≤ 2000) → Sf.lenF ds = l.length → False) ∧
  (ok = true → ∃ ds A c, Sf.PreF l (Sf.belowC l 1) ds ∧ (∀ d ∈ ds, d.length ≤ 2000) ∧ Sf.lenF ds = l.length ∧ v = .slice A ds.length c ∧ ds.length ≤ c ∧ c ≤ 9223372036854775807 ∧ Kd.C (Kd.slice 5 (Kd.int .u8)) w' A ds.length ds)
theorem read_bad {l : List Int} {w w' : World} (hB : Below w.heap.size w w') (v : Value) (h : ∀ ds, Sf.PreF l (Sf.belowC l 1) ds → (∀ d ∈ ds, d.length ≤ 2000) → Sf.lenF ds = l.length → False) : ReadEnd l w (.returned (.tuple #[v, .bool false])) w' :=
  ⟨hB, v, false, rfl, fun _ => h, fun h => by cases h⟩
def slen : Value → Nat
  | .slice _ n _ => n
  | _ => 0
theorem lenF_le {ds : List (List Int)} (h : ∀ d ∈ ds, d.length ≤ 2000) : Sf.lenF ds ≤ 2001 * ds.length := by
  induction ds with
  | nil => simp [Sf.lenF]
  | cons d ds ih =>
    have h1 := ih (fun d hd => h d (List.mem_cons_of_mem _ hd))
    have h2 := h d (List.mem_cons_self ..)
    simp only [Sf.lenF, List.length_cons]
    omega
theorem steps_at (l : List Int) {i : Nat} (h : i < l.length) (h0 : l.getD i 0 ≠ 0) : (Sf.stepsL l).getD i 0 = (Sf.nextF l i : Int) := by
  unfold Sf.stepsL
  rw [List.getD_eq_getElem?_getD, List.getElem?_map, List.getElem?_range h]
  show Sf.stepF l i = _
  unfold Sf.stepF
  rw [if_neg h0]

set_option maxRecDepth 100000 in
set_option maxHeartbeats 1000000 in
theorem read_calls (A : Option Addr) (n c : Nat) (l : List Int) (w : World) (h : Kd.C (Kd.int .u16) w A n l) (hl : ∀ x ∈ l, 0 ≤ x ∧ x ≤ 256) (hn : n ≤ 60500) :
    Calls Try.prog 63 #[.slice A n c] w fun e w' => ReadEnd l w e w' := by
  have H := Aside0.mk h
  have HLN := Aside0.mk h.1
  have HLB := Aside0.mk hl
  clear h hl
  have hix : ∀ W, (Instr.index 58 (startsV l) (.int .i64 1)).run Try.prog W = .ok (.int .i64 (Sf.belowC l 1 : Int)) W := fun W => index_starts l (c := 1) (by omega) W
  have HZ : Aside0 (Sf.belowC l 1 ≤ n) := ⟨by rw [← HLN.out]; exact belowC_le l 1⟩
  generalize hz : Sf.belowC l 1 = z at *
  have HZZ := Aside0.mk hz
  clear hz
  go_enter Try.func63, Try.ntmps63
  go_wp2_with (first | (go_at_call 77; refine (steps_calls A n c l _ H.out HLB.out (by omega)).mono ?_; rintro e w1 ⟨A4, c4, rfl, hc4, hC4, hB⟩; have HTO := Aside0.mk hC4; have HB1 := Aside0.mk hB; clear hC4 hB hc4) | (go_at_call 36; refine (starts_calls A n c l _ (Kd.C_below H.out HB1.out) (fun x hx => by have := HLB.out x hx; omega) (by omega)).mono ?_; rintro e w2 ⟨rfl, hB⟩; have HTO2 := Aside0.mk (Kd.C_below HTO.out hB); have HB2 := Aside0.mk (below_then HB1.out HB1.out.size hB); clear hB HB1 HTO))
  clear hix
  have HP0 := Aside0.mk (Sf.pre_nil l)
  have HO0 : Aside0 ((part 5 .u8).R 23 w2 w2.heap.size (fun _ => True) (.slice none 0 0) []) := ⟨Kd.R_nil _ _ _ _ _⟩
  go_loopw [5, 6, 7] (fun v5 v6 v7 w' => ∃ (j : Nat) (L : Int) (ds : List (List Int)), v7 = .int .i64 j ∧ v5 = .int .i64 L ∧ Aside0 (L = (n : Int) - (Sf.lenF ds : Int)) ∧ Aside0 (Sf.PreF l j ds) ∧ Aside0 ((∀ d ∈ ds, d.length ≤ 2000) ∧ j ≤ z) ∧ Aside0 ((part 5 .u8).R 23 w' w2.heap.size (fun _ => True) v6 ds) ∧ Aside0 (Below w2.heap.size w2 w')) (fun _ _ v7 _ => z - (intOf v7).toNat)
  case atStart => exact ⟨0, _, [], rfl, rfl, ⟨by simp [Sf.lenF]⟩, HP0, ⟨fun d hd => by simp at hd, Nat.zero_le _⟩, HO0, ⟨Below.refl _ _⟩⟩
  case round =>
    clear HP0 HO0
    obtain ⟨j, L, ds, rfl, rfl, HL, HP, HD, HO, HB⟩ := hrel
    have hLb : -200000000 ≤ L ∧ L ≤ 60500 := by
      have h1 := lenF_le HD.out.1
      have h2 := HP.out.n
      have h3 := HD.out.2
      have h4 := HZ.out
      have := HL.out
      omega
    have hzb : z ≤ 60500 := by have := HZ.out; omega
    by_cases hlt : j < z
    · have hjl : j < l.length := by have := HZ.out; have := HLN.out; omega
      have HW0 := Aside0.mk (below_then HB2.out HB2.out.size HB.out)
      have HTO3 := Aside0.mk (Kd.C_below HTO2.out HB.out)
      have HO9 : Aside0 ((Kd.int .u8).R 5 wr wr.heap.size (fun _ => True) (.slice none 0 0) (Sf.curF l j 0)) := ⟨Kd.R_nil _ _ _ _ _⟩
      have HJL := Aside0.mk hjl
      clear hjl
      obtain ⟨wo, hwo⟩ : ∃ wo : World, wo = wr := ⟨_, rfl⟩
      go_wp2_with fail
      go_loopw [9, 10] (fun v9 v10 w' => ∃ (k i : Nat) (A9 : Option Addr) (c9 : Nat), v9 = .slice A9 k c9 ∧ v10 = .int .i64 i ∧ Aside0 (i = Sf.pathF l j k) ∧ Aside0 (k ≤ 2000 ∧ ∀ t, t < k → l.getD (Sf.pathF l j t) 0 ≠ 0) ∧ Aside0 ((Kd.int .u8).R 5 w' wo.heap.size (fun _ => True) v9 (Sf.curF l j k)) ∧ Aside0 (Below wo.heap.size wo w')) (fun v9 _ _ => 2001 - slen v9)
      case atStart => exact ⟨0, j, none, 0, rfl, rfl, ⟨rfl⟩, ⟨Nat.zero_le _, fun t ht => absurd ht (Nat.not_lt_zero _)⟩, by rw [hwo]; exact HO9, ⟨by rw [hwo]; exact Below.refl _ _⟩⟩
      case round =>
        rw [← hwo] at HO HW0 HTO3 HB
        clear HO9 hwo
        obtain ⟨k, i, A9, c9, rfl, rfl, HI, HK, HO9, HB9⟩ := hrel
        have hil : i < l.length := by rw [HI.out]; exact Sf.path_lt HJL.out k
        have hin : i < n := by rw [← HLN.out]; exact hil
        obtain ⟨ad, e, hx⟩ := at_nat H.out (below_then HW0.out HW0.out.size HB9.out) i hin
        cases e
        obtain ⟨ad4, e, hx4⟩ := at_nat HTO3.out HB9.out i hin
        cases e
        have hb := HLB.out (l.getD i 0) (Sf.mem_of_getD hil)
        have hcs := Sf.cur_succ l j k
        rw [← HI.out] at hcs
        have HCS := Aside0.mk hcs
        have HCL := Aside0.mk (Sf.cur_length l j k)
        have HHL : Aside0 ((Sf.curF l j k).length ≤ 100000000) := ⟨by rw [HCL.out]; have := HK.out.1; omega⟩
        have hk2 := HK.out.1
        by_cases h0 : l.getD i 0 = 0
        · have h0' : l.getD (Sf.pathF l j k) 0 = 0 := by rw [← HI.out]; exact h0
          have HCH := Aside0.mk (Sf.cur_chain h0')
          have HBY := Aside0.mk (Sf.byte1_reverse (Sf.cur_byte HJL.out HLB.out HK.out.2))
          have HRL : Aside0 ((Sf.curF l j k).reverse.length = k) := ⟨by rw [List.length_reverse, HCL.out]⟩
          have hk9 : k ≤ c9 := (Kd.R_reads' HO9.out).2.1
          have hm9 := own_cap HO9.out
          have HRF := Aside0.mk (Sf.rev_f (Sf.curF l j k) (by rw [HCL.out]; omega))
          have HV := Aside0.mk (Kd.R_lt HO.out)
          have HLE := Aside0.mk HB.out.size
          have HDL : Aside0 (ds.length ≤ 100000000) := ⟨by rw [HP.out.n]; have := HZ.out; omega⟩
          rw [h0] at hx
          clear h0 h0' hcs hx4 hb
          go_wp2_with (first | (go_at_call 78; refine (slices_Reverse_byte_byte.calls _ (fun _ => True) _ _ _ wo _ HB9.out HO9.out HRF.out).mono ?_; rintro e w5 ⟨rfl, hR, hB, _⟩; have HR5 := Aside0.mk (Kd.R_mono (ok' := fun _ => True) hR (fun _ _ => trivial)); have HB5 := Aside0.mk hB; have HBW := Aside0.mk (below_then HB.out HB.out.size hB); have HO5 := Aside0.mk (Kd.R_below HO.out hB); clear hR hB HO9 HB9) | (go_at_call 79; refine (clip_u8 A9 k c9 _ hk9 hm9).mono ?_; rintro e w' ⟨rfl, rfl⟩; have HM := Aside0.mk (part_of_R HR5.out (Nat.le_refl k))) | (at_builtin; refine app_part (w0 := w2) (wr := wo) rfl (.tmp 58) (.tmp 61) rfl u6 _ _ _ _ _ rfl rfl HO5 HM HV HLE HBW HDL ?_; intro v6 w6 HO6 HB6 HG6; clear HO5 HBW HM HG6))
          go_roundw
          case rel => exact ⟨j + 1, _, _, by go_num, rfl, ⟨by rw [Sf.lenF_snoc, HRL.out, HL.out]; omega⟩, ⟨Sf.pre_snoc HP.out HBY.out HCH.out⟩, ⟨fun d hd => by
            rcases List.mem_append.1 hd with hd | hd
            · exact HD.out.1 d hd
            · rw [List.mem_singleton.1 hd, HRL.out]; exact hk2, by omega⟩, HO6, HB6⟩
          case measure => simp [intOf]; omega
        · have hst := steps_at l hil h0
          rw [hst] at hx4
          have hnx : Sf.nextF l i = Sf.pathF l j (k + 1) := by rw [HI.out]; rfl
          have HNX := Aside0.mk hnx
          have HST := Aside0.mk hst
          have HK1 : Aside0 (∀ t, t < k + 1 → l.getD (Sf.pathF l j t) 0 ≠ 0) := ⟨fun t ht => by
            by_cases e : t = k
            · subst e; rw [← HI.out]; exact h0
            · exact HK.out.2 t (by omega)⟩
          clear hst hnx hcs
          generalize l.getD i 0 = x at *
          generalize Sf.nextF l i = i2 at *
          have hx0 : (x : Int) > 0 := by omega
          clear h0
          have HBAD : Aside0 ((k + 1 > 2000 ∨ ((k + 1 : Nat) : Int) ≥ L) → ∀ ds, Sf.PreF l (Sf.belowC l 1) ds → (∀ d ∈ ds, d.length ≤ 2000) → Sf.lenF ds = l.length → False) := ⟨fun hor ds' hp' hd' hl' => by
            rw [HZZ.out] at hp'
            obtain ⟨⟨d, hd, hkd⟩, hlen⟩ := Sf.read_stop (k := k) HP.out hlt (fun t ht => HK1.out t (by omega)) hp'
            have h1 := hd' d hd
            have h2 := HL.out
            have h3 := HLN.out
            omega⟩
          obtain ⟨k1, hk1⟩ : ∃ k1, k1 = k + 1 := ⟨_, rfl⟩
          rw [← hk1] at HBAD HNX HK1 HCS
          have HKE := Aside0.mk hk1
          have hk1b : k1 ≤ 2001 := by omega
          clear hk1
          by_cases hgt : 2000 < k1
          · go_wp2_with (first | (at_builtin; refine app_u8 rfl _ _ rfl _ _ _ rfl rfl HO9 HB9 HHL ?_; intro v4 w4 HO1 HB1 HG hat; clear hat HO9 HB9 HG; obtain ⟨A1, c1, rfl, hc1, _⟩ := R_is (n := k1) HO1.out (by rw [List.length_append, HCL.out, HKE.out]; rfl); obtain ⟨_, e5, hx5⟩ := at_nat HTO3.out HB1.out i hin; cases e5; rw [HST.out] at hx5))
            go_ret2
            exact read_bad (below_then HW0.out HW0.out.size HB1.out) _ (HBAD.out (.inl (by omega)))
          · by_cases hge : (k1 : Int) ≥ L
            · go_wp2_with (first | (at_builtin; refine app_u8 rfl _ _ rfl _ _ _ rfl rfl HO9 HB9 HHL ?_; intro v4 w4 HO1 HB1 HG hat; clear hat HO9 HB9 HG; obtain ⟨A1, c1, rfl, hc1, _⟩ := R_is (n := k1) HO1.out (by rw [List.length_append, HCL.out, HKE.out]; rfl); obtain ⟨_, e5, hx5⟩ := at_nat HTO3.out HB1.out i hin; cases e5; rw [HST.out] at hx5))
              go_ret2
              exact read_bad (below_then HW0.out HW0.out.size HB1.out) _ (HBAD.out (.inr hge))
            · clear hx4
              go_wp2_with (first | (at_builtin; refine app_u8 rfl _ _ rfl _ _ _ rfl rfl HO9 HB9 HHL ?_; intro v4 w4 HO1 HB1 HG hat; clear hat HO9 HB9 HG; obtain ⟨A1, c1, rfl, hc1, _⟩ := R_is (n := k1) HO1.out (by rw [List.length_append, HCL.out, HKE.out]; rfl); obtain ⟨_, e5, hx5⟩ := at_nat HTO3.out HB1.out i hin; cases e5; rw [HST.out] at hx5))
              go_roundw
              case rel => exact ⟨k1, i2, A1, c1, rfl, rfl, HNX, ⟨by omega, HK1.out⟩, ⟨by rw [HCS.out]; exact HO1.out⟩, HB1⟩
              case measure => simp [slen]; have := HKE.out; omega
    · have hj : j = z := by have := HD.out.2; omega
      obtain ⟨A6, c6, rfl, hc6, hC6⟩ := R_is (n := ds.length) HO.out rfl
      have hcap := own_cap HO.out
      have HC6 := Aside0.mk (part_C hC6)
      have HWE := Aside0.mk (below_then HB2.out HB2.out.size HB.out)
      have HCC := Aside0.mk (And.intro hc6 hcap)
      have HJZ := Aside0.mk hj
      clear hC6 hc6 hcap hj
      by_cases hL0 : L = 0
      · subst hL0
        go_wp2_with fail
        go_ret2
        exact ⟨HWE.out, _, true, rfl, (fun h => by cases h), fun _ => ⟨ds, A6, c6, by rw [HZZ.out, ← HJZ.out]; exact HP.out, HD.out.1, by have := HL.out; have := HLN.out; omega, rfl, HCC.out.1, HCC.out.2, HC6.out⟩⟩
      · have hLe : (L == 0) = false := by simpa using hL0
        go_wp2_with fail
        go_ret2
        exact read_bad HWE.out _ (fun ds' hp' hd' hl' => by
          rw [HZZ.out, ← HJZ.out] at hp'
          have e := Sf.pre_unique HP.out hp'
          subst e
          have := HL.out
          have := HLN.out
          omega)
end Go.Proofs.Ytadekjidjhglaaa
