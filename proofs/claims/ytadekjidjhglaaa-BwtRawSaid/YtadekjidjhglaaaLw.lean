/- Walk of the law BwtRaw. -/
import Derived.Test.YtadekjidjhglaaaCg
import Derived.Test.YtadekjidjhglaaaRo
import Derived.StillTail
set_option linter.unusedVariables false
set_option linter.unusedSimpArgs false
namespace Go.Proofs.Ytadekjidjhglaaa
open Go.RowKit Go.Proofs.YtadekjidjhglaaaW.PrintWords Go.Proofs.YtadekjidjhglaaaW.PrintLast Go.Proofs.YtadekjidjhglaaaW.PrintMore

/-- The head of a region that reads alone, step by step. -/
structure SW (P : Program) (ops : Array Oper) (w : World) (Q : Act → Prop) (l : List Oper) (a : Act) : Prop where mk :: (out : wpStill P ops w Q l a)
section
variable {P : Program} {ops : Array Oper} {w : World} {Q : Act → Prop} {a : Act} {o : Oper} {rest : List Oper}
theorem SW.skip (h : Region.wanted o (yielded ops a.tmps) = false) (hn : SW P ops w Q rest (a.put o.dst undef)) : SW P ops w Q (o :: rest) a := by
  constructor
  unfold wpStill
  rw [h]
  exact hn.out
theorem SW.val (v : Value) (h : Region.wanted o (yielded ops a.tmps) = true) (hr : (execOp a.eval o).run P w = .ok (.value v) w) (hn : SW P ops w Q rest (a.put o.dst v)) : SW P ops w Q (o :: rest) a := by
  constructor
  unfold wpStill
  rw [h, if_pos rfl]
  unfold Oper.still
  rw [hr]
  exact ⟨rfl, hn.out⟩
theorem SW.nil (h : Q a) : SW P ops w Q [] a := ⟨h⟩
end
set_option maxRecDepth 100000 in
set_option maxHeartbeats 4000000 in
theorem raw_walk (A : Option Addr) (n c : Nat) (l : List Int) (i : Int) (w : World) (h : Kd.C (Kd.int .u16) w A n l) (hl : ∀ x ∈ l, 0 ≤ x ∧ x ≤ 65535) (hc : n ≤ c) (hi : -9223372036854775808 ≤ i ∧ i ≤ 9223372036854775807) :
    Calls Try.prog 12 #[.slice A n c, .int .i64 i] w fun e w' => e = .returned (.bool true) ∧ Below w.heap.size w w' := by
  have H := Aside0.mk h
  have HLN := Aside0.mk h.1
  have HLB := Aside0.mk hl
  clear h hl
  by_cases hn : n ≤ 300
  · go_enter Try.func12, Try.ntmps12
    go_wp2_with fail
    refine (docs_all A n c l _ H.out hc (by omega) (fun x hx => (HLB.out x hx).1)).mono ?_
    rintro e w1 ⟨hB1, E, ds, A1, c1, rfl, hc1, hC1, hcode⟩
    have HCODE := Aside0.mk hcode
    have HCB := Aside0.mk (code_bytes hcode)
    have HC1 := Aside0.mk hC1
    have HB1 := Aside0.mk hB1
    clear hB1 hC1 hcode
    have hdl : ds.length ≤ 500 := HCB.out.2
    generalize hD : ds.length = D at *
    have HDE := Aside0.mk hD
    clear hD
    go_wp2_with fail
    refine (rdocs_all A n c l _ (Kd.C_below H.out HB1.out) hc (by omega) (fun x hx => (HLB.out x hx).1)).mono ?_
    rintro e w2 ⟨hB2, E2, ds2, A2, c2, rfl, hc2, hC2, hcode2⟩
    obtain ⟨e1, e2⟩ := code_unique hcode2 HCODE.out
    subst e1
    subst e2
    rw [HDE.out] at hC2 hc2 ⊢
    have HC2 := Aside0.mk hC2
    have HC12 := Aside0.mk (Kd.C_below HC1.out hB2)
    have HB2 := Aside0.mk (below_then HB1.out HB1.out.size hB2)
    clear hB2 hC2 hcode2 HC1 HB1
    have hEE : (E2 != E2) = false := by simp
    go_wp2_with fail
    refine (strings_calls A1 D c1 ds2 w2 HC12.out hc1 (by omega)).mono ?_
    rintro e w3 ⟨A3, c3, rfl, hc3, hC3, hB3⟩
    have HC3 := Aside0.mk hC3
    have HC23 := Aside0.mk (Kd.C_below HC2.out hB3)
    have HB3 := Aside0.mk (below_then HB2.out HB2.out.size hB3)
    clear hC3 hB3 HB2 HC2 HC12
    go_wp2_with fail
    refine (texts_calls A3 D c3 ds2 A2 D c2 ds2 w3 HC3.out hc3 HC23.out hc2 (by omega) HCB.out.1 HCB.out.1).mono ?_
    rintro e w4 ⟨rfl, hD4⟩
    rw [decide_eq_true rfl]
    have HB4 := Aside0.mk (below_then HB3.out HB3.out.size hD4.below)
    clear hD4 HB3 HC3 HC23
    go_wp2_with fail
    refine (ok_all A n c l E2 ds2 w4 (Kd.C_below H.out HB4.out) hc (by omega) (fun x hx => (HLB.out x hx).1) HCODE.out).mono ?_
    rintro e w5 ⟨rfl, hB5⟩
    have HB5 := Aside0.mk (below_then HB4.out HB4.out.size hB5)
    clear hB5 HB4
    have hbb : ((E2 == 0) != (E2 == 0)) = false := by simp
    go_wp2_with fail
    refine (starts_calls A n c l _ (Kd.C_below H.out HB5.out) HLB.out (by omega)).mono ?_
    rintro e w6 ⟨rfl, hB6⟩
    have HB6 := Aside0.mk (below_then HB5.out HB5.out.size hB6)
    clear hB6 HB5
    go_upto_region 8 with (first | ((with_reducible refine gate_store (t := 58) (p := 9) rfl ?_); refine store_event rfl rfl rfl (store_run rfl rfl rfl (store_new l)) ?_; rintro w7 rfl))
    have HAT := Aside0.mk (arr_mk (xs := startsL l) HB6.out (startsL_length l))
    have HB7 := Aside0.mk (below_alloc HB6.out (.cells (nums .i64 (startsL l)).toArray 58))
    generalize w6.alloc (.cells (nums .i64 (startsL l)).toArray 58) = W2 at *
    generalize w6.heap.size = g at *
    go_wp2_with fail
    refine (rstarts_calls A n c l _ (Kd.C_below H.out HB7.out) hc (by omega) HLB.out).mono ?_
    rintro e w8 ⟨A8, c8, rfl, hC8, hB8⟩
    have HC8 := Aside0.mk hC8
    have HAT8 := Aside0.mk (Kd.R_below HAT.out hB8)
    have HB8 := Aside0.mk (below_then HB7.out HB7.out.size hB8)
    clear hC8 hB8 HAT HB7
    go_wp2_with fail
    go_loopw [11] (fun v11 w' => ∃ k : Nat, v11 = .int .i64 k ∧ Aside0 (k ≤ 257) ∧ Aside0 (Below w8.heap.size w8 w')) (fun v11 _ => 257 - (intOf v11).toNat)
    case atStart => exact ⟨0, rfl, ⟨by omega⟩, ⟨Below.refl _ _⟩⟩
    case round =>
      obtain ⟨k, rfl, HK, HB⟩ := hrel
      by_cases hlt : k < 257
      · have hx1 := own_nat ⟨Kd.R_below HAT8.out HB.out⟩ k hlt
        obtain ⟨ad8, e, hx2⟩ := at_nat HC8.out HB.out k hlt
        cases e
        generalize (startsL l).getD k 0 = x at *
        have hxx : (x != x) = false := by simp
        have hk2 : (k : Int) < 257 := by omega
        go_upto_region 12 with fail
        go_quiet (fail)
        go_wp2_with fail
        go_roundw
        case rel => exact ⟨k + 1, by go_num, ⟨by omega⟩, ⟨pw_below_drewN HB.out _⟩⟩
        case measure => simp [intOf]; omega
      · have HW := Aside0.mk (below_then HB8.out HB8.out.size HB.out)
        have HCW := Aside0.mk (Kd.C_below HC8.out HB.out)
        have hk3 : ¬ ((k : Int) < 257) := by omega
        clear HK hlt
        by_cases hbad : i < 0 ∨ (n : Int) ≤ i ∨ l.getD i.toNat 0 = 0 ∨ 256 < l.getD i.toNat 0
        · have HSB := Aside0.mk (fun (W : World) (hB : Below w.heap.size w W) => step_bad A n c l i W (Kd.C_below H.out hB) (by omega) HLB.out hi hbad)
          by_cases h0 : i < 0
          · have h0' : decide (i ≥ 0) = false := decide_eq_false (by omega)
            clear hbad
            go_wp2_with (first | (go_at_call 45; refine (HSB.out _ HW.out).mono ?_; rintro e w9 ⟨rfl, rfl⟩))
            clear hi
            refine wp_region_still_tail 23 (by kernel_rfl) (by kernel_rfl) (SW.out ?_)
            simp only [List.take_succ_cons, List.take_zero, List.drop_succ_cons, List.drop_zero]
            refine SW.val (.bool false) (by kernel_rfl) (by kernel_rfl) ?_
            go_simp
            refine SW.val (.bool true) (by kernel_rfl) (by kernel_rfl) ?_
            go_simp
            refine SW.val (.bool true) (by kernel_rfl) (by kernel_rfl) ?_
            go_simp
            iterate 18 (refine SW.skip (by kernel_rfl) ?_; go_simp)
            refine SW.val (.bool true) (by kernel_rfl) (by kernel_rfl) ?_
            go_simp
            refine SW.val (.bool true) (by kernel_rfl) (by kernel_rfl) ?_
            go_simp
            refine SW.nil ?_
            have HWd := Aside0.mk (below_then HW.out HW.out.size (below_drew (Below.refl wr.heap.size wr)))
            go_wp2_with (first | (go_at_call 33; refine (awake11_calls _).mono ?_; rintro e w10 ⟨rfl, hB10⟩; have HB10 := Aside0.mk (below_then HWd.out HWd.out.size hB10); clear hB10))
            go_ret
            exact ⟨rfl, HB10.out⟩
          · by_cases h1 : (n : Int) ≤ i
            · have h1' : decide (i < (n : Int)) = false := decide_eq_false (by omega)
              clear hbad
              go_wp2_with (first | (go_at_call 45; refine (HSB.out _ HW.out).mono ?_; rintro e w9 ⟨rfl, rfl⟩))
              clear hi
              refine wp_region_still_tail 23 (by kernel_rfl) (by kernel_rfl) (SW.out ?_)
              simp only [List.take_succ_cons, List.take_zero, List.drop_succ_cons, List.drop_zero]
              refine SW.val (.bool false) (by kernel_rfl) (by kernel_rfl) ?_
              go_simp
              refine SW.val (.bool true) (by kernel_rfl) (by kernel_rfl) ?_
              go_simp
              refine SW.val (.bool true) (by kernel_rfl) (by kernel_rfl) ?_
              go_simp
              iterate 18 (refine SW.skip (by kernel_rfl) ?_; go_simp)
              refine SW.val (.bool true) (by kernel_rfl) (by kernel_rfl) ?_
              go_simp
              refine SW.val (.bool true) (by kernel_rfl) (by kernel_rfl) ?_
              go_simp
              refine SW.nil ?_
              have HWd := Aside0.mk (below_then HW.out HW.out.size (below_drew (Below.refl wr.heap.size wr)))
              go_wp2_with (first | (go_at_call 33; refine (awake11_calls _).mono ?_; rintro e w10 ⟨rfl, hB10⟩; have HB10 := Aside0.mk (below_then HWd.out HWd.out.size hB10); clear hB10))
              go_ret
              exact ⟨rfl, HB10.out⟩
            · obtain ⟨k, rfl⟩ := Int.eq_ofNat_of_zero_le (show 0 ≤ i by omega)
              have hk : k < n := by omega
              rw [Int.toNat_natCast] at hbad
              obtain ⟨ad, e, hx⟩ := at_nat H.out HW.out k hk
              cases e
              have hxb := HLB.out _ (Sf.mem_of_getD (d := l) (p := k) (by rw [HLN.out]; exact hk))
              by_cases hx0 : l.getD k 0 = 0
              · rw [hx0] at hx
                clear hbad hxb hx0
                go_wp2_with (first | (go_at_call 45; refine (HSB.out _ HW.out).mono ?_; rintro e w9 ⟨rfl, rfl⟩))
                clear hi
                refine wp_region_still_tail 23 (by kernel_rfl) (by kernel_rfl) (SW.out ?_)
                simp only [List.take_succ_cons, List.take_zero, List.drop_succ_cons, List.drop_zero]
                refine SW.val (.bool false) (by kernel_rfl) (by kernel_rfl) ?_
                go_simp
                refine SW.val (.bool true) (by kernel_rfl) (by kernel_rfl) ?_
                go_simp
                refine SW.val (.bool true) (by kernel_rfl) (by kernel_rfl) ?_
                go_simp
                iterate 18 (refine SW.skip (by kernel_rfl) ?_; go_simp)
                refine SW.val (.bool true) (by kernel_rfl) (by kernel_rfl) ?_
                go_simp
                refine SW.val (.bool true) (by kernel_rfl) (by kernel_rfl) ?_
                go_simp
                refine SW.nil ?_
                have HWd := Aside0.mk (below_then HW.out HW.out.size (below_drew (Below.refl wr.heap.size wr)))
                go_wp2_with (first | (go_at_call 33; refine (awake11_calls _).mono ?_; rintro e w10 ⟨rfl, hB10⟩; have HB10 := Aside0.mk (below_then HWd.out HWd.out.size hB10); clear hB10))
                go_ret
                exact ⟨rfl, HB10.out⟩
              · have hx2 : 256 < l.getD k 0 := by omega
                generalize l.getD k 0 = x at *
                have hx3 : x > 0 := by omega
                have hx4 : decide (x ≤ 256) = false := decide_eq_false (by omega)
                clear hbad hxb hx0
                go_wp2_with (first | (go_at_call 45; refine (HSB.out _ HW.out).mono ?_; rintro e w9 ⟨rfl, rfl⟩))
                clear hi
                refine wp_region_still_tail 23 (by kernel_rfl) (by kernel_rfl) (SW.out ?_)
                simp only [List.take_succ_cons, List.take_zero, List.drop_succ_cons, List.drop_zero]
                refine SW.val (.bool false) (by kernel_rfl) (by kernel_rfl) ?_
                go_simp
                refine SW.val (.bool true) (by kernel_rfl) (by kernel_rfl) ?_
                go_simp
                refine SW.val (.bool true) (by kernel_rfl) (by kernel_rfl) ?_
                go_simp
                iterate 18 (refine SW.skip (by kernel_rfl) ?_; go_simp)
                refine SW.val (.bool true) (by kernel_rfl) (by kernel_rfl) ?_
                go_simp
                refine SW.val (.bool true) (by kernel_rfl) (by kernel_rfl) ?_
                go_simp
                refine SW.nil ?_
                have HWd := Aside0.mk (below_then HW.out HW.out.size (below_drew (Below.refl wr.heap.size wr)))
                go_wp2_with (first | (go_at_call 33; refine (awake11_calls _).mono ?_; rintro e w10 ⟨rfl, hB10⟩; have HB10 := Aside0.mk (below_then HWd.out HWd.out.size hB10); clear hB10))
                go_ret
                exact ⟨rfl, HB10.out⟩
        · obtain ⟨k, rfl⟩ := Int.eq_ofNat_of_zero_le (show 0 ≤ i by omega)
          rw [Int.toNat_natCast] at hbad
          have hk : k < n := by omega
          have hx0 : l.getD k 0 ≠ 0 := by omega
          have hx1 : l.getD k 0 ≤ 256 := by omega
          have HSG := Aside0.mk (fun (W : World) (hB : Below w.heap.size w W) => step_calls A n c l k W (Kd.C_below H.out hB) hc (by omega) HLB.out hk hx0 hx1)
          obtain ⟨ad, e, hx⟩ := at_nat H.out HW.out k hk
          cases e
          have hbz := belowC_le l (l.getD k 0)
          have hsz := Sf.sameC_le l (l.getD k 0) k
          have HNX : Aside0 (Sf.nextF l k = Sf.belowC l (l.getD k 0) + Sf.sameC l (l.getD k 0) k) := ⟨rfl⟩
          have hxb := HLB.out _ (Sf.mem_of_getD (d := l) (p := k) (by rw [HLN.out]; exact hk))
          obtain ⟨x, hxe⟩ := Int.eq_ofNat_of_zero_le hxb.1
          rw [hxe] at hx hx0 hx1 hbz hsz HNX
          have hxk : x < 257 := by omega
          have hxp : (x : Int) > 0 := by omega
          have hxq : (x : Int) ≤ 256 := by omega
          obtain ⟨ad8, e, hx8⟩ := at_nat HCW.out (Below.refl _ _) x hxk
          cases e
          rw [startsL_at l hxk] at hx8
          clear hxe hxb hbad hi hx0 hx1
          have hln := HLN.out
          have hnx := HNX.out
          have hbz2 : Sf.belowC l (x : Int) ≤ 300 := by omega
          have hnxb : Sf.nextF l k ≤ 700 := by omega
          have HRK := Aside0.mk (fun (W : World) (hB : Below w.heap.size w W) => rank_calls (some ad) n c l (x : Int) (k : Int) W (Kd.C_below H.out hB) hc (by omega) HLB.out)
          rw [Int.toNat_natCast] at HRK
          have hsum : IntKind.i64.wrap ((Sf.belowC l (x : Int) : Int) + (Sf.sameC l (x : Int) k : Int)) = (Sf.nextF l k : Int) := by rw [IntKind.wrap_i64]; omega
          generalize Sf.nextF l k = nx at *
          generalize Sf.belowC l (x : Int) = z1 at *
          generalize Sf.sameC l (x : Int) k = z2 at *
          clear hln hnx hbz hsz hbz2 HNX
          go_wp2_with (first | (go_at_call 45; refine (HSG.out _ HW.out).mono ?_; rintro e w9 ⟨rfl, hB9⟩; have HW9 := Aside0.mk (below_then HW.out HW.out.size hB9); replace hx := pw_cell_below hB9 hx; replace hx8 := pw_cell_below hB9 hx8; clear hB9))
          have hi1 : (0 : Int) ≤ (x : Int) := by omega
          have hi2 : (x : Int) < 257 := by omega
          have hi3 : (0 : Int) ≤ (k : Int) := by omega
          have hi4 : (k : Int) < (n : Int) := by omega
          have hwx : IntKind.i64.wrap (x : Int) = (x : Int) := by rw [IntKind.wrap_i64]; omega
          go_region_held3 (fun w' => w'.cell? (ad.add k) = some (.int .u16 (x : Int)) ∧ w'.cell? (ad8.add x) = some (.int .i64 (z1 : Int)))
            (first | exact ⟨hx, hx8⟩ | exact ⟨pw_cell_below hB11 hx, pw_cell_below hB11 hx8⟩)
            (first | (go_at_call 37; refine (HRK.out _ (by first | exact HW9.out | exact pw_below_drewN HW9.out _ | exact below_drew HW9.out)).mono ?_; rintro e w10 ⟨rfl, ⟨m10, rfl⟩⟩) | (go_at_call 33; refine (awake11_calls _).mono ?_; rintro e w11 ⟨rfl, hB11⟩))
          all_goals
            have HB11 := Aside0.mk (below_then HW9.out HW9.out.size (below_then (pw_below_drewN (Below.refl w9.heap.size w9) _) (Nat.le_refl _) hB11))
            clear hB11
            go_wp2_with fail
            go_ret
            exact ⟨rfl, HB11.out⟩
  · go_enter Try.func12, Try.ntmps12
    go_wp2_with (first | (go_at_call 33; refine (awake11_calls _).mono ?_; rintro e w' ⟨rfl, hB⟩; have HB := Aside0.mk hB; clear hB))
    go_ret
    exact ⟨rfl, HB.out⟩
theorem raw_row (A : Option Addr) (n c : Nat) (l : List Int) (i : Int) (w : World) (h : Kd.C (Kd.int .u16) w A n l) (hl : ∀ x ∈ l, (Lit.int .u16 x).wf = true) (hc : n ≤ c) (hi : (Lit.int .i64 i).wf = true) :
    Calls Try.prog 12 #[.slice A n c, .int .i64 i] w fun e w' => e = .returned (.bool true) ∧ Below w.heap.size w w' := raw_walk A n c l i w h (fun x hx => u16_bounds (hl x hx)) hc (bounds_i64 hi)
end Go.Proofs.Ytadekjidjhglaaa
