/- Walk of the law BwtNear. -/
import Derived.Test.YtadekjidjhglaaaCg
import Derived.Test.YtadekjidjhglaaaRo
set_option linter.unusedVariables false
set_option linter.unusedSimpArgs false
namespace Go.Proofs.Ytadekjidjhglaaa
open Go.RowKit Go.Proofs.YtadekjidjhglaaaW.PrintWords Go.Proofs.YtadekjidjhglaaaW.PrintLast Go.Proofs.YtadekjidjhglaaaW.PrintMore

theorem mask16 (i : Int) : ∃ q : Nat, q ≤ 65535 ∧ bits BinOp.and IntKind.i64 i 65535 = (q : Int) := by
  refine ⟨(BitVec.ofInt 64 i &&& BitVec.ofInt 64 65535).toNat, ?_, ?_⟩
  · rw [BitVec.toNat_and]
    exact Nat.le_trans Nat.and_le_right (by decide)
  · have hx : (BitVec.ofInt 64 i &&& BitVec.ofInt 64 65535).toNat ≤ 65535 := by
      rw [BitVec.toNat_and]
      exact Nat.le_trans Nat.and_le_right (by decide)
    show IntKind.i64.wrap ((BitVec.ofInt 64 i &&& BitVec.ofInt 64 65535).toNat : Int) = _
    rw [IntKind.wrap_i64]
    omega
theorem mask_mod (i : Int) {N : Nat} (hN : ¬ N = 0) : ∃ q r : Nat, q ≤ 65535 ∧ r < N ∧ bits BinOp.and IntKind.i64 i 65535 = (q : Int) ∧ (q : Int).tmod (N : Int) = (r : Int) := by
  obtain ⟨q, h1, h2⟩ := mask16 i
  exact ⟨q, q % N, h1, Nat.mod_lt _ (by omega), h2, rfl⟩
theorem set_bounds {l : List Int} (h : ∀ x ∈ l, 0 ≤ x ∧ x ≤ 65535) (i : Nat) {y : Int} (hy : 0 ≤ y ∧ y ≤ 65535) : ∀ x ∈ l.set i y, 0 ≤ x ∧ x ≤ 65535 := fun x hx => by
  rcases List.mem_or_eq_of_mem_set hx with h1 | h1
  · exact h x h1
  · rw [h1]; exact hy
/-- A row of symbols of the call's own, as the law has it. -/
def NearAt (w : World) (g N c : Nat) (wx : World) : Prop := ∃ l : List Int, (l.length = N ∧ ∀ x ∈ l, 0 ≤ x ∧ x ≤ 65535) ∧ (Kd.int .u16).R 57 wx w.heap.size (fun _ => True) (.slice (some ⟨g, 0, none⟩) N c) l ∧ Below w.heap.size w wx

theorem near_two {w W : World} {g N c : Nat} {l : List Int} (hR : (Kd.int .u16).R 57 W w.heap.size (fun _ => True) (.slice (some ⟨g, 0, none⟩) N c) l) (hB : Below w.heap.size w W) (hl : l.length = N) (hb : ∀ x ∈ l, 0 ≤ x ∧ x ≤ 65535) (i k : Nat) {x y : Int} (hx : 0 ≤ x ∧ x ≤ 65535) (hy : 0 ≤ y ∧ y ≤ 65535) :
    NearAt w g N c (((W.setCell ⟨g, i, none⟩ (.int .u16 y)).setCell ⟨g, k, none⟩ (.int .u16 x)).drew) := by
  have hg := Kd.R_base hR g (by simp [Value.ownBlock])
  obtain ⟨p1, _⟩ := Kd.R_putg hR (i : Int) y
  obtain ⟨p2, _⟩ := Kd.R_putg p1 (k : Int) x
  rw [Int.toNat_natCast, Int.toNat_natCast] at p2
  exact ⟨_, ⟨by rw [List.length_set, List.length_set]; exact hl, set_bounds (set_bounds hb i hy) k hx⟩, Kd.R_drew p2, below_drew (below_set (below_set hB hg) hg)⟩
set_option maxRecDepth 100000 in
set_option maxHeartbeats 4000000 in
theorem near_walk (A : Option Addr) (n c : Nat) (ds : List (List Int)) (i k x : Int) (w : World) (h : Kd.C (Kd.slice 5 (Kd.int .u8)) w A n ds) (hb : Sf.Bytes ds) (hc : n ≤ c) (hx : 0 ≤ x ∧ x ≤ 65535) :
    Calls Try.prog 11 #[.slice A n c, .int .i64 i, .int .i64 k, .int .u16 x] w fun e w' => e = .returned (.bool true) ∧ Below w.heap.size w w' := by
  have H := Aside0.mk h
  have HL := Aside0.mk h.1
  have HBy := Aside0.mk hb
  clear h hb
  go_enter Try.func11, Try.ntmps11
  go_wp2_with fail
  refine (few_calls A n c ds _ H.out).mono ?_
  rintro e w' ⟨⟨b, rfl, hfew⟩, rfl⟩
  cases b with
  | false =>
    clear hfew
    go_wp2_with (first | (go_at_call 33; refine (awake11_calls _).mono ?_; rintro e w' ⟨rfl, hB⟩; have HB := Aside0.mk hB; clear hB))
    go_ret
    exact ⟨rfl, HB.out⟩
  | true =>
    have hfit := fits_few (hfew rfl) HBy.out
    have HF := Aside0.mk hfit.1
    have HLF := Aside0.mk hfit.2
    clear hfit hfew
    have hnb : n ≤ 500 := by rw [← HL.out]; exact HF.out.n
    go_wp2_with fail
    refine (strings_calls A n c ds _ H.out hc (by omega)).mono ?_
    rintro e w2 ⟨As, cs, rfl, hcs, hCs, hB2⟩
    have HCS := Aside0.mk hCs
    have HB2 := Aside0.mk hB2
    clear hCs hB2
    go_wp2_with fail
    refine (refBwt_calls ds HBy.out (by have := HLF.out; omega) As n cs hcs w2 HCS.out).mono ?_
    rintro e w3 ⟨v3, sa, rfl, hs, hR3, hB3⟩
    have HSL : Aside0 ((Sf.bwF (Sf.rowF ds) sa).length ≤ 3040) := ⟨by rw [Sf.bwF_length, Sf.SA_len hs, Sf.r0_length]; exact HLF.out⟩
    have HLB : Aside0 (∀ x ∈ Sf.bwF (Sf.rowF ds) sa, 0 ≤ x ∧ x ≤ 65535) := ⟨fun x hx => by have := Sf.bw_bounds HBy.out hs x hx; omega⟩
    generalize Sf.bwF (Sf.rowF ds) sa = l at *
    have HB3 := Aside0.mk (below_then HB2.out HB2.out.size hB3)
    have HR3 := Aside0.mk (R_low hR3 HB2.out)
    by_cases hN0 : l.length = 0
    · obtain ⟨A3, c3, rfl, hc3, hC3⟩ := R_is (n := 0) hR3 hN0
      clear hR3 hC3 HR3 hs hB3
      go_wp2_with (first | (go_at_call 33; refine (awake11_calls _).mono ?_; rintro e w' ⟨rfl, hB⟩; have HB := Aside0.mk (below_then HB3.out HB3.out.size hB); clear hB))
      go_ret
      exact ⟨rfl, HB.out⟩
    · obtain ⟨g3, c3, rfl, _, _, _⟩ := Kd.R_form hR3 (by omega)
      clear hR3 hs hB3 HCS HB2
      generalize hN : l.length = N at *
      have HN := Aside0.mk hN
      clear hN
      have hNb : N ≤ 3040 := HSL.out
      have hN1 : ((N : Int) == 0) = false := by have : ¬ (N : Int) = 0 := by omega
                                                simpa using this
      obtain ⟨qi, i2, hq1, hi2, hbi, hti⟩ := mask_mod i hN0
      obtain ⟨qk, k2, hq2, hk2, hbk, htk⟩ := mask_mod k hN0
      go_upto_region 6 with fail
      go_quiet (fail)
      clear hbi hti hbk htk hq1 hq2
      have HR4 := fun m => Aside0.mk (Kd.R_drewN HR3.out m)
      have HB4 := fun m => Aside0.mk (pw_below_drewN HB3.out m)
      clear HB3 HR3
      go_upto_region 7 with fail
      replace HR4 := HR4 nq
      replace HB4 := HB4 nq
      generalize w3.drewN nq = w4 at *
      have hN2 : (i2 : Int) < (N : Int) := by omega
      have hN3 : (k2 : Int) < (N : Int) := by omega
      go_cut [50] (fun s50 wx => Aside0 (NearAt w g3 N c3 wx))
      case first =>
        have hca := own_nat HR4 i2 hi2
        have hcb := own_nat HR4 k2 hk2
        have hfa := (Kd.R_celln 0 HR4.out (i2 : Int) (by omega) (by omega)).2
        have hfb := (Kd.R_celln 0 HR4.out (k2 : Int) (by omega) (by omega)).2
        rw [Int.toNat_natCast] at hfa hfb
        have hxb := HLB.out _ (Sf.mem_of_getD (d := l) (p := i2) (by rw [HN.out]; exact hi2))
        have hyb := HLB.out _ (Sf.mem_of_getD (d := l) (p := k2) (by rw [HN.out]; exact hk2))
        by_cases hik : i2 = k2
        · subst hik
          generalize l.getD i2 0 = x1 at *
          have HT := Aside0.mk (near_two HR4.out HB4.out HN.out HLB.out i2 i2 hxb hxb)
          clear HR4 HB4 HN HLB hxb hyb
          go_region
          all_goals (go_wp2_with fail; go_meet; exact HT)
        · have hki : ¬ k2 = i2 := fun h => hik h.symm
          generalize l.getD i2 0 = x1 at *
          generalize l.getD k2 0 = x2 at *
          have HT := Aside0.mk (near_two HR4.out HB4.out HN.out HLB.out i2 k2 hxb hyb)
          have HT2 := Aside0.mk (near_two HR4.out HB4.out HN.out HLB.out k2 i2 hyb hxb)
          clear HR4 HB4 HN HLB hxb hyb
          go_region
          all_goals (go_wp2_with fail; go_meet; first | exact HT | exact HT2)
      case rest =>
        clear HR4 HB4 HN HLB
        obtain ⟨l5, hl5, hR5, hB5⟩ := hcut.out
        have HR5 := Aside0.mk hR5
        have HB5 := Aside0.mk hB5
        have HL5 := Aside0.mk hl5
        have hgb := Kd.R_base hR5 g3 (by simp [Value.ownBlock])
        clear hR5 hB5 hl5 hcut
        go_upto_if 52 with (fail)
        go_cut [57] (fun s57 wx => Aside0 (NearAt w g3 N c3 wx))
        case first =>
          by_cases hx3 : x < 300
          · go_wp2_with (first | ((with_reducible refine gate_store (t := 57) (p := 56) rfl ?_); refine put_int (w0 := w) 57 size57 56 _ rfl rfl rfl rfl rfl HR5 HB5 hi2 ?_; intro w6 HR6 HB6 HG6; clear HG6))
            go_meet
            exact ⟨_, ⟨by rw [List.length_set]; exact HL5.out.1, set_bounds HL5.out.2 i2 hx⟩, HR6.out, HB6.out⟩
          · have hx3' : decide (x < 300) = false := decide_eq_false hx3
            go_wp2_with fail
            go_meet
            exact ⟨l5, HL5.out, HR5.out, HB5.out⟩
        case rest =>
          clear HR5 HB5 HL5
          obtain ⟨l6, hl6, hR6, hB6⟩ := hcut.out
          have HB6 := Aside0.mk hB6
          have HL6 := Aside0.mk hl6
          have hc6 : N ≤ c3 := (Kd.R_reads' hR6).2.1
          have HC6 := Aside0.mk (own_C hR6)
          clear hR6 hB6 hl6 hcut hgb hx
          go_wp2_with fail
          refine (docs_all _ N c3 l6 _ HC6.out hc6 (by omega) (fun x hx => (HL6.out.2 x hx).1)).mono ?_
          rintro e w7 ⟨hB7, E, ds7, A7, c7, rfl, hc7, hC7, hcode⟩
          have HCODE := Aside0.mk hcode
          have HCB := Aside0.mk (code_bytes hcode)
          have HC7 := Aside0.mk hC7
          have HC67 := Aside0.mk (Kd.C_below HC6.out hB7)
          have HB7 := Aside0.mk (below_then HB6.out HB6.out.size hB7)
          clear hB7 hC7 hcode HC6 HB6
          have hdl : ds7.length ≤ 500 := HCB.out.2
          generalize hD : ds7.length = D at *
          have HDE := Aside0.mk hD
          clear hD
          go_wp2_with fail
          refine (rdocs_all _ N c3 l6 _ HC67.out hc6 (by omega) (fun x hx => (HL6.out.2 x hx).1)).mono ?_
          rintro e w8 ⟨hB8, E2, ds2, A8, c8, rfl, hc8, hC8, hcode2⟩
          obtain ⟨e1, e2⟩ := code_unique hcode2 HCODE.out
          subst e1
          subst e2
          rw [HDE.out] at hC8 hc8 ⊢
          have HC8 := Aside0.mk hC8
          have HC78 := Aside0.mk (Kd.C_below HC7.out hB8)
          have HC68 := Aside0.mk (Kd.C_below HC67.out hB8)
          have HB8 := Aside0.mk (below_then HB7.out HB7.out.size hB8)
          clear hB8 hC8 hcode2 HC7 HB7 HC67
          have hEE : (E2 != E2) = false := by simp
          go_wp2_with fail
          refine (strings_calls A7 D c7 ds2 w8 HC78.out hc7 (by omega)).mono ?_
          rintro e w9 ⟨A9, c9, rfl, hc9, hC9, hB9⟩
          have HC9 := Aside0.mk hC9
          have HC89 := Aside0.mk (Kd.C_below HC8.out hB9)
          have HC79 := Aside0.mk (Kd.C_below HC78.out hB9)
          have HC69 := Aside0.mk (Kd.C_below HC68.out hB9)
          have HB9 := Aside0.mk (below_then HB8.out HB8.out.size hB9)
          clear hC9 hB9 HB8 HC8 HC78 HC68
          go_wp2_with fail
          refine (texts_calls A9 D c9 ds2 A8 D c8 ds2 w9 HC9.out hc9 HC89.out hc8 (by omega) HCB.out.1 HCB.out.1).mono ?_
          rintro e w10 ⟨rfl, hD10⟩
          rw [decide_eq_true rfl]
          have HC7a := Aside0.mk (Kd.C_below HC79.out hD10.below)
          have HC6a := Aside0.mk (Kd.C_below HC69.out hD10.below)
          have HB10 := Aside0.mk (below_then HB9.out HB9.out.size hD10.below)
          clear hD10 HB9 HC9 HC89 HC79 HC69 hEE
          by_cases hE : E2 = 0
          · subst hE
            have HIS : Aside0 (IsBwt l6 ds2) := ⟨by
              rcases HCODE.out with ⟨h1, _⟩ | ⟨h1, _⟩ | ⟨_, h2⟩
              · omega
              · omega
              · exact h2⟩
            go_wp2_with fail
            refine (new_calls A7 D c7 ds2 _ HC7a.out HDE.out (by omega) HIS.out.fits.d HIS.out.fits.t HIS.out.fits.b).mono ?_
            rintro e w11 ⟨g, rfl, hT, hg, hB11⟩
            have HT := Aside0.mk hT
            have HC6b := Aside0.mk (Kd.C_below HC6a.out hB11)
            have HB11 := Aside0.mk (below_then HB10.out HB10.out.size hB11)
            clear hT hg hB11 HB10 HC7a HC6a
            go_wp2_with fail
            refine (of_calls g ds2 w11 HT.out HIS.out.fits.b HIS.out.fits.n (by rw [Sf.rowF_length]; exact HIS.out.fits.t)).mono ?_
            rintro e w12 ⟨A12, n12, sa12, rfl, hs12, hC12, hn12, hB12⟩
            obtain ⟨sa', hs', he'⟩ := HIS.out.sa
            rw [Sf.SA_unique hs12 hs', he'] at hC12
            have hnn : n12 ≤ 1000000 := by rw [hn12, Sf.rowF_length]; have := HIS.out.fits.t; omega
            have HC12 := Aside0.mk hC12
            have HC6c := Aside0.mk (Kd.C_below HC6b.out hB12)
            have HB12 := Aside0.mk (below_then HB11.out HB11.out.size hB12)
            clear hs12 hC12 hB12 hs' he' HB11 HC6b HT hn12
            go_wp2_with fail
            refine (syms_calls A12 n12 n12 l6 _ N c3 l6 w12 HC12.out (Nat.le_refl _) HC6c.out hc6 hnn).mono ?_
            rintro e w13 ⟨rfl, hD13⟩
            rw [decide_eq_true rfl]
            have HB13 := Aside0.mk (below_then HB12.out HB12.out.size hD13.below)
            clear hD13 HB12 HC12 HC6c
            go_wp2_with (first | (go_at_call 33; refine (awake11_calls _).mono ?_; rintro e w14 ⟨rfl, hB14⟩; have HB14 := Aside0.mk (below_then HB13.out HB13.out.size hB14); clear hB14))
            go_ret
            exact ⟨rfl, HB14.out⟩
          · have hEn : (E2 != 0) = true := by simpa using hE
            have hEz : (E2 == 0) = false := by simpa using hE
            have HOK := Aside0.mk (ok_all _ N c3 l6 E2 ds2 w10 HC6a.out hc6 (by omega) (fun x hx => (HL6.out.2 x hx).1) HCODE.out)
            rw [hEz] at HOK
            go_wp2_with (first | (go_at_call 42; refine HOK.out.mono ?_; rintro e w11 ⟨rfl, hB11⟩; have HB11 := Aside0.mk (below_then HB10.out HB10.out.size hB11); clear hB11) | (go_at_call 33; refine (awake11_calls _).mono ?_; rintro e w14 ⟨rfl, hB14⟩; have HB14 := Aside0.mk (below_then HB11.out HB11.out.size hB14); clear hB14))
            go_ret
            exact ⟨rfl, HB14.out⟩
theorem near_row (A : Option Addr) (n c : Nat) (ds : List (List Int)) (i k x : Int) (w : World) (h : Kd.C (Kd.slice 5 (Kd.int .u8)) w A n ds) (hb : Sf.Bytes ds) (hc : n ≤ c) (_ : (Lit.int .i64 i).wf = true) (_ : (Lit.int .i64 k).wf = true) (hx : (Lit.int .u16 x).wf = true) :
    Calls Try.prog 11 #[.slice A n c, .int .i64 i, .int .i64 k, .int .u16 x] w fun e w' => e = .returned (.bool true) ∧ Below w.heap.size w w' := near_walk A n c ds i k x w h hb hc (u16_bounds hx)
end Go.Proofs.Ytadekjidjhglaaa
