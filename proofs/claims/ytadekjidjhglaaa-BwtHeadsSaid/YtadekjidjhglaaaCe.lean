/- Walks: the reference's Bwt. -/
import Derived.Test.YtadekjidjhglaaaCa
import Derived.Test.YtadekjidjhglaaaBm
set_option linter.unusedVariables false
set_option linter.unusedSimpArgs false
namespace Go.Proofs.Ytadekjidjhglaaa.Sf
open Go.RowKit Go.Proofs.YtadekjidjhglaaaW.PrintWords
theorem str_at_bt {d : List Int} (hb : Byte1 d) {k : Nat} (hk : k < d.length) : ∀ h : k < (strOfNums d).size, (((strOfNums d)[k]'h).toNat : Int) = d.getD k 0 := by
  intro h
  have h2 : (strOfNums d)[k]'h = (strOfNums d).data.toList[k]'(by rw [strOfNums_data]; simpa using hk) := by
    rw [Array.getElem_toList]; rfl
  have h3 : (strOfNums d).data.toList[k]'(by rw [strOfNums_data]; simpa using hk) = (d.map fun n => UInt8.ofNat n.toNat)[k]'(by simpa using hk) := by
    congr 1
  rw [h2, h3, List.getElem_map, List.getD_eq_getElem?_getD, List.getElem?_eq_getElem hk]
  have hc := hb _ (List.getElem_mem hk)
  simp only [UInt8.toNat_ofNat', Option.getD_some]
  omega
end Go.Proofs.Ytadekjidjhglaaa.Sf
namespace Go.Proofs.Ytadekjidjhglaaa
open Go.RowKit Go.Proofs.YtadekjidjhglaaaW.PrintWords Go.Proofs.YtadekjidjhglaaaW.PrintLast Go.Proofs.YtadekjidjhglaaaW.PrintMore

set_option maxRecDepth 100000 in
set_option maxHeartbeats 1000000 in
theorem refBwt_calls (ds : List (List Int)) (hb : Sf.Bytes ds) (hbig : Sf.lenF ds ≤ 1000000) (A0 : Option Addr) (m c0 : Nat) (hm : m ≤ c0) (w : World) (h0 : Kd.C Kd.string w A0 m (Sf.strsF ds)) :
    Calls Try.prog 34 #[.slice A0 m c0] w fun e w' => ∃ v sa, e = .returned v ∧ Sf.SA (Sf.r0 ds) sa ∧ Kd.R (Kd.int .u16) 57 w' w.heap.size (fun _ => True) v (Sf.bwF (Sf.rowF ds) sa) ∧ Below w.heap.size w w' := by
  have H0 := Aside0.mk h0
  have hl3 : ds.length = m := by rw [← Sf.strsF_length]; exact h0.1
  have HM := Aside0.mk hl3
  have HBy := Aside0.mk hb
  clear h0 hl3
  go_enter Try.func34, Try.ntmps34
  go_wp2_with fail
  refine (rows_calls ds hb hbig A0 m c0 hm _ H0.out).mono ?_
  rintro e w1 ⟨A, c, r, rfl, hc, hC, hS, hB⟩
  have HC1 := Aside0.mk hC
  have HS := Aside0.mk hS
  have HB := Aside0.mk hB
  have HL := Aside0.mk (HC_len hC)
  have HSA := Aside0.mk (Sf.SA_of_hits hb hS.1 hS.2)
  have HO := Aside0.mk (Kd.R_nil (Kd.int .u16) 57 w1 w.heap.size (fun _ => True))
  clear hC hS hB hb
  have hbig2 := hbig
  generalize hn : Sf.lenF ds = n at *
  have HBL : Aside0 ((Sf.bwF (Sf.rowF ds) (r.map (Sf.placeF ds))).length = n) := ⟨by rw [Sf.bwF_length, List.length_map, HL.out]⟩
  have HNN := Aside0.mk hn
  clear hn
  go_wp2_with fail
  go_loopw [4, 5, 6] (fun v4 v5 v6 w' => ∃ i : Nat, v5 = .int .i64 i ∧ Aside0 (i ≤ n) ∧ Aside0 (Kd.R (Kd.int .u16) 57 w' w1.heap.size (fun _ => True) v4 ((Sf.bwF (Sf.rowF ds) (r.map (Sf.placeF ds))).take i)) ∧ Aside0 (Below w1.heap.size w1 w')) (fun _ v5 _ _ => n - (intOf v5).toNat)
  case atStart => exact ⟨0, rfl, ⟨Nat.zero_le _⟩, ⟨Kd.R_nil _ _ _ _ _⟩, ⟨Below.refl _ _⟩⟩
  case round =>
    clear HO
    obtain ⟨i, rfl, HI, HO, HBq⟩ := hrel
    by_cases hlt : i < n
    · obtain ⟨ad, e, hx1, hx2⟩ := HC_at HC1.out HBq.out hlt
      cases e
      have hin : r.getD i (0, 0) ∈ Sf.hitsF 0 ds := HS.out.1.subset (by have := HL.out; rw [List.getD_eq_getElem?_getD, List.getElem?_eq_getElem (by omega)]; exact List.getElem_mem _)
      have hbd := Sf.hit_bounds hin
      have HT := Aside0.mk (Sf.take_snoc (Sf.bwF (Sf.rowF ds) (r.map (Sf.placeF ds))) (p := i) (by rw [HBL.out]; exact hlt))
      have hat := Sf.bwF_at (Sf.rowF ds) (sa := r.map (Sf.placeF ds)) (i := i) (by rw [List.length_map, HL.out]; exact hlt)
      have hpl : (r.map (Sf.placeF ds)).getD i 0 = Sf.startF ds (r.getD i (0, 0)).1 + (r.getD i (0, 0)).2 := by
        rw [List.getD_eq_getElem?_getD, List.getElem?_map, List.getD_eq_getElem?_getD, List.getElem?_eq_getElem (by have := HL.out; omega)]
        rfl
      rw [hpl, Sf.ah_doc ds hbd.1 hbd.2] at hat
      rw [hat] at HT
      have HLE : Aside0 (((Sf.bwF (Sf.rowF ds) (r.map (Sf.placeF ds))).take i).length ≤ 100000000) := ⟨by rw [List.length_take]; omega⟩
      clear hat hpl hin
      generalize r.getD i (0, 0) = p at *
      by_cases hp0 : p.2 = 0
      · rw [if_pos hp0] at HT
        rw [hp0] at hx2
        go_wp2_with (first | (at_builtin; refine app_u16 (w0 := w1) rfl (.tmp 38) (.tmp 40) rfl u4 _ _ rfl rfl HO HBq HLE ?_; intro v2 w2 HO1 HB1 hg hat; clear hg hat HO HBq))
        exact ⟨⟨i + 1, by go_num, ⟨by omega⟩, ⟨by rw [HT.out]; exact HO1.out⟩, HB1⟩, by simp [intOf]; omega⟩
      · rw [if_neg hp0] at HT
        have hpos : (p.2 : Int) > 0 := by omega
        obtain ⟨ad0, e, hs1⟩ := str_at H0.out (below_then HB.out HB.out.size HBq.out) (i := p.1) (by have := HM.out; omega)
        cases e
        have hpm : p.1 < m := by have := HM.out; omega
        have hcb := Sf.byte1_doc HBy.out p.1 ((Sf.docF ds p.1).getD (p.2 - 1) 0) (Sf.mem_of_getD (by omega))
        have hsb := Sf.str_at_bt (Sf.byte1_doc HBy.out p.1) (k := p.2 - 1) (by omega)
        have hz2 : p.2 - 1 < (strOfNums (Sf.docF ds p.1)).size := by rw [strOfNums_size]; omega
        generalize (Sf.docF ds p.1).getD (p.2 - 1) 0 = x at *
        have hpb : p.2 ≤ 1000000 := by
          have h1 := Sf.startF_succ ds hbd.1
          have h2 := Sf.startF_le ds (p.1 + 1)
          have h3 := HNN.out
          omega
        obtain ⟨k, hk⟩ : ∃ k, p.2 = k + 1 := ⟨p.2 - 1, by omega⟩
        rw [hk] at hx2 hpos hsb hz2
        rw [show k + 1 - 1 = k by omega] at hsb hz2
        have hw1 : IntKind.i64.wrap (((k + 1 : Nat) : Int) - 1) = (k : Int) := by rw [IntKind.wrap_i64]; omega
        have hz3 : (k : Int) < ((strOfNums (Sf.docF ds p.1)).size : Int) := by omega
        have hw2 : IntKind.u16.wrap (x + 1) = x + 1 := by rw [IntKind.wrap_u16]; omega
        have hw3 : IntKind.u16.wrap x = x := by rw [IntKind.wrap_u16]; omega
        clear hk hp0 hpb
        generalize hk1 : k + 1 = k1 at *
        clear hk1
        generalize strOfNums (Sf.docF ds p.1) = sx at *
        go_upto_region 8 with fail
        go_quiet (fail)
        go_wp2_with (first | (at_builtin; refine app_u16 (w0 := w1) rfl (.tmp 38) (.tmp 40) rfl u4 _ _ rfl rfl ⟨Kd.R_drewN HO.out _⟩ ⟨pw_below_drewN HBq.out _⟩ HLE ?_; intro v2 w2 HO1 HB1 hg hat; clear hg hat HO HBq))
        exact ⟨⟨i + 1, by go_num, ⟨by omega⟩, ⟨by rw [HT.out]; exact HO1.out⟩, HB1⟩, by simp [intOf]; omega⟩
    · have hj : i = n := by have := HI.out; omega
      have hfu : (Sf.bwF (Sf.rowF ds) (r.map (Sf.placeF ds))).take i = Sf.bwF (Sf.rowF ds) (r.map (Sf.placeF ds)) := List.take_of_length_le (by rw [HBL.out]; omega)
      rw [hfu] at HO
      clear hfu hj
      go_wp2_with fail
      go_ret
      exact ⟨_, r.map (Sf.placeF ds), rfl, HSA.out, R_low HO.out HB.out, below_then HB.out HB.out.size HBq.out⟩
end Go.Proofs.Ytadekjidjhglaaa
