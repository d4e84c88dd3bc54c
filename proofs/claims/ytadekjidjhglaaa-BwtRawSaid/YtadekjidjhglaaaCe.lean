/- Walks: the reference's Bwt. Walks: the reference's Docs. -/
import Derived.Test.YtadekjidjhglaaaCa
import Derived.Test.YtadekjidjhglaaaBm
set_option linter.unusedVariables false
set_option linter.unusedSimpArgs false
namespace Go.Proofs.Ytadekjidjhglaaa.Sf
open Go.RowKit Go.Proofs.YtadekjidjhglaaaW.PrintWords
theorem str_at_bt {d : List Int} (hb : Byte1 d) {k : Nat} (hk : k < d.length) : ∀ h : k < (strOfNums d).size, (((strOfNums d)[k]'h).toNat : Int) = d.getD k 0 := by
  intro h
  have h2 : (strOfNums d)[k]'h = (strOfNums d).data.toList[k]'(by rw [strOfNums_data]; simpa using hk) := by
    rw [Array.getElem_toList]; rfl
  have h3 : (strOfNums d).data.toList[k]'(by rw [strOfNums_data]; simpa using hk) = (d.map fun n => UInt8.ofNat n.toNat)[k]'(by simpa using hk) := by
    congr 1
  rw [h2, h3, List.getElem_map, List.getD_eq_getElem?_getD, List.getElem?_eq_getElem hk]
  have hc := hb _ (List.getElem_mem hk)
  simp only [UInt8.toNat_ofNat', Option.getD_some]
  omega
end Go.Proofs.Ytadekjidjhglaaa.Sf
namespace Go.Proofs.Ytadekjidjhglaaa
open Go.RowKit Go.Proofs.YtadekjidjhglaaaW.PrintWords Go.Proofs.YtadekjidjhglaaaW.PrintLast Go.Proofs.YtadekjidjhglaaaW.PrintMore

set_option maxRecDepth 100000 in
set_option maxHeartbeats 1000000 in
theorem refBwt_calls (ds : List (List Int)) (hb : Sf.Bytes ds) (hbig : Sf.lenF ds ≤ 1000000) (A0 : Option Addr) (m c0 : Nat) (hm : m ≤ c0) (w : World) (h0 : Kd.C Kd.string w A0 m (Sf.strsF ds)) :
    Calls Try.prog 34 #[.slice A0 m c0] w fun e w' => ∃ v sa, e = .returned v ∧ Sf.SA (Sf.r0 ds) sa ∧ Kd.R (Kd.int .u16) 57 w' w.heap.size (fun _ => True) v (Sf.bwF (Sf.rowF ds) sa) ∧ Below w.heap.size w w' := by
  have H0 := Aside0.mk h0
  have hl3 : ds.length = m := by rw [← Sf.strsF_length]; exact h0.1
  have HM := Aside0.mk hl3
  have HBy := Aside0.mk hb
  clear h0 hl3
  go_enter Try.func34, Try.ntmps34
  go_wp2_with fail
  refine (rows_calls ds hb hbig A0 m c0 hm _ H0.out).mono ?_
  rintro e w1 ⟨A, c, r, rfl, hc, hC, hS, hB⟩
  have HC1 := Aside0.mk hC
  have HS := Aside0.mk hS
  have HB := Aside0.mk hB
  have HL := Aside0.mk (HC_len hC)
  have HSA := Aside0.mk (Sf.SA_of_hits hb hS.1 hS.2)
  have HO := Aside0.mk (Kd.R_nil (Kd.int .u16) 57 w1 w.heap.size (fun _ => True))
  clear hC hS hB hb
  have hbig2 := hbig
  generalize hn : Sf.lenF ds = n at *
  have HBL : Aside0 ((Sf.bwF (Sf.rowF ds) (r.map (Sf.placeF ds))).length = n) := ⟨by rw [Sf.bwF_length, List.length_map, HL.out]⟩
  have HNN := Aside0.mk hn
  clear hn
  go_wp2_with fail
  go_loopw [4, 5, 6] (fun v4 v5 v6 w' => ∃ i : Nat, v5 = .int .i64 i ∧ Aside0 (i ≤ n) ∧ Aside0 (Kd.R (Kd.int .u16) 57 w' w1.heap.size (fun _ => True) v4 ((Sf.bwF (Sf.rowF ds) (r.map (Sf.placeF ds))).take i)) ∧ Aside0 (Below w1.heap.size w1 w')) (fun _ v5 _ _ => n - (intOf v5).toNat)
  case atStart => exact ⟨0, rfl, ⟨Nat.zero_le _⟩, ⟨Kd.R_nil _ _ _ _ _⟩, ⟨Below.refl _ _⟩⟩
  case round =>
    clear HO
    obtain ⟨i, rfl, HI, HO, HBq⟩ := hrel
    by_cases hlt : i < n
    · obtain ⟨ad, e, hx1, hx2⟩ := HC_at HC1.out HBq.out hlt
      cases e
      have hin : r.getD i (0, 0) ∈ Sf.hitsF 0 ds := HS.out.1.subset (by have := HL.out; rw [List.getD_eq_getElem?_getD, List.getElem?_eq_getElem (by omega)]; exact List.getElem_mem _)
      have hbd := Sf.hit_bounds hin
      have HT := Aside0.mk (Sf.take_snoc (Sf.bwF (Sf.rowF ds) (r.map (Sf.placeF ds))) (p := i) (by rw [HBL.out]; exact hlt))
      have hat := Sf.bwF_at (Sf.rowF ds) (sa := r.map (Sf.placeF ds)) (i := i) (by rw [List.length_map, HL.out]; exact hlt)
      have hpl : (r.map (Sf.placeF ds)).getD i 0 = Sf.startF ds (r.getD i (0, 0)).1 + (r.getD i (0, 0)).2 := by
        rw [List.getD_eq_getElem?_getD, List.getElem?_map, List.getD_eq_getElem?_getD, List.getElem?_eq_getElem (by have := HL.out; omega)]
        rfl
      rw [hpl, Sf.ah_doc ds hbd.1 hbd.2] at hat
      rw [hat] at HT
      have HLE : Aside0 (((Sf.bwF (Sf.rowF ds) (r.map (Sf.placeF ds))).take i).length ≤ 100000000) := ⟨by rw [List.length_take]; omega⟩
      clear hat hpl hin
      generalize r.getD i (0, 0) = p at *
      by_cases hp0 : p.2 = 0
      · rw [if_pos hp0] at HT
        rw [hp0] at hx2
        go_wp2_with (first | (at_builtin; refine app_u16 (w0 := w1) rfl (.tmp 38) (.tmp 40) rfl u4 _ _ rfl rfl HO HBq HLE ?_; intro v2 w2 HO1 HB1 hg hat; clear hg hat HO HBq))
        exact ⟨⟨i + 1, by go_num, ⟨by omega⟩, ⟨by rw [HT.out]; exact HO1.out⟩, HB1⟩, by simp [intOf]; omega⟩
      · rw [if_neg hp0] at HT
        have hpos : (p.2 : Int) > 0 := by omega
        obtain ⟨ad0, e, hs1⟩ := str_at H0.out (below_then HB.out HB.out.size HBq.out) (i := p.1) (by have := HM.out; omega)
        cases e
        have hpm : p.1 < m := by have := HM.out; omega
        have hcb := Sf.byte1_doc HBy.out p.1 ((Sf.docF ds p.1).getD (p.2 - 1) 0) (Sf.mem_of_getD (by omega))
        have hsb := Sf.str_at_bt (Sf.byte1_doc HBy.out p.1) (k := p.2 - 1) (by omega)
        have hz2 : p.2 - 1 < (strOfNums (Sf.docF ds p.1)).size := by rw [strOfNums_size]; omega
        generalize (Sf.docF ds p.1).getD (p.2 - 1) 0 = x at *
        have hpb : p.2 ≤ 1000000 := by
          have h1 := Sf.startF_succ ds hbd.1
          have h2 := Sf.startF_le ds (p.1 + 1)
          have h3 := HNN.out
          omega
        obtain ⟨k, hk⟩ : ∃ k, p.2 = k + 1 := ⟨p.2 - 1, by omega⟩
        rw [hk] at hx2 hpos hsb hz2
        rw [show k + 1 - 1 = k by omega] at hsb hz2
        have hw1 : IntKind.i64.wrap (((k + 1 : Nat) : Int) - 1) = (k : Int) := by rw [IntKind.wrap_i64]; omega
        have hz3 : (k : Int) < ((strOfNums (Sf.docF ds p.1)).size : Int) := by omega
        have hw2 : IntKind.u16.wrap (x + 1) = x + 1 := by rw [IntKind.wrap_u16]; omega
        have hw3 : IntKind.u16.wrap x = x := by rw [IntKind.wrap_u16]; omega
        clear hk hp0 hpb
        generalize hk1 : k + 1 = k1 at *
        clear hk1
        generalize strOfNums (Sf.docF ds p.1) = sx at *
        go_upto_region 8 with fail
        go_quiet (fail)
        go_wp2_with (first | (at_builtin; refine app_u16 (w0 := w1) rfl (.tmp 38) (.tmp 40) rfl u4 _ _ rfl rfl ⟨Kd.R_drewN HO.out _⟩ ⟨pw_below_drewN HBq.out _⟩ HLE ?_; intro v2 w2 HO1 HB1 hg hat; clear hg hat HO HBq))
        exact ⟨⟨i + 1, by go_num, ⟨by omega⟩, ⟨by rw [HT.out]; exact HO1.out⟩, HB1⟩, by simp [intOf]; omega⟩
    · have hj : i = n := by have := HI.out; omega
      have hfu : (Sf.bwF (Sf.rowF ds) (r.map (Sf.placeF ds))).take i = Sf.bwF (Sf.rowF ds) (r.map (Sf.placeF ds)) := List.take_of_length_le (by rw [HBL.out]; omega)
      rw [hfu] at HO
      clear hfu hj
      go_wp2_with fail
      go_ret
      exact ⟨_, r.map (Sf.placeF ds), rfl, HSA.out, R_low HO.out HB.out, below_then HB.out HB.out.size HBq.out⟩
end Go.Proofs.Ytadekjidjhglaaa
set_option linter.unusedVariables false
set_option linter.unusedSimpArgs false
namespace Go.Proofs.Ytadekjidjhglaaa
open Go.RowKit Go.Proofs.YtadekjidjhglaaaW.PrintWords Go.Proofs.YtadekjidjhglaaaW.PrintLast Go.Proofs.YtadekjidjhglaaaW.PrintMore

section
variable {ops : Array Oper} {rest : List Oper} {o : Oper} {a : Act} {Q : Exit → Act → World → Prop}
theorem app_str {w0 W : World} (hgd : o.guard = none) (s x : Operand) (ho : o.op = .call { callee := .builtin .append, args := #[s, x], argTypes := #[34, 34] })
    (v : Value) (xs : List ByteArray) (y : ByteArray) (hs : a.eval s = v) (hx : a.eval x = .slice (some ⟨W.heap.size, 0, none⟩) 1 1)
    (HO : Aside0 (Kd.string.R 9 W w0.heap.size (fun _ => True) v xs)) (HB : Aside0 (Below w0.heap.size w0 W)) (hl : Aside0 (xs.length ≤ 100000000))
    (h : ∀ v1 w1, Aside0 (Kd.string.R 9 w1 w0.heap.size (fun _ => True) v1 (xs ++ [y])) → Aside0 (Below w0.heap.size w0 w1) → Aside0 (W.grownBy w1 v.ownBlock) → Aside0 (v1.ownBlock = v.ownBlock ∨ ∃ b, v1.ownBlock = some b ∧ W.heap.size ≤ b) → wpList Try.prog ops Q rest (a.put o.dst v1) w1) :
    wpList Try.prog ops Q (o :: rest) a (W.alloc (.cells #[.string y] 9)) :=
  app1 Kd.string 34 9 (.string ⟨#[]⟩) 16 Try.underlying34 info9 rfl (by decide) (by omega) (by omega) hgd s x ho v xs y [.string y] hs hx rfl HO HB ⟨HB.out.size⟩ hl h
end
set_option maxRecDepth 100000 in
set_option maxHeartbeats 2000000 in
theorem refDocs_arg (A : Option Addr) (n c : Nat) (l : List Int) (w : World) (h : Kd.C (Kd.int .u16) w A n l) (hb : 60500 < n ∨ bigB l = true) (hl : ∀ x ∈ l, 0 ≤ x) (hm : n ≤ 1000000) :
    Calls Try.prog 43 #[.slice A n c] w fun e w' => e = .returned (.tuple #[.slice none 0 0, .int .i64 1]) ∧ w = w' := by
  have H := Aside0.mk h
  have HLN := Aside0.mk h.1
  have HLB := Aside0.mk hl
  clear h hl
  by_cases hn : 60500 < n
  · clear hb
    go_enter Try.func43, Try.ntmps43
    go_wp2_with fail
    go_ret2
    exact ⟨rfl, rfl⟩
  · have HBIG := Aside0.mk (hb.resolve_left hn)
    clear hb
    have hn2 : n ≤ 60500 := by omega
    go_enter Try.func43, Try.ntmps43
    go_wp2_with fail
    go_loop [4, 5] (fun v4 v5 => ∃ i : Nat, v5 = .int .i64 i ∧ v4 = .int .i64 (Sf.sameC l 0 i : Int) ∧ Aside0 (i ≤ n ∧ ∀ t, t < i → l.getD t 0 ≤ 256)) (fun _ v5 => n - (intOf v5).toNat)
    case atStart => exact ⟨0, rfl, by simp [Sf.sameC], ⟨Nat.zero_le _, fun t ht => absurd ht (Nat.not_lt_zero _)⟩⟩
    case round =>
      obtain ⟨i, rfl, rfl, HI⟩ := hrel
      have hsc := Sf.sameC_le l 0 i
      by_cases hlt : i < n
      · obtain ⟨ad, e, hx⟩ := at_nat H.out (Below.refl _ _) i hlt
        cases e
        have hs := Sf.sameC_succ l 0 (t := i) (by rw [HLN.out]; exact hlt)
        have HIN : Aside0 (l.getD i 0 ≤ 256 → ∀ t, t < i + 1 → l.getD t 0 ≤ 256) := ⟨fun h t ht => by
          by_cases e : t = i
          · subst e; exact h
          · exact HI.out.2 t (by omega)⟩
        by_cases hbx : 256 < l.getD i 0
        · generalize l.getD i 0 = x at *
          have hb2 : x > 256 := hbx
          generalize Sf.sameC l 0 i = z at *
          clear hs
          go_wp2_with fail
          go_ret2
          exact ⟨rfl, rfl⟩
        · have HIN2 := Aside0.mk (HIN.out (by omega))
          have hb2 : decide (l.getD i 0 > 256) = false := decide_eq_false hbx
          by_cases hx0 : l.getD i 0 = 0
          · rw [if_pos hx0] at hs
            rw [hx0] at hx
            have HS := Aside0.mk hs
            clear hx0 hs hb2 hbx HIN
            generalize Sf.sameC l 0 i = z at *
            go_wp2_with fail
            go_round
            case rel => exact ⟨i + 1, by go_num, by rw [HS.out]; go_num, ⟨by omega, HIN2.out⟩⟩
            case measure => simp [intOf]; omega
          · rw [if_neg hx0] at hs
            have HS := Aside0.mk hs
            clear HIN
            generalize l.getD i 0 = x at *
            have hy0 : (x == 0) = false := by simpa using hx0
            clear hx0 hs
            generalize Sf.sameC l 0 i = z at *
            go_wp2_with fail
            go_round
            case rel => exact ⟨i + 1, by go_num, by rw [HS.out]; rfl, ⟨by omega, HIN2.out⟩⟩
            case measure => simp [intOf]; omega
      · exfalso
        have hnb : bigB l = false := big_not (fun t ht => HI.out.2 t (by have := HLN.out; omega))
        have := HBIG.out
        rw [hnb] at this
        cases this
/-- What the reference's Docs answers to a row that may be one. -/
def RDocsEnd (l : List Int) (w : World) (e : Ending) (w' : World) : Prop := Below w.heap.size w w' ∧
  ((e = .returned (.tuple #[.slice none 0 0, .int .i64 3]) ∧ ∀ ds, ¬ IsBwt l ds) ∨
   ∃ ds A c, e = .returned (.tuple #[.slice A ds.length c, .int .i64 0]) ∧ ds.length ≤ c ∧ Kd.C Kd.string w' A ds.length (Sf.strsF ds) ∧ IsBwt l ds)
theorem rdocs_bad {l : List Int} {w w' : World} (hB : Below w.heap.size w w') (h : ∀ ds, ¬ IsBwt l ds) : RDocsEnd l w (.returned (.tuple #[.slice none 0 0, .int .i64 3])) w' := ⟨hB, .inl ⟨rfl, h⟩⟩
theorem revAt_swap (l : List Int) {i j : Nat} (hj : j = l.length - 1 - i) (hlt : i < j) :
    ((Sf.revAt l i).set i ((Sf.revAt l i).getD j 0)).set j ((Sf.revAt l i).getD i 0) = Sf.revAt l (i + 1) := by
  apply Sf.list_ext_getD
  · rw [List.length_set, List.length_set, Sf.revAt_length, Sf.revAt_length]
  · intro t ht
    rw [List.length_set, List.length_set, Sf.revAt_length] at ht
    rw [Sf.getD_set _ _ _ _ (by rw [List.length_set, Sf.revAt_length]; omega), Sf.getD_set _ _ _ _ (by rw [Sf.revAt_length]; omega), Sf.revAt_at l (i + 1) ht, Sf.revAt_at l i ht, Sf.revAt_at l i (t := i) (by omega), Sf.revAt_at l i (t := j) (by omega)]
    by_cases e1 : t = j
    · subst e1
      rw [if_pos rfl, if_neg (by omega), if_pos (by omega)]
      congr 1
      omega
    · rw [if_neg e1]
      by_cases e2 : t = i
      · subst e2
        rw [if_pos rfl, if_neg (by omega), if_pos (by omega), hj]
      · rw [if_neg e2]
        by_cases e3 : t < i ∨ l.length ≤ t + i
        · rw [if_pos e3, if_pos (by omega)]
        · rw [if_neg e3, if_neg (by omega)]
theorem revAt_done (l : List Int) {i : Nat} (h : ¬ ((i : Int) < (l.length : Int) - 1 - i)) : Sf.revAt l i = l.reverse := by
  apply Sf.list_ext_getD
  · rw [Sf.revAt_length, List.length_reverse]
  · intro t ht
    rw [Sf.revAt_length] at ht
    rw [Sf.revAt_at l i ht, Sf.getD_reverse l ht]
    by_cases e3 : t < i ∨ l.length ≤ t + i
    · rw [if_pos e3]
    · rw [if_neg e3]
      congr 1
      omega
theorem revAt_zero (l : List Int) : Sf.revAt l 0 = l := by
  apply Sf.list_ext_getD (Sf.revAt_length l 0)
  intro t ht
  rw [Sf.revAt_length] at ht
  rw [Sf.revAt_at l 0 ht, if_neg (by omega)]
theorem lenF_le2 {ds : List (List Int)} (h : ∀ d ∈ ds, d.length ≤ 2001) : Sf.lenF ds ≤ 2002 * ds.length := by
  induction ds with
  | nil => simp [Sf.lenF]
  | cons d ds ih =>
    have h1 := ih (fun d hd => h d (List.mem_cons_of_mem _ hd))
    have h2 := h d (List.mem_cons_self ..)
    simp only [Sf.lenF, List.length_cons]
    omega
theorem zeros_same' {l : List Int} (hl : ∀ x ∈ l, 0 ≤ x) : Sf.sameC l 0 l.length = Sf.belowC l 1 := by
  unfold Sf.sameC Sf.belowC
  rw [List.take_length]
  apply List.countP_congr
  intro x hx
  have := hl x hx
  rw [decide_eq_true_iff, decide_eq_true_iff]
  omega
theorem strs_snoc (ds : List (List Int)) (d : List Int) : Sf.strsF ds ++ [strOfNums d] = Sf.strsF (ds ++ [d]) := by simp [Sf.strsF]

set_option maxRecDepth 100000 in
set_option maxHeartbeats 4000000 in
theorem refDocs_walk (A : Option Addr) (n c : Nat) (l : List Int) (w : World) (h : Kd.C (Kd.int .u16) w A n l) (hc : n ≤ c) (hn : n ≤ 60500) (hb : bigB l = false) (hl : ∀ x ∈ l, 0 ≤ x) :
    Calls Try.prog 43 #[.slice A n c] w fun e w' => RDocsEnd l w e w' := by
  have H := Aside0.mk h
  have HLN := Aside0.mk h.1
  have HLB : Aside0 (∀ x ∈ l, 0 ≤ x ∧ x ≤ 256) := ⟨fun x hx => ⟨hl x hx, big_le hb x hx⟩⟩
  have HZZ : Aside0 (Sf.sameC l 0 n = Sf.belowC l 1) := ⟨by rw [← HLN.out]; exact zeros_same' hl⟩
  clear h hb hl
  go_enter Try.func43, Try.ntmps43
  go_wp2_with fail
  go_loop [4, 5] (fun v4 v5 => ∃ i : Nat, v5 = .int .i64 i ∧ v4 = .int .i64 (Sf.sameC l 0 i : Int) ∧ Aside0 (i ≤ n)) (fun _ v5 => n - (intOf v5).toNat)
  case atStart => exact ⟨0, rfl, by simp [Sf.sameC], ⟨Nat.zero_le _⟩⟩
  case round =>
    obtain ⟨i, rfl, rfl, HI⟩ := hrel
    have hsc := Sf.sameC_le l 0 i
    by_cases hlt : i < n
    · obtain ⟨ad, e, hx⟩ := at_nat H.out (Below.refl _ _) i hlt
      cases e
      have hs := Sf.sameC_succ l 0 (t := i) (by rw [HLN.out]; exact hlt)
      have hxb := HLB.out _ (Sf.mem_of_getD (d := l) (p := i) (by rw [HLN.out]; exact hlt))
      have hb2 : decide (l.getD i 0 > 256) = false := decide_eq_false (by omega)
      by_cases hx0 : l.getD i 0 = 0
      · rw [if_pos hx0] at hs
        rw [hx0] at hx
        have HS := Aside0.mk hs
        clear hx0 hs hb2 hxb
        generalize Sf.sameC l 0 i = z at *
        go_wp2_with fail
        go_round
        case rel => exact ⟨i + 1, by go_num, by rw [HS.out]; go_num, ⟨by omega⟩⟩
        case measure => simp [intOf]; omega
      · rw [if_neg hx0] at hs
        have HS := Aside0.mk hs
        generalize l.getD i 0 = x at *
        have hy0 : (x == 0) = false := by simpa using hx0
        clear hx0 hs
        generalize Sf.sameC l 0 i = z at *
        go_wp2_with fail
        go_round
        case rel => exact ⟨i + 1, by go_num, by rw [HS.out]; rfl, ⟨by omega⟩⟩
        case measure => simp [intOf]; omega
    · have hi : i = n := by have := HI.out; omega
      subst hi
      generalize hz : Sf.sameC l 0 i = z at *
      have hzn : z ≤ i := hsc
      have HBADN : Aside0 (500 < z ∨ 60000 < i → ∀ ds, ¬ IsBwt l ds) := ⟨fun hor ds h => by
        obtain ⟨h1, _, h2⟩ := isBwt_pre h
        have h3 := h1.n
        have h4 := h.fits.n
        have h5 := h.fits.t
        rw [← HZZ.out] at h3
        have := HLN.out
        omega⟩
      clear hz hsc HI hlt
      by_cases h5 : 500 < z
      · have h5' : (z : Int) > 500 := by omega
        go_wp2_with fail
        go_ret2
        exact rdocs_bad (Below.refl _ _) (HBADN.out (.inl h5))
      · have h5' : decide ((z : Int) > 500) = false := decide_eq_false (by omega)
        by_cases h6 : 60000 < i
        · have h6' : (i : Int) > 60000 := by omega
          go_wp2_with fail
          go_ret2
          exact rdocs_bad (Below.refl _ _) (HBADN.out (.inr h6))
        · have h6' : decide ((i : Int) > 60000) = false := decide_eq_false (by omega)
          clear HBADN
          go_wp2_with fail
          refine (rstarts_calls A i c l _ H.out hc (by omega) (fun x hx => by have := HLB.out x hx; omega)).mono ?_
          rintro e w1 ⟨A6, c6, rfl, hC6, hB1⟩
          have HC6 := Aside0.mk hC6
          have HB1 := Aside0.mk hB1
          have HB0 := Aside0.mk (Below.refl w1.heap.size w1)
          have HN257 : Aside0 (257 ≤ 100000000) := ⟨by omega⟩
          have HNi : Aside0 (i ≤ 100000000) := ⟨by omega⟩
          clear hC6 hB1 h5' h6'
          go_wp2_with (first | (at_make; refine mk_int (N := 47) (w0 := w1) 28 3 8 Try.underlying28 info3 (by omega) (by omega) rfl rfl _ _ rfl 257 rfl rfl HB0 HN257 ?_; intro gs caps w2 HSE HB2 HG2 HG2'; clear HB0 HN257) | (at_make; refine mk_int (N := 50) (w0 := w1) 28 3 8 Try.underlying28 info3 (by omega) (by omega) rfl rfl _ _ rfl i rfl rfl HB2 HNi ?_; intro gt capt w3 HST HB3 HG3 HG3'; have HSE3 := other_int HSE HG3 (by simp); have HNE : Aside0 (gs ≠ gt) := ⟨by have := lt_own HSE; have := HG3'.out; omega⟩; clear HSE HB2 HG2 HG2' HG3 HG3' HNi))
          go_loopw [9, 10] (fun v9 v10 w' => ∃ t : Nat, v9 = .int .i64 t ∧ Aside0 (t ≤ i) ∧ (∃ xs, Aside0 (xs.length = 257 ∧ ∀ c : Nat, c < 257 → xs.getD c 0 = (Sf.sameC l (c : Int) t : Int)) ∧ Aside0 (Kd.R (Kd.int .i64) 3 w' w1.heap.size (fun _ => True) (.slice (some ⟨gs, 0, none⟩) 257 caps) xs)) ∧
            (∃ ys, Aside0 (ys.length = i ∧ ∀ s, s < t → ys.getD s 0 = (Sf.nextF l s : Int)) ∧ Aside0 (Kd.R (Kd.int .i64) 3 w' w1.heap.size (fun _ => True) (.slice (some ⟨gt, 0, none⟩) i capt) ys)) ∧ Aside0 (Below w1.heap.size w1 w')) (fun v9 _ _ => i - (intOf v9).toNat)
          case atStart => exact ⟨0, rfl, ⟨Nat.zero_le _⟩, ⟨_, ⟨List.length_replicate, fun c hc => by rw [List.getD_eq_getElem?_getD, List.getElem?_replicate, if_pos hc]; simp [Sf.sameC]⟩, HSE3⟩, ⟨_, ⟨List.length_replicate, fun s hs => absurd hs (Nat.not_lt_zero _)⟩, HST⟩, HB3⟩
          case round =>
            clear HSE3 HST HB3
            obtain ⟨t, rfl, HT, ⟨xs, HX, HSE⟩, ⟨ys, HY, HST⟩, HB⟩ := hrel
            by_cases hlt : t < i
            · obtain ⟨ad, e, hx⟩ := at_nat H.out (below_then HB1.out HB1.out.size HB.out) t hlt
              cases e
              have hxb := HLB.out _ (Sf.mem_of_getD (d := l) (p := t) (by rw [HLN.out]; exact hlt))
              obtain ⟨k, hk⟩ := Int.eq_ofNat_of_zero_le hxb.1
              have hk1 : k < 257 := by omega
              have HSS := Aside0.mk (fun (c : Nat) => Sf.sameC_succ l (c : Int) (t := t) (by rw [HLN.out]; exact hlt))
              have HNX : Aside0 (Sf.nextF l t = Sf.belowC l (k : Int) + Sf.sameC l (k : Int) t) := ⟨by unfold Sf.nextF; rw [hk]⟩
              rw [hk] at hx HSS
              clear hxb hk
              obtain ⟨ad6, e, hx6⟩ := at_nat HC6.out HB.out k hk1
              cases e
              rw [startsL_at l hk1] at hx6
              have hx7 := own_nat HSE k hk1
              rw [HX.out.2 k hk1] at hx7
              have hb1 := belowC_le l (k : Int)
              have hb2 := Sf.sameC_le l (k : Int) t
              have hln := HLN.out
              obtain ⟨hc8, hf8⟩ := Kd.R_celln 0 HST.out (t : Int) (by omega) (by omega)
              obtain ⟨p1, p2⟩ := Kd.R_putg HST.out (t : Int) (Sf.nextF l t : Int)
              rw [Int.toNat_natCast] at hc8 hf8 p1 p2
              have HXS : Aside0 (∀ c : Nat, c < 257 → (xs.set k ((Sf.sameC l (k : Int) t : Int) + 1)).getD c 0 = (Sf.sameC l (c : Int) (t + 1) : Int)) := ⟨fun c hc => by
                rw [Sf.getD_set _ _ _ _ (by rw [HX.out.1]; exact hk1), HSS.out c]
                by_cases e : c = k
                · subst e; rw [if_pos rfl, if_pos rfl]; omega
                · rw [if_neg e, if_neg (by omega), HX.out.2 c hc]; omega⟩
              have HYS : Aside0 ((ys.set t (Sf.nextF l t : Int)).length = i ∧ ∀ s, s < t + 1 → (ys.set t (Sf.nextF l t : Int)).getD s 0 = (Sf.nextF l s : Int)) := ⟨by rw [List.length_set]; exact HY.out.1, fun s hs => by
                rw [Sf.getD_set _ _ _ _ (by rw [HY.out.1]; exact hlt)]
                by_cases e : s = t
                · subst e; rw [if_pos rfl]
                · rw [if_neg e]; exact HY.out.2 s (by omega)⟩
              have HST1 := Aside0.mk (Kd.R_drew p1)
              have HSE1 := Aside0.mk (Kd.R_drew (other_int HSE ⟨p2⟩ (by simpa using Ne.symm HNE.out)).out)
              have HB1' : Aside0 (Below w1.heap.size w1 (wr.setCell ⟨gt, t, none⟩ (.int .i64 (Sf.nextF l t : Int))).drew) := ⟨below_drew (below_set HB.out (Kd.R_base HST.out gt (by simp [Value.ownBlock])))⟩
              clear p1 p2
              have hnx := HNX.out
              generalize Sf.nextF l t = nx at *
              generalize Sf.belowC l (k : Int) = z1 at *
              generalize hz2 : Sf.sameC l (k : Int) t = z2 at *
              have HZ2 := Aside0.mk hz2
              clear hz2
              have hw1 : IntKind.i64.wrap ((z1 : Int) + (z2 : Int)) = (nx : Int) := by rw [IntKind.wrap_i64]; omega
              clear hnx hb1 HSS
              have hk2 : (k : Int) < 257 := by omega
              go_upto_region 20 with fail
              go_region
              all_goals
                generalize (wr.setCell ⟨gt, t, none⟩ (.int .i64 (nx : Int))).drew = w7 at *
                clear hx7 hc8 hf8 hx6 hx hw1
                have hx9 := own_nat HSE1 k hk1
                rw [HX.out.2 k hk1, HZ2.out] at hx9
                go_wp2_with (first | ((with_reducible refine gate_store (t := 3) (p := 79) rfl ?_); refine put_int 3 size3 79 _ rfl rfl rfl rfl rfl HSE1 HB1' hk1 ?_; intro w8 HSE8 HB8 HG; have HST8 := other_int HST1 HG (by simpa using HNE.out); clear HSE1 HB1' HST1 HG hx9))
                exact ⟨⟨t + 1, by go_num, ⟨by omega⟩, ⟨_, ⟨by rw [List.length_set]; exact HX.out.1, HXS.out⟩, HSE8⟩, ⟨_, HYS, HST8⟩, HB8⟩, by simp [intOf]; omega⟩
            · have ht : t = i := by have := HT.out; omega
              subst ht
              have hys : ys = (List.range t).map fun s => (Sf.nextF l s : Int) := by
                apply Sf.list_ext_getD
                · rw [HY.out.1]; simp
                · intro s hs
                  rw [HY.out.1] at hs
                  rw [HY.out.2 s hs, List.getD_eq_getElem?_getD, List.getElem?_map, List.getElem?_range hs]
                  rfl
              have hCT := own_C HST.out
              rw [hys] at hCT
              have HCT := Aside0.mk hCT
              have HW7 := Aside0.mk (below_then HB1.out HB1.out.size HB.out)
              clear hys hCT HST HSE HX HY HT hlt HC6
              obtain ⟨w7, hw7⟩ : ∃ w7, w7 = wr := ⟨_, rfl⟩
              rw [← hw7] at HCT HW7
              have HBB : Aside0 (Below w7.heap.size w7 wr) := ⟨by rw [hw7]; exact Below.refl _ _⟩
              have HO0 : Aside0 (Kd.string.R 9 wr w7.heap.size (fun _ => True) (.slice none 0 0) (Sf.strsF [])) := ⟨Kd.R_nil _ _ _ _ _⟩
              clear HB hw7
              go_wp2_with fail
              go_loopw [11, 12] (fun v11 v12 w' => ∃ (j : Nat) (ds : List (List Int)), v12 = .int .i64 j ∧ Aside0 (Sf.PreF l j ds) ∧ Aside0 ((∀ d ∈ ds, d.length ≤ 2001) ∧ j ≤ z) ∧ Aside0 (Kd.string.R 9 w' w7.heap.size (fun _ => True) v11 (Sf.strsF ds)) ∧ Aside0 (Below w7.heap.size w7 w')) (fun _ v12 _ => z - (intOf v12).toNat)
              case atStart => exact ⟨0, [], rfl, ⟨Sf.pre_nil l⟩, ⟨fun d hd => by simp at hd, Nat.zero_le _⟩, HO0, HBB⟩
              case round =>
                clear HO0 HBB
                obtain ⟨j, ds, rfl, HP, HD, HO, HB⟩ := hrel
                by_cases hlt : j < z
                · have HJL : Aside0 (j < l.length) := ⟨by rw [HLN.out]; omega⟩
                  have HW0 := Aside0.mk (below_then HW7.out HW7.out.size HB.out)
                  obtain ⟨wo, hwo⟩ : ∃ wo : World, wo = wr := ⟨_, rfl⟩
                  have HO9 : Aside0 ((Kd.int .u8).R 5 wr wo.heap.size (fun _ => True) (.slice none 0 0) (Sf.curF l j 0)) := ⟨Kd.R_nil _ _ _ _ _⟩
                  have HB9 : Aside0 (Below wo.heap.size wo wr) := ⟨by rw [hwo]; exact Below.refl _ _⟩
                  rw [← hwo] at HO HB HW0
                  go_wp2_with fail
                  go_loopw [13, 14] (fun v13 v14 w' => ∃ (k i : Nat) (A9 : Option Addr) (c9 : Nat), v13 = .slice A9 k c9 ∧ v14 = .int .i64 i ∧ Aside0 (i = Sf.pathF l j k) ∧ Aside0 (k ≤ 2001 ∧ ∀ t, t < k → l.getD (Sf.pathF l j t) 0 ≠ 0) ∧ Aside0 ((Kd.int .u8).R 5 w' wo.heap.size (fun _ => True) v13 (Sf.curF l j k)) ∧ Aside0 (Below wo.heap.size wo w')) (fun v13 _ _ => 2002 - slen v13)
                  case atStart => exact ⟨0, j, none, 0, rfl, rfl, ⟨rfl⟩, ⟨Nat.zero_le _, fun t ht => absurd ht (Nat.not_lt_zero _)⟩, HO9, HB9⟩
                  case round =>
                    clear HO9 HB9 hwo
                    obtain ⟨k, i, A9, c9, rfl, rfl, HI, HK, HO9, HB9⟩ := hrel
                    have hil : i < l.length := by rw [HI.out]; exact Sf.path_lt HJL.out k
                    have hin : i < t := by rw [← HLN.out]; exact hil
                    obtain ⟨ad, e, hx⟩ := at_nat H.out (below_then HW0.out HW0.out.size HB9.out) i hin
                    cases e
                    obtain ⟨ad4, e, hx4⟩ := at_nat HCT.out (below_then HB.out HB.out.size HB9.out) i hin
                    cases e
                    have hst : ((List.range t).map fun s => (Sf.nextF l s : Int)).getD i 0 = (Sf.nextF l i : Int) := by
                      rw [List.getD_eq_getElem?_getD, List.getElem?_map, List.getElem?_range hin]
                      rfl
                    rw [hst] at hx4
                    have HST := Aside0.mk hst
                    have hb := HLB.out (l.getD i 0) (Sf.mem_of_getD hil)
                    have hcs := Sf.cur_succ l j k
                    rw [← HI.out] at hcs
                    have HCS := Aside0.mk hcs
                    have HCL := Aside0.mk (Sf.cur_length l j k)
                    have HHL : Aside0 ((Sf.curF l j k).length ≤ 100000000) := ⟨by rw [HCL.out]; have := HK.out.1; omega⟩
                    have hk2 := HK.out.1
                    by_cases h0 : l.getD i 0 = 0
                    · have h0' : l.getD (Sf.pathF l j k) 0 = 0 := by rw [← HI.out]; exact h0
                      have HCH := Aside0.mk (Sf.cur_chain h0')
                      have HBY := Aside0.mk (Sf.byte1_reverse (Sf.cur_byte HJL.out HLB.out HK.out.2))
                      have hr0 := revAt_zero (Sf.curF l j k)
                      have HO5 := HO9
                      rw [← hr0] at HO5
                      rw [h0] at hx
                      have HDL : Aside0 ((Sf.strsF ds).length ≤ 100000000) := ⟨by rw [Sf.strsF_length, HP.out.n]; omega⟩
                      clear h0 h0' hcs hx4 hb hst HST HO9 HCS HHL hr0
                      go_wp2_with fail
                      go_loopw [15, 16] (fun v15 v16 w' => ∃ (i5 : Nat) (K5 : Int), v15 = .int .i64 i5 ∧ v16 = .int .i64 K5 ∧ Aside0 (K5 = (k : Int) - 1 - (i5 : Int) ∧ 2 * i5 ≤ k + 1) ∧ Aside0 ((Kd.int .u8).R 5 w' wo.heap.size (fun _ => True) (.slice A9 k c9) (Sf.revAt (Sf.curF l j k) i5)) ∧ Aside0 (Below wo.heap.size wo w')) (fun v15 _ _ => k - (intOf v15).toNat)
                      case atStart => exact ⟨0, _, rfl, rfl, ⟨by omega, by omega⟩, HO5, HB9⟩
                      case round =>
                        clear HO5 HB9
                        obtain ⟨i5, K5, rfl, rfl, HK5, HO5, HB9⟩ := hrel
                        have hk5 := HK5.out
                        have HRLEN := Aside0.mk (Sf.revAt_length (Sf.curF l j k) i5)
                        by_cases hlt5 : (i5 : Int) < K5
                        · obtain ⟨g9, cap9, e9, _, _, _⟩ := Kd.R_form HO5.out (by rw [HRLEN.out, HCL.out]; omega)
                          injection e9 with e9 en ec
                          clear en ec
                          subst e9
                          obtain ⟨j5, rfl⟩ := Int.eq_ofNat_of_zero_le (show 0 ≤ K5 by omega)
                          have hi5 : i5 < k := by omega
                          have hj5 : j5 < k := by omega
                          have hij : i5 ≠ j5 := by omega
                          have hji : j5 ≠ i5 := by omega
                          have HSW := Aside0.mk (revAt_swap (Sf.curF l j k) (i := i5) (j := j5) (by rw [HCL.out]; omega) (by omega))
                          obtain ⟨hca, hfa⟩ := Kd.R_celln 0 HO5.out (i5 : Int) (by omega) (by omega)
                          obtain ⟨hcb, hfb⟩ := Kd.R_celln 0 HO5.out (j5 : Int) (by omega) (by omega)
                          rw [Int.toNat_natCast] at hca hcb hfa hfb
                          have hra : ∀ q : Nat, rdOf 0 (Sf.revAt (Sf.curF l j k) i5) (q : Int) = (Sf.revAt (Sf.curF l j k) i5).getD q 0 := fun q => by simp [rdOf]
                          rw [hra] at hca hcb
                          clear hra
                          obtain ⟨p1, p2⟩ := Kd.R_putg HO5.out (i5 : Int) ((Sf.revAt (Sf.curF l j k) i5).getD j5 0)
                          obtain ⟨p3, p4⟩ := Kd.R_putg p1 (j5 : Int) ((Sf.revAt (Sf.curF l j k) i5).getD i5 0)
                          obtain ⟨q1, q2⟩ := Kd.R_putg HO5.out (j5 : Int) ((Sf.revAt (Sf.curF l j k) i5).getD i5 0)
                          obtain ⟨q3, q4⟩ := Kd.R_putg q1 (i5 : Int) ((Sf.revAt (Sf.curF l j k) i5).getD j5 0)
                          rw [Int.toNat_natCast, Int.toNat_natCast] at p3 q3
                          rw [List.set_comm _ _ hji, HSW.out] at q3
                          rw [HSW.out] at p3
                          have hgb := Kd.R_base HO5.out g9 (by simp [Value.ownBlock])
                          have HP4 := Aside0.mk (Kd.R_drew p3)
                          have HQ4 := Aside0.mk (Kd.R_drew q3)
                          have HBP := fun (u v : Value) => below_drew (below_set (j := j5) (v := v) (below_set (j := i5) (v := u) HB9.out hgb) hgb)
                          have HBQ := fun (u v : Value) => below_drew (below_set (j := i5) (v := v) (below_set (j := j5) (v := u) HB9.out hgb) hgb)
                          replace HBP := Aside0.mk (HBP (.int .u8 ((Sf.revAt (Sf.curF l j k) i5).getD j5 0)) (.int .u8 ((Sf.revAt (Sf.curF l j k) i5).getD i5 0)))
                          replace HBQ := Aside0.mk (HBQ (.int .u8 ((Sf.revAt (Sf.curF l j k) i5).getD i5 0)) (.int .u8 ((Sf.revAt (Sf.curF l j k) i5).getD j5 0)))
                          clear p1 p2 p3 p4 q1 q2 q3 q4 HSW
                          generalize (Sf.revAt (Sf.curF l j k) i5).getD j5 0 = y at *
                          generalize (Sf.revAt (Sf.curF l j k) i5).getD i5 0 = x at *
                          have hiz : (i5 : Int) < (k : Int) := by omega
                          have hjz : (j5 : Int) < (k : Int) := by omega
                          have hij2 : i5 < j5 := by omega
                          clear hk5 hlt5
                          go_upto_region 36 with fail
                          go_region
                          all_goals
                            go_wp2_with fail
                            go_roundw
                            case rel =>
                              first
                              | exact ⟨i5 + 1, (j5 : Int) - 1, by go_num, rfl, ⟨by have := HK5.out.1; omega, by have := HK5.out.1; omega⟩, HP4, HBP⟩
                              | exact ⟨i5 + 1, (j5 : Int) - 1, by go_num, rfl, ⟨by have := HK5.out.1; omega, by have := HK5.out.1; omega⟩, HQ4, HBQ⟩
                            case measure => simp [intOf]; omega
                        · have hrv := revAt_done (Sf.curF l j k) (i := i5) (by rw [HCL.out, ← hk5.1]; exact hlt5)
                          rw [hrv] at HO5
                          have hcv := Kd.C_string (P := Try.prog) (A := A9) (c := c9) Try.underlying23 Try.underlying5 Try.underlying9 (own_C HO5.out)
                          have HOS := Aside0.mk (Kd.R_below HO.out HB9.out)
                          have HBS := Aside0.mk (below_then HB.out HB.out.size HB9.out)
                          have HRL : Aside0 ((Sf.curF l j k).reverse.length = k) := ⟨by rw [List.length_reverse, HCL.out]⟩
                          have hlt6 : ¬ ((i5 : Int) < K5) := hlt5
                          clear hrv hk5 hlt5
                          have HSD := Aside0.mk (strs_snoc ds (Sf.curF l j k).reverse)
                          generalize strOfNums (Sf.curF l j k).reverse = sd at *
                          go_wp2_with (first | (at_builtin; refine app_str (w0 := w7) rfl (.tmp 131) (.tmp 134) rfl u11 _ _ rfl rfl HOS HBS HDL ?_; intro v11 w11 HO11 HB11 hg hat; clear hg hat HOS HBS))
                          go_roundw
                          case rel => exact ⟨j + 1, _, by go_num, ⟨Sf.pre_snoc HP.out HBY.out HCH.out⟩, ⟨fun d hd => by
                            rcases List.mem_append.1 hd with hd | hd
                            · exact HD.out.1 d hd
                            · rw [List.mem_singleton.1 hd, HRL.out]; exact hk2, by omega⟩, ⟨by rw [← HSD.out]; exact HO11.out⟩, HB11⟩
                          case measure => simp [intOf]; omega
                    · have hnx : Sf.nextF l i = Sf.pathF l j (k + 1) := by rw [HI.out]; rfl
                      have HNX := Aside0.mk hnx
                      have HK1 : Aside0 (∀ t, t < k + 1 → l.getD (Sf.pathF l j t) 0 ≠ 0) := ⟨fun t ht => by
                        by_cases e : t = k
                        · subst e; rw [← HI.out]; exact h0
                        · exact HK.out.2 t (by omega)⟩
                      clear hst hnx hcs
                      generalize l.getD i 0 = x at *
                      generalize Sf.nextF l i = i2 at *
                      have hx0 : (x != 0) = true := by simpa using h0
                      by_cases hgt : 2000 < k
                      · have HBAD : Aside0 (∀ ds, ¬ IsBwt l ds) := ⟨fun ds' h' => by
                          obtain ⟨hp', hd', _⟩ := isBwt_pre h'
                          rw [← HZZ.out] at hp'
                          obtain ⟨⟨d, hd, hkd⟩, _⟩ := Sf.read_stop (k := k) HP.out hlt (fun t ht => HK1.out t (by omega)) hp'
                          have h1 := hd' d hd
                          omega⟩
                        clear h0
                        go_wp2_with fail
                        go_ret2
                        exact rdocs_bad (below_then HW0.out HW0.out.size HB9.out) HBAD.out
                      · clear h0 hx4
                        have hx1 : 0 < x := by
                          have : x ≠ 0 := by simpa using hx0
                          omega
                        obtain ⟨k1, hk1⟩ : ∃ k1, k1 = k + 1 := ⟨_, rfl⟩
                        rw [← hk1] at HNX HK1 HCS
                        have HKE := Aside0.mk hk1
                        clear hk1
                        go_wp2_with (first | (at_builtin; refine app_u8 rfl (.tmp 98) (.tmp 105) rfl _ _ _ rfl rfl HO9 HB9 HHL ?_; intro v4 w4 HO1 HB1' HG hat; clear hat HO9 HB9 HG; obtain ⟨A1, c1, rfl, hc1, _⟩ := R_is (n := k1) HO1.out (by rw [List.length_append, HCL.out, HKE.out]; rfl); obtain ⟨_, e5, hx5⟩ := at_nat HCT.out (below_then HB.out HB.out.size HB1'.out) i hin; cases e5; rw [HST.out, add_plain] at hx5))
                        go_roundw
                        case rel => exact ⟨k1, i2, A1, c1, rfl, rfl, HNX, ⟨by have := HKE.out; omega, HK1.out⟩, ⟨by rw [HCS.out]; exact HO1.out⟩, HB1'⟩
                        case measure => simp [slen]; have := HKE.out; omega
                · have hj : j = z := by have := HD.out.2; omega
                  obtain ⟨A11, c11, rfl, hc11, hC11⟩ := R_is (n := ds.length) HO.out (Sf.strsF_length ds)
                  have HC11 := Aside0.mk hC11
                  have HWE := Aside0.mk (below_then HW7.out HW7.out.size HB.out)
                  have HJZ := Aside0.mk hj
                  have HLM : Aside0 (Sf.lenF ds ≤ 2000000) := ⟨by have h1 := lenF_le2 HD.out.1; have h2 := HP.out.n; have h3 := HD.out.2; omega⟩
                  have HUN : Aside0 (∀ ds', IsBwt l ds' → ds = ds') := ⟨fun ds' h' => by
                    have h1 := (isBwt_pre h').1
                    rw [← HZZ.out, ← HJZ.out] at h1
                    exact Sf.pre_unique HP.out h1⟩
                  have HMAY := Aside0.mk (fun (W : World) (hB : Below wr.heap.size wr W) => may_calls A11 ds.length c11 ds W (Kd.C_below HC11.out hB) hc11 (by have := HLM.out; omega))
                  have HLEN := Aside0.mk (fun (W : World) (hB : Below wr.heap.size wr W) => len_ref_calls A11 ds.length c11 ds W (Kd.C_below HC11.out hB) hc11 (by have := HLM.out; omega))
                  clear hC11 hj HO
                  have hdn : ds.length ≤ 60500 := by have := HP.out.n; have := HJZ.out; omega
                  generalize hD : ds.length = D at *
                  have HDE := Aside0.mk hD
                  clear hD
                  go_wp2_with fail
                  refine (HMAY.out _ (Below.refl _ _)).mono ?_
                  rintro e w8 ⟨r, rfl, hr, hD8⟩
                  have HR := Aside0.mk hr
                  have HB8 := Aside0.mk hD8.below
                  have HWE8 := Aside0.mk (below_then HWE.out HWE.out.size hD8.below)
                  clear hr hD8 HMAY
                  by_cases hr0 : r = 0
                  · subst hr0
                    have HFIT := Aside0.mk (HR.out.1 rfl)
                    go_wp2_with fail
                    refine (HLEN.out _ HB8.out).mono ?_
                    rintro e w9 ⟨rfl, hD9⟩
                    have HB9 := Aside0.mk (below_then HB8.out HB8.out.size hD9.below)
                    have HWE9 := Aside0.mk (below_then HWE8.out HWE8.out.size hD9.below)
                    clear hD9 HB8 HWE8 HLEN
                    by_cases hln : Sf.lenF ds = t
                    · have hle : ((Sf.lenF ds : Int) != (t : Int)) = false := by rw [hln]; simp
                      have HLNE := Aside0.mk hln
                      clear hln
                      go_wp2_with fail
                      refine (refBwt_calls ds HP.out.b (by have := HFIT.out.2.2; omega) A11 D c11 hc11 w9 (Kd.C_below HC11.out HB9.out)).mono ?_
                      rintro e w10 ⟨v10, sa, rfl, hs, hR10, hB10⟩
                      have HS := Aside0.mk hs
                      have hbl : (Sf.bwF (Sf.rowF ds) sa).length = t := by rw [Sf.bwF_length, Sf.SA_len hs, Sf.r0_length]; exact HLNE.out
                      obtain ⟨A10, c10, rfl, hc10, hC10⟩ := R_is (n := t) hR10 hbl
                      have HWE10 := Aside0.mk (below_then HWE9.out HWE9.out.size hB10)
                      have HC12 := Aside0.mk (Kd.C_below HC11.out (below_then HB9.out HB9.out.size hB10))
                      have HSY := Aside0.mk (syms_calls A10 t c10 (Sf.bwF (Sf.rowF ds) sa) A t c l w10 hC10 hc10 (Kd.C_below H.out HWE10.out) hc (by omega))
                      clear hs hR10 hB10 hC10 hbl HB9 HWE9 hle
                      by_cases he : Sf.bwF (Sf.rowF ds) sa = l
                      · rw [decide_eq_true he] at HSY
                        have HE := Aside0.mk he
                        clear he
                        go_wp2_with (first | (go_at_call 40; refine HSY.out.mono ?_; rintro e w13 ⟨rfl, hD13⟩; have HC13 := Aside0.mk (Kd.C_below HC12.out hD13.below); have HWE13 := Aside0.mk (below_then HWE10.out HWE10.out.size hD13.below); clear hD13 HWE10 HC12))
                        go_ret2
                        exact ⟨HWE13.out, .inr ⟨ds, A11, c11, by rw [HDE.out]; rfl, by rw [HDE.out]; exact hc11, by rw [HDE.out]; exact HC13.out, ⟨HFIT.out.1, HFIT.out.2.1, HFIT.out.2.2, HP.out.b⟩, sa, HS.out, HE.out⟩⟩
                      · rw [decide_eq_false he] at HSY
                        have HE := Aside0.mk he
                        clear he
                        go_wp2_with (first | (go_at_call 40; refine HSY.out.mono ?_; rintro e w13 ⟨rfl, hD13⟩; have HWE13 := Aside0.mk (below_then HWE10.out HWE10.out.size hD13.below); clear hD13 HWE10 HC12))
                        go_ret2
                        exact rdocs_bad HWE13.out (fun ds' h' => by
                          have e := HUN.out ds' h'
                          subst e
                          obtain ⟨sa', hs', he'⟩ := h'.sa
                          rw [Sf.SA_unique hs' HS.out] at he'
                          exact HE.out he')
                    · have hle : ((Sf.lenF ds : Int) != (t : Int)) = true := by simp; omega
                      have HLNE := Aside0.mk hln
                      clear hln
                      go_wp2_with fail
                      go_ret2
                      exact rdocs_bad HWE9.out (fun ds' h' => by
                        have e := HUN.out ds' h'
                        subst e
                        exact HLNE.out ((isBwt_pre h').2.2.trans HLN.out))
                  · have hre : (r != 0) = true := by simpa using hr0
                    go_wp2_with fail
                    go_ret2
                    exact rdocs_bad HWE8.out (fun ds' h' => by
                      have e := HUN.out ds' h'
                      subst e
                      exact hr0 (HR.out.2 ⟨h'.fits.n, h'.fits.d, h'.fits.t⟩))
end Go.Proofs.Ytadekjidjhglaaa
