/- Walks: slices.ContainsFunc of symbols above 256, slices.Clip of documents, text.New where it refuses. Walks: bwt.Docs, bwt.Ok. Walks: the reference's small functions; awake of layer 11. Walks: bwt.Step. -/
import Derived.Test.YtadekjidjhglaaaBz
import Derived.Test.YtadekjidjhglaaaBj
import Derived.Test.YtadekjidjhglaaaSn
set_option linter.unusedVariables false
set_option linter.unusedSimpArgs false
namespace Go.Proofs.Ytadekjidjhglaaa
open Go.RowKit Go.Proofs.YtadekjidjhglaaaW.PrintWords Go.Proofs.YtadekjidjhglaaaW.PrintLast Go.Proofs.YtadekjidjhglaaaW.PrintMore

/-- A symbol above 256 is among them. -/
def bigB (l : List Int) : Bool := l.any (fun x => decide (256 < x))
theorem big_le {l : List Int} (h : bigB l = false) : ∀ x ∈ l, x ≤ 256 := fun x hx => by
  unfold bigB at h
  rw [List.any_eq_false] at h
  have := h x hx
  simp at this
  exact this
theorem big_of {l : List Int} {i : Nat} (hi : i < l.length) (h : 256 < l.getD i 0) : bigB l = true := by
  unfold bigB
  rw [List.any_eq_true]
  exact ⟨_, Sf.mem_of_getD hi, by simpa using h⟩
theorem big_not {l : List Int} (h : ∀ i, i < l.length → l.getD i 0 ≤ 256) : bigB l = false := by
  unfold bigB
  rw [List.any_eq_false]
  intro x hx
  obtain ⟨i, hi, rfl⟩ := List.getElem_of_mem hx
  have := h i hi
  rw [List.getD_eq_getElem?_getD, List.getElem?_eq_getElem hi] at this
  simpa using this
def IdxEnd (l : List Int) (w : World) (e : Ending) (w' : World) : Prop := ∃ r : Int, e = .returned (.int .i64 r) ∧ w = w' ∧ (bigB l = true → 0 ≤ r) ∧ (bigB l = false → r = -1)
set_option maxRecDepth 100000 in
theorem above_calls (x : Int) (w : World) : Calls Try.prog 62 #[.int .u16 x] w fun e w' => e = .returned (.bool (decide (256 < x))) ∧ w = w' := by
  by_cases h : 256 < x
  · have h2 : x > 256 := h
    go_enter Try.func62, Try.ntmps62
    go_wp2
    go_ret
    exact ⟨by rw [decide_eq_true h]; rfl, rfl⟩
  · have h2 : decide (x > 256) = false := decide_eq_false h
    have HF : Aside0 (decide (256 < x) = false) := ⟨decide_eq_false h⟩
    go_enter Try.func62, Try.ntmps62
    go_wp2
    go_ret
    exact ⟨rfl, rfl⟩
set_option maxRecDepth 100000 in
set_option maxHeartbeats 1000000 in
theorem indexBig_calls (A : Option Addr) (n c : Nat) (l : List Int) (w : World) (h : Kd.C (Kd.int .u16) w A n l) (hn : n ≤ 1000000) :
    Calls Try.prog 76 #[.slice A n c, .func (.func 62) #[] #[]] w fun e w' => IdxEnd l w e w' := by
  have H := Aside0.mk h
  have HLN := Aside0.mk h.1
  clear h
  go_enter Try.func76, Try.ntmps76
  go_wp2_with fail
  go_loop [8] (fun v8 => ∃ i : Nat, v8 = .int .i64 i ∧ Aside0 (i ≤ n ∧ ∀ t, t < i → l.getD t 0 ≤ 256)) (fun v8 => n - (intOf v8).toNat)
  case atStart => exact ⟨0, rfl, ⟨Nat.zero_le _, fun t ht => absurd ht (Nat.not_lt_zero _)⟩⟩
  case round =>
    obtain ⟨i, rfl, HI⟩ := hrel
    by_cases hlt : i < n
    · obtain ⟨ad, e, hx⟩ := at_nat H.out (Below.refl _ _) i hlt
      cases e
      have HX : Aside0 (l.getD i 0 = l.getD i 0) := ⟨rfl⟩
      obtain ⟨x, hxe⟩ : ∃ x, x = l.getD i 0 := ⟨_, rfl⟩
      rw [← hxe] at hx
      have HXE := Aside0.mk hxe
      clear hxe HX
      by_cases hb : 256 < x
      · have hd : decide (256 < x) = true := decide_eq_true hb
        go_wp2_with (first | (go_at_call 62; refine (above_calls x _).mono ?_; rintro e w' ⟨rfl, rfl⟩))
        go_ret
        have hbig : bigB l = true := big_of (by rw [HLN.out]; exact hlt) (by rw [← HXE.out]; exact hb)
        exact ⟨_, rfl, rfl, fun _ => by omega, fun h => by rw [hbig] at h; cases h⟩
      · have hd : decide (256 < x) = false := decide_eq_false hb
        go_wp2_with (first | (go_at_call 62; refine (above_calls x _).mono ?_; rintro e w' ⟨rfl, rfl⟩))
        go_round
        case rel => exact ⟨i + 1, by go_num, ⟨by omega, fun t ht => by
          by_cases e : t = i
          · subst e; rw [← HXE.out]; omega
          · exact HI.out.2 t (by omega)⟩⟩
        case measure => simp [intOf]; omega
    · go_wp2_with fail
      go_ret
      have hnb : bigB l = false := big_not (fun t ht => HI.out.2 t (by have := HLN.out; omega))
      exact ⟨_, rfl, rfl, (fun h => by rw [hnb] at h; cases h), fun _ => rfl⟩
set_option maxRecDepth 100000 in
theorem contains_calls (A : Option Addr) (n c : Nat) (l : List Int) (w : World) (h : Kd.C (Kd.int .u16) w A n l) (hn : n ≤ 1000000) :
    Calls Try.prog 61 #[.slice A n c, .func (.func 62) #[] #[]] w fun e w' => e = .returned (.bool (bigB l)) ∧ w = w' := by
  have H := Aside0.mk h
  clear h
  cases hb : bigB l with
  | true =>
    have HB := Aside0.mk hb
    clear hb
    go_enter Try.func61, Try.ntmps61
    go_wp2_with (first | (go_at_call 76; refine (indexBig_calls A n c l _ H.out hn).mono ?_; rintro e w' ⟨r, rfl, rfl, h1, h2⟩; have h3 := h1 HB.out; have h4 : r ≥ 0 := h3; clear h1 h2))
    go_ret
    exact ⟨rfl, rfl⟩
  | false =>
    have HB := Aside0.mk hb
    clear hb
    go_enter Try.func61, Try.ntmps61
    go_wp2_with (first | (go_at_call 76; refine (indexBig_calls A n c l _ H.out hn).mono ?_; rintro e w' ⟨r, rfl, rfl, h1, h2⟩; have h3 := h2 HB.out; subst h3; clear h1 h2))
    go_ret
    exact ⟨rfl, rfl⟩
set_option maxRecDepth 100000 in
theorem clip_docs (A : Option Addr) (n c : Nat) (w : World) (hn : n ≤ c) (hc : c ≤ 9223372036854775807) :
    Calls Try.prog 65 #[.slice A n c] w fun e w' => e = .returned (.slice A n n) ∧ w = w' := by
  go_enter Try.func65, Try.ntmps65
  go_wp2_with fail
  go_ret
  exact ⟨rfl, rfl⟩
/-- New refuses. -/
def Refuses (w : World) (e : Ending) (w' : World) : Prop := ∃ x : Int, e = .returned (.tuple #[.pointer none, .int .i64 x]) ∧ x ≠ 0 ∧ w = w'
set_option maxRecDepth 100000 in
set_option maxHeartbeats 1000000 in
theorem new_many (A : Option Addr) (n c : Nat) (w : World) (hn : 500 < n) (hm : n ≤ 1000000) : Calls Try.prog 38 #[.slice A n c] w fun e w' => Refuses w e w' := by
  go_enter Try.func38, Try.ntmps38
  go_wp2_with fail
  go_ret2
  exact ⟨_, rfl, by decide, rfl⟩
set_option maxRecDepth 100000 in
set_option maxHeartbeats 1000000 in
theorem new_long (A : Option Addr) (n c : Nat) (ds : List (List Int)) (w : World) (h : Kd.C (Kd.slice 5 (Kd.int .u8)) w A n ds) (hl : ds.length = n) (hn : n ≤ 500) (hd : ∀ d ∈ ds, d.length ≤ 2000) (ht : 60000 < Sf.lenF ds) :
    Calls Try.prog 38 #[.slice A n c] w fun e w' => Refuses w e w' := by
  have H := Aside0.mk h
  have HL := Aside0.mk hl
  have HD := Aside0.mk hd
  have hle := lenF_le hd
  have HT : Aside0 (60000 < Sf.lenF ds ∧ Sf.lenF ds ≤ 2000000) := ⟨ht, by omega⟩
  clear h hl hd ht hle
  go_enter Try.func38, Try.ntmps38
  go_wp2_with fail
  go_loop [4, 17] (fun v4 v17 => ∃ j : Nat, v17 = .int .i64 j ∧ v4 = .int .i64 (Sf.startF ds j) ∧ Aside0 (j ≤ n)) (fun _ i => n - (intOf i).toNat)
  case atStart => exact ⟨0, rfl, by rw [Sf.startF_zero]; rfl, ⟨Nat.zero_le _⟩⟩
  case round =>
    obtain ⟨j, rfl, rfl, HJ⟩ := hrel
    by_cases hlt : j < n
    · obtain ⟨ad, Ad, cd, e, hx, hcd, hC⟩ := at_doc H.out (Below.refl _ _) j hlt
      cases e
      have hdl : (Sf.docF ds j).length ≤ 2000 := HD.out _ (by unfold Sf.docF; rw [List.getD_eq_getElem?_getD, List.getElem?_eq_getElem (by have := HL.out; omega)]; exact List.getElem_mem _)
      have hs := Sf.startF_succ ds (i := j) (by have := HL.out; omega)
      have hsl := Sf.startF_le ds j
      have hsb : Sf.startF ds j ≤ 2000000 := by have := HT.out; omega
      have HS := Aside0.mk hs
      clear hC hcd hs hsl
      generalize (Sf.docF ds j).length = q at *
      generalize Sf.startF ds j = p at *
      go_wp2_with fail
      go_round
      case rel => exact ⟨j + 1, by go_num, by rw [HS.out]; go_num, ⟨by omega⟩⟩
      case measure => simp [intOf]; omega
    · have hj : j = n := by have := HJ.out; omega
      subst hj
      clear hlt HJ
      rw [show Sf.startF ds j = Sf.lenF ds by rw [← HL.out, Sf.startF_all]]
      have ht := HT.out
      generalize Sf.lenF ds = L at *
      go_wp2_with fail
      go_ret2
      exact ⟨_, rfl, by decide, rfl⟩
end Go.Proofs.Ytadekjidjhglaaa
set_option linter.unusedVariables false
set_option linter.unusedSimpArgs false
namespace Go.Proofs.Ytadekjidjhglaaa
open Go.RowKit Go.Proofs.YtadekjidjhglaaaW.PrintWords Go.Proofs.YtadekjidjhglaaaW.PrintLast Go.Proofs.YtadekjidjhglaaaW.PrintMore

/-- A row is of documents. -/
structure IsBwt (l : List Int) (ds : List (List Int)) : Prop where
  fits : Fits ds
  sa : ∃ sa, Sf.SA (Sf.r0 ds) sa ∧ Sf.bwF (Sf.rowF ds) sa = l
theorem isBwt_pre {l : List Int} {ds : List (List Int)} (h : IsBwt l ds) : Sf.PreF l (Sf.belowC l 1) ds ∧ (∀ d ∈ ds, d.length ≤ 2000) ∧ Sf.lenF ds = l.length := by
  obtain ⟨sa, hs, rfl⟩ := h.sa
  obtain ⟨h1, h2⟩ := Sf.pre_bw h.fits.b hs
  exact ⟨h1, h.fits.d, h2⟩
theorem isBwt_unique {l : List Int} {ds ds' : List (List Int)} (h : IsBwt l ds) (h' : IsBwt l ds') : ds = ds' := Sf.pre_unique (isBwt_pre h).1 (isBwt_pre h').1
theorem isBwt_of {ds : List (List Int)} {sa : List Nat} (hf : Fits ds) (hs : Sf.SA (Sf.r0 ds) sa) : IsBwt (Sf.bwF (Sf.rowF ds) sa) ds := ⟨hf, sa, hs, rfl⟩
theorem equal_calls (A0 : Option Addr) (n0 c0 : Nat) (x : List Int) (A1 : Option Addr) (n1 c1 : Nat) (y : List Int) (w : World) (h0 : Kd.C (Kd.int .u16) w A0 n0 x) (hc0 : n0 ≤ c0) (h1 : Kd.C (Kd.int .u16) w A1 n1 y) (hc1 : n1 ≤ c1) (hm : n0 ≤ 1000000) :
    Calls Try.prog 64 #[.slice A0 n0 c0, .slice A1 n1 c1] w fun e w' => e = .returned (.bool (decide (x = y))) ∧ Drawn0 w w' := by
  obtain rfl : x.length = n0 := h0.1
  obtain rfl : y.length = n1 := h1.1
  exact slices_Equal_uint16_uint16.calls _ A0 c0 x A1 c1 y _ w h0 hc0 h1 hc1 (Sf.equal_f x y hm)
/-- What Docs answers to a row that may be one. -/
def DocsEnd (l : List Int) (w : World) (e : Ending) (w' : World) : Prop := Below w.heap.size w w' ∧
  ((e = .returned (.tuple #[.slice none 0 0, .int .i64 3]) ∧ ∀ ds, ¬ IsBwt l ds) ∨
   ∃ ds A, e = .returned (.tuple #[.slice A ds.length ds.length, .int .i64 0]) ∧ Kd.C (Kd.slice 5 (Kd.int .u8)) w' A ds.length ds ∧ IsBwt l ds)
set_option maxRecDepth 100000 in
set_option maxHeartbeats 1000000 in
theorem docs_arg (A : Option Addr) (n c : Nat) (l : List Int) (w : World) (h : Kd.C (Kd.int .u16) w A n l) (hb : 60500 < n ∨ bigB l = true) (hm : n ≤ 1000000) :
    Calls Try.prog 35 #[.slice A n c] w fun e w' => e = .returned (.tuple #[.slice none 0 0, .int .i64 1]) ∧ w = w' := by
  have H := Aside0.mk h
  clear h
  by_cases hn : 60500 < n
  · clear hb
    go_enter Try.func35, Try.ntmps35
    go_wp2_with fail
    go_ret2
    exact ⟨rfl, rfl⟩
  · have hb1 : bigB l = true := hb.resolve_left hn
    clear hb
    have HCO := Aside0.mk (contains_calls A n c l w H.out hm)
    rw [hb1] at HCO
    clear hb1
    go_enter Try.func35, Try.ntmps35
    go_wp2_with (first | (go_at_call 61; refine HCO.out.mono ?_; rintro e w' ⟨rfl, rfl⟩))
    go_ret2
    exact ⟨rfl, rfl⟩
set_option maxRecDepth 100000 in
set_option maxHeartbeats 1000000 in
theorem docs_walk (A : Option Addr) (n c : Nat) (l : List Int) (w : World) (h : Kd.C (Kd.int .u16) w A n l) (hc : n ≤ c) (hn : n ≤ 60500) (hb : bigB l = false) (hl : ∀ x ∈ l, 0 ≤ x) :
    Calls Try.prog 35 #[.slice A n c] w fun e w' => DocsEnd l w e w' := by
  have H := Aside0.mk h
  have HLN := Aside0.mk h.1
  have HCO := Aside0.mk (contains_calls A n c l w h (by omega))
  rw [hb] at HCO
  have HRD := Aside0.mk (read_calls A n c l w h (fun x hx => ⟨hl x hx, big_le hb x hx⟩) hn)
  clear h hb hl
  go_enter Try.func35, Try.ntmps35
  go_upto_region 3 with (first | (go_at_call 61; refine HCO.out.mono ?_; rintro e w' ⟨rfl, rfl⟩))
  go_wp2_with fail
  refine HRD.out.mono ?_
  rintro e w1 ⟨hB1, v, ok, rfl, hbad, hgood⟩
  have HB1 := Aside0.mk hB1
  cases ok with
  | false =>
    have HBAD := Aside0.mk (hbad rfl)
    clear hbad hgood hB1
    go_wp2_with fail
    go_ret2
    exact ⟨HB1.out, .inl ⟨rfl, fun ds h => by obtain ⟨h1, h2, h3⟩ := isBwt_pre h; exact HBAD.out ds h1 h2 h3⟩⟩
  | true =>
    obtain ⟨ds, A1, c1, hp, hd, hll, rfl, hc1, hm1, hC1⟩ := hgood rfl
    have HP := Aside0.mk hp
    have HD := Aside0.mk hd
    have HLL := Aside0.mk hll
    have HC1 := Aside0.mk hC1
    clear hbad hgood hB1 hp hd hll hC1
    by_cases hf : ds.length ≤ 500 ∧ Sf.lenF ds ≤ 60000
    · have hF : Fits ds := ⟨hf.1, HD.out, hf.2, HP.out.b⟩
      have HF := Aside0.mk hF
      have HRL : Aside0 ((Sf.rowF ds).length ≤ 60000) := ⟨by rw [Sf.rowF_length]; exact hf.2⟩
      clear hF hf
      have HNEW := Aside0.mk (new_calls A1 ds.length c1 ds w1 HC1.out rfl HF.out.n HF.out.d HF.out.t HF.out.b)
      generalize hN : ds.length = N at *
      have HN := Aside0.mk hN
      clear hN
      go_upto_region 7 with (first | (go_at_call 38; refine HNEW.out.mono ?_; rintro e w2 ⟨g, rfl, hT, hg, hB2⟩; have HT := Aside0.mk hT; have HC2 := Aside0.mk (Kd.C_below HC1.out hB2); have HB2 := Aside0.mk (below_then HB1.out HB1.out.size hB2); clear hT hg hB2 HB1 HC1))
      have HOF := Aside0.mk (of_calls g ds w2 HT.out HF.out.b HF.out.n HRL.out)
      go_wp2_with fail
      refine HOF.out.mono ?_
      rintro e w3 ⟨A3, n3, sa, rfl, hs, hC3, hn3, hB3⟩
      have HS := Aside0.mk hs
      have HC3 := Aside0.mk hC3
      have HC4 := Aside0.mk (Kd.C_below HC2.out hB3)
      have HB3 := Aside0.mk (below_then HB2.out HB2.out.size hB3)
      have HEQ := Aside0.mk (equal_calls A3 n3 n3 (Sf.bwF (Sf.rowF ds) sa) A n c l w3 HC3.out (Nat.le_refl _) (Kd.C_below H.out HB3.out) hc (by rw [hn3]; have := HRL.out; omega))
      clear hs hC3 hB3 hn3 HC2 HB2 HOF
      by_cases he : Sf.bwF (Sf.rowF ds) sa = l
      · rw [decide_eq_true he] at HEQ
        have HE := Aside0.mk he
        clear he
        go_wp2_with (first | (go_at_call 64; refine HEQ.out.mono ?_; rintro e w4 ⟨rfl, hD4⟩; have HC5 := Aside0.mk (Kd.C_below HC4.out hD4.below); have HB4 := Aside0.mk (below_then HB3.out HB3.out.size hD4.below); clear hD4 HB3 HC4) | (go_at_call 65; refine (clip_docs A1 N c1 _ hc1 hm1).mono ?_; rintro e w' ⟨rfl, rfl⟩))
        go_ret2
        exact ⟨HB4.out, .inr ⟨ds, A1, by rw [HN.out]; rfl, by rw [HN.out]; exact HC5.out, HF.out, sa, HS.out, HE.out⟩⟩
      · rw [decide_eq_false he] at HEQ
        have HE := Aside0.mk he
        clear he
        go_wp2_with (first | (go_at_call 64; refine HEQ.out.mono ?_; rintro e w4 ⟨rfl, hD4⟩; have HB4 := Aside0.mk (below_then HB3.out HB3.out.size hD4.below); clear hD4 HB3 HC4))
        go_ret2
        exact ⟨HB4.out, .inl ⟨rfl, fun ds' h' => by
          obtain ⟨h1, _, _⟩ := isBwt_pre h'
          have e := Sf.pre_unique HP.out h1
          subst e
          obtain ⟨sa', hs', he'⟩ := h'.sa
          rw [Sf.SA_unique hs' HS.out] at he'
          exact HE.out he'⟩⟩
    · have HNF := Aside0.mk hf
      have hN1 : ds.length ≤ 60500 := by rw [HP.out.n]; have := belowC_le l 1; have := HLN.out; omega
      have HNEW : Aside0 (Calls Try.prog 38 #[.slice A1 ds.length c1] w1 fun e w' => Refuses w1 e w') := ⟨by
        by_cases h5 : ds.length ≤ 500
        · exact new_long A1 _ c1 ds w1 HC1.out rfl h5 HD.out (by omega)
        · exact new_many A1 _ c1 w1 (by omega) (by omega)⟩
      clear hf hN1
      generalize hN : ds.length = N at *
      have HN := Aside0.mk hN
      clear hN
      go_wp2_with (first | (go_at_call 38; refine HNEW.out.mono ?_; rintro e w2 ⟨x, rfl, hx, rfl⟩; have hxe : (x != 0) = true := by simpa using hx))
      go_ret2
      exact ⟨HB1.out, .inl ⟨rfl, fun ds' h' => by
        obtain ⟨h1, _, _⟩ := isBwt_pre h'
        have e := Sf.pre_unique HP.out h1
        subst e
        exact HNF.out ⟨by rw [← HN.out]; exact h'.fits.n, h'.fits.t⟩⟩⟩
/-- Whether a row is one. -/
def OkEnd (l : List Int) (w : World) (e : Ending) (w' : World) : Prop := Below w.heap.size w w' ∧ ((e = .returned (.bool false) ∧ ∀ ds, ¬ IsBwt l ds) ∨ (e = .returned (.bool true) ∧ ∃ ds, IsBwt l ds))
theorem not_arg {l : List Int} (hb : 60500 < l.length ∨ bigB l = true) (ds : List (List Int)) : ¬ IsBwt l ds := fun h => by
  have h1 := (isBwt_pre h).2.2
  obtain ⟨sa, hs, e⟩ := h.sa
  rcases hb with hb | hb
  · have := h.fits.t
    omega
  · have h2 := Sf.bw_bounds h.fits.b hs
    rw [e] at h2
    unfold bigB at hb
    rw [List.any_eq_true] at hb
    obtain ⟨x, hx, h3⟩ := hb
    have := (h2 x hx).2
    simp at h3
    omega
set_option maxRecDepth 100000 in
set_option maxHeartbeats 1000000 in
theorem okrow_calls (A : Option Addr) (n c : Nat) (l : List Int) (w : World) (h : Kd.C (Kd.int .u16) w A n l) (hc : n ≤ c) (hm : n ≤ 1000000) (hl : ∀ x ∈ l, 0 ≤ x) :
    Calls Try.prog 42 #[.slice A n c] w fun e w' => OkEnd l w e w' := by
  have hln : l.length = n := h.1
  by_cases hb : 60500 < n ∨ bigB l = true
  · have HD := Aside0.mk (docs_arg A n c l w h hb hm)
    have HN := Aside0.mk (not_arg (by rw [hln]; exact hb))
    clear h hl hb hln
    go_enter Try.func42, Try.ntmps42
    go_wp2_with (first | (go_at_call 35; refine HD.out.mono ?_; rintro e w' ⟨rfl, rfl⟩))
    go_ret
    exact ⟨Below.refl _ _, .inl ⟨rfl, HN.out⟩⟩
  · have HD := Aside0.mk (docs_walk A n c l w h hc (by omega) (by cases h1 : bigB l with | true => exact absurd (.inr h1) hb | false => rfl) hl)
    clear h hl hb hln
    go_enter Try.func42, Try.ntmps42
    go_wp2_with fail
    refine HD.out.mono ?_
    rintro e w' ⟨hB, ⟨rfl, hn⟩ | ⟨ds, A1, rfl, hC, hi⟩⟩
    · have HB := Aside0.mk hB
      have HN := Aside0.mk hn
      clear hB hn
      go_wp2_with fail
      go_ret
      exact ⟨HB.out, .inl ⟨rfl, HN.out⟩⟩
    · have HB := Aside0.mk hB
      have HI := Aside0.mk hi
      clear hB hi hC
      go_wp2_with fail
      go_ret
      exact ⟨HB.out, .inr ⟨rfl, ds, HI.out⟩⟩
end Go.Proofs.Ytadekjidjhglaaa
set_option linter.unusedVariables false
set_option linter.unusedSimpArgs false
namespace Go.Proofs.Ytadekjidjhglaaa
open Go.RowKit Go.Proofs.YtadekjidjhglaaaW.PrintWords Go.Proofs.YtadekjidjhglaaaW.PrintLast Go.Proofs.YtadekjidjhglaaaW.PrintMore

theorem syms_calls (A0 : Option Addr) (n0 c0 : Nat) (x : List Int) (A1 : Option Addr) (n1 c1 : Nat) (y : List Int) (w : World) (h0 : Kd.C (Kd.int .u16) w A0 n0 x) (hc0 : n0 ≤ c0) (h1 : Kd.C (Kd.int .u16) w A1 n1 y) (hc1 : n1 ≤ c1) (hm : n0 ≤ 1000000) :
    Calls Try.prog 40 #[.slice A0 n0 c0, .slice A1 n1 c1] w fun e w' => e = .returned (.bool (decide (x = y))) ∧ Drawn0 w w' := by
  obtain rfl : x.length = n0 := h0.1
  obtain rfl : y.length = n1 := h1.1
  exact concordanceref9_SameSyms.calls _ A0 c0 x A1 c1 y _ w h0 hc0 h1 hc1 (Sf.syms_f x y hm)
theorem texts_calls (A0 : Option Addr) (n0 c0 : Nat) (x : List (List Int)) (A1 : Option Addr) (n1 c1 : Nat) (y : List (List Int)) (w : World) (h0 : Kd.C Kd.string w A0 n0 (Sf.strsF x)) (hc0 : n0 ≤ c0) (h1 : Kd.C Kd.string w A1 n1 (Sf.strsF y)) (hc1 : n1 ≤ c1) (hm : n0 ≤ 1000000) (hx : Sf.Bytes x) (hy : Sf.Bytes y) :
    Calls Try.prog 41 #[.slice A0 n0 c0, .slice A1 n1 c1] w fun e w' => e = .returned (.bool (decide (x = y))) ∧ Drawn0 w w' := by
  obtain rfl : (Sf.strsF x).length = n0 := h0.1
  obtain rfl : (Sf.strsF y).length = n1 := h1.1
  exact concordanceref9_SameTexts.calls _ A0 c0 (Sf.strsF x) A1 c1 (Sf.strsF y) _ w h0 hc0 h1 hc1 (Sf.texts_f hx hy (by rwa [Sf.strsF_length] at hm))
theorem rank_calls (A0 : Option Addr) (n0 c0 : Nat) (l : List Int) (c i : Int) (w : World) (h0 : Kd.C (Kd.int .u16) w A0 n0 l) (hc0 : n0 ≤ c0) (hm : n0 ≤ 1000000) (hl : ∀ x ∈ l, 0 ≤ x ∧ x ≤ 65535) :
    Calls Try.prog 37 #[.slice A0 n0 c0, .int .i64 c, .int .i64 i] w fun e w' => e = .returned (.int .i64 (Sf.sameC l c i.toNat : Int)) ∧ Drawn0 w w' := by
  obtain rfl : l.length = n0 := h0.1
  exact concordanceref9_Rank.calls _ A0 c0 l c i _ w h0 hc0 (Sf.rank_f l hl hm c i)
theorem rstarts_calls (A0 : Option Addr) (n0 c0 : Nat) (l : List Int) (w : World) (h0 : Kd.C (Kd.int .u16) w A0 n0 l) (hc0 : n0 ≤ c0) (hm : n0 ≤ 1000000) (hl : ∀ x ∈ l, 0 ≤ x ∧ x ≤ 65535) :
    Calls Try.prog 44 #[.slice A0 n0 c0] w fun e w' => ∃ A c, e = .returned (.slice A 257 c) ∧ Kd.C (Kd.int .i64) w' A 257 (startsL l) ∧ Below w.heap.size w w' := by
  obtain rfl : l.length = n0 := h0.1
  refine (concordanceref9_Starts.calls _ A0 c0 l _ w h0 hc0 (Sf.rstarts_f l hl hm)).mono ?_
  rintro e w' ⟨v, rfl, hR, hB⟩
  obtain ⟨A, c, rfl, _, hC⟩ := R_is (n := 257) hR (by rw [List.length_map, List.length_range])
  exact ⟨A, c, rfl, hC, hB⟩
theorem len_ref_calls (A0 : Option Addr) (n0 c0 : Nat) (ds : List (List Int)) (w : World) (h0 : Kd.C Kd.string w A0 n0 (Sf.strsF ds)) (hc0 : n0 ≤ c0) (hm : Sf.lenF ds ≤ 100000000) :
    Calls Try.prog 69 #[.slice A0 n0 c0] w fun e w' => e = .returned (.int .i64 (Sf.lenF ds : Int)) ∧ Drawn0 w w' := by
  obtain rfl : (Sf.strsF ds).length = n0 := h0.1
  exact concordanceref9_Len.calls _ A0 c0 (Sf.strsF ds) _ w h0 hc0 (Sf.len_f hm)
def MayEnd (ds : List (List Int)) (w : World) (e : Ending) (w' : World) : Prop := ∃ r : Int, e = .returned (.int .i64 r) ∧ (r = 0 ↔ ds.length ≤ 500 ∧ (∀ d ∈ ds, d.length ≤ 2000) ∧ Sf.lenF ds ≤ 60000) ∧ Drawn0 w w'
theorem may_calls (A0 : Option Addr) (n0 c0 : Nat) (ds : List (List Int)) (w : World) (h0 : Kd.C Kd.string w A0 n0 (Sf.strsF ds)) (hc0 : n0 ≤ c0) (hm : Sf.lenF ds ≤ 100000000) :
    Calls Try.prog 68 #[.slice A0 n0 c0] w fun e w' => MayEnd ds w e w' := by
  obtain rfl : (Sf.strsF ds).length = n0 := h0.1
  obtain ⟨r, h1, h2⟩ := Sf.may_f hm
  refine (concordanceref9_May.calls _ A0 c0 (Sf.strsF ds) r w h0 hc0 h1).mono ?_
  rintro e w' ⟨rfl, hD⟩
  exact ⟨r, rfl, h2, hD⟩
theorem isBwt_ba : IsBwt [98, 99, 0] [[98, 97]] := ⟨⟨by decide, by decide, by decide, by unfold Sf.Bytes; decide⟩, [2, 1, 0], ⟨by decide, by decide⟩, by decide⟩
theorem not_98 (ds : List (List Int)) : ¬ IsBwt [98] ds := fun h => by
  obtain ⟨h1, _, h2⟩ := isBwt_pre h
  have h3 := h1.n
  have h4 : Sf.belowC [98] 1 = 0 := by decide
  rw [h4] at h3
  rw [List.eq_nil_of_length_eq_zero h3] at h2
  simp [Sf.lenF] at h2
set_option maxRecDepth 100000 in
set_option maxHeartbeats 1000000 in
theorem awake11_calls (w : World) : Calls Try.prog 33 #[] w fun e w' => e = .returned (.bool true) ∧ Below w.heap.size w w' := by
  have kc1 := Lib.run_convert_bytes_const (P := Try.prog) w 23 5 #[.int .u8 98, .int .u8 97] 2 2 Try.underlying23 Try.underlying5
  go_enter Try.func33, Try.ntmps33
  go_wp2_with fail
  have b0 : ((w.alloc (.cells #[.int .u8 98, .int .u8 97] 5 (2, 3))).alloc (.cells #[.slice (some ⟨w.heap.size, 0, none⟩) 2 2] 23)).heap[w.heap.size]? = some (.cells #[.int .u8 98, .int .u8 97] 5 (2, 3)) :=
    blk_alloc (blk_new w _) _
  have b2 : ((w.alloc (.cells #[.int .u8 98, .int .u8 97] 5 (2, 3))).alloc (.cells #[.slice (some ⟨w.heap.size, 0, none⟩) 2 2] 23)).heap[w.heap.size + 1]? = some (.cells #[.slice (some ⟨w.heap.size, 0, none⟩) 2 2] 23) := by
    have := blk_new (w.alloc (.cells #[.int .u8 98, .int .u8 97] 5 (2, 3))) (.cells #[.slice (some ⟨w.heap.size, 0, none⟩) 2 2] 23)
    rwa [World.size_alloc] at this
  have HB : Aside0 (Below w.heap.size w ((w.alloc (.cells #[.int .u8 98, .int .u8 97] 5 (2, 3))).alloc (.cells #[.slice (some ⟨w.heap.size, 0, none⟩) 2 2] 23))) := ⟨below_alloc (below_alloc (Below.refl _ _) _) _⟩
  generalize ((w.alloc (.cells #[.int .u8 98, .int .u8 97] 5 (2, 3))).alloc (.cells #[.slice (some ⟨w.heap.size, 0, none⟩) 2 2] 23)) = W at *
  have hC : (Kd.slice 5 (Kd.int .u8)).C W (some ⟨w.heap.size + 1, 0, none⟩) 1 [[98, 97]] := C_docs b2 (by decide) (fun j d hj => by
    match j, hj with
    | 0, hj =>
      simp at hj; subst hj
      exact ⟨_, _, rfl, Nat.le_refl _, C_block (xs := [98, 97]) b0 rfl (by decide)⟩
    | j + 1, hj => simp at hj)
  clear b0 b2 kc1
  refine (new_calls _ 1 1 _ _ hC rfl (by decide) (by decide) (by decide) isBwt_ba.fits.b).mono ?_
  rintro e w1 ⟨g, rfl, hT, hg, hB⟩
  have HT := Aside0.mk hT
  have HB1 := Aside0.mk (below_then HB.out HB.out.size hB)
  clear hT hB hC HB hg
  go_wp2_with fail
  refine (of_calls g [[98, 97]] _ HT.out isBwt_ba.fits.b (by decide) (by decide)).mono ?_
  rintro e w2 ⟨A2, n2, sa, rfl, hs, hC2, hn2, hB2⟩
  have hsa : sa = [2, 1, 0] := Sf.SA_unique hs ⟨by decide, by decide⟩
  subst hsa
  have hn3 : n2 = 3 := hn2
  subst hn3
  have HC2 := Aside0.mk hC2
  have HB2 := Aside0.mk (below_then HB1.out HB1.out.size hB2)
  clear hs hC2 hB2 hn2 HT HB1
  go_wp2_with fail
  have hb := blk_new w2 (.cells #[.int .u16 98, .int .u16 99, .int .u16 0] 57)
  have hCl : (Kd.int .u16).C (w2.alloc (.cells #[.int .u16 98, .int .u16 99, .int .u16 0] 57)) (some ⟨w2.heap.size, 0, none⟩) 3 [98, 99, 0] := C_block (xs := [98, 99, 0]) hb rfl (by decide)
  have HB3 := Aside0.mk (below_alloc HB2.out (.cells #[.int .u16 98, .int .u16 99, .int .u16 0] 57))
  refine (syms_calls A2 3 3 _ _ 3 3 [98, 99, 0] _ (Kd.C_below HC2.out (below_alloc (Below.refl _ _) _)) (Nat.le_refl _) hCl (Nat.le_refl _) (by omega)).mono ?_
  rintro e w4 ⟨rfl, hD⟩
  have hd : decide (Sf.bwF (Sf.rowF [[98, 97]]) [2, 1, 0] = [98, 99, 0]) = true := by decide
  rw [hd]
  have HB4 := Aside0.mk (below_then HB3.out HB3.out.size hD.below)
  clear hb hCl hD hd HB3 HB2 HC2
  go_wp2_with fail
  have hb := blk_new w4 (.cells #[.int .u16 98, .int .u16 99, .int .u16 0] 57)
  have hCl : (Kd.int .u16).C (w4.alloc (.cells #[.int .u16 98, .int .u16 99, .int .u16 0] 57)) (some ⟨w4.heap.size, 0, none⟩) 3 [98, 99, 0] := C_block (xs := [98, 99, 0]) hb rfl (by decide)
  have HB5 := Aside0.mk (below_alloc HB4.out (.cells #[.int .u16 98, .int .u16 99, .int .u16 0] 57))
  refine (okrow_calls _ 3 3 [98, 99, 0] _ hCl (Nat.le_refl _) (by omega) (by decide)).mono ?_
  rintro e w6 ⟨hB6, ⟨rfl, hn⟩ | ⟨rfl, _⟩⟩
  · exact absurd isBwt_ba (hn _)
  have HB6 := Aside0.mk (below_then HB5.out HB5.out.size hB6)
  clear hb hCl hB6 HB5 HB4
  go_wp2_with fail
  have hb := blk_new w6 (.cells #[.int .u16 98] 57)
  have hCl : (Kd.int .u16).C (w6.alloc (.cells #[.int .u16 98] 57)) (some ⟨w6.heap.size, 0, none⟩) 1 [98] := C_block (xs := [98]) hb rfl (by decide)
  have HB7 := Aside0.mk (below_alloc HB6.out (.cells #[.int .u16 98] 57))
  refine (okrow_calls _ 1 1 [98] _ hCl (Nat.le_refl _) (by omega) (by decide)).mono ?_
  rintro e w8 ⟨hB8, ⟨rfl, hn⟩ | ⟨rfl, ds, hi⟩⟩
  · have HB8 := Aside0.mk (below_then HB7.out HB7.out.size hB8)
    clear hb hCl hB8 HB7 HB6 hn
    go_wp2_with fail
    go_ret
    exact ⟨rfl, HB8.out⟩
  · exact absurd hi (not_98 ds)
end Go.Proofs.Ytadekjidjhglaaa
set_option linter.unusedVariables false
set_option linter.unusedSimpArgs false
namespace Go.Proofs.Ytadekjidjhglaaa
open Go.RowKit Go.Proofs.YtadekjidjhglaaaW.PrintWords Go.Proofs.YtadekjidjhglaaaW.PrintLast Go.Proofs.YtadekjidjhglaaaW.PrintMore

set_option maxRecDepth 100000 in
set_option maxHeartbeats 1000000 in
theorem step_bad (A : Option Addr) (n c : Nat) (l : List Int) (i : Int) (w : World) (h : Kd.C (Kd.int .u16) w A n l) (hm : n ≤ 1000000) (hl : ∀ x ∈ l, 0 ≤ x ∧ x ≤ 65535) (hi : -9223372036854775808 ≤ i ∧ i ≤ 9223372036854775807)
    (hb : i < 0 ∨ (n : Int) ≤ i ∨ l.getD i.toNat 0 = 0 ∨ 256 < l.getD i.toNat 0) :
    Calls Try.prog 45 #[.slice A n c, .int .i64 i] w fun e w' => e = .returned (.tuple #[.int .i64 0, .bool false]) ∧ w = w' := by
  have H := Aside0.mk h
  have HLN := Aside0.mk h.1
  have HLB := Aside0.mk hl
  clear h hl
  by_cases h0 : i < 0
  · clear hb
    go_enter Try.func45, Try.ntmps45
    go_wp2_with fail
    go_ret2
    exact ⟨rfl, rfl⟩
  · by_cases h1 : (n : Int) ≤ i
    · clear hb
      go_enter Try.func45, Try.ntmps45
      go_wp2_with fail
      go_ret2
      exact ⟨rfl, rfl⟩
    · obtain ⟨k, rfl⟩ := Int.eq_ofNat_of_zero_le (show 0 ≤ i by omega)
      have hk : k < n := by omega
      rw [Int.toNat_natCast] at hb
      obtain ⟨ad, e, hx⟩ := at_nat H.out (Below.refl _ _) k hk
      cases e
      have hxb := HLB.out _ (Sf.mem_of_getD (d := l) (p := k) (by rw [HLN.out]; exact hk))
      generalize l.getD k 0 = x at *
      by_cases hx0 : x = 0
      · subst hx0
        clear hb
        go_enter Try.func45, Try.ntmps45
        go_wp2_with fail
        go_ret2
        exact ⟨rfl, rfl⟩
      · have hx2 : x > 256 := by omega
        have hx3 : (x == 0) = false := by simpa using hx0
        clear hb
        go_enter Try.func45, Try.ntmps45
        go_wp2_with fail
        go_ret2
        exact ⟨rfl, rfl⟩
set_option maxRecDepth 100000 in
set_option maxHeartbeats 1000000 in
theorem step_calls (A : Option Addr) (n c : Nat) (l : List Int) (i : Nat) (w : World) (h : Kd.C (Kd.int .u16) w A n l) (hc : n ≤ c) (hm : n ≤ 1000000) (hl : ∀ x ∈ l, 0 ≤ x ∧ x ≤ 65535) (hi : i < n)
    (hx0 : l.getD i 0 ≠ 0) (hx1 : l.getD i 0 ≤ 256) :
    Calls Try.prog 45 #[.slice A n c, .int .i64 i] w fun e w' => e = .returned (.tuple #[.int .i64 (Sf.nextF l i : Int), .bool true]) ∧ Below w.heap.size w w' := by
  have H := Aside0.mk h
  have HLN := Aside0.mk h.1
  have HLB := Aside0.mk hl
  clear h hl
  obtain ⟨ad, e, hx⟩ := at_nat H.out (Below.refl _ _) i hi
  cases e
  have hxb := HLB.out _ (Sf.mem_of_getD (d := l) (p := i) (by rw [HLN.out]; exact hi))
  have HNX : Aside0 (Sf.nextF l i = Sf.belowC l (l.getD i 0) + Sf.sameC l (l.getD i 0) i) := ⟨rfl⟩
  obtain ⟨k, hke⟩ := Int.eq_ofNat_of_zero_le hxb.1
  rw [hke] at hx hxb HNX hx0 hx1
  have HXK := Aside0.mk hke
  clear hke
  have hi0 : decide ((i : Int) < 0) = false := decide_eq_false (by omega)
  have hk0 : 0 < k := by omega
  have hk1 : k < 257 := by omega
  have hkz : ((k : Int) == 0) = false := by have : ¬ ((k : Int) = 0) := by omega
                                            simpa using this
  have hkz' : decide ((k : Int) > 256) = false := decide_eq_false (by omega)
  have hNX := Sf.belowC l (k : Int)
  have HBB : Aside0 (Sf.belowC l (k : Int) ≤ 1000000 ∧ ∀ t, Sf.sameC l (k : Int) t ≤ t) := ⟨by have := belowC_le l (k : Int); have := HLN.out; omega, fun t => Sf.sameC_le l _ t⟩
  clear hx0 hx1 hNX
  go_enter Try.func45, Try.ntmps45
  go_wp2_with fail
  refine (starts_calls (some ad) n c l _ H.out HLB.out hm).mono ?_
  rintro e w1 ⟨rfl, hB1⟩
  have HB1 := Aside0.mk hB1
  clear hB1 hx
  go_upto_region 4 with (first | ((with_reducible refine gate_store (t := 58) (p := 6) rfl ?_); refine store_event rfl rfl rfl (store_run rfl rfl rfl (store_new l)) ?_; rintro w5 rfl))
  have HAT := Aside0.mk (arr_mk (xs := startsL l) HB1.out (startsL_length l))
  have HB2 := Aside0.mk (below_alloc HB1.out (.cells (nums .i64 (startsL l)).toArray 58))
  generalize w1.alloc (.cells (nums .i64 (startsL l)).toArray 58) = W2 at *
  generalize w1.heap.size = g at *
  have hc1 := own_nat HAT k (by omega)
  rw [startsL_at l hk1] at hc1
  obtain ⟨_, e, hx⟩ := at_nat H.out HB2.out i hi
  cases e
  rw [HXK.out] at hx
  have hin : (i : Int) ≤ (n : Int) := by omega
  have hic : (i : Int) ≤ (c : Int) := by omega
  have hb0 := HBB.out.1
  go_wp2_with fail
  go_loop [7, 44] (fun v7 v44 => ∃ t : Nat, v44 = .int .i64 t ∧ v7 = .int .i64 ((Sf.belowC l (k : Int) + Sf.sameC l (k : Int) t : Nat) : Int) ∧ Aside0 (t ≤ i)) (fun _ v44 => i - (intOf v44).toNat)
  case atStart => exact ⟨0, rfl, by simp [Sf.sameC], ⟨Nat.zero_le _⟩⟩
  case round =>
    obtain ⟨t, rfl, rfl, HT⟩ := hrel
    have hst := HBB.out.2 t
    by_cases hlt : t < i
    · obtain ⟨_, e, hy⟩ := at_nat H.out HB2.out t (by omega)
      cases e
      have hs := Sf.sameC_succ l (k : Int) (t := t) (by rw [HLN.out]; omega)
      generalize l.getD t 0 = y at *
      by_cases hyk : y = (k : Int)
      · rw [if_pos hyk] at hs
        subst hyk
        have HS := Aside0.mk hs
        clear hs
        generalize Sf.belowC l (k : Int) = b at *
        generalize Sf.sameC l (k : Int) t = z at *
        go_wp2_with fail
        go_round
        case rel => exact ⟨t + 1, by go_num, by rw [HS.out]; go_num, ⟨by omega⟩⟩
        case measure => simp [intOf]; omega
      · rw [if_neg hyk] at hs
        have hne : (y == (k : Int)) = false := by simpa using hyk
        have HS := Aside0.mk hs
        clear hs
        generalize Sf.belowC l (k : Int) = b at *
        generalize Sf.sameC l (k : Int) t = z at *
        go_wp2_with fail
        go_round
        case rel => exact ⟨t + 1, by go_num, by rw [HS.out]; rfl, ⟨by omega⟩⟩
        case measure => simp [intOf]; omega
    · have hti : t = i := by have := HT.out; omega
      subst hti
      go_wp2_with fail
      go_ret2
      exact ⟨by rw [HNX.out]; rfl, HB2.out⟩
end Go.Proofs.Ytadekjidjhglaaa
