/- Walks: text.New. -/
import Derived.Test.YtadekjidjhglaaaBg
import Derived.Deep.DrawnRows
import Derived.Deep.RegionLaw
set_option linter.unusedVariables false
set_option linter.unusedSimpArgs false
namespace Go.Proofs.Ytadekjidjhglaaa
open Go.RowKit Go.Proofs.YtadekjidjhglaaaW.PrintWords Go.Proofs.YtadekjidjhglaaaW.PrintLast Go.Proofs.YtadekjidjhglaaaW.PrintMore
attribute [local go_sem ↓] Go.wp_at_zero Go.wp_at_succ

/-- A Text that is being made, at block g. -/
def TS (w0 W : World) (g : Nat) (D : List (List Int)) (At Rw : List Int) (v0 v1 v2 : Value) : Prop :=
  W.heap[g]? = some (.cells #[v0, v1, v2] 83 (0, 0)) ∧ w0.heap.size ≤ g ∧ (part 5 .u8).R 23 W w0.heap.size (fun _ => True) v0 D ∧ (Kd.int .i64).R 3 W w0.heap.size (fun _ => True) v1 At ∧ (Kd.int .u16).R 57 W w0.heap.size (fun _ => True) v2 Rw ∧ Below w0.heap.size w0 W
theorem TS.below {w0 W W1 : World} {g : Nat} {D : List (List Int)} {At Rw : List Int} {v0 v1 v2 : Value} (h : TS w0 W g D At Rw v0 v1 v2) (hb : Below W.heap.size W W1) : TS w0 W1 g D At Rw v0 v1 v2 := by
  obtain ⟨h1, h2, h3, h4, h5, h6⟩ := h
  exact ⟨blk_below h1 hb, h2, Kd.R_below h3 hb, Kd.R_below h4 hb, Kd.R_below h5 hb, below_then h6 h6.size hb⟩

/-- A document more. -/
theorem TS_docs {w0 W w3 w4 : World} {g : Nat} {D : List (List Int)} {At Rw : List Int} {v0 v1 v2 : Value} {d : List Int} {v4 : Value} (h : TS w0 W g D At Rw v0 v1 v2) (hB : Below W.heap.size W w3)
    (hR : (part 5 .u8).R 23 w4 w0.heap.size (fun _ => True) v4 (D ++ [d])) (hg : w3.grownBy w4 v0.ownBlock) (hB4 : Below w0.heap.size w0 w4) (hne : v0.ownBlock ≠ some g) :
    TS w0 (w4.setCell ⟨g, 0, none⟩ v4) g (D ++ [d]) At Rw v4 v1 v2 := by
  obtain ⟨h1, h2, h3, h4, h5, h6⟩ := h
  have b3 := blk_below h1 hB
  have b4 := blk_grown b3 hg (fun e => hne e.symm)
  have R0 := Kd.R_below h3 hB
  have R1 := Kd.R_below h4 hB
  have R2 := Kd.R_below h5 hB
  have R1' := Kd.R_over R1 R0 (by decide) hg
  have R2' := Kd.R_over R2 R0 (by decide) hg
  refine ⟨?_, h2, Kd.R_set hR b4 (by decide) 0 v4, Kd.R_set R1' b4 (by decide) 0 v4, Kd.R_set R2' b4 (by decide) 0 v4, below_set hB4 h2⟩
  exact blk_put b4 0 v4 rfl

/-- A beginning more. -/
theorem TS_at {w0 W w3 w4 : World} {g : Nat} {D : List (List Int)} {At Rw : List Int} {v0 v1 v2 : Value} {x : Int} {v4 : Value} (h : TS w0 W g D At Rw v0 v1 v2) (hB : Below W.heap.size W w3)
    (hR : (Kd.int .i64).R 3 w4 w0.heap.size (fun _ => True) v4 (At ++ [x])) (hg : w3.grownBy w4 v1.ownBlock) (hB4 : Below w0.heap.size w0 w4) (hne : v1.ownBlock ≠ some g) :
    TS w0 (w4.setCell ⟨g, 1, none⟩ v4) g D (At ++ [x]) Rw v0 v4 v2 := by
  obtain ⟨h1, h2, h3, h4, h5, h6⟩ := h
  have b4 := blk_grown (blk_below h1 hB) hg (fun e => hne e.symm)
  have R0 := Kd.R_below h3 hB
  have R1 := Kd.R_below h4 hB
  have R2 := Kd.R_below h5 hB
  have R0' := Kd.R_over R0 R1 (by decide) hg
  have R2' := Kd.R_over R2 R1 (by decide) hg
  refine ⟨?_, h2, Kd.R_set R0' b4 (by decide) 1 v4, Kd.R_set hR b4 (by decide) 1 v4, Kd.R_set R2' b4 (by decide) 1 v4, below_set hB4 h2⟩
  exact blk_put b4 1 v4 rfl
/-- A symbol more. -/
theorem TS_row {w0 W w4 : World} {g : Nat} {D : List (List Int)} {At Rw Rw' : List Int} {v0 v1 v2 : Value} {v4 : Value} (h : TS w0 W g D At Rw v0 v1 v2)
    (hR : (Kd.int .u16).R 57 w4 w0.heap.size (fun _ => True) v4 Rw') (hg : W.grownBy w4 v2.ownBlock) (hB4 : Below w0.heap.size w0 w4) (hne : v2.ownBlock ≠ some g) :
    TS w0 (w4.setCell ⟨g, 2, none⟩ v4) g D At Rw' v0 v1 v4 := by
  obtain ⟨h1, h2, h3, h4, h5, h6⟩ := h
  have b4 := blk_grown h1 hg (fun e => hne e.symm)
  have R0' := Kd.R_over h3 h5 (by decide) hg
  have R1' := Kd.R_over h4 h5 (by decide) hg
  refine ⟨?_, h2, Kd.R_set R0' b4 (by decide) 2 v4, Kd.R_set R1' b4 (by decide) 2 v4, Kd.R_set hR b4 (by decide) 2 v4, below_set hB4 h2⟩
  exact blk_put b4 2 v4 rfl

theorem TS_done {w0 W : World} {g n : Nat} {ds : List (List Int)} {v0 v1 v2 : Value} (h : TS w0 W g (ds.take n) ((List.range n).map fun t => (Sf.startF ds t : Int)) (Sf.rowF (ds.take n)) v0 v1 v2) (hl : ds.length = n) : TextAt W g ds := by
  obtain ⟨h1, h2, h3, h4, h5, h6⟩ := h
  rw [List.take_of_length_le (by omega)] at h3 h5
  obtain ⟨A0, c0, rfl, l0, C0⟩ := R_is (n := ds.length) h3 rfl
  obtain ⟨A1, c1, rfl, l1, C1⟩ := R_is (n := ds.length) h4 (by simp [hl])
  obtain ⟨A2, c2, rfl, l2, C2⟩ := R_is (n := (Sf.rowF ds).length) h5 rfl
  exact ⟨A0, c0, A1, c1, A2, c2, (blk_cell h1 0).trans rfl, (blk_cell h1 1).trans rfl, (blk_cell h1 2).trans rfl, l0, l2, part_C C0, by rw [hl] at C1 ⊢; exact C1, C2⟩

/-- The j-th document of a row that came in, in a later world. -/
theorem at_doc {w w1 : World} {A : Option Addr} {n : Nat} {ds : List (List Int)} (h : Kd.C (Kd.slice 5 (Kd.int .u8)) w A n ds) (hb : Below w.heap.size w w1) (j : Nat) (hj : j < n) :
    ∃ ad A0 c0, A = some ad ∧ w1.cell? (ad.add j) = some (.slice A0 (Sf.docF ds j).length c0) ∧ (Sf.docF ds j).length ≤ c0 ∧ (Kd.int .u8).C w1 A0 (Sf.docF ds j).length (Sf.docF ds j) := by
  obtain ⟨ad, c, e, _, hK, hc0⟩ := Kd.C_get h ([] : List Int) (j : Int) (by omega) (by omega)
  obtain ⟨A0, c0, rfl, l0, g0⟩ := hK
  have hq := hc0 0 _ rfl
  have e1 : (j : Int).toNat * (Kd.slice 5 (Kd.int .u8)).sz + 0 = j := by show (j : Int).toNat * 1 + 0 = j; simp
  rw [e1] at hq
  rw [Int.toNat_natCast] at hq l0 g0
  exact ⟨ad, A0, c0, e, pw_cell_below hb hq, l0, Kd.C_below g0 hb⟩

theorem doc_M {w w1 w2 : World} {d : List Int} {cs : List Value} (h : (part 5 .u8).M w2 w1.heap.size (fun _ => True) d cs) (hle : w.heap.size ≤ w1.heap.size) : (part 5 .u8).M w2 w.heap.size (fun k => w1.heap.size ≤ k) d cs :=
  (part 5 .u8).M_lower hle ((part 5 .u8).M_mono (fun _ hk => hk.2.1) ((part 5 .u8).M_bound h))
theorem doc_ne {α : Type} {dd : Kd α} {e base : Nat} {w : World} {v : Value} {xs : List α} (h : dd.R e w base (fun _ => True) v xs) : ∀ k, w.heap.size ≤ k → True ∧ some k ≠ v.ownBlock := fun k hk => ⟨trivial, fun e => by have := Kd.R_lt h k e.symm; omega⟩

set_option maxRecDepth 100000 in
set_option maxHeartbeats 4000000 in
theorem new_calls (A : Option Addr) (n c : Nat) (ds : List (List Int)) (w : World) (h : Kd.C (Kd.slice 5 (Kd.int .u8)) w A n ds) (hl : ds.length = n) (hn : n ≤ 500) (hd : ∀ d ∈ ds, d.length ≤ 2000) (ht : Sf.lenF ds ≤ 60000) (hb : Sf.Bytes ds) :
    Calls Try.prog 38 #[.slice A n c] w fun e w' => ∃ g, e = .returned (.tuple #[.pointer (some ⟨g, 0, none⟩), .int .i64 0]) ∧ TextAt w' g ds ∧ w.heap.size ≤ g ∧ Below w.heap.size w w' := by
  have H := Aside0.mk h
  have HL := Aside0.mk hl
  have HD := Aside0.mk hd
  have HT := Aside0.mk ht
  have HBy := Aside0.mk hb
  clear h hl hd ht hb
  go_enter Try.func38, Try.ntmps38
  go_wp2_with fail
  go_loop [4, 17] (fun v4 v17 => ∃ j : Nat, v17 = .int .i64 j ∧ v4 = .int .i64 (Sf.startF ds j) ∧ Aside0 (j ≤ n)) (fun _ i => n - (intOf i).toNat)
  case atStart => exact ⟨0, rfl, by rw [Sf.startF_zero]; rfl, ⟨Nat.zero_le _⟩⟩
  case round =>
    obtain ⟨j, rfl, rfl, HJ⟩ := hrel
    by_cases hlt : j < n
    · obtain ⟨ad, Ad, cd, e, hx, hcd, hC⟩ := at_doc H.out (Below.refl _ _) j hlt
      cases e
      have hdl : (Sf.docF ds j).length ≤ 2000 := HD.out _ (by unfold Sf.docF; rw [List.getD_eq_getElem?_getD, List.getElem?_eq_getElem (by have := HL.out; omega)]; exact List.getElem_mem _)
      have hs := Sf.startF_succ ds (i := j) (by have := HL.out; omega)
      have hsl := Sf.startF_le ds j
      have hsb : Sf.startF ds j ≤ 60000 := by have := HT.out; omega
      have HS := Aside0.mk hs
      clear hC hcd hs hsl
      generalize (Sf.docF ds j).length = q at *
      generalize Sf.startF ds j = p at *
      go_wp2_with fail
      go_round
      case rel => exact ⟨j + 1, by go_num, by rw [HS.out]; go_num, ⟨by omega⟩⟩
      case measure => simp [intOf]; omega
    · have hj : j = n := by have := HJ.out; omega
      subst hj
      clear hlt HJ
      rw [show Sf.startF ds j = Sf.lenF ds by rw [← HL.out, Sf.startF_all]]
      have ht := HT.out
      have HLL : Aside0 (Sf.lenF ds ≤ 100000000) := ⟨by omega⟩
      have HB := Aside0.mk (Below.refl w.heap.size w)
      go_wp2_with (first | (at_make; refine mk_cap 53 57 2 Try.underlying53 info57 (by omega) (by omega) rfl _ _ rfl (Sf.lenF ds) rfl rfl HB HLL ?_; intro v1 w1 HO HB1 HG; clear HB HG; have HB := HB1; clear HB1; obtain ⟨Ar, cr, rfl, _, _⟩ := R_is (n := 0) HO.out rfl))
      have hTS : TS w (w1.alloc (.cells #[.slice none 0 0, .slice none 0 0, .slice Ar 0 cr] 83)) w1.heap.size (ds.take 0) [] (Sf.rowF (ds.take 0)) (.slice none 0 0) (.slice none 0 0) (.slice Ar 0 cr) :=
        ⟨by simpa using heap_alloc_new w1 (.cells #[.slice none 0 0, .slice none 0 0, .slice Ar 0 cr] 83), HB.out.size, Kd.R_nil _ _ _ _ _, Kd.R_nil _ _ _ _ _, Kd.R_alloc HO.out _, below_alloc HB.out _⟩
      have HTS := Aside0.mk hTS
      clear hTS HO HB HLL
      obtain ⟨g, hg⟩ : ∃ g, g = w1.heap.size := ⟨_, rfl⟩
      rw [← hg] at HTS ⊢
      clear hg
      generalize w1.alloc (.cells #[.slice none 0 0, .slice none 0 0, .slice Ar 0 cr] 83) = w2 at *
      go_loopw [38] (fun v38 w' => ∃ (i : Nat) (v0 v1 v2 : Value), v38 = .int .i64 i ∧ Aside0 (i ≤ j) ∧ Aside0 (TS w w' g (ds.take i) ((List.range i).map fun t => (Sf.startF ds t : Int)) (Sf.rowF (ds.take i)) v0 v1 v2)) (fun i _ => j - (intOf i).toNat)
      case atStart => exact ⟨0, _, _, _, rfl, ⟨Nat.zero_le _⟩, HTS⟩
      case round =>
        clear HTS
        obtain ⟨i, v0, v1, v2, rfl, HI, HTS⟩ := hrel
        by_cases hlt : i < j
        · obtain ⟨ad, Ad, cd, e, hx, hcd, hC⟩ := at_doc H.out (Below.refl _ _) i hlt
          cases e
          replace hx := pw_cell_below HTS.out.2.2.2.2.2 hx
          have HC0 := Aside0.mk hC
          replace hC := Kd.C_below hC HTS.out.2.2.2.2.2
          have hdl : (Sf.docF ds i).length ≤ 2000 := HD.out _ (by unfold Sf.docF; rw [List.getD_eq_getElem?_getD, List.getElem?_eq_getElem (by have := HL.out; omega)]; exact List.getElem_mem _)
          have HC := Aside0.mk hC
          clear hC
          have h0 := (blk_cell HTS.out.1 0).trans (rfl : _ = some v0)
          have HNE := Aside0.mk (fun h => (Kd.R_ne HTS.out.2.2.1 HTS.out.1 (by decide)) h.symm : v0.ownBlock ≠ some g)
          have HLEN : Aside0 ((ds.take i ++ [Sf.docF ds i]).length = i + 1) := ⟨by rw [List.length_append, List.length_take]; have := HL.out; simp; omega⟩
          go_upto_region 17 with fail
          go_cut [38] (fun s38 wx => s38 = .int .i64 i ∧ ∃ v0, Aside0 (TS w wx g (ds.take i ++ [Sf.docF ds i]) ((List.range i).map fun t => (Sf.startF ds t : Int)) (Sf.rowF (ds.take i)) v0 v1 v2))
          case first =>
            go_region_law
              (first
                | (refine goes_ Try.func66 (by kernel_rfl) rfl #[.slice Ad (Sf.docF ds i).length cd] (by rfl) rfl rfl (by simp [Act.eval, Act.put]) ?_; refine (own_calls Ad _ cd _ wr.drew (Kd.C_below HC.out (below_drew (Below.refl wr.heap.size wr))) (by omega)).mono ?_; rintro e w3 ⟨A1, rfl, hM, hB'⟩; have hB : Below wr.heap.size wr w3 := below_then (below_drew (Below.refl wr.heap.size wr)) (Nat.le_refl _) hB'; clear hB'; have h03 := pw_cell_below hB h0; have h05 := fun o => pw_cell_below (below_alloc (Below.refl w3.heap.size w3) o) h03; refine ⟨_, rfl, ?_⟩)
                | ((refine Kd.R_append_step (part 5 .u8) (w0 := w) w.heap.size (by rfl) (.tmp 46) (.tmp 49) 22 23 (.slice none 0 0) 24 (by rfl) Try.underlying22 info23 rfl (by decide) (by omega) v0 (ds.take i) (Sf.docF ds i) [.slice A1 (Sf.docF ds i).length (Sf.docF ds i).length] (fun _ => True) (fun k => wr.heap.size ≤ k) (by first | rfl | simp [Act.eval, Act.put]) (by first | rfl | simp [Act.eval, Act.put]) (doc_M hM HTS.out.2.2.2.2.2.size) (doc_ne HTS.out.2.2.1) (fun _ _ => trivial) (Kd.R_below HTS.out.2.2.1 hB) (below_then HTS.out.2.2.2.2.2 HTS.out.2.2.2.2.2.size hB) (below_then HTS.out.2.2.2.2.2 HTS.out.2.2.2.2.2.size hB).size (by rw [List.length_take]; omega) ?_; intro v4 w4 hR4 hB4 hg4 hat4; obtain ⟨A4, c4, rfl, hc4, _⟩ := R_is hR4 HLEN.out; have hf4 := blk_frozen (blk_grown (blk_below HTS.out.1 hB) hg4 (fun h => HNE.out h.symm)) 0; have h04 := cell_grown (pw_cell_below hB h0) hg4 HNE.out)))
            all_goals (have hfin := TS_docs HTS.out hB hR4 hg4 hB4 (HNE.out); have hfinA := Aside0.mk hfin; clear hfin; go_wp2_with fail; go_meet; exact ⟨rfl, _, hfinA⟩)
          case rest =>
            obtain ⟨rfl, v0, HTS⟩ := hcut
            clear HLEN HNE h0
            have h1 := (blk_cell HTS.out.1 1).trans (rfl : _ = some v1)
            have h2 := (blk_cell HTS.out.1 2).trans (rfl : _ = some v2)
            have hf1 := blk_frozen HTS.out.1 1
            have HNE := Aside0.mk (fun h => (Kd.R_ne HTS.out.2.2.2.1 HTS.out.1 (by decide)) h.symm : v1.ownBlock ≠ some g)
            have hrl : (Sf.rowF (ds.take i)).length = Sf.startF ds i := by rw [Sf.rowF_length]; rfl
            obtain ⟨Ar2, cr2, hv2, _, _⟩ := R_is HTS.out.2.2.2.2.1 hrl
            subst hv2
            have HLEN : Aside0 (((List.range i).map fun t => (Sf.startF ds t : Int)).length ≤ 100000) := ⟨by simp; omega⟩
            have h15 := fun o => pw_cell_below (below_alloc (Below.refl wc.heap.size wc) o) h1
            go_upto_region 18 with fail
            go_cut [38] (fun s38 wx => s38 = .int .i64 i ∧ ∃ v1, Aside0 (TS w wx g (ds.take i ++ [Sf.docF ds i]) (((List.range i).map fun t => (Sf.startF ds t : Int)) ++ [(Sf.startF ds i : Int)]) (Sf.rowF (ds.take i)) v0 v1 (.slice Ar2 (Sf.startF ds i) cr2)))
            case first =>
              go_region_law
                (first
                  | ((refine Kd.R_append_step (Kd.int .i64) (w0 := w) w.heap.size (by rfl) (.tmp 57) (.tmp 63) 28 3 (.int .i64 0) 8 (by rfl) Try.underlying28 info3 rfl (by decide) (by omega) v1 ((List.range i).map fun t => (Sf.startF ds t : Int)) (Sf.startF ds i : Int) [.int .i64 (Sf.startF ds i : Int)] (fun _ => True) (fun _ => False) (by first | rfl | simp [Act.eval, Act.put]) (by first | rfl | simp [Act.eval, Act.put]) rfl (fun _ hk => hk.elim) (fun _ _ => trivial) (Kd.R_drew HTS.out.2.2.2.1) (below_drew HTS.out.2.2.2.2.2) (below_drew HTS.out.2.2.2.2.2).size (by have := HLEN.out; omega) ?_; intro v4 w4 hR4 hB4 hg4 hat4; obtain ⟨A4, c4, rfl, hc4, _⟩ := R_is (n := i + 1) hR4 (by simp); have hf4 := blk_frozen (blk_grown (blk_drew HTS.out.1) hg4 (fun h => HNE.out h.symm)) 1; have h04 := cell_grown (w := wc.drew) h1 hg4 HNE.out)))
              all_goals (have hfin := TS_at HTS.out (by first | exact below_drew (Below.refl _ _) | exact below_drew (below_alloc (Below.refl _ _) _)) hR4 hg4 hB4 (HNE.out); have hfinA := Aside0.mk hfin; clear hfin; go_wp2_with fail; go_meet; exact ⟨rfl, _, hfinA⟩)
            case rest =>
              obtain ⟨rfl, v1, HTS⟩ := hcut
              clear HLEN HNE h1 h2 hf1 h15
              have HRL := Aside0.mk hrl
              clear hrl
              go_wp2_with fail
              go_loopw [69] (fun v69 w' => ∃ (t : Nat) (v2 : Value), v69 = .int .i64 t ∧ Aside0 (t ≤ (Sf.docF ds i).length) ∧ Aside0 (TS w w' g (ds.take i ++ [Sf.docF ds i]) (((List.range i).map fun t => (Sf.startF ds t : Int)) ++ [(Sf.startF ds i : Int)]) (Sf.rowF (ds.take i) ++ ((Sf.docF ds i).map (· + 1)).take t) v0 v1 v2)) (fun t _ => (Sf.docF ds i).length - (intOf t).toNat)
              case atStart => exact ⟨0, _, rfl, ⟨Nat.zero_le _⟩, ⟨by simpa using HTS.out⟩⟩
              case round =>
                clear HTS
                obtain ⟨t, v2, rfl, HTT, HTS⟩ := hrel
                have hql : (Sf.rowF (ds.take i)).length ≤ 60000 := by rw [HRL.out]; have := Sf.startF_le ds i; have := HT.out; omega
                have h2 := (blk_cell HTS.out.1 2).trans (rfl : _ = some v2)
                have HNE := Aside0.mk (fun h => (Kd.R_ne HTS.out.2.2.2.2.1 HTS.out.1 (by decide)) h.symm : v2.ownBlock ≠ some g)
                have HO := Aside0.mk HTS.out.2.2.2.2.1
                have HB := Aside0.mk HTS.out.2.2.2.2.2
                by_cases hlt : t < (Sf.docF ds i).length
                · obtain ⟨ad2, e1, hx2⟩ := at_nat HC0.out HB.out t hlt
                  cases e1
                  have hcb := HBy.out.doc i _ (Sf.mem_of_getD hlt)
                  have hts := Sf.take_snoc ((Sf.docF ds i).map (· + 1)) (p := t) (by simpa using hlt)
                  rw [Sf.getD_map_lt _ hlt] at hts
                  have HTSN := Aside0.mk hts
                  clear hts
                  have HLT : Aside0 ((Sf.rowF (ds.take i) ++ ((Sf.docF ds i).map (· + 1)).take t).length ≤ 100000000) := ⟨by rw [List.length_append, List.length_take, List.length_map]; omega⟩
                  have HRN : Aside0 ((Sf.rowF (ds.take i) ++ ((Sf.docF ds i).map (· + 1)).take t).length = (Sf.rowF (ds.take i)).length + t) := ⟨by rw [List.length_append, List.length_take, List.length_map]; omega⟩
                  generalize (Sf.docF ds i).getD t 0 = x at *
                  go_wp2_with (first | (at_builtin; refine app_u16 rfl _ _ rfl _ _ _ rfl rfl HO HB HLT ?_; intro v4 w4 HO1 HB1 HG hat; clear hat; have hb4 := blk_grown HTS.out.1 HG.out (fun e => HNE.out e.symm); have hf4 := blk_frozen hb4 2; have h42 := (blk_cell hb4 2).trans (rfl : _ = some v2); obtain ⟨A4, c4, rfl, _, _⟩ := R_is (n := (Sf.rowF (ds.take i)).length + t + 1) HO1.out (by rw [List.length_append, HRN.out]; rfl); have hfin := TS_row HTS.out HO1.out HG.out HB1.out HNE.out; have hfinA := Aside0.mk hfin; clear hfin HB HO HG hb4))
                  go_roundw
                  case rel => exact ⟨t + 1, _, by go_num, ⟨by omega⟩, ⟨by rw [HTSN.out, ← List.append_assoc]; exact hfinA.out⟩⟩
                  case measure => simp [intOf]; omega
                · have htq : t = (Sf.docF ds i).length := by have := HTT.out; omega
                  have htk : ((Sf.docF ds i).map (· + 1)).take t = (Sf.docF ds i).map (· + 1) := List.take_of_length_le (by simp; omega)
                  rw [htk] at HO HTS
                  have hrs := Sf.rowF_take_succ ds (i := i) (by have := HL.out; omega)
                  have hds := Sf.take_succ_doc ds (i := i) (by have := HL.out; omega)
                  have HRS := Aside0.mk hrs
                  have HDS := Aside0.mk hds
                  have HLT : Aside0 ((Sf.rowF (ds.take i) ++ (Sf.docF ds i).map (· + 1)).length ≤ 100000000) := ⟨by rw [List.length_append, List.length_map]; omega⟩
                  have HRN : Aside0 ((Sf.rowF (ds.take i) ++ (Sf.docF ds i).map (· + 1)).length = (Sf.rowF (ds.take i)).length + t) := ⟨by rw [List.length_append, List.length_map]; omega⟩
                  clear htk hrs hds
                  have htq' : (Sf.docF ds i).length ≤ t := by omega
                  clear htq
                  go_wp2_with (first | (at_builtin; refine app_u16 rfl _ _ rfl _ _ _ rfl rfl HO HB HLT ?_; intro v4 w4 HO1 HB1 HG hat; clear hat; have hb4 := blk_grown HTS.out.1 HG.out (fun e => HNE.out e.symm); have hf4 := blk_frozen hb4 2; have h42 := (blk_cell hb4 2).trans (rfl : _ = some v2); obtain ⟨A4, c4, rfl, _, _⟩ := R_is (n := (Sf.rowF (ds.take i)).length + t + 1) HO1.out (by rw [List.length_append, HRN.out]; rfl); have hfin := TS_row HTS.out HO1.out HG.out HB1.out HNE.out; have hfinA := Aside0.mk hfin; clear hfin HB HO HG hb4))
                  go_roundw
                  case rel => exact ⟨i + 1, _, _, _, by go_num, ⟨by omega⟩, ⟨by rw [HDS.out, List.range_succ, List.map_append, ← HDS.out, HRS.out, HDS.out]; exact hfinA.out⟩⟩
                  case measure => simp [intOf]; omega
        · have hij : i = j := by have := HI.out; omega
          subst hij
          have hfin := TS_done HTS.out HL.out
          go_wp2_with fail
          go_ret2
          exact ⟨g, rfl, hfin, HTS.out.2.1, HTS.out.2.2.2.2.2⟩
end Go.Proofs.Ytadekjidjhglaaa
