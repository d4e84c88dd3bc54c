/- Walks: the reference's Common. -/
import Derived.Test.YtadekjidjhglaaaSh
import Derived.Test.YtadekjidjhglaaaBm
set_option linter.unusedVariables false
set_option linter.unusedSimpArgs false
namespace Go.Proofs.Ytadekjidjhglaaa.Sf
open Go.RowKit Go.Proofs.YtadekjidjhglaaaW.PrintWords
def cutS (d : List Int) (o : Nat) : ByteArray := (strOfNums d).extract o (strOfNums d).size
theorem cutS_data (d : List Int) (o : Nat) : (cutS d o).data.toList = u8L (d.drop o) := by rw [← ByteArray.toList_eq]; exact str_drop d o
theorem cutS_size (d : List Int) (o : Nat) : (cutS d o).size = (d.drop o).length := by
  have := congrArg List.length (cutS_data d o)
  simp only [u8L, List.length_map] at this
  rw [← this]; rfl
theorem cutS_bt {d : List Int} (hb : Byte1 d) (o k : Nat) (hk : k < (d.drop o).length) : bt (cutS d o) (k : Int) = (d.drop o).getD k 0 := by
  have hs := cutS_size d o
  unfold bt
  rw [Int.toNat_natCast, dif_pos (by omega)]
  have h1 : (cutS d o)[k]'(by omega) = (u8L (d.drop o))[k]'(by simp [u8L]; simpa using hk) := by
    have h2 : (cutS d o)[k]'(by omega) = (cutS d o).data.toList[k]'(by rw [cutS_data]; simp [u8L]; simpa using hk) := by
      rw [Array.getElem_toList]; rfl
    rw [h2]
    congr 1
    exact cutS_data d o
  rw [h1]
  have hc := byte1_drop hb o _ (List.getElem_mem hk)
  rw [List.getD_eq_getElem?_getD, List.getElem?_eq_getElem hk]
  simp only [u8L, List.getElem_map, UInt8.toNat_ofNat', Option.getD_some]
  omega
theorem comF_length (r : List Int) (sa : List Nat) : (comF r sa).length = r.length := by simp [comF]
theorem comF_take (r : List Int) (sa : List Nat) {i : Nat} (h : i < r.length) : (comF r sa).take i ++ [if i = 0 then 0 else (CN r sa i : Int)] = (comF r sa).take (i + 1) := by
  rw [List.take_add_one]
  congr 1
  unfold comF
  rw [List.getElem?_map, List.getElem?_range h]
  rfl
theorem CN_hits {ds : List (List Int)} (hb : Bytes ds) {r : List (Nat × Nat)} (hp : r.Perm (hitsF 0 ds)) {i : Nat} (h0 : 0 < i) (h1 : i < r.length) :
    CN (r0 ds) (r.map (placeF ds)) i = lcp ((docF ds (r.getD (i - 1) (0, 0)).1).drop (r.getD (i - 1) (0, 0)).2) ((docF ds (r.getD i (0, 0)).1).drop (r.getD i (0, 0)).2) := by
  have hg : ∀ t, t < r.length → (r.map (placeF ds)).getD t 0 = placeF ds (r.getD t (0, 0)) ∧ r.getD t (0, 0) ∈ hitsF 0 ds := by
    intro t ht
    rw [List.getD_eq_getElem?_getD, List.getElem?_map, List.getD_eq_getElem?_getD, List.getElem?_eq_getElem ht]
    exact ⟨rfl, hp.subset (List.getElem_mem ht)⟩
  have hnd : r.Nodup := hp.nodup_iff.2 (by
    have h : ((hitsF 0 ds).map (placeF ds)).Nodup := by rw [place_hits]; exact List.nodup_range
    unfold List.Nodup at h ⊢
    rw [List.pairwise_map] at h
    exact h.imp (fun h e => h (by rw [e])))
  have hne : r.getD (i - 1) (0, 0) ≠ r.getD i (0, 0) := by
    rw [List.getD_eq_getElem?_getD, List.getD_eq_getElem?_getD, List.getElem?_eq_getElem (show i - 1 < r.length by omega), List.getElem?_eq_getElem h1]
    exact List.pairwise_iff_getElem.1 hnd (i - 1) i (by omega) h1 (by omega)
  unfold CN
  rw [(hg i h1).1, (hg (i - 1) (by omega)).1, lcp_comm]
  exact lcp_hits hb (hg (i - 1) (by omega)).2 (hg i h1).2 hne
end Go.Proofs.Ytadekjidjhglaaa.Sf
namespace Go.Proofs.Ytadekjidjhglaaa
open Go.RowKit Go.Proofs.YtadekjidjhglaaaW.PrintWords Go.Proofs.YtadekjidjhglaaaW.PrintLast Go.Proofs.YtadekjidjhglaaaW.PrintMore

set_option maxRecDepth 100000 in
set_option maxHeartbeats 1000000 in
theorem refCommon_calls (ds : List (List Int)) (hb : Sf.Bytes ds) (A0 : Option Addr) (m c0 : Nat) (A1 : Option Addr) (n c1 : Nat) (r : List (Nat × Nat)) (w : World) (h0 : Kd.C Kd.string w A0 m (Sf.strsF ds)) (h1 : HC w A1 n r) (hs : SortedHits ds (Sf.hitsF 0 ds) r) (hn : n ≤ 1000000) :
    Calls Try.prog 26 #[.slice A0 m c0, .slice A1 n c1] w fun e w' => ∃ v, e = .returned v ∧ Kd.R (Kd.int .i64) 3 w' w.heap.size (fun _ => True) v (Sf.comF (Sf.r0 ds) (r.map (Sf.placeF ds))) ∧ Below w.heap.size w w' := by
  have hl := HC_len h1
  have hl2 : (Sf.r0 ds).length = n := by rw [Sf.r0_length, ← Sf.hitsF_length 0 ds, ← hs.1.length_eq]; exact hl
  have hl3 : ds.length = m := by rw [← Sf.strsF_length]; exact h0.1
  have H0 := Aside0.mk h0
  have H1 := Aside0.mk h1
  have HS := Aside0.mk hs
  have HLL := Aside0.mk (And.intro hl (And.intro hl2 hl3))
  have HB := Aside0.mk (Below.refl w.heap.size w)
  have HO := Aside0.mk (Kd.R_nil (Kd.int .i64) 3 w w.heap.size (fun _ => True))
  clear h0 h1 hs hl hl2 hl3
  go_enter Try.func26, Try.ntmps26
  go_wp2_with fail
  go_loopw [5, 6, 7, 8, 9] (fun v5 v6 v7 v8 v9 w' => ∃ i : Nat, v6 = .int .i64 i ∧ Aside0 (i ≤ n) ∧ Aside0 (Kd.R (Kd.int .i64) 3 w' w.heap.size (fun _ => True) v5 ((Sf.comF (Sf.r0 ds) (r.map (Sf.placeF ds))).take i)) ∧ Aside0 (Below w.heap.size w w')) (fun _ v6 _ _ _ _ => n - (intOf v6).toNat)
  case atStart => exact ⟨0, rfl, ⟨Nat.zero_le _⟩, HO, HB⟩
  case round =>
    clear HO HB
    obtain ⟨i, rfl, HI, HO, HB⟩ := hrel
    have HLE : Aside0 (((Sf.comF (Sf.r0 ds) (r.map (Sf.placeF ds))).take i).length ≤ 100000000) := ⟨by rw [List.length_take, Sf.comF_length, HLL.out.2.1]; omega⟩
    by_cases hlt : i < n
    · have HT := Aside0.mk (Sf.comF_take (Sf.r0 ds) (r.map (Sf.placeF ds)) (i := i) (by rw [HLL.out.2.1]; exact hlt))
      by_cases hi0 : i = 0
      · subst hi0
        rw [if_pos rfl] at HT
        go_wp2_with (first | (at_builtin; refine app_i64 (w0 := w) rfl (.tmp 69) (.tmp 71) rfl u5 _ _ rfl rfl HO HB HLE ?_; intro v2 w2 HO1 HB1 hg hat; clear hg hat HO HB))
        exact ⟨⟨1, rfl, ⟨by omega⟩, ⟨by rw [← HT.out]; exact HO1.out⟩, HB1⟩, by simp [intOf]; omega⟩
      · rw [if_neg hi0] at HT
        have hC := Sf.CN_hits hb HS.out.1 (i := i) (by omega) (by rw [HLL.out.1]; exact hlt)
        rw [hC] at HT
        have hpos : (i : Int) > 0 := by omega
        obtain ⟨ad1, e, hp1, hp2⟩ := HC_at H1.out HB.out (i := i - 1) (by omega)
        cases e
        obtain ⟨_, e, hq1, hq2⟩ := HC_at H1.out HB.out (i := i) hlt
        cases e
        have hg : ∀ t, t < n → r.getD t (0, 0) ∈ Sf.hitsF 0 ds := fun t ht => HS.out.1.subset (by have := HLL.out.1; rw [List.getD_eq_getElem?_getD, List.getElem?_eq_getElem (by omega)]; exact List.getElem_mem _)
        have hbp := Sf.hit_bounds (hg (i - 1) (by omega))
        have hbq := Sf.hit_bounds (hg i hlt)
        clear hg hC
        generalize r.getD (i - 1) (0, 0) = p at *
        generalize r.getD i (0, 0) = q at *
        obtain ⟨ad0, e, hs1⟩ := str_at H0.out HB.out (i := p.1) (by have := HLL.out.2.2; omega)
        cases e
        obtain ⟨_, e, hs2⟩ := str_at H0.out HB.out (i := q.1) (by have := HLL.out.2.2; omega)
        cases e
        have hpm : p.1 < m := by have := HLL.out.2.2; omega
        have hqm : q.1 < m := by have := HLL.out.2.2; omega
        have hz1 : (p.2 : Int) ≤ ((strOfNums (Sf.docF ds p.1)).size : Int) := by rw [strOfNums_size]; omega
        have hz2 : (q.2 : Int) ≤ ((strOfNums (Sf.docF ds q.1)).size : Int) := by rw [strOfNums_size]; omega
        go_wp2_with fail
        go_quiet (fail)
        have HX : Aside0 (((strOfNums (Sf.docF ds p.1)).extract p.2 (strOfNums (Sf.docF ds p.1)).size).size = ((Sf.docF ds p.1).drop p.2).length ∧ ∀ k, k < ((Sf.docF ds p.1).drop p.2).length → bt ((strOfNums (Sf.docF ds p.1)).extract p.2 (strOfNums (Sf.docF ds p.1)).size) (k : Int) = ((Sf.docF ds p.1).drop p.2).getD k 0) := ⟨⟨Sf.cutS_size _ _, fun k hk => Sf.cutS_bt (Sf.byte1_doc hb p.1) p.2 k hk⟩⟩
        have HY : Aside0 (((strOfNums (Sf.docF ds q.1)).extract q.2 (strOfNums (Sf.docF ds q.1)).size).size = ((Sf.docF ds q.1).drop q.2).length ∧ ∀ k, k < ((Sf.docF ds q.1).drop q.2).length → bt ((strOfNums (Sf.docF ds q.1)).extract q.2 (strOfNums (Sf.docF ds q.1)).size) (k : Int) = ((Sf.docF ds q.1).drop q.2).getD k 0) := ⟨⟨Sf.cutS_size _ _, fun k hk => Sf.cutS_bt (Sf.byte1_doc hb q.1) q.2 k hk⟩⟩
        have hlxb : ((Sf.docF ds p.1).drop p.2).length ≤ (Sf.docF ds p.1).length := by rw [List.length_drop]; omega
        generalize (strOfNums (Sf.docF ds p.1)).extract p.2 (strOfNums (Sf.docF ds p.1)).size = sx at *
        generalize (strOfNums (Sf.docF ds q.1)).extract q.2 (strOfNums (Sf.docF ds q.1)).size = sy at *
        have hbig : (Sf.docF ds p.1).length ≤ 1000000 := by
          have h1 := Sf.startF_succ ds (i := p.1) (by have := HLL.out.2.2; omega)
          have h2 := Sf.startF_le ds (p.1 + 1)
          have h3 := HLL.out.2.1
          rw [Sf.r0_length] at h3
          omega
        generalize hxx : (Sf.docF ds p.1).drop p.2 = x at *
        generalize hyy : (Sf.docF ds q.1).drop q.2 = y at *
        have hLx : Sf.lcp x y ≤ 1000000 := by have := (Sf.lcp_le x y).1; omega
        clear hlxb hbig hs1 hs2 hp1 hp2 hq1 hq2 hz1 hz2 hbp hbq hxx hyy
        have HO2 := fun m => Aside0.mk (Kd.R_drewN HO.out m)
        have HB2 := fun m => Aside0.mk (pw_below_drewN HB.out m)
        clear HO HB
        go_wp2_with fail
        go_loopw [7] (fun v7 w' => ∃ k : Nat, v7 = .int .i64 k ∧ Aside0 (k ≤ Sf.lcp x y) ∧ Aside0 (Kd.R (Kd.int .i64) 3 w' w.heap.size (fun _ => True) u5 ((Sf.comF (Sf.r0 ds) (r.map (Sf.placeF ds))).take i)) ∧ Aside0 (Below w.heap.size w w')) (fun v7 _ => Sf.lcp x y - (intOf v7).toNat)
        case atStart => exact ⟨0, rfl, ⟨Nat.zero_le _⟩, HO2 _, HB2 _⟩
        case round =>
          clear HO2 HB2
          obtain ⟨k, rfl, HK, HO, HB⟩ := hrel
          have hlc := Sf.lcp_le x y
          have HO2 := fun m => Aside0.mk (Kd.R_drewN HO.out m)
          have HB2 := fun m => Aside0.mk (pw_below_drewN HB.out m)
          have hkL := HK.out
          by_cases hk : k < Sf.lcp x y
          · have hkx : (k : Int) < (sx.size : Int) := by rw [HX.out.1]; omega
            have hky : (k : Int) < (sy.size : Int) := by rw [HY.out.1]; omega
            obtain ⟨vx, hb1, hvx⟩ : ∃ vx : Int, (∀ h : k < sx.size, ((sx[k]'h).toNat : Int) = vx) ∧ vx = x.getD k 0 := ⟨_, fun h => by rw [← HX.out.2 k (by omega)]; exact bt_at sx (k : Int) h, rfl⟩
            have hb2 : ∀ h : k < sy.size, ((sy[k]'h).toNat : Int) = vx := fun h => by rw [hvx, Sf.lcp_in x y k hk, ← HY.out.2 k (by omega)]; exact bt_at sy (k : Int) h
            clear hvx hlc hkL HO HB
            go_wp2_with fail
            go_quiet (fail)
            go_wp2_with fail
            go_roundw
            case rel => exact ⟨k + 1, by go_num, ⟨by omega⟩, HO2 _, HB2 _⟩
            case measure => simp [intOf]; omega
          · have hkE : k = Sf.lcp x y := by omega
            have HKE := Aside0.mk hkE
            by_cases hxl : k < x.length
            · have hkx : (k : Int) < (sx.size : Int) := by rw [HX.out.1]; omega
              by_cases hyl : k < y.length
              · have hky : (k : Int) < (sy.size : Int) := by rw [HY.out.1]; omega
                have hne := Sf.lcp_at x y (by omega) (by omega)
                rw [← hkE] at hne
                obtain ⟨vx, hb1, hvx⟩ : ∃ vx : Int, (∀ h : k < sx.size, ((sx[k]'h).toNat : Int) = vx) ∧ vx = x.getD k 0 := ⟨_, fun h => by rw [← HX.out.2 k (by omega)]; exact bt_at sx (k : Int) h, rfl⟩
                obtain ⟨vy, hb2, hvy⟩ : ∃ vy : Int, (∀ h : k < sy.size, ((sy[k]'h).toNat : Int) = vy) ∧ vy = y.getD k 0 := ⟨_, fun h => by rw [← HY.out.2 k (by omega)]; exact bt_at sy (k : Int) h, rfl⟩
                rw [← hvx, ← hvy] at hne
                have heq : (vx == vy) = false := by simpa using hne
                clear hvx hvy hne hkE
                clear hlc hkL HO HB
                go_wp2_with fail
                go_quiet (fail)
                have HO3 := fun m => HO2 m
                go_wp2_with (first | (at_builtin; refine app_i64 (w0 := w) rfl (.tmp 69) (.tmp 71) rfl u5 _ _ rfl rfl (HO2 _) (HB2 _) HLE ?_; intro v2 w2 HO1 HB1 hg hat; clear hg hat HO2 HB2))
                exact ⟨⟨i + 1, by go_num, ⟨by omega⟩, ⟨by rw [← HT.out, ← HKE.out]; exact HO1.out⟩, HB1⟩, by simp [intOf]; omega⟩
                
              · have hky : decide ((k : Int) < (sy.size : Int)) = false := by rw [HY.out.1]; simp; omega
                have hky2 : decide (k < sy.size) = false := by rw [HY.out.1]; simp; omega
                obtain ⟨vx, hb1⟩ : ∃ vx : Int, (∀ h : k < sx.size, ((sx[k]'h).toNat : Int) = vx) := ⟨_, fun h => bt_at sx (k : Int) h⟩
                clear hkE
                clear hlc hkL HO HB
                go_wp2_with fail
                go_quiet (fail)
                have HO3 := fun m => HO2 m
                go_wp2_with (first | (at_builtin; refine app_i64 (w0 := w) rfl (.tmp 69) (.tmp 71) rfl u5 _ _ rfl rfl (HO2 _) (HB2 _) HLE ?_; intro v2 w2 HO1 HB1 hg hat; clear hg hat HO2 HB2))
                exact ⟨⟨i + 1, by go_num, ⟨by omega⟩, ⟨by rw [← HT.out, ← HKE.out]; exact HO1.out⟩, HB1⟩, by simp [intOf]; omega⟩
                
            · have hkx : decide ((k : Int) < (sx.size : Int)) = false := by rw [HX.out.1]; simp; omega
              have hkx2 : decide (k < sx.size) = false := by rw [HX.out.1]; simp; omega
              clear hkE
              clear hlc hkL HO HB
              go_wp2_with fail
              go_quiet (fail)
              have HO3 := fun m => HO2 m
              go_wp2_with (first | (at_builtin; refine app_i64 (w0 := w) rfl (.tmp 69) (.tmp 71) rfl u5 _ _ rfl rfl (HO2 _) (HB2 _) HLE ?_; intro v2 w2 HO1 HB1 hg hat; clear hg hat HO2 HB2))
              exact ⟨⟨i + 1, by go_num, ⟨by omega⟩, ⟨by rw [← HT.out, ← HKE.out]; exact HO1.out⟩, HB1⟩, by simp [intOf]; omega⟩
              
    · have hj : i = n := by have := HI.out; omega
      have hfu : (Sf.comF (Sf.r0 ds) (r.map (Sf.placeF ds))).take i = Sf.comF (Sf.r0 ds) (r.map (Sf.placeF ds)) := List.take_of_length_le (by rw [Sf.comF_length, HLL.out.2.1]; omega)
      rw [hfu] at HO
      clear hfu
      go_wp2_with fail
      go_ret
      exact ⟨_, rfl, HO.out, HB.out⟩
end Go.Proofs.Ytadekjidjhglaaa
