/- Walks: the reference's Rows and Array. -/
import Derived.Test.YtadekjidjhglaaaBl
import Derived.Test.YtadekjidjhglaaaBj
set_option linter.unusedVariables false
set_option linter.unusedSimpArgs false
namespace Go.Proofs.Ytadekjidjhglaaa.Sf
theorem hits_at (ds : List (List Int)) : ∀ (j i k : Nat), i < ds.length → k ≤ (docF ds i).length → (hitsF j ds)[startF ds i + k]? = some (j + i, k) := by
  induction ds with
  | nil => intro j i k h; simp at h
  | cons d ds ih =>
    intro j i k hi hk
    unfold hitsF
    match i with
    | 0 =>
      have hk' : k ≤ d.length := hk
      have e : startF (d :: ds) 0 = 0 := rfl
      rw [e, Nat.zero_add, List.getElem?_append_left (by simp; omega), List.getElem?_map, List.getElem?_range (by omega)]
      rfl
    | i + 1 =>
      rw [startF_succ_cons, List.getElem?_append_right (by simp; omega)]
      have : d.length + 1 + startF ds i + k - ((List.range (d.length + 1)).map fun o => (j, o)).length = startF ds i + k := by simp; omega
      rw [this, ih (j + 1) i k (by simpa using hi) hk]
      simp; omega
theorem hits_take (ds : List (List Int)) {i k : Nat} (hi : i < ds.length) (hk : k ≤ (docF ds i).length) : (hitsF 0 ds).take (startF ds i + k) ++ [(i, k)] = (hitsF 0 ds).take (startF ds i + (k + 1)) := by
  have h := hits_at ds 0 i k hi hk
  rw [Nat.zero_add] at h
  rw [← Nat.add_assoc, List.take_add_one, h]
  rfl
theorem hits_nodup (ds : List (List Int)) : (hitsF 0 ds).Nodup := by
  have h : ((hitsF 0 ds).map (placeF ds)).Nodup := by rw [place_hits]; exact List.nodup_range
  unfold List.Nodup at h ⊢
  rw [List.pairwise_map] at h
  exact h.imp (fun h e => h (by rw [e]))
end Go.Proofs.Ytadekjidjhglaaa.Sf
namespace Go.Proofs.Ytadekjidjhglaaa
open Go.RowKit Go.Proofs.YtadekjidjhglaaaW.PrintWords Go.Proofs.YtadekjidjhglaaaW.PrintLast Go.Proofs.YtadekjidjhglaaaW.PrintMore

theorem str_at {A0 : Option Addr} {m : Nat} {ds : List (List Int)} {w W : World} (h : Kd.C Kd.string w A0 m (Sf.strsF ds)) (hB : Below w.heap.size w W) {i : Nat} (hi : i < m) :
    ∃ ad, A0 = some ad ∧ W.cell? (ad.add i) = some (.string (strOfNums (Sf.docF ds i))) := by
  have hl : (Sf.strsF ds).length = m := h.1
  have hl2 := Sf.strsF_length ds
  obtain ⟨ad, e, hx⟩ := Kd.at_string h (i : Int) (by omega) (by omega)
  rw [Sf.strsF_at ds (by omega), Int.toNat_natCast] at hx
  exact ⟨ad, e, pw_cell_below hB hx⟩

set_option maxRecDepth 100000 in
set_option maxHeartbeats 1000000 in
theorem rows_calls (ds : List (List Int)) (hb : Sf.Bytes ds) (hbig : Sf.lenF ds ≤ 1000000) (A0 : Option Addr) (m c0 : Nat) (hm : m ≤ c0) (w : World) (h0 : Kd.C Kd.string w A0 m (Sf.strsF ds)) :
    Calls Try.prog 27 #[.slice A0 m c0] w fun e w' => ∃ A c r, e = .returned (.slice A (Sf.lenF ds) c) ∧ Sf.lenF ds ≤ c ∧ HC w' A (Sf.lenF ds) r ∧ SortedHits ds (Sf.hitsF 0 ds) r ∧ Below w.heap.size w w' := by
  have hl : ds.length = m := by rw [← Sf.strsF_length]; exact h0.1
  have hdl : ds.length ≤ Sf.lenF ds := by rw [lenF_sum]; omega
  have H0 := Aside0.mk h0
  have HL := Aside0.mk hl
  have HB := Aside0.mk (Below.refl w.heap.size w)
  have HO := Aside0.mk (Kd.R_nil k86 86 w w.heap.size (fun _ => True))
  clear h0
  go_enter Try.func27, Try.ntmps27
  go_wp2_with fail
  go_loopw [3, 4, 5] (fun v3 v4 v5 w' => ∃ i : Nat, v4 = .int .i64 i ∧ Aside0 (i ≤ m) ∧ Aside0 (Kd.R k86 86 w' w.heap.size (fun _ => True) v3 (((Sf.hitsF 0 ds).take (Sf.startF ds i)).map tS)) ∧ Aside0 (Below w.heap.size w w')) (fun _ v4 _ _ => m - (intOf v4).toNat)
  case atStart => exact ⟨0, rfl, ⟨Nat.zero_le _⟩, HO, HB⟩
  case round =>
    clear HO HB
    obtain ⟨i, rfl, HI, HO, HB⟩ := hrel
    by_cases hlt : i < m
    · obtain ⟨wq, hwq⟩ : ∃ wq, wq = wr := ⟨_, rfl⟩
      have HLT := Aside0.mk (show i < ds.length by omega)
      go_wp2_with fail
      go_loopw [3, 5] (fun v3 v5 w' => ∃ k : Nat, v5 = .int .i64 k ∧ Aside0 (k ≤ (Sf.docF ds i).length + 1) ∧ Aside0 (Kd.R k86 86 w' w.heap.size (fun _ => True) v3 (((Sf.hitsF 0 ds).take (Sf.startF ds i + k)).map tS)) ∧ Aside0 (Below w.heap.size w w')) (fun _ v5 _ => (Sf.docF ds i).length + 1 - (intOf v5).toNat)
      case atStart => exact ⟨0, rfl, ⟨Nat.zero_le _⟩, HO, HB⟩
      case round =>
        clear HO HB hwq wq
        obtain ⟨k, rfl, HK, HO, HB⟩ := hrel
        obtain ⟨ad, e, hx⟩ := str_at H0.out HB.out hlt
        cases e
        have hsz := strOfNums_size (Sf.docF ds i)
        have HSZ := Aside0.mk hsz
        have hdb : (Sf.docF ds i).length ≤ Sf.lenF ds := by
          have h1 := Sf.startF_succ ds HLT.out
          have h2 := Sf.startF_le ds (i + 1)
          omega
        by_cases hle : k ≤ (Sf.docF ds i).length
        · have HT := Aside0.mk (Sf.hits_take ds HLT.out hle)
          have hsz1 : (k : Int) ≤ ((strOfNums (Sf.docF ds i)).size : Int) := by omega
          have HKO : Aside0 (((Sf.hitsF 0 ds).take (Sf.startF ds i + k)).length ≤ 100000000) := ⟨by rw [List.length_take, Sf.hitsF_length]; omega⟩
          generalize strOfNums (Sf.docF ds i) = st at *
          go_wp2_with (first | (at_builtin; refine app_hit (w0 := w) rfl (.tmp 21) (.tmp 25) rfl u3 ((Sf.hitsF 0 ds).take (Sf.startF ds i + k)) (i, k) rfl rfl HO HB HKO ?_; intro v1 w1 HO1 HB1; clear HO HB))
          go_roundw
          case rel => exact ⟨k + 1, by go_num, ⟨by omega⟩, ⟨by rw [← HT.out]; exact HO1.out⟩, HB1⟩
          case measure => simp [intOf]; omega
        · have hsz1 : ¬ (k : Int) ≤ ((strOfNums (Sf.docF ds i)).size : Int) := by omega
          have HE : Aside0 (Sf.startF ds (i + 1) = Sf.startF ds i + k) := ⟨by
            have h1 := Sf.startF_succ ds HLT.out
            have := HK.out
            omega⟩
          generalize strOfNums (Sf.docF ds i) = st at *
          go_wp2_with fail
          go_roundw
          case rel => exact ⟨i + 1, by go_num, ⟨by omega⟩, ⟨by rw [HE.out]; exact HO.out⟩, HB⟩
          case measure => simp [intOf]; omega
    · have hj : i = ds.length := by have := HI.out; omega
      have HFU : Aside0 ((Sf.hitsF 0 ds).take (Sf.startF ds i) = Sf.hitsF 0 ds) := ⟨by
        rw [hj]
        apply List.take_of_length_le
        rw [Sf.hitsF_length]
        unfold Sf.startF
        rw [List.take_length]
        exact Nat.le_refl _⟩
      rw [HFU.out] at HO
      obtain ⟨A1, c1, rfl, hc1, hC1⟩ := R_is (n := Sf.lenF ds) HO.out (by rw [List.length_map, Sf.hitsF_length])
      have HC1 := Aside0.mk hC1
      have HC0 := Aside0.mk (Kd.C_below H0.out HB.out)
      clear hC1 HO hj
      go_wp2_with fail
      refine (sorted_calls ds hb A0 m c0 hm (Sf.lenF ds) (Sf.lenF ds) (Nat.le_refl _) hbig A1 c1 (Sf.hitsF 0 ds) _ HC0.out HC1.out hc1 (fun _ h => h) (Sf.hits_nodup ds)).mono ?_
      rintro e w5 ⟨A5, c5, r, rfl, hc5, hC5, hS5, hB5⟩
      have HC5 := Aside0.mk hC5
      have HS5 := Aside0.mk hS5
      have HB5 := Aside0.mk (below_then HB.out HB.out.size hB5)
      clear hC5 hS5 hB5
      go_wp2_with fail
      go_ret
      exact ⟨A5, c5, r, rfl, hc5, HC5.out, HS5.out, HB5.out⟩

theorem place_calls {ds : List (List Int)} (hbig : Sf.lenF ds ≤ 1000000) {A0 : Option Addr} {m c0 : Nat} (hm : m ≤ c0) {w : World} (h0 : Kd.C Kd.string w A0 m (Sf.strsF ds)) {x : Nat × Nat} (hx : x ∈ Sf.hitsF 0 ds) :
    Calls Try.prog 51 #[.slice A0 m c0, .int .i64 x.1, .int .i64 x.2] w fun e w' => e = .returned (.int .i64 (Sf.placeF ds x : Nat)) ∧ Drawn0 w w' := by
  have hl : (Sf.strsF ds).length = m := h0.1
  subst hl
  have : ds.length ≤ Sf.lenF ds := by rw [lenF_sum]; omega
  exact concordanceref9_Place.calls (x.1 + 1) A0 c0 (Sf.strsF ds) x.1 x.2 _ w h0 hm (Sf.place_f hbig (by omega) hx)

theorem HC_at {w W : World} {A : Option Addr} {n : Nat} {hs : List (Nat × Nat)} (h : HC w A n hs) (hB : Below w.heap.size w W) {i : Nat} (hi : i < n) : ∃ ad, A = some ad ∧ W.cell? (ad.add (i * 2)) = some (.int .i64 (hs.getD i (0, 0)).1) ∧ W.cell? ⟨(ad.add (i * 2)).block, (ad.add (i * 2)).off + 1, none⟩ = some (.int .i64 (hs.getD i (0, 0)).2) := by
  have hl := HC_len h
  obtain ⟨ad, e, h1, h2⟩ := at_T86 h (i : Int) (by omega) (by omega)
  have e2 : rd_T86 (hs.map tS) (i : Int) = tS (hs.getD i (0, 0)) := by
    unfold rd_T86
    rw [Int.toNat_natCast, List.getD_eq_getElem?_getD, List.getElem?_map, List.getD_eq_getElem?_getD, List.getElem?_eq_getElem (by omega)]
    rfl
  rw [e2, Int.toNat_natCast] at h1 h2
  exact ⟨ad, e, pw_cell_below hB h1, pw_cell_below hB h2⟩

set_option maxRecDepth 100000 in
set_option maxHeartbeats 1000000 in
theorem refArray_calls (ds : List (List Int)) (hb : Sf.Bytes ds) (hbig : Sf.lenF ds ≤ 1000000) (A0 : Option Addr) (m c0 : Nat) (hm : m ≤ c0) (w : World) (h0 : Kd.C Kd.string w A0 m (Sf.strsF ds)) :
    Calls Try.prog 21 #[.slice A0 m c0] w fun e w' => ∃ v sa, e = .returned v ∧ Sf.SA (Sf.r0 ds) sa ∧ Kd.R (Kd.int .i64) 3 w' w.heap.size (fun _ => True) v (Sf.ni sa) ∧ Below w.heap.size w w' := by
  have H0 := Aside0.mk h0
  clear h0
  go_enter Try.func21, Try.ntmps21
  go_wp2_with fail
  refine (rows_calls ds hb hbig A0 m c0 hm _ H0.out).mono ?_
  rintro e w1 ⟨A, c, r, rfl, hc, hC, hS, hB⟩
  have HC1 := Aside0.mk hC
  have HS := Aside0.mk hS
  have HB := Aside0.mk hB
  have HL := Aside0.mk (HC_len hC)
  have HO := Aside0.mk (Kd.R_nil (Kd.int .i64) 3 w1 w.heap.size (fun _ => True))
  clear hC hS hB
  have hbig2 := hbig
  generalize hn : Sf.lenF ds = n at *
  obtain ⟨wq, hwq⟩ : ∃ wq, wq = w1 := ⟨_, rfl⟩
  rw [← hwq] at HC1
  have HBQ : Aside0 (Below wq.heap.size wq w1) := ⟨by rw [hwq]; exact Below.refl _ _⟩
  have HQ : Aside0 (w.heap.size ≤ wq.heap.size ∧ Below w.heap.size w wq) := ⟨by rw [hwq]; exact ⟨HB.out.size, HB.out⟩⟩
  clear hwq HB
  have HF := fun i => Aside0.mk (show Sf.ni ((r.take i).map (Sf.placeF ds)) ++ (if i < n then [((Sf.placeF ds (r.getD i (0, 0)) : Nat) : Int)] else []) = Sf.ni ((r.take (i + 1)).map (Sf.placeF ds)) by
    have hl := HL.out
    by_cases h : i < n
    · rw [if_pos h, List.take_add_one, List.getElem?_eq_getElem (by omega), List.getD_eq_getElem?_getD, List.getElem?_eq_getElem (by omega)]
      unfold Sf.ni
      rw [List.map_append, List.map_append]
      rfl
    · rw [if_neg h, List.append_nil, List.take_of_length_le (by omega), List.take_of_length_le (by omega)])
  go_wp2_with fail
  go_loopw [4, 5] (fun v4 v5 w' => ∃ i : Nat, v5 = .int .i64 i ∧ Aside0 (i ≤ n) ∧ Aside0 (Kd.R (Kd.int .i64) 3 w' wq.heap.size (fun _ => True) v4 (Sf.ni ((r.take i).map (Sf.placeF ds)))) ∧ Aside0 (Below wq.heap.size wq w')) (fun _ v5 _ => n - (intOf v5).toNat)
  case atStart => exact ⟨0, rfl, ⟨Nat.zero_le _⟩, ⟨Kd.R_nil _ _ _ _ _⟩, HBQ⟩
  case round =>
    clear HO HBQ
    obtain ⟨i, rfl, HI, HO, HB⟩ := hrel
    by_cases hlt : i < n
    · obtain ⟨ad, e, hx1, hx2⟩ := HC_at HC1.out HB.out hlt
      cases e
      have hin : r.getD i (0, 0) ∈ Sf.hitsF 0 ds := HS.out.1.subset (by have := HL.out; rw [List.getD_eq_getElem?_getD, List.getElem?_eq_getElem (by omega)]; exact List.getElem_mem _)
      have HFI := HF i
      rw [if_pos hlt] at HFI
      have HP := Aside0.mk (fun (W : World) (hB : Below wq.heap.size wq W) => place_calls (ds := ds) (A0 := A0) (c0 := c0) (w := W) (by omega) hm (Kd.C_below H0.out (below_then HQ.out.2 HQ.out.1 hB)) hin)
      have HLE : Aside0 ((Sf.ni ((r.take i).map (Sf.placeF ds))).length ≤ 100000000) := ⟨by simp [Sf.ni]; omega⟩
      generalize r.getD i (0, 0) = h at *
      go_upto_region 6 with fail
      go_region_law
        (first
          | (refine goes_ (N := some 26) Try.func51 (by kernel_rfl) rfl #[.slice A0 m c0, .int .i64 h.1, .int .i64 h.2] (by rfl) rfl rfl (by simp [Act.eval, Act.put]) ?_; refine (HP.out wr.drew (below_drew HB.out)).mono ?_; rintro e w3 ⟨rfl, ⟨m3, rfl⟩⟩; refine ⟨_, rfl, ?_⟩)
          | ((refine Kd.R_append_step (Kd.int .i64) (w0 := wq) wq.heap.size (by rfl) (.tmp 14) (.tmp 27) 28 3 (.int .i64 0) 8 (by rfl) Try.underlying28 info3 rfl (by decide) (by omega) u4 (Sf.ni ((r.take i).map (Sf.placeF ds))) ((Sf.placeF ds h : Nat) : Int) [.int .i64 ((Sf.placeF ds h : Nat) : Int)] (fun _ => True) (fun _ => False) (by first | rfl | simp [Act.eval, Act.put]) (by first | rfl | simp [Act.eval, Act.put]) rfl (fun _ hk => hk.elim) (fun _ _ => trivial) (Kd.R_drewN HO.out _) (pw_below_drewN HB.out _) (pw_below_drewN HB.out _).size (by have := HLE.out; omega) ?_; intro v4 w4 hR4 hB4 hg4 hat4)))
      all_goals (have HB4 := Aside0.mk hB4; have HR4 : Aside0 (Kd.R (Kd.int .i64) 3 w4 wq.heap.size (fun _ => True) v4 (Sf.ni ((r.take (i + 1)).map (Sf.placeF ds)))) := ⟨by rw [← HFI.out]; exact hR4⟩; clear hB4 hR4 HO HB; go_wp2_with fail; exact ⟨⟨i + 1, by go_num, ⟨by omega⟩, HR4, HB4⟩, by simp [intOf]; omega⟩)
    · have hj : i = n := by have := HI.out; omega
      subst hj
      have hfu : r.take i = r := List.take_of_length_le (by have := HL.out; omega)
      rw [hfu] at HO
      have HSA := Aside0.mk (Sf.SA_of_hits hb HS.out.1 HS.out.2)
      clear hfu
      go_wp2_with fail
      go_ret
      exact ⟨_, r.map (Sf.placeF ds), rfl, HSA.out, R_low HO.out HQ.out.2, below_then HQ.out.2 HQ.out.1 HB.out⟩
end Go.Proofs.Ytadekjidjhglaaa
