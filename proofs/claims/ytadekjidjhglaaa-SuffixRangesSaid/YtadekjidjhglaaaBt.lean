/- Walks: the reference's Find. -/
import Derived.Test.YtadekjidjhglaaaBs
set_option linter.unusedVariables false
set_option linter.unusedSimpArgs false
namespace Go.Proofs.Ytadekjidjhglaaa.Sf
open Go.RowKit Go.Proofs.YtadekjidjhglaaaW.PrintWords
/-- Does what stands at a place begin with a text? -/
def preH (ds : List (List Int)) (p : List Int) (h : Nat × Nat) : Bool := decide (((docF ds h.1).drop h.2).take p.length = p)
def findF (ds : List (List Int)) (p : List Int) : List (Nat × Nat) := (hitsF 0 ds).filter (preH ds p)
theorem hits_take' (ds : List (List Int)) {i k : Nat} (hi : i < ds.length) (hk : k ≤ (docF ds i).length) : (hitsF 0 ds).take (startF ds i + (k + 1)) = (hitsF 0 ds).take (startF ds i + k) ++ [(i, k)] := by
  have h := hits_at ds 0 i k hi hk
  rw [Nat.zero_add] at h
  rw [← Nat.add_assoc, List.take_add_one, h]
  rfl
theorem find_step (ds : List (List Int)) (p : List Int) {i k : Nat} (hi : i < ds.length) (hk : k ≤ (docF ds i).length) :
    ((hitsF 0 ds).take (startF ds i + (k + 1))).filter (preH ds p) = ((hitsF 0 ds).take (startF ds i + k)).filter (preH ds p) ++ (if preH ds p (i, k) = true then [(i, k)] else []) := by
  rw [hits_take' ds hi hk, List.filter_append]
  congr 1
  by_cases h : preH ds p (i, k) = true
  · rw [if_pos h]; simp [h]
  · rw [if_neg h]; simp [h]
theorem find_skip (ds : List (List Int)) {p : List Int} {i : Nat} (hi : i < ds.length) : ∀ (m k : Nat), k + m = (docF ds i).length + 1 → (docF ds i).length < k + p.length →
    ((hitsF 0 ds).take (startF ds i + k)).filter (preH ds p) = ((hitsF 0 ds).take (startF ds (i + 1))).filter (preH ds p)
  | 0, k, hk, _ => by
    have := startF_succ ds hi
    rw [this, show startF ds i + (docF ds i).length + 1 = startF ds i + k by omega]
  | m + 1, k, hk, hl => by
    rw [← find_skip ds hi m (k + 1) (by omega) (by omega), find_step ds p hi (by omega)]
    have : preH ds p (i, k) = false := by
      unfold preH
      rw [decide_eq_false_iff_not]
      intro h
      have h' : ((docF ds i).drop k).take p.length = p := h
      have := congrArg List.length h'
      rw [List.length_take, List.length_drop] at this
      omega
    rw [this]
    simp
theorem str_cut (d : List Int) (k m : Nat) : ((strOfNums d).extract k (k + m)).toList = u8L ((d.drop k).take m) := by
  rw [ByteArray.toList_eq, ByteArray.data_extract, Array.toList_extract, strOfNums_data, List.extract_eq_take_drop, Nat.add_sub_cancel_left]
  simp [u8L, List.map_take, List.map_drop]
theorem str_pre {ds : List (List Int)} (hb : Bytes ds) {p : List Int} (hp : Byte1 p) (i k : Nat) : (((strOfNums (docF ds i)).extract k (k + (strOfNums p).size)).toList == (strOfNums p).toList) = preH ds p (i, k) := by
  rw [strOfNums_size, str_cut, str_toList]
  unfold preH
  rw [Bool.eq_iff_iff, beq_iff_eq, decide_eq_true_iff]
  exact u8L_inj (byte1_take (byte1_drop (byte1_doc hb i) _) _) hp
theorem filter_none {α : Type} (P : α → Bool) (l : List α) (h : ∀ x ∈ l, P x = false) : l.filter P = [] := by
  rw [List.filter_eq_nil_iff]
  exact fun x hx => by rw [h x hx]; simp
theorem getD_take_mem {r : List (Nat × Nat)} {a b : Nat} {x : Nat × Nat} (h : x ∈ (r.take b).drop a) : ∃ i, a ≤ i ∧ i < b ∧ i < r.length ∧ r.getD i (0, 0) = x := by
  obtain ⟨j, hj, e⟩ := List.getElem_of_mem h
  rw [List.length_drop, List.length_take] at hj
  rw [List.getElem_drop, List.getElem_take] at e
  exact ⟨a + j, by omega, by omega, by omega, by rw [List.getD_eq_getElem?_getD, List.getElem?_eq_getElem (by omega)]; exact e⟩
/-- As many begin with a text as stand between. -/
theorem find_count {ds : List (List Int)} {r : List (Nat × Nat)} (hs : Sorted ds r) {p : List Int} {lo hi : Nat} (hlo : Split (fun i => ¬ ll (sufF ds r i) p) r.length lo) (hhi : Split (fun i => gtF (sufF ds r i) p) r.length hi) (hlh : lo ≤ hi) :
    (findF ds p).length = hi - lo := by
  have e1 : (findF ds p).length = (r.filter (preH ds p)).length := (hs.1.filter _).length_eq.symm
  rw [e1]
  have hhn := hhi.1
  have e2 : r = r.take lo ++ ((r.take hi).drop lo ++ r.drop hi) := by
    rw [← List.append_assoc]
    have : r.take lo = (r.take hi).take lo := by rw [List.take_take, Nat.min_eq_left hlh]
    rw [this, List.take_append_drop, List.take_append_drop]
  have hpre : ∀ i, preH ds p (r.getD i (0, 0)) = decide ((sufF ds r i).take p.length = p) := fun i => rfl
  rw [e2, List.filter_append, List.filter_append]
  have f1 : (r.take lo).filter (preH ds p) = [] := filter_none _ _ (fun x hx => by
    have hx' : x ∈ (r.take lo).drop 0 := by simpa using hx
    obtain ⟨i, _, h2, h3, rfl⟩ := getD_take_mem hx'
    rw [hpre, decide_eq_false_iff_not]
    intro h
    exact hlo.2.1 i h2 ((pre_iff _ _).1 h).1)
  have f3 : (r.drop hi).filter (preH ds p) = [] := filter_none _ _ (fun x hx => by
    have hx' : x ∈ (r.take r.length).drop hi := by rw [List.take_length]; exact hx
    obtain ⟨i, h1, h2, h3, rfl⟩ := getD_take_mem hx'
    rw [hpre, decide_eq_false_iff_not]
    intro h
    exact ((pre_iff _ _).1 h).2 (hhi.2.2 i h1 h3))
  have f2 : ((r.take hi).drop lo).filter (preH ds p) = (r.take hi).drop lo := List.filter_eq_self.2 (fun x hx => by
    obtain ⟨i, h1, h2, h3, rfl⟩ := getD_take_mem hx
    rw [hpre, decide_eq_true_iff]
    exact (pre_iff _ _).2 ⟨hlo.2.2 i h1 h3, hhi.2.1 i h2⟩)
  rw [f1, f2, f3, List.nil_append, List.append_nil, List.length_drop, List.length_take]
  omega
end Go.Proofs.Ytadekjidjhglaaa.Sf
namespace Go.Proofs.Ytadekjidjhglaaa
open Go.RowKit Go.Proofs.YtadekjidjhglaaaW.PrintWords Go.Proofs.YtadekjidjhglaaaW.PrintLast Go.Proofs.YtadekjidjhglaaaW.PrintMore

set_option maxRecDepth 100000 in
set_option maxHeartbeats 1000000 in
theorem refFind_calls (ds : List (List Int)) (hb : Sf.Bytes ds) (hbig : Sf.lenF ds ≤ 1000000) (A0 : Option Addr) (m c0 : Nat) (w : World) (h0 : Kd.C Kd.string w A0 m (Sf.strsF ds))
    (p : List Int) (hp : Sf.Byte1 p) (hpl : 0 < p.length) (hpl2 : p.length ≤ 1000000) :
    Calls Try.prog 30 #[.slice A0 m c0, .string (strOfNums p)] w fun e w' => ∃ A c, e = .returned (.slice A (Sf.findF ds p).length c) ∧ Below w.heap.size w w' := by
  have hl : ds.length = m := by rw [← Sf.strsF_length]; exact h0.1
  have hdl : ds.length ≤ Sf.lenF ds := by rw [lenF_sum]; omega
  have H0 := Aside0.mk h0
  have HL := Aside0.mk hl
  have HB := Aside0.mk (Below.refl w.heap.size w)
  have HO := Aside0.mk (Kd.R_nil k86 86 w w.heap.size (fun _ => True))
  have hps := strOfNums_size p
  have hne : (strOfNums p).toList.isEmpty = false := by
    rw [Sf.str_toList]
    cases p with
    | nil => simp at hpl
    | cons a p => simp [Sf.u8L]
  have HPRE := Aside0.mk (fun i k => Sf.str_pre (ds := ds) hb hp i k)
  generalize hspe : strOfNums p = sp at *
  have HP := Aside0.mk hps
  clear h0 hspe
  go_enter Try.func30, Try.ntmps30
  go_wp2_with fail
  go_loopw [5, 6, 7] (fun v5 v6 v7 w' => ∃ i : Nat, v6 = .int .i64 i ∧ Aside0 (i ≤ m) ∧ Aside0 (Kd.R k86 86 w' w.heap.size (fun _ => True) v5 ((((Sf.hitsF 0 ds).take (Sf.startF ds i)).filter (Sf.preH ds p)).map tS)) ∧ Aside0 (Below w.heap.size w w')) (fun _ v6 _ _ => m - (intOf v6).toNat)
  case atStart => exact ⟨0, rfl, ⟨Nat.zero_le _⟩, HO, HB⟩
  case round =>
    clear HO HB
    obtain ⟨i, rfl, HI, HO, HB⟩ := hrel
    by_cases hlt : i < m
    · have HLT := Aside0.mk (show i < ds.length by omega)
      go_wp2_with fail
      go_loopw [5, 7] (fun v5 v7 w' => ∃ k : Nat, v7 = .int .i64 k ∧ Aside0 (k ≤ (Sf.docF ds i).length + 1) ∧ Aside0 (Kd.R k86 86 w' w.heap.size (fun _ => True) v5 ((((Sf.hitsF 0 ds).take (Sf.startF ds i + k)).filter (Sf.preH ds p)).map tS)) ∧ Aside0 (Below w.heap.size w w')) (fun _ v7 _ => (Sf.docF ds i).length + 1 - (intOf v7).toNat)
      case atStart => exact ⟨0, rfl, ⟨Nat.zero_le _⟩, HO, HB⟩
      case round =>
        clear HO HB
        obtain ⟨k, rfl, HK, HO, HB⟩ := hrel
        obtain ⟨ad, e, hx⟩ := str_at H0.out HB.out hlt
        cases e
        have hsz := strOfNums_size (Sf.docF ds i)
        have hdb : (Sf.docF ds i).length ≤ Sf.lenF ds := by
          have h1 := Sf.startF_succ ds HLT.out
          have h2 := Sf.startF_le ds (i + 1)
          omega
        have hkb := HK.out
        by_cases hle : k + p.length ≤ (Sf.docF ds i).length
        · have HT := Aside0.mk (Sf.find_step ds p HLT.out (k := k) (by omega))
          have hpr := HPRE.out i k
          have HKO : Aside0 ((((Sf.hitsF 0 ds).take (Sf.startF ds i + k)).filter (Sf.preH ds p)).length ≤ 100000000) := ⟨by
            have := List.length_filter_le (Sf.preH ds p) ((Sf.hitsF 0 ds).take (Sf.startF ds i + k))
            rw [List.length_take, Sf.hitsF_length] at this
            omega⟩
          have hkB : k ≤ 1000001 := by omega
          have hw : wrap64 ((k : Int) + (sp.size : Int)) = ((k + sp.size : Nat) : Int) := by rw [Sf.wrap64_in' _ (by omega)]; omega
          have hsz2 : k + sp.size ≤ (strOfNums (Sf.docF ds i)).size := by omega
          have hsz3 : k ≤ k + sp.size := by omega
          have HLE := Aside0.mk (show k + 1 ≤ (Sf.docF ds i).length + 1 by omega)
          clear hsz hdb hps hle hkb
          generalize k + sp.size = ke at *
          generalize strOfNums (Sf.docF ds i) = st at *
          have hsz1 : (ke : Int) ≤ (st.size : Int) := by omega
          have hsz4 : (k : Int) ≤ (ke : Int) := by omega
          cases hc : Sf.preH ds p (i, k) with
          | true =>
            rw [hc, if_pos rfl] at HT
            rw [hc] at hpr
            clear hc
            go_wp2_with (first | (at_builtin; refine app_hit (w0 := w) rfl (.tmp 42) (.tmp 46) rfl u5 (((Sf.hitsF 0 ds).take (Sf.startF ds i + k)).filter (Sf.preH ds p)) (i, k) rfl rfl HO HB HKO ?_; intro v1 w1 HO1 HB1; clear HO HB))
            exact ⟨⟨k + 1, by go_num, ⟨by have := HLE.out; omega⟩, ⟨by rw [HT.out]; exact HO1.out⟩, HB1⟩, by simp [intOf]; have := HLE.out; omega⟩
          | false =>
            rw [hc] at HT hpr
            clear hc
            go_wp2_with fail
            exact ⟨⟨k + 1, by go_num, ⟨by have := HLE.out; omega⟩, ⟨by rw [HT.out]; simpa using HO.out⟩, HB⟩, by simp [intOf]; have := HLE.out; omega⟩
        · have HT := Aside0.mk (Sf.find_skip ds (p := p) HLT.out ((Sf.docF ds i).length + 1 - k) k (by omega) (by omega))
          have hw : wrap64 ((k : Int) + (sp.size : Int)) = ((k + sp.size : Nat) : Int) := by rw [Sf.wrap64_in' _ (by omega)]; omega
          have hsz2 : decide (k + sp.size ≤ (strOfNums (Sf.docF ds i)).size) = false := by simp; omega
          clear hsz hdb hps hle hkb
          generalize k + sp.size = ke at *
          generalize strOfNums (Sf.docF ds i) = st at *
          go_wp2_with fail
          go_roundw
          case rel => exact ⟨i + 1, by go_num, ⟨by omega⟩, ⟨by rw [← HT.out]; exact HO.out⟩, HB⟩
          case measure => simp [intOf]; omega
    · have hj : i = ds.length := by have := HI.out; omega
      have HFU : Aside0 (((Sf.hitsF 0 ds).take (Sf.startF ds i)).filter (Sf.preH ds p) = Sf.findF ds p) := ⟨by
        rw [hj]
        unfold Sf.findF
        congr 1
        apply List.take_of_length_le
        rw [Sf.hitsF_length]
        unfold Sf.startF
        rw [List.take_length]
        exact Nat.le_refl _⟩
      rw [HFU.out] at HO
      obtain ⟨A1, c1, rfl, hc1, hC1⟩ := R_is (n := (Sf.findF ds p).length) HO.out (by rw [List.length_map])
      clear hC1 HO hj
      go_wp2_with fail
      go_ret
      exact ⟨A1, c1, rfl, HB.out⟩
end Go.Proofs.Ytadekjidjhglaaa
