/- Walks: the reference's Range and Find. -/
import Derived.Test.YtadekjidjhglaaaSi
import Derived.Test.YtadekjidjhglaaaBo
set_option linter.unusedVariables false
set_option linter.unusedSimpArgs false
namespace Go.Proofs.Ytadekjidjhglaaa.Sf
open Go.RowKit Go.Proofs.YtadekjidjhglaaaW.PrintWords
theorem cutS_toList (d : List Int) (o : Nat) : (cutS d o).toList = u8L (d.drop o) := str_drop d o
theorem cutS_less {d p : List Int} (hd : Byte1 d) (hp : Byte1 p) (o : Nat) : Op.bytesLess (cutS d o).toList (strOfNums p).toList = decide (ll (d.drop o) p) := by
  rw [cutS_toList, str_toList]
  exact bytesLess_ll (byte1_drop hd o) hp
theorem u8L_take (x : List Int) (k : Nat) : (u8L x).take k = u8L (x.take k) := by simp [u8L, List.map_take]
theorem byte1_take {x : List Int} (h : Byte1 x) (k : Nat) : Byte1 (x.take k) := fun c hc => h c (List.mem_of_mem_take hc)
theorem cutS_pre {d p : List Int} (hd : Byte1 d) (hp : Byte1 p) (o : Nat) : (((cutS d o).extract 0 (strOfNums p).size).toList == (strOfNums p).toList) = decide ((d.drop o).take p.length = p) := by
  have e : ((cutS d o).extract 0 (strOfNums p).size).toList = u8L ((d.drop o).take p.length) := by
    rw [ByteArray.toList_eq, strOfNums_size, ByteArray.data_extract, Array.toList_extract, cutS_data]
    rw [List.extract_eq_take_drop]
    simp [u8L, List.map_take]
  rw [e, str_toList, Bool.eq_iff_iff, beq_iff_eq, decide_eq_true_iff]
  exact u8L_inj (byte1_take (byte1_drop hd o) _) hp
end Go.Proofs.Ytadekjidjhglaaa.Sf
namespace Go.Proofs.Ytadekjidjhglaaa
open Go.RowKit Go.Proofs.YtadekjidjhglaaaW.PrintWords Go.Proofs.YtadekjidjhglaaaW.PrintLast Go.Proofs.YtadekjidjhglaaaW.PrintMore
attribute [local go_sem] max2_int min2_int max_two min_two

set_option maxRecDepth 100000 in
set_option maxHeartbeats 1000000 in
theorem refRange_calls (ds : List (List Int)) (hb : Sf.Bytes ds) (A0 : Option Addr) (m c0 : Nat) (A1 : Option Addr) (n c1 : Nat) (r : List (Nat × Nat)) (w : World) (h0 : Kd.C Kd.string w A0 m (Sf.strsF ds)) (h1 : HC w A1 n r) (hs : Sf.Sorted ds r) (hn : n ≤ 1000000)
    (p : List Int) (hp : Sf.Byte1 p) (lo hi : Nat) (hlo : Sf.Split (fun i => ¬ Sf.ll (Sf.sufF ds r i) p) n lo) (hhi : Sf.Split (fun i => Sf.gtF (Sf.sufF ds r i) p) n hi) :
    Calls Try.prog 29 #[.slice A0 m c0, .slice A1 n c1, .string (strOfNums p)] w fun e w' => e = .returned (.tuple #[.int .i64 lo, .int .i64 hi]) ∧ Below w.heap.size w w' := by
  have hl := HC_len h1
  have hl3 : ds.length = m := by rw [← Sf.strsF_length]; exact h0.1
  have hlh : lo ≤ hi := Sf.split_le hlo hhi (fun i _ h => Sf.gt_not h)
  have hhn : hi ≤ n := hhi.1
  have H0 := Aside0.mk h0
  have H1 := Aside0.mk h1
  have HS := Aside0.mk hs
  have HLO := Aside0.mk hlo
  have HHI := Aside0.mk hhi
  have HLL := Aside0.mk (And.intro hl hl3)
  clear h0 h1 hs hl hl3 hlo hhi
  have hps := strOfNums_size p
  generalize hspe : strOfNums p = sp at *
  have HSPE := Aside0.mk hspe
  have HP := Aside0.mk hps
  clear hspe hps
  go_enter Try.func29, Try.ntmps29
  go_wp2_with fail
  go_loopw [8, 9, 10, 11] (fun v8 v9 v10 v11 w' => ∃ i a b : Nat, v10 = .int .i64 i ∧ v8 = .int .i64 a ∧ v9 = .int .i64 b ∧ Aside0 (i ≤ n ∧ a = min lo i ∧ b = min hi i) ∧ Aside0 (Below w.heap.size w w')) (fun _ _ v10 _ _ => n - (intOf v10).toNat)
  case atStart => exact ⟨0, 0, 0, rfl, rfl, rfl, ⟨by omega⟩, ⟨Below.refl _ _⟩⟩
  case round =>
    obtain ⟨i, a, b, rfl, rfl, rfl, HI, HB⟩ := hrel
    have hI := HI.out
    by_cases hlt : i < n
    · obtain ⟨ad1, e, hp1, hp2⟩ := HC_at H1.out HB.out (i := i) hlt
      cases e
      have hin : r.getD i (0, 0) ∈ Sf.hitsF 0 ds := HS.out.1.subset (by have := HLL.out.1; rw [List.getD_eq_getElem?_getD, List.getElem?_eq_getElem (by omega)]; exact List.getElem_mem _)
      have hbp := Sf.hit_bounds hin
      have HLT : Aside0 ((i < lo ↔ Sf.ll (Sf.sufF ds r i) p) ∧ (hi ≤ i ↔ Sf.gtF (Sf.sufF ds r i) p)) := ⟨⟨fun h => Classical.not_not.1 (HLO.out.2.1 i h), fun h => Nat.lt_of_not_le (fun h2 => HLO.out.2.2 i h2 hlt h)⟩, ⟨fun h => HHI.out.2.2 i h hlt, fun h => Nat.le_of_not_lt (fun h2 => HHI.out.2.1 i h2 h)⟩⟩
      have hpre := Sf.pre_iff (Sf.sufF ds r i) p
      unfold Sf.sufF at HLT hpre
      clear hin
      generalize r.getD i (0, 0) = q at *
      obtain ⟨ad0, e, hs1⟩ := str_at H0.out HB.out (i := q.1) (by have := HLL.out.2; omega)
      cases e
      have hqm : q.1 < m := by have := HLL.out.2; omega
      have hz1 : (q.2 : Int) ≤ ((strOfNums (Sf.docF ds q.1)).size : Int) := by rw [strOfNums_size]; omega
      have HCL := Aside0.mk (Sf.cutS_less (Sf.byte1_doc hb q.1) hp q.2)
      have HCP := Aside0.mk (Sf.cutS_pre (Sf.byte1_doc hb q.1) hp q.2)
      have HCS := Aside0.mk (Sf.cutS_size (Sf.docF ds q.1) q.2)
      unfold Sf.cutS at HCL HCP HCS
      rw [HSPE.out] at HCL HCP
      go_wp2_with fail
      go_quiet (fail)
      have HB2 := fun m => Aside0.mk (pw_below_drewN HB.out m)
      clear HB hs1 hp1 hp2 hz1
      generalize (strOfNums (Sf.docF ds q.1)).extract q.2 (strOfNums (Sf.docF ds q.1)).size = sx at *
      generalize (Sf.docF ds q.1).drop q.2 = x at *
      by_cases h1 : i < lo
      · have hlx : Op.bytesLess sx.toList sp.toList = true := by rw [HCL.out]; exact decide_eq_true (HLT.out.1.1 h1)
        clear hI
        go_wp2_with fail
        exact ⟨⟨i + 1, i + 1, i + 1, by go_num, by go_num, by go_num, ⟨by omega⟩, HB2 _⟩, by simp [intOf]; omega⟩
      · have hlx : Op.bytesLess sx.toList sp.toList = false := by rw [HCL.out]; exact decide_eq_false (fun h => h1 (HLT.out.1.2 h))
        have hsp := HP.out
        have hsx := HCS.out
        have hCP := HCP.out
        by_cases h2 : i < hi
        · have hx : x.take p.length = p := hpre.2 ⟨fun h => h1 (HLT.out.1.2 h), fun h => by have := HLT.out.2.2 h; omega⟩
          rw [decide_eq_true hx] at hCP
          have hle : p.length ≤ x.length := by
            have := congrArg List.length hx
            rw [List.length_take] at this; omega
          have hge : (sx.size : Int) ≥ (sp.size : Int) := by omega
          have hge2 : (sp.size : Int) ≤ (sx.size : Int) := by omega
          have hge3 : sp.size ≤ sx.size := by omega
          clear hI hx hpre hsp hsx hle
          go_wp2_with fail
          go_roundw
          case rel => exact ⟨i + 1, a, i + 1, by go_num, rfl, by go_num, ⟨by have := HI.out; omega⟩, HB2 _⟩
          case measure => simp [intOf]; omega
        · have hx : ¬ x.take p.length = p := fun h => (hpre.1 h).2 (HLT.out.2.1 (by omega))
          rw [decide_eq_false hx] at hCP
          by_cases hle : p.length ≤ x.length
          · have hge : (sx.size : Int) ≥ (sp.size : Int) := by omega
            have hge2 : (sp.size : Int) ≤ (sx.size : Int) := by omega
            have hge3 : sp.size ≤ sx.size := by omega
            clear hI hx hpre hsp hsx hle
            go_wp2_with fail
            go_roundw
            case rel => exact ⟨i + 1, a, b, by go_num, rfl, rfl, ⟨by have := HI.out; omega⟩, HB2 _⟩
            case measure => simp [intOf]; omega
          · have hge : decide ((sx.size : Int) ≥ (sp.size : Int)) = false := by simp; omega
            have hge2 : decide ((sp.size : Int) ≤ (sx.size : Int)) = false := by simp; omega
            have hge3 : decide (sp.size ≤ sx.size) = false := by simp; omega
            clear hI hx hpre hsp hsx hle
            go_wp2_with fail
            go_roundw
            case rel => exact ⟨i + 1, a, b, by go_num, rfl, rfl, ⟨by have := HI.out; omega⟩, HB2 _⟩
            case measure => simp [intOf]; omega
    · have hj : i = n := by omega
      have ha : a = lo := by omega
      have hb2 : b = hi := by omega
      subst ha hb2
      clear hI
      go_wp2_with fail
      all_goals (go_ret2; refine ⟨?_, HB.out⟩; first | rfl | (have h : a = b := by omega
                                                              subst h; rfl))
end Go.Proofs.Ytadekjidjhglaaa
