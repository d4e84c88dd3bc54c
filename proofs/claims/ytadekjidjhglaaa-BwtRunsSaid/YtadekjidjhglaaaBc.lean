/- Walks: suffix.sortBy. -/
import Derived.Test.YtadekjidjhglaaaBb
import Derived.Test.YtadekjidjhglaaaSc
import Derived.RegionTactic
import Derived.BigRegion
set_option linter.unusedVariables false
set_option linter.unusedSimpArgs false
namespace Go.Proofs.Ytadekjidjhglaaa
open Go.RowKit Go.Proofs.YtadekjidjhglaaaW.PrintWords Go.Proofs.YtadekjidjhglaaaW.PrintLast Go.Proofs.YtadekjidjhglaaaW.PrintMore

namespace SortBy
open Sf
/-- Behind the first loop's j rounds. -/
def at1 (l : List Nat) (rank : List Int) (K j : Nat) : List Int := tab (K + 1) (fun c => if c = 0 then 0 else (cnt l rank j (c - 1) : Int))
/-- Behind the second loop's i rounds. -/
def at2 (l : List Nat) (rank : List Int) (K i : Nat) : List Int := tab (K + 1) (fun c => if c ≤ i then (ltF l rank c : Int) else (cnt l rank l.length (c - 1) : Int))
/-- Behind the third loop's j rounds. -/
def at3 (l : List Nat) (rank : List Int) (K j : Nat) : List Int := tab (K + 1) (fun c => (ltF l rank c : Int) + (cnt l rank j c : Int))
variable {l : List Nat} {rank : List Int} {K : Nat}
theorem at1_zero : at1 l rank K 0 = List.replicate (K + 1) 0 := by
  rw [tab_replicate]; exact tab_congr (fun i _ => by simp [cnt_zero])
theorem at1_get {j c : Nat} (hc : c < K) : (at1 l rank K j).getD (c + 1) 0 = (cnt l rank j c : Int) := by
  rw [at1, tab_getD _ (by omega)]; simp
theorem at1_succ {j c : Nat} (hj : j < l.length) (hc : rank.getD (l.getD j 0) 0 = (c : Int)) : (at1 l rank K j).set (c + 1) ((cnt l rank j c : Int) + 1) = at1 l rank K (j + 1) := by
  rw [at1, tab_set]
  refine tab_congr (fun d _ => ?_)
  by_cases e : d = c + 1
  · subst e
    rw [if_pos rfl, if_neg (by omega), cnt_succ hj, Nat.add_sub_cancel, if_pos hc]
    rfl
  · rw [if_neg e]
    by_cases e0 : d = 0
    · rw [if_pos e0, if_pos e0]
    · rw [if_neg e0, if_neg e0, cnt_succ hj, hc, if_neg (by omega), Nat.add_zero]
theorem at2_zero : at1 l rank K l.length = at2 l rank K 0 := by
  refine tab_congr (fun d _ => ?_)
  by_cases e : d = 0
  · subst e; simp [ltF]
  · rw [if_neg e, if_neg (by omega)]
theorem at2_get {i : Nat} (hi : i < K) : (at2 l rank K i).getD i 0 = (ltF l rank i : Int) ∧ (at2 l rank K i).getD (i + 1) 0 = (cnt l rank l.length i : Int) := by
  refine ⟨?_, ?_⟩
  · rw [at2, tab_getD _ (by omega)]; simp
  · rw [at2, tab_getD _ (by omega), if_neg (by omega), Nat.add_sub_cancel]
theorem at2_succ {i : Nat} (hi : i < K) : (at2 l rank K i).set (i + 1) ((cnt l rank l.length i : Int) + (ltF l rank i : Int)) = at2 l rank K (i + 1) := by
  rw [at2, tab_set]
  refine tab_congr (fun d _ => ?_)
  by_cases e : d = i + 1
  · subst e
    rw [if_pos rfl, if_pos (by omega)]
    simp only [ltF]; omega
  · rw [if_neg e]
    by_cases e0 : d ≤ i
    · rw [if_pos e0, if_pos (by omega)]
    · rw [if_neg e0, if_neg (by omega)]
theorem at3_zero : at2 l rank K K = at3 l rank K 0 := by
  refine tab_congr (fun d hd => ?_)
  rw [if_pos (by omega), cnt_zero]; simp
theorem at3_get {j c : Nat} (hc : c < K) : (at3 l rank K j).getD c 0 = ((ltF l rank c + cnt l rank j c : Nat) : Int) := by
  rw [at3, tab_getD _ (by omega)]; simp
theorem at3_succ {j c : Nat} (hj : j < l.length) (hc : rank.getD (l.getD j 0) 0 = (c : Int)) : (at3 l rank K j).set c (((ltF l rank c + cnt l rank j c : Nat) : Int) + 1) = at3 l rank K (j + 1) := by
  rw [at3, tab_set]
  refine tab_congr (fun d _ => ?_)
  rw [cnt_succ hj, hc]
  by_cases e : d = c
  · subst e
    rw [if_pos rfl, if_pos rfl]; omega
  · rw [if_neg e, if_neg (by omega)]; rfl
theorem at_len (j : Nat) : (at1 l rank K j).length = K + 1 ∧ (at2 l rank K j).length = K + 1 ∧ (at3 l rank K j).length = K + 1 := ⟨tab_length _ _, tab_length _ _, tab_length _ _⟩
end SortBy
open SortBy

set_option maxRecDepth 100000 in
set_option maxHeartbeats 2000000 in
theorem sortBy_calls (A0 : Option Addr) (n c0 : Nat) (l : List Nat) (A1 : Option Addr) (m c1 : Nat) (rank : List Int) (K : Nat) (w : World)
    (hr0 : Kd.C (Kd.int .i64) w A0 n (Sf.ni l)) (hr1 : Kd.C (Kd.int .i64) w A1 m rank) (hn : n ≤ 100000) (hK : K ≤ 100000)
    (hl : l.length = n) (hm : rank.length = m) (h : ∀ p ∈ l, p < m ∧ 0 ≤ rank.getD p 0 ∧ rank.getD p 0 < K) :
    Calls Try.prog 48 #[.slice A0 n c0, .slice A1 m c1, .int .i64 K] w fun e w' => ∃ v, e = .returned v ∧ Kd.R (Kd.int .i64) 3 w' w.heap.size (fun _ => True) v (Sf.ni (Sf.bucket l rank K)) ∧ Below w.heap.size w w' := by
  have HR0 := Aside0.mk hr0
  have HR1 := Aside0.mk hr1
  have HL := Aside0.mk hl
  have HM := Aside0.mk hm
  have HH := Aside0.mk h
  have HB := Aside0.mk (Below.refl w.heap.size w)
  have HKb : Aside0 (K + 1 ≤ 100000000) := ⟨by omega⟩
  have HNb : Aside0 (n ≤ 100000000) := ⟨by omega⟩
  clear hr0 hr1 hl hm h
  have eK : ((K + 1 : Nat) : Int) = (K : Int) + 1 := by omega
  go_enter Try.func48, Try.ntmps48
  go_wp2_with (first | (at_make; refine mk_int 28 3 8 Try.underlying28 info3 (by omega) (by omega) rfl rfl _ _ rfl (K + 1) (by rw [eK]; rfl) (by rw [eK]; rfl) HB HKb ?_; intro g cap w1 HO HB1 HG HG2; clear HB HG HG2; have HB := HB1; clear HB1))
  clear eK
  rw [← at1_zero (l := l) (rank := rank)] at HO
  go_loopw [19] (fun v19 w' => ∃ j : Nat, v19 = .int .i64 j ∧ Aside0 (j ≤ n) ∧ Aside0 (Kd.R (Kd.int .i64) 3 w' w.heap.size (fun _ => True) (.slice (some ⟨g, 0, none⟩) (K + 1) cap) (at1 l rank K j)) ∧ Aside0 (Below w.heap.size w w')) (fun i _ => n - (intOf i).toNat)
  case atStart => exact ⟨0, rfl, ⟨Nat.zero_le _⟩, HO, HB⟩
  case round =>
    clear HO HB
    obtain ⟨j, rfl, HJ, HO, HB⟩ := hrel
    by_cases hlt : j < n
    · obtain ⟨ad, e, hx⟩ := at_nat HR0.out HB.out j hlt
      cases e
      rw [Sf.ni_getD] at hx
      have hp := HH.out (l.getD j 0) (Sf.getD_mem (by have := HL.out; omega))
      have hs := at1_succ (K := K) (l := l) (rank := rank) (j := j) (c := (rank.getD (l.getD j 0) 0).toNat) (by have := HL.out; omega) (by omega)
      obtain ⟨c, hc⟩ : ∃ c : Nat, rank.getD (l.getD j 0) 0 = c := ⟨(rank.getD (l.getD j 0) 0).toNat, by omega⟩
      obtain ⟨ad1, e1, hx1⟩ := at_nat HR1.out HB.out (l.getD j 0) hp.1
      cases e1
      rw [hc] at hx1 hp hs
      rw [Int.toNat_natCast] at hs
      have hcK : c < K := by omega
      have hx2 := own_nat HO (c + 1) (by omega)
      rw [at1_get hcK] at hx2
      have hcl := Sf.cnt_le (l := l) (rank := rank) j c
      have hcl2 : Sf.cnt l rank j c ≤ 100000 := by have := HL.out; omega
      clear hcl hc
      have HS := Aside0.mk hs
      clear hs
      generalize hq : l.getD j 0 = p at *
      clear hq
      generalize Sf.cnt l rank j c = q at *
      go_wp2_with (first | ((with_reducible refine gate_store (t := 3) (p := 32) rfl ?_); refine put_int 3 size3 32 _ rfl rfl rfl rfl rfl HO HB (by omega) ?_; intro w2 HO1 HB1 HG; clear HO HB HG))
      go_roundw
      case rel => exact ⟨j + 1, by go_num, ⟨by omega⟩, ⟨by have := HO1.out; rwa [HS.out] at this⟩, HB1⟩
      case measure => simp [intOf]; omega
    · have hj : j = n := by have := HJ.out; omega
      subst hj
      go_wp2_with fail
      have HO : Aside0 (Kd.R (Kd.int .i64) 3 wr w.heap.size (fun _ => True) (.slice (some ⟨g, 0, none⟩) (K + 1) cap) (at2 l rank K 0)) := ⟨by have := HO.out; rw [← HL.out, at2_zero] at this; exact this⟩
      clear hlt
      obtain ⟨w3, hw3⟩ : ∃ w3 : World, w3 = wr := ⟨_, rfl⟩
      rw [← hw3] at HO HB ⊢
      clear hw3
      go_loopw [35] (fun v35 w' => ∃ i : Nat, v35 = .int .i64 i ∧ Aside0 (i ≤ K) ∧ Aside0 (Kd.R (Kd.int .i64) 3 w' w.heap.size (fun _ => True) (.slice (some ⟨g, 0, none⟩) (K + 1) cap) (at2 l rank K i)) ∧ Aside0 (Below w.heap.size w w')) (fun i _ => K - (intOf i).toNat)
      case atStart => exact ⟨0, rfl, ⟨Nat.zero_le _⟩, HO, HB⟩
      case round =>
        clear HO HB HJ
        obtain ⟨i, rfl, HI, HO, HB⟩ := hrel
        by_cases hlt : i < K
        · have hx1 := own_nat HO (i + 1) (by omega)
          have hx2 := own_nat HO i (by omega)
          have hf := (Kd.R_celln 0 HO.out ((i + 1 : Nat) : Int) (by omega) (by omega)).2
          have hP := Kd.R_putg HO.out ((i + 1 : Nat) : Int) ((Sf.cnt l rank l.length i : Int) + (Sf.ltF l rank i : Int))
          rw [Int.toNat_natCast] at hf hP
          rw [(at2_get hlt).1] at hx2
          rw [(at2_get hlt).2] at hx1
          rw [at2_succ hlt] at hP
          have HP := Aside0.mk hP
          clear hP
          have hb1 := Sf.cnt_le (l := l) (rank := rank) l.length i
          have hb2 : Sf.ltF l rank i ≤ 100000 := by
            have h1 := Sf.ltF_mono (l := l) (rank := rank) (show i ≤ K by omega)
            rw [Sf.ltF_all (fun p hp => (HH.out p hp).2)] at h1
            have := HL.out; omega
          have hb3 : Sf.cnt l rank l.length i ≤ 100000 := by have := HL.out; omega
          clear hb1
          have HG := Aside0.mk (Kd.R_base HO.out g (by simp [Value.ownBlock]))
          generalize Sf.cnt l rank l.length i = q at *
          generalize Sf.ltF l rank i = r at *
          go_wp2_with fail
          go_region
          have HO1 := Aside0.mk (Kd.R_drew HP.out.1)
          have HB1 := Aside0.mk (below_drew (below_set (j := i + 1) (v := .int .i64 ((q : Int) + (r : Int))) HB.out HG.out))
          clear HO HB HP HG hf hx1 hx2
          generalize (wr.setCell ⟨g, i + 1, none⟩ (.int .i64 ((q : Int) + (r : Int)))).drew = w4 at *
          go_wp2_with fail
          go_roundw
          case rel => exact ⟨i + 1, by go_num, ⟨by omega⟩, HO1, HB1⟩
          case measure => simp [intOf]; omega
        · have hj : i = K := by have := HI.out; omega
          subst hj
          clear hlt HI
          rw [at3_zero] at HO
          go_wp2_with (first | (at_make; refine mk_int 28 3 8 Try.underlying28 info3 (by omega) (by omega) rfl rfl _ _ rfl j rfl rfl HB HNb ?_; intro g2 cap2 w1 HO2 HB1 HG HG2; have HO1 := other_int HO HG (by simp); have HNE := Aside0.mk (show g ≠ g2 by have := lt_own HO; have := HG2.out; omega); clear HB HG HG2 HO; have HB := HB1; clear HB1; have HO := HO1; clear HO1))
          obtain ⟨hl0, hr0⟩ := And.intro HL.out (Sf.outF_zero (l := l) (rank := rank) (K := i) (fun p hp => (HH.out p hp).2))
          have HO2' : Aside0 (Kd.R (Kd.int .i64) 3 w1 w.heap.size (fun _ => True) (.slice (some ⟨g2, 0, none⟩) j cap2) (Sf.ni (Sf.outF l rank i 0))) := ⟨by
            have := HO2.out
            rw [hr0, hl0]
            have e : Sf.ni (List.replicate j 0) = List.replicate j 0 := by simp [Sf.ni]
            rw [e]; exact this⟩
          clear HO2 hl0 hr0
          clear HNb HKb
          obtain ⟨w3, hw3⟩ : ∃ w3 : World, w3 = w1 := ⟨_, rfl⟩
          rw [← hw3] at HO HO2' HB ⊢
          clear hw3
          go_loopw [55] (fun v55 w' => ∃ t : Nat, v55 = .int .i64 t ∧ Aside0 (t ≤ j) ∧ Aside0 (Kd.R (Kd.int .i64) 3 w' w.heap.size (fun _ => True) (.slice (some ⟨g, 0, none⟩) (i + 1) cap) (at3 l rank i t)) ∧ Aside0 (Kd.R (Kd.int .i64) 3 w' w.heap.size (fun _ => True) (.slice (some ⟨g2, 0, none⟩) j cap2) (Sf.ni (Sf.outF l rank i t))) ∧ Aside0 (Below w.heap.size w w')) (fun i _ => j - (intOf i).toNat)
          case atStart => exact ⟨0, rfl, ⟨Nat.zero_le _⟩, HO, HO2', HB⟩
          case round =>
            clear HO HO2' HB
            obtain ⟨t, rfl, HT, HO, HO2, HB⟩ := hrel
            by_cases hlt : t < j
            · obtain ⟨ad, e, hx⟩ := at_nat HR0.out HB.out t hlt
              cases e
              rw [Sf.ni_getD] at hx
              have hp := HH.out (l.getD t 0) (Sf.getD_mem (by have := HL.out; omega))
              have htl : t < l.length := by have := HL.out; omega
              obtain ⟨c, hc⟩ : ∃ c : Nat, rank.getD (l.getD t 0) 0 = c := ⟨(rank.getD (l.getD t 0) 0).toNat, by omega⟩
              have hs := at3_succ (K := i) htl hc
              have HC := Aside0.mk hc
              obtain ⟨ad1, e1, hx1⟩ := at_nat HR1.out HB.out (l.getD t 0) hp.1
              cases e1
              rw [hc] at hx1 hp
              have hcK : c < i := by omega
              have ho := Sf.outF_succ htl hc hcK
              have hpl := Sf.place_lt htl hc hcK (fun p hp => (HH.out p hp).2)
              rw [HL.out] at hpl
              have hx2 := own_nat HO c (by omega)
              rw [at3_get hcK] at hx2
              have HS := Aside0.mk hs
              have HOS := Aside0.mk ho
              clear hs ho hc htl
              generalize hq : l.getD t 0 = p at *
              clear hq
              generalize hqq : Sf.ltF l rank c + Sf.cnt l rank t c = q at *
              have HQ := Aside0.mk hqq
              clear hqq
              go_wp2_with (first | ((with_reducible refine gate_store (t := 3) (p := 68) rfl ?_); refine put_int 3 size3 68 _ rfl rfl rfl rfl rfl HO2 HB (by omega) ?_; intro w2 HO3 HB1 HG; have HO1 := other_int HO HG (by have := HNE.out; simp; omega); clear HO HB HG HO2; refine hold ?_))
              clear hx hx1 hx2
              obtain ⟨_, e1, hx1⟩ := at_nat HR1.out HB1.out p hp.1
              cases e1
              have hx2 := own_nat HO1 c (by omega)
              unfold Hid
              rw [at3_get hcK] at hx2
              rw [HQ.out, HC.out] at *
              clear HQ HC
              go_wp2_with (first | ((with_reducible refine gate_store (t := 3) (p := 77) rfl ?_); refine put_int 3 size3 77 _ rfl rfl rfl rfl rfl HO1 HB1 (by omega) ?_; intro w4 HO4 HB4 HG; have HO5 := other_int HO3 HG (by have := HNE.out; simp; omega); clear HO1 HB1 HG HO3))
              go_roundw
              case rel => exact ⟨t + 1, by go_num, ⟨by omega⟩, ⟨by have := HO4.out; rwa [HS.out] at this⟩, ⟨by rw [HOS.out, Sf.ni_set]; exact HO5.out⟩, HB4⟩
              case measure => simp [intOf]; omega
            · have hj : t = j := by have := HT.out; omega
              subst hj
              clear hlt
              go_wp2_with fail
              go_ret
              rw [← HL.out, Sf.outF_done] at HO2
              exact ⟨_, rfl, by rw [HL.out] at HO2; exact HO2.out, HB.out⟩
end Go.Proofs.Ytadekjidjhglaaa
