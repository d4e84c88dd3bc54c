/- Walks: BinarySearch among the documents' beginnings, text.At, text.Size. -/
import Derived.Test.YtadekjidjhglaaaSi
import Derived.Test.YtadekjidjhglaaaPc
import Derived.Test.YtadekjidjhglaaaBn
set_option linter.unusedVariables false
set_option linter.unusedSimpArgs false
namespace Go.Proofs.Ytadekjidjhglaaa.Sf
open Go.RowKit Go.Proofs.YtadekjidjhglaaaW.PrintWords
theorem less_int (a b : Int) : cmp_Less_int.f a b = some (decide (a < b)) := by simp [cmp_Less_int.f, cmp_isNaN_int.f]
theorem nan_int (a : Int) : slices_isNaN_int.f a = some false := by simp [slices_isNaN_int.f]
theorem bs_l (S : List Int) (x : Int) (hm : S.length ≤ 1000000) {r : Nat} (hr : Split (fun j => x ≤ S.getD j 0) S.length r) : ∀ (k lo hi : Nat), hi - lo < k → lo ≤ r → r ≤ hi → hi ≤ S.length →
    slices_BinarySearch_int_int.l0 k S x (S.length : Int) (lo : Int) (hi : Int) = some ((r : Int), decide (r < S.length ∧ S.getD r 0 = x))
  | 0, lo, hi, h, _, _, _ => by omega
  | k + 1, lo, hi, h, h1, h2, h3 => by
    unfold slices_BinarySearch_int_int.l0
    have hw1 : wrap64 ((lo : Int) + (hi : Int)) = ((lo + hi : Nat) : Int) := by rw [wrap64_in' _ (by omega)]; omega
    have hw2 : IntKind.u64.wrap ((lo + hi : Nat) : Int) = ((lo + hi : Nat) : Int) := by rw [IntKind.wrap_u64]; omega
    have hw3 : wrap64 (((lo + hi : Nat) : Int) / 2) = (((lo + hi) / 2 : Nat) : Int) := by rw [wrap64_in' _ (by omega)]; omega
    rw [hw1, hw2, hw3]
    by_cases hlt : lo < hi
    · rw [if_pos (by omega), if_pos (by omega), if_pos (by omega), less_int]
      have hrd : rd S (((lo + hi) / 2 : Nat) : Int) = S.getD ((lo + hi) / 2) 0 := by
        show S.getD (((lo + hi) / 2 : Nat) : Int).toNat 0 = _
        rw [Int.toNat_natCast]
      rw [hrd]
      have hmid1 : lo ≤ (lo + hi) / 2 := by omega
      have hmid2 : (lo + hi) / 2 < hi := by omega
      generalize (lo + hi) / 2 = mid at *
      show (if decide (S.getD mid 0 < x) = true then _ else _) = _
      by_cases hx : S.getD mid 0 < x
      · rw [if_pos (decide_eq_true hx), wrap64_in' _ (by omega)]
        have : mid < r := Nat.lt_of_not_le (fun h4 => by have := hr.2.2 mid h4 (by omega); omega)
        exact bs_l S x hm hr k (mid + 1) hi (by omega) (by omega) h2 h3
      · rw [if_neg (fun h4 => hx (of_decide_eq_true h4))]
        have : r ≤ mid := Nat.le_of_not_lt (fun h4 => by have := hr.2.1 mid h4; omega)
        exact bs_l S x hm hr k lo mid (by omega) h1 this (by omega)
    · have e : lo = r := by omega
      subst e
      rw [if_neg (by omega)]
      by_cases hn : lo < S.length
      · have hrd : rd S (lo : Int) = S.getD lo 0 := by
          show S.getD (lo : Int).toNat 0 = _
          rw [Int.toNat_natCast]
        rw [if_pos (by omega), if_pos (by omega), if_pos (by omega), hrd]
        by_cases hx : S.getD lo 0 = x
        · rw [if_pos hx, decide_eq_true ⟨hn, hx⟩]
        · rw [if_neg hx, nan_int, decide_eq_false (fun h => hx h.2)]
          rfl
      · rw [if_neg (by omega), decide_eq_false (fun h => hn h.1)]
def startsF (ds : List (List Int)) : List Int := (List.range ds.length).map fun i => (startF ds i : Int)
theorem startsF_length (ds : List (List Int)) : (startsF ds).length = ds.length := by simp [startsF]
theorem startsF_at (ds : List (List Int)) {i : Nat} (h : i < ds.length) : (startsF ds).getD i 0 = (startF ds i : Int) := by
  unfold startsF
  rw [List.getD_eq_getElem?_getD, List.getElem?_map, List.getElem?_range h]
  rfl
theorem startF_lt (ds : List (List Int)) : ∀ {i j : Nat}, i < j → j ≤ ds.length → startF ds i + (docF ds i).length < startF ds j := by
  intro i j hij hj
  induction j with
  | zero => omega
  | succ j ih =>
    have := startF_succ ds (i := j) (by omega)
    by_cases e : i = j
    · subst e; omega
    · have := ih (by omega) (by omega)
      omega
/-- Where a place's document is found. -/
theorem at_split {ds : List (List Int)} {h : Nat × Nat} (hh : h ∈ hitsF 0 ds) : Split (fun j => ((placeF ds h : Nat) : Int) ≤ (startsF ds).getD j 0) (startsF ds).length (if h.2 = 0 then h.1 else h.1 + 1) := by
  have hb := hit_bounds hh
  rw [startsF_length]
  unfold placeF
  refine ⟨by split <;> omega, fun j hj => ?_, fun j hj hjn => ?_⟩
  · show ¬ (((startF ds h.1 + h.2 : Nat) : Int) ≤ (startsF ds).getD j 0)
    rw [startsF_at ds (by split at hj <;> omega)]
    split at hj
    · have := startF_lt ds hj (by omega)
      omega
    · by_cases e : j = h.1
      · subst e; omega
      · have := startF_lt ds (show j < h.1 by omega) (by omega)
        omega
  · show ((startF ds h.1 + h.2 : Nat) : Int) ≤ (startsF ds).getD j 0
    rw [startsF_at ds hjn]
    split at hj
    · by_cases e : j = h.1
      · subst e; omega
      · have := startF_lt ds (show h.1 < j by omega) (by omega)
        omega
    · have := startF_lt ds (show h.1 < j by omega) (by omega)
      omega
end Go.Proofs.Ytadekjidjhglaaa.Sf
namespace Go.Proofs.Ytadekjidjhglaaa
open Go.RowKit Go.Proofs.YtadekjidjhglaaaW.PrintWords Go.Proofs.YtadekjidjhglaaaW.PrintLast Go.Proofs.YtadekjidjhglaaaW.PrintMore

theorem search_starts {ds : List (List Int)} (hm : ds.length ≤ 500) {h : Nat × Nat} (hh : h ∈ Sf.hitsF 0 ds) {A : Option Addr} {c : Nat} {w : World} (h0 : Kd.C (Kd.int .i64) w A ds.length (Sf.startsF ds)) :
    Calls Try.prog 59 #[.slice A ds.length c, .int .i64 (Sf.placeF ds h : Nat)] w fun e w' => e = .returned (.tuple #[.int .i64 ((if h.2 = 0 then h.1 else h.1 + 1 : Nat) : Int), .bool (decide (h.2 = 0))]) ∧ Drawn0 w w' := by
  have hl := Sf.startsF_length ds
  have hsp := Sf.at_split hh
  have hbd := Sf.hit_bounds hh
  have hf := Sf.bs_l (Sf.startsF ds) ((Sf.placeF ds h : Nat) : Int) (by omega) hsp (ds.length + 1) 0 ds.length (by omega) (Nat.zero_le _) (by have := hsp.1; omega) (by omega)
  have e : decide ((if h.2 = 0 then h.1 else h.1 + 1) < (Sf.startsF ds).length ∧ (Sf.startsF ds).getD (if h.2 = 0 then h.1 else h.1 + 1) 0 = ((Sf.placeF ds h : Nat) : Int)) = decide (h.2 = 0) := by
    rw [decide_eq_decide, hl]
    unfold Sf.placeF
    by_cases h0 : h.2 = 0
    · rw [if_pos h0, Sf.startsF_at ds hbd.1]
      constructor
      · exact fun _ => h0
      · exact fun _ => ⟨hbd.1, by omega⟩
    · rw [if_neg h0]
      constructor
      · rintro ⟨h1, h2⟩
        rw [Sf.startsF_at ds h1] at h2
        have := Sf.startF_lt ds (show h.1 < h.1 + 1 by omega) (by omega)
        omega
      · exact fun h2 => absurd h2 h0
  rw [e] at hf
  rw [← hl] at h0 ⊢
  exact slices_BinarySearch_int_int.calls (ds.length + 1) A c (Sf.startsF ds) _ _ _ w h0 (by unfold slices_BinarySearch_int_int.f; rw [hl]; rw [hl] at hf; exact hf)

set_option maxRecDepth 100000 in
set_option maxHeartbeats 1000000 in
theorem at_calls (g : Nat) (ds : List (List Int)) (w : World) (hT : TextAt w g ds) (hm : ds.length ≤ 500) (hn : (Sf.rowF ds).length ≤ 60000) {h : Nat × Nat} (hh : h ∈ Sf.hitsF 0 ds) :
    Calls Try.prog 31 #[.pointer (some ⟨g, 0, none⟩), .int .i64 (Sf.placeF ds h : Nat)] w fun e w' => e = .returned (.tuple #[.int .i64 h.1, .int .i64 h.2, .bool true]) ∧ Drawn0 w w' := by
  obtain ⟨A0, c0, A1, c1, A2, c2, h0, h1, h2, l0, l2, r0, r1, r2⟩ := hT.out
  have hbd := Sf.hit_bounds hh
  have hlt := Sf.hit_lt ds hh
  rw [Sf.rowF_length] at h2 hn
  have hpl : Sf.placeF ds h = Sf.startF ds h.1 + h.2 := rfl
  have hsr := at_nat r1 (Below.refl _ _) h.1 hbd.1
  obtain ⟨ad1, e, hx⟩ := hsr
  cases e
  have hst : ((List.range ds.length).map fun i => (Sf.startF ds i : Int)).getD h.1 0 = (Sf.startF ds h.1 : Int) := Sf.startsF_at ds hbd.1
  rw [hst] at hx
  have HSR := Aside0.mk (search_starts hm hh (A := some ad1) (c := c1) (w := w) r1)
  have HPL := Aside0.mk hpl
  clear hT r0 r1 r2 hst hpl
  generalize Sf.placeF ds h = p at *
  generalize Sf.startF ds h.1 = s at *
  go_enter Try.func31, Try.ntmps31
  have hpl0 : p < Sf.lenF ds := hlt
  by_cases hz : h.2 = 0
  · rw [if_pos hz, decide_eq_true hz] at HSR
    have he : p = s := by have := HPL.out; omega
    subst he
    have hw : wrap64 ((p : Int) - (p : Int)) = 0 := by rw [Sf.wrap64_in' _ (by omega)]; omega
    go_wp2_with (first | (go_at_call 59; refine HSR.out.mono ?_; rintro e w' ⟨rfl, ⟨m, rfl⟩⟩))
    go_quiet (fail)
    go_wp2_with fail
    go_ret3
    exact ⟨by rw [hz]; rfl, Drawn0.step (Drawn0.mk ⟨m, rfl⟩) _⟩
  · rw [if_neg hz, decide_eq_false hz] at HSR
    have hw : wrap64 ((p : Int) - (s : Int)) = ((h.2 : Nat) : Int) := by
      have := HPL.out
      rw [Sf.wrap64_in' _ (by omega)]; omega
    go_wp2_with (first | (go_at_call 59; refine HSR.out.mono ?_; rintro e w' ⟨rfl, ⟨m, rfl⟩⟩))
    go_quiet (fail)
    go_wp2_with fail
    go_ret3
    exact ⟨by rw [← hw]; rfl, Drawn0.step (Drawn0.mk ⟨m, rfl⟩) _⟩
end Go.Proofs.Ytadekjidjhglaaa
