/- Walks: SameInts, Few. -/
import Derived.Test.YtadekjidjhglaaaBh
set_option linter.unusedVariables false
set_option linter.unusedSimpArgs false
namespace Go.Proofs.Ytadekjidjhglaaa
open Go.RowKit Go.Proofs.YtadekjidjhglaaaW.PrintWords Go.Proofs.YtadekjidjhglaaaW.PrintLast Go.Proofs.YtadekjidjhglaaaW.PrintMore

theorem eq_of_getD {xs ys : List Int} (hl : xs.length = ys.length) (h : ∀ t, t < xs.length → xs.getD t 0 = ys.getD t 0) : xs = ys := by
  apply List.ext_getElem hl
  intro t h1 h2
  have := h t h1
  rwa [List.getD_eq_getElem?_getD, List.getD_eq_getElem?_getD, List.getElem?_eq_getElem h1, List.getElem?_eq_getElem h2] at this

set_option maxRecDepth 100000 in
set_option maxHeartbeats 1000000 in
theorem sameInts_calls (A0 : Option Addr) (n0 c0 : Nat) (xs : List Int) (A1 : Option Addr) (n1 c1 : Nat) (ys : List Int) (w : World) (h0 : Kd.C (Kd.int .i64) w A0 n0 xs) (h1 : Kd.C (Kd.int .i64) w A1 n1 ys) :
    Calls Try.prog 20 #[.slice A0 n0 c0, .slice A1 n1 c1] w fun e w' => e = .returned (.bool (decide (xs = ys))) ∧ Below w.heap.size w w' := by
  have H0 := Aside0.mk h0
  have H1 := Aside0.mk h1
  have hx := h0.1
  have hy := h1.1
  have hb0 := h0.2.1
  have hb1 := h1.2.1
  have HX := Aside0.mk hx
  have HY := Aside0.mk hy
  by_cases hl : n0 = n1
  · subst hl
    have hl1 : ((n0 : Int) != (n0 : Int)) = false := by simp
    clear h0 h1 hx hy hb1
    go_enter Try.func20, Try.ntmps20
    go_wp2_with fail
    go_loopw [4, 5] (fun v4 v5 w' => ∃ i : Nat, v5 = .int .i64 i ∧ Aside0 (i ≤ n0) ∧ Aside0 (∀ t, t < i → xs.getD t 0 = ys.getD t 0) ∧ Aside0 (Below w.heap.size w w')) (fun _ i _ => n0 - (intOf i).toNat)
    case atStart => exact ⟨0, rfl, ⟨Nat.zero_le _⟩, ⟨fun t h => absurd h (Nat.not_lt_zero _)⟩, ⟨Below.refl _ _⟩⟩
    case round =>
      obtain ⟨i, rfl, HI, HA, HB⟩ := hrel
      by_cases hlt : i < n0
      · obtain ⟨ad, e, hx⟩ := at_nat H0.out HB.out i hlt
        cases e
        obtain ⟨ad1, e, hy⟩ := at_nat H1.out HB.out i hlt
        cases e
        have hlt' : (i : Int) < (n0 : Int) := by omega
        have hge : (0 : Int) ≤ (i : Int) := by omega
        by_cases he : xs.getD i 0 = ys.getD i 0
        · have HE : Aside0 (∀ t, t < i + 1 → xs.getD t 0 = ys.getD t 0) := ⟨fun t ht => by
            by_cases h : t = i
            · subst h; exact he
            · exact HA.out t (by omega)⟩
          have he1 : (xs.getD i 0 != ys.getD i 0) = false := by simpa using he
          clear he
          generalize xs.getD i 0 = x at *
          generalize ys.getD i 0 = y at *
          go_wp2_with fail
          go_quiet (fail)
          have HB2 := fun m => Aside0.mk (pw_below_drewN HB.out m)
          go_wp2_with fail
          go_roundw
          case rel => exact ⟨i + 1, by go_num, ⟨by omega⟩, HE, HB2 _⟩
          case measure => simp [intOf]; omega
        · have HN : Aside0 (decide (xs = ys) = false) := ⟨decide_eq_false (fun h => he (by rw [h]))⟩
          have he1 : (xs.getD i 0 != ys.getD i 0) = true := by simpa using he
          clear he
          generalize xs.getD i 0 = x at *
          generalize ys.getD i 0 = y at *
          go_wp2_with fail
          go_quiet (fail)
          have HB2 := fun m => Aside0.mk (pw_below_drewN HB.out m)
          go_wp2_with fail
          go_ret
          exact ⟨by rw [HN.out]; rfl, (HB2 _).out⟩
      · have hj : i = n0 := by have := HI.out; omega
        subst hj
        have HN : Aside0 (decide (xs = ys) = true) := ⟨decide_eq_true (eq_of_getD (by rw [HX.out, HY.out]) (fun t ht => HA.out t (by have := HX.out; omega)))⟩
        clear hlt
        go_wp2_with fail
        go_ret
        exact ⟨by rw [HN.out]; rfl, HB.out⟩
  · have hl1 : ((n0 : Int) != (n1 : Int)) = true := by simp; omega
    have HN : Aside0 (decide (xs = ys) = false) := ⟨decide_eq_false (fun h => hl (by rw [← hx, ← hy, h]))⟩
    clear h0 h1 hx hy hl
    go_enter Try.func20, Try.ntmps20
    go_wp2_with fail
    go_ret
    exact ⟨by rw [HN.out]; rfl, Below.refl _ _⟩

/-- Few documents, and short. -/
def fewF (ds : List (List Int)) : Bool := decide (ds.length ≤ 40 ∧ (∀ d ∈ ds, d.length ≤ 2000) ∧ (ds.map List.length).sum ≤ 3000)

/-- A bool, and what it says where it is true. -/
def BoolImp (p : Prop) (e : Ending) : Prop := ∃ b : Bool, e = .returned (.bool b) ∧ (b = true → p)
def sumF (ds : List (List Int)) (i : Nat) : Nat := ((ds.take i).map List.length).sum
theorem sumF_succ (ds : List (List Int)) {i : Nat} (h : i < ds.length) : sumF ds (i + 1) = sumF ds i + (Sf.docF ds i).length := by
  unfold sumF
  rw [Sf.take_succ_doc ds h]
  simp
theorem lt_bools {a b : Int} (h : a < b) : decide (a < b) = true := by simpa using h

set_option maxRecDepth 100000 in
set_option maxHeartbeats 1000000 in
theorem few_calls (A0 : Option Addr) (n c0 : Nat) (ds : List (List Int)) (w : World) (h0 : Kd.C (Kd.slice 5 (Kd.int .u8)) w A0 n ds) :
    Calls Try.prog 15 #[.slice A0 n c0] w fun e w' => BoolImp (fewF ds = true) e ∧ w = w' := by
  have H0 := Aside0.mk h0
  have HX := Aside0.mk h0.1
  have hb0 := h0.2.1
  clear h0
  go_enter Try.func15, Try.ntmps15
  go_wp2_with fail
  go_loop [3, 4] (fun v3 v4 => ∃ i : Nat, v4 = .int .i64 i ∧ v3 = .int .i64 (sumF ds i) ∧ Aside0 (i ≤ n ∧ i ≤ 41 ∧ sumF ds i ≤ 2000 * i) ∧ Aside0 (∀ t, t < i → (Sf.docF ds t).length ≤ 2000)) (fun _ i => 41 - (intOf i).toNat)
  case atStart => exact ⟨0, rfl, rfl, ⟨by omega, by omega, by simp [sumF]⟩, ⟨fun t h => absurd h (Nat.not_lt_zero _)⟩⟩
  case round =>
    obtain ⟨i, rfl, rfl, HI, HA⟩ := hrel
    have hi := HI.out
    by_cases h1 : i < n
    · by_cases h2 : i ≤ 40
      · obtain ⟨ad, Ad, cd, e, hx, hcd, hC⟩ := at_doc H0.out (Below.refl _ _) i h1
        cases e
        have hbig := hC.2.1
        clear hC
        have hs := sumF_succ ds (i := i) (by have := HX.out; omega)
        have HS := Aside0.mk hs
        clear hs
        by_cases h3 : (Sf.docF ds i).length ≤ 2000
        · have HA' : Aside0 (∀ t, t < i + 1 → (Sf.docF ds t).length ≤ 2000) := ⟨fun t ht => by
            by_cases h : t = i
            · subst h; exact h3
            · exact HA.out t (by omega)⟩
          clear HA
          generalize (Sf.docF ds i).length = q at *
          generalize sumF ds i = S at *
          go_wp2_with fail
          go_round
          case rel => exact ⟨i + 1, by go_num, by rw [HS.out]; go_num, ⟨by rw [HS.out]; omega⟩, HA'⟩
          case measure => simp [intOf]; omega
        · generalize (Sf.docF ds i).length = q at *
          go_wp2_with fail
          go_ret
          exact ⟨⟨false, rfl, fun h => absurd h (by simp)⟩, rfl⟩
      · go_wp2_with fail
        all_goals (go_ret; exact ⟨⟨false, rfl, fun h => absurd h (by simp)⟩, rfl⟩)
    · have hj : i = n := by omega
      subst hj
      have hsum : sumF ds i = (ds.map List.length).sum := by unfold sumF; rw [List.take_of_length_le (by have := HX.out; omega)]
      have HF : Aside0 (i ≤ 40 → sumF ds i ≤ 3000 → fewF ds = true) := ⟨fun h1 h2 => by
        unfold fewF
        rw [decide_eq_true_iff]
        refine ⟨by have := HX.out; omega, fun d hd => ?_, by omega⟩
        obtain ⟨t, ht, rfl⟩ := List.getElem_of_mem hd
        have := HA.out t (by have := HX.out; omega)
        unfold Sf.docF at this
        rwa [List.getD_eq_getElem?_getD, List.getElem?_eq_getElem ht] at this⟩
      clear hsum
      by_cases h2 : i ≤ 40
      · go_wp2_with fail
        go_ret
        exact ⟨⟨decide ((sumF ds i : Int) ≤ 3000), rfl, fun h => HF.out h2 (by have := of_decide_eq_true h; omega)⟩, rfl⟩
      · go_wp2_with fail
        go_ret
        exact ⟨⟨false, rfl, fun h => absurd h (by simp)⟩, rfl⟩
end Go.Proofs.Ytadekjidjhglaaa
