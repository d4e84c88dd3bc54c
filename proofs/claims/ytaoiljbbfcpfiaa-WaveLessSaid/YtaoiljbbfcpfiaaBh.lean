/- Walks: bits.New. -/
import Derived.Test.YtaoiljbbfcpfiaaBg
import Derived.Test.YtaoiljbbfcpfiaaSh
set_option linter.unusedVariables false
set_option linter.unusedSimpArgs false
namespace Go.Proofs.Ytaoiljbbfcpfiaa
open Go.RowKit Go.Proofs.YtaoiljbbfcpfiaaW.PrintWords Go.Proofs.YtaoiljbbfcpfiaaW.PrintLast Go.Proofs.YtaoiljbbfcpfiaaW.PrintMore
def WordsTo (bs : List Bool) (i : Nat) (ws : List Int) : Prop := ws.length = (bs.length + 63) / 64 ∧ ∀ j, j < (bs.length + 63) / 64 → ws.getD j 0 = (Wf.wordAt (bs.take i) j : Int)
theorem words_zero (bs : List Bool) : WordsTo bs 0 (List.replicate ((bs.length + 63) / 64) 0) := ⟨List.length_replicate, fun t ht => by
  simp [List.getD_eq_getElem?_getD, Wf.wordAt, Wf.wordOf, ht]⟩
theorem words_false {bs : List Bool} {i : Nat} {ws : List Int} (h : WordsTo bs i ws) (hi : i < bs.length) (hb : bs.getD i false = false) : WordsTo bs (i + 1) ws := by
  refine ⟨h.1, fun j hj => ?_⟩
  rw [h.2 j hj]
  by_cases e : j = i / 64
  · subst e
    rw [Wf.at_take_same hi, hb]
    simp
  · rw [Wf.at_take_other bs e]
theorem words_true {bs : List Bool} {i : Nat} {ws : List Int} (h : WordsTo bs i ws) (hi : i < bs.length) (hb : bs.getD i false = true) : WordsTo bs (i + 1) (ws.set (i / 64) ((Wf.wordAt (bs.take i) (i / 64) + 2 ^ (i % 64) : Nat) : Int)) := by
  refine ⟨by rw [List.length_set]; exact h.1, fun j hj => ?_⟩
  by_cases e : j = i / 64
  · subst e
    rw [Wf.at_take_same hi, hb, List.getD_eq_getElem?_getD, List.getElem?_set_self (by rw [h.1]; exact hj)]
    simp
  · rw [Wf.at_take_other bs e, List.getD_eq_getElem?_getD, List.getElem?_set_ne (by omega), ← List.getD_eq_getElem?_getD]
    exact h.2 j hj
theorem words_all {bs : List Bool} {ws : List Int} (h : WordsTo bs bs.length ws) : ws = wordsL bs := by
  apply List.ext_getElem
  · rw [h.1]; simp [wordsL]
  · intro t h1 h2
    have h3 := h.2 t (by have := h.1; omega)
    rw [List.getD_eq_getElem?_getD, List.getElem?_eq_getElem h1, List.take_length] at h3
    simpa [wordsL] using h3
theorem bool_at {xs : List Bool} {w w1 : World} {A : Option Addr} {n : Nat} (h : Kd.bool.C w A n xs) (hb : Below w.heap.size w w1) (j : Nat) (hj : j < n) :
    ∃ ad, A = some ad ∧ w1.cell? (ad.add j) = some (.bool (xs.getD j false)) := by
  obtain ⟨ad, e, hx⟩ := Kd.at_bool h (j : Int) (by omega) (by omega)
  rw [Int.toNat_natCast] at hx
  exact ⟨ad, e, by rw [pw_cell_below hb hx]; simp [rdOf]⟩
def VecEnd (bs : List Bool) (w : World) (e : Ending) (w' : World) : Prop := ∃ g, e = .returned (.tuple #[.pointer (some ⟨g, 0, none⟩), .int .i64 0]) ∧ VecOwn w.heap.size w' g bs ∧ Below w.heap.size w w'
set_option maxRecDepth 100000 in
set_option maxHeartbeats 2000000 in
theorem vec_calls (A : Option Addr) (c n m : Nat) (bs : List Bool) (w : World) (h : Kd.C Kd.bool w A n bs) (hn : n ≤ 100000) (hmq : m = (n + 63) / 64) :
    Calls Try.prog 14 #[.slice A n c] w fun e w' => VecEnd bs w e w' := by
  have hl : bs.length = n := h.1
  have H := Aside0.mk h
  have HM := Aside0.mk hmq
  have HL := Aside0.mk hl
  clear h hmq hl
  go_enter Try.func14, Try.ntmps14
  go_wp2_with (first | (go_at_call 20; refine (empty_calls n m hn HM.out _).mono ?_; rintro e w' ⟨g, g1, g2, rfl, hV, hB⟩; have HV := Aside0.mk hV; have HB := Aside0.mk hB; clear hV hB))
  have HW : Aside0 (WordsTo bs 0 (List.replicate m 0)) := ⟨by have := words_zero bs; rw [HL.out, ← HM.out] at this; exact this⟩
  go_loopw [15] (fun v15 w1 => ∃ i : Nat, v15 = .int .i64 i ∧ Aside0 (i ≤ n) ∧ (∃ ws, Aside0 (WordsTo bs i ws) ∧ Aside0 (VecRaw w.heap.size w1 g g1 g2 n m ws (List.replicate (m + 1) 0))) ∧ Aside0 (Below w.heap.size w w1)) (fun v15 _ => n - (intOf v15).toNat)
  case atStart => exact ⟨0, rfl, ⟨Nat.zero_le _⟩, ⟨_, HW, HV⟩, HB⟩
  case round =>
    clear HW HV HB
    obtain ⟨i, rfl, HI, ⟨ws, HW, HV⟩, HB⟩ := hrel
    by_cases hlt : i < n
    · obtain ⟨ad, e, hx⟩ := bool_at H.out HB.out i hlt
      cases e
      cases hb : bs.getD i false with
      | false =>
        have HWF := Aside0.mk (words_false HW.out (by rw [HL.out]; exact hlt) hb)
        rw [hb] at hx
        clear hb
        go_wp2_with fail
        exact ⟨⟨i + 1, by go_num, ⟨by omega⟩, ⟨_, HWF, HV⟩, HB⟩, by simp [intOf]; omega⟩
      | true =>
        have HWF := Aside0.mk (words_true HW.out (by rw [HL.out]; exact hlt) hb)
        rw [hb] at hx
        clear hb
        have hjm : i / 64 < m := by rw [HM.out]; omega
        obtain ⟨hq3, hq4⟩ := HV.out.at1 (i / 64) hjm
        obtain ⟨c0, c1, c2⟩ := HV.out.cells
        rw [HW.out.2 (i / 64) (by rw [HL.out, ← HM.out]; exact hjm)] at hq3
        have hor := Wf.or_bit (Wf.at_take_lt bs i) (Nat.mod_lt i (by omega))
        generalize Wf.wordAt (bs.take i) (i / 64) = x at *
        have hsh0 : IntKind.u64.wrap (2 ^ (i % 64)) = ((2 ^ (i % 64) : Nat) : Int) := by
          have hp : 2 ^ (i % 64) ≤ 2 ^ 63 := Nat.pow_le_pow_right (by decide) (by omega)
          rw [show (2 : Int) ^ (i % 64) = ((2 ^ (i % 64) : Nat) : Int) by push_cast; rfl]
          exact Wf.wrapu (by omega)
        have hq : (i : Int) / 64 = ((i / 64 : Nat) : Int) := by omega
        have hr64 : i % 64 < 64 := by omega
        have hwq : IntKind.i64.wrap ((i : Int) / 64) = ((i / 64 : Nat) : Int) := by rw [IntKind.wrap_i64]; omega
        have htm : Int.tmod (i : Int) 64 = ((i % 64 : Nat) : Int) := by rw [Int.tmod_eq_emod_of_nonneg (by omega)]; omega
        have hr : (i : Int) % 64 = ((i % 64 : Nat) : Int) := by omega
        rw [hq] at hwq
        generalize 2 ^ (i % 64) = P2 at *
        generalize i / 64 = j at *
        generalize i % 64 = t at *
        go_wp2_with fail
        go_region
        have HV2 := Aside0.mk ((HV.out.put1 j ((x + P2 : Nat) : Int)).drewN 1)
        have HB2 := Aside0.mk (pw_below_drewN (Below.setCell HB.out (p := ⟨g1, j, none⟩) HV.out.base1.1 (.int .u64 ((x + P2 : Nat) : Int))) 1)
        go_wp2_with fail
        exact ⟨⟨i + 1, by go_num, ⟨by omega⟩, ⟨_, HWF, HV2⟩, HB2⟩, by simp [intOf]; omega⟩
    · have hin : i = n := by have := HI.out; omega
      have hwl := words_all (by have := HW.out; rw [hin, ← HL.out] at this; exact this)
      have HV3 := Aside0.mk HV.out
      rw [hwl] at HV3
      have HC := Aside0.mk (count_calls g g1 g2 m w.heap.size bs wr (by rw [HL.out]; exact HM.out) (by rw [HL.out]; exact HV3.out) (by have := HM.out; omega) (by rw [HL.out]; exact hn))
      clear hin hwl HV HW HV3
      go_wp2_with (first | (go_at_call 21; refine (HC.out).mono ?_; rintro e w' ⟨rfl, hV, hB⟩; have HV5 := Aside0.mk hV; have HB5 := Aside0.mk (HB.out.trans hB); clear hV hB HB))
      go_ret2
      exact ⟨_, rfl, HV5.out, HB5.out⟩
end Go.Proofs.Ytaoiljbbfcpfiaa
