/- Walks: slices.Clone of symbols, bwt.Runs. -/
import Derived.Test.YtadekjidjhglaaaCa
import Derived.Test.YtadekjidjhglaaaBg
import Derived.RangeFuncNested
import Derived.RangeFuncBound
import Derived.RangeFuncCalls
import Derived.RangeFuncLeaves
import Derived.Shelf.Abstract
import Derived.WalkKit
import Derived.OwnWalkIn
import Derived.TacticsInMore
import Derived.LoopNIn
import Derived.LoopIn
import Derived.Maps.AppendAt
import Derived.Test.YtadekjidjhglaaaSq
set_option linter.unusedVariables false
set_option linter.unusedSimpArgs false
namespace Go.Proofs.Ytadekjidjhglaaa
open Go.RowKit Go.Proofs.YtadekjidjhglaaaW.PrintWords Go.Proofs.YtadekjidjhglaaaW.PrintLast Go.Proofs.YtadekjidjhglaaaW.PrintMore
set_option maxRecDepth 100000 in
set_option maxHeartbeats 400000 in
theorem clone_u16 (A : Option Addr) (n c : Nat) (d : List Int) (w : World) (h : Kd.C (Kd.int .u16) w A n d) (hn : n ≤ 100000) :
    Calls Try.prog 81 #[.slice A n c] w fun e w' => ∃ v, e = .returned v ∧ Kd.R (Kd.int .u16) 57 w' w.heap.size (fun _ => True) v d ∧ Below w.heap.size w w' := by
  have H := Aside0.mk h
  cases A with
  | none =>
    have hd : d = [] := by
      have h1 := h.1
      have h2 := h.2.2
      by_cases e : 0 < n
      · obtain ⟨ad, e, _⟩ := h2 e
        cases e
      · exact List.eq_nil_of_length_eq_zero (by omega)
    clear h
    have hnil := Lib.run_eql_slice_nil (P := Try.prog) w 53 57 none n c 0 0 Try.underlying53
    have HD := Aside0.mk hd
    clear hd
    go_enter Try.func81, Try.ntmps81
    go_wp2
    go_ret
    exact ⟨_, rfl, by rw [HD.out]; exact Kd.R_nil _ _ _ _ _, Below.refl _ _⟩
  | some ad =>
    clear h
    have hnil := Lib.run_eql_slice_nil (P := Try.prog) w 53 57 (some ad) n c 0 0 Try.underlying53
    have HB := Aside0.mk (below_alloc (Below.refl w.heap.size w) (.cells #[] 57))
    have HC := Aside0.mk (Kd.C_below H.out HB.out)
    have HO := Aside0.mk (own_empty (Kd.int .u16) 57 w w.heap.size (Nat.le_refl _))
    have HL : Aside0 (([] : List Int).length + n ≤ 100000000) := ⟨by simp; omega⟩
    go_enter Try.func81, Try.ntmps81
    go_wp2_with (first | (at_builtin; refine app_rows 53 57 2 Try.underlying53 info57 (by omega) (by omega) rfl _ _ rfl _ _ _ _ _ _ rfl rfl HO HC HB HL ?_; intro v1 w1 HO1 HB1 hg hat; clear hg hat HO HB HC))
    go_ret
    exact ⟨_, rfl, HO1.out, HB1.out⟩
theorem boxed_far {W W' : World} {B : Nat} {t : TypeId} {v : Value} (h : Boxed W B t v) (hb : W'.heap[B]? = W.heap[B]?) : Boxed W' B t v := hb.trans h
/-- The runs' own copy. -/
structure RunBox (w w' : World) (B : Nat) (A : Option Addr) (n c : Nat) (l : List Int) : Prop where
  box : Boxed w' B 53 (.slice A n c)
  cap : n ≤ c
  row : (Kd.int .u16).C w' A n l
  at_ : ∀ ad, A = some ad → B < ad.block ∧ ad.block < w'.heap.size
  below : Below B w w'
set_option maxRecDepth 100000 in
set_option maxHeartbeats 1000000 in
theorem runs_make (A : Option Addr) (n c : Nat) (l : List Int) (w : World) (h : Kd.C (Kd.int .u16) w A n l) (hn : n ≤ 100000) :
    Calls Try.prog 70 #[.slice A n c] w fun e w' => ∃ A1 c1, e = .returned (.func (.func 82) #[] #[.pointer (some ⟨w.heap.size, 0, none⟩)]) ∧ RunBox w w' w.heap.size A1 n c1 l := by
  have hl : l.length = n := h.1
  have HC := Aside0.mk (Kd.C_below h (below_alloc (Below.refl w.heap.size w) (.cells #[.slice A n c] 53)))
  have HB0 := Aside0.mk (below_alloc (Below.refl w.heap.size w) (.cells #[.slice A n c] 53))
  have bN := Boxed.new w 53 (.slice A n c)
  have HBN := Aside0.mk bN
  clear h bN
  subst hl
  go_enter Try.func70, Try.ntmps70
  go_wp2_with fail
  refine (clone_u16 A _ c l _ HC.out hn).mono ?_
  rintro e w1 ⟨v, rfl, hR, hB⟩
  obtain ⟨A1, c1, rfl, hc1, hC1⟩ := Kd.R_reads hR
  have hat : ∀ ad, A1 = some ad → w.heap.size < ad.block ∧ ad.block < w1.heap.size := by
    rintro ad rfl
    have hh := (Kd.R_bound hR).1 ad.block (by simp [Value.ownBlock])
    have h1 := hh.2.1
    have h2 := hh.2.2.1
    simp at h1
    omega
  have bN := boxed_far HBN.out (hB.block w.heap.size (by simp))
  have hcell := bN.cell
  have hfro := bN.frozen
  have hB2 := below_then HB0.out HB0.out.size hB
  have HF := Aside0.mk (And.intro hR (And.intro hat (And.intro hB2 (And.intro hc1 bN))))
  clear hR hat hB hB2 hc1 hC1 bN HC HB0 HBN
  go_wp2_with fail
  go_ret
  obtain ⟨hR, hat, hB2, hc1, bN⟩ := HF.out
  refine ⟨A1, c1, rfl, bN.set _, hc1, ?_, ?_, ?_⟩
  · exact (Kd.R_reads' (Kd.R_far (Kd.R_bound hR) (p := ⟨w.heap.size, 0, none⟩) (fun k hk => by have := hk.2.1; simp at this; show k ≠ w.heap.size; omega) _)).2.2
  · intro ad e
    have h1 := hat ad e
    have h2 := (grownBy_setCell' w1 w.heap.size (Value.slice A1 l.length c1)).size
    exact ⟨h1.1, Nat.lt_of_lt_of_le h1.2 h2⟩
  · exact hB2.setCell (p := ⟨w.heap.size, 0, none⟩) (Nat.le_refl _) _
end Go.Proofs.Ytadekjidjhglaaa
