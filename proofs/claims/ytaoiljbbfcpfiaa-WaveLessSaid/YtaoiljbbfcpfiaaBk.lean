/- Walks: a Matrix in memory; down a level. -/
import Derived.Test.YtaoiljbbfcpfiaaBj
set_option linter.unusedVariables false
set_option linter.unusedSimpArgs false
namespace Go.Proofs.Ytaoiljbbfcpfiaa
open Go.RowKit Go.Proofs.YtaoiljbbfcpfiaaW.PrintWords Go.Proofs.YtaoiljbbfcpfiaaW.PrintLast Go.Proofs.YtaoiljbbfcpfiaaW.PrintMore
attribute [local go_sem] max2_int min2_int max_two min_two max_three min_three max_four min_four
structure MatAt (W : World) (g : Nat) (l : List Int) (n : Nat) : Prop where
  mk ::
  (len : l.length = n)
  (c0 : ∃ A c, W.cell? ⟨g, 0, none⟩ = some (.slice A n c) ∧ n ≤ c ∧ Kd.C (Kd.int .u16) W A n l)
  (lv : ∀ t, t < 9 → ∃ gt, W.cell? ⟨g, 1 + t, none⟩ = some (.pointer (some ⟨gt, 0, none⟩)) ∧ VecAt W gt (Wf.bitsF l t))
  (zs : ∀ t, t < 9 → W.cell? ⟨g, 10 + t, none⟩ = some (.int .i64 (Wf.zerosF l t : Nat)))
theorem MatAt.below {W W1 : World} {g n : Nat} {l : List Int} (h : MatAt W g l n) (hb : Below W.heap.size W W1) : MatAt W1 g l n := by
  obtain ⟨A, c, h1, h2, h3⟩ := h.c0
  refine ⟨h.len, ⟨A, c, pw_cell_below hb h1, h2, Kd.C_below h3 hb⟩, fun t ht => ?_, fun t ht => pw_cell_below hb (h.zs t ht)⟩
  obtain ⟨gt, h4, h5⟩ := h.lv t ht
  exact ⟨gt, pw_cell_below hb h4, h5.below hb⟩
theorem MatTo.mat {B : Nat} {W : World} {g : Nat} {l : List Int} {A1 : Option Addr} {n c1 : Nat} (h : MatTo B W g l A1 n c1 9 9) : MatAt W g l n := by
  have hr := Kd.R_reads' h.row
  refine ⟨hr.1.symm, ⟨A1, c1, h.c0, hr.2.1, own_C h.row⟩, fun t ht => ?_, h.zs⟩
  obtain ⟨gt, h4, h5⟩ := h.lv t ht
  exact ⟨gt, h4, h5.vec⟩
set_option maxRecDepth 100000 in
theorem within_calls (g n : Nat) (l : List Int) (w : World) (hM : MatAt w g l n) (i : Nat) (hi : i ≤ n) :
    Calls Try.prog 15 #[.pointer (some ⟨g, 0, none⟩), .int .i64 (i : Int)] w fun e w' => e = .returned (.int .i64 (i : Int)) ∧ Drawn0 w w' := by
  obtain ⟨A, c, h1, h2, h3⟩ := hM.c0
  have hmx : mx (i : Int) 0 = (i : Int) := by unfold mx; omega
  have hmn : mn (i : Int) (n : Int) = (i : Int) := by unfold mn; omega
  clear hM h3
  go_enter Try.func15, Try.ntmps15
  go_wp2_with fail
  go_ret
  exact ⟨rfl, Drawn0.refl _⟩
theorem ones_down (l : List Int) (k i : Nat) (hi : i ≤ l.length) : Wf.ones ((Wf.bitsF l k).take i) ≤ i := by
  have := Wf.ones_le ((Wf.bitsF l k).take i)
  rw [List.length_take] at this
  omega
set_option maxRecDepth 100000 in
set_option maxHeartbeats 2000000 in
theorem down_calls (g n : Nat) (l : List Int) (w : World) (hM : MatAt w g l n) (hn : n ≤ 100000) (k : Nat) (hk : k < 9) (lo hi : Nat) (hlo : lo ≤ n) (hhi : hi ≤ n) (b : Bool) :
    Calls Try.prog 16 #[.pointer (some ⟨g, 0, none⟩), .int .i64 (k : Int), .int .i64 (lo : Int), .int .i64 (hi : Int), .bool b] w fun e w' => e = .returned (.tuple #[.int .i64 (Wf.downF l k b lo : Nat), .int .i64 (Wf.downF l k b hi : Nat)]) ∧ Drawn0 w w' := by
  obtain ⟨gt, hv1, hv2⟩ := hM.lv k hk
  have hz := hM.zs k hk
  have hln := hM.len
  have hbl : (Wf.bitsF l k).length = n := by unfold Wf.bitsF; rw [List.length_map, Wf.level_length]; exact hln
  have hzl : Wf.zerosF l k ≤ n := by
    have := List.length_filter_le (fun x => !Wf.bitF x k) (Wf.levelF l k)
    rw [Wf.level_length] at this
    unfold Wf.zerosF
    omega
  have hol := ones_down l k lo (by omega)
  have hoh := ones_down l k hi (by omega)
  have hk0 : (0 : Int) ≤ (k : Int) := by omega
  have hk9 : (k : Int) < 9 := by omega
  have hlt10 : 1 + k < 19 := by omega
  cases b with
  | true =>
    have HRK := Aside0.mk (fun W (i : Nat) (hi : i ≤ n) (hb : Below w.heap.size w W) => rank_calls gt _ W (hv2.below hb) (by omega) i (by omega))
    have hw1 : IntKind.i64.wrap ((Wf.zerosF l k : Int) + (Wf.ones ((Wf.bitsF l k).take lo) : Int)) = ((Wf.downF l k true lo : Nat) : Int) := by unfold Wf.downF; rw [if_pos rfl, IntKind.wrap_i64]; omega
    have hw2 : IntKind.i64.wrap ((Wf.zerosF l k : Int) + (Wf.ones ((Wf.bitsF l k).take hi) : Int)) = ((Wf.downF l k true hi : Nat) : Int) := by unfold Wf.downF; rw [if_pos rfl, IntKind.wrap_i64]; omega
    clear hM hv2 hln hbl hzl hol hoh
    generalize Wf.downF l k true lo = d1 at *
    generalize Wf.downF l k true hi = d2 at *
    go_enter Try.func16, Try.ntmps16
    go_wp2_with fail
    go_quiet (first | (go_at_call 22; refine (HRK.out _ _ (by first | exact hlo | exact hhi) (by first | exact Below.refl _ _ | exact pw_below_drewN (Below.refl _ _) _ | exact below_drew (Below.refl _ _))).mono ?_; rintro e w' ⟨rfl, hD⟩; obtain ⟨nd, rfl⟩ := hD.out; exact ⟨rfl, _, World.drewN_drewN _ _ _⟩))
    go_wp2_with fail
    go_ret2
    exact ⟨rfl, ⟨nq, rfl⟩⟩
  | false =>
    have HRK := Aside0.mk (fun W (i : Nat) (hi : i ≤ n) (hb : Below w.heap.size w W) => zeros_calls gt _ W (hv2.below hb) (by omega) i (by omega))
    have hw1 : lo - Wf.ones ((Wf.bitsF l k).take lo) = Wf.downF l k false lo := by unfold Wf.downF; rw [if_neg (by decide)]
    have hw2 : hi - Wf.ones ((Wf.bitsF l k).take hi) = Wf.downF l k false hi := by unfold Wf.downF; rw [if_neg (by decide)]
    have HW := Aside0.mk (And.intro hw1 hw2)
    clear hM hv2 hln hbl hzl hol hoh hw1 hw2
    generalize Wf.downF l k false lo = d1 at *
    generalize Wf.downF l k false hi = d2 at *
    go_enter Try.func16, Try.ntmps16
    go_wp2_with (first | (go_at_call 23; refine (HRK.out _ _ (by first | exact hlo | exact hhi) (by first | exact Below.refl _ _ | exact pw_below_drewN (Below.refl _ _) _ | exact below_drew (Below.refl _ _))).mono ?_; rintro e w' ⟨rfl, hD⟩; obtain ⟨nd, rfl⟩ := hD.out))
    go_ret2
    rw [HW.out.1, HW.out.2]
    exact ⟨rfl, ⟨_, rfl⟩⟩
end Go.Proofs.Ytaoiljbbfcpfiaa
