/- Walks: bits.empty; a Vec of the call's own. -/
import Derived.Test.YtaoiljbbfcpfiaaBe
set_option linter.unusedVariables false
set_option linter.unusedSimpArgs false
namespace Go.Proofs.Ytaoiljbbfcpfiaa
open Go.RowKit Go.Proofs.YtaoiljbbfcpfiaaW.PrintWords Go.Proofs.YtaoiljbbfcpfiaaW.PrintLast Go.Proofs.YtaoiljbbfcpfiaaW.PrintMore
theorem info50 : (Try.prog.info? 50).map (fun i => (i.zero, i.size, i.bytes)) = some (some (.int .u64 0), 1, 8) := by kernel_rfl
/-- make([]T, n) of whole numbers: what it made. -/
theorem R_made (k : IntKind) (e n base : Nat) (W : World) (hb : base ≤ W.heap.size) (hn : n ≤ 100000000) :
    (Kd.int k).R e (W.alloc (.cells (madeCells #[.int k 0] n) e)) base (fun _ => True) (.slice (some ⟨W.heap.size, 0, none⟩) n n) (List.replicate n 0) := by
  refine ⟨fun _ _ => trivial, (madeCells #[.int k 0] n).toList, ?_, ?_⟩
  · have := World.ownsRow_lit (base := base) (e := e) (size := 1) W (madeCells #[.int k 0] n) n hb (by simp only [maxLen]; omega) (by simp [size_madeCells])
    rw [List.length_replicate]
    exact this
  · have := Kd.reps_made (R := (Kd.int k).M (W.alloc (.cells (madeCells #[.int k 0] n) e)) base (fun j => True ∧ some j ≠ (Value.slice (some ⟨W.heap.size, 0, none⟩) n n).ownBlock)) (z := .int k 0) (size := 1) (z0 := (0 : Int)) rfl (by omega) rfl n
    rw [Nat.mul_one] at this
    exact this
/-- A Vec at block g, of the call's own: its words and what is set ahead of each. -/
structure VecRaw (base : Nat) (W : World) (g g1 g2 n m : Nat) (ws zs : List Int) : Prop where
  mk ::
  (ne1 : g ≠ g1) (ne2 : g ≠ g2) (ne3 : g1 ≠ g2)
  (lo : base ≤ g)
  (blk : W.heap[g]? = some (.cells #[.int .i64 (n : Int), .slice (some ⟨g1, 0, none⟩) m m, .slice (some ⟨g2, 0, none⟩) (m + 1) (m + 1)] 54 (0, 0)))
  (row1 : (Kd.int .u64).R 50 W base (fun _ => True) (.slice (some ⟨g1, 0, none⟩) m m) ws)
  (row2 : (Kd.int .i64).R 3 W base (fun _ => True) (.slice (some ⟨g2, 0, none⟩) (m + 1) (m + 1)) zs)
theorem raw_one (w : World) (n m : Nat) (hm : m ≤ 100000) :
    VecRaw w.heap.size (((w.alloc (.cells (madeCells #[.int .u64 0] m) 50)).alloc (.cells (madeCells #[.int .i64 0] (m + 1)) 3)).alloc (.cells #[.int .i64 (n : Int), .slice (some ⟨w.heap.size, 0, none⟩) m m, .slice (some ⟨w.heap.size + 1, 0, none⟩) (m + 1) (m + 1)] 54)).drew (w.heap.size + 1 + 1) w.heap.size (w.heap.size + 1) n m (List.replicate m 0) (List.replicate (m + 1) 0) ∧
    Below w.heap.size w (((w.alloc (.cells (madeCells #[.int .u64 0] m) 50)).alloc (.cells (madeCells #[.int .i64 0] (m + 1)) 3)).alloc (.cells #[.int .i64 (n : Int), .slice (some ⟨w.heap.size, 0, none⟩) m m, .slice (some ⟨w.heap.size + 1, 0, none⟩) (m + 1) (m + 1)] 54)).drew := by
  have r1 := R_made .u64 50 m w.heap.size w (Nat.le_refl _) (by omega)
  have r2 := R_made .i64 3 (m + 1) w.heap.size (w.alloc (.cells (madeCells #[.int .u64 0] m) 50)) (by simp) (by omega)
  have s1 : (w.alloc (.cells (madeCells #[.int .u64 0] m) 50)).heap.size = w.heap.size + 1 := by simp
  rw [s1] at r2
  refine ⟨⟨by omega, by omega, by omega, by omega, ?_, Kd.R_drew (Kd.R_alloc (Kd.R_alloc r1 _) _), Kd.R_drew (Kd.R_alloc r2 _)⟩, below_drew (below_alloc (below_alloc (below_alloc (Below.refl _ _) _) _) _)⟩
  have s2 : ((w.alloc (.cells (madeCells #[.int .u64 0] m) 50)).alloc (.cells (madeCells #[.int .i64 0] (m + 1)) 3)).heap.size = w.heap.size + 1 + 1 := by simp
  have := heap_alloc_new ((w.alloc (.cells (madeCells #[.int .u64 0] m) 50)).alloc (.cells (madeCells #[.int .i64 0] (m + 1)) 3)) (.cells #[.int .i64 (n : Int), .slice (some ⟨w.heap.size, 0, none⟩) m m, .slice (some ⟨w.heap.size + 1, 0, none⟩) (m + 1) (m + 1)] 54)
  rw [s2] at this
  exact this
theorem raw_two (w : World) (n m : Nat) (hm : m ≤ 100000) :
    VecRaw w.heap.size (((w.alloc (.cells (madeCells #[.int .i64 0] (m + 1)) 3)).alloc (.cells (madeCells #[.int .u64 0] m) 50)).alloc (.cells #[.int .i64 (n : Int), .slice (some ⟨w.heap.size + 1, 0, none⟩) m m, .slice (some ⟨w.heap.size, 0, none⟩) (m + 1) (m + 1)] 54)).drew (w.heap.size + 1 + 1) (w.heap.size + 1) w.heap.size n m (List.replicate m 0) (List.replicate (m + 1) 0) ∧
    Below w.heap.size w (((w.alloc (.cells (madeCells #[.int .i64 0] (m + 1)) 3)).alloc (.cells (madeCells #[.int .u64 0] m) 50)).alloc (.cells #[.int .i64 (n : Int), .slice (some ⟨w.heap.size + 1, 0, none⟩) m m, .slice (some ⟨w.heap.size, 0, none⟩) (m + 1) (m + 1)] 54)).drew := by
  have r1 := R_made .i64 3 (m + 1) w.heap.size w (Nat.le_refl _) (by omega)
  have r2 := R_made .u64 50 m w.heap.size (w.alloc (.cells (madeCells #[.int .i64 0] (m + 1)) 3)) (by simp) (by omega)
  have s1 : (w.alloc (.cells (madeCells #[.int .i64 0] (m + 1)) 3)).heap.size = w.heap.size + 1 := by simp
  rw [s1] at r2
  refine ⟨⟨by omega, by omega, by omega, by omega, ?_, Kd.R_drew (Kd.R_alloc r2 _), Kd.R_drew (Kd.R_alloc (Kd.R_alloc r1 _) _)⟩, below_drew (below_alloc (below_alloc (below_alloc (Below.refl _ _) _) _) _)⟩
  have s2 : ((w.alloc (.cells (madeCells #[.int .i64 0] (m + 1)) 3)).alloc (.cells (madeCells #[.int .u64 0] m) 50)).heap.size = w.heap.size + 1 + 1 := by simp
  have := heap_alloc_new ((w.alloc (.cells (madeCells #[.int .i64 0] (m + 1)) 3)).alloc (.cells (madeCells #[.int .u64 0] m) 50)) (.cells #[.int .i64 (n : Int), .slice (some ⟨w.heap.size + 1, 0, none⟩) m m, .slice (some ⟨w.heap.size, 0, none⟩) (m + 1) (m + 1)] 54)
  rw [s2] at this
  exact this
def EmptyEnd (n m : Nat) (w : World) (e : Ending) (w' : World) : Prop := ∃ g g1 g2, e = .returned (.pointer (some ⟨g, 0, none⟩)) ∧ VecRaw w.heap.size w' g g1 g2 n m (List.replicate m 0) (List.replicate (m + 1) 0) ∧ Below w.heap.size w w'
set_option maxRecDepth 100000 in
set_option maxHeartbeats 2000000 in
theorem empty_calls (n m : Nat) (hn : n ≤ 100000) (hm : m = (n + 63) / 64) (w : World) :
    Calls Try.prog 20 #[.int .i64 (n : Int)] w fun e w' => EmptyEnd n m w e w' := by
  have hmz : ((n : Int) + 64 - 1) / 64 = (m : Int) := by omega
  have hm5 : m ≤ 100000 := by omega
  have mk1 := fun W => run_make_row' (P := Try.prog) 51 50 (.int .u64 0) 8 Try.underlying51 info50 rfl .i64 .i64 m (by omega) (by omega) W
  have mk2 := fun W => run_make_row' (P := Try.prog) 52 3 (.int .i64 0) 8 Try.underlying52 info3 rfl .i64 .i64 (m + 1) (by omega) (by omega) W
  rw [show (((m + 1 : Nat)) : Int) = (m : Int) + 1 by omega] at mk2
  clear hm
  go_enter Try.func20, Try.ntmps20
  go_wp2_with fail
  go_region
  · go_wp2_with fail
    go_ret
    exact ⟨_, _, _, rfl, raw_one w n m hm5⟩
  · go_wp2_with fail
    go_ret
    exact ⟨_, _, _, rfl, raw_two w n m hm5⟩
end Go.Proofs.Ytaoiljbbfcpfiaa
