/- Walks: a Matrix of the call's own while it is made. -/
import Derived.Test.YtaoiljbbfcpfiaaBh
set_option linter.unusedVariables false
set_option linter.unusedSimpArgs false
namespace Go.Proofs.Ytaoiljbbfcpfiaa
open Go.RowKit Go.Proofs.YtaoiljbbfcpfiaaW.PrintWords Go.Proofs.YtaoiljbbfcpfiaaW.PrintLast Go.Proofs.YtaoiljbbfcpfiaaW.PrintMore
/-- The Matrix at g: kl levels and kz counts of zeros are set. -/
structure MatTo (B : Nat) (W : World) (g : Nat) (l : List Int) (A1 : Option Addr) (n c1 kl kz : Nat) : Prop where
  mk ::
  (lo : B ≤ g)
  (blk : ∃ cs, W.heap[g]? = some (.cells cs 41 (0, 0)) ∧ cs.size = 19)
  (c0 : W.cell? ⟨g, 0, none⟩ = some (.slice A1 n c1))
  (row : (Kd.int .u16).R 33 W B (fun _ => True) (.slice A1 n c1) l)
  (lv : ∀ t, t < kl → ∃ gt, W.cell? ⟨g, 1 + t, none⟩ = some (.pointer (some ⟨gt, 0, none⟩)) ∧ VecOwn (g + 1) W gt (Wf.bitsF l t))
  (zs : ∀ t, t < kz → W.cell? ⟨g, 10 + t, none⟩ = some (.int .i64 (Wf.zerosF l t : Nat)))
section
variable {B : Nat} {W W1 : World} {g : Nat} {l : List Int} {A1 : Option Addr} {n c1 kl kz : Nat}
theorem MatTo.below (h : MatTo B W g l A1 n c1 kl kz) (hb : Below W.heap.size W W1) : MatTo B W1 g l A1 n c1 kl kz := by
  obtain ⟨cs, h1, h2⟩ := h.blk
  refine ⟨h.lo, ⟨cs, blk_below h1 hb, h2⟩, pw_cell_below hb h.c0, Kd.R_below h.row hb, fun t ht => ?_, fun t ht => pw_cell_below hb (h.zs t ht)⟩
  obtain ⟨gt, h3, h4⟩ := h.lv t ht
  exact ⟨gt, pw_cell_below hb h3, h4.below hb⟩
theorem MatTo.put (h : MatTo B W g l A1 n c1 kl kz) (j : Nat) (v : Value) (h0 : 0 < j) (hj1 : ∀ t, t < kl → 1 + t ≠ j) (hj2 : ∀ t, t < kz → 10 + t ≠ j) : MatTo B (W.setCell ⟨g, j, none⟩ v) g l A1 n c1 kl kz := by
  obtain ⟨cs, h1, h2⟩ := h.blk
  have ho : ∀ i, i ≠ j → (W.setCell ⟨g, j, none⟩ v).cell? ⟨g, i, none⟩ = W.cell? ⟨g, i, none⟩ := fun i hi => World.cell?_setCell_other _ _ _ _ (by intro e; injection e; omega)
  refine ⟨h.lo, ⟨_, blk_set h1 j v, by simp [h2]⟩, (ho 0 (by omega)).trans h.c0, Kd.R_set h.row h1 (by intro q hq; simp [Kd.int, Kd.scalar] at hq; omega) j v, fun t ht => ?_, fun t ht => (ho _ (hj2 t ht)).trans (h.zs t ht)⟩
  obtain ⟨gt, h3, h4⟩ := h.lv t ht
  exact ⟨gt, (ho _ (hj1 t ht)).trans h3, h4.put (by omega) j v⟩
theorem MatTo.cell (h : MatTo B W g l A1 n c1 kl kz) (j : Nat) (hj : j < 19) : (∃ v, W.cell? ⟨g, j, none⟩ = some v) ∧ W.frozen? ⟨g, j, none⟩ = false := by
  obtain ⟨cs, h1, h2⟩ := h.blk
  exact ⟨⟨cs[j]'(by omega), (blk_cell h1 j).trans (Array.getElem?_eq_getElem (by omega))⟩, blk_frozen h1 j⟩
theorem MatTo.level (h : MatTo B W g l A1 n c1 kl kz) (hz : kz ≤ kl) (hk : kl < 9) {gt : Nat} (hv : VecOwn (g + 1) W gt (Wf.bitsF l kl)) : MatTo B (W.setCell ⟨g, 1 + kl, none⟩ (.pointer (some ⟨gt, 0, none⟩))) g l A1 n c1 (kl + 1) kz := by
  have h1 := h.put (1 + kl) (.pointer (some ⟨gt, 0, none⟩)) (by omega) (by omega) (by omega)
  refine ⟨h1.lo, h1.blk, h1.c0, h1.row, fun t ht => ?_, h1.zs⟩
  by_cases e : t = kl
  · subst e
    obtain ⟨⟨v, hc⟩, _⟩ := h.cell (1 + t) (by omega)
    exact ⟨gt, World.cell?_setCell_same _ _ _ hc, hv.put (by omega) _ _⟩
  · exact h1.lv t (by omega)
theorem MatTo.zero (h : MatTo B W g l A1 n c1 kl kz) (hl : kl ≤ 9) (hk : kz < 9) : MatTo B (W.setCell ⟨g, 10 + kz, none⟩ (.int .i64 (Wf.zerosF l kz : Nat))) g l A1 n c1 kl (kz + 1) := by
  have h1 := h.put (10 + kz) (.int .i64 (Wf.zerosF l kz : Nat)) (by omega) (by omega) (by omega)
  refine ⟨h1.lo, h1.blk, h1.c0, h1.row, h1.lv, fun t ht => ?_⟩
  by_cases e : t = kz
  · subst e
    obtain ⟨⟨v, hc⟩, _⟩ := h.cell (10 + t) (by omega)
    exact World.cell?_setCell_same _ _ _ hc
  · exact h1.zs t (by omega)
theorem MatTo.drewN (h : MatTo B W g l A1 n c1 kl kz) (k : Nat) : MatTo B (W.drewN k) g l A1 n c1 kl kz := h.below (pw_below_drewN (Below.refl _ _) k)
theorem VecOwn.drewN {bs : List Bool} (h : VecOwn B W g bs) (k : Nat) : VecOwn B (W.drewN k) g bs := h.below (pw_below_drewN (Below.refl _ _) k)
end
/-- Two rows of the call's own, apart. -/
def ApartV (u v : Value) : Prop := ∀ k, u.ownBlock = some k → v.ownBlock ≠ some k
theorem ApartV.symm {u v : Value} (h : ApartV u v) : ApartV v u := fun k hk e => h k e hk
theorem R_beside {α : Type} {d : Kd α} {e base : Nat} {W w1 : World} {u v : Value} {xs : List α} (h : d.R e W base (fun _ => True) u xs) (hE : d.E = []) (hg : W.grownBy w1 v.ownBlock) (hne : ApartV v u) : d.R e w1 base (fun _ => True) u xs := by
  cases hv : v.ownBlock with
  | none =>
    rw [hv] at hg
    exact Kd.R_grown h hg (by simp)
  | some k =>
    rw [hv] at hg
    exact Kd.R_grown1 h hE hg (fun e => hne k hv e.symm)
section
variable {B : Nat} {W w1 : World} {g : Nat} {l : List Int} {A1 : Option Addr} {n c1 kl kz b : Nat} {v : Value} {ys : List Int}
/-- A row of symbols is written. -/
theorem VecOwn.over {bs : List Bool} (h : VecOwn B W g bs) (hv : (Kd.int .u16).R 33 W b (fun _ => True) v ys) (hg : W.grownBy w1 v.ownBlock) : VecOwn B w1 g bs := by
  obtain ⟨g1, g2, h⟩ := h
  exact ⟨_, _, ⟨h.ne1, h.ne2, h.ne3, h.lo, blk_grown h.blk hg (Kd.R_ne hv h.blk (by decide)), Kd.R_over h.row1 hv (by intro q hq; simp [Kd.int, Kd.scalar] at hq; omega) hg, Kd.R_over h.row2 hv (by intro q hq; simp [Kd.int, Kd.scalar] at hq; omega) hg⟩⟩
theorem MatTo.over (h : MatTo B W g l A1 n c1 kl kz) (hv : (Kd.int .u16).R 33 W b (fun _ => True) v ys) (hg : W.grownBy w1 v.ownBlock) (hA : ApartV v (.slice A1 n c1)) : MatTo B w1 g l A1 n c1 kl kz := by
  obtain ⟨cs, h1, h2⟩ := h.blk
  have hne := Kd.R_ne hv h1 (by decide)
  have hc : ∀ {j : Nat} {u : Value}, W.cell? ⟨g, j, none⟩ = some u → w1.cell? ⟨g, j, none⟩ = some u := fun hq => cell_grown hq hg (fun e => hne e.symm)
  refine ⟨h.lo, ⟨cs, blk_grown h1 hg hne, h2⟩, hc h.c0, R_beside h.row rfl hg hA, fun t ht => ?_, fun t ht => hc (h.zs t ht)⟩
  obtain ⟨gt, h3, h4⟩ := h.lv t ht
  exact ⟨gt, hc h3, h4.over hv hg⟩
end
theorem apart_step {α : Type} {d : Kd α} {e base : Nat} {W : World} {u v v1 : Value} {xs : List α} (h : d.R e W base (fun _ => True) u xs) (hat : v1.ownBlock = v.ownBlock ∨ ∃ b, v1.ownBlock = some b ∧ W.heap.size ≤ b) (hne : ApartV v u) : ApartV v1 u := by
  intro k hk e
  rcases hat with h1 | ⟨b, h1, h2⟩
  · exact hne k (h1 ▸ hk) e
  · have h3 := Kd.R_lt h k e
    rw [h1] at hk
    have : b = k := by simpa using hk
    omega
end Go.Proofs.Ytaoiljbbfcpfiaa
