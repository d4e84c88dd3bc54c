/- Walks: Vec.count. -/
import Derived.Test.YtaoiljbbfcpfiaaBf
set_option linter.unusedVariables false
set_option linter.unusedSimpArgs false
namespace Go.Proofs.Ytaoiljbbfcpfiaa
open Go.RowKit Go.Proofs.YtaoiljbbfcpfiaaW.PrintWords Go.Proofs.YtaoiljbbfcpfiaaW.PrintLast Go.Proofs.YtaoiljbbfcpfiaaW.PrintMore
section
variable {base g g1 g2 n m : Nat} {W : World} {ws zs : List Int}
theorem VecRaw.cells (h : VecRaw base W g g1 g2 n m ws zs) : W.cell? ⟨g, 0, none⟩ = some (.int .i64 (n : Int)) ∧ W.cell? ⟨g, 1, none⟩ = some (.slice (some ⟨g1, 0, none⟩) m m) ∧ W.cell? ⟨g, 2, none⟩ = some (.slice (some ⟨g2, 0, none⟩) (m + 1) (m + 1)) :=
  ⟨(blk_cell h.blk 0).trans rfl, (blk_cell h.blk 1).trans rfl, (blk_cell h.blk 2).trans rfl⟩
theorem VecRaw.base1 (h : VecRaw base W g g1 g2 n m ws zs) : base ≤ g1 ∧ base ≤ g2 := ⟨Kd.R_base h.row1 g1 (by simp [Value.ownBlock]), Kd.R_base h.row2 g2 (by simp [Value.ownBlock])⟩
theorem VecRaw.drewN (h : VecRaw base W g g1 g2 n m ws zs) (k : Nat) : VecRaw base (W.drewN k) g g1 g2 n m ws zs := ⟨h.ne1, h.ne2, h.ne3, h.lo, h.blk, Kd.R_drewN h.row1 k, Kd.R_drewN h.row2 k⟩
theorem VecRaw.below {W1 : World} (h : VecRaw base W g g1 g2 n m ws zs) (hb : Below W.heap.size W W1) : VecRaw base W1 g g1 g2 n m ws zs := ⟨h.ne1, h.ne2, h.ne3, h.lo, (hb.block g (blk_lt h.blk)).trans h.blk, Kd.R_below h.row1 hb, Kd.R_below h.row2 hb⟩
theorem VecRaw.lower {b : Nat} (h : VecRaw base W g g1 g2 n m ws zs) (hb : b ≤ base) : VecRaw b W g g1 g2 n m ws zs := ⟨h.ne1, h.ne2, h.ne3, Nat.le_trans hb h.lo, h.blk, Kd.R_lower h.row1 hb, Kd.R_lower h.row2 hb⟩
theorem VecRaw.put1 (h : VecRaw base W g g1 g2 n m ws zs) (j : Nat) (x : Int) : VecRaw base (W.setCell ⟨g1, j, none⟩ (.int .u64 x)) g g1 g2 n m (ws.set j x) zs := by
  obtain ⟨h1, h2⟩ := Kd.R_putg h.row1 (j : Int) x
  rw [Int.toNat_natCast] at h1 h2
  exact ⟨h.ne1, h.ne2, h.ne3, h.lo, (h2.block g (blk_lt h.blk) (by have := h.ne1; simp; omega)).trans h.blk, h1, Kd.R_grown1 h.row2 rfl h2 (by have := h.ne3; simp [Value.ownBlock]; omega)⟩
theorem VecRaw.put2 (h : VecRaw base W g g1 g2 n m ws zs) (j : Nat) (x : Int) : VecRaw base (W.setCell ⟨g2, j, none⟩ (.int .i64 x)) g g1 g2 n m ws (zs.set j x) := by
  obtain ⟨h1, h2⟩ := Kd.R_putg h.row2 (j : Int) x
  rw [Int.toNat_natCast] at h1 h2
  exact ⟨h.ne1, h.ne2, h.ne3, h.lo, (h2.block g (blk_lt h.blk) (by have := h.ne2; simp; omega)).trans h.blk, Kd.R_grown1 h.row1 rfl h2 (by have := h.ne3; simp [Value.ownBlock]; omega), h1⟩
theorem VecRaw.at1 (h : VecRaw base W g g1 g2 n m ws zs) (j : Nat) (hj : j < m) : W.cell? ⟨g1, j, none⟩ = some (.int .u64 (ws.getD j 0)) ∧ W.frozen? ⟨g1, j, none⟩ = false := by
  have := Kd.R_celln 0 h.row1 (j : Int) (by omega) (by omega)
  rw [Int.toNat_natCast] at this
  exact ⟨this.1.trans (by simp [rdOf]), this.2⟩
theorem VecRaw.at2 (h : VecRaw base W g g1 g2 n m ws zs) (j : Nat) (hj : j < m + 1) : W.cell? ⟨g2, j, none⟩ = some (.int .i64 (zs.getD j 0)) ∧ W.frozen? ⟨g2, j, none⟩ = false := by
  have := Kd.R_celln 0 h.row2 (j : Int) (by omega) (by omega)
  rw [Int.toNat_natCast] at this
  exact ⟨this.1.trans (by simp [rdOf]), this.2⟩
/-- The words and the counts: a Vec. -/
theorem VecRaw.vec {bs : List Bool} (h : VecRaw base W g g1 g2 bs.length ((bs.length + 63) / 64) (wordsL bs) (aheadL bs)) : VecAt W g bs := by
  obtain ⟨c0, c1, c2⟩ := h.cells
  have h1 := own_C h.row1
  have h2 := own_C h.row2
  exact ⟨_, _, _, _, c0, c1, c2, Nat.le_refl _, Nat.le_refl _, h1, h2⟩
end
/-- A Vec of the call's own that is whole. -/
def VecOwn (B : Nat) (W : World) (g : Nat) (bs : List Bool) : Prop := ∃ g1 g2, VecRaw B W g g1 g2 bs.length ((bs.length + 63) / 64) (wordsL bs) (aheadL bs)
theorem VecOwn.vec {B g : Nat} {W : World} {bs : List Bool} (h : VecOwn B W g bs) : VecAt W g bs := by
  obtain ⟨_, _, h⟩ := h
  exact h.vec
theorem VecOwn.below {B g : Nat} {W W1 : World} {bs : List Bool} (h : VecOwn B W g bs) (hb : Below W.heap.size W W1) : VecOwn B W1 g bs := by
  obtain ⟨_, _, h⟩ := h
  exact ⟨_, _, h.below hb⟩
theorem VecOwn.lower {B b g : Nat} {W : World} {bs : List Bool} (h : VecOwn B W g bs) (hb : b ≤ B) : VecOwn b W g bs := by
  obtain ⟨_, _, h⟩ := h
  exact ⟨_, _, h.lower hb⟩
/-- A block that is none of its own is written. -/
theorem VecOwn.put {B g : Nat} {W : World} {bs : List Bool} (h : VecOwn B W g bs) {b : Nat} (hb : b < B) (j : Nat) (v : Value) : VecOwn B (W.setCell ⟨b, j, none⟩ v) g bs := by
  obtain ⟨g1, g2, h⟩ := h
  have hg : W.grownBy (W.setCell ⟨b, j, none⟩ v) (some b) := ⟨rfl, rfl, rfl, by simp [World.setCell], fun k _ hk => Below.heap_setCell _ _ _ _ (by simpa using hk)⟩
  have b1 := h.base1
  have b2 := h.lo
  exact ⟨_, _, ⟨h.ne1, h.ne2, h.ne3, h.lo, (hg.block g (blk_lt h.blk) (by simp; omega)).trans h.blk, Kd.R_grown1 h.row1 rfl hg (by simp [Value.ownBlock]; omega), Kd.R_grown1 h.row2 rfl hg (by simp [Value.ownBlock]; omega)⟩⟩
theorem popc_le : ∀ n x : Nat, Wf.popc n x ≤ n
  | 0, x => Nat.le_refl 0
  | n + 1, x => by have := popc_le n (x / 2); rw [Wf.popc]; omega
def AheadTo (bs : List Bool) (i : Nat) (zs : List Int) : Prop := zs.length = (bs.length + 63) / 64 + 1 ∧ ∀ t, t ≤ i → zs.getD t 0 = (Wf.ones (bs.take (64 * t)) : Int)
theorem ahead_zero (bs : List Bool) : AheadTo bs 0 (List.replicate ((bs.length + 63) / 64 + 1) 0) := ⟨List.length_replicate, fun t ht => by
  have : t = 0 := by omega
  subst this
  simp [List.getD_eq_getElem?_getD, Wf.ones]⟩
theorem ahead_put {bs : List Bool} {i : Nat} {zs : List Int} (h : AheadTo bs i zs) (hi : i < (bs.length + 63) / 64) : AheadTo bs (i + 1) (zs.set (i + 1) ((Wf.ones (bs.take (64 * i)) + Wf.popc 64 (Wf.wordAt bs i) : Nat) : Int)) := by
  refine ⟨by rw [List.length_set]; exact h.1, fun t ht => ?_⟩
  by_cases e : t = i + 1
  · subst e
    have h1 := Wf.ones_at bs i 64 (by omega)
    rw [Nat.mod_eq_of_lt (Wf.wordAt_lt bs i)] at h1
    rw [show 64 * (i + 1) = 64 * i + 64 by omega, h1, List.getD_eq_getElem?_getD, List.getElem?_set_self (by rw [h.1]; omega)]
    rfl
  · rw [List.getD_eq_getElem?_getD, List.getElem?_set_ne (by omega), ← List.getD_eq_getElem?_getD]
    exact h.2 t (by omega)
theorem ahead_all {bs : List Bool} {zs : List Int} (h : AheadTo bs ((bs.length + 63) / 64) zs) : zs = aheadL bs := by
  apply List.ext_getElem
  · rw [h.1]; simp [aheadL]
  · intro t h1 h2
    have h3 := h.2 t (by have := h.1; omega)
    rw [List.getD_eq_getElem?_getD, List.getElem?_eq_getElem h1] at h3
    simpa [aheadL] using h3
set_option maxRecDepth 100000 in
set_option maxHeartbeats 2000000 in
theorem count_calls (g g1 g2 m base : Nat) (bs : List Bool) (w : World) (hmq : m = (bs.length + 63) / 64) (hV : VecRaw base w g g1 g2 bs.length m (wordsL bs) (List.replicate (m + 1) 0)) (hm : m ≤ 100000) (hb : bs.length ≤ 100000) :
    Calls Try.prog 21 #[.pointer (some ⟨g, 0, none⟩)] w fun e w' => e = .returned (.tuple #[]) ∧ VecOwn base w' g bs ∧ Below base w w' := by
  obtain ⟨c0, c1, c2⟩ := hV.cells
  have HV := Aside0.mk hV
  have HM := Aside0.mk hmq
  have HA : Aside0 (AheadTo bs 0 (List.replicate (m + 1) 0)) := ⟨by subst hmq; exact ahead_zero bs⟩
  have HB : Aside0 (Below base w w) := ⟨Below.refl _ _⟩
  clear hV hmq
  go_enter Try.func21, Try.ntmps21
  go_wp2_with fail
  clear c0 c1 c2
  go_loopw [9] (fun v9 w' => ∃ i : Nat, v9 = .int .i64 i ∧ Aside0 (i ≤ m) ∧ (∃ zs, Aside0 (AheadTo bs i zs) ∧ Aside0 (VecRaw base w' g g1 g2 bs.length m (wordsL bs) zs)) ∧ Aside0 (Below base w w')) (fun v9 _ => m - (intOf v9).toNat)
  case atStart => exact ⟨0, rfl, ⟨Nat.zero_le _⟩, ⟨_, HA, HV⟩, HB⟩
  case round =>
    clear HA HV HB
    obtain ⟨i, rfl, HI, ⟨zs, HA, HV⟩, HB⟩ := hrel
    by_cases hlt : i < m
    · have hq1 := (HV.out.at1 i hlt).1
      have hq2 := (HV.out.at2 i (by omega)).1
      obtain ⟨hq3, hq4⟩ := HV.out.at2 (i + 1) (by omega)
      obtain ⟨c0, c1, c2⟩ := HV.out.cells
      rw [wordsL, getD_map_range _ _ _ (by rw [← HM.out]; exact hlt)] at hq1
      rw [HA.out.2 i (Nat.le_refl _)] at hq2
      have HP := Aside0.mk (ahead_put HA.out (by rw [← HM.out]; exact hlt))
      have HW := Aside0.mk (Wf.wordAt_lt bs i)
      generalize Wf.wordAt bs i = x at *
      obtain ⟨y, hye⟩ : ∃ y, Wf.ones (bs.take (64 * i)) = y := ⟨_, rfl⟩
      have HY := Aside0.mk hye
      rw [hye] at hq2 HP
      clear hye
      have hw0 : IntKind.i64.wrap ((i : Int) + 1) = (i : Int) + 1 := by rw [IntKind.wrap_i64]; omega
      have hi1 : ((i : Int) + 1).toNat = i + 1 := by omega
      have hlt0 : (i : Int) + 1 < (m : Int) + 1 := by omega
      have hlt1 : (0 : Int) ≤ (i : Int) + 1 := by omega
      have hlt2 : (i : Int) < (m : Int) + 1 := by omega
      have hset : ∀ v : Int, (zs.set (i + 1) v).getD i 0 = zs.getD i 0 := fun v => by
        rw [List.getD_eq_getElem?_getD, List.getElem?_set_ne (by omega), ← List.getD_eq_getElem?_getD]
      have HS := Aside0.mk (fun (k : Nat) (v : Int) => And.intro ((HV.out.drewN k).put2 (i + 1) v).cells.2.2 (And.intro ((((HV.out.drewN k).put2 (i + 1) v).at2 i (by omega)).1.trans (by rw [hset, HA.out.2 i (Nat.le_refl _), HY.out])) (((HV.out.drewN k).put2 (i + 1) v).at2 (i + 1) (by omega)).2))
      have hyl : y ≤ 100000 := by rw [← HY.out]; have := Wf.ones_le (bs.take (64 * i)); rw [List.length_take] at this; omega
      have hxl : Wf.popc 64 x ≤ 64 := popc_le 64 x
      have hwz : IntKind.i64.wrap ((y : Int) + (Wf.popc 64 x : Int)) = ((y + Wf.popc 64 x : Nat) : Int) := by rw [IntKind.wrap_i64]; omega
      clear hset hyl hxl
      go_wp2_with fail
      go_region_held3 (fun w' => w'.cell? ⟨g, 2, none⟩ = some (.slice (some ⟨g2, 0, none⟩) (m + 1) (m + 1)) ∧ w'.cell? ⟨g2, i, none⟩ = some (.int .i64 (y : Int)) ∧ w'.frozen? ⟨g2, i + 1, none⟩ = false)
        (first | exact ⟨c2, hq2, hq4⟩ | exact HS.out _ _)
        (first | (go_at_call 26; refine (ones_calls x HW.out _).mono ?_; rintro e w' ⟨rfl, ⟨m10, rfl⟩⟩))
      all_goals
        have HV2 := Aside0.mk ((HV.out.drewN (1 + m10)).put2 (i + 1) (((y + Wf.popc 64 x : Nat) : Int)))
        have HB2 := Aside0.mk (HB.out.trans (Below.setCell (pw_below_drewN (Below.refl base wr) (1 + m10)) (p := ⟨g2, i + 1, none⟩) HV.out.base1.2 (.int .i64 (((y + Wf.popc 64 x : Nat) : Int)))))
        clear HS HV HB HA
        go_wp2_with fail
        exact ⟨⟨i + 1, by go_num, ⟨by omega⟩, ⟨_, HP, HV2⟩, HB2⟩, by simp [intOf]; omega⟩
    · go_wp2_with fail
      have e : i = m := by have := HI.out; omega
      subst e
      have hz := ahead_all (by rw [← HM.out]; exact HA.out)
      have hv := HV.out
      rw [HM.out, hz] at hv
      go_end0
      exact ⟨rfl, ⟨_, _, hv⟩, HB.out⟩
end Go.Proofs.Ytaoiljbbfcpfiaa
