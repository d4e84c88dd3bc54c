/- Walks: the iterator of bwt.Runs. -/
import Derived.Test.YtadekjidjhglaaaCh
set_option linter.unusedVariables false
set_option linter.unusedSimpArgs false
namespace Go.Proofs.Ytadekjidjhglaaa
open Go.RowKit Go.Shelf Go.Proofs.YtadekjidjhglaaaW.PrintWords Go.Proofs.YtadekjidjhglaaaW.PrintLast Go.Proofs.YtadekjidjhglaaaW.PrintMore
attribute [local go_sem] Oper.semAt_some
def KeepMid (lo hi : Nat) (A B : World) : Prop := ∀ k, lo ≤ k → k < hi → B.heap[k]? = A.heap[k]?
set_option maxRecDepth 100000 in
set_option maxHeartbeats 2000000 in
theorem runs_iter (m : Nat) (hm : 1 ≤ m) (L Bs lo hi : Nat) (A : Option Addr) (n c : Nat) (l : List Int) (hn : n ≤ 100000) (hBs : lo ≤ Bs ∧ Bs < hi) (hat : ∀ ad, A = some ad → lo ≤ ad.block ∧ ad.block < hi) (J Jx : List (Int × Int) → World → Prop)
    (hY : ∀ pre x W, J pre W → pre.length < (Sf.rl l).length → YieldAt Fence.wide (m - 1) Try.prog L #[.int .u16 x.1, .int .i64 x.2] W fun e W' =>
      (e = .returned (.bool true) ∧ J (pre ++ [x]) W' ∧ KeepMid lo hi W W') ∨ (e = .returned (.bool false) ∧ Jx (pre ++ [x]) W'))
    (hJ : ∀ pre W W', J pre W → Below W.heap.size W W' → J pre W')
    (W : World) (hbox : Boxed W Bs 53 (.slice A n c)) (hC : Kd.C (Kd.int .u16) W A n l) (h0 : J [] W) :
    CallsIn Fence.wide m Try.prog 82 #[.func (.yield L) #[] #[], .pointer (some ⟨Bs, 0, none⟩)] W fun e W' => (∃ v, e = .returned v) ∧
      ((∃ ys, ys = Sf.rl l ∧ J ys W') ∨ (∃ pre, pre <+: Sf.rl l ∧ Jx pre W')) := by
  refine callsIn_of_wp Try.func82 rfl trivial ?_ rfl
  simp only [Try.ntmps82, List.size_toArray, List.length_cons, List.length_nil, Nat.reduceAdd, Nat.reduceSub, Array.replicate_succ, Array.replicate_zero, List.push_toArray, List.append_toArray, List.nil_append, List.cons_append]
  have hln : l.length = n := hC.1
  gi_wp2
  gi_loopw [3] (fun v wr => ∃ (a : Nat) (pre : List (Int × Int)), v = .int .i64 a ∧ a ≤ n ∧ Sf.rl l = pre ++ Sf.rl (l.drop a) ∧ J pre wr ∧ KeepMid lo hi W wr)
    (fun v _ => n - (intOf v).toNat)
  case atStart => exact ⟨0, [], rfl, Nat.zero_le _, rfl, h0, fun _ _ _ => rfl⟩
  case round =>
    rename World => wo
    obtain ⟨a, pre, rfl, ha, hpre, hJs, hM⟩ := hrel
    have hb := boxed_far hbox (hM Bs hBs.1 hBs.2)
    have hc := hb.cell
    have hCw := C_same hC (fun ad e => hM ad.block (hat ad e).1 (hat ad e).2)
    by_cases hlt : a < n
    · have HW := Aside0.mk hCw
      have HBX := Aside0.mk hb
      have HJ0 := Aside0.mk hJs
      have HPR := Aside0.mk hpre
      have HM0 := Aside0.mk hM
      have HC0 := Aside0.mk hC
      have HBX0 := Aside0.mk hbox
      have HAT := Aside0.mk hat
      have HYY := Aside0.mk hY
      have HJJ := Aside0.mk hJ
      clear hCw hb hJs hpre hM hC hbox hat hY hJ h0
      gi_wp2
      refine wpIn_wide.2 ?_
      go_loopw [4] (fun v w' => ∃ e : Nat, v = .int .i64 e ∧ Aside0 (a < e ∧ e ≤ n ∧ ∀ t, a ≤ t → t < e → l.getD t 0 = l.getD a 0) ∧ Aside0 (Drawn0 wo w')) (fun v _ => n - (intOf v).toNat)
      case atStart => exact ⟨a + 1, by go_num, ⟨by omega, by omega, fun t h1 h2 => by rw [show t = a by omega]⟩, ⟨Drawn0.refl _⟩⟩
      case round =>
        obtain ⟨e, rfl, HE, HD⟩ := hrel
        obtain ⟨ad, hA, hxa⟩ := at_nat HW.out HD.out.below a hlt
        have hbx := (boxed_far HBX.out (HD.out.below.block Bs HBX.out.lt)).cell
        clear hc
        have hel := HE.out.2.1
        by_cases hle : e < n
        · obtain ⟨ad', hA', hxe⟩ := at_nat HW.out HD.out.below e hle
          rw [hA] at hA'
          cases hA'
          subst hA
          have HCS := Aside0.mk (Classical.em (l.getD e 0 = l.getD a 0))
          generalize hva : l.getD a 0 = va at *
          generalize hve : l.getD e 0 = ve at *
          have HV := Aside0.mk (And.intro hva hve)
          clear hva hve
          rcases HCS.out with heq | hne
          · subst heq
            clear HCS
            go_wp2_with fail
            go_quiet (fail)
            go_wp2_with fail
            go_roundw
            case rel => exact ⟨e + 1, by go_num, ⟨Nat.lt_succ_of_lt HE.out.1, hle, fun t h1 h2 => by
              have hh := HE.out.2.2 t h1
              by_cases h3 : t = e
              · rw [h3]; exact HV.out.2
              · exact hh (by omega)⟩, ⟨Drawn0.step HD.out _⟩⟩
            case measure => simp [intOf]; omega
          · have hnb : (ve == va) = false := by simpa using hne
            go_wp2_with fail
            go_quiet (fail)
            go_wp2_with fail
            have HD2 := Aside0.mk (Drawn0.step HD.out nq)
            have hbx2 := (boxed_far HBX.out (HD2.out.below.block Bs HBX.out.lt)).cell
            obtain ⟨ad2, hA2, hxa2⟩ := at_nat HW.out HD2.out.below a hlt
            cases hA2
            rw [HV.out.1] at hxa2
            have hrun := Sf.rl_round (l := l) (a := a) (e := e) HE.out.1 (by omega) (fun t h1 h2 => by rw [HV.out.1]; exact HE.out.2.2 t h1 h2) (fun _ => by rw [HV.out.1, HV.out.2]; exact hne)
            rw [HV.out.1] at hrun
            have hpre2 := HPR.out
            rw [hrun] at hpre2
            have hJ2 := HJJ.out _ _ _ HJ0.out HD2.out.below
            generalize wr.drewN nq = W2 at *
            obtain ⟨fn, tmps, assign, body, hy, hR⟩ := HYY.out pre (va, (e : Int) - a) W2 hJ2 (by rw [hpre2]; simp)
            dsimp only at hy
            have HPR2 := Aside0.mk hpre2
            have HDB := Aside0.mk HD2.out
            clear hrun hpre2 hJ2 hbx hxa hxe HD2
            gi_wp2
            refine hR.mono ?_
            rintro e1 W3 (⟨rfl, hJ3, hk3⟩ | ⟨rfl, hJx3⟩)
            · gi_wp2
              go_roundw
              case rel => exact ⟨e, pre ++ [(va, (e : Int) - a)], rfl, hel, by rw [HPR2.out]; simp, hJ3, fun k h1 h2 => by
                rw [hk3 k h1 h2, ← HM0.out k h1 h2]
                obtain ⟨q, rfl⟩ := HDB.out.out
                rfl⟩
              case measure => have := HE.out.1; simp [intOf]; omega
            · gi_wp2
              refine bodyPost_ret (results_none rfl _ _ _) rfl ?_
              exact ⟨⟨_, rfl⟩, .inr ⟨pre ++ [(va, (e : Int) - a)], ⟨Sf.rl (l.drop e), by rw [HPR2.out]; simp⟩, hJx3⟩⟩
        · subst hA
          generalize hva : l.getD a 0 = va at *
          have HV := Aside0.mk hva
          clear hva
          have hld : decide ((e : Int) < (n : Int)) = false := by simp; omega
          have hle2 : decide (e < n) = false := by simp; omega
          go_wp2_with fail
          go_quiet (fail)
          go_wp2_with fail
          have HD2 := Aside0.mk (Drawn0.step HD.out nq)
          have hbx2 := (boxed_far HBX.out (HD2.out.below.block Bs HBX.out.lt)).cell
          obtain ⟨ad2, hA2, hxa2⟩ := at_nat HW.out HD2.out.below a hlt
          cases hA2
          rw [HV.out] at hxa2
          have hrun := Sf.rl_round (l := l) (a := a) (e := e) HE.out.1 (by omega) (fun t h1 h2 => by rw [HV.out]; exact HE.out.2.2 t h1 h2) (fun h => absurd h (by omega))
          rw [HV.out] at hrun
          have hpre2 := HPR.out
          rw [hrun] at hpre2
          have hJ2 := HJJ.out _ _ _ HJ0.out HD2.out.below
          generalize wr.drewN nq = W2 at *
          obtain ⟨fn, tmps, assign, body, hy, hR⟩ := HYY.out pre (va, (e : Int) - a) W2 hJ2 (by rw [hpre2]; simp)
          dsimp only at hy
          have HPR2 := Aside0.mk hpre2
          have HDB := Aside0.mk HD2.out
          clear hrun hpre2 hJ2 hbx hxa HD2
          gi_wp2
          refine hR.mono ?_
          rintro e1 W3 (⟨rfl, hJ3, hk3⟩ | ⟨rfl, hJx3⟩)
          · gi_wp2
            go_roundw
            case rel => exact ⟨e, pre ++ [(va, (e : Int) - a)], rfl, hel, by rw [HPR2.out]; simp, hJ3, fun k h1 h2 => by
              rw [hk3 k h1 h2, ← HM0.out k h1 h2]
              obtain ⟨q, rfl⟩ := HDB.out.out
              rfl⟩
            case measure => have := HE.out.1; simp [intOf]; omega
          · gi_wp2
            refine bodyPost_ret (results_none rfl _ _ _) rfl ?_
            exact ⟨⟨_, rfl⟩, .inr ⟨pre ++ [(va, (e : Int) - a)], ⟨Sf.rl (l.drop e), by rw [HPR2.out]; simp⟩, hJx3⟩⟩
    · obtain rfl : a = n := by omega
      gi_wp2
      go_end0
      rw [List.drop_eq_nil_of_le (by omega)] at hpre
      exact ⟨⟨_, rfl⟩, .inl ⟨_, rfl, by rw [hpre]; simpa [Sf.rl] using hJs⟩⟩
abbrev encRun (x : Int × Int) : Array Value := #[.int .u16 x.1, .int .i64 x.2]
/-- What bwt.Runs hands back has its contract. -/
theorem runs_stops (m : Nat) (hm : 1 ≤ m) (w w1 : World) (B : Nat) (A : Option Addr) (n c : Nat) (l : List Int) (hn : n ≤ 100000) (h : RunBox w w1 B A n c l) :
    SeqStopsK Fence.wide m Try.prog 82 #[.pointer (some ⟨B, 0, none⟩)] encRun (KeepMid B w1.heap.size) (fun ys => ys = Sf.rl l) (fun pre => pre <+: Sf.rl l) (Sf.rl l).length w1 := fun L J Jx W hW hJ _ hY h0 =>
  runs_iter m hm L B B w1.heap.size A n c l hn ⟨Nat.le_refl _, h.box.lt⟩ (fun ad e => ⟨Nat.le_of_lt (h.at_ ad e).1, (h.at_ ad e).2⟩) J Jx hY
    (fun pre W1 W2 hj hb => hJ pre W1 W2 none hj (grown_of_below hb none) (fun r e => by cases e)) W (boxed_far h.box (hW.block B h.box.lt)) (Kd.C_below h.row hW) h0
theorem keepMid_t {lo hi : Nat} {A B C : World} (h : KeepMid lo hi A B) (k : KeepMid lo hi B C) : KeepMid lo hi A C := fun i h1 h2 => (k i h1 h2).trans (h i h1 h2)
theorem keepMid_b {lo hi : Nat} {w : World} (hh : hi ≤ w.heap.size) (W : World) (l : Nat) (o o' : Obj) (hl : w.heap.size ≤ l) (h : W.heap[l]? = some o) (_ : o.isCells = false) (_ : o.isWalk = false) : KeepMid lo hi W (W.putObj l o') :=
  fun k _ h2 => World.putObj_heap_other (by omega)
theorem keepMid_below {lo hi : Nat} {A B : World} (h : Below hi A B) : KeepMid lo hi A B := fun k _ h2 => h.block k h2
/-- A row of the loop's own is no row of another type. -/
theorem rows_ne {W : World} {b1 b2 e1 e2 s1 s2 k1 k2 : Nat} {v1 v2 : Value} {xs ys : List Value} (h1 : W.ownsRow b1 e1 s1 v1 k1 xs) (h2 : W.ownsRow b2 e2 s2 v2 k2 ys) (hne : e1 ≠ e2) : v1.ownBlock = none ∨ v1.ownBlock ≠ v2.ownBlock := by
  cases hv : v1.ownBlock with
  | none => exact .inl rfl
  | some k =>
    refine .inr fun e => ?_
    obtain ⟨c1, hc1⟩ := own_typed h1 k hv
    obtain ⟨c2, hc2⟩ := own_typed h2 k e.symm
    rw [hc1] at hc2
    injection hc2 with hc2
    injection hc2 with _ hc2
    exact hne hc2
/-- 'a = append(a, x)' where a lies in a box ahead of the iterator's own blocks, and its row beyond them: what it keeps. -/
structure Apps (W w2 : World) (n₀ lo hi B t e : Nat) (v' : Value) (k : Nat) (ys : List Value) : Prop where
  box : Boxed w2 B t v'
  row : w2.ownsRow hi e 1 v' k ys
  others : KeepsOthers W w2
  below : Below n₀ W w2
  mid : KeepMid lo hi W w2
theorem apps_of {W w1 : World} {n₀ lo hi B t e : Nat} {v v' : Value} {k m : Nat} {xs ys : List Value} {tmp : Obj}
    (hv : Boxed W B t v) (hte : t ≠ e) (hrow : W.ownsRow hi e 1 v k xs) (hhi : hi ≤ W.heap.size) (hnlo : n₀ ≤ B) (hBlo : B < lo) (hlohi : lo ≤ hi)
    (hown' : w1.ownsRow hi e 1 v' m ys) (hgrow : (W.alloc tmp).grownBy w1 v.ownBlock) :
    Boxed w1 B t v ∧ Apps W (w1.setCell ⟨B, 0, none⟩ v') n₀ lo hi B t e v' m ys := by
  have hb0 : n₀ ≤ hi := by omega
  obtain ⟨h1, h2, _, h4, h5⟩ := hv.appended (n₀ := n₀) hte (own_weaken hrow hb0) (by omega) hnlo (own_weaken hown' hb0) hgrow
  refine ⟨h1, h2, hown'.kept (grownBy_setCell' w1 B v') (.inr (h1.not_row hte hown').symm), h4, h5, fun i hi1 hi2 => ?_⟩
  rw [Below.heap_setCell w1 ⟨B, 0, none⟩ v' i (by show i ≠ B; omega), hgrow.block i (by simp; omega) (fun e1 => ?_)]
  · exact Below.heap_alloc _ _ _ (by omega)
  · have := own_base hrow i e1.symm
    omega
theorem apps_box {W w1 : World} {hi B B' t' e : Nat} {v v' u : Value} {k : Nat} {xs : List Value} {tmp : Obj} (h : Boxed W B' t' u) (hne : B' ≠ B) (hte : t' ≠ e) (hrow : W.ownsRow hi e 1 v k xs) (hgrow : (W.alloc tmp).grownBy w1 v.ownBlock) : Boxed (w1.setCell ⟨B, 0, none⟩ v') B' t' u :=
  ((h.alloc tmp).kept hgrow (h.not_row hte hrow)).other hne v'
theorem apps_row {W w1 : World} {hi B t e e2 : Nat} {v v' v2 : Value} {k k2 : Nat} {xs ys : List Value} {tmp : Obj} (hv : Boxed W B t v) (ht2 : t ≠ e2) (h : W.ownsRow hi e2 1 v2 k2 ys) (hne : e2 ≠ e) (hrow : W.ownsRow hi e 1 v k xs) (hgrow : (W.alloc tmp).grownBy w1 v.ownBlock) :
    (w1.setCell ⟨B, 0, none⟩ v').ownsRow hi e2 1 v2 k2 ys :=
  ((h.alloc tmp).kept hgrow (rows_ne h hrow hne)).kept (grownBy_setCell' w1 B v') (.inr (hv.not_row ht2 h).symm)
end Go.Proofs.Ytadekjidjhglaaa
