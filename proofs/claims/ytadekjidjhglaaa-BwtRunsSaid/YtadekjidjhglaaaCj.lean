/- Walks: the law's runs: a range over bwt.Runs. -/
import Derived.Test.YtadekjidjhglaaaCi
set_option linter.unusedVariables false
set_option linter.unusedSimpArgs false
namespace Go.Proofs.Ytadekjidjhglaaa
open Go.RowKit Go.Shelf Go.Proofs.YtadekjidjhglaaaW.PrintWords Go.Proofs.YtadekjidjhglaaaW.PrintLast Go.Proofs.YtadekjidjhglaaaW.PrintMore
attribute [local go_sem] Oper.semAt_some
theorem und105 : (match Try.prog.underlying 105 with | some (.func _ _ _) => true | _ => false) = true := by kernel_rfl
theorem und105' : ∃ a b c, Try.prog.underlying 105 = some (.func a b c) := by
  have h := und105
  split at h
  · rename_i a b c e; exact ⟨a, b, c, e⟩
  · cases h
theorem func_nil (w : World) (g : Fn) (p q : Array Value) : (binOp BinOp.eql 105 (Value.func g p q) Value.nilFunc).run Try.prog w = .ok (.bool false) w := by
  obtain ⟨a, b, c, e⟩ := und105'
  have h : ∀ d : Nat, (Op.equalIn (d + 1) 105 (Value.func g p q) .nilFunc).run Try.prog w = .ok false w := fun d => by
    simp [Op.equalIn, run_underlying e]
  simp only [binOp]
  simp [Op.equal, Op.maxDepth, h 9999]
theorem C_of_own {k : IntKind} {W : World} {base e n : Nat} {v : Value} {xs : List Int} (h : W.ownsRow base e 1 v n (xs.map (Value.int k))) : ∃ A c, v = .slice A n c ∧ n ≤ c ∧ (Kd.int k).C W A n xs := by
  have hl : xs.length = n := by have := h.1; simpa using this
  subst hl
  have hR : (Kd.int k).R e W base (fun _ => True) v xs := by
    refine ⟨fun _ _ => trivial, xs.map (Value.int k), h, by simp [Kd.int, Kd.scalar], fun j p hp => ?_⟩
    show ((xs.map (Value.int k)).drop (j * 1)).take 1 = [Value.int k p]
    obtain ⟨hj, e⟩ := List.getElem?_eq_some_iff.1 hp
    rw [Nat.mul_one, List.drop_eq_getElem_cons (by simpa using hj)]
    simp [e]
  exact Kd.R_reads hR
theorem cell_one_set (W : World) (b : Nat) (u v : Value) (e : TypeId) : ∀ j y, [v][j]? = some y → ((W.setCell ⟨b, 0, none⟩ u).alloc (.cells #[v] e)).cell? ((⟨W.heap.size, 0, none⟩ : Addr).add j) = some y := by
  have h := cell_one_new (W.setCell ⟨b, 0, none⟩ u) v e
  have e1 : (W.setCell ⟨b, 0, none⟩ u).heap.size = W.heap.size := by simp
  rw [e1] at h
  exact h
theorem apps_low {W w1 : World} {hi B B' t' e : Nat} {v v' u : Value} {k : Nat} {xs : List Value} {tmp : Obj} (h : Boxed W B' t' u) (hne : B' ≠ B) (hlo : B' < hi) (hrow : W.ownsRow hi e 1 v k xs) (hgrow : (W.alloc tmp).grownBy w1 v.ownBlock) : Boxed (w1.setCell ⟨B, 0, none⟩ v') B' t' u :=
  ((h.alloc tmp).kept hgrow (fun e1 => by have := own_base hrow B' e1.symm; omega)).other hne v'
theorem own_slice_form {W : World} {base e n : Nat} {v : Value} {xs : List Value} (h : W.ownsRow base e 1 v n xs) : ∃ A c, v = .slice A n c := by
  rcases h.2 with ⟨rfl, rfl⟩ | ⟨g, cap, cur, rfl, _⟩
  · exact ⟨_, _, rfl⟩
  · exact ⟨_, _, rfl⟩
def RowA (hi B : Nat) (pre : List (Int × Int)) (W : World) : Prop := ∃ v, Boxed W B 53 v ∧ W.ownsRow hi 57 1 v pre.length ((pre.map Prod.fst).map (Value.int .u16)) ∧ True
def RowB (hi B : Nat) (pre : List (Int × Int)) (W : World) : Prop := ∃ v, Boxed W B 28 v ∧ W.ownsRow hi 3 1 v pre.length ((pre.map Prod.snd).map (Value.int .i64)) ∧ True
theorem rowA_own (hi B : Nat) : Own (RowA hi B) := holdsRow_own hi B 53 57 1 (fun pre : List (Int × Int) => pre.length) (fun pre => (pre.map Prod.fst).map (Value.int .u16)) (fun _ _ => True)
theorem rowB_own (hi B : Nat) : Own (RowB hi B) := holdsRow_own hi B 28 3 1 (fun pre : List (Int × Int) => pre.length) (fun pre => (pre.map Prod.snd).map (Value.int .i64)) (fun _ _ => True)
structure RunsI (w : World) (hi : Nat) (most : Int) (pre : List (Int × Int)) (W : World) : Prop where
  a : RowA hi (w.heap.size + 1) pre W
  b : RowB hi (w.heap.size + 1 + 1) pre W
  m : Boxed W w.heap.size 3 (.int .i64 most)
  le : (pre.length : Int) ≤ most
  size : hi ≤ W.heap.size
  below : Below w.heap.size w W
theorem runsI_own (w : World) (hi B : Nat) (most : Int) (hB : w.heap.size ≤ B) : OwnFrom B (RunsI w hi most) := by
  intro s X Y row hs hg hr
  refine ⟨(rowA_own _ _) s X Y row hs.a hg (fun r e => (hr r e).2), (rowB_own _ _) s X Y row hs.b hg (fun r e => (hr r e).2), hs.m.kept hg (fun e => ?_), hs.le, Nat.le_trans hs.size hg.size, (ownFrom_below (B := B) (n₀ := w.heap.size) (Nat.le_refl _) hB) s X Y row hs.below hg hr⟩
  obtain ⟨o, ho, hc⟩ := (hr _ e.symm).2
  rw [show X.heap[w.heap.size]? = _ from hs.m] at ho
  cases ho
  cases hc
def RunsX (w : World) (hi : Nat) (most : Int) (c : Code) (p : List (Int × Int)) (W : World) : Prop := c = .exit 0 ∧ ∃ ini last, p = ini ++ [last] ∧ (ini.length : Int) = most ∧ RunsI w hi most ini W
theorem runsX_own (w : World) (hi B : Nat) (most : Int) (hB : w.heap.size ≤ B) (c : Code) : OwnFrom B (RunsX w hi most c) := by
  rintro s X Y row ⟨hc, ini, last, e1, e2, hi⟩ hg hr
  exact ⟨hc, ini, last, e1, e2, runsI_own w _ B most hB ini X Y row hi hg hr⟩
def RunsEnd (l : List Int) (most : Int) (w : World) (e : Ending) (w' : World) : Prop := ∃ A1 c1 A2 c2 N, e = .returned (.tuple #[.slice A1 N c1, .slice A2 N c2]) ∧ N = ((Sf.rl l).take most.toNat).length ∧ N ≤ c1 ∧ N ≤ c2 ∧
  Kd.C (Kd.int .u16) w' A1 N (((Sf.rl l).take most.toNat).map Prod.fst) ∧ Kd.C (Kd.int .i64) w' A2 N (((Sf.rl l).take most.toNat).map Prod.snd) ∧ Below w.heap.size w w'
theorem runs_end {l : List Int} {most : Int} {w W' : World} {pre : List (Int × Int)} {v6 v7 : Value} {hi : Nat} (hp : pre = (Sf.rl l).take most.toNat) (r6 : W'.ownsRow hi 57 1 v6 pre.length ((pre.map Prod.fst).map (Value.int .u16)))
    (r7 : W'.ownsRow hi 3 1 v7 pre.length ((pre.map Prod.snd).map (Value.int .i64))) (hB : Below w.heap.size w W') : RunsEnd l most w (.returned (.tuple #[v6, v7])) W' := by
  obtain ⟨A1, c1, rfl, h1, h2⟩ := C_of_own r6
  obtain ⟨A2, c2, rfl, h3, h4⟩ := C_of_own r7
  subst hp
  exact ⟨A1, c1, A2, c2, _, rfl, rfl, h1, h3, h2, h4, hB⟩
set_option maxRecDepth 100000 in
set_option maxHeartbeats 2000000 in
theorem runs_calls (A : Option Addr) (n c : Nat) (l : List Int) (most : Int) (w : World) (h : Kd.C (Kd.int .u16) w A n l) (hn : n ≤ 100000) (h0 : 0 ≤ most) :
    Calls Try.prog 46 #[.slice A n c, .int .i64 most] w fun e w' => RunsEnd l most w e w' := by
  refine (callsIn_wide (n := 3)).1 ?_
  have HC := Aside0.mk h
  clear h
  refine callsIn_of_wp_marks Try.func46 rfl trivial ?_ rfl
  simp only [Try.ntmps46, List.size_toArray, List.length_cons, List.length_nil, Nat.reduceAdd, Nat.reduceSub, Array.replicate_succ, Array.replicate_zero, List.push_toArray, List.append_toArray, List.nil_append, List.cons_append]
  have b3 : Boxed (((w.alloc (.cells #[.int .i64 most] 3)).alloc (.cells #[.slice none 0 0] 53)).alloc (.cells #[.slice none 0 0] 28)) w.heap.size 3 (.int .i64 most) := ((Boxed.new w 3 _).alloc _).alloc _
  have b6 : Boxed (((w.alloc (.cells #[.int .i64 most] 3)).alloc (.cells #[.slice none 0 0] 53)).alloc (.cells #[.slice none 0 0] 28)) (w.heap.size + 1) 53 (.slice none 0 0) := by
    have := (Boxed.new (w.alloc (.cells #[.int .i64 most] 3)) 53 (.slice none 0 0)).alloc (.cells #[.slice none 0 0] 28)
    rwa [World.size_alloc] at this
  have b7 : Boxed (((w.alloc (.cells #[.int .i64 most] 3)).alloc (.cells #[.slice none 0 0] 53)).alloc (.cells #[.slice none 0 0] 28)) (w.heap.size + 1 + 1) 28 (.slice none 0 0) := by
    have := Boxed.new ((w.alloc (.cells #[.int .i64 most] 3)).alloc (.cells #[.slice none 0 0] 53)) 28 (.slice none 0 0)
    rwa [World.size_alloc, World.size_alloc] at this
  have hB0 : Below w.heap.size w (((w.alloc (.cells #[.int .i64 most] 3)).alloc (.cells #[.slice none 0 0] 53)).alloc (.cells #[.slice none 0 0] 28)) := (((Below.refl _ w).alloc (Nat.le_refl _) _).alloc (by simp) _).alloc (by simp; omega) _
  have hs0 : (((w.alloc (.cells #[.int .i64 most] 3)).alloc (.cells #[.slice none 0 0] 53)).alloc (.cells #[.slice none 0 0] 28)).heap.size = w.heap.size + 3 := by simp
  gi_wp2
  generalize ((w.alloc (.cells #[.int .i64 most] 3)).alloc (.cells #[.slice none 0 0] 53)).alloc (.cells #[.slice none 0 0] 28) = W0 at *
  refine ⟨trivial, (callsIn_wide.2 (runs_make A n c l W0 (Kd.C_below HC.out hB0) hn)).mono ?_⟩
  rintro e w1 ⟨A1, c1, rfl, hRB⟩
  have B3 := boxed_far b3 (hRB.below.block _ b3.lt)
  have B6 := boxed_far b6 (hRB.below.block _ b6.lt)
  have B7 := boxed_far b7 (hRB.below.block _ b7.lt)
  have hB1 := below_then hB0 hB0.size hRB.below
  have hbox := hRB.box.lt
  rw [hs0] at hRB hbox
  have HI0 : Aside0 (RunsI w w1.heap.size most [] w1) := ⟨⟨⟨_, B6, World.ownsRow_nil _ _ _ _, trivial⟩, ⟨_, B7, World.ownsRow_nil _ _ _ _, trivial⟩, B3, by simpa using h0, Nat.le_refl _, hB1⟩⟩
  clear b3 b6 b7 hB0 B3 B6 B7 hB1
  have HRB := Aside0.mk hRB
  clear hRB
  have hnil := func_nil w1 (.func 82) #[] #[.pointer (some ⟨w.heap.size + 3, 0, none⟩)]
  rw [hs0]
  gi_wp2
  have hln : (Sf.rl l).length ≤ 100000 := Nat.le_trans (Sf.rl_len l) (by rw [HC.out.1]; exact hn)
  have HN := Aside0.mk hln
  clear hnil hln
  refine wpIn_rangeFunc_ownF rfl (by omega) (gf := 82) (lb := #[.pointer (some ⟨w.heap.size + 3, 0, none⟩)]) rfl trivial (enters_of Try.func82 (by kernel_rfl) rfl)
    (runs_stops (3 - 1) (by omega) W0 w1 (w.heap.size + 3) A1 n c1 l hn HRB.out) keepMid_t (keepMid_b (Nat.le_refl _)) (Below.refl _ _) (fun _ => rfl)
    (RunsI w w1.heap.size most) (RunsX w w1.heap.size most) (runsI_own w _ _ most (by omega)) (fun c => runsX_own w _ _ most (by omega) c) HI0.out
    (fun x => { tmps := #[.slice A n c, .int .i64 most, undef, .pointer (some ⟨w.heap.size, 0, none⟩), .slice none 0 0, .slice none 0 0, .pointer (some ⟨w.heap.size + 1, 0, none⟩), .pointer (some ⟨w.heap.size + 1 + 1, 0, none⟩),
          .func (.func 82) #[] #[.pointer (some ⟨w.heap.size + 3, 0, none⟩)], .int .u16 x.1, .int .i64 x.2, .slice A n c, .func (.func 82) #[] #[.pointer (some ⟨w.heap.size + 3, 0, none⟩)],
          .func (.func 82) #[] #[.pointer (some ⟨w.heap.size + 3, 0, none⟩)], .bool false, .func (.func 82) #[] #[.pointer (some ⟨w.heap.size + 3, 0, none⟩)], .int .u16 x.1, .int .i64 x.2,
          undef, undef, undef, undef, undef, undef, undef, undef, undef, undef, undef, undef, undef, undef], defers := [] }) ?assign ?body ?done ?stop
  case assign =>
    intro l x W K hK
    gi_wp2
    exact hK
  case body =>
    rintro L pre x W hI hlt
    obtain ⟨⟨v6, hv6, hr6, _⟩, ⟨v7, hv7, hr7, _⟩, hm, hle, hsz, hB⟩ := hI
    have hc3 := hm.cell
    have hc6 := hv6.cell
    have hlen : pre.length < 100000 := by have := HN.out; omega
    obtain ⟨A6, c6, rfl⟩ := own_slice_form hr6
    by_cases hge : (pre.length : Int) = most
    · subst hge
      gi_wp2
      exact ⟨KeepsOthers.refl _, rfl, pre, x, rfl, rfl, ⟨⟨_, hv6, hr6, trivial⟩, ⟨v7, hv7, hr7, trivial⟩, hm, hle, hsz, hB⟩⟩
    · have hgef : decide ((pre.length : Int) ≥ most) = false := by simp; omega
      have hge2 : ¬ most ≤ (pre.length : Int) := by omega
      obtain ⟨i57, hi57, hz57a, hz57b, hz57c⟩ := info_parts info57
      obtain ⟨i3, hi3, hz3a, hz3b, hz3c⟩ := info_parts info3
      gi_wp2_with (first
        | (gi_at_builtin; refine wpListIn_append_own _ rfl _ _ 53 rfl w1.heap.size 57 i57 (.int .u16 0) 1 2 Try.underlying53 hi57 hz57a hz57b hz57c rfl (by decide) _ _ _ rfl (hr6.alloc _) ⟨W.heap.size, 0, none⟩ 1 1 [.int .u16 x.1] rfl rfl (cell_one_new _ _ _) (by simp [Value.oneCell']) (by unfold maxLen; omega) (by omega) (by first | omega | (simp; omega)) ?_; intro v6' w2 hown6 hg6 _; obtain ⟨g6, cap6, rfl⟩ := ownsRow_succ hown6; obtain ⟨hb6, ha6⟩ := apps_of (n₀ := w.heap.size) (lo := w.heap.size + 3) hv6 (by decide) hr6 hsz (by omega) (by omega) (by omega) hown6 hg6; have hc6' := hb6.cell; have hf6' := hb6.frozen; have hv7' := apps_box (v' := .slice (some ⟨g6, 0, none⟩) (pre.length + 1) cap6) hv7 (B := w.heap.size + 1) (by omega) (by decide) hr6 hg6; have hr7' := apps_row (v' := .slice (some ⟨g6, 0, none⟩) (pre.length + 1) cap6) hv6 (by decide) hr7 (by decide) hr6 hg6; have hm' := apps_box (v' := .slice (some ⟨g6, 0, none⟩) (pre.length + 1) cap6) hm (B := w.heap.size + 1) (by omega) (by decide) hr6 hg6; have hc7' := hv7'.cell; have hnew7 := cell_one_set w2 (w.heap.size + 1) (.slice (some ⟨g6, 0, none⟩) (pre.length + 1) cap6) (.int .i64 x.2) 3)
        | (gi_at_builtin; refine wpListIn_append_own _ rfl _ _ 28 rfl w1.heap.size 3 i3 (.int .i64 0) 1 8 Try.underlying28 hi3 hz3a hz3b hz3c rfl (by decide) _ _ _ rfl (hr7'.alloc _) ⟨w2.heap.size, 0, none⟩ 1 1 [.int .i64 x.2] rfl rfl hnew7 (by simp [Value.oneCell']) (by unfold maxLen; omega) (by omega) (by have := ha6.others.size; first | omega | (simp at this ⊢; omega)) ?_; intro v7' w3 hown7 hg7 _; obtain ⟨g7, cap7, rfl⟩ := ownsRow_succ hown7; obtain ⟨hb7, ha7⟩ := apps_of (n₀ := w.heap.size) (lo := w.heap.size + 3) hv7' (by decide) hr7' (by have := ha6.others.size; omega) (by omega) (by omega) (by omega) hown7 hg7; have hc7'' := hb7.cell; have hf7' := hb7.frozen))
      have b6 := apps_box (v' := .slice (some ⟨g7, 0, none⟩) (pre.length + 1) cap7) ha6.box (B := w.heap.size + 1 + 1) (by omega) (by decide) hr7' hg7
      have r6 := apps_row (v' := .slice (some ⟨g7, 0, none⟩) (pre.length + 1) cap7) hv7' (by decide) ha6.row (by decide) hr7' hg7
      have m6 := apps_low (v' := .slice (some ⟨g7, 0, none⟩) (pre.length + 1) cap7) hm' (B := w.heap.size + 1 + 1) (by omega) (by omega) hr7' hg7
      refine ⟨ha6.others.trans ha7.others, keepMid_t ha6.mid ha7.mid, ⟨⟨_, b6, by simpa using r6, trivial⟩, ⟨_, ha7.box, by simpa using ha7.row, trivial⟩, m6, by simp; omega, ?_, hB.trans (ha6.below.trans ha7.below)⟩⟩
      exact Nat.le_trans hsz (Nat.le_trans ha6.others.size ha7.others.size)
  case done =>
    rintro D ys W hD rfl hI hK
    obtain ⟨⟨v6, hv6, hr6, _⟩, ⟨v7, hv7, hr7, _⟩, hm, hle, hsz, hB⟩ := hI
    have hc6 := hv6.cell
    have hc7 := hv7.cell
    have HA := Aside0.mk (And.intro hr6 (And.intro hr7 (And.intro hle hB)))
    clear hr6 hr7 hle hB hv6 hv7 hm hsz
    gi_wp2
    refine wpIn_wide.2 ?_
    go_quiet (fail)
    have HK : Aside0 ((W.drewN nq).heap[D]? = some (.deferred (some []))) := ⟨hK⟩
    gi_wp2
    refine ⟨by simp, .inl ⟨_, _, rfl, run_takeDeferred HK.out, ?_⟩⟩
    obtain ⟨hr6, hr7, hle, hB⟩ := HA.out
    refine ⟨.tuple #[v6, v7], by simp [results, Try.f46, go_sem], runs_end (List.take_of_length_le (by omega)).symm (ownsRow_putObj hr6 _ HK.out rfl) (ownsRow_putObj hr7 _ HK.out rfl) ((pw_below_drewN hB nq).trans (belowK_b (w := w) (Nat.le_refl _) (W.drewN nq) D _ _ (by omega) HK.out rfl rfl))⟩
  case stop =>
    rintro D c pre W hD hpre ⟨rfl, ini, last, rfl, hlen, hI⟩ hK
    obtain ⟨⟨v6, hv6, hr6, _⟩, ⟨v7, hv7, hr7, _⟩, hm, hle, hsz, hB⟩ := hI
    have hc6 := hv6.cell
    have hc7 := hv7.cell
    have HA := Aside0.mk (And.intro hr6 (And.intro hr7 (And.intro hlen (And.intro hB hpre))))
    clear hr6 hr7 hle hB hv6 hv7 hm hsz hpre hlen
    gi_wp2
    refine wpIn_wide.2 ?_
    go_quiet (fail)
    have HK : Aside0 ((W.drewN nq).heap[D]? = some (.deferred (some []))) := ⟨hK⟩
    gi_wp2
    refine ⟨by simp, .inl ⟨_, _, rfl, run_takeDeferred HK.out, ?_⟩⟩
    obtain ⟨hr6, hr7, hlen, hB, hpre⟩ := HA.out
    have hini : ini = (Sf.rl l).take most.toNat := by
      obtain ⟨rest, e⟩ := hpre
      have e2 : most.toNat = ini.length := by omega
      rw [← e, e2, List.append_assoc, List.take_left]
    refine ⟨.tuple #[v6, v7], by simp [results, Try.f46, go_sem], runs_end hini (ownsRow_putObj hr6 _ HK.out rfl) (ownsRow_putObj hr7 _ HK.out rfl) ((pw_below_drewN hB nq).trans (belowK_b (w := w) (Nat.le_refl _) (W.drewN nq) D _ _ (by omega) HK.out rfl rfl))⟩
end Go.Proofs.Ytadekjidjhglaaa
