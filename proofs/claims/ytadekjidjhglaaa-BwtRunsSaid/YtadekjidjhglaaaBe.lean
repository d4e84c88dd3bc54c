/- Walks: suffix.ranks and its closure. -/
import Derived.Test.YtadekjidjhglaaaBd
set_option linter.unusedVariables false
set_option linter.unusedSimpArgs false
namespace Go.Proofs.Ytadekjidjhglaaa
open Go.RowKit Go.Proofs.YtadekjidjhglaaaW.PrintWords Go.Proofs.YtadekjidjhglaaaW.PrintLast Go.Proofs.YtadekjidjhglaaaW.PrintMore

theorem behind_calls (p k : Nat) (b1 b2 : Nat) (A1 : Option Addr) (m c1 : Nat) (rank : List Int) (w : World) (h1 : w.cell? ⟨b1, 0, none⟩ = some (.int .i64 k)) (h2 : w.cell? ⟨b2, 0, none⟩ = some (.slice A1 m c1))
    (hr : Kd.C (Kd.int .i64) w A1 m rank) (hm : rank.length = m) (hp : p ≤ 100000) (hk : k ≤ 1000000) :
    Calls Try.prog 72 #[.int .i64 p, .pointer (some ⟨b1, 0, none⟩), .pointer (some ⟨b2, 0, none⟩)] w fun e w' => e = .returned (.int .i64 (Sf.behindF rank k p)) ∧ w = w' := by
  by_cases hlt : p + k < m
  · obtain ⟨ad, e, hx⟩ := at_nat hr (Below.refl _ _) (p + k) hlt
    cases e
    have HE : Aside0 (Sf.behindF rank k p = rank.getD (p + k) 0) := ⟨by unfold Sf.behindF; rw [if_pos (by omega)]⟩
    have hlt' : (p : Int) + (k : Int) < m := by omega
    clear hr hm
    generalize rank.getD (p + k) 0 = v at *
    go_enter Try.func72, Try.ntmps72
    go_wp2
    go_ret
    exact ⟨by rw [HE.out]; rfl, rfl⟩
  · have HE : Aside0 (Sf.behindF rank k p = -1) := ⟨by unfold Sf.behindF; rw [if_neg (by omega)]⟩
    have hlt' : ¬ (p : Int) + (k : Int) < m := by omega
    clear hr hm
    go_enter Try.func72, Try.ntmps72
    go_wp2
    go_ret
    exact ⟨by rw [HE.out]; rfl, rfl⟩

theorem quiet_same2 {P : Program} {f : FuncId} {args : Array Value} {w : World} {n : Nat} {v : Value}
    (h : Calls P f args (w.drewN n) fun e w' => e = .returned v ∧ w.drewN n = w') : Calls P f args (w.drewN n) fun e w'' => e = .returned v ∧ ∃ m, w'' = w.drewN m :=
  h.mono fun _ _ ⟨he, hm⟩ => ⟨he, n, hm.symm⟩
theorem cell_grown' {w w1 : World} {row : Option Nat} {p : Addr} {v : Value} (hg : w.grownBy w1 row) (h : w.cell? p = some v) (hne : row ≠ some p.block) : w1.cell? p = some v := cell_grown h hg hne

set_option maxRecDepth 100000 in
set_option maxHeartbeats 2000000 in
theorem ranks_calls (A0 : Option Addr) (n c0 : Nat) (sa : List Nat) (A1 : Option Addr) (c1 : Nat) (rank : List Int) (k : Nat) (w : World)
    (hr0 : Kd.C (Kd.int .i64) w A0 n (Sf.ni sa)) (hr1 : Kd.C (Kd.int .i64) w A1 n rank) (hn : n ≤ 100000) (hk : k ≤ n)
    (hp : sa.Perm (List.range n)) (hm : rank.length = n) :
    Calls Try.prog 50 #[.slice A0 n c0, .slice A1 n c1, .int .i64 k] w fun e w' => ∃ v next, e = .returned (.tuple #[v, .int .i64 ((Sf.lvl (Sf.partF rank k sa) (n - 1) : Int) + 1)]) ∧ Kd.R (Kd.int .i64) 3 w' w.heap.size (fun _ => True) v next ∧ next.length = n ∧
      (∀ i, i < n → next.getD (sa.getD i 0) 0 = (Sf.lvl (Sf.partF rank k sa) i : Int)) ∧ Below w.heap.size w w' := by
  have HR0 := Aside0.mk hr0
  have HR1 := Aside0.mk hr1
  have HP := Aside0.mk hp
  have HM := Aside0.mk hm
  have hl : sa.length = n := by have := hp.length_eq; simpa using this
  have HL := Aside0.mk hl
  have HB := Aside0.mk (Below.refl w.heap.size w)
  have HNb : Aside0 (n ≤ 100000000) := ⟨by omega⟩
  clear hr0 hr1 hp hm hl
  go_enter Try.func50, Try.ntmps50
  have hc1 : ((w.alloc (.cells #[.slice A1 n c1] 28)).alloc (.cells #[.int .i64 k] 3)).cell? ⟨w.heap.size + 1, 0, none⟩ = some (.int .i64 k) := by simp
  have hc2 : ((w.alloc (.cells #[.slice A1 n c1] 28)).alloc (.cells #[.int .i64 k] 3)).cell? ⟨w.heap.size, 0, none⟩ = some (.slice A1 n c1) := by simp
  have HC := Aside0.mk (And.intro hc1 hc2)
  clear hc1 hc2
  go_wp2_with (first | (at_make; refine mk_int (w0 := w) 28 3 8 Try.underlying28 info3 (by omega) (by omega) rfl rfl _ _ rfl n rfl rfl ⟨below_alloc (below_alloc HB.out _) _⟩ HNb ?_; intro g cap w1 HO HB1 HG HG2; have HC1 := Aside0.mk (pw_cell_below (below_grown HG.out) HC.out.1); have HC2 := Aside0.mk (pw_cell_below (below_grown HG.out) HC.out.2); have HGG := Aside0.mk (show w.heap.size + 2 ≤ g by have := HG2.out; simp at this; omega); clear HB HG HG2 HC; have HB := HB1; clear HB1))
  go_loopw [7, 18] (fun v7 v18 w' => ∃ i : Nat, v18 = .int .i64 i ∧ v7 = .int .i64 (Sf.lvl (Sf.partF rank k sa) (i - 1) : Nat) ∧ Aside0 (i ≤ n) ∧ Aside0 (w'.cell? ⟨w.heap.size + 1, 0, none⟩ = some (.int .i64 k)) ∧ Aside0 (w'.cell? ⟨w.heap.size, 0, none⟩ = some (.slice A1 n c1)) ∧
      (∃ next : List Int, Aside0 (next.length = n) ∧ Aside0 (∀ t, t < i → next.getD (sa.getD t 0) 0 = (Sf.lvl (Sf.partF rank k sa) t : Int)) ∧ Aside0 (Kd.R (Kd.int .i64) 3 w' w.heap.size (fun _ => True) (.slice (some ⟨g, 0, none⟩) n cap) next)) ∧ Aside0 (Below w.heap.size w w')) (fun _ i _ => n - (intOf i).toNat)
  case atStart => exact ⟨0, rfl, rfl, ⟨Nat.zero_le _⟩, HC1, HC2, ⟨List.replicate n 0, ⟨by simp⟩, ⟨fun t h => absurd h (Nat.not_lt_zero _)⟩, HO⟩, HB⟩
  case round =>
    clear HO HB HC1 HC2
    obtain ⟨i, rfl, rfl, HI, HC1, HC2, ⟨next, HN, HX, HO⟩, HB⟩ := hrel
    by_cases hlt : i < n
    · obtain ⟨ad, e, hx⟩ := at_nat HR0.out HB.out i hlt
      cases e
      rw [Sf.ni_getD] at hx
      have hpn : sa.getD i 0 < n := (Sf.perm_range_mem HP.out).1 (Sf.getD_mem (by have := HL.out; omega))
      have hl := Sf.lvl_le (Sf.partF rank k sa) (i - 1)
      have hfin : ∀ L : Int, L = (Sf.lvl (Sf.partF rank k sa) i : Int) → ∀ t, t < i + 1 → (next.set (sa.getD i 0) L).getD (sa.getD t 0) 0 = (Sf.lvl (Sf.partF rank k sa) t : Int) := by
        intro L hL t ht
        have hlen := HL.out
        have hpn' := hpn
        rw [List.getD_eq_getElem?_getD, List.getElem?_set]
        by_cases e : t = i
        · subst e
          rw [if_pos rfl, if_pos (by rw [HN.out]; exact hpn')]
          exact hL
        · have hnd : sa.Nodup := HP.out.nodup_iff.2 List.nodup_range
          have hne : ¬ sa.getD i 0 = sa.getD t 0 := by
            intro h
            have := Sf.pairwise_getD (R := fun a b => a ≠ b) hnd (show t < i by omega) (by omega)
            exact this h.symm
          rw [if_neg hne, ← List.getD_eq_getElem?_getD]
          exact HX.out t (by omega)
      have HF := Aside0.mk hfin
      clear hfin
      by_cases h0 : i ≤ 0
      · have HE : Aside0 (Sf.lvl (Sf.partF rank k sa) (i - 1) = Sf.lvl (Sf.partF rank k sa) i) := ⟨by rw [show i - 1 = i by omega]⟩
        generalize Sf.lvl (Sf.partF rank k sa) (i - 1) = L at *
        generalize sa.getD i 0 = p at *
        go_wp2_with (first | ((with_reducible refine gate_store (t := 3) (p := 53) rfl ?_); refine put_int 3 size3 53 _ rfl rfl rfl rfl rfl HO HB (by omega) ?_; intro w2 HO1 HB1 HG; have HC3 := Aside0.mk (cell_grown HC1.out HG.out (by have := HGG.out; simp; omega)); have HC4 := Aside0.mk (cell_grown HC2.out HG.out (by have := HGG.out; simp; omega)); clear HC1 HC2 HG HO HB))
        go_roundw
        case rel => exact ⟨i + 1, by go_num, by rw [HE.out]; simp, ⟨by omega⟩, HC3, HC4, ⟨_, ⟨by rw [List.length_set]; exact HN.out⟩, ⟨HF.out _ (by rw [HE.out])⟩, HO1⟩, HB1⟩
        case measure => simp [intOf]; omega
      · have hqn : sa.getD (i - 1) 0 < n := (Sf.perm_range_mem HP.out).1 (Sf.getD_mem (by have := HL.out; omega))
        obtain ⟨_, e, hy⟩ := at_nat HR0.out HB.out (i - 1) (by omega)
        cases e
        rw [Sf.ni_getD] at hy
        obtain ⟨ad1, e, hp1⟩ := at_nat HR1.out HB.out (sa.getD i 0) hpn
        cases e
        obtain ⟨_, e, hq1⟩ := at_nat HR1.out HB.out (sa.getD (i - 1) 0) hqn
        cases e
        have HR1' := Aside0.mk (Kd.C_below HR1.out HB.out)
        have HE : Aside0 (Sf.lvl (Sf.partF rank k sa) i = Sf.lvl (Sf.partF rank k sa) (i - 1) + if Sf.partF rank k sa i = true then 1 else 0) := ⟨by
          have : i = (i - 1) + 1 := by omega
          rw [this]
          simp only [Sf.lvl, Nat.add_sub_cancel]⟩
        have hPart : Sf.partF rank k sa i = decide (rank.getD (sa.getD i 0) 0 ≠ rank.getD (sa.getD (i - 1) 0) 0 ∨ Sf.behindF rank k (sa.getD i 0) ≠ Sf.behindF rank k (sa.getD (i - 1) 0)) := rfl
        have HPT := Aside0.mk hPart
        clear hPart
        generalize sa.getD i 0 = p at *
        generalize sa.getD (i - 1) 0 = q at *
        have HBB := Aside0.mk (fun (p m : Nat) (hp : p ≤ 100000) (h1 : wr.cell? ⟨w.heap.size + 1, 0, none⟩ = some (.int .i64 k)) (h2 : wr.cell? ⟨w.heap.size, 0, none⟩ = some (.slice (some ad1) n c1)) => behind_calls p k (w.heap.size + 1) w.heap.size (some ad1) n c1 rank (wr.drewN m) h1 h2 (Kd.C_drewN HR1'.out m) HM.out hp (by omega))
        by_cases hne : rank.getD p 0 = rank.getD q 0
        · by_cases hbe : Sf.behindF rank k p = Sf.behindF rank k q
          · rw [decide_eq_false (by rintro (h | h) <;> contradiction)] at HPT
            rw [HPT.out, if_neg (by simp)] at HE
            rw [hne] at hp1
            have hb1 : (Sf.behindF rank k p != Sf.behindF rank k q) = false := by simpa using hbe
            have hne1 : (rank.getD q 0 != rank.getD q 0) = false := by simp
            generalize rank.getD q 0 = Qv at *
            have hc1 := HC1.out
            have hc2 := HC2.out
            clear hne hbe
            generalize Sf.lvl (Sf.partF rank k sa) (i - 1) = L at *
            go_wp2_with fail
            go_quiet (first | (go_at_call 72; exact quiet_same2 (HBB.out _ _ (by omega) hc1 hc2)))
            have HO2 := fun m => Aside0.mk (Kd.R_drewN HO.out m)
            have HB2 := fun m => Aside0.mk (pw_below_drewN HB.out m)
            clear HO HB hc1 hc2
            go_wp2_with (first | ((with_reducible refine gate_store (t := 3) (p := 53) rfl ?_); refine put_int 3 size3 53 _ rfl rfl rfl rfl rfl (HO2 _) (HB2 _) (by omega) ?_; intro w2 HO1 HB1 HG; have HC3 := Aside0.mk (cell_grown' HG.out HC1.out (by have := HGG.out; simp; omega)); have HC4 := Aside0.mk (cell_grown' HG.out HC2.out (by have := HGG.out; simp; omega)); clear HC1 HC2 HG HO2 HB2))
            go_roundw
            case rel => exact ⟨i + 1, by go_num, by rw [Nat.add_sub_cancel, HE.out]; go_num, ⟨by omega⟩, HC3, HC4, ⟨_, ⟨by rw [List.length_set]; exact HN.out⟩, ⟨HF.out _ (by rw [HE.out]; omega)⟩, HO1⟩, HB1⟩
            case measure => simp [intOf]; omega
          · rw [decide_eq_true (Or.inr hbe)] at HPT
            rw [HPT.out, if_pos rfl] at HE
            rw [hne] at hp1
            have hb1 : (Sf.behindF rank k p != Sf.behindF rank k q) = true := by simpa using hbe
            have hne1 : (rank.getD q 0 != rank.getD q 0) = false := by simp
            generalize rank.getD q 0 = Qv at *
            have hc1 := HC1.out
            have hc2 := HC2.out
            clear hne hbe
            generalize Sf.lvl (Sf.partF rank k sa) (i - 1) = L at *
            go_wp2_with fail
            go_quiet (first | (go_at_call 72; exact quiet_same2 (HBB.out _ _ (by omega) hc1 hc2)))
            have HO2 := fun m => Aside0.mk (Kd.R_drewN HO.out m)
            have HB2 := fun m => Aside0.mk (pw_below_drewN HB.out m)
            clear HO HB hc1 hc2
            go_wp2_with (first | ((with_reducible refine gate_store (t := 3) (p := 53) rfl ?_); refine put_int 3 size3 53 _ rfl rfl rfl rfl rfl (HO2 _) (HB2 _) (by omega) ?_; intro w2 HO1 HB1 HG; have HC3 := Aside0.mk (cell_grown' HG.out HC1.out (by have := HGG.out; simp; omega)); have HC4 := Aside0.mk (cell_grown' HG.out HC2.out (by have := HGG.out; simp; omega)); clear HC1 HC2 HG HO2 HB2))
            go_roundw
            case rel => exact ⟨i + 1, by go_num, by rw [Nat.add_sub_cancel, HE.out]; go_num, ⟨by omega⟩, HC3, HC4, ⟨_, ⟨by rw [List.length_set]; exact HN.out⟩, ⟨HF.out _ (by rw [HE.out]; omega)⟩, HO1⟩, HB1⟩
            case measure => simp [intOf]; omega
        · rw [decide_eq_true (Or.inl hne)] at HPT
          rw [HPT.out, if_pos rfl] at HE
          generalize rank.getD p 0 = P at *
          generalize rank.getD q 0 = Qv at *
          have hne1 : (P != Qv) = true := by simpa using hne
          have hc1 := HC1.out
          have hc2 := HC2.out
          clear hne
          generalize Sf.lvl (Sf.partF rank k sa) (i - 1) = L at *
          go_wp2_with fail
          go_quiet (fail)
          have HO2 := fun m => Aside0.mk (Kd.R_drewN HO.out m)
          have HB2 := fun m => Aside0.mk (pw_below_drewN HB.out m)
          clear HO HB hc1 hc2
          go_wp2_with (first | ((with_reducible refine gate_store (t := 3) (p := 53) rfl ?_); refine put_int 3 size3 53 _ rfl rfl rfl rfl rfl (HO2 _) (HB2 _) (by omega) ?_; intro w2 HO1 HB1 HG; have HC3 := Aside0.mk (cell_grown' HG.out HC1.out (by have := HGG.out; simp; omega)); have HC4 := Aside0.mk (cell_grown' HG.out HC2.out (by have := HGG.out; simp; omega)); clear HC1 HC2 HG HO2 HB2))
          go_roundw
          case rel => exact ⟨i + 1, by go_num, by rw [Nat.add_sub_cancel, HE.out]; go_num, ⟨by omega⟩, HC3, HC4, ⟨_, ⟨by rw [List.length_set]; exact HN.out⟩, ⟨HF.out _ (by rw [HE.out]; omega)⟩, HO1⟩, HB1⟩
          case measure => simp [intOf]; omega
    · have hj : i = n := by have := HI.out; omega
      subst hj
      clear hlt
      have hl := Sf.lvl_le (Sf.partF rank k sa) (i - 1)
      go_wp2_with fail
      go_ret2
      exact ⟨_, next, rfl, HO.out, HN.out, HX.out, HB.out⟩
end Go.Proofs.Ytadekjidjhglaaa
