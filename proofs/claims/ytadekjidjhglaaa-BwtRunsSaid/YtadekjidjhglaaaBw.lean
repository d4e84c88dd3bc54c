/- Walks: bwt.Of. Walks: bwt.Starts. Walks: bwt.steps. -/
import Derived.Test.YtadekjidjhglaaaSl
import Derived.Test.YtadekjidjhglaaaBj
import Derived.Test.YtadekjidjhglaaaBg
import Derived.Deep.WholeRow
import Derived.Laws.CopyOwn
set_option linter.unusedVariables false
set_option linter.unusedSimpArgs false
namespace Go.Proofs.Ytadekjidjhglaaa
open Go.RowKit Go.Proofs.YtadekjidjhglaaaW.PrintWords Go.Proofs.YtadekjidjhglaaaW.PrintLast Go.Proofs.YtadekjidjhglaaaW.PrintMore

theorem clip_u16 (A : Option Addr) (n c : Nat) (w : World) (hn : n ≤ c) (hc : c ≤ 9223372036854775807) :
    Calls Try.prog 67 #[.slice A n c] w fun e w' => e = .returned (.slice A n n) ∧ w = w' := by
  go_enter Try.func67, Try.ntmps67
  go_wp2_with fail
  go_ret
  exact ⟨rfl, rfl⟩

set_option maxRecDepth 100000 in
set_option maxHeartbeats 1000000 in
theorem of_calls (g : Nat) (ds : List (List Int)) (w : World) (hT : TextAt w g ds) (hb : Sf.Bytes ds) (hm : ds.length ≤ 500) (hn : (Sf.rowF ds).length ≤ 60000) :
    Calls Try.prog 39 #[.pointer (some ⟨g, 0, none⟩)] w fun e w' => ∃ A n sa, e = .returned (.slice A n n) ∧ Sf.SA (Sf.r0 ds) sa ∧ Kd.C (Kd.int .u16) w' A n (Sf.bwF (Sf.rowF ds) sa) ∧ n = (Sf.rowF ds).length ∧ Below w.heap.size w w' := by
  have HT := Aside0.mk hT
  obtain ⟨_, _, _, _, Ay, cy, _, _, ht2, _, hcy, _, _, hrow⟩ := hT.out
  have HROW := Aside0.mk hrow
  clear hT hrow
  go_enter Try.func39, Try.ntmps39
  go_wp2_with (first | (go_at_call 53; refine (row_calls g Ay _ cy _ ht2).mono ?_; rintro e w' ⟨rfl, rfl⟩))
  refine (array_calls g ds _ HT.out hb hm hn).mono ?_
  rintro e w1 ⟨v, sa, rfl, hs, hR, hB⟩
  have hsl : sa.length = (Sf.rowF ds).length := by rw [Sf.SA_len hs, Sf.r0_len]
  have hrl := Sf.r0_len ds
  generalize hN : (Sf.rowF ds).length = N at *
  obtain ⟨Av, cv, rfl, hcv, hCv⟩ := R_is (n := N) hR (by simpa [Sf.ni] using hsl)
  have HS := Aside0.mk hs
  have HCv := Aside0.mk hCv
  have HB1 := Aside0.mk hB
  have HNN := Aside0.mk (And.intro hN (And.intro hsl hrl))
  have HO := Aside0.mk (Kd.R_nil (Kd.int .u16) 57 w1 w1.heap.size (fun _ => True))
  have HB0 := Aside0.mk (Below.refl w1.heap.size w1)
  clear hs hCv hB hR hN hsl hrl
  obtain ⟨wq, hwq⟩ : ∃ wq, wq = w1 := ⟨_, rfl⟩
  rw [← hwq] at HCv HB1
  have HO' : Aside0 ((Kd.int .u16).R 57 w1 wq.heap.size (fun _ => True) (.slice none 0 0) []) := ⟨Kd.R_nil _ _ _ _ _⟩
  have HB0' : Aside0 (Below wq.heap.size wq w1) := ⟨by rw [hwq]; exact Below.refl _ _⟩
  clear HO HB0 hwq
  go_wp2_with fail
  go_loopw [4, 6, 7, 15] (fun v4 v6 v7 v15 w' => ∃ i : Nat, v15 = .int .i64 i ∧ Aside0 (i ≤ N) ∧ Aside0 ((Kd.int .u16).R 57 w' wq.heap.size (fun _ => True) v4 ((Sf.bwF (Sf.rowF ds) sa).take i)) ∧ Aside0 (Below wq.heap.size wq w')) (fun _ _ _ v15 _ => N - (intOf v15).toNat)
  case atStart => exact ⟨0, rfl, ⟨Nat.zero_le _⟩, HO', HB0'⟩
  case round =>
    clear HO' HB0'
    obtain ⟨i, rfl, HI, HO, HB⟩ := hrel
    by_cases hlt : i < N
    · have hbl := Sf.bwF_length (Sf.rowF ds) sa
      have hba := Sf.bwF_at (Sf.rowF ds) (sa := sa) (i := i) (by rw [HNN.out.2.1]; exact hlt)
      have HT2 := Aside0.mk (Sf.take_snoc (Sf.bwF (Sf.rowF ds) sa) (p := i) (by rw [hbl, HNN.out.2.1]; exact hlt))
      rw [hba] at HT2
      have hpl : sa.getD i 0 < N := by rw [← HNN.out.2.2]; exact Sf.SA_lt HS.out (by rw [HNN.out.2.2]; exact hlt)
      have HLE : Aside0 (((Sf.bwF (Sf.rowF ds) sa).take i).length ≤ 100000000) := ⟨by rw [List.length_take]; omega⟩
      obtain ⟨ad, e, hx⟩ := at_nat HCv.out HB.out i hlt
      cases e
      rw [Sf.ni_getD] at hx
      clear hbl hba
      generalize sa.getD i 0 = p at *
      by_cases hp : p = 0
      · subst hp
        unfold Sf.ahF at HT2
        rw [if_pos rfl] at HT2
        go_wp2_with (first | (at_builtin; refine app_u16 (w0 := wq) rfl (.tmp 26) (.tmp 28) rfl u4 _ _ rfl rfl HO HB HLE ?_; intro v2 w2 HO1 HB2 hg hat; clear hg hat HO HB))
        exact ⟨⟨i + 1, by go_num, ⟨by omega⟩, ⟨by rw [HT2.out]; exact HO1.out⟩, HB2⟩, by simp [intOf]; omega⟩
      · unfold Sf.ahF at HT2
        rw [if_neg hp] at HT2
        obtain ⟨ad2, e, hr⟩ := at_nat HROW.out (below_then HB1.out HB1.out.size HB.out) (p - 1) (by omega)
        cases e
        have hp0 : (p : Int) > 0 := by omega
        generalize (Sf.rowF ds).getD (p - 1) 0 = a at *
        go_wp2_with (first | (at_builtin; refine app_u16 (w0 := wq) rfl (.tmp 26) (.tmp 28) rfl u4 _ _ rfl rfl HO HB HLE ?_; intro v2 w2 HO1 HB2 hg hat; clear hg hat HO HB))
        exact ⟨⟨i + 1, by go_num, ⟨by omega⟩, ⟨by rw [HT2.out]; exact HO1.out⟩, HB2⟩, by simp [intOf]; omega⟩
    · have hj : i = N := by have := HI.out; omega
      have hfu : (Sf.bwF (Sf.rowF ds) sa).take i = Sf.bwF (Sf.rowF ds) sa := List.take_of_length_le (by rw [Sf.bwF_length, HNN.out.2.1]; omega)
      rw [hfu] at HO
      obtain ⟨A4, c4, rfl, hc4, hC4⟩ := R_is (n := N) HO.out (by rw [Sf.bwF_length, HNN.out.2.1])
      have HC4 := Aside0.mk hC4
      have hcb : c4 ≤ 9223372036854775807 := own_cap HO.out
      clear hfu hC4 HO hj
      go_wp2_with (first | (go_at_call 67; refine (clip_u16 A4 N c4 _ hc4 hcb).mono ?_; rintro e w' ⟨rfl, rfl⟩))
      go_ret
      exact ⟨A4, N, sa, rfl, HS.out, HC4.out, HNN.out.1.symm, below_then HB1.out HB1.out.size HB.out⟩
end Go.Proofs.Ytadekjidjhglaaa
set_option linter.unusedVariables false
set_option linter.unusedSimpArgs false
namespace Go.Proofs.Ytadekjidjhglaaa
open Go.RowKit Go.Proofs.YtadekjidjhglaaaW.PrintWords Go.Proofs.YtadekjidjhglaaaW.PrintLast Go.Proofs.YtadekjidjhglaaaW.PrintMore

theorem below_succ (l : List Int) (j : Nat) : Sf.belowC l ((j + 1 : Nat) : Int) = Sf.belowC l (j : Int) + Sf.sameC l (j : Int) l.length := by
  unfold Sf.belowC Sf.sameC
  rw [List.take_length, ← Sf.countP_or _ _ _ (fun x _ hx => by
    have h1 := of_decide_eq_true hx.1
    have h2 := of_decide_eq_true hx.2
    omega)]
  apply List.countP_congr
  intro x _
  rw [Bool.or_eq_true, decide_eq_true_iff, decide_eq_true_iff, decide_eq_true_iff]
  omega
theorem belowC_le (l : List Int) (c : Int) : Sf.belowC l c ≤ l.length := List.countP_le_length
/-- An array of 257 whole numbers in a block of the call's own. -/
abbrev ArrA (w0 w : World) (g : Nat) (xs : List Int) : Prop := (Kd.int .i64).R 58 w w0.heap.size (fun _ => True) (.slice (some ⟨g, 0, none⟩) 257 257) xs
def z257 : List Int := List.replicate 257 0
theorem zero58 : Try.zeroCells58 = (nums .i64 z257).toArray := by kernel_rfl
theorem z257_length : z257.length = 257 := List.length_replicate
theorem z257_at (c : Nat) : z257.getD c 0 = 0 := by
  unfold z257
  rw [List.getD_eq_getElem?_getD, List.getElem?_replicate]
  split <;> rfl
theorem arr_new {w W : World} (hB : Below w.heap.size w W) : ArrA w (W.alloc (.cells Try.zeroCells58 58)) W.heap.size z257 := by
  have h := own_lit W w.heap.size 58 .i64 z257 hB.size (by rw [z257_length]; omega)
  rw [← zero58, z257_length] at h
  refine Kd.R_of_own (enc := Value.int .i64) ?_ (fun _ _ => trivial)
  rw [z257_length]
  exact h
theorem three_arr (w : World) : ∀ W, W = ((w.alloc (.cells Try.zeroCells58 58)).alloc (.cells Try.zeroCells58 58)).alloc (.cells Try.zeroCells58 58) →
    ArrA w W (w.heap.size + 1) z257 ∧ ArrA w W (w.heap.size + 1 + 1) z257 ∧ ArrA w W w.heap.size z257 ∧ Below w.heap.size w W := by
  rintro _ rfl
  have hB1 : Below w.heap.size w (w.alloc (.cells Try.zeroCells58 58)) := below_alloc (Below.refl _ _) _
  have hB2 := below_alloc hB1 (.cells Try.zeroCells58 58)
  have h0 := arr_new (Below.refl w.heap.size w)
  have h1 := arr_new hB1
  have h2 := arr_new hB2
  rw [World.size_alloc] at h1
  rw [World.size_alloc, World.size_alloc] at h2
  exact ⟨Kd.R_alloc h1 _, h2, Kd.R_alloc (Kd.R_alloc h0 _) _, below_alloc hB2 _⟩

theorem arr_block {w0 w : World} {g : Nat} {xs : List Int} (h : ArrA w0 w g xs) (hx : xs.length = 257) : w.heap[g]? = some (.cells (nums .i64 xs).toArray 58 (0, 0)) := by
  have hown := Kd.own_of_R (enc := Value.int .i64) h
  rcases hown.2 with ⟨h1, _⟩ | ⟨g', cap, cur, hv, _, hh, _, _, hcs, ht⟩
  · cases h1
  · injection hv with e1 _ e3
    injection e1 with e1
    injection e1 with e1
    subst e1; subst e3
    rw [hh]
    congr 2
    apply Array.ext'
    rw [hx] at ht
    have hl : cur.toList.length = 257 := by rw [Array.length_toList]; omega
    rw [List.take_of_length_le (by omega)] at ht
    rw [ht]
    rfl
theorem load_run {o : Oper} {a : Act} {t : TypeId} {p : Tmp} {ad : Addr} {v : Value} {W : World} (ho : o.op = .load t (.tmp p)) (hp : a.eval (.tmp p) = .pointer (some ad)) (h : (loadVar t ad).run Try.prog W = .ok v W) :
    (execOp a.eval o).run Try.prog W = .ok (.value v) W := by
  unfold execOp
  rw [ho]
  simp only [hp]
  simp [Instr.loadAt, Instr.sureAddr, h, Result.andThen]
theorem store_run {o : Oper} {a : Act} {t : TypeId} {p q : Tmp} {ad : Addr} {v : Value} {W W1 : World} (ho : o.op = .store t (.tmp p) (.tmp q)) (hp : a.eval (.tmp p) = .pointer (some ad)) (hq : a.eval (.tmp q) = v) (h : (storeVar t ad v).run Try.prog W = .ok () W1) :
    (execOp a.eval o).run Try.prog W = .ok .skip W1 := by
  unfold execOp
  rw [ho]
  simp only [hp, hq]
  simp [Instr.storeAt, Instr.sureAddr, h, Result.andThen]
theorem results_cell1 {fn : Func} {p : Tmp} {ty : TypeId} (h : fn.results = #[.cell p ty]) (tmps : Array Value) (P : Program) (w : World) :
    (results fn tmps).run P w = ((asAddr (tmps.getD p undef)).run P w).andThen fun a w₁ => (loadVar ty a).run P w₁ := by
  simp only [results, h]
  simp [Sem.run_bind, Result.andThen]
theorem info58 : (Try.prog.info? 58).map (·.size) = some 257 := by kernel_rfl
theorem arr_load {w0 w : World} {g : Nat} {xs : List Int} (h : ArrA w0 w g xs) (hx : xs.length = 257) : (loadVar 58 ⟨g, 0, none⟩).run Try.prog w = .ok (.agg (nums .i64 xs).toArray) w :=
  run_loadVar_row w g 58 58 _ (0, 0) _ (arr_block h hx) Try.underlying58 rfl (by rw [info58]; simp [nums, hx])
theorem arr_store {w0 w : World} {g : Nat} {xs ys : List Int} (h : ArrA w0 w g xs) (hx : xs.length = 257) (hy : ys.length = 257) : (storeVar 58 ⟨g, 0, none⟩ (.agg (nums .i64 ys).toArray)).run Try.prog w = .ok () (w.setRow g (nums .i64 ys).toArray) :=
  run_storeVar_row w g 58 58 _ _ (arr_block h hx) (by rw [info58]; simp [nums, hy]) (by simp [nums, hx, hy]) (by
    rw [Array.all_eq_true_iff_forall_mem]
    intro v hv
    simp [nums] at hv
    obtain ⟨x, _, rfl⟩ := hv
    rfl)

/-- How many are below each symbol. -/
def startsL (l : List Int) : List Int := (List.range 257).map fun c : Nat => (Sf.belowC l (c : Int) : Int)
def startsV (l : List Int) : Value := .agg (nums .i64 (startsL l)).toArray
set_option maxRecDepth 100000 in
set_option maxHeartbeats 1000000 in
theorem starts_calls (A : Option Addr) (n c : Nat) (l : List Int) (w : World) (h : Kd.C (Kd.int .u16) w A n l) (hl : ∀ x ∈ l, 0 ≤ x ∧ x ≤ 65535) (hn : n ≤ 1000000) :
    Calls Try.prog 36 #[.slice A n c] w fun e w' => e = .returned (startsV l) ∧ Below w.heap.size w w' := by
  have H := Aside0.mk h
  have HLN := Aside0.mk h.1
  have HLB := Aside0.mk hl
  clear h hl
  go_enter Try.func36, Try.ntmps36
  go_wp2_with fail
  obtain ⟨t1, t2, t0, tB⟩ := three_arr w _ rfl
  generalize ((w.alloc (.cells Try.zeroCells58 58)).alloc (.cells Try.zeroCells58 58)).alloc (.cells Try.zeroCells58 58) = W0 at *
  have HA1 := Aside0.mk t1
  have HA2 := Aside0.mk t2
  have HA0 := Aside0.mk t0
  have HB := Aside0.mk tB
  clear t1 t2 t0 tB
  have hk : ∀ x, 0 ≤ x → x ≤ 256 → True := fun _ _ _ => trivial
  clear hk
  go_loopw [6, 10] (fun v6 v10 w' => ∃ i : Nat, v10 = .int .i64 i ∧ Aside0 (i ≤ n) ∧ (∃ xs : List Int, Aside0 (xs.length = 257 ∧ ∀ c : Nat, c < 257 → xs.getD c 0 = (Sf.sameC l (c : Int) i : Int)) ∧ Aside0 (ArrA w w' (w.heap.size + 1) xs)) ∧ Aside0 (ArrA w w' (w.heap.size + 1 + 1) z257) ∧ Aside0 (ArrA w w' w.heap.size z257) ∧ Aside0 (Below w.heap.size w w')) (fun _ v10 _ => n - (intOf v10).toNat)
  case atStart => exact ⟨0, rfl, ⟨Nat.zero_le _⟩, ⟨_, ⟨z257_length, fun c hc => by rw [z257_at]; simp [Sf.sameC]⟩, HA1⟩, HA2, HA0, HB⟩
  case round =>
    clear HA1 HA2 HA0 HB
    obtain ⟨i, rfl, HI, ⟨xs, HX, HA1⟩, HA2, HA0, HB⟩ := hrel
    by_cases hlt : i < n
    · obtain ⟨ad, e, hx⟩ := at_nat H.out HB.out i hlt
      cases e
      have hb := HLB.out (l.getD i 0) (Sf.mem_of_getD (by rw [HLN.out]; exact hlt))
      have HXE : Aside0 (l.getD i 0 = l.getD i 0) := ⟨rfl⟩
      revert HXE
      generalize hxe : l.getD i 0 = x at hx hb ⊢
      intro HXE0
      have HXE := Aside0.mk hxe
      clear HXE0 hxe
      obtain ⟨k, rfl⟩ := Int.eq_ofNat_of_zero_le hb.1
      by_cases hk : k ≤ 256
      · have hkk : (k : Int) ≤ 256 := by omega
        have hc1 := own_nat HA1 k (by omega)
        have HXK := Aside0.mk (HX.out.2 k (by omega))
        have hyb : xs.getD k 0 ≤ 1000000 ∧ 0 ≤ xs.getD k 0 := by
          rw [HXK.out]
          have : Sf.sameC l (k : Int) i ≤ i := by
            unfold Sf.sameC
            have := List.countP_le_length (p := fun x => decide (x = (k : Int))) (l := l.take i)
            rw [List.length_take] at this
            omega
          omega
        have HSET : Aside0 (∀ c : Nat, c < 257 → (xs.set k (xs.getD k 0 + 1)).getD c 0 = (Sf.sameC l (c : Int) (i + 1) : Int)) := ⟨fun c hc => by
          have hs := Sf.take_snoc l (p := i) (by rw [HLN.out]; exact hlt)
          rw [HXE.out] at hs
          unfold Sf.sameC
          rw [hs, List.countP_append, List.getD_eq_getElem?_getD, List.getElem?_set]
          by_cases e : k = c
          · subst e
            rw [if_pos rfl, if_pos (by rw [HX.out.1]; omega)]
            have := HXK.out
            unfold Sf.sameC at this
            show xs.getD k 0 + 1 = _
            rw [this]
            simp
          · rw [if_neg e, ← List.getD_eq_getElem?_getD, HX.out.2 c hc]
            have : ¬ ((k : Int) = (c : Int)) := by omega
            unfold Sf.sameC
            simp [this]⟩
        generalize hy : xs.getD k 0 = y at *
        go_wp2_with (first | ((with_reducible refine gate_store (t := 3) (p := 20) rfl ?_); refine put_int 3 size3 20 _ rfl rfl rfl rfl rfl HA1 HB (by omega) ?_; intro w2 HA1' HB1 HG; have HA2' := other_int HA2 HG (by simp); have HA0' := other_int HA0 HG (by simp); clear HA1 HA2 HA0 HB HG))
        exact ⟨⟨i + 1, by go_num, ⟨by omega⟩, ⟨_, ⟨by rw [List.length_set]; exact HX.out.1, HSET.out⟩, HA1'⟩, HA2', HA0', HB1⟩, by simp [intOf]; omega⟩
      · have hkk : ¬ (k : Int) ≤ 256 := by omega
        have HSET : Aside0 (∀ c : Nat, c < 257 → xs.getD c 0 = (Sf.sameC l (c : Int) (i + 1) : Int)) := ⟨fun c hc => by
          have hs := Sf.take_snoc l (p := i) (by rw [HLN.out]; exact hlt)
          rw [HXE.out] at hs
          rw [HX.out.2 c hc]
          have : ¬ ((k : Int) = (c : Int)) := by omega
          unfold Sf.sameC
          rw [hs, List.countP_append]
          simp [this]⟩
        have hkk2 : decide ((k : Int) ≤ 256) = false := decide_eq_false hkk
        go_wp2_with fail
        go_roundw
        case rel => exact ⟨i + 1, by go_num, ⟨by omega⟩, ⟨xs, ⟨HX.out.1, HSET.out⟩, HA1⟩, HA2, HA0, HB⟩
        case measure => simp [intOf]; omega
    · have hj : i = n := by have := HI.out; omega
      have HXN : Aside0 (∀ c : Nat, c < 257 → xs.getD c 0 = (Sf.sameC l (c : Int) l.length : Int)) := ⟨fun c hc => by rw [HX.out.2 c hc, hj, HLN.out]⟩
      have HXL := Aside0.mk HX.out.1
      clear HX
      go_wp2_with fail
      obtain ⟨w3, hw3⟩ : ∃ w3, w3 = wr := ⟨_, rfl⟩
      go_loopw [7, 22] (fun v7 v22 w' => ∃ j : Nat, v22 = .int .i64 j ∧ Aside0 (j ≤ 256) ∧ Aside0 (ArrA w w' (w.heap.size + 1) xs) ∧ (∃ ys : List Int, Aside0 (ys.length = 257 ∧ ∀ c : Nat, c ≤ j → ys.getD c 0 = (Sf.belowC l (c : Int) : Int)) ∧ Aside0 (ArrA w w' (w.heap.size + 1 + 1) ys)) ∧ Aside0 (ArrA w w' w.heap.size z257) ∧ Aside0 (Below w.heap.size w w')) (fun _ v22 _ => 256 - (intOf v22).toNat)
      case atStart => exact ⟨0, rfl, ⟨by omega⟩, HA1, ⟨z257, ⟨z257_length, fun c hc => by
        have : c = 0 := by omega
        subst this
        rw [z257_at]
        have h0 : Sf.belowC l ((0 : Nat) : Int) = 0 := by
          unfold Sf.belowC
          rw [List.countP_eq_zero]
          intro x hx
          have := (HLB.out x hx).1
          simp; omega
        rw [h0]; rfl⟩, HA2⟩, HA0, HB⟩
      case round =>
        clear HA1 HA2 HA0 HB hw3 w3
        obtain ⟨j, rfl, HJ, HA1, ⟨ys, HY, HA2⟩, HA0, HB⟩ := hrel
        by_cases hlt2 : j < 256
        · have hc1 := own_nat HA1 j (by omega)
          have hc2 := own_nat HA2 j (by omega)
          obtain ⟨hc3, hf3⟩ := Kd.R_celln 0 HA2.out ((j + 1 : Nat) : Int) (by omega) (by omega)
          rw [Int.toNat_natCast] at hc3 hf3
          have hx1 := HXN.out j (by omega)
          have hy1 := HY.out.2 j (Nat.le_refl _)
          have hsum := below_succ l j
          have hbl := belowC_le l ((j + 1 : Nat) : Int)
          have hln := HLN.out
          rw [hx1] at hc1
          rw [hy1] at hc2
          have hj1 : j + 1 < 257 := by omega
          have hj0 : j < 257 := by omega
          have HSET : Aside0 (∀ c : Nat, c ≤ j + 1 → (ys.set (j + 1) (Sf.belowC l ((j + 1 : Nat) : Int) : Int)).getD c 0 = (Sf.belowC l (c : Int) : Int)) := ⟨fun c hc => by
            rw [List.getD_eq_getElem?_getD, List.getElem?_set]
            by_cases e : j + 1 = c
            · subst e
              rw [if_pos rfl, if_pos (by rw [HY.out.1]; omega)]
              rfl
            · rw [if_neg e, ← List.getD_eq_getElem?_getD]
              exact HY.out.2 c (by omega)⟩
          obtain ⟨p1, p2⟩ := Kd.R_putg HA2.out ((j + 1 : Nat) : Int) (Sf.belowC l ((j + 1 : Nat) : Int) : Int)
          rw [Int.toNat_natCast] at p1 p2
          have HP1 := Aside0.mk (Kd.R_drew p1)
          have HP2 := Aside0.mk p2
          have HBD : Aside0 (Below w.heap.size w (wr.setCell ⟨w.heap.size + 1 + 1, j + 1, none⟩ (.int .i64 (Sf.belowC l ((j + 1 : Nat) : Int) : Int))).drew) := ⟨below_drew (below_set HB.out (by omega))⟩
          have HA1' := Aside0.mk (Kd.R_drew (other_int HA1 HP2 (by simp)).out)
          have HA0' := Aside0.mk (Kd.R_drew (other_int HA0 HP2 (by simp; omega)).out)
          have hbz : Sf.belowC l ((j + 1 : Nat) : Int) ≤ 1000000 := by omega
          have HJE : Aside0 (j + 1 ≤ 256) := ⟨by omega⟩
          clear p1 p2 hbl hx1 hy1 hln
          generalize Sf.belowC l ((j + 1 : Nat) : Int) = z at *
          generalize Sf.belowC l (j : Int) = y at *
          generalize Sf.sameC l (j : Int) l.length = x at *
          have hw2 : IntKind.i64.wrap ((y : Int) + (x : Int)) = (z : Int) := by rw [IntKind.wrap_i64]; omega
          have hw1 : IntKind.i64.wrap ((j : Int) + 1) = ((j + 1 : Nat) : Int) := by rw [IntKind.wrap_i64]; omega
          clear hsum hbz
          generalize hje : j + 1 = j1 at *
          have HJ1 := Aside0.mk hje
          clear hje
          go_upto_region 11 with fail
          go_region
          all_goals (go_wp2_with fail; exact ⟨⟨j1, rfl, HJE, HA1', ⟨_, ⟨by rw [List.length_set]; exact HY.out.1, fun c hc => HSET.out c (by omega)⟩, HP1⟩, HA0', HBD⟩, by simp [intOf]; have := HJ1.out; omega⟩)
        · have hj2 : j = 256 := by have := HJ.out; omega
          have hys : ys = startsL l := by
            unfold startsL
            apply List.ext_getElem
            · rw [HY.out.1]; simp
            · intro c h1 h2
              have := HY.out.2 c (by rw [HY.out.1] at h1; omega)
              rw [List.getD_eq_getElem?_getD, List.getElem?_eq_getElem h1] at this
              rw [List.getElem_map, List.getElem_range]
              exact this
          have HYS := Aside0.mk hys
          clear hys
          have HYL := Aside0.mk HY.out.1
          clear HY
          go_wp2_with (first | ((with_reducible refine gate_dst (N := 36) rfl ?_); refine Kd.event_run rfl (load_run rfl rfl (arr_load HA2.out HYL.out)) ?_) | ((with_reducible refine gate_store (t := 58) (p := 2) rfl ?_); refine store_event rfl rfl rfl (store_run rfl rfl rfl (arr_store HA0.out z257_length HYL.out)) ?_; rintro w5 hw5))
          have hblk := setRow_heap wr w.heap.size _ (nums .i64 ys).toArray 58 (0, 0) (arr_block HA0.out z257_length)
          rw [← hw5] at hblk
          have hBF : Below w.heap.size w w5 := by rw [hw5]; exact below_setRow HB.out (Nat.le_refl _) _
          have hld := run_loadVar_row (P := Try.prog) w5 w.heap.size 58 58 _ (0, 0) _ hblk Try.underlying58 rfl (by rw [info58]; simp [nums, HYL.out])
          refine bodyPost_ret (v := .agg (nums .i64 ys).toArray) ?_ rfl ⟨by unfold startsV; rw [HYS.out], hBF⟩
          rw [results_cell1 rfl]
          show (((asAddr (.pointer (some ⟨w.heap.size, 0, none⟩))).run Try.prog w5).andThen _) = _
          simp [asAddr, Result.andThen, hld]
end Go.Proofs.Ytadekjidjhglaaa
set_option linter.unusedVariables false
set_option linter.unusedSimpArgs false
namespace Go.Proofs.Ytadekjidjhglaaa
open Go.RowKit Go.Proofs.YtadekjidjhglaaaW.PrintWords Go.Proofs.YtadekjidjhglaaaW.PrintLast Go.Proofs.YtadekjidjhglaaaW.PrintMore

theorem arr_mk {w W : World} (hB : Below w.heap.size w W) {xs : List Int} (hx : xs.length = 257) : ArrA w (W.alloc (.cells (nums .i64 xs).toArray 58)) W.heap.size xs := by
  have h := own_lit W w.heap.size 58 .i64 xs hB.size (by omega)
  rw [hx] at h
  refine Kd.R_of_own (enc := Value.int .i64) ?_ (fun _ _ => trivial)
  rw [hx]
  exact h
theorem startsL_length (l : List Int) : (startsL l).length = 257 := by simp [startsL]
theorem startsL_at (l : List Int) {c : Nat} (h : c < 257) : (startsL l).getD c 0 = (Sf.belowC l (c : Int) : Int) := by
  unfold startsL
  rw [List.getD_eq_getElem?_getD, List.getElem?_map, List.getElem?_range h]
  rfl
theorem store_new {W : World} (l : List Int) : (storeVar 58 ⟨W.heap.size, 0, none⟩ (startsV l)).run Try.prog (W.alloc (.cells Try.zeroCells58 58)) = .ok () (W.alloc (.cells (nums .i64 (startsL l)).toArray 58)) :=
  run_storeVar_new W 58 _ _ (by rw [info58]; simp [nums, startsL_length]) (by rw [zero58]; simp [nums, startsL_length, z257_length]) (by
    rw [Array.all_eq_true_iff_forall_mem]
    intro v hv
    simp [nums] at hv
    obtain ⟨x, _, rfl⟩ := hv
    rfl)
set_option maxRecDepth 100000 in
set_option maxHeartbeats 1000000 in
theorem steps_calls (A : Option Addr) (n c : Nat) (l : List Int) (w : World) (h : Kd.C (Kd.int .u16) w A n l) (hl : ∀ x ∈ l, 0 ≤ x ∧ x ≤ 256) (hn : n ≤ 1000000) :
    Calls Try.prog 77 #[.slice A n c] w fun e w' => ∃ A4 c4, e = .returned (.slice A4 n c4) ∧ n ≤ c4 ∧ Kd.C (Kd.int .i64) w' A4 n (Sf.stepsL l) ∧ Below w.heap.size w w' := by
  have H := Aside0.mk h
  have HLN := Aside0.mk h.1
  have HLB := Aside0.mk hl
  clear h hl
  go_enter Try.func77, Try.ntmps77
  go_wp2_with fail
  refine (starts_calls A n c l _ H.out (fun x hx => by have := HLB.out x hx; omega) hn).mono ?_
  rintro e w1 ⟨rfl, hB1⟩
  have HB1 := Aside0.mk hB1
  clear hB1
  have HNb : Aside0 (n ≤ 100000000) := ⟨by omega⟩
  go_upto_region 2 with (first | ((with_reducible refine gate_store (t := 58) (p := 3) rfl ?_); refine store_event rfl rfl rfl (store_run rfl rfl rfl (store_new l)) ?_; rintro w5 rfl))
  have HAT := Aside0.mk (arr_mk (xs := startsL l) HB1.out (startsL_length l))
  have HB2 := Aside0.mk (below_alloc HB1.out (.cells (nums .i64 (startsL l)).toArray 58))
  have HG0 : Aside0 (w.heap.size ≤ w1.heap.size ∧ w1.heap.size < (w1.alloc (.cells (nums .i64 (startsL l)).toArray 58)).heap.size) := ⟨HB1.out.size, by simp⟩
  generalize w1.alloc (.cells (nums .i64 (startsL l)).toArray 58) = W2 at *
  generalize w1.heap.size = g at *
  clear HB1
  go_wp2_with (first | (at_make; refine mk_int (w0 := w) 28 3 8 Try.underlying28 info3 (by omega) (by omega) rfl rfl _ _ rfl n rfl rfl HB2 HNb ?_; intro g2 cap w3 HO HB3 HG HG2; have HAT3 := other_int HAT HG (by simp); have HNE : Aside0 (g ≠ g2) := ⟨by have := HG0.out.2; have := HG2.out; omega⟩; clear HB2 HNb HG HG2 HAT HG0))
  go_loopw [5, 6, 14] (fun v5 v6 v14 w' => ∃ i : Nat, v14 = .int .i64 i ∧ Aside0 (i ≤ n) ∧ (∃ xs : List Int, Aside0 (xs.length = 257 ∧ ∀ c : Nat, 0 < c → c < 257 → xs.getD c 0 = ((Sf.belowC l (c : Int) + Sf.sameC l (c : Int) i : Nat) : Int)) ∧ Aside0 (ArrA w w' g xs)) ∧
    (∃ ys : List Int, Aside0 (ys.length = n ∧ ∀ t, t < i → ys.getD t 0 = Sf.stepF l t) ∧ Aside0 (Kd.R (Kd.int .i64) 3 w' w.heap.size (fun _ => True) (.slice (some ⟨g2, 0, none⟩) n cap) ys)) ∧ Aside0 (Below w.heap.size w w')) (fun _ _ v14 _ => n - (intOf v14).toNat)
  case atStart => exact ⟨0, rfl, ⟨Nat.zero_le _⟩, ⟨startsL l, ⟨startsL_length l, fun c _ hc => by rw [startsL_at l hc]; simp [Sf.sameC]⟩, HAT3⟩, ⟨List.replicate n 0, ⟨by simp, fun t ht => absurd ht (Nat.not_lt_zero _)⟩, HO⟩, HB3⟩
  case round =>
    clear HO HB3 HAT3
    obtain ⟨i, rfl, HI, ⟨xs, HX, HA⟩, ⟨ys, HY, HO⟩, HB⟩ := hrel
    by_cases hlt : i < n
    · obtain ⟨ad, e, hx⟩ := at_nat H.out HB.out i hlt
      cases e
      have hb := HLB.out (l.getD i 0) (Sf.mem_of_getD (by rw [HLN.out]; exact hlt))
      have hsn := Sf.take_snoc l (p := i) (by rw [HLN.out]; exact hlt)
      have HSN := Aside0.mk hsn
      clear hsn
      have HSF : Aside0 (Sf.stepF l i = if l.getD i 0 = 0 then -1 else ((Sf.belowC l (l.getD i 0) + Sf.sameC l (l.getD i 0) i : Nat) : Int)) := ⟨rfl⟩
      have HSI := Aside0.mk (fun (v : Int) (hv : v = Sf.stepF l i) (zs : List Int) (hz : zs.length = n) (hzs : ∀ t, t < i → zs.getD t 0 = Sf.stepF l t) => (⟨by rw [List.length_set]; exact hz, fun t ht => by
        rw [List.getD_eq_getElem?_getD, List.getElem?_set]
        by_cases e : i = t
        · subst e
          rw [if_pos rfl, if_pos (by omega)]
          exact hv
        · rw [if_neg e, ← List.getD_eq_getElem?_getD]
          exact hzs t (by omega)⟩ : (zs.set i v).length = n ∧ ∀ t, t < i + 1 → (zs.set i v).getD t 0 = Sf.stepF l t))
      generalize l.getD i 0 = x at *
      obtain ⟨k, rfl⟩ := Int.eq_ofNat_of_zero_le hb.1
      have hk : k < 257 := by have := hb.2; omega
      by_cases hk0 : k = 0
      · subst hk0
        have HXS : Aside0 (∀ c : Nat, 0 < c → c < 257 → xs.getD c 0 = ((Sf.belowC l (c : Int) + Sf.sameC l (c : Int) (i + 1) : Nat) : Int)) := ⟨fun c h0 hc => by
          rw [HX.out.2 c h0 hc]
          have e : [((0 : Nat) : Int)].countP (fun x => decide (x = (c : Int))) = 0 := by
            rw [List.countP_eq_zero]
            intro y hy
            rw [List.mem_singleton.1 hy, decide_eq_true_iff]
            omega
          unfold Sf.sameC
          rw [HSN.out, List.countP_append, e, Nat.add_zero]⟩
        have HV : Aside0 ((-1 : Int) = Sf.stepF l i) := ⟨by rw [HSF.out]; rfl⟩
        go_wp2_with (first | ((with_reducible refine gate_store (t := 3) (p := 21) rfl ?_); refine put_int 3 size3 21 _ rfl rfl rfl rfl rfl HO HB hlt ?_; intro w6 HO1 HB6 HG; have HA6 := other_int HA HG (by simpa using Ne.symm HNE.out); clear HO HB HG HA))
        exact ⟨⟨i + 1, by go_num, ⟨by omega⟩, ⟨xs, ⟨HX.out.1, HXS.out⟩, HA6⟩, ⟨_, ⟨HSI.out _ HV.out ys HY.out.1 HY.out.2⟩, HO1⟩, HB6⟩, by simp [intOf]; omega⟩
      · have HXK := Aside0.mk (HX.out.2 k (by omega) hk)
        have HXS : Aside0 (∀ c : Nat, 0 < c → c < 257 → (xs.set k (xs.getD k 0 + 1)).getD c 0 = ((Sf.belowC l (c : Int) + Sf.sameC l (c : Int) (i + 1) : Nat) : Int)) := ⟨fun c h0 hc => by
          rw [List.getD_eq_getElem?_getD, List.getElem?_set]
          unfold Sf.sameC
          rw [HSN.out, List.countP_append]
          by_cases e : k = c
          · subst e
            rw [if_pos rfl, if_pos (by rw [HX.out.1]; omega)]
            have h1 := HXK.out
            unfold Sf.sameC at h1
            show xs.getD k 0 + 1 = _
            rw [h1]
            have e2 : [((k : Nat) : Int)].countP (fun x => decide (x = (k : Int))) = 1 := by simp
            rw [e2]
            omega
          · rw [if_neg e, ← List.getD_eq_getElem?_getD, HX.out.2 c h0 hc]
            have e2 : [((k : Nat) : Int)].countP (fun x => decide (x = (c : Int))) = 0 := by
              rw [List.countP_eq_zero]
              intro y hy
              rw [List.mem_singleton.1 hy, decide_eq_true_iff]
              omega
            unfold Sf.sameC
            rw [e2, Nat.add_zero]⟩
        have HV : Aside0 (xs.getD k 0 = Sf.stepF l i) := ⟨by rw [HSF.out, if_neg (by omega)]; exact HXK.out⟩
        have hkpos : (k : Int) > 0 := by omega
        have hyb : xs.getD k 0 ≤ 10000000 ∧ 0 ≤ xs.getD k 0 := by
          rw [HXK.out]
          have h1 := belowC_le l (k : Int)
          have h2 : Sf.sameC l (k : Int) i ≤ i := by
            unfold Sf.sameC
            have := List.countP_le_length (p := fun x => decide (x = (k : Int))) (l := l.take i)
            rw [List.length_take] at this
            omega
          have := HLN.out
          omega
        have HXY0 : Aside0 (xs.getD k 0 = xs.getD k 0) := ⟨rfl⟩
        obtain ⟨y, HXY⟩ : ∃ y, Aside0 (xs.getD k 0 = y) := ⟨_, ⟨rfl⟩⟩
        clear HXY0
        rw [HXY.out] at HXS HV HXK hyb
        have HY2 : Aside0 (((ys.set i (-1)).set i y).length = n ∧ ∀ t, t < i + 1 → ((ys.set i (-1)).set i y).getD t 0 = Sf.stepF l t) := ⟨HSI.out _ HV.out (ys.set i (-1)) (by rw [List.length_set]; exact HY.out.1) (fun t ht => by
          rw [List.getD_eq_getElem?_getD, List.getElem?_set, if_neg (by omega), ← List.getD_eq_getElem?_getD]
          exact HY.out.2 t ht)⟩
        go_wp2_with (first | ((with_reducible refine gate_store (t := 3) (p := 21) rfl ?_); refine put_int 3 size3 21 _ rfl rfl rfl rfl rfl HO HB hlt ?_; intro w6 HO1 HB6 HG; have HA6 := other_int HA HG (by simpa using Ne.symm HNE.out); have hc6 := own_nat HA6 k (by omega); rw [HXY.out] at hc6; clear HO HB HG HA) | ((with_reducible refine gate_store (t := 3) (p := 29) rfl ?_); refine put_int 3 size3 29 _ rfl rfl rfl rfl rfl HO1 HB6 hlt ?_; intro w7 HO7 HB7 HG; have HA7 := other_int HA6 HG (by simpa using Ne.symm HNE.out); clear hc6; have hc7 := own_nat HA7 k (by omega); rw [HXY.out] at hc7; clear HO1 HB6 HG HA6) | ((with_reducible refine gate_store (t := 3) (p := 34) rfl ?_); refine put_int 3 size3 34 _ rfl rfl rfl rfl rfl HA7 HB7 (by omega) ?_; intro w8 HA8 HB8 HG; have HO8 := other_int HO7 HG (by simpa using HNE.out); clear hc7; clear HO7 HB7 HG HA7))
        exact ⟨⟨i + 1, by go_num, ⟨by omega⟩, ⟨_, ⟨by rw [List.length_set]; exact HX.out.1, HXS.out⟩, HA8⟩, ⟨_, HY2, HO8⟩, HB8⟩, by simp [intOf]; omega⟩
    · have hj : i = n := by have := HI.out; omega
      have HYE : Aside0 (ys = Sf.stepsL l) := ⟨by
        apply List.ext_getElem
        · rw [HY.out.1]; simp [Sf.stepsL, HLN.out]
        · intro t h1 h2
          have := HY.out.2 t (by rw [HY.out.1] at h1; omega)
          rw [List.getD_eq_getElem?_getD, List.getElem?_eq_getElem h1] at this
          have e2 : (Sf.stepsL l)[t] = Sf.stepF l t := by simp [Sf.stepsL]
          rw [e2]
          exact this⟩
      rw [HYE.out] at HO
      obtain ⟨_, _, e1, hc4, hC4⟩ := R_is (n := n) HO.out (by simp [Sf.stepsL, HLN.out])
      cases e1
      have HC4 := Aside0.mk hC4
      clear hC4 hj
      go_wp2_with fail
      go_ret
      exact ⟨_, _, rfl, hc4, HC4.out, HB.out⟩
end Go.Proofs.Ytadekjidjhglaaa
