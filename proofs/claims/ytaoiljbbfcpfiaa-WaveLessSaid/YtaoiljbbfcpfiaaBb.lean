/- Walks: a symbol above 256, slices.IndexFunc, slices.ContainsFunc, slices.Clone. -/
import Derived.Test.YtaoiljbbfcpfiaaBa
import Derived.Lib.SlBytesConst
import Derived.Lib.BufferMore
set_option linter.unusedVariables false
set_option linter.unusedSimpArgs false
namespace Go.Proofs.Ytaoiljbbfcpfiaa
open Go.RowKit Go.Proofs.YtaoiljbbfcpfiaaW.PrintWords Go.Proofs.YtaoiljbbfcpfiaaW.PrintLast Go.Proofs.YtaoiljbbfcpfiaaW.PrintMore
theorem mem_of_getD {l : List Int} {i : Nat} (hi : i < l.length) : l.getD i 0 ∈ l := by
  rw [List.getD_eq_getElem?_getD, List.getElem?_eq_getElem hi]
  exact List.getElem_mem hi
/-- A symbol above 256 is among them. -/
def bigB (l : List Int) : Bool := l.any (fun x => decide (256 < x))
theorem big_le {l : List Int} (h : bigB l = false) : ∀ x ∈ l, x ≤ 256 := fun x hx => by
  unfold bigB at h
  rw [List.any_eq_false] at h
  have := h x hx
  simp at this
  exact this
theorem big_of {l : List Int} {i : Nat} (hi : i < l.length) (h : 256 < l.getD i 0) : bigB l = true := by
  unfold bigB
  rw [List.any_eq_true]
  exact ⟨_, mem_of_getD hi, by simpa using h⟩
theorem big_not {l : List Int} (h : ∀ i, i < l.length → l.getD i 0 ≤ 256) : bigB l = false := by
  unfold bigB
  rw [List.any_eq_false]
  intro x hx
  obtain ⟨i, hi, rfl⟩ := List.getElem_of_mem hx
  have := h i hi
  rw [List.getD_eq_getElem?_getD, List.getElem?_eq_getElem hi] at this
  simpa using this
def IdxEnd (l : List Int) (w : World) (e : Ending) (w' : World) : Prop := ∃ r : Int, e = .returned (.int .i64 r) ∧ w = w' ∧ (bigB l = true → 0 ≤ r) ∧ (bigB l = false → r = -1)
set_option maxRecDepth 100000 in
theorem above_calls (x : Int) (w : World) : Calls Try.prog 11 #[.int .u16 x] w fun e w' => e = .returned (.bool (decide (256 < x))) ∧ w = w' := by
  by_cases h : 256 < x
  · have h2 : x > 256 := h
    go_enter Try.func11, Try.ntmps11
    go_wp2
    go_ret
    exact ⟨by rw [decide_eq_true h]; rfl, rfl⟩
  · have h2 : decide (x > 256) = false := decide_eq_false h
    have HF : Aside0 (decide (256 < x) = false) := ⟨decide_eq_false h⟩
    go_enter Try.func11, Try.ntmps11
    go_wp2
    go_ret
    exact ⟨rfl, rfl⟩
set_option maxRecDepth 100000 in
set_option maxHeartbeats 1000000 in
theorem indexBig_calls (A : Option Addr) (n c : Nat) (l : List Int) (w : World) (h : Kd.C (Kd.int .u16) w A n l) (hn : n ≤ 1000000) :
    Calls Try.prog 19 #[.slice A n c, .func (.func 11) #[] #[]] w fun e w' => IdxEnd l w e w' := by
  have H := Aside0.mk h
  have HLN := Aside0.mk h.1
  clear h
  go_enter Try.func19, Try.ntmps19
  go_wp2_with fail
  go_loop [8] (fun v8 => ∃ i : Nat, v8 = .int .i64 i ∧ Aside0 (i ≤ n ∧ ∀ t, t < i → l.getD t 0 ≤ 256)) (fun v8 => n - (intOf v8).toNat)
  case atStart => exact ⟨0, rfl, ⟨Nat.zero_le _, fun t ht => absurd ht (Nat.not_lt_zero _)⟩⟩
  case round =>
    obtain ⟨i, rfl, HI⟩ := hrel
    by_cases hlt : i < n
    · obtain ⟨ad, e, hx⟩ := at_nat H.out (Below.refl _ _) i hlt
      cases e
      have HX : Aside0 (l.getD i 0 = l.getD i 0) := ⟨rfl⟩
      obtain ⟨x, hxe⟩ : ∃ x, x = l.getD i 0 := ⟨_, rfl⟩
      rw [← hxe] at hx
      have HXE := Aside0.mk hxe
      clear hxe HX
      by_cases hb : 256 < x
      · have hd : decide (256 < x) = true := decide_eq_true hb
        go_wp2_with (first | (go_at_call 11; refine (above_calls x _).mono ?_; rintro e w' ⟨rfl, rfl⟩))
        go_ret
        have hbig : bigB l = true := big_of (by rw [HLN.out]; exact hlt) (by rw [← HXE.out]; exact hb)
        exact ⟨_, rfl, rfl, fun _ => by omega, fun h => by rw [hbig] at h; cases h⟩
      · have hd : decide (256 < x) = false := decide_eq_false hb
        go_wp2_with (first | (go_at_call 11; refine (above_calls x _).mono ?_; rintro e w' ⟨rfl, rfl⟩))
        go_round
        case rel => exact ⟨i + 1, by go_num, ⟨by omega, fun t ht => by
          by_cases e : t = i
          · subst e; rw [← HXE.out]; omega
          · exact HI.out.2 t (by omega)⟩⟩
        case measure => simp [intOf]; omega
    · go_wp2_with fail
      go_ret
      have hnb : bigB l = false := big_not (fun t ht => HI.out.2 t (by have := HLN.out; omega))
      exact ⟨_, rfl, rfl, (fun h => by rw [hnb] at h; cases h), fun _ => rfl⟩
set_option maxRecDepth 100000 in
theorem contains_calls (A : Option Addr) (n c : Nat) (l : List Int) (w : World) (h : Kd.C (Kd.int .u16) w A n l) (hn : n ≤ 1000000) :
    Calls Try.prog 10 #[.slice A n c, .func (.func 11) #[] #[]] w fun e w' => e = .returned (.bool (bigB l)) ∧ w = w' := by
  have H := Aside0.mk h
  clear h
  cases hb : bigB l with
  | true =>
    have HB := Aside0.mk hb
    clear hb
    go_enter Try.func10, Try.ntmps10
    go_wp2_with (first | (go_at_call 19; refine (indexBig_calls A n c l _ H.out hn).mono ?_; rintro e w' ⟨r, rfl, rfl, h1, h2⟩; have h3 := h1 HB.out; have h4 : r ≥ 0 := h3; clear h1 h2))
    go_ret
    exact ⟨rfl, rfl⟩
  | false =>
    have HB := Aside0.mk hb
    clear hb
    go_enter Try.func10, Try.ntmps10
    go_wp2_with (first | (go_at_call 19; refine (indexBig_calls A n c l _ H.out hn).mono ?_; rintro e w' ⟨r, rfl, rfl, h1, h2⟩; have h3 := h2 HB.out; subst h3; clear h1 h2))
    go_ret
    exact ⟨rfl, rfl⟩
section
variable {P : Program} {ops : Array Oper} {rest : List Oper} {o : Oper} {a : Act} {Q : Exit → Act → World → Prop}
/-- append(v, ys...): whole numbers. -/
theorem app_rows {k : IntKind} (t e bytes : Nat) (ht : P.underlying t = some (.slice e)) (hinfo : (P.info? e).map (fun i => (i.zero, i.size, i.bytes)) = some (some (.int k 0), 1, bytes)) (hb0 : 0 < bytes) (hb1 : bytes ≤ 1000)
    {w0 W : World} (hgd : o.guard = none) (s x : Operand) (ho : o.op = .call { callee := .builtin .append, args := #[s, x], argTypes := #[t, t] })
    (v : Value) (xs ys : List Int) (A : Option Addr) (m c : Nat) (hs : a.eval s = v) (hx : a.eval x = .slice A m c)
    (HO : Aside0 ((Kd.int k).R e W w0.heap.size (fun _ => True) v xs)) (HR : Aside0 (Kd.C (Kd.int k) W A m ys)) (HB : Aside0 (Below w0.heap.size w0 W)) (hl : Aside0 (xs.length + m ≤ 100000000))
    (h : ∀ v1 w1, Aside0 ((Kd.int k).R e w1 w0.heap.size (fun _ => True) v1 (xs ++ ys)) → Aside0 (Below w0.heap.size w0 w1) → Aside0 (W.grownBy w1 v.ownBlock) → Aside0 (v1.ownBlock = v.ownBlock ∨ ∃ b, v1.ownBlock = some b ∧ W.heap.size ≤ b) → wpList P ops Q rest (a.put o.dst v1) w1) :
    wpList P ops Q (o :: rest) a W := by
  refine Kd.R_append_rows (Kd.int k) (w0 := w0) w0.heap.size hgd s x t e (.int k 0) bytes ho ht hinfo rfl (show 0 < 1 by omega) hb0 v xs ys A m c (fun _ => True) (fun _ => False) hs hx HO.out HR.out (fun _ _ h => h) (fun _ hk => hk.elim) (fun _ _ => trivial) HB.out HB.out.size ?_ (fun v1 w1 h1 h2 h3 h4 => h v1 w1 ⟨h1⟩ ⟨h2⟩ ⟨h3⟩ ⟨h4⟩)
  have := hl.out
  exact Nat.le_trans (Nat.mul_le_mul this hb1) (by omega)
end
/-- An empty row, just made. -/
theorem own_empty {α : Type} (d : Kd α) (e : Nat) (w : World) (base : Nat) (hb : base ≤ w.heap.size) : d.R e (w.alloc (.cells #[] e)) base (fun _ => True) (.slice (some ⟨w.heap.size, 0, none⟩) 0 0) [] := by
  refine ⟨fun _ _ => trivial, [], ⟨by simp, .inr ⟨w.heap.size, 0, #[], rfl, hb, ?_, Nat.le_refl _, by simp [maxLen], by simp, by simp⟩⟩, ?_⟩
  · simpa using heap_alloc_new w (.cells #[] e)
  · exact Reps.none _ _

set_option maxRecDepth 100000 in
set_option maxHeartbeats 400000 in
theorem clone_u16 (A : Option Addr) (n c : Nat) (d : List Int) (w : World) (h : Kd.C (Kd.int .u16) w A n d) (hn : n ≤ 100000) :
    Calls Try.prog 12 #[.slice A n c] w fun e w' => ∃ v, e = .returned v ∧ Kd.R (Kd.int .u16) 33 w' w.heap.size (fun _ => True) v d ∧ Below w.heap.size w w' := by
  have H := Aside0.mk h
  cases A with
  | none =>
    have hd : d = [] := by
      have h1 := h.1
      have h2 := h.2.2
      by_cases e : 0 < n
      · obtain ⟨ad, e, _⟩ := h2 e
        cases e
      · exact List.eq_nil_of_length_eq_zero (by omega)
    clear h
    have hnil := Lib.run_eql_slice_nil (P := Try.prog) w 23 33 none n c 0 0 Try.underlying23
    have HD := Aside0.mk hd
    clear hd
    go_enter Try.func12, Try.ntmps12
    go_wp2
    go_ret
    exact ⟨_, rfl, by rw [HD.out]; exact Kd.R_nil _ _ _ _ _, Below.refl _ _⟩
  | some ad =>
    clear h
    have hnil := Lib.run_eql_slice_nil (P := Try.prog) w 23 33 (some ad) n c 0 0 Try.underlying23
    have HB := Aside0.mk (below_alloc (Below.refl w.heap.size w) (.cells #[] 33))
    have HC := Aside0.mk (Kd.C_below H.out HB.out)
    have HO := Aside0.mk (own_empty (Kd.int .u16) 33 w w.heap.size (Nat.le_refl _))
    have HL : Aside0 (([] : List Int).length + n ≤ 100000000) := ⟨by simp; omega⟩
    go_enter Try.func12, Try.ntmps12
    go_wp2_with (first | (at_builtin; refine app_rows 23 33 2 Try.underlying23 info33 (by omega) (by omega) rfl _ _ rfl _ _ _ _ _ _ rfl rfl HO HC HB HL ?_; intro v1 w1 HO1 HB1 hg hat; clear hg hat HO HB HC))
    go_ret
    exact ⟨_, rfl, HO1.out, HB1.out⟩
end Go.Proofs.Ytaoiljbbfcpfiaa
