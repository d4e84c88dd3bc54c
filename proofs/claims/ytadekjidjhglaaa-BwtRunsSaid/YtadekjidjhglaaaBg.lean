/- Walks: slices.Clone, slices.Clip of bytes; num.Own. -/
import Derived.Test.YtadekjidjhglaaaBa
import Derived.Lib.SlBytesConst
import Derived.Lib.BufferMore
set_option linter.unusedVariables false
set_option linter.unusedSimpArgs false
namespace Go.Proofs.Ytadekjidjhglaaa
open Go.RowKit Go.Proofs.YtadekjidjhglaaaW.PrintWords Go.Proofs.YtadekjidjhglaaaW.PrintLast Go.Proofs.YtadekjidjhglaaaW.PrintMore

section
variable {P : Program} {ops : Array Oper} {rest : List Oper} {o : Oper} {a : Act} {Q : Exit → Act → World → Prop}
/-- append(v, ys...): whole numbers. -/
theorem app_rows {k : IntKind} (t e bytes : Nat) (ht : P.underlying t = some (.slice e)) (hinfo : (P.info? e).map (fun i => (i.zero, i.size, i.bytes)) = some (some (.int k 0), 1, bytes)) (hb0 : 0 < bytes) (hb1 : bytes ≤ 1000)
    {w0 W : World} (hgd : o.guard = none) (s x : Operand) (ho : o.op = .call { callee := .builtin .append, args := #[s, x], argTypes := #[t, t] })
    (v : Value) (xs ys : List Int) (A : Option Addr) (m c : Nat) (hs : a.eval s = v) (hx : a.eval x = .slice A m c)
    (HO : Aside0 ((Kd.int k).R e W w0.heap.size (fun _ => True) v xs)) (HR : Aside0 (Kd.C (Kd.int k) W A m ys)) (HB : Aside0 (Below w0.heap.size w0 W)) (hl : Aside0 (xs.length + m ≤ 100000000))
    (h : ∀ v1 w1, Aside0 ((Kd.int k).R e w1 w0.heap.size (fun _ => True) v1 (xs ++ ys)) → Aside0 (Below w0.heap.size w0 w1) → Aside0 (W.grownBy w1 v.ownBlock) → Aside0 (v1.ownBlock = v.ownBlock ∨ ∃ b, v1.ownBlock = some b ∧ W.heap.size ≤ b) → wpList P ops Q rest (a.put o.dst v1) w1) :
    wpList P ops Q (o :: rest) a W := by
  refine Kd.R_append_rows (Kd.int k) (w0 := w0) w0.heap.size hgd s x t e (.int k 0) bytes ho ht hinfo rfl (show 0 < 1 by omega) hb0 v xs ys A m c (fun _ => True) (fun _ => False) hs hx HO.out HR.out (fun _ _ h => h) (fun _ hk => hk.elim) (fun _ _ => trivial) HB.out HB.out.size ?_ (fun v1 w1 h1 h2 h3 h4 => h v1 w1 ⟨h1⟩ ⟨h2⟩ ⟨h3⟩ ⟨h4⟩)
  have := hl.out
  exact Nat.le_trans (Nat.mul_le_mul this hb1) (by omega)
end
/-- An empty row, just made. -/
theorem own_empty {α : Type} (d : Kd α) (e : Nat) (w : World) (base : Nat) (hb : base ≤ w.heap.size) : d.R e (w.alloc (.cells #[] e)) base (fun _ => True) (.slice (some ⟨w.heap.size, 0, none⟩) 0 0) [] := by
  refine ⟨fun _ _ => trivial, [], ⟨by simp, .inr ⟨w.heap.size, 0, #[], rfl, hb, ?_, Nat.le_refl _, by simp [maxLen], by simp, by simp⟩⟩, ?_⟩
  · simpa using heap_alloc_new w (.cells #[] e)
  · exact Reps.none _ _

set_option maxRecDepth 100000 in
set_option maxHeartbeats 400000 in
theorem clone_u8 (A : Option Addr) (n c : Nat) (d : List Int) (w : World) (h : Kd.C (Kd.int .u8) w A n d) (hn : n ≤ 100000) :
    Calls Try.prog 80 #[.slice A n c] w fun e w' => ∃ v, e = .returned v ∧ Kd.R (Kd.int .u8) 5 w' w.heap.size (fun _ => True) v d ∧ Below w.heap.size w w' := by
  have H := Aside0.mk h
  cases A with
  | none =>
    have hd : d = [] := by
      have h1 := h.1
      have h2 := h.2.2
      by_cases e : 0 < n
      · obtain ⟨ad, e, _⟩ := h2 e
        cases e
      · exact List.eq_nil_of_length_eq_zero (by omega)
    clear h
    have hnil := Lib.run_eql_slice_nil (P := Try.prog) w 23 5 none n c 0 0 Try.underlying23
    have HD := Aside0.mk hd
    clear hd
    go_enter Try.func80, Try.ntmps80
    go_wp2
    go_ret
    exact ⟨_, rfl, by rw [HD.out]; exact Kd.R_nil _ _ _ _ _, Below.refl _ _⟩
  | some ad =>
    clear h
    have hnil := Lib.run_eql_slice_nil (P := Try.prog) w 23 5 (some ad) n c 0 0 Try.underlying23
    have HB := Aside0.mk (below_alloc (Below.refl w.heap.size w) (.cells #[] 5))
    have HC := Aside0.mk (Kd.C_below H.out HB.out)
    have HO := Aside0.mk (own_empty (Kd.int .u8) 5 w w.heap.size (Nat.le_refl _))
    have HL : Aside0 (([] : List Int).length + n ≤ 100000000) := ⟨by simp; omega⟩
    go_enter Try.func80, Try.ntmps80
    go_wp2_with (first | (at_builtin; refine app_rows 23 5 1 Try.underlying23 info5 (by omega) (by omega) rfl _ _ rfl _ _ _ _ _ _ rfl rfl HO HC HB HL ?_; intro v1 w1 HO1 HB1 hg hat; clear hg hat HO HB HC))
    go_ret
    exact ⟨_, rfl, HO1.out, HB1.out⟩
set_option maxRecDepth 100000 in
set_option maxHeartbeats 400000 in
theorem clip_u8 (A : Option Addr) (n c : Nat) (w : World) (hn : n ≤ c) (hc : c ≤ 9223372036854775807) :
    Calls Try.prog 79 #[.slice A n c] w fun e w' => e = .returned (.slice A n n) ∧ w = w' := by
  go_enter Try.func79, Try.ntmps79
  go_wp2_with fail
  go_ret
  exact ⟨rfl, rfl⟩
theorem C_same {k : IntKind} {w w1 : World} {A : Option Addr} {n : Nat} {xs : List Int} (h : (Kd.int k).C w A n xs) (hm : ∀ ad, A = some ad → w1.heap[ad.block]? = w.heap[ad.block]?) : (Kd.int k).C w1 A n xs := by
  refine ⟨h.1, h.2.1, fun hp => ?_⟩
  obtain ⟨ad, e, hc⟩ := h.2.2 hp
  refine ⟨ad, e, fun j p hj => ?_⟩
  obtain ⟨c, h1, h2, h3⟩ := hc j p hj
  refine ⟨c, h1, h2, fun i u hu => ?_⟩
  rw [World.cell?_of_block (w := w) (by rw [add_block]; exact hm ad e)]
  exact h3 i u hu
/-- A slice of whole numbers that lies in a block (of element type e) of the call's own, of whatever capacity. -/
def part (e : Nat) (k : IntKind) : Kd (List Int) where
  sz := 1
  E := [e]
  K := (Kd.slice e (Kd.int k)).K
  M := fun w base ok xs cs => ∃ A c, cs = [.slice A xs.length c] ∧ xs.length ≤ c ∧ (Kd.int k).C w A xs.length xs ∧ ∀ ad, A = some ad → ok ad.block ∧ base ≤ ad.block ∧ ∃ cells, w.heap[ad.block]? = some (.cells cells e (0, 0))
  K_len := (Kd.slice e (Kd.int k)).K_len
  K_one := (Kd.slice e (Kd.int k)).K_one
  K_below := (Kd.slice e (Kd.int k)).K_below
  K_of_M := by
    rintro w base ok x cs ⟨A, c, rfl, hl, hr, _⟩
    exact ⟨A, c, rfl, hl, hr⟩
  M_mono := by
    rintro w base ok ok' x cs hok ⟨A, c, rfl, hl, hr, h⟩
    exact ⟨A, c, rfl, hl, hr, fun ad e => ⟨hok _ (h ad e).1, (h ad e).2⟩⟩
  M_bound := by
    rintro w base ok x cs ⟨A, c, rfl, hl, hr, h⟩
    refine ⟨A, c, rfl, hl, hr, fun ad he => ?_⟩
    obtain ⟨h1, h2, cells, h3⟩ := h ad he
    exact ⟨⟨h1, h2, (Array.getElem?_eq_some_iff.1 h3).1, e, by simp, cells, h3⟩, h2, cells, h3⟩
  M_move := by
    rintro w w1 base ok x cs hm ⟨A, c, rfl, hl, hr, h⟩
    refine ⟨A, c, rfl, hl, C_same hr (fun ad he => hm _ (h ad he).1), fun ad he => ?_⟩
    obtain ⟨h1, h2, cells, h3⟩ := h ad he
    exact ⟨h1, h2, cells, by rw [hm _ h1]; exact h3⟩
  M_lower := by
    rintro w base base' ok x cs hb ⟨A, c, rfl, hl, hr, h⟩
    exact ⟨A, c, rfl, hl, hr, fun ad he => ⟨(h ad he).1, Nat.le_trans hb (h ad he).2.1, (h ad he).2.2⟩⟩
theorem part_C {e : Nat} {k : IntKind} {w : World} {A : Option Addr} {n : Nat} {xs : List (List Int)} (h : (part e k).C w A n xs) : (Kd.slice e (Kd.int k)).C w A n xs := h
theorem part_of_R {e : Nat} {k : IntKind} {w : World} {base : Nat} {A : Option Addr} {n c c' : Nat} {xs : List Int} (h : (Kd.int k).R e w base (fun _ => True) (.slice A n c) xs) (hc : n ≤ c') : (part e k).M w base (fun _ => True) xs [.slice A n c'] := by
  obtain ⟨h1, _, h3⟩ := Kd.R_reads' h
  subst h1
  refine ⟨A, c', rfl, hc, h3, fun ad he => ?_⟩
  subst he
  exact ⟨trivial, Kd.R_base h _ (by simp [Value.ownBlock]), Kd.R_typed h _ (by simp [Value.ownBlock])⟩

theorem own_cap {α : Type} {d : Kd α} {e base n c : Nat} {A : Option Addr} {ok : Nat → Prop} {w : World} {xs : List α} (h : d.R e w base ok (.slice A n c) xs) : c ≤ 9223372036854775807 := by
  obtain ⟨inner, ho⟩ := Kd.R_own h
  rcases ho.2 with ⟨h1, _⟩ | ⟨g, cap, cur, h1, _, _, _, h2, _⟩
  · injection h1 with _ _ h1; omega
  · injection h1 with _ _ h1; simp only [maxLen] at h2; omega

set_option maxRecDepth 100000 in
set_option maxHeartbeats 400000 in
/-- num.Own: the bytes, in memory of the call's own. -/
theorem own_calls (A : Option Addr) (n c : Nat) (d : List Int) (w : World) (h : Kd.C (Kd.int .u8) w A n d) (hn : n ≤ 100000) :
    Calls Try.prog 66 #[.slice A n c] w fun e w' => ∃ A1, e = .returned (.slice A1 n n) ∧ (part 5 .u8).M w' w.heap.size (fun _ => True) d [.slice A1 n n] ∧ Below w.heap.size w w' := by
  have H := Aside0.mk h
  clear h
  go_enter Try.func66, Try.ntmps66
  go_wp2_with fail
  refine (clone_u8 A n c d _ H.out hn).mono ?_
  rintro e w1 ⟨v, rfl, hR, hB⟩
  obtain ⟨A1, c1, rfl, hc, _⟩ := R_is hR H.out.1
  have HM := Aside0.mk (part_of_R hR (Nat.le_refl n))
  have HB := Aside0.mk hB
  have hcm := own_cap hR
  clear hR hB
  go_wp2_with (first | (go_at_call 79; refine (clip_u8 A1 n c1 _ hc hcm).mono ?_; rintro e w' ⟨rfl, rfl⟩))
  go_ret
  exact ⟨A1, rfl, HM.out, HB.out⟩
end Go.Proofs.Ytadekjidjhglaaa
