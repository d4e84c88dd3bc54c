/- Words: documents appended to documents. -/
import Derived.Test.YtadekjidjhglaaaBj
set_option linter.unusedVariables false
set_option linter.unusedSimpArgs false
namespace Go.Proofs.Ytadekjidjhglaaa
open Go.RowKit Go.Proofs.YtadekjidjhglaaaW.PrintWords Go.Proofs.YtadekjidjhglaaaW.PrintLast Go.Proofs.YtadekjidjhglaaaW.PrintMore

theorem heap_docs : Kd.Heap (Kd.slice 5 (Kd.int .u8)) := Kd.heap_slice 5 (Kd.heap_int .u8)
theorem doc_FK {w : World} {A : Option Addr} {n c : Nat} {d : List Int} (h : (Kd.int .u8).C w A n d) (hc : n ≤ c) : Kd.FK (Kd.slice 5 (Kd.int .u8)) w (fun k => k < w.heap.size) d [.slice A n c] := by
  intro W' hW
  have hl := h.1
  subst hl
  exact ⟨A, c, rfl, hc, (Kd.heap_int .u8).C (fun k hk => hW k hk hk) h⟩
section
variable {ops : Array Oper} {rest : List Oper} {o : Oper} {a : Act} {Q : Exit → Act → World → Prop}
/-- append([][]byte{}, l...): the fresh row lies at the world's end. -/
theorem app_docs {w0 W : World} (hgd : o.guard = none) (s x : Operand) (ho : o.op = .call { callee := .builtin .append, args := #[s, x], argTypes := #[22, 22] })
    (v : Value) (xs ys : List (List Int)) (A : Option Addr) (m c : Nat) (B : Nat) (hs : a.eval s = v) (hx : a.eval x = .slice A m c)
    (HO : Aside0 (Kd.N (Kd.slice 5 (Kd.int .u8)) 23 W w0.heap.size (fun _ => True) v xs)) (HR : Aside0 (Kd.F (Kd.slice 5 (Kd.int .u8)) W (fun k => k < B) A m ys)) (hv : Aside0 (∀ k, v.ownBlock = some k → B ≤ k)) (HB : Aside0 (Below w0.heap.size w0 W)) (hl : Aside0 (xs.length + m ≤ 100000000))
    (h : ∀ v1 w1, Aside0 (Kd.N (Kd.slice 5 (Kd.int .u8)) 23 w1 w0.heap.size (fun _ => True) v1 (xs ++ ys)) → Aside0 (Below w0.heap.size w0 w1) → Aside0 (W.grownBy w1 v.ownBlock) → Aside0 (v1.ownBlock = v.ownBlock ∨ ∃ b, v1.ownBlock = some b ∧ W.heap.size ≤ b) → wpList Try.prog ops Q rest (a.put o.dst v1) w1) :
    wpList Try.prog ops Q (o :: rest) a W := by
  refine Kd.N_append_rows (Kd.slice 5 (Kd.int .u8)) (w0 := w0) w0.heap.size hgd s x 22 23 (.slice none 0 0) 24 ho Try.underlying22 info23 rfl (show 0 < 1 by omega) (by omega) v xs ys A m c (fun _ => True) (fun k => k < B) hs hx HO.out HR.out (fun k hk => ⟨trivial, fun e => by have := hv.out k e.symm; omega⟩) (fun _ _ => trivial) HB.out HB.out.size ?_ (fun v1 w1 h1 h2 h3 h4 => h v1 w1 ⟨h1⟩ ⟨h2⟩ ⟨h3⟩ ⟨h4⟩)
  have := hl.out
  omega
/-- append(v, d). -/
theorem app_doc {w0 W : World} (hgd : o.guard = none) (s x : Operand) (ho : o.op = .call { callee := .builtin .append, args := #[s, x], argTypes := #[22, 22] })
    (v : Value) (xs : List (List Int)) (d : List Int) (A : Option Addr) (n c : Nat) (B : Nat) (hs : a.eval s = v) (hx : a.eval x = .slice (some ⟨W.heap.size, 0, none⟩) 1 1)
    (HO : Aside0 (Kd.N (Kd.slice 5 (Kd.int .u8)) 23 W w0.heap.size (fun _ => True) v xs)) (HF : Aside0 (Kd.FK (Kd.slice 5 (Kd.int .u8)) W (fun k => k < B) d [.slice A n c])) (hv : Aside0 (∀ k, v.ownBlock = some k → B ≤ k)) (HB : Aside0 (Below w0.heap.size w0 W)) (hl : Aside0 (xs.length ≤ 100000000))
    (h : ∀ v1 w1, Aside0 (Kd.N (Kd.slice 5 (Kd.int .u8)) 23 w1 w0.heap.size (fun _ => True) v1 (xs ++ [d])) → Aside0 (Below w0.heap.size w0 w1) → Aside0 (W.grownBy w1 v.ownBlock) → Aside0 (v1.ownBlock = v.ownBlock ∨ ∃ b, v1.ownBlock = some b ∧ W.heap.size ≤ b) → wpList Try.prog ops Q rest (a.put o.dst v1) w1) :
    wpList Try.prog ops Q (o :: rest) a (W.alloc (.cells #[.slice A n c] 23)) := by
  refine Kd.N_append (Kd.slice 5 (Kd.int .u8)) (w0 := w0) w0.heap.size hgd s x 22 23 (.slice none 0 0) 24 ho Try.underlying22 info23 rfl (show 0 < 1 by omega) (by omega) v xs d [.slice A n c] (fun _ => True) (fun k => k < B) hs hx HF.out (fun k hk => ⟨trivial, fun e => by have := hv.out k e.symm; omega⟩) (fun _ _ => trivial) HO.out HB.out HB.out.size ?_ (fun v1 w1 h1 h2 h3 h4 => h v1 w1 ⟨h1⟩ ⟨h2⟩ ⟨h3⟩ ⟨h4⟩)
  have := hl.out
  omega
end
theorem N_is {α : Type} {d : Kd α} {e base n : Nat} {ok : Nat → Prop} {w : World} {v : Value} {xs : List α} (h : Kd.N d e w base ok v xs) (hl : xs.length = n) : ∃ A c, v = .slice A n c ∧ n ≤ c ∧ d.C w A n xs := by
  obtain ⟨A, c, h1, h2, h3⟩ := Kd.N_reads h
  rw [hl] at h1 h2 h3
  exact ⟨A, c, h1, h2, h3⟩
end Go.Proofs.Ytadekjidjhglaaa
