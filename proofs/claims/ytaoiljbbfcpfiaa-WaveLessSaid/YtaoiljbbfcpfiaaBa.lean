/- Base words of this seat's walks: a Text in memory, and small lemmas. -/
import Derived.Test.YtaoiljbbfcpfiaaProg
import Derived.Below
import Derived.Deep.Draws
import Derived.Deep.AppendLies
import Derived.Maps.AppendAt
import Derived.OwnWalk
import Derived.Laws.BytesArg
import Derived.Laws.MakeOwn
import Derived.Laws.OwnMore
import Derived.Deep.OwnRows
import Derived.Tactics
import Derived.Lib.ConvBytes
import Derived.Laws.Slices
import Derived.WalkKit
import Derived.KernelRfl
import Derived.RowKit3
import Derived.Deep.LoopGhost
import Derived.Deep.QuietTactic
import Derived.BigQuiet
import Derived.WideLaws
import Derived.Deep.DeepCutAuto
import Derived.Deep.CutBlock
import Derived.Deep.RegionHeld3
import Derived.Laws.Rows
import Derived.Lib.AppendStr
import Derived.ArgAppend
import Derived.Laws.IdiomCopy
import Derived.OrdersHeld
import Derived.Laws.BitsLemmas
import Derived.RowKit
import Derived.Deep.DeepMust
import Derived.WalkSpells
import Derived.WalkLawsBesides
import Derived.Outline
import Derived.Test.YtaoiljbbfcpfiaaWMore
import Derived.Test.YtaoiljbbfcpfiaaWLast
import Derived.Test.YtaoiljbbfcpfiaaWGuard
import Derived.Test.YtaoiljbbfcpfiaaSf
set_option linter.unusedVariables false
set_option linter.unusedSimpArgs false
namespace Go.Proofs.Ytaoiljbbfcpfiaa
open Go.RowKit Go.Proofs.YtaoiljbbfcpfiaaW.PrintWords Go.Proofs.YtaoiljbbfcpfiaaW.PrintLast Go.Proofs.YtaoiljbbfcpfiaaW.PrintMore

theorem info3 : (Try.prog.info? 3).map (fun i => (i.zero, i.size, i.bytes)) = some (some (.int .i64 0), 1, 8) := by kernel_rfl

theorem info33 : (Try.prog.info? 33).map (fun i => (i.zero, i.size, i.bytes)) = some (some (.int .u16 0), 1, 2) := by kernel_rfl
theorem info5 : (Try.prog.info? 5).map (fun i => (i.zero, i.size, i.bytes)) = some (some (.int .u8 0), 1, 1) := by kernel_rfl
theorem info4 : (Try.prog.info? 4).map (fun i => (i.zero, i.size, i.bytes)) = some (some (.bool false), 1, 1) := by kernel_rfl
theorem info9 : (Try.prog.info? 9).map (fun i => (i.zero, i.size, i.bytes)) = some (some (.string ⟨#[]⟩), 1, 16) := by kernel_rfl
theorem info23 : (Try.prog.info? 23).map (fun i => (i.zero, i.size, i.bytes)) = some (some (.slice none 0 0), 1, 24) := by kernel_rfl

/-- For looking: a goal that the walk lets stand. -/
theorem hold {p : Prop} (h : Hid p) : p := h

section
variable {P : Program} {ops : Array Oper} {rest : List Oper} {o : Oper} {a : Act} {Q : Exit → Act → World → Prop}
/-- append(v, y): a row of the call's own, a bound at hand. -/
theorem app1 {α : Type} (d : Kd α) (t e : TypeId) (z : Value) (bytes : Nat) (ht : P.underlying t = some (.slice e)) (hinfo : (P.info? e).map (fun i => (i.zero, i.size, i.bytes)) = some (some z, d.sz, bytes)) (hz : z.cells.size = d.sz) (hs0 : 0 < d.sz) (hb0 : 0 < bytes) (hb1 : bytes ≤ 1000)
    {w0 W : World} {base : Nat} (hgd : o.guard = none) (s x : Operand) (ho : o.op = .call { callee := .builtin .append, args := #[s, x], argTypes := #[t, t] })
    (v : Value) (xs : List α) (p : α) (cs : List Value) (hs : a.eval s = v) (hx : a.eval x = .slice (some ⟨W.heap.size, 0, none⟩) 1 1) (hp : d.M W base (fun _ => False) p cs)
    (HO : Aside0 (d.R e W base (fun _ => True) v xs)) (HB : Aside0 (Below base w0 W)) (hbase : Aside0 (base ≤ W.heap.size)) (hl : Aside0 (xs.length ≤ 100000000))
    (h : ∀ v1 w1, Aside0 (d.R e w1 base (fun _ => True) v1 (xs ++ [p])) → Aside0 (Below base w0 w1) → Aside0 (W.grownBy w1 v.ownBlock) → Aside0 (v1.ownBlock = v.ownBlock ∨ ∃ b, v1.ownBlock = some b ∧ W.heap.size ≤ b) → wpList P ops Q rest (a.put o.dst v1) w1) :
    wpList P ops Q (o :: rest) a (W.alloc (.cells cs.toArray e)) := by
  refine Kd.R_append d (w0 := w0) base hgd s x t e z bytes ho ht hinfo hz hs0 hb0 v xs p cs (fun _ => True) (fun _ => False) hs hx hp (fun _ hk => hk.elim) (fun _ _ => trivial) HO.out HB.out hbase.out ?_ (fun v1 w1 h1 h2 h3 h4 => h v1 w1 ⟨h1⟩ ⟨h2⟩ ⟨h3⟩ ⟨h4⟩)
  have := hl.out
  exact Nat.le_trans (Nat.mul_le_mul (Nat.succ_le_succ this) hb1) (by omega)
end
section
variable {ops : Array Oper} {rest : List Oper} {o : Oper} {a : Act} {Q : Exit → Act → World → Prop}
theorem app_i64 {w0 W : World} (hgd : o.guard = none) (s x : Operand) (ho : o.op = .call { callee := .builtin .append, args := #[s, x], argTypes := #[52, 52] })
    (v : Value) (xs : List Int) (y : Int) (hs : a.eval s = v) (hx : a.eval x = .slice (some ⟨W.heap.size, 0, none⟩) 1 1)
    (HO : Aside0 ((Kd.int .i64).R 3 W w0.heap.size (fun _ => True) v xs)) (HB : Aside0 (Below w0.heap.size w0 W)) (hl : Aside0 (xs.length ≤ 100000000))
    (h : ∀ v1 w1, Aside0 ((Kd.int .i64).R 3 w1 w0.heap.size (fun _ => True) v1 (xs ++ [y])) → Aside0 (Below w0.heap.size w0 w1) → Aside0 (W.grownBy w1 v.ownBlock) → Aside0 (v1.ownBlock = v.ownBlock ∨ ∃ b, v1.ownBlock = some b ∧ W.heap.size ≤ b) → wpList Try.prog ops Q rest (a.put o.dst v1) w1) :
    wpList Try.prog ops Q (o :: rest) a (W.alloc (.cells #[.int .i64 y] 3)) :=
  app1 (Kd.int .i64) 52 3 (.int .i64 0) 8 Try.underlying52 info3 rfl (by decide) (by omega) (by omega) hgd s x ho v xs y [.int .i64 y] hs hx rfl HO HB ⟨HB.out.size⟩ hl h
theorem app_u16 {w0 W : World} (hgd : o.guard = none) (s x : Operand) (ho : o.op = .call { callee := .builtin .append, args := #[s, x], argTypes := #[23, 23] })
    (v : Value) (xs : List Int) (y : Int) (hs : a.eval s = v) (hx : a.eval x = .slice (some ⟨W.heap.size, 0, none⟩) 1 1)
    (HO : Aside0 ((Kd.int .u16).R 33 W w0.heap.size (fun _ => True) v xs)) (HB : Aside0 (Below w0.heap.size w0 W)) (hl : Aside0 (xs.length ≤ 100000000))
    (h : ∀ v1 w1, Aside0 ((Kd.int .u16).R 33 w1 w0.heap.size (fun _ => True) v1 (xs ++ [y])) → Aside0 (Below w0.heap.size w0 w1) → Aside0 (W.grownBy w1 v.ownBlock) → Aside0 (v1.ownBlock = v.ownBlock ∨ ∃ b, v1.ownBlock = some b ∧ W.heap.size ≤ b) → wpList Try.prog ops Q rest (a.put o.dst v1) w1) :
    wpList Try.prog ops Q (o :: rest) a (W.alloc (.cells #[.int .u16 y] 33)) :=
  app1 (Kd.int .u16) 23 33 (.int .u16 0) 2 Try.underlying23 info33 rfl (by decide) (by omega) (by omega) hgd s x ho v xs y [.int .u16 y] hs hx rfl HO HB ⟨HB.out.size⟩ hl h
theorem app_u8 {w0 W : World} (hgd : o.guard = none) (s x : Operand) (ho : o.op = .call { callee := .builtin .append, args := #[s, x], argTypes := #[22, 22] })
    (v : Value) (xs : List Int) (y : Int) (hs : a.eval s = v) (hx : a.eval x = .slice (some ⟨W.heap.size, 0, none⟩) 1 1)
    (HO : Aside0 ((Kd.int .u8).R 5 W w0.heap.size (fun _ => True) v xs)) (HB : Aside0 (Below w0.heap.size w0 W)) (hl : Aside0 (xs.length ≤ 100000000))
    (h : ∀ v1 w1, Aside0 ((Kd.int .u8).R 5 w1 w0.heap.size (fun _ => True) v1 (xs ++ [y])) → Aside0 (Below w0.heap.size w0 w1) → Aside0 (W.grownBy w1 v.ownBlock) → Aside0 (v1.ownBlock = v.ownBlock ∨ ∃ b, v1.ownBlock = some b ∧ W.heap.size ≤ b) → wpList Try.prog ops Q rest (a.put o.dst v1) w1) :
    wpList Try.prog ops Q (o :: rest) a (W.alloc (.cells #[.int .u8 y] 5)) :=
  app1 (Kd.int .u8) 22 5 (.int .u8 0) 1 Try.underlying22 info5 rfl (by decide) (by omega) (by omega) hgd s x ho v xs y [.int .u8 y] hs hx rfl HO HB ⟨HB.out.size⟩ hl h
end

section
variable {P : Program} {ops : Array Oper} {rest : List Oper} {o : Oper} {a : Act} {Q : Exit → Act → World → Prop}
/-- A store of a whole number into a row of the call's own. -/
theorem put_int {k : IntKind} {e : Nat} {w0 W : World} (t : TypeId) (hsz : ∀ W, Sem.run P (sizeOf t) W = .ok 1 W) (p : Tmp) (y : Operand) (hgd : o.guard = none) (ho : o.op = .store t (.tmp p) y) (hN : o.dst = none)
    {g n cap i : Nat} {x : Int} {xs : List Int} (hp : a.eval (.tmp p) = .pointer (some ⟨g, i, none⟩)) (hy : a.eval y = .int k x) 
    (HO : Aside0 ((Kd.int k).R e W w0.heap.size (fun _ => True) (.slice (some ⟨g, 0, none⟩) n cap) xs)) (HB : Aside0 (Below w0.heap.size w0 W)) (hi : i < n)
    (h : ∀ w1, Aside0 ((Kd.int k).R e w1 w0.heap.size (fun _ => True) (.slice (some ⟨g, 0, none⟩) n cap) (xs.set i x)) → Aside0 (Below w0.heap.size w0 w1) → Aside0 (W.grownBy w1 (some g)) → wpList P ops Q rest a w1) :
    wpList P ops Q (o :: rest) a W := by
  obtain ⟨hc, hf⟩ := Kd.R_celln 0 HO.out (i : Int) (by omega) (by omega)
  obtain ⟨h1, h2⟩ := Kd.R_putg HO.out (i : Int) x
  rw [Int.toNat_natCast] at hc hf h1 h2
  have hb := Kd.R_base HO.out g (by simp [Value.ownBlock])
  refine store_event (t := t) (p := p) (v := y) (w1 := W.setCell ⟨g, i, none⟩ (.int k x)) hgd ho hN ?_ ?_
  · unfold execOp
    rw [ho]
    simp only [hp, hy]
    go_simp
  · rintro w' rfl
    exact h _ ⟨h1⟩ ⟨below_set HB.out hb⟩ ⟨h2⟩
end

theorem size3 : ∀ W, Sem.run Try.prog (sizeOf 3) W = .ok 1 W := fun W => by kernel_rfl
theorem size33 : ∀ W, Sem.run Try.prog (sizeOf 33) W = .ok 1 W := fun W => by kernel_rfl
theorem size5 : ∀ W, Sem.run Try.prog (sizeOf 5) W = .ok 1 W := fun W => by kernel_rfl
theorem size4 : ∀ W, Sem.run Try.prog (sizeOf 4) W = .ok 1 W := fun W => by kernel_rfl

/-- A row that has a block: its shape. -/
theorem own_some {α : Type} {d : Kd α} {e base b : Nat} {ok : Nat → Prop} {w : World} {v : Value} {xs : List α} (h : d.R e w base ok v xs) (hb : v.ownBlock = some b) : ∃ cap, v = .slice (some ⟨b, 0, none⟩) xs.length cap := by
  obtain ⟨inner, ho⟩ := Kd.R_own h
  rcases ho.2 with ⟨rfl, _⟩ | ⟨g, cap, cur, rfl, _⟩
  · simp [Value.ownBlock] at hb
  · have : g = b := by simpa [Value.ownBlock] using hb
    subst this
    exact ⟨cap, rfl⟩
section
variable {P : Program} {ops : Array Oper} {rest : List Oper} {o : Oper} {a : Act} {Q : Exit → Act → World → Prop}
/-- make([]T, n): whole numbers. -/
theorem mk_int {k : IntKind} (t e bytes : Nat) (ht : P.underlying t = some (.slice e)) (hinfo : (P.info? e).map (fun i => (i.zero, i.size, i.bytes)) = some (some (.int k 0), 1, bytes)) (hb0 : 0 < bytes) (hb1 : bytes ≤ 1000)
    {w0 W : World} (hgd : o.guard = none) {N : Tmp} (hd : o.dst = some N) (x y : Operand) (ho : o.op = .makeSlice t x y) (n : Nat) (hx : a.eval x = .int .i64 n) (hy : a.eval y = .int .i64 n)
    (HB : Aside0 (Below w0.heap.size w0 W)) (hl : Aside0 (n ≤ 100000000))
    (h : ∀ g cap w1, Aside0 ((Kd.int k).R e w1 w0.heap.size (fun _ => True) (.slice (some ⟨g, 0, none⟩) n cap) (List.replicate n 0)) → Aside0 (Below w0.heap.size w0 w1) → Aside0 (W.grownBy w1 none) → Aside0 (W.heap.size ≤ g) → wpList P ops Q rest (a.put o.dst (.slice (some ⟨g, 0, none⟩) n cap)) w1) :
    wpList P ops Q (o :: rest) a W := by
  refine Kd.R_make (Kd.int k) (w0 := w0) w0.heap.size e hgd hd t x y ho n hx hy ht (.int k 0) bytes hinfo rfl (show 0 < 1 by omega) hb0 0 (ok := fun _ => True) (okp := fun _ => True) rfl (fun _ _ => trivial) trivial (by omega) ?_ HB.out HB.out.size ?_
  · have := hl.out
    rw [Int.toNat_natCast]
    exact Nat.le_trans (Nat.mul_le_mul this hb1) (by omega)
  · rintro v1 w1 h1 h2 h3 ⟨b, h4, h5⟩
    rw [Int.toNat_natCast] at h1
    obtain ⟨cap, rfl⟩ := own_some h1 h4
    rw [List.length_replicate] at h1 h4 ⊢
    exact h b cap w1 ⟨h1⟩ ⟨h2⟩ ⟨h3⟩ ⟨h5⟩
end
section
variable {P : Program} {ops : Array Oper} {rest : List Oper} {o : Oper} {a : Act} {Q : Exit → Act → World → Prop}
/-- make([]T, 0, n): whole numbers. -/
theorem mk_cap {k : IntKind} (t e bytes : Nat) (ht : P.underlying t = some (.slice e)) (hinfo : (P.info? e).map (fun i => (i.zero, i.size, i.bytes)) = some (some (.int k 0), 1, bytes)) (hb0 : 0 < bytes) (hb1 : bytes ≤ 1000)
    {w0 W : World} (hgd : o.guard = none) (x y : Operand) (ho : o.op = .makeSlice t x y) (n : Nat) (hx : a.eval x = .int .i64 0) (hy : a.eval y = .int .i64 n)
    (HB : Aside0 (Below w0.heap.size w0 W)) (hl : Aside0 (n ≤ 100000000))
    (h : ∀ v1 w1, Aside0 ((Kd.int k).R e w1 w0.heap.size (fun _ => True) v1 []) → Aside0 (Below w0.heap.size w0 w1) → Aside0 (W.grownBy w1 none) → wpList P ops Q rest (a.put o.dst v1) w1) :
    wpList P ops Q (o :: rest) a W := by
  obtain ⟨i, hi, hz0, hz1, hz2⟩ := info_parts hinfo
  refine wpList_make_own W hgd x y t ho w0.heap.size e i (.int k 0) 1 ht hi hz0 hz1 .i64 .i64 n n hx hy rfl ?_ ?_ HB.out.size ?_
  · have := hl.out
    rw [hz2]
    exact Nat.le_trans (Nat.mul_le_mul hb1 this) (by omega)
  · have := hl.out
    simp only [maxLen]; omega
  · intro w1 h1 h2
    refine h _ w1 ⟨Kd.R_of_own (enc := Value.int k) (h1 := fun _ => rfl) (xs := []) h1 (fun _ _ => trivial)⟩ ⟨HB.out.grown h2 HB.out.size (by simp)⟩ ⟨h2⟩
end
/-- Another row of the call's own has been written. -/
theorem other_int {k : IntKind} {e base g : Nat} {w w1 : World} {row : Option Nat} {n cap : Nat} {xs : List Int} (h : Aside0 ((Kd.int k).R e w base (fun _ => True) (.slice (some ⟨g, 0, none⟩) n cap) xs)) (hg : Aside0 (w.grownBy w1 row)) (hne : row ≠ some g) :
    Aside0 ((Kd.int k).R e w1 base (fun _ => True) (.slice (some ⟨g, 0, none⟩) n cap) xs) := ⟨Kd.R_grown1 h.out rfl hg.out (by simpa [Value.ownBlock] using hne)⟩
theorem lt_own {k : IntKind} {e base g : Nat} {w : World} {n cap : Nat} {xs : List Int} (h : Aside0 ((Kd.int k).R e w base (fun _ => True) (.slice (some ⟨g, 0, none⟩) n cap) xs)) : g < w.heap.size := Kd.R_lt h.out g (by simp [Value.ownBlock])
/-- The j-th of a row of the call's own. -/
theorem own_nat {k : IntKind} {e base : Nat} {w : World} {g n cap : Nat} {xs : List Int} (h : Aside0 ((Kd.int k).R e w base (fun _ => True) (.slice (some ⟨g, 0, none⟩) n cap) xs)) (j : Nat) (hj : j < n) :
    w.cell? ⟨g, j, none⟩ = some (.int k (xs.getD j 0)) := by
  have := (Kd.R_celln 0 h.out (j : Int) (by omega) (by omega)).1
  rw [Int.toNat_natCast] at this
  rw [this]; simp [rdOf]

/-- The j-th of a row of whole numbers that came in, in a later world. -/
theorem at_nat {k : IntKind} {xs : List Int} {w w1 : World} {A : Option Addr} {n : Nat} (h : (Kd.int k).C w A n xs) (hb : Below w.heap.size w w1) (j : Nat) (hj : j < n) :
    ∃ ad, A = some ad ∧ w1.cell? (ad.add j) = some (.int k (xs.getD j 0)) := by
  obtain ⟨ad, e, hx⟩ := Kd.at_int h (j : Int) (by omega) (by omega)
  rw [Int.toNat_natCast] at hx
  exact ⟨ad, e, by rw [pw_cell_below hb hx]; simp [rd]⟩

theorem cell_grown {w w1 : World} {row : Option Nat} {p : Addr} {v : Value} (h : w.cell? p = some v) (hg : w.grownBy w1 row) (hne : row ≠ some p.block) : w1.cell? p = some v :=
  (World.cell?_of_block (w := w) (hg.block p.block (World.block_lt_of_cell? w p h) (fun e => hne e.symm))).trans h
theorem below_grown {w w1 : World} (hg : w.grownBy w1 none) : Below w.heap.size w w1 := ⟨hg.os, hg.tape, hg.output, hg.size, fun k hk => hg.block k hk (by simp)⟩

/-- A row of the call's own, as a slice that reads. -/
theorem R_is {α : Type} {d : Kd α} {e base n : Nat} {ok : Nat → Prop} {w : World} {v : Value} {xs : List α} (h : d.R e w base ok v xs) (hl : xs.length = n) : ∃ A c, v = .slice A n c ∧ n ≤ c ∧ d.C w A n xs := by
  obtain ⟨A, c, h1, h2, h3⟩ := Kd.R_reads h
  rw [hl] at h1 h2 h3
  exact ⟨A, c, h1, h2, h3⟩

theorem own_C {α : Type} {d : Kd α} {e base n c : Nat} {A : Option Addr} {ok : Nat → Prop} {w : World} {xs : List α} (h : d.R e w base ok (.slice A n c) xs) : d.C w A n xs := by
  obtain ⟨rfl, _, h3⟩ := Kd.R_reads' h
  exact h3
/-- What is made later is of the call's own, too. -/
theorem R_low {α : Type} {d : Kd α} {e : Nat} {ok : Nat → Prop} {w w1 w2 : World} {v : Value} {xs : List α} (h : d.R e w2 w1.heap.size ok v xs) (hb : Below w.heap.size w w1) : d.R e w2 w.heap.size ok v xs := Kd.R_lower h hb.size

end Go.Proofs.Ytaoiljbbfcpfiaa
