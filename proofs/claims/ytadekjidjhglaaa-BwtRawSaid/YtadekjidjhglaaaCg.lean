/- Walks: Docs, the reference's Docs and Ok of any row, in one form. -/
import Derived.Test.YtadekjidjhglaaaCe
import Derived.Test.YtadekjidjhglaaaLu
set_option linter.unusedVariables false
set_option linter.unusedSimpArgs false
namespace Go.Proofs.Ytadekjidjhglaaa
open Go.RowKit Go.Proofs.YtadekjidjhglaaaW.PrintWords Go.Proofs.YtadekjidjhglaaaW.PrintLast Go.Proofs.YtadekjidjhglaaaW.PrintMore

/-- What a row is: refused by its symbols, by its form, or of documents. -/
def Code (l : List Int) (E : Int) (ds : List (List Int)) : Prop :=
  (E = 1 ∧ ds = [] ∧ (60500 < l.length ∨ bigB l = true)) ∨ (E = 3 ∧ ds = [] ∧ ¬ (60500 < l.length ∨ bigB l = true) ∧ ∀ ds', ¬ IsBwt l ds') ∨ (E = 0 ∧ IsBwt l ds)
theorem code_unique {l : List Int} {E E' : Int} {ds ds' : List (List Int)} (h : Code l E ds) (h' : Code l E' ds') : E = E' ∧ ds = ds' := by
  rcases h with ⟨h1, h2, h3⟩ | ⟨h1, h2, h3, h4⟩ | ⟨h1, h2⟩ <;> rcases h' with ⟨k1, k2, k3⟩ | ⟨k1, k2, k3, k4⟩ | ⟨k1, k2⟩
  · exact ⟨h1.trans k1.symm, h2.trans k2.symm⟩
  · exact absurd h3 k3
  · exact absurd k2 (not_arg h3 _)
  · exact absurd k3 h3
  · exact ⟨h1.trans k1.symm, h2.trans k2.symm⟩
  · exact absurd k2 (h4 _)
  · exact absurd h2 (not_arg k3 _)
  · exact absurd h2 (k4 _)
  · exact ⟨h1.trans k1.symm, isBwt_unique h2 k2⟩
theorem code_bytes {l : List Int} {E : Int} {ds : List (List Int)} (h : Code l E ds) : Sf.Bytes ds ∧ ds.length ≤ 500 := by
  rcases h with ⟨_, rfl, _⟩ | ⟨_, rfl, _, _⟩ | ⟨_, h⟩
  · exact ⟨fun d hd => by simp at hd, by simp⟩
  · exact ⟨fun d hd => by simp at hd, by simp⟩
  · exact ⟨h.fits.b, h.fits.n⟩
def DocsAll (l : List Int) (w : World) (e : Ending) (w' : World) : Prop := Below w.heap.size w w' ∧ ∃ (E : Int) (ds : List (List Int)) (A : Option Addr) (c : Nat), e = .returned (.tuple #[.slice A ds.length c, .int .i64 E]) ∧ ds.length ≤ c ∧ Kd.C (Kd.slice 5 (Kd.int .u8)) w' A ds.length ds ∧ Code l E ds
def RDocsAll (l : List Int) (w : World) (e : Ending) (w' : World) : Prop := Below w.heap.size w w' ∧ ∃ (E : Int) (ds : List (List Int)) (A : Option Addr) (c : Nat), e = .returned (.tuple #[.slice A ds.length c, .int .i64 E]) ∧ ds.length ≤ c ∧ Kd.C Kd.string w' A ds.length (Sf.strsF ds) ∧ Code l E ds
theorem docs_all (A : Option Addr) (n c : Nat) (l : List Int) (w : World) (h : Kd.C (Kd.int .u16) w A n l) (hc : n ≤ c) (hm : n ≤ 1000000) (hl : ∀ x ∈ l, 0 ≤ x) :
    Calls Try.prog 35 #[.slice A n c] w fun e w' => DocsAll l w e w' := by
  have hln : l.length = n := h.1
  by_cases hb : 60500 < n ∨ bigB l = true
  · refine (docs_arg A n c l w h hb hm).mono ?_
    rintro e w' ⟨rfl, rfl⟩
    exact ⟨Below.refl _ _, 1, [], none, 0, rfl, Nat.le_refl _, Kd.C_nil _ _, .inl ⟨rfl, rfl, by rw [hln]; exact hb⟩⟩
  · refine (docs_walk A n c l w h hc (by omega) (by cases h1 : bigB l with | true => exact absurd (.inr h1) hb | false => rfl) hl).mono ?_
    rintro e w' ⟨hB, ⟨rfl, hn⟩ | ⟨ds, A1, rfl, hC, hi⟩⟩
    · exact ⟨hB, 3, [], none, 0, rfl, Nat.le_refl _, Kd.C_nil _ _, .inr (.inl ⟨rfl, rfl, by rw [hln]; exact hb, hn⟩)⟩
    · exact ⟨hB, 0, ds, A1, _, rfl, Nat.le_refl _, hC, .inr (.inr ⟨rfl, hi⟩)⟩
theorem rdocs_all (A : Option Addr) (n c : Nat) (l : List Int) (w : World) (h : Kd.C (Kd.int .u16) w A n l) (hc : n ≤ c) (hm : n ≤ 1000000) (hl : ∀ x ∈ l, 0 ≤ x) :
    Calls Try.prog 43 #[.slice A n c] w fun e w' => RDocsAll l w e w' := by
  have hln : l.length = n := h.1
  by_cases hb : 60500 < n ∨ bigB l = true
  · refine (refDocs_arg A n c l w h hb hl hm).mono ?_
    rintro e w' ⟨rfl, rfl⟩
    exact ⟨Below.refl _ _, 1, [], none, 0, rfl, Nat.le_refl _, Kd.C_nil _ _, .inl ⟨rfl, rfl, by rw [hln]; exact hb⟩⟩
  · refine (refDocs_walk A n c l w h hc (by omega) (by cases h1 : bigB l with | true => exact absurd (.inr h1) hb | false => rfl) hl).mono ?_
    rintro e w' ⟨hB, ⟨rfl, hn⟩ | ⟨ds, A1, c1, rfl, hc1, hC, hi⟩⟩
    · exact ⟨hB, 3, [], none, 0, rfl, Nat.le_refl _, Kd.C_nil _ _, .inr (.inl ⟨rfl, rfl, by rw [hln]; exact hb, hn⟩)⟩
    · exact ⟨hB, 0, ds, A1, _, rfl, hc1, hC, .inr (.inr ⟨rfl, hi⟩)⟩
theorem ok_all (A : Option Addr) (n c : Nat) (l : List Int) (E : Int) (ds : List (List Int)) (w : World) (h : Kd.C (Kd.int .u16) w A n l) (hc : n ≤ c) (hm : n ≤ 1000000) (hl : ∀ x ∈ l, 0 ≤ x) (hcode : Code l E ds) :
    Calls Try.prog 42 #[.slice A n c] w fun e w' => e = .returned (.bool (E == 0)) ∧ Below w.heap.size w w' := by
  refine (okrow_calls A n c l w h hc hm hl).mono ?_
  rintro e w' ⟨hB, ⟨rfl, hn⟩ | ⟨rfl, ds', hi⟩⟩
  · rcases hcode with ⟨rfl, _⟩ | ⟨rfl, _⟩ | ⟨_, h2⟩
    · exact ⟨rfl, hB⟩
    · exact ⟨rfl, hB⟩
    · exact absurd h2 (hn _)
  · obtain ⟨h1, _⟩ := code_unique hcode (.inr (.inr ⟨rfl, hi⟩))
    subst h1
    exact ⟨rfl, hB⟩
end Go.Proofs.Ytadekjidjhglaaa
