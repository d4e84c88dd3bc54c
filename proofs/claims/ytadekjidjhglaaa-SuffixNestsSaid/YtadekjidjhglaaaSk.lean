/- Plain: a text and a byte more. -/
import Derived.Test.YtadekjidjhglaaaSi
set_option linter.unusedVariables false
set_option linter.unusedSimpArgs false
namespace Go.Proofs.Ytadekjidjhglaaa.Sf
theorem gt_cons (a b : Int) (x p : List Int) : gtF (a :: x) (b :: p) ↔ b < a ∨ (b = a ∧ gtF x p) := by
  unfold gtF
  simp only [List.length_cons, List.take_succ_cons, ll_cons]
theorem gt_nil_left (p : List Int) : ¬ gtF [] p := by unfold gtF; simp
theorem gt_nil_right (x : List Int) : ¬ gtF x [] := by unfold gtF; simp
theorem gt_more : ∀ (p x : List Int) (c : Int), gtF x p → gtF x (p ++ [c])
  | [], x, c, h => absurd h (gt_nil_right x)
  | b :: p, [], c, h => absurd h (gt_nil_left _)
  | b :: p, a :: x, c, h => by
    rw [gt_cons] at h
    rw [List.cons_append, gt_cons]
    rcases h with h | ⟨h, h2⟩
    · exact .inl h
    · exact .inr ⟨h, gt_more p x c h2⟩
theorem less_zero : ∀ (p x : List Int), (∀ c ∈ x, 0 ≤ c) → ll x (p ++ [0]) → ¬ ll x p → x = p
  | [], [], _, _, _ => rfl
  | [], a :: x, hx, h, _ => by
    have := hx a (List.mem_cons_self ..)
    simp at h
    omega
  | b :: p, [], _, _, h2 => absurd (by simp) h2
  | b :: p, a :: x, hx, h, h2 => by
    rw [List.cons_append, ll_cons] at h
    rw [ll_cons] at h2
    rcases h with h | ⟨h, h'⟩
    · exact absurd (.inl h) h2
    · rw [h, less_zero p x (fun c hc => hx c (List.mem_cons_of_mem _ hc)) h' (fun g => h2 (.inr ⟨h, g⟩))]
theorem gt_next : ∀ (p x : List Int) (c : Int), gtF x (p ++ [c]) ↔ ¬ ll x (p ++ [c + 1])
  | [], [], c => by
    constructor
    · exact fun h => absurd h (gt_nil_left _)
    · intro h; exact absurd (by simp) h
  | [], a :: x, c => by
    show gtF (a :: x) [c] ↔ ¬ ll (a :: x) [c + 1]
    rw [gt_cons, ll_cons]
    have := gt_nil_right x
    have h2 := ll_nil_right x
    constructor
    · rintro (h | ⟨_, h⟩)
      · rintro (g | ⟨_, g⟩)
        · omega
        · exact h2 g
      · exact absurd h this
    · intro h
      left
      have : ¬ a < c + 1 := fun g => h (.inl g)
      omega
  | b :: p, [], c => by
    constructor
    · exact fun h => absurd h (gt_nil_left _)
    · intro h; exact absurd (by simp) h
  | b :: p, a :: x, c => by
    have ih := gt_next p x c
    rw [List.cons_append, List.cons_append, gt_cons, ll_cons, ih]
    constructor
    · rintro (h | ⟨h, h'⟩)
      · rintro (g | ⟨g, _⟩) <;> omega
      · rintro (g | ⟨_, g⟩)
        · omega
        · exact h' g
    · intro h
      by_cases e : b = a
      · exact .inr ⟨e, fun g => h (.inr ⟨e.symm, g⟩)⟩
      · left
        have : ¬ a < b := fun g => h (.inl g)
        omega
theorem gt_last : ∀ (p x : List Int), (∀ c ∈ x, c ≤ 255) → (gtF x (p ++ [255]) ↔ gtF x p)
  | [], [], _ => by
    constructor
    · exact fun h => absurd h (gt_nil_left _)
    · exact fun h => absurd h (gt_nil_left _)
  | [], a :: x, hx => by
    have := hx a (List.mem_cons_self ..)
    show gtF (a :: x) [255] ↔ gtF (a :: x) []
    rw [gt_cons]
    constructor
    · rintro (h | ⟨_, h⟩)
      · omega
      · exact absurd h (gt_nil_right _)
    · exact fun h => absurd h (gt_nil_right _)
  | b :: p, [], _ => by
    constructor
    · exact fun h => absurd h (gt_nil_left _)
    · exact fun h => absurd h (gt_nil_left _)
  | b :: p, a :: x, hx => by
    rw [List.cons_append, gt_cons, gt_cons, gt_last p x (fun c hc => hx c (List.mem_cons_of_mem _ hc))]

/-- What the rows are parted by: a text and each byte more, and what is behind all of them. -/
def cutP (ds : List (List Int)) (r : List (Nat × Nat)) (p : List Int) (c : Nat) (i : Nat) : Prop := if c < 256 then ¬ ll (sufF ds r i) (p ++ [(c : Int)]) else gtF (sufF ds r i) p
theorem suf_byte {ds : List (List Int)} (hb : Bytes ds) (r : List (Nat × Nat)) (i : Nat) : Byte1 (sufF ds r i) := byte1_drop (byte1_doc hb _) _
theorem cut_next {ds : List (List Int)} (hb : Bytes ds) {r : List (Nat × Nat)} {p : List Int} {c i : Nat} (hc : c < 256) : gtF (sufF ds r i) (p ++ [(c : Int)]) ↔ cutP ds r p (c + 1) i := by
  unfold cutP
  by_cases h : c + 1 < 256
  · rw [if_pos h, gt_next]
    simp
  · have : c = 255 := by omega
    subst this
    rw [if_neg (by omega)]
    exact gt_last p _ (fun x hx => (suf_byte hb r i x hx).2)
theorem cut_gt {ds : List (List Int)} (hb : Bytes ds) {r : List (Nat × Nat)} {p : List Int} {c i : Nat} (h : gtF (sufF ds r i) p) : cutP ds r p c i := by
  unfold cutP
  by_cases hc : c < 256
  · rw [if_pos hc]
    exact gt_not (gt_more p _ _ h)
  · rw [if_neg hc]
    exact h
theorem cut_lo {ds : List (List Int)} {r : List (Nat × Nat)} {p : List Int} {i : Nat} (h : cutP ds r p 0 i) : ¬ ll (sufF ds r i) p := by
  unfold cutP at h
  rw [if_pos (by omega)] at h
  exact fun g => h (ll_append_right g)
/-- Ahead of the first byte more stand the places where the text ends a document. -/
theorem cut_whole {ds : List (List Int)} (hb : Bytes ds) {r : List (Nat × Nat)} {p : List Int} {i : Nat} (h1 : ¬ ll (sufF ds r i) p) (h2 : ¬ gtF (sufF ds r i) p) : ¬ cutP ds r p 0 i ↔ (sufF ds r i).length = p.length := by
  have hpre := (pre_iff (sufF ds r i) p).2 ⟨h1, h2⟩
  unfold cutP
  rw [if_pos (by omega), Classical.not_not]
  constructor
  · intro h
    rw [less_zero p _ (fun c hc => (suf_byte hb r i c hc).1) h h1]
  · intro h
    rw [List.take_of_length_le (by omega)] at hpre
    rw [hpre]
    have : ∀ q : List Int, ll q (q ++ [0]) := by
      intro q
      induction q with
      | nil => simp
      | cons a q ih => simp [ih]
    exact this p
end Go.Proofs.Ytadekjidjhglaaa.Sf
