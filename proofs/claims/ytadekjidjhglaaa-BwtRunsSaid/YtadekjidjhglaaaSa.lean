/- Plain lemmas: orders, prefix doubling, documents as one row. -/
import Init
/- Plain lemmas: lexicographic order on lists of integers; sorted permutations are unique. -/
namespace Go.Proofs.Ytadekjidjhglaaa.Sf

def ll : List Int → List Int → Prop
  | _, [] => False
  | [], _ :: _ => True
  | a :: x, b :: y => a < b ∨ (a = b ∧ ll x y)

instance ll_dec : (x y : List Int) → Decidable (ll x y)
  | [], [] => isFalse (by simp [ll])
  | _ :: _, [] => isFalse (by simp [ll])
  | [], _ :: _ => isTrue (by simp [ll])
  | a :: x, b :: y => by
    have := ll_dec x y
    unfold ll
    infer_instance

@[simp] theorem ll_nil_right (x : List Int) : ¬ ll x [] := by cases x <;> simp [ll]
@[simp] theorem ll_nil_cons (b : Int) (y : List Int) : ll [] (b :: y) := by simp [ll]
@[simp] theorem ll_cons (a b : Int) (x y : List Int) : ll (a :: x) (b :: y) ↔ a < b ∨ (a = b ∧ ll x y) := by simp [ll]

theorem ll_irrefl (x : List Int) : ¬ ll x x := by
  induction x with
  | nil => simp
  | cons a x ih => simp [ih]

theorem ll_trans : ∀ {x y z : List Int}, ll x y → ll y z → ll x z
  | x, y, [], _, h => absurd h (ll_nil_right y)
  | x, [], _ :: _, h, _ => absurd h (ll_nil_right x)
  | [], _ :: _, _ :: _, _, _ => ll_nil_cons _ _
  | a :: x, b :: y, c :: z, h1, h2 => by
    rw [ll_cons] at h1 h2 ⊢
    rcases h1 with h1 | ⟨rfl, h1⟩
    · rcases h2 with h2 | ⟨rfl, h2⟩
      · exact .inl (by omega)
      · exact .inl h1
    · rcases h2 with h2 | ⟨rfl, h2⟩
      · exact .inl h2
      · exact .inr ⟨rfl, ll_trans h1 h2⟩

theorem ll_asymm {x y : List Int} (h : ll x y) : ¬ ll y x := fun h' => ll_irrefl x (ll_trans h h')

theorem ll_tri : ∀ (x y : List Int), ll x y ∨ x = y ∨ ll y x
  | [], [] => .inr (.inl rfl)
  | [], _ :: _ => .inl (by simp)
  | _ :: _, [] => .inr (.inr (by simp))
  | a :: x, b :: y => by
    rcases Int.lt_trichotomy a b with h | rfl | h
    · exact .inl (by simp [h])
    · rcases ll_tri x y with h | rfl | h
      · exact .inl (by simp [h])
      · exact .inr (.inl rfl)
      · exact .inr (.inr (by simp [h]))
    · exact .inr (.inr (by simp [h]))

/-- Two sorted permutations of one list are one. -/
theorem sorted_unique {α : Type} {R : α → α → Prop} (hir : ∀ a, ¬ R a a) (htr : ∀ {a b c}, R a b → R b c → R a c) :
    ∀ {l1 l2 : List α}, l1.Perm l2 → l1.Pairwise R → l2.Pairwise R → l1 = l2
  | [], l2, hp, _, _ => by simpa using hp.symm.eq_nil.symm
  | a :: l1, [], hp, _, _ => by simpa using hp.eq_nil
  | a :: l1, b :: l2, hp, h1, h2 => by
    rw [List.pairwise_cons] at h1 h2
    have hab : a = b := by
      have ha : a ∈ b :: l2 := hp.subset (by simp)
      have hb : b ∈ a :: l1 := hp.symm.subset (by simp)
      rcases List.mem_cons.1 ha with e | ha
      · exact e
      · rcases List.mem_cons.1 hb with e | hb
        · exact e.symm
        · exact absurd (htr (h1.1 b hb) (h2.1 a ha)) (hir a)
    subst hab
    rw [sorted_unique hir htr (List.Perm.cons_inv hp) h1.2 h2.2]

end Go.Proofs.Ytadekjidjhglaaa.Sf
/- Plain: prefix doubling. r: the ranks of the single symbols. -/
namespace Go.Proofs.Ytadekjidjhglaaa.Sf

/-- The first k symbols from p on. -/
def key (r : List Int) (k p : Nat) : List Int := (r.drop p).take k

theorem ll_take {x y : List Int} : ∀ (k : Nat), ll (x.take k) (y.take k) → ll x y := by
  intro k
  induction k generalizing x y with
  | zero => simp
  | succ k ih =>
    intro h
    cases x with
    | nil => cases y with
      | nil => simp at h
      | cons b y => simp
    | cons a x => cases y with
      | nil => simp at h
      | cons b y =>
        simp only [List.take_succ_cons, ll_cons] at h ⊢
        rcases h with h | ⟨h1, h2⟩
        · exact .inl h
        · exact .inr ⟨h1, ih h2⟩

theorem ll_append_left {x y u v : List Int} (h : ll x y) (hl : x.length = y.length) : ll (x ++ u) (y ++ v) := by
  induction x generalizing y with
  | nil => cases y with
    | nil => simp at h
    | cons b y => simp at hl
  | cons a x ih => cases y with
    | nil => simp at h
    | cons b y =>
      simp only [List.cons_append, ll_cons] at h ⊢
      rcases h with h | ⟨h1, h2⟩
      · exact .inl h
      · exact .inr ⟨h1, ih h2 (by simpa using hl)⟩

theorem ll_append_same (x : List Int) {u v : List Int} : ll (x ++ u) (x ++ v) ↔ ll u v := by
  induction x with
  | nil => simp
  | cons a x ih => simp [ih]

theorem ll_append_right {x y v : List Int} (h : ll x y) : ll x (y ++ v) := by
  induction x generalizing y with
  | nil => cases y with
    | nil => simp at h
    | cons b y => simp
  | cons a x ih => cases y with
    | nil => simp at h
    | cons b y =>
      simp only [List.cons_append, ll_cons] at h ⊢
      rcases h with h | ⟨h1, h2⟩
      · exact .inl h
      · exact .inr ⟨h1, ih h2⟩

theorem key_double (r : List Int) (k p : Nat) : key r (2 * k) p = key r k p ++ key r k (p + k) := by
  unfold key
  rw [show 2 * k = k + k by omega, List.take_add, List.drop_drop]

theorem key_length (r : List Int) (k p : Nat) : (key r k p).length = min k (r.length - p) := by
  simp [key]

/-- Twice as many symbols, by the halves. -/
theorem ll_double (r : List Int) (k p q : Nat) :
    ll (key r (2 * k) p) (key r (2 * k) q) ↔ ll (key r k p) (key r k q) ∨ (key r k p = key r k q ∧ ll (key r k (p + k)) (key r k (q + k))) := by
  rw [key_double, key_double]
  have hp := key_length r k p
  have hq := key_length r k q
  have hpk : (key r k p).length < k → key r k (p + k) = [] := by
    intro h
    have : r.length ≤ p + k := by omega
    simp [key, this]
  have hqk : (key r k q).length < k → key r k (q + k) = [] := by
    intro h
    have : r.length ≤ q + k := by omega
    simp [key, this]
  rcases ll_tri (key r k p) (key r k q) with h | h | h
  · refine iff_of_true ?_ (.inl h)
    by_cases e : (key r k p).length = (key r k q).length
    · exact ll_append_left h e
    · by_cases e1 : (key r k p).length < k
      · rw [hpk e1, List.append_nil]; exact ll_append_right h
      · have e2 : (key r k q).length < k := by omega
        rw [hqk e2, List.append_nil]
        -- key p is full, key q is shorter: they part within
        generalize key r k (p + k) = u
        clear hpk hqk hp hq
        generalize key r k p = x at *
        generalize key r k q = y at *
        have hlt : y.length < x.length := by omega
        clear e e1 e2
        induction x generalizing y with
        | nil => simp at hlt
        | cons a x ih => cases y with
          | nil => simp at h
          | cons b y =>
            simp only [List.cons_append, ll_cons] at h ⊢
            rcases h with h | ⟨h1, h2⟩
            · exact .inl h
            · exact .inr ⟨h1, ih _ h2 (by simpa using hlt)⟩
  · rw [h, ll_append_same]
    simp [ll_irrefl]
  · refine iff_of_false ?_ ?_
    · intro h'
      refine ll_asymm h ?_
      have := h'
      clear h'
      generalize key r k p = x at *
      generalize key r k q = y at *
      by_cases e : x.length = y.length
      · rcases ll_tri x y with g | g | g
        · exact g
        · subst g; exact absurd h (ll_irrefl _)
        · exact absurd (ll_append_left g e.symm) (ll_asymm this)
      · exfalso
        by_cases e1 : y.length < k
        · rw [hqk e1, List.append_nil] at this
          exact ll_asymm this (ll_append_right h)
        · have e2 : x.length < k := by omega
          rw [hpk e2, List.append_nil] at this
          have g : ll x y := by
            by_cases e3 : x.length < y.length
            · clear h hpk hqk hp hq e e1 e2
              generalize key r k (q + k) = v at this
              induction x generalizing y with
              | nil => cases y with
                | nil => simp at e3
                | cons => simp
              | cons a x ih => cases y with
                | nil => simp at e3
                | cons b y =>
                  simp only [List.cons_append, ll_cons] at this ⊢
                  rcases this with h | ⟨h1, h2⟩
                  · exact .inl h
                  · exact .inr ⟨h1, ih _ (by simpa using e3) h2⟩
            · omega
          exact ll_asymm h g
    · rintro (h' | ⟨h', _⟩)
      · exact ll_asymm h h'
      · rw [h'] at h; exact ll_irrefl _ h
end Go.Proofs.Ytadekjidjhglaaa.Sf
/- Plain: one round of prefix doubling. -/
namespace Go.Proofs.Ytadekjidjhglaaa.Sf

def SA (r : List Int) (sa : List Nat) : Prop := sa.Perm (List.range r.length) ∧ sa.Pairwise (fun p q => ll (r.drop p) (r.drop q))
def Half (r : List Int) (k : Nat) (sa : List Nat) : Prop := sa.Perm (List.range r.length) ∧ sa.Pairwise (fun p q => ¬ ll (key r k q) (key r k p))
def Ranked (r : List Int) (k : Nat) (rank : List Int) (kinds : Nat) : Prop :=
  rank.length = r.length ∧ (∀ p q, p < r.length → q < r.length → (rank.getD p 0 < rank.getD q 0 ↔ ll (key r k p) (key r k q))) ∧
  ∀ p, p < r.length → 0 ≤ rank.getD p 0 ∧ rank.getD p 0 < kinds

def bucket (l : List Nat) (rank : List Int) (kinds : Nat) : List Nat :=
  (List.range kinds).flatMap fun (c : Nat) => l.filter fun p => rank.getD p 0 = (c : Int)
def secondF (sa : List Nat) (k : Nat) : List Nat :=
  (List.range k).map (sa.length - k + ·) ++ (sa.filter (k ≤ ·)).map (· - k)
/-- The rank of what stands k places behind. -/
def behindF (rank : List Int) (k p : Nat) : Int := if p + k < rank.length then rank.getD (p + k) 0 else -1

theorem SA_unique {r : List Int} {a b : List Nat} (ha : SA r a) (hb : SA r b) : a = b :=
  sorted_unique (R := fun p q => ll (r.drop p) (r.drop q)) (fun _ => ll_irrefl _) (fun h1 h2 => ll_trans h1 h2) (ha.1.trans hb.1.symm) ha.2 hb.2

theorem perm_flatMap_filter (l : List Nat) (f : Nat → Int) (n : Nat) (h : ∀ p ∈ l, 0 ≤ f p ∧ f p < n) :
    ((List.range n).flatMap fun (c : Nat) => l.filter fun p => f p = (c : Int)).Perm l := by
  induction n generalizing l with
  | zero =>
    cases l with
    | nil => simp
    | cons a l => have := h a (by simp); omega
  | succ n ih =>
    rw [List.range_succ, List.flatMap_append]
    have e : (List.range n).flatMap (fun (c : Nat) => l.filter fun p => f p = (c : Int)) = (List.range n).flatMap (fun (c : Nat) => (l.filter fun p => f p < (n : Int)).filter fun p => f p = (c : Int)) := by
      have : ∀ c ∈ List.range n, (l.filter fun p => decide (f p = (c : Int))) = ((l.filter fun p => decide (f p < (n : Int))).filter fun p => decide (f p = (c : Int))) := by
        intro c hc
        rw [List.filter_filter]
        congr 1
        funext p
        have := List.mem_range.1 hc
        by_cases e : f p = (c : Int)
        · have h2 : f p < (n : Int) := by omega
          simp [e]; omega
        · simp [e]
      rw [List.flatMap_def, List.flatMap_def, List.map_congr_left this]
    rw [e]
    have := ih (l.filter fun p => f p < (n : Int)) (fun p hp => by
      have hp := List.mem_filter.1 hp
      have h1 := h p hp.1
      have h2 : f p < (n : Int) := by simpa using hp.2
      omega)
    refine (List.Perm.append_right _ this).trans ?_
    simp only [List.flatMap_cons, List.flatMap_nil, List.append_nil]
    have e2 : (l.filter fun p => decide (f p = (n : Int))) = l.filter fun p => !(decide (f p < (n : Int))) := by
      apply List.filter_congr
      intro p hp
      have := h p hp
      by_cases e : f p = (n : Int)
      · simp [e]
      · have h2 : f p < (n : Int) := by omega
        simp [e, h2]
    rw [e2]
    exact List.filter_append_perm _ _

theorem pairwise_bucket {R : Nat → Nat → Prop} (l : List Nat) (f : Nat → Int) (n : Nat) (hl : l.Pairwise R) :
    ((List.range n).flatMap fun (c : Nat) => l.filter fun p => f p = (c : Int)).Pairwise (fun p q => f p < f q ∨ (f p = f q ∧ R p q)) := by
  induction n with
  | zero => simp
  | succ n ih =>
    rw [List.range_succ, List.flatMap_append, List.pairwise_append]
    refine ⟨ih, ?_, ?_⟩
    · simp only [List.flatMap_cons, List.flatMap_nil, List.append_nil]
      have := hl.filter (fun p => decide (f p = (n : Int)))
      refine List.Pairwise.imp_of_mem ?_ this
      intro a b ha hb h
      have ha := (List.mem_filter.1 ha).2
      have hb := (List.mem_filter.1 hb).2
      simp at ha hb
      exact .inr ⟨by omega, h⟩
    · intro a ha b hb
      obtain ⟨c, hc, ha⟩ := List.mem_flatMap.1 ha
      simp only [List.flatMap_cons, List.flatMap_nil, List.append_nil] at hb
      have ha := (List.mem_filter.1 ha).2
      have hb := (List.mem_filter.1 hb).2
      have := List.mem_range.1 hc
      simp at ha hb
      exact .inl (by omega)

theorem second_perm (sa : List Nat) (n k : Nat) (hp : sa.Perm (List.range n)) (hk : k ≤ n) : (secondF sa k).Perm (List.range n) := by
  have hl : sa.length = n := by have := hp.length_eq; simpa using this
  unfold secondF
  rw [hl]
  have h1 : ((sa.filter (k ≤ ·)).map (· - k)).Perm (List.range (n - k)) := by
    refine ((hp.filter _).map _).trans ?_
    have e : List.range n = List.range k ++ (List.range (n - k)).map (k + ·) := by
      rw [← List.range_add, show k + (n - k) = n by omega]
    have e2 : (List.range k).filter (fun x => decide (k ≤ x)) = [] := by
      rw [List.filter_eq_nil_iff]
      intro a ha
      have := List.mem_range.1 ha
      simp; omega
    have e3 : ((List.range (n - k)).map (k + ·)).filter (fun x => decide (k ≤ x)) = (List.range (n - k)).map (k + ·) := by
      rw [List.filter_eq_self]
      intro a ha
      obtain ⟨b, _, rfl⟩ := List.mem_map.1 ha
      simp
    rw [e, List.filter_append, e2, e3, List.nil_append, List.map_map]
    have : ((fun x => x - k) ∘ fun x => k + x) = id := by funext x; simp
    rw [this, List.map_id]
  refine (List.Perm.append_left _ h1).trans ?_
  refine List.perm_append_comm.trans ?_
  rw [← List.range_add, show n - k + k = n by omega]

theorem perm_range_mem {sa : List Nat} {n p : Nat} (h : sa.Perm (List.range n)) : p ∈ sa ↔ p < n := by
  rw [h.mem_iff, List.mem_range]

theorem second_pairwise {r : List Int} {k kinds : Nat} {sa : List Nat} {rank : List Int} (hs : Half r k sa) (hr : Ranked r k rank kinds) (hk : k ≤ r.length) :
    (secondF sa k).Pairwise (fun p q => behindF rank k p ≤ behindF rank k q) := by
  have hl : sa.length = r.length := by have := hs.1.length_eq; simpa using this
  unfold secondF
  rw [List.pairwise_append]
  refine ⟨?_, ?_, ?_⟩
  · rw [List.pairwise_map]
    refine List.pairwise_of_forall ?_
    intro a b
    unfold behindF
    rw [hr.1, hl]
    split <;> split <;> try omega
  · rw [List.pairwise_map]
    refine List.Pairwise.imp_of_mem ?_ (hs.2.filter _)
    intro a b ha hb h
    have ha := List.mem_filter.1 ha
    have hb := List.mem_filter.1 hb
    have ha1 := (perm_range_mem hs.1).1 ha.1
    have hb1 := (perm_range_mem hs.1).1 hb.1
    have ha2 : k ≤ a := by simpa using ha.2
    have hb2 : k ≤ b := by simpa using hb.2
    unfold behindF
    rw [show a - k + k = a by omega, show b - k + k = b by omega, hr.1, if_pos ha1, if_pos hb1]
    have := (hr.2.1 b a hb1 ha1)
    rw [← this] at h
    omega
  · intro a ha b hb
    obtain ⟨a', ha', rfl⟩ := List.mem_map.1 ha
    obtain ⟨b', hb', rfl⟩ := List.mem_map.1 hb
    have hb := List.mem_filter.1 hb'
    have hb1 := (perm_range_mem hs.1).1 hb.1
    have hb2 : k ≤ b' := by simpa using hb.2
    unfold behindF
    rw [show b' - k + k = b' by omega, hr.1, if_pos hb1, hl, if_neg (by omega)]
    have := hr.2.2 b' hb1
    omega

theorem ranked_eq {r : List Int} {k kinds : Nat} {rank : List Int} (hr : Ranked r k rank kinds) {p q : Nat} (hp : p < r.length) (hq : q < r.length) :
    rank.getD p 0 = rank.getD q 0 ↔ key r k p = key r k q := by
  have h1 := hr.2.1 p q hp hq
  have h2 := hr.2.1 q p hq hp
  rcases ll_tri (key r k p) (key r k q) with h | h | h
  · refine iff_of_false ?_ (fun e => by rw [e] at h; exact ll_irrefl _ h)
    have := h1.2 h; omega
  · refine iff_of_true ?_ h
    have a1 : ¬ rank.getD p 0 < rank.getD q 0 := fun hh => by have := h1.1 hh; rw [h] at this; exact ll_irrefl _ this
    have a2 : ¬ rank.getD q 0 < rank.getD p 0 := fun hh => by have := h2.1 hh; rw [h] at this; exact ll_irrefl _ this
    omega
  · refine iff_of_false ?_ (fun e => by rw [e] at h; exact ll_irrefl _ h)
    have := h2.2 h; omega

theorem behind_lt {r : List Int} {k kinds : Nat} {rank : List Int} (hr : Ranked r k rank kinds) (hk : 0 < k) {p q : Nat} :
    behindF rank k p < behindF rank k q ↔ ll (key r k (p + k)) (key r k (q + k)) := by
  unfold behindF
  rw [hr.1]
  have hnil : ∀ a, ¬ a < r.length → key r k a = [] := fun a h => by simp [key]; omega
  have hne : ∀ a, a < r.length → ∃ x y, key r k a = x :: y := fun a h => by
    cases e : key r k a with
    | nil => have := key_length r k a; rw [e] at this; simp at this; omega
    | cons x y => exact ⟨x, y, rfl⟩
  by_cases h1 : p + k < r.length <;> by_cases h2 : q + k < r.length
  · rw [if_pos h1, if_pos h2]; exact hr.2.1 _ _ h1 h2
  · rw [if_pos h1, if_neg h2, hnil _ h2]
    have := hr.2.2 _ h1
    simp only [ll_nil_right, iff_false]; omega
  · rw [if_neg h1, if_pos h2, hnil _ h1]
    have := hr.2.2 _ h2
    obtain ⟨x, y, e⟩ := hne _ h2
    rw [e]
    simp only [ll_nil_cons, iff_true]; omega
  · rw [if_neg h1, if_neg h2, hnil _ h1, hnil _ h2]; simp

theorem behind_eq {r : List Int} {k kinds : Nat} {rank : List Int} (hr : Ranked r k rank kinds) (hk : 0 < k) {p q : Nat} :
    behindF rank k p = behindF rank k q ↔ key r k (p + k) = key r k (q + k) := by
  have h1 := behind_lt hr hk (p := p) (q := q)
  have h2 := behind_lt hr hk (p := q) (q := p)
  rcases ll_tri (key r k (p + k)) (key r k (q + k)) with h | h | h
  · refine iff_of_false ?_ (fun e => by rw [e] at h; exact ll_irrefl _ h)
    have := h1.2 h; omega
  · refine iff_of_true ?_ h
    have a1 : ¬ behindF rank k p < behindF rank k q := fun hh => by have := h1.1 hh; rw [h] at this; exact ll_irrefl _ this
    have a2 : ¬ behindF rank k q < behindF rank k p := fun hh => by have := h2.1 hh; rw [h] at this; exact ll_irrefl _ this
    omega
  · refine iff_of_false ?_ (fun e => by rw [e] at h; exact ll_irrefl _ h)
    have := h2.2 h; omega

/-- Two places by twice as many symbols, by the ranks. -/
theorem pair_lt {r : List Int} {k kinds : Nat} {rank : List Int} (hr : Ranked r k rank kinds) (hk : 0 < k) {p q : Nat} (hp : p < r.length) (hq : q < r.length) :
    (rank.getD p 0 < rank.getD q 0 ∨ (rank.getD p 0 = rank.getD q 0 ∧ behindF rank k p < behindF rank k q)) ↔ ll (key r (2 * k) p) (key r (2 * k) q) := by
  rw [ll_double, hr.2.1 p q hp hq, ranked_eq hr hp hq, behind_lt hr hk]

theorem key_double_eq {r : List Int} {k kinds : Nat} {rank : List Int} (hr : Ranked r k rank kinds) (hk : 0 < k) {p q : Nat} (hp : p < r.length) (hq : q < r.length) :
    (rank.getD p 0 = rank.getD q 0 ∧ behindF rank k p = behindF rank k q) ↔ key r (2 * k) p = key r (2 * k) q := by
  have h1 := pair_lt hr hk hp hq
  have h2 := pair_lt hr hk hq hp
  rcases ll_tri (key r (2 * k) p) (key r (2 * k) q) with h | h | h
  · refine iff_of_false ?_ (fun e => by rw [e] at h; exact ll_irrefl _ h)
    have := h1.2 h; omega
  · refine iff_of_true ?_ h
    rw [h] at h1 h2
    have a1 := mt h1.1 (ll_irrefl _)
    have a2 := mt h2.1 (ll_irrefl _)
    omega
  · refine iff_of_false ?_ (fun e => by rw [e] at h; exact ll_irrefl _ h)
    have := h2.2 h; omega

theorem half_step {r : List Int} {k kinds : Nat} {sa : List Nat} {rank : List Int} (hs : Half r k sa) (hr : Ranked r k rank kinds) (h0 : 0 < k) (hk : k ≤ r.length) :
    Half r (2 * k) (bucket (secondF sa k) rank kinds) := by
  have hp := second_perm sa r.length k hs.1 hk
  have hm : ∀ p ∈ secondF sa k, p < r.length := fun p h => (perm_range_mem hp).1 h
  have hP := perm_flatMap_filter (secondF sa k) (fun p => rank.getD p 0) kinds (fun p h => hr.2.2 p (hm p h))
  refine ⟨hP.trans hp, ?_⟩
  refine List.Pairwise.imp_of_mem ?_ (pairwise_bucket (secondF sa k) (fun p => rank.getD p 0) kinds (second_pairwise hs hr hk))
  intro a b ha hb h
  have ha := hm a (hP.subset ha)
  have hb := hm b (hP.subset hb)
  rw [← pair_lt hr h0 hb ha]
  omega

/-- How many of the places 1 to i are marked. -/
def lvl (ch : Nat → Bool) : Nat → Nat
  | 0 => 0
  | i + 1 => lvl ch i + if ch (i + 1) then 1 else 0
theorem lvl_mono (ch : Nat → Bool) {i j : Nat} (h : i ≤ j) : lvl ch i ≤ lvl ch j := by
  induction j with
  | zero => have : i = 0 := by omega
            subst this; exact Nat.le_refl _
  | succ j ih =>
    by_cases e : i = j + 1
    · subst e; exact Nat.le_refl _
    · have := ih (by omega)
      simp only [lvl]
      omega
theorem lvl_le (ch : Nat → Bool) (i : Nat) : lvl ch i ≤ i := by
  induction i with
  | zero => simp [lvl]
  | succ i ih => simp only [lvl]; split <;> omega
theorem lvl_full (ch : Nat → Bool) (i : Nat) (h : lvl ch i = i) : ∀ j, 1 ≤ j → j ≤ i → ch j = true := by
  induction i with
  | zero => intro j h1 h2; omega
  | succ i ih =>
    intro j h1 h2
    simp only [lvl] at h
    have := lvl_le ch i
    by_cases e : ch (i + 1) = true
    · rw [if_pos e] at h
      by_cases e2 : j = i + 1
      · subst e2; exact e
      · exact ih (by omega) j h1 (by omega)
    · rw [if_neg e] at h; omega

/-- Where two neighbours part. -/
def partF (rank : List Int) (k : Nat) (sa : List Nat) (i : Nat) : Bool :=
  decide (rank.getD (sa.getD i 0) 0 ≠ rank.getD (sa.getD (i - 1) 0) 0 ∨ behindF rank k (sa.getD i 0) ≠ behindF rank k (sa.getD (i - 1) 0))

theorem pairwise_getD {R : Nat → Nat → Prop} {l : List Nat} (h : l.Pairwise R) {i j : Nat} (hij : i < j) (hj : j < l.length) : R (l.getD i 0) (l.getD j 0) := by
  rw [List.pairwise_iff_getElem] at h
  have := h i j (by omega) hj hij
  simpa [List.getD_eq_getElem?_getD, List.getElem?_eq_getElem hj, List.getElem?_eq_getElem (show i < l.length by omega)] using this

theorem mem_index {l : List Nat} {p : Nat} (h : p ∈ l) : ∃ i, i < l.length ∧ l.getD i 0 = p := by
  obtain ⟨i, hi, e⟩ := List.getElem_of_mem h
  exact ⟨i, hi, by simp [List.getD_eq_getElem?_getD, List.getElem?_eq_getElem hi, e]⟩

theorem getD_mem {l : List Nat} {i : Nat} (h : i < l.length) : l.getD i 0 ∈ l := by
  rw [List.getD_eq_getElem?_getD, List.getElem?_eq_getElem h]; exact List.getElem_mem h

/-- Levels tell twice as many symbols. -/
theorem ranked_step {r : List Int} {k kinds : Nat} {sa : List Nat} {rank next : List Int} (hs : Half r (2 * k) sa) (hr : Ranked r k rank kinds) (h0 : 0 < k)
    (hl : next.length = r.length) (hn : ∀ i, i < r.length → next.getD (sa.getD i 0) 0 = (lvl (partF rank k sa) i : Int)) :
    Ranked r (2 * k) next (lvl (partF rank k sa) (r.length - 1) + 1) := by
  have hlen : sa.length = r.length := by have := hs.1.length_eq; simpa using this
  have hmem : ∀ i, i < r.length → sa.getD i 0 < r.length := fun i h => (perm_range_mem hs.1).1 (getD_mem (by omega))
  -- neighbours
  have hnb : ∀ i, 1 ≤ i → i < r.length → (partF rank k sa i = true ↔ ll (key r (2 * k) (sa.getD (i - 1) 0)) (key r (2 * k) (sa.getD i 0))) := by
    intro i h1 h2
    have hne := key_double_eq hr h0 (hmem i h2) (hmem (i - 1) (by omega))
    have hle := pairwise_getD hs.2 (show i - 1 < i by omega) (by omega)
    have ht := ll_tri (key r (2 * k) (sa.getD (i - 1) 0)) (key r (2 * k) (sa.getD i 0))
    unfold partF
    rw [decide_eq_true_iff]
    constructor
    · intro h
      rcases ht with h' | h' | h'
      · exact h'
      · have := hne.2 h'.symm
        omega
      · exact absurd h' hle
    · intro h
      have : ¬ (key r (2 * k) (sa.getD i 0) = key r (2 * k) (sa.getD (i - 1) 0)) := fun e => by rw [e] at h; exact ll_irrefl _ h
      rw [← hne] at this
      omega
  -- i < j: by levels
  have hij : ∀ j, j < r.length → ∀ i, i ≤ j → (lvl (partF rank k sa) i < lvl (partF rank k sa) j ↔ ll (key r (2 * k) (sa.getD i 0)) (key r (2 * k) (sa.getD j 0))) := by
    intro j
    induction j with
    | zero => intro _ i hi; have : i = 0 := by omega
              subst this; simp [ll_irrefl]
    | succ j ih =>
      intro hj i hi
      by_cases e : i = j + 1
      · subst e; simp [ll_irrefl]
      · have ih := ih (by omega) i (by omega)
        have hb := hnb (j + 1) (by omega) hj
        rw [show j + 1 - 1 = j by omega] at hb
        have hm := lvl_mono (partF rank k sa) (show i ≤ j by omega)
        simp only [lvl]
        by_cases c : partF rank k sa (j + 1) = true
        · rw [if_pos c]
          refine iff_of_true (by omega) ?_
          have h1 := hb.1 c
          by_cases d : lvl (partF rank k sa) i < lvl (partF rank k sa) j
          · exact ll_trans (ih.1 d) h1
          · have hle : ¬ ll (key r (2 * k) (sa.getD i 0)) (key r (2 * k) (sa.getD j 0)) := fun h => d (ih.2 h)
            rcases ll_tri (key r (2 * k) (sa.getD i 0)) (key r (2 * k) (sa.getD j 0)) with g | g | g
            · exact absurd g hle
            · rw [g]; exact h1
            · have : i < j ∨ i = j := by omega
              rcases this with h | h
              · exact absurd g (pairwise_getD hs.2 h (by omega))
              · subst h; exact absurd g (ll_irrefl _)
        · rw [if_neg c, Nat.add_zero, ih]
          have h1 : ¬ ll (key r (2 * k) (sa.getD j 0)) (key r (2 * k) (sa.getD (j + 1) 0)) := fun h => c (hb.2 h)
          have h2 := pairwise_getD hs.2 (show j < j + 1 by omega) (by omega)
          rcases ll_tri (key r (2 * k) (sa.getD j 0)) (key r (2 * k) (sa.getD (j + 1) 0)) with g | g | g
          · exact absurd g h1
          · rw [g]
          · exact absurd g h2
  refine ⟨hl, ?_, ?_⟩
  · intro p q hp hq
    obtain ⟨i, hi, rfl⟩ := mem_index ((perm_range_mem hs.1).2 hp)
    obtain ⟨j, hj, rfl⟩ := mem_index ((perm_range_mem hs.1).2 hq)
    rw [hlen] at hi hj
    rw [hn i hi, hn j hj]
    by_cases e : i ≤ j
    · rw [← hij j hj i e]; omega
    · have h1 := hij i hi j (by omega)
      have h2 := lvl_mono (partF rank k sa) (show j ≤ i by omega)
      refine iff_of_false (by omega) ?_
      intro h
      have := pairwise_getD hs.2 (show j < i by omega) (by omega)
      exact this h
  · intro p hp
    obtain ⟨i, hi, rfl⟩ := mem_index ((perm_range_mem hs.1).2 hp)
    rw [hlen] at hi
    rw [hn i hi]
    have := lvl_mono (partF rank k sa) (show i ≤ r.length - 1 by omega)
    omega

/-- All levels: all is told. -/
theorem SA_of_levels {r : List Int} {k kinds : Nat} {sa : List Nat} {rank : List Int} (hs : Half r (2 * k) sa) (hr : Ranked r k rank kinds) (h0 : 0 < k)
    (hf : lvl (partF rank k sa) (r.length - 1) + 1 = r.length) : SA r sa := by
  have hlen : sa.length = r.length := by have := hs.1.length_eq; simpa using this
  have hmem : ∀ i, i < r.length → sa.getD i 0 < r.length := fun i h => (perm_range_mem hs.1).1 (getD_mem (by omega))
  have hall := lvl_full _ _ (show lvl (partF rank k sa) (r.length - 1) = r.length - 1 by omega)
  refine ⟨hs.1, ?_⟩
  have hnb : ∀ i, i + 1 < r.length → ll (key r (2 * k) (sa.getD i 0)) (key r (2 * k) (sa.getD (i + 1) 0)) := by
    intro i hi
    have hp := hall (i + 1) (by omega) (by omega)
    unfold partF at hp
    rw [decide_eq_true_iff, show i + 1 - 1 = i by omega] at hp
    have hne := key_double_eq hr h0 (hmem (i + 1) hi) (hmem i (by omega))
    rcases ll_tri (key r (2 * k) (sa.getD i 0)) (key r (2 * k) (sa.getD (i + 1) 0)) with g | g | g
    · exact g
    · have := hne.2 g.symm; omega
    · exact absurd g (pairwise_getD hs.2 (show i < i + 1 by omega) (by omega))
  have hij : ∀ j, j < r.length → ∀ i, i < j → ll (key r (2 * k) (sa.getD i 0)) (key r (2 * k) (sa.getD j 0)) := by
    intro j
    induction j with
    | zero => intro _ i hi; omega
    | succ j ih =>
      intro hj i hi
      by_cases e : i = j
      · subst e; exact hnb i hj
      · exact ll_trans (ih (by omega) i (by omega)) (hnb j hj)
  rw [List.pairwise_iff_getElem]
  intro i j hi hj h
  have := ll_take _ (hij j (by omega) i h)
  simpa [List.getD_eq_getElem?_getD, List.getElem?_eq_getElem hj, List.getElem?_eq_getElem (show i < sa.length by omega)] using this

theorem key_all (r : List Int) {k : Nat} (hk : r.length ≤ k) (p : Nat) : key r k p = r.drop p := by
  unfold key
  rw [List.take_of_length_le (by simp; omega)]

theorem drop_ne (r : List Int) {p q : Nat} (hp : p < r.length) (hq : q < r.length) (h : p ≠ q) : r.drop p ≠ r.drop q := fun e => by
  have := congrArg List.length e
  simp at this
  omega

theorem SA_of_half {r : List Int} {k : Nat} {sa : List Nat} (hs : Half r k sa) (hk : r.length ≤ k) : SA r sa := by
  refine ⟨hs.1, ?_⟩
  have hnd : sa.Nodup := hs.1.nodup_iff.2 List.nodup_range
  have h2 := (List.pairwise_and_iff (R := fun p q => ¬ ll (key r k q) (key r k p)) (S := (· ≠ ·))).2 ⟨hs.2, hnd⟩
  refine List.Pairwise.imp_of_mem ?_ h2
  intro a b ha hb h
  obtain ⟨h, hne⟩ := h
  rw [key_all r hk, key_all r hk] at h
  rcases ll_tri (r.drop a) (r.drop b) with g | g | g
  · exact g
  · exact absurd g (drop_ne r ((perm_range_mem hs.1).1 ha) ((perm_range_mem hs.1).1 hb) hne)
  · exact absurd g h

/-- The first order, by the single symbols. -/
theorem key_one (r : List Int) {p : Nat} (hp : p < r.length) : key r 1 p = [r.getD p 0] := by
  unfold key
  rw [List.drop_eq_getElem_cons hp]
  simp only [List.take_succ_cons, List.take_zero, List.getD_eq_getElem?_getD, List.getElem?_eq_getElem hp, Option.getD_some]

theorem ranked_one (r : List Int) (kinds : Nat) (h : ∀ p, p < r.length → 0 ≤ r.getD p 0 ∧ r.getD p 0 < kinds) : Ranked r 1 r kinds :=
  ⟨rfl, fun p q hp hq => by rw [key_one r hp, key_one r hq]; simp, h⟩

theorem half_one (r : List Int) (kinds : Nat) (h : ∀ p, p < r.length → 0 ≤ r.getD p 0 ∧ r.getD p 0 < kinds) : Half r 1 (bucket (List.range r.length) r kinds) := by
  have hP := perm_flatMap_filter (List.range r.length) (fun p => r.getD p 0) kinds (fun p hp => h p (List.mem_range.1 hp))
  refine ⟨hP, ?_⟩
  have := pairwise_bucket (R := fun _ _ => True) (List.range r.length) (fun p => r.getD p 0) kinds (List.pairwise_of_forall (fun _ _ => trivial))
  refine List.Pairwise.imp_of_mem ?_ this
  intro a b ha hb h
  have ha := List.mem_range.1 (hP.subset ha)
  have hb := List.mem_range.1 (hP.subset hb)
  rw [key_one r ha, key_one r hb]
  simp only [ll_cons, ll_nil_right, and_false, or_false]
  omega
end Go.Proofs.Ytadekjidjhglaaa.Sf
/- Plain: documents as one row of ranks; their order by documents and offsets. -/
namespace Go.Proofs.Ytadekjidjhglaaa.Sf

/-- The ranks of the symbols: document i's separator is i, a byte c is m + 1 + c. -/
def rkF (m : Nat) : Nat → List (List Int) → List Int
  | _, [] => []
  | j, d :: ds => d.map (fun c => (m : Int) + (c + 1)) ++ (j : Int) :: rkF m (j + 1) ds
def r0 (ds : List (List Int)) : List Int := rkF ds.length 0 ds
/-- The symbols. -/
def rowF : List (List Int) → List Int
  | [] => []
  | d :: ds => d.map (· + 1) ++ 0 :: rowF ds
/-- How long the row is. -/
def lenF : List (List Int) → Nat
  | [] => 0
  | d :: ds => d.length + 1 + lenF ds
/-- Where a document begins. -/
def startF (ds : List (List Int)) (i : Nat) : Nat := lenF (ds.take i)
/-- The documents' places, in order. -/
def hitsF : Nat → List (List Int) → List (Nat × Nat)
  | _, [] => []
  | j, d :: ds => (List.range (d.length + 1)).map (fun o => (j, o)) ++ hitsF (j + 1) ds
def placeF (ds : List (List Int)) (h : Nat × Nat) : Nat := startF ds h.1 + h.2
def docF (ds : List (List Int)) (i : Nat) : List Int := ds.getD i []
/-- The order of the document. -/
def hless (ds : List (List Int)) (a b : Nat × Nat) : Prop :=
  ll ((docF ds a.1).drop a.2) ((docF ds b.1).drop b.2) ∨ ((docF ds a.1).drop a.2 = (docF ds b.1).drop b.2 ∧ a.1 < b.1)

theorem rkF_length (m j : Nat) (ds : List (List Int)) : (rkF m j ds).length = lenF ds := by
  induction ds generalizing j with
  | nil => rfl
  | cons d ds ih => simp [rkF, lenF, ih]; omega
theorem r0_length (ds : List (List Int)) : (r0 ds).length = lenF ds := rkF_length _ _ _
theorem rowF_length (ds : List (List Int)) : (rowF ds).length = lenF ds := by
  induction ds with
  | nil => rfl
  | cons d ds ih => simp [rowF, lenF, ih]; omega
theorem startF_zero (ds : List (List Int)) : startF ds 0 = 0 := by simp [startF, lenF]
theorem startF_succ_cons (d : List Int) (ds : List (List Int)) (i : Nat) : startF (d :: ds) (i + 1) = d.length + 1 + startF ds i := by simp [startF, lenF]
theorem lenF_append (a b : List (List Int)) : lenF (a ++ b) = lenF a + lenF b := by
  induction a with
  | nil => simp [lenF]
  | cons d a ih => simp [lenF, ih]; omega
theorem startF_succ (ds : List (List Int)) {i : Nat} (h : i < ds.length) : startF ds (i + 1) = startF ds i + (docF ds i).length + 1 := by
  unfold startF docF
  rw [List.take_succ_eq_append_getElem h, lenF_append]
  simp [lenF, List.getD_eq_getElem?_getD, List.getElem?_eq_getElem h]
  omega
theorem startF_all (ds : List (List Int)) : startF ds ds.length = lenF ds := by simp [startF]
theorem startF_mono (ds : List (List Int)) {i j : Nat} (h : i ≤ j) : startF ds i ≤ startF ds j := by
  unfold startF
  have : ds.take j = ds.take i ++ (ds.take j).drop i := by
    have := (List.take_append_drop i (ds.take j)).symm
    rwa [List.take_take, Nat.min_eq_left h] at this
  rw [this, lenF_append]; omega
theorem startF_le (ds : List (List Int)) (i : Nat) : startF ds i ≤ lenF ds := by
  by_cases h : i ≤ ds.length
  · rw [← startF_all]; exact startF_mono ds h
  · simp [startF, List.take_of_length_le (show ds.length ≤ i by omega)]

theorem mem_hitsF (j : Nat) (ds : List (List Int)) (a : Nat × Nat) : a ∈ hitsF j ds ↔ j ≤ a.1 ∧ a.1 < j + ds.length ∧ a.2 ≤ (docF ds (a.1 - j)).length := by
  obtain ⟨i, o⟩ := a
  induction ds generalizing j with
  | nil => simp [hitsF]; omega
  | cons d ds ih =>
    simp only [hitsF, List.mem_append, ih, List.mem_map, List.mem_range, Prod.mk.injEq, List.length_cons]
    constructor
    · rintro (⟨o', h, rfl, rfl⟩ | ⟨h1, h2, h3⟩)
      · simp [docF]; omega
      · refine ⟨by omega, by omega, ?_⟩
        rw [show i - j = (i - (j + 1)) + 1 by omega]
        simpa [docF] using h3
    · rintro ⟨h1, h2, h3⟩
      by_cases e : i = j
      · subst e
        left
        refine ⟨o, ?_, rfl, rfl⟩
        simp [docF] at h3; omega
      · right
        refine ⟨by omega, by omega, ?_⟩
        rw [show i - j = (i - (j + 1)) + 1 by omega] at h3
        simpa [docF] using h3

theorem hitsF_length (j : Nat) (ds : List (List Int)) : (hitsF j ds).length = lenF ds := by
  induction ds generalizing j with
  | nil => rfl
  | cons d ds ih => simp [hitsF, lenF, ih]

theorem map_hitsF (f : Nat × Nat → Nat) (j s : Nat) (ds : List (List Int)) (h : ∀ i o, j ≤ i → i < j + ds.length → f (i, o) = s + (startF ds (i - j) + o)) :
    (hitsF j ds).map f = (List.range (lenF ds)).map (s + ·) := by
  induction ds generalizing j s with
  | nil => simp [hitsF, lenF]
  | cons d ds ih =>
    simp only [hitsF, lenF, List.map_append, List.map_map]
    rw [ih (j + 1) (s + (d.length + 1))]
    · have e1 : (List.range (d.length + 1)).map (f ∘ fun o => (j, o)) = (List.range (d.length + 1)).map (s + ·) := by
        apply List.map_congr_left
        intro o _
        simp only [Function.comp]
        rw [h j o (Nat.le_refl _) (by simp), Nat.sub_self, startF_zero]; omega
      have e2 : (List.range (d.length + 1 + lenF ds)).map (s + ·) = (List.range (d.length + 1)).map (s + ·) ++ (List.range (lenF ds)).map (s + (d.length + 1) + ·) := by
        rw [List.range_add, List.map_append, List.map_map]
        congr 1
        apply List.map_congr_left
        intro o _
        simp only [Function.comp]; omega
      rw [e1, e2]
    · intro i o h1 h2
      rw [h i o (by omega) (by simp only [List.length_cons]; omega), show i - j = (i - (j + 1)) + 1 by omega, startF_succ_cons]; omega

theorem place_hits (ds : List (List Int)) : (hitsF 0 ds).map (placeF ds) = List.range (lenF ds) := by
  rw [map_hitsF (placeF ds) 0 0 ds (fun i o _ _ => by simp [placeF])]
  simp

/-- What stands from a place on: the document's rest, its separator, and more. -/
theorem rk_drop (m j : Nat) (ds : List (List Int)) (i o : Nat) (hi : i < ds.length) (ho : o ≤ (docF ds i).length) :
    ∃ u, (rkF m j ds).drop (startF ds i + o) = ((docF ds i).drop o).map (fun c => (m : Int) + (c + 1)) ++ ((j + i : Nat) : Int) :: u := by
  induction ds generalizing i j with
  | nil => simp at hi
  | cons d ds ih =>
    cases i with
    | zero =>
      simp only [docF, List.getD_cons_zero] at ho ⊢
      refine ⟨rkF m (j + 1) ds, ?_⟩
      rw [startF_zero, Nat.zero_add, rkF, List.drop_append_of_le_length (by simpa using ho), ← List.map_drop]
      rfl
    | succ i =>
      obtain ⟨u, hu⟩ := ih (j + 1) i (by simpa using hi) (by simpa [docF] using ho)
      refine ⟨u, ?_⟩
      rw [startF_succ_cons, rkF]
      have e : (docF (d :: ds) (i + 1)) = docF ds i := by simp [docF]
      rw [e, show j + (i + 1) = j + 1 + i by omega, ← hu]
      rw [List.drop_append, List.drop_of_length_le (by simp; omega), List.nil_append]
      simp only [List.length_map]
      rw [show d.length + 1 + startF ds i + o - d.length = (startF ds i + o) + 1 by omega, List.drop_succ_cons]

/-- Two rows of bytes, each behind it a separator: as the bytes are, then as the separators. -/
theorem ll_seps {m : Nat} {i j : Nat} (hi : i < m) (hj : j < m) : ∀ (x y u v : List Int), (∀ c ∈ x, 0 ≤ c) → (∀ c ∈ y, 0 ≤ c) → (i ≠ j ∨ x.length ≠ y.length) →
    (ll (x.map (fun c => (m : Int) + (c + 1)) ++ (i : Int) :: u) (y.map (fun c => (m : Int) + (c + 1)) ++ (j : Int) :: v) ↔ ll x y ∨ (x = y ∧ i < j)) := by
  intro x
  induction x with
  | nil =>
    intro y u v hx hy h
    cases y with
    | nil =>
      simp at h ⊢
      omega
    | cons b y =>
      have := hy b (by simp)
      simp
      omega
  | cons a x ih =>
    intro y u v hx hy h
    have ha := hx a (by simp)
    cases y with
    | nil => simp; omega
    | cons b y =>
      have hb := hy b (by simp)
      have := ih y u v (fun c hc => hx c (by simp [hc])) (fun c hc => hy c (by simp [hc])) (by simpa using h)
      simp only [List.map_cons, List.cons_append, ll_cons, this, List.cons.injEq]
      constructor
      · rintro (h | ⟨h1, h2 | h2⟩)
        · exact .inl (.inl (by omega))
        · exact .inl (.inr ⟨by omega, h2⟩)
        · exact .inr ⟨⟨by omega, h2.1⟩, h2.2⟩
      · rintro ((h | ⟨h1, h2⟩) | ⟨⟨h1, h2⟩, h3⟩)
        · exact .inl (by omega)
        · exact .inr ⟨by omega, .inl h2⟩
        · exact .inr ⟨by omega, .inr ⟨h2, h3⟩⟩

def Bytes (ds : List (List Int)) : Prop := ∀ d ∈ ds, ∀ c ∈ d, 0 ≤ c ∧ c ≤ 255
theorem Bytes.doc {ds : List (List Int)} (h : Bytes ds) (i : Nat) : ∀ c ∈ docF ds i, 0 ≤ c ∧ c ≤ 255 := by
  unfold docF
  by_cases hi : i < ds.length
  · rw [List.getD_eq_getElem?_getD, List.getElem?_eq_getElem hi]
    exact h _ (List.getElem_mem hi)
  · rw [List.getD_eq_getElem?_getD, List.getElem?_eq_none (by omega)]
    simp

theorem ll_hits {ds : List (List Int)} (hb : Bytes ds) {a b : Nat × Nat} (ha : a ∈ hitsF 0 ds) (hb' : b ∈ hitsF 0 ds) :
    ll ((r0 ds).drop (placeF ds a)) ((r0 ds).drop (placeF ds b)) ↔ hless ds a b := by
  rw [mem_hitsF] at ha hb'
  simp only [Nat.zero_le, Nat.zero_add, Nat.sub_zero, true_and] at ha hb'
  obtain ⟨u, hu⟩ := rk_drop ds.length 0 ds a.1 a.2 ha.1 ha.2
  obtain ⟨v, hv⟩ := rk_drop ds.length 0 ds b.1 b.2 hb'.1 hb'.2
  by_cases e : a = b
  · subst e
    refine iff_of_false (ll_irrefl _) ?_
    rintro (h | h)
    · exact ll_irrefl _ h
    · omega
  · unfold r0 placeF
    rw [hu, hv, Nat.zero_add, Nat.zero_add]
    rw [ll_seps ha.1 hb'.1]
    · rfl
    · intro c hc; exact (hb.doc a.1 c (List.mem_of_mem_drop hc)).1
    · intro c hc; exact (hb.doc b.1 c (List.mem_of_mem_drop hc)).1
    · by_cases e1 : a.1 = b.1
      · right
        have : a.2 ≠ b.2 := fun e2 => e (Prod.ext e1 e2)
        have h1 := ha.2
        have h2 := hb'.2
        rw [e1] at h1 ⊢
        simp; omega
      · exact .inl e1

/-- The rows in order, as the document says it: the places of hits in order are all places in order. -/
theorem SA_of_hits {ds : List (List Int)} (hb : Bytes ds) {hs : List (Nat × Nat)} (hp : hs.Perm (hitsF 0 ds)) (hs2 : hs.Pairwise (hless ds)) : SA (r0 ds) (hs.map (placeF ds)) := by
  refine ⟨?_, ?_⟩
  · rw [r0_length, ← place_hits]; exact hp.map _
  · rw [List.pairwise_map]
    refine List.Pairwise.imp_of_mem ?_ hs2
    intro a b ha hb' h
    exact (ll_hits hb (hp.subset ha) (hp.subset hb')).2 h

theorem r0_bounds {ds : List (List Int)} (hb : Bytes ds) : ∀ p, p < (r0 ds).length → 0 ≤ (r0 ds).getD p 0 ∧ (r0 ds).getD p 0 < ((ds.length + 257 : Nat) : Int) := by
  have : ∀ m j ds, Bytes ds → j + ds.length ≤ m → ∀ c ∈ rkF m j ds, 0 ≤ c ∧ c < ((m + 257 : Nat) : Int) := by
    intro m j ds hb hj
    induction ds generalizing j with
    | nil => simp [rkF]
    | cons d ds ih =>
      intro c hc
      simp only [List.length_cons] at hj
      simp only [rkF, List.mem_append, List.mem_map, List.mem_cons] at hc
      rcases hc with ⟨c', h1, rfl⟩ | rfl | hc
      · have := hb d (by simp) c' h1; omega
      · omega
      · exact ih (j + 1) (fun d hd => hb d (by simp [hd])) (by omega) c hc
  intro p hp
  have h := this ds.length 0 ds hb (by omega) ((r0 ds).getD p 0) (by
    rw [List.getD_eq_getElem?_getD, List.getElem?_eq_getElem hp]; exact List.getElem_mem hp)
  exact h
end Go.Proofs.Ytadekjidjhglaaa.Sf
