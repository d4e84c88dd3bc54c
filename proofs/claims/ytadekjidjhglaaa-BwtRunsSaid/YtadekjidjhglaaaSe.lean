/- Plain: the reference's strings, its order of places, places told as numbers, the inverse of an order. -/
import Derived.Test.YtadekjidjhglaaaSd
import Derived.Test.YtadekjidjhglaaaPa
set_option linter.unusedVariables false
set_option linter.unusedSimpArgs false
namespace Go.Proofs.Ytadekjidjhglaaa.Sf
open Go.RowKit Go.Proofs.YtadekjidjhglaaaW.PrintWords

def u8L (x : List Int) : List UInt8 := x.map fun n => UInt8.ofNat n.toNat
def strsF (ds : List (List Int)) : List ByteArray := ds.map strOfNums
theorem strsF_length (ds : List (List Int)) : (strsF ds).length = ds.length := by simp [strsF]
theorem strsF_at (ds : List (List Int)) {i : Nat} (h : i < ds.length) : rdOf ByteArray.empty (strsF ds) (i : Int) = strOfNums (docF ds i) := by
  unfold rdOf strsF docF
  rw [Int.toNat_natCast, List.getD_eq_getElem?_getD, List.getElem?_map, List.getD_eq_getElem?_getD, List.getElem?_eq_getElem h]
  rfl
theorem str_toList (x : List Int) : (strOfNums x).toList = u8L x := by rw [ByteArray.toList_eq]; rfl
theorem str_drop (x : List Int) (o : Nat) : ((strOfNums x).extract o (strOfNums x).size).toList = u8L (x.drop o) := by
  rw [ByteArray.toList_eq, strOfNums_size, ByteArray.data_extract, Array.toList_extract, strOfNums_data]
  have e : (x.map fun n => UInt8.ofNat n.toNat).extract o x.length = ((x.map fun n => UInt8.ofNat n.toNat).drop o).take (x.length - o) := by simp [List.extract_eq_take_drop]
  rw [e, List.take_of_length_le (by simp)]
  simp [u8L, List.map_drop]
theorem u8_inj {a b : Int} (ha : 0 ≤ a ∧ a ≤ 255) (hb : 0 ≤ b ∧ b ≤ 255) : UInt8.ofNat a.toNat = UInt8.ofNat b.toNat ↔ a = b := by
  constructor
  · intro h
    have := congrArg UInt8.toNat h
    simp only [UInt8.toNat_ofNat'] at this
    omega
  · rintro rfl; rfl
theorem u8_lt {a b : Int} (ha : 0 ≤ a ∧ a ≤ 255) (hb : 0 ≤ b ∧ b ≤ 255) : UInt8.ofNat a.toNat < UInt8.ofNat b.toNat ↔ a < b := by
  rw [UInt8.lt_iff_toNat_lt]
  simp only [UInt8.toNat_ofNat']
  omega
abbrev Byte1 (x : List Int) : Prop := ∀ c ∈ x, 0 ≤ c ∧ c ≤ 255
theorem wrap64_in' (n : Int) (h : -9223372036854775808 ≤ n ∧ n ≤ 9223372036854775807) : wrap64 n = n := by unfold wrap64; omega
theorem u8L_inj : ∀ {x y : List Int}, Byte1 x → Byte1 y → (u8L x = u8L y ↔ x = y)
  | [], [], _, _ => by simp [u8L]
  | [], _ :: _, _, _ => by simp [u8L]
  | _ :: _, [], _, _ => by simp [u8L]
  | a :: x, b :: y, hx, hy => by
    have ih := u8L_inj (x := x) (y := y) (fun c h => hx c (List.mem_cons_of_mem _ h)) (fun c h => hy c (List.mem_cons_of_mem _ h))
    unfold u8L at ih ⊢
    rw [List.map_cons, List.map_cons, List.cons.injEq, List.cons.injEq, ih, u8_inj (hx a (List.mem_cons_self ..)) (hy b (List.mem_cons_self ..))]
theorem bytesLess_ll : ∀ {x y : List Int}, Byte1 x → Byte1 y → Op.bytesLess (u8L x) (u8L y) = decide (ll x y)
  | [], [], _, _ => by simp [u8L, Op.bytesLess]
  | [], _ :: _, _, _ => by simp [u8L, Op.bytesLess]
  | _ :: _, [], _, _ => by simp [u8L, Op.bytesLess]
  | a :: x, b :: y, hx, hy => by
    have ih := bytesLess_ll (x := x) (y := y) (fun c h => hx c (List.mem_cons_of_mem _ h)) (fun c h => hy c (List.mem_cons_of_mem _ h))
    unfold u8L at ih ⊢
    rw [List.map_cons, List.map_cons]
    show (decide (UInt8.ofNat a.toNat < UInt8.ofNat b.toNat) || ((UInt8.ofNat a.toNat == UInt8.ofNat b.toNat) && Op.bytesLess _ _)) = _
    rw [ih, Bool.eq_iff_iff]
    simp only [Bool.or_eq_true, Bool.and_eq_true, decide_eq_true_eq, beq_iff_eq, ll_cons]
    rw [u8_lt (hx a (List.mem_cons_self ..)) (hy b (List.mem_cons_self ..)), u8_inj (hx a (List.mem_cons_self ..)) (hy b (List.mem_cons_self ..))]
theorem byte1_drop {x : List Int} (h : Byte1 x) (o : Nat) : Byte1 (x.drop o) := fun c hc => h c (List.mem_of_mem_drop hc)
theorem byte1_doc {ds : List (List Int)} (hb : Bytes ds) (i : Nat) : Byte1 (docF ds i) := by
  intro c hc
  unfold docF at hc
  rw [List.getD_eq_getElem?_getD] at hc
  cases h : ds[i]? with
  | none => rw [h] at hc; simp at hc
  | some d =>
    rw [h] at hc
    exact hb d (List.mem_of_getElem? h) c hc
instance (ds : List (List Int)) (a b : Nat × Nat) : Decidable (hless ds a b) := by unfold hless; infer_instance
theorem hit_bounds {ds : List (List Int)} {a : Nat × Nat} (h : a ∈ hitsF 0 ds) : a.1 < ds.length ∧ a.2 ≤ (docF ds a.1).length := by
  rw [mem_hitsF] at h
  simpa using h
theorem less_f {ds : List (List Int)} (hb : Bytes ds) {a b : Nat × Nat} (ha : a ∈ hitsF 0 ds) (hb' : b ∈ hitsF 0 ds) :
    concordanceref9_less.f (strsF ds) a.1 a.2 b.1 b.2 = some (decide (hless ds a b)) := by
  have h1 := hit_bounds ha
  have h2 := hit_bounds hb'
  unfold concordanceref9_less.f
  rw [strsF_length, strsF_at ds h1.1, strsF_at ds h2.1, strOfNums_size, strOfNums_size, Int.toNat_natCast, Int.toNat_natCast]
  rw [← strOfNums_size (docF ds a.1), ← strOfNums_size (docF ds b.1), str_drop, str_drop, strOfNums_size, strOfNums_size]
  rw [if_pos (by omega), if_pos (by omega), if_pos (by omega), if_pos (by omega), if_pos (by omega), if_pos (by omega), if_pos (by omega), if_pos (by omega)]
  have hx := byte1_drop (byte1_doc hb a.1) a.2
  have hy := byte1_drop (byte1_doc hb b.1) b.2
  by_cases he : (docF ds a.1).drop a.2 = (docF ds b.1).drop b.2
  · rw [if_pos (by rw [he])]
    congr 1
    rw [decide_eq_decide]
    unfold hless
    constructor
    · intro h; exact .inr ⟨he, by omega⟩
    · rintro (h | h)
      · rw [he] at h; exact absurd h (ll_irrefl _)
      · have := h.2; omega
  · rw [if_neg (fun h => he ((u8L_inj hx hy).1 h)), bytesLess_ll hx hy]
    congr 1
    rw [decide_eq_decide]
    unfold hless
    constructor
    · exact .inl
    · rintro (h | h)
      · exact h
      · exact absurd h.1 he

theorem strings_l {ds : List (List Int)} (hn : ds.length ≤ 1000000) : ∀ (k i : Nat), i ≤ ds.length → ds.length - i < k → concordanceref9_Strings.l0 k ds (strsF (ds.take i)) (i : Int) = some (strsF ds)
  | 0, i, _, h => by omega
  | k + 1, i, hi, h => by
    unfold concordanceref9_Strings.l0
    by_cases hlt : i < ds.length
    · rw [if_pos (by omega), if_pos (by omega), if_pos (by rw [strsF_length, List.length_take]; omega), wrap64_in' _ (by omega)]
      have e : strsF (ds.take i) ++ [strOfNums (rd_L1 ds (i : Int))] = strsF (ds.take (i + 1)) := by
        rw [take_succ_doc ds hlt]
        simp [strsF, rd_L1, docF]
      rw [e]
      exact strings_l hn k (i + 1) (by omega) (by omega)
    · rw [if_neg (by omega), List.take_of_length_le (by omega)]
theorem strings_f {ds : List (List Int)} (hn : ds.length ≤ 1000000) : concordanceref9_Strings.f (ds.length + 1) ds = some (strsF ds) := by
  have := strings_l hn (ds.length + 1) 0 (Nat.zero_le _) (by omega)
  simpa [concordanceref9_Strings.f, strsF] using this

theorem place_l {ds : List (List Int)} (hl : lenF ds ≤ 1000000) {i o : Nat} (hi : i ≤ ds.length) (hn : ds.length ≤ 1000000) (ho : o ≤ 1000000) : ∀ (k t : Nat), t ≤ i → i - t < k → concordanceref9_Place.l0 k (strsF ds) (i : Int) ((o + startF ds t : Nat) : Int) (t : Int) = some ((startF ds i + o : Nat) : Int)
  | 0, t, _, h => by omega
  | k + 1, t, ht, h => by
    unfold concordanceref9_Place.l0
    by_cases hlt : t < i
    · have hs := startF_succ ds (i := t) (by omega)
      have hle := startF_le ds (t + 1)
      rw [if_pos (by omega), if_pos (by omega), if_pos (by rw [strsF_length]; omega), strsF_at ds (by omega), strOfNums_size, wrap64_in' (((o + startF ds t : Nat) : Int) + _) (by omega), wrap64_in' _ (by omega), wrap64_in' _ (by omega)]
      have := place_l hl hi hn ho k (t + 1) (by omega) (by omega)
      rw [← this]
      congr 1
      omega
    · have : t = i := by omega
      subst this
      rw [if_neg (by omega)]
      congr 1
      omega
theorem place_f {ds : List (List Int)} (hl : lenF ds ≤ 1000000) (hn : ds.length ≤ 1000000) {a : Nat × Nat} (h : a ∈ hitsF 0 ds) : concordanceref9_Place.f (a.1 + 1) (strsF ds) a.1 a.2 = some ((placeF ds a : Nat) : Int) := by
  have h1 := hit_bounds h
  have h2 : placeF ds a < lenF ds := hit_lt ds h
  unfold placeF at h2
  have := place_l (i := a.1) (o := a.2) hl (by omega) hn (by omega) (a.1 + 1) 0 (Nat.zero_le _) (by omega)
  simp only [startF, List.take_zero, lenF, Nat.add_zero] at this
  exact this

/-! Merging. -/
section
variable {α : Type}
def mergeF (R : α → α → Bool) : List α → List α → List α
  | [], b => b
  | a, [] => a
  | x :: a, y :: b => if R y x then y :: mergeF R (x :: a) b else x :: mergeF R a (y :: b)
theorem merge_nil_right (R : α → α → Bool) (a : List α) : mergeF R a [] = a := by cases a <;> simp [mergeF]
theorem merge_nil_left (R : α → α → Bool) (b : List α) : mergeF R [] b = b := by simp [mergeF]
theorem merge_cons (R : α → α → Bool) (x y : α) (a b : List α) : mergeF R (x :: a) (y :: b) = if R y x then y :: mergeF R (x :: a) b else x :: mergeF R a (y :: b) := by simp [mergeF]
theorem merge_perm (R : α → α → Bool) : ∀ a b : List α, (mergeF R a b).Perm (a ++ b)
  | [], b => by simp [mergeF]
  | x :: a, [] => by simp [mergeF]
  | x :: a, y :: b => by
    rw [merge_cons]
    split
    · refine (List.Perm.cons y (merge_perm R (x :: a) b)).trans ?_
      exact (List.perm_middle (a := y) (l₁ := x :: a) (l₂ := b)).symm
    · exact List.Perm.cons x (merge_perm R a (y :: b))
termination_by a b => a.length + b.length
theorem merge_sorted {S : List α} {R : α → α → Prop} [DecidableRel R] (htr : ∀ a b c, R a b → R b c → R a c) (htri : ∀ a b, a ∈ S → b ∈ S → R a b ∨ a = b ∨ R b a) :
    ∀ a b : List α, (∀ x ∈ a, x ∈ S) → (∀ x ∈ b, x ∈ S) → (∀ x ∈ a, ∀ y ∈ b, x ≠ y) → a.Pairwise R → b.Pairwise R → (mergeF (fun x y => decide (R x y)) a b).Pairwise R
  | [], b, _, _, _, _, hb => by simpa [mergeF] using hb
  | x :: a, [], _, _, _, ha, _ => by simpa [mergeF] using ha
  | x :: a, y :: b, hA, hB, hne, ha, hb => by
    rw [merge_cons]
    rw [List.pairwise_cons] at ha hb
    split
    · rename_i h
      have h := of_decide_eq_true h
      rw [List.pairwise_cons]
      refine ⟨fun z hz => ?_, merge_sorted htr htri (x :: a) b hA (fun z hz => hB z (List.mem_cons_of_mem _ hz)) (fun p hp q hq => hne p hp q (List.mem_cons_of_mem _ hq)) (List.pairwise_cons.2 ha) hb.2⟩
      rcases List.mem_append.1 ((merge_perm _ _ _).subset hz) with hz | hz
      · rcases List.mem_cons.1 hz with rfl | hz
        · exact h
        · exact htr _ _ _ h (ha.1 z hz)
      · exact hb.1 z hz
    · rename_i h
      have h : ¬ R y x := fun h' => h (decide_eq_true h')
      have hxy : R x y := by
        rcases htri x y (hA x (List.mem_cons_self ..)) (hB y (List.mem_cons_self ..)) with g | g | g
        · exact g
        · exact absurd g (hne x (List.mem_cons_self ..) y (List.mem_cons_self ..))
        · exact absurd g h
      rw [List.pairwise_cons]
      refine ⟨fun z hz => ?_, merge_sorted htr htri a (y :: b) (fun z hz => hA z (List.mem_cons_of_mem _ hz)) hB (fun p hp q hq => hne p (List.mem_cons_of_mem _ hp) q hq) ha.2 (List.pairwise_cons.2 hb)⟩
      rcases List.mem_append.1 ((merge_perm _ _ _).subset hz) with hz | hz
      · exact ha.1 z hz
      · rcases List.mem_cons.1 hz with rfl | hz
        · exact hxy
        · exact htr _ _ _ hxy (hb.1 z hz)
termination_by a b => a.length + b.length

end
theorem hless_trans {ds : List (List Int)} {a b c : Nat × Nat} : hless ds a b → hless ds b c → hless ds a c := by
  unfold hless
  rintro (h1 | ⟨h1, h2⟩) (g1 | ⟨g1, g2⟩)
  · exact .inl (ll_trans h1 g1)
  · exact .inl (by rw [← g1]; exact h1)
  · exact .inl (by rw [h1]; exact g1)
  · exact .inr ⟨h1.trans g1, by omega⟩
theorem hless_tri {ds : List (List Int)} (a b : Nat × Nat) (ha : a ∈ hitsF 0 ds) (hb : b ∈ hitsF 0 ds) : hless ds a b ∨ a = b ∨ hless ds b a := by
  have h1 := hit_bounds ha
  have h2 := hit_bounds hb
  unfold hless
  rcases ll_tri ((docF ds a.1).drop a.2) ((docF ds b.1).drop b.2) with h | h | h
  · exact .inl (.inl h)
  · rcases Nat.lt_trichotomy a.1 b.1 with g | g | g
    · exact .inl (.inr ⟨h, g⟩)
    · refine .inr (.inl ?_)
      have := congrArg List.length h
      rw [g, List.length_drop, List.length_drop] at this
      rw [g] at h1
      ext1
      · exact g
      · omega
    · exact .inr (.inr (.inr ⟨h.symm, g⟩))
  · exact .inr (.inr (.inl h))

/-! The inverse. -/
def invF (sa : List Nat) (i : Nat) : List Int := (List.range i).foldl (fun out t => out.set (sa.getD t 0) (t : Int)) (List.replicate sa.length 0)
def seenF (sa : List Nat) (i : Nat) : List Bool := (List.range i).foldl (fun out t => out.set (sa.getD t 0) true) (List.replicate sa.length false)
theorem invF_succ (sa : List Nat) (i : Nat) : invF sa (i + 1) = (invF sa i).set (sa.getD i 0) (i : Int) := by unfold invF; rw [List.range_succ, List.foldl_append]; rfl
theorem seenF_succ (sa : List Nat) (i : Nat) : seenF sa (i + 1) = (seenF sa i).set (sa.getD i 0) true := by unfold seenF; rw [List.range_succ, List.foldl_append]; rfl
theorem invF_length (sa : List Nat) : ∀ i, (invF sa i).length = sa.length
  | 0 => by simp [invF]
  | i + 1 => by rw [invF_succ, List.length_set, invF_length sa i]
theorem seenF_length (sa : List Nat) : ∀ i, (seenF sa i).length = sa.length
  | 0 => by simp [seenF]
  | i + 1 => by rw [seenF_succ, List.length_set, seenF_length sa i]
theorem seenF_not (sa : List Nat) {p : Nat} : ∀ i, (∀ t, t < i → sa.getD t 0 ≠ p) → (seenF sa i).getD p false = false
  | 0, _ => by
    unfold seenF
    simp only [List.range_zero, List.foldl_nil, List.getD_eq_getElem?_getD, List.getElem?_replicate]
    split <;> rfl
  | i + 1, h => by
    rw [seenF_succ, List.getD_eq_getElem?_getD, List.getElem?_set, if_neg (h i (by omega)), ← List.getD_eq_getElem?_getD]
    exact seenF_not sa i (fun t ht => h t (by omega))
theorem invF_at {sa : List Nat} (hp : sa.Perm (List.range sa.length)) : ∀ i, i ≤ sa.length → ∀ t, t < i → (invF sa i).getD (sa.getD t 0) 0 = (t : Int)
  | 0, _, t, h => by omega
  | i + 1, hi, t, h => by
    have hnd : sa.Nodup := hp.nodup_iff.2 List.nodup_range
    have hb : sa.getD i 0 < sa.length := (perm_range_mem hp).1 (getD_mem (by omega))
    rw [invF_succ, List.getD_eq_getElem?_getD, List.getElem?_set]
    by_cases e : t = i
    · subst e
      rw [if_pos rfl, if_pos (by rw [invF_length]; exact hb)]
      rfl
    · have hne : ¬ sa.getD i 0 = sa.getD t 0 := fun h' => pairwise_getD (R := fun a b => a ≠ b) hnd (show t < i by omega) (by omega) h'.symm
      rw [if_neg hne, ← List.getD_eq_getElem?_getD]
      exact invF_at hp i (by omega) t (by omega)
theorem inv_l {sa : List Nat} (hp : sa.Perm (List.range sa.length)) (hn : sa.length ≤ 1000000) : ∀ (k i : Nat), i ≤ sa.length → sa.length - i < k → suffix_Inverse.l0 k (ni sa) (invF sa i) (seenF sa i) (ni sa) (sa.length : Int) (i : Int) = some (invF sa sa.length, true)
  | 0, i, _, h => by omega
  | k + 1, i, hi, h => by
    unfold suffix_Inverse.l0
    by_cases hlt : i < sa.length
    · have hb : sa.getD i 0 < sa.length := (perm_range_mem hp).1 (getD_mem (by omega))
      have hrd : rd (ni sa) (i : Int) = ((sa.getD i 0 : Nat) : Int) := by
        show (ni sa).getD (i : Int).toNat 0 = _
        rw [Int.toNat_natCast]; exact ni_getD sa i
      have hnd : sa.Nodup := hp.nodup_iff.2 List.nodup_range
      have hseen : rdOf false (seenF sa i) ((sa.getD i 0 : Nat) : Int) = false := by
        unfold rdOf
        rw [Int.toNat_natCast]
        exact seenF_not sa i (fun t ht h' => pairwise_getD (R := fun a b => a ≠ b) hnd ht (by omega) h')
      have hnl : (ni sa).length = sa.length := by simp [ni]
      rw [hrd, hseen, hnl, invF_length, seenF_length]
      rw [if_pos (by omega), if_pos (by omega), if_pos (by omega), if_neg (by omega), if_neg (by omega), if_pos (by omega), if_pos (by omega), if_neg (by simp), if_pos (by omega), wrap64_in' _ (by omega), Int.toNat_natCast, ← invF_succ, ← seenF_succ]
      exact inv_l hp hn k (i + 1) (by omega) (by omega)
    · have : i = sa.length := by omega
      subst this
      rw [if_neg (by omega)]
theorem inv_f {sa : List Nat} (hp : sa.Perm (List.range sa.length)) (hn : sa.length ≤ 1000000) : suffix_Inverse.f (sa.length + 1) (ni sa) = some (invF sa sa.length, true) := by
  have hnl : (ni sa).length = sa.length := by simp [ni]
  unfold suffix_Inverse.f
  rw [hnl, if_pos (by omega), if_pos (by omega), if_pos (by omega), Int.toNat_natCast]
  exact inv_l hp hn (sa.length + 1) 0 (Nat.zero_le _) (by omega)
end Go.Proofs.Ytadekjidjhglaaa.Sf
