/- Walks: suffix.Sort, made, awake of layer 10. -/
import Derived.Test.YtadekjidjhglaaaBi
import Derived.Test.YtadekjidjhglaaaBf
set_option linter.unusedVariables false
set_option linter.unusedSimpArgs false
namespace Go.Proofs.Ytadekjidjhglaaa
open Go.RowKit Go.Proofs.YtadekjidjhglaaaW.PrintWords Go.Proofs.YtadekjidjhglaaaW.PrintLast Go.Proofs.YtadekjidjhglaaaW.PrintMore

/-- Documents that New takes. -/
structure Fits (ds : List (List Int)) : Prop where
  n : ds.length ≤ 500
  d : ∀ d ∈ ds, d.length ≤ 2000
  t : Sf.lenF ds ≤ 60000
  b : Sf.Bytes ds
theorem lenF_sum (ds : List (List Int)) : Sf.lenF ds = (ds.map List.length).sum + ds.length := by
  induction ds with
  | nil => rfl
  | cons d ds ih => simp [Sf.lenF, ih]; omega
theorem fits_few {ds : List (List Int)} (h : fewF ds = true) (hb : Sf.Bytes ds) : Fits ds ∧ Sf.lenF ds ≤ 3040 := by
  unfold fewF at h
  rw [decide_eq_true_iff] at h
  have := lenF_sum ds
  exact ⟨⟨by omega, h.2.1, by omega, hb⟩, by omega⟩

set_option maxRecDepth 100000 in
theorem made_calls (A : Option Addr) (n c : Nat) (ds : List (List Int)) (w : World) (h : Kd.C (Kd.slice 5 (Kd.int .u8)) w A n ds) (hf : Fits ds) :
    Calls Try.prog 17 #[.slice A n c] w fun e w' => ∃ g, e = .returned (.pointer (some ⟨g, 0, none⟩)) ∧ TextAt w' g ds ∧ w.heap.size ≤ g ∧ Below w.heap.size w w' := by
  have H := Aside0.mk h
  have HF := Aside0.mk hf
  clear h hf
  go_enter Try.func17, Try.ntmps17
  go_wp2_with fail
  refine (new_calls A n c ds _ H.out H.out.1 (by have := H.out.1; have := HF.out.n; omega) HF.out.d HF.out.t HF.out.b).mono ?_
  rintro e w1 ⟨g, rfl, hT, hg, hB⟩
  have HT := Aside0.mk hT
  have HB := Aside0.mk hB
  clear hT hB
  go_wp2_with fail
  go_ret
  exact ⟨g, rfl, HT.out, hg, HB.out⟩

set_option maxRecDepth 100000 in
theorem sort_calls (A : Option Addr) (n c : Nat) (ds : List (List Int)) (w : World) (h : Kd.C (Kd.slice 5 (Kd.int .u8)) w A n ds) (hf : Fits ds) :
    Calls Try.prog 24 #[.slice A n c] w fun e w' => ∃ v sa, e = .returned (.tuple #[v, .int .i64 0]) ∧ Sf.SA (Sf.r0 ds) sa ∧ Kd.R (Kd.int .i64) 3 w' w.heap.size (fun _ => True) v (Sf.ni sa) ∧ Below w.heap.size w w' := by
  have H := Aside0.mk h
  have HF := Aside0.mk hf
  clear h hf
  go_enter Try.func24, Try.ntmps24
  go_wp2_with fail
  refine (new_calls A n c ds _ H.out H.out.1 (by have := H.out.1; have := HF.out.n; omega) HF.out.d HF.out.t HF.out.b).mono ?_
  rintro e w1 ⟨g, rfl, hT, hg, hB⟩
  have HT := Aside0.mk hT
  have HB := Aside0.mk hB
  clear hT hB hg
  go_wp2_with fail
  refine (array_calls g ds _ HT.out HF.out.b HF.out.n (by rw [Sf.rowF_length]; exact HF.out.t)).mono ?_
  rintro e w2 ⟨v, sa, rfl, hs, hR, hB2⟩
  have HS := Aside0.mk hs
  have HR := Aside0.mk (R_low hR HB.out)
  have HB2 := Aside0.mk (below_then HB.out HB.out.size hB2)
  clear hs hR hB2
  obtain ⟨Av, cv, rfl, _, _⟩ := R_is HR.out rfl
  go_wp2_with fail
  go_ret2
  exact ⟨_, sa, rfl, HS.out, HR.out, HB2.out⟩

/-- A block just made, as a row of whole numbers. -/
theorem C_block {k : IntKind} {e b : Nat} {fr : Nat × Nat} {cs : Array Value} {xs : List Int} {W : World} (h : W.heap[b]? = some (.cells cs e fr)) (hcs : cs.toList = xs.map (Value.int k)) (hl : xs.length ≤ 1000) : (Kd.int k).C W (some ⟨b, 0, none⟩) xs.length xs := by
  refine ⟨rfl, by omega, fun _ => ⟨_, rfl, fun j p hj => ⟨[.int k p], rfl, rfl, fun i u hu => ?_⟩⟩⟩
  have hi : i = 0 := by
    have := (List.getElem?_eq_some_iff.1 hu).1
    simp at this; omega
  subst hi
  simp at hu
  subst hu
  show W.cell? ((⟨b, 0, none⟩ : Addr).add (j * 1 + 0)) = _
  rw [add_plain, Nat.mul_one, Nat.add_zero, cell_of_row W b j cs e fr h]
  rw [← Array.getElem?_toList, hcs, List.getElem?_map, hj]
  rfl
theorem C_docs {e b : Nat} {fr : Nat × Nat} {cs : Array Value} {ds : List (List Int)} {W : World} (h : W.heap[b]? = some (.cells cs e fr)) (hl : ds.length ≤ 1000)
    (hcs : ∀ (j : Nat) (d : List Int), ds[j]? = some d → ∃ (A : Option Addr) (c : Nat), cs[j]? = some (Value.slice A d.length c) ∧ d.length ≤ c ∧ (Kd.int .u8).C W A d.length d) : (Kd.slice 5 (Kd.int .u8)).C W (some ⟨b, 0, none⟩) ds.length ds := by
  refine ⟨rfl, by omega, fun _ => ⟨_, rfl, fun j p hj => ?_⟩⟩
  obtain ⟨A, c, h1, h2, h3⟩ := hcs j p hj
  refine ⟨[.slice A p.length c], rfl, ⟨A, c, rfl, h2, h3⟩, fun i u hu => ?_⟩
  have hi : i = 0 := by
    have := (List.getElem?_eq_some_iff.1 hu).1
    simp at this; omega
  subst hi
  simp at hu
  subst hu
  show W.cell? ((⟨b, 0, none⟩ : Addr).add (j * 1 + 0)) = _
  rw [add_plain, Nat.mul_one, Nat.add_zero, cell_of_row W b j cs e fr h, h1]

set_option maxRecDepth 100000 in
theorem awake10_calls (w : World) : Calls Try.prog 16 #[] w fun e w' => e = .returned (.bool true) ∧ Below w.heap.size w w' := by
  have kc1 := Lib.run_convert_bytes_const (P := Try.prog) w 23 5 #[.int .u8 98, .int .u8 97] 2 2 Try.underlying23 Try.underlying5
  have kc2 := Lib.run_convert_bytes_const (P := Try.prog) (w.alloc (.cells #[.int .u8 98, .int .u8 97] 5 (2, 3))) 23 5 #[.int .u8 97] 1 1 Try.underlying23 Try.underlying5
  rw [World.size_alloc] at kc2
  go_enter Try.func16, Try.ntmps16
  go_wp2_with fail
  have b0 : (((w.alloc (.cells #[.int .u8 98, .int .u8 97] 5 (2, 3))).alloc (.cells #[.int .u8 97] 5 (1, 2))).alloc (.cells #[.slice (some ⟨w.heap.size, 0, none⟩) 2 2, .slice (some ⟨w.heap.size + 1, 0, none⟩) 1 1] 23)).heap[w.heap.size]? = some (.cells #[.int .u8 98, .int .u8 97] 5 (2, 3)) :=
    blk_alloc (blk_alloc (blk_new w _) _) _
  have b1 : (((w.alloc (.cells #[.int .u8 98, .int .u8 97] 5 (2, 3))).alloc (.cells #[.int .u8 97] 5 (1, 2))).alloc (.cells #[.slice (some ⟨w.heap.size, 0, none⟩) 2 2, .slice (some ⟨w.heap.size + 1, 0, none⟩) 1 1] 23)).heap[w.heap.size + 1]? = some (.cells #[.int .u8 97] 5 (1, 2)) :=
    blk_alloc (by have := blk_new (w.alloc (.cells #[.int .u8 98, .int .u8 97] 5 (2, 3))) (.cells #[.int .u8 97] 5 (1, 2)); rwa [World.size_alloc] at this) _
  have b2 : (((w.alloc (.cells #[.int .u8 98, .int .u8 97] 5 (2, 3))).alloc (.cells #[.int .u8 97] 5 (1, 2))).alloc (.cells #[.slice (some ⟨w.heap.size, 0, none⟩) 2 2, .slice (some ⟨w.heap.size + 1, 0, none⟩) 1 1] 23)).heap[w.heap.size + 1 + 1]? = some (.cells #[.slice (some ⟨w.heap.size, 0, none⟩) 2 2, .slice (some ⟨w.heap.size + 1, 0, none⟩) 1 1] 23) := by
    have := blk_new ((w.alloc (.cells #[.int .u8 98, .int .u8 97] 5 (2, 3))).alloc (.cells #[.int .u8 97] 5 (1, 2))) (.cells #[.slice (some ⟨w.heap.size, 0, none⟩) 2 2, .slice (some ⟨w.heap.size + 1, 0, none⟩) 1 1] 23)
    rwa [World.size_alloc, World.size_alloc] at this
  have HB : Aside0 (Below w.heap.size w (((w.alloc (.cells #[.int .u8 98, .int .u8 97] 5 (2, 3))).alloc (.cells #[.int .u8 97] 5 (1, 2))).alloc (.cells #[.slice (some ⟨w.heap.size, 0, none⟩) 2 2, .slice (some ⟨w.heap.size + 1, 0, none⟩) 1 1] 23))) := ⟨below_alloc (below_alloc (below_alloc (Below.refl _ _) _) _) _⟩
  generalize (((w.alloc (.cells #[.int .u8 98, .int .u8 97] 5 (2, 3))).alloc (.cells #[.int .u8 97] 5 (1, 2))).alloc (.cells #[.slice (some ⟨w.heap.size, 0, none⟩) 2 2, .slice (some ⟨w.heap.size + 1, 0, none⟩) 1 1] 23)) = W at *
  have hC : (Kd.slice 5 (Kd.int .u8)).C W (some ⟨w.heap.size + 1 + 1, 0, none⟩) 2 [[98, 97], [97]] := C_docs b2 (by decide) (fun j d hj => by
    match j, hj with
    | 0, hj =>
      simp at hj; subst hj
      exact ⟨_, _, rfl, Nat.le_refl _, C_block (xs := [98, 97]) b0 rfl (by decide)⟩
    | 1, hj =>
      simp at hj; subst hj
      exact ⟨_, _, rfl, Nat.le_refl _, C_block (xs := [97]) b1 rfl (by decide)⟩
    | j + 2, hj => simp at hj)
  have hF : Fits [[98, 97], [97]] := ⟨by decide, by decide, by decide, by unfold Sf.Bytes; decide⟩
  clear b0 b1 b2 kc1 kc2
  refine (sort_calls _ 2 2 _ _ hC hF).mono ?_
  rintro e w1 ⟨v, sa, rfl, hs, hR, hB⟩
  have hsa : sa = [2, 4, 1, 3, 0] := Sf.SA_unique hs ⟨by decide, by decide⟩
  subst hsa
  obtain ⟨A, c, rfl, _, hCv⟩ := R_is (n := 5) hR rfl
  have HB1 := Aside0.mk (below_then HB.out HB.out.size hB)
  have HCv := Aside0.mk hCv
  clear hs hR hB hC hF hCv HB
  go_wp2_with fail
  have hb := blk_new w1 (.cells #[.int .i64 2, .int .i64 4, .int .i64 1, .int .i64 3, .int .i64 0] 3)
  have hCl : (Kd.int .i64).C (w1.alloc (.cells #[.int .i64 2, .int .i64 4, .int .i64 1, .int .i64 3, .int .i64 0] 3)) (some ⟨w1.heap.size, 0, none⟩) 5 [2, 4, 1, 3, 0] := C_block (xs := [2, 4, 1, 3, 0]) hb rfl (by decide)
  refine (sameInts_calls A 5 c _ _ 5 5 [2, 4, 1, 3, 0] _ (Kd.C_below HCv.out (below_alloc (Below.refl _ _) _)) hCl).mono ?_
  rintro e w2 ⟨rfl, hB2⟩
  have HB2 := Aside0.mk (below_then (below_alloc HB1.out _) (by have := HB1.out.size; simp; omega) hB2)
  have hd : decide (Sf.ni [2, 4, 1, 3, 0] = [2, 4, 1, 3, 0]) = true := by decide
  rw [hd]
  clear hb hCl hB2 hd
  go_wp2_with fail
  go_ret
  exact ⟨rfl, HB2.out⟩
end Go.Proofs.Ytadekjidjhglaaa
