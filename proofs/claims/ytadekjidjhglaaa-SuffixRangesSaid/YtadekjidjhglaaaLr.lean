/- Walk of the law SuffixRuns. -/
import Derived.Test.YtadekjidjhglaaaRo
import Derived.Test.YtadekjidjhglaaaBm
import Derived.Test.YtadekjidjhglaaaBn
import Derived.Test.YtadekjidjhglaaaBk
import Derived.Deep.DrawnRows
import Derived.Deep.RegionLaw
set_option linter.unusedVariables false
set_option linter.unusedSimpArgs false
namespace Go.Proofs.Ytadekjidjhglaaa
open Go.RowKit Go.Proofs.YtadekjidjhglaaaW.PrintWords Go.Proofs.YtadekjidjhglaaaW.PrintLast Go.Proofs.YtadekjidjhglaaaW.PrintMore

theorem and_low (x : Int) (b : Nat) (hb : b < 1000000) : ∃ n : Nat, bits .and .i64 x (b : Int) = (n : Int) ∧ n ≤ b := by
  have hbb : b % 2 ^ IntKind.i64.bits = b := Nat.mod_eq_of_lt (by simp [IntKind.bits]; omega)
  refine ⟨(BitVec.ofInt IntKind.i64.bits x).toNat &&& b, ?_, Nat.and_le_right⟩
  simp only [bits, BitVec.ofInt_natCast, BitVec.toNat_and, BitVec.toNat_ofNat, hbb]
  have : (BitVec.ofInt IntKind.i64.bits x).toNat &&& b ≤ b := Nat.and_le_right
  rw [IntKind.wrap_i64]
  omega
abbrev RowB (w0 w : World) (g n cap : Nat) (xs : List Int) : Prop := (Kd.int .u8).R 5 w w0.heap.size (fun _ => True) (.slice (some ⟨g, 0, none⟩) n cap) xs

/-- So many noughts. -/
def mb (n : Nat) : Array Value := madeCells #[.int .u8 0] n
theorem make_eq (n : Nat) (hn : n ≤ 1000000) : ∀ W : World, (Instr.makeSlice 23 (.int .i64 (n : Int)) (.int .i64 (n : Int))).run Try.prog W = .ok (.slice (some ⟨W.heap.size, 0, none⟩) n n) (W.alloc (.cells (mb n) 5)) :=
  print_make_of 23 5 (.int .u8 0) 1 Try.underlying23 info5 rfl (by omega) n (by omega)
theorem mb_row {w W : World} (n : Nat) (hn : n ≤ 1000000) (hB : Below w.heap.size w W) : RowB w (W.alloc (.cells (mb n) 5)) W.heap.size n n (List.replicate n 0) := by
  have h := own_lit W w.heap.size 5 .u8 (List.replicate n 0) hB.size (by simp; omega)
  have e : (nums .u8 (List.replicate n 0)).toArray = mb n := by
    apply Array.ext'
    unfold mb
    rw [toList_madeCells_one]
    simp [nums]
  rw [e, List.length_replicate] at h
  refine Kd.R_of_own (enc := Value.int .u8) ?_ (fun _ _ => trivial)
  rw [List.length_replicate]
  exact h

theorem two_rows (w : World) (x y : Nat) (hx : x ≤ 1000000) (hy : y ≤ 1000000) :
    RowB w ((w.alloc (Obj.cells (mb x) 5)).alloc (Obj.cells (mb y) 5)).drew w.heap.size x x (List.replicate x 0) ∧ RowB w ((w.alloc (Obj.cells (mb x) 5)).alloc (Obj.cells (mb y) 5)).drew (w.heap.size + 1) y y (List.replicate y 0) ∧
    Below w.heap.size w ((w.alloc (Obj.cells (mb x) 5)).alloc (Obj.cells (mb y) 5)).drew := by
  have hB1 : Below w.heap.size w (w.alloc (Obj.cells (mb x) 5)) := below_alloc (Below.refl _ _) _
  have h1 := mb_row x hx (Below.refl w.heap.size w)
  have h2 := mb_row y hy hB1
  rw [World.size_alloc] at h2
  exact ⟨Kd.R_drew (Kd.R_alloc h1 _), Kd.R_drew h2, below_drew (below_alloc hB1 _)⟩
theorem byte1_set {xs : List Int} (h : Sf.Byte1 xs) (i : Nat) {x : Int} (hx : 0 ≤ x ∧ x ≤ 255) : Sf.Byte1 (xs.set i x) := by
  intro c hc
  rcases List.mem_or_eq_of_mem_set hc with h' | rfl
  · exact h c h'
  · exact hx
theorem byte1_zero (n : Nat) : Sf.Byte1 (List.replicate n 0) := fun c hc => by rw [List.eq_of_mem_replicate hc]; omega

theorem strings_calls (A : Option Addr) (n c : Nat) (ds : List (List Int)) (w : World) (h : Kd.C (Kd.slice 5 (Kd.int .u8)) w A n ds) (hc : n ≤ c) (hn : n ≤ 1000000) :
    Calls Try.prog 22 #[.slice A n c] w fun e w' => ∃ A2 c2, e = .returned (.slice A2 n c2) ∧ n ≤ c2 ∧ Kd.C Kd.string w' A2 n (Sf.strsF ds) ∧ Below w.heap.size w w' := by
  have hl : ds.length = n := h.1
  subst hl
  refine (concordanceref9_Strings.calls (ds.length + 1) A c ds _ w h hc (Sf.strings_f hn)).mono ?_
  rintro e w' ⟨v, rfl, hR, hB⟩
  obtain ⟨A2, c2, rfl, h1, h2⟩ := R_is (n := ds.length) hR (Sf.strsF_length ds)
  exact ⟨A2, c2, rfl, h1, h2, hB⟩

set_option maxRecDepth 100000 in
set_option maxHeartbeats 1000000 in
theorem runs_walk (n m p : Int) (w : World) :
    Calls Try.prog 4 #[.int .i64 n, .int .i64 m, .int .i64 p] w fun e w' => e = .returned (.bool true) ∧ Below w.heap.size w w' := by
  go_enter Try.func4, Try.ntmps4
  go_upto_region 2 with fail
  obtain ⟨a, ha, ha2⟩ := and_low n 511 (by omega)
  obtain ⟨b, hb, hb2⟩ := and_low m 255 (by omega)
  obtain ⟨q, hq, hq2⟩ := and_low p 255 (by omega)
  have ha' : bits .and .i64 n 511 = (a : Int) := ha
  have hb' : bits .and .i64 m 255 = (b : Int) := hb
  have hq' : bits .and .i64 p 255 = (q : Int) := hq
  have ht : ((q : Int)).tmod 5 = ((q % 5 : Nat) : Int) := rfl
  have hr : wrap64 (((q : Int)).tmod 5 + 1) = ((q % 5 + 1 : Nat) : Int) := by rw [ht]; unfold wrap64; omega
  rw [ha', hb', hq', hr, ht]
  clear ha hb hq ha' hb' hq' hr hq2 ht
  have hr5 : q % 5 + 1 ≤ 5 := Nat.mod_lt q (by decide)
  have hr1 : 1 ≤ q % 5 + 1 := Nat.succ_le_succ (Nat.zero_le _)
  generalize q % 5 + 1 = r at *
  have HB := Aside0.mk (Below.refl w.heap.size w)
  go_cut [7, 8] (fun s7 s8 wx => ∃ ga ca gb cb, s7 = .slice (some ⟨ga, 0, none⟩) a ca ∧ s8 = .slice (some ⟨gb, 0, none⟩) b cb ∧ Aside0 (ga ≠ gb) ∧ Aside0 (RowB w wx ga a ca (List.replicate a 0)) ∧ Aside0 (RowB w wx gb b cb (List.replicate b 0)) ∧ Aside0 (Below w.heap.size w wx))
  case first =>
    have ka := make_eq a (by omega)
    have kb := make_eq b (by omega)
    go_region
    · go_wp2_with fail
      go_meet
      obtain ⟨t1, t2, t3⟩ := two_rows w a b (by omega) (by omega)
      exact ⟨_, _, _, _, rfl, rfl, ⟨by omega⟩, ⟨t1⟩, ⟨t2⟩, ⟨t3⟩⟩
    · go_wp2_with fail
      go_meet
      obtain ⟨t1, t2, t3⟩ := two_rows w b a (by omega) (by omega)
      exact ⟨_, _, _, _, rfl, rfl, ⟨by omega⟩, ⟨t2⟩, ⟨t1⟩, ⟨t3⟩⟩
  case rest =>
    clear HB
    obtain ⟨ga, ca, gb, cb, rfl, rfl, HNE, HA, HBr, HB⟩ := hcut
    have HXA : Aside0 ((List.replicate a (0 : Int)).length = a ∧ Sf.Byte1 (List.replicate a 0)) := ⟨by simp, byte1_zero a⟩
    have HXB : Aside0 ((List.replicate b (0 : Int)).length = b ∧ Sf.Byte1 (List.replicate b 0)) := ⟨by simp, byte1_zero b⟩
    generalize List.replicate a (0 : Int) = xa at *
    generalize List.replicate b (0 : Int) = xb at *
    have hrz : ¬ (r : Int) = 0 := by omega
    go_wp2_with fail
    go_loopw [9, 28] (fun v9 v28 w' => ∃ i : Nat, v28 = .int .i64 i ∧ Aside0 (i ≤ a) ∧ (∃ xa : List Int, Aside0 (xa.length = a ∧ Sf.Byte1 xa) ∧ Aside0 (RowB w w' ga a ca xa)) ∧ Aside0 (RowB w w' gb b cb xb) ∧ Aside0 (Below w.heap.size w w')) (fun _ v28 _ => a - (intOf v28).toNat)
    case atStart => exact ⟨0, rfl, ⟨Nat.zero_le _⟩, ⟨xa, HXA, HA⟩, HBr, HB⟩
    case round =>
      clear HA HBr HB HXA xa
      obtain ⟨i, rfl, HI, ⟨xa, HXA, HA⟩, HBr, HB⟩ := hrel
      by_cases hlt : i < a
      · go_wp2_with (first | ((with_reducible refine gate_store (t := 5) (p := 38) rfl ?_); refine put_int 5 size5 38 _ rfl rfl rfl rfl rfl HA HB hlt ?_; intro w2 HA1 HB1 HG; have HBr1 := other_int HBr HG (by simpa using HNE.out); clear HBr HB HA HG))
        exact ⟨⟨i + 1, by go_num, ⟨by omega⟩, ⟨_, ⟨by rw [List.length_set]; exact HXA.out.1, byte1_set HXA.out.2 i (by first | omega | (rw [IntKind.wrap_u8]; omega))⟩, HA1⟩, HBr1, HB1⟩, by simp [intOf]; omega⟩
      · have hj : i = a := by have := HI.out; omega
        subst hj
        go_wp2_with fail
        obtain ⟨w3, hw3⟩ : ∃ w3, w3 = wr := ⟨_, rfl⟩
        rw [← hw3] at HA HBr HB
        go_loopw [10, 42] (fun v10 v42 w' => ∃ j : Nat, v42 = .int .i64 j ∧ Aside0 (j ≤ b) ∧ (∃ xb : List Int, Aside0 (xb.length = b ∧ Sf.Byte1 xb) ∧ Aside0 (RowB w w' gb b cb xb)) ∧ Aside0 (RowB w w' ga i ca xa) ∧ Aside0 (Below w.heap.size w w')) (fun _ v42 _ => b - (intOf v42).toNat)
        case atStart => exact ⟨0, rfl, ⟨Nat.zero_le _⟩, ⟨xb, HXB, by rw [← hw3]; exact HBr⟩, by rw [← hw3]; exact HA, by rw [← hw3]; exact HB⟩
        case round =>
          clear HA HBr HB HXB hw3
          obtain ⟨j, rfl, HI, ⟨xb, HXB, HBr⟩, HA, HB⟩ := hrel
          by_cases hlt2 : j < b
          · go_wp2_with (first | ((with_reducible refine gate_store (t := 5) (p := 52) rfl ?_); refine put_int 5 size5 52 _ rfl rfl rfl rfl rfl HBr HB hlt2 ?_; intro w2 HB2 HB1 HG; have HA1 := other_int HA HG (by simpa using Ne.symm HNE.out); clear HBr HB HA HG))
            exact ⟨⟨j + 1, by go_num, ⟨by omega⟩, ⟨_, ⟨by rw [List.length_set]; exact HXB.out.1, byte1_set HXB.out.2 j (by first | omega | (rw [IntKind.wrap_u8]; omega))⟩, HB2⟩, HA1, HB1⟩, by simp [intOf]; omega⟩
          · have hj : j = b := by have := HI.out; omega
            subst hj
            obtain ⟨_, _, e1, hca, hCA⟩ := R_is (n := i) HA.out HXA.out.1
            cases e1
            obtain ⟨_, _, e1, hcb, hCB⟩ := R_is (n := j) HBr.out HXB.out.1
            cases e1
            have HCA := Aside0.mk hCA
            have HCB := Aside0.mk hCB
            clear hCA hCB HA HBr
            go_upto_region 14 with fail
            have hblk := blk_new wr (.cells #[.slice (some ⟨ga, 0, none⟩) i ca, .slice (some ⟨gb, 0, none⟩) j cb, .slice (some ⟨ga, 0, none⟩) i ca] 23)
            have HBW : Aside0 (Below w.heap.size w (wr.alloc (.cells #[.slice (some ⟨ga, 0, none⟩) i ca, .slice (some ⟨gb, 0, none⟩) j cb, .slice (some ⟨ga, 0, none⟩) i ca] 23))) := ⟨below_alloc HB.out _⟩
            have hcA := Kd.C_below HCA.out (below_alloc (Below.refl wr.heap.size wr) (.cells #[.slice (some ⟨ga, 0, none⟩) i ca, .slice (some ⟨gb, 0, none⟩) j cb, .slice (some ⟨ga, 0, none⟩) i ca] 23))
            have hcB := Kd.C_below HCB.out (below_alloc (Below.refl wr.heap.size wr) (.cells #[.slice (some ⟨ga, 0, none⟩) i ca, .slice (some ⟨gb, 0, none⟩) j cb, .slice (some ⟨ga, 0, none⟩) i ca] 23))
            generalize wr.alloc (.cells #[.slice (some ⟨ga, 0, none⟩) i ca, .slice (some ⟨gb, 0, none⟩) j cb, .slice (some ⟨ga, 0, none⟩) i ca] 23) = W at *
            have hla := HXA.out.1
            have hlb := HXB.out.1
            have hC : (Kd.slice 5 (Kd.int .u8)).C W (some ⟨wr.heap.size, 0, none⟩) 3 [xa, xb, xa] := C_docs hblk (by simp) (fun j' d hj => by
              match j', hj with
              | 0, hj => simp at hj; subst hj; rw [hla]; exact ⟨_, _, rfl, hca, hcA⟩
              | 1, hj => simp at hj; subst hj; rw [hlb]; exact ⟨_, _, rfl, hcb, hcB⟩
              | 2, hj => simp at hj; subst hj; rw [hla]; exact ⟨_, _, rfl, hca, hcA⟩
              | j' + 3, hj => simp at hj)
            have hF : Fits [xa, xb, xa] := ⟨by simp, by simp; omega, by simp [Sf.lenF]; omega, by
              intro d hd
              simp only [List.mem_cons, List.not_mem_nil, or_false] at hd
              rcases hd with h | h | h
              · rw [h]; exact HXA.out.2
              · rw [h]; exact HXB.out.2
              · rw [h]; exact HXA.out.2⟩
            have HCd := Aside0.mk hC
            have HF := Aside0.mk hF
            have HLF : Aside0 (Sf.lenF [xa, xb, xa] ≤ 60000) := ⟨hF.t⟩
            clear hblk hcA hcB hC hF hla hlb HB HCA HCB HXA HXB
            generalize [xa, xb, xa] = ds at *
            go_wp2_with fail
            refine (made_calls _ 3 3 ds _ HCd.out HF.out).mono ?_
            rintro e w4 ⟨g, rfl, hT, hg, hB⟩
            have HT := Aside0.mk hT
            have HB4 := Aside0.mk hB
            clear hT hB hg
            go_wp2_with fail
            have HRL : Aside0 ((Sf.rowF ds).length ≤ 60000) := ⟨by rw [Sf.rowF_length]; exact HLF.out⟩
            refine (array_calls g ds _ HT.out HF.out.b HF.out.n HRL.out).mono ?_
            rintro e w5 ⟨v, sa, rfl, hs, hR, hB⟩
            have hsl : sa.length = (Sf.rowF ds).length := by rw [Sf.SA_len hs, Sf.r0_len]
            generalize hN : (Sf.rowF ds).length = N at *
            obtain ⟨Av, cv, rfl, hcv, hCv⟩ := R_is (n := N) hR (by simpa [Sf.ni] using hsl)
            have HS := Aside0.mk hs
            have HCv := Aside0.mk hCv
            have HB5 := Aside0.mk hB
            have HNN := Aside0.mk (And.intro hN hsl)
            have HBW5 := Aside0.mk (below_then HBW.out HBW.out.size (below_then HB4.out HB4.out.size hB))
            clear hs hCv hB hR hN hsl
            go_wp2_with fail
            refine (strings_calls _ 3 3 ds _ (Kd.C_below HCd.out (below_then HB4.out HB4.out.size HB5.out)) (by omega) (by omega)).mono ?_
            rintro e w6 ⟨A6, c6, rfl, hc6, hC6, hB6⟩
            have HC6 := Aside0.mk hC6
            have HB6 := Aside0.mk hB6
            clear hC6 hB6
            go_wp2_with fail
            refine (refArray_calls ds HF.out.b (by have := HLF.out; omega) A6 3 c6 hc6 _ HC6.out).mono ?_
            rintro e w7 ⟨v7, sa7, rfl, hs7, hR7, hB7⟩
            obtain rfl : sa7 = sa := Sf.SA_unique hs7 HS.out
            obtain ⟨A7, c7, rfl, hc7, hC7⟩ := R_is (n := N) hR7 (by have := HNN.out.2; simpa [Sf.ni] using this)
            have HC7 := Aside0.mk hC7
            have HB7 := Aside0.mk (below_then HB6.out HB6.out.size hB7)
            clear hs7 hR7 hC7 hB7
            go_wp2_with fail
            refine (sameInts_calls Av N cv _ A7 N c7 _ _ (Kd.C_below HCv.out HB7.out) HC7.out).mono ?_
            rintro e w8 ⟨rfl, hB8⟩
            rw [decide_eq_true rfl]
            have HB8 := Aside0.mk (below_then HB7.out HB7.out.size hB8)
            clear hB8
            go_wp2_with fail
            refine (ok_calls g ds _ (TextAt.below HT.out (below_then HB5.out HB5.out.size HB8.out)) HF.out.b HF.out.n (by rw [HNN.out.1]; exact HRL.out) Av N cv hcv sa7 (Kd.C_below HCv.out HB8.out) HS.out).mono ?_
            rintro e w9 ⟨rfl, hB9⟩
            have HB9 := Aside0.mk (below_then HBW5.out HBW5.out.size (below_then HB8.out HB8.out.size hB9))
            clear hB9
            go_wp2_with (first | (go_at_call 16; refine (awake10_calls _).mono ?_; rintro e w10 ⟨rfl, hB10⟩; have HB10 := Aside0.mk (below_then HB9.out HB9.out.size hB10); clear hB10))
            go_ret
            exact ⟨rfl, HB10.out⟩
theorem runs_row (n m p : Int) (w : World) (hn : (Lit.int .i64 n).wf = true) (hm : (Lit.int .i64 m).wf = true) (hp : (Lit.int .i64 p).wf = true) :
    Calls Try.prog 4 #[.int .i64 n, .int .i64 m, .int .i64 p] w fun e w' => e = .returned (.bool true) ∧ Below w.heap.size w w' := runs_walk n m p w
end Go.Proofs.Ytadekjidjhglaaa
