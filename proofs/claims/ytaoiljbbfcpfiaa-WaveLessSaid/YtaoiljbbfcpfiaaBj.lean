/- Walks: wave.New. -/
import Derived.Test.YtaoiljbbfcpfiaaBi
set_option linter.unusedVariables false
set_option linter.unusedSimpArgs false
namespace Go.Proofs.Ytaoiljbbfcpfiaa
open Go.RowKit Go.Proofs.YtaoiljbbfcpfiaaW.PrintWords Go.Proofs.YtaoiljbbfcpfiaaW.PrintLast Go.Proofs.YtaoiljbbfcpfiaaW.PrintMore
theorem mat_zero {w w1 : World} {A1 : Option Addr} {n c1 : Nat} {l : List Int} {cs : Array Value} (hR : (Kd.int .u16).R 33 w1 w.heap.size (fun _ => True) (.slice A1 n c1) l) (hb : Below w.heap.size w w1) (hs : cs.size = 19) (h0 : cs[0]? = some (.slice A1 n c1)) :
    MatTo w.heap.size (w1.alloc (.cells cs 41)) w1.heap.size l A1 n c1 0 0 :=
  ⟨hb.size, ⟨cs, blk_new w1 _, hs⟩, (blk_cell (blk_new w1 (.cells cs 41)) 0).trans h0, Kd.R_alloc hR _, fun t ht => absurd ht (Nat.not_lt_zero _), fun t ht => absurd ht (Nat.not_lt_zero _)⟩
theorem level_mem {l : List Int} {k : Nat} {x : Int} (h : x ∈ Wf.levelF l k) : x ∈ l := by
  induction k with
  | zero => exact h
  | succ k ih =>
    rw [Wf.levelF, Wf.partF, List.mem_append, List.mem_filter, List.mem_filter] at h
    rcases h with h | h
    · exact ih h.1
    · exact ih h.1
theorem filter_next (p : Int → Bool) {r : List Int} {i : Nat} (hi : i < r.length) : (r.take (i + 1)).filter p = (r.take i).filter p ++ if p (r.getD i 0) then [r.getD i 0] else [] := by
  rw [List.take_succ_eq_append_getElem hi, List.filter_append, List.getD_eq_getElem?_getD, List.getElem?_eq_getElem hi]
  cases h : p r[i] <;> simp [h]
def SetTo (r : List Int) (k i : Nat) (xs : List Bool) : Prop := xs.length = r.length ∧ ∀ t, t < i → xs.getD t false = Wf.bitF (r.getD t 0) k
theorem set_next {r : List Int} {k i : Nat} {xs : List Bool} (h : SetTo r k i xs) (hi : i < r.length) : SetTo r k (i + 1) (xs.set i (Wf.bitF (r.getD i 0) k)) := by
  refine ⟨by rw [List.length_set]; exact h.1, fun t ht => ?_⟩
  by_cases e : t = i
  · subst e
    rw [List.getD_eq_getElem?_getD, List.getElem?_set_self (by rw [h.1]; exact hi)]
    rfl
  · rw [List.getD_eq_getElem?_getD, List.getElem?_set_ne (by omega), ← List.getD_eq_getElem?_getD]
    exact h.2 t (by omega)
theorem set_all {r : List Int} {k : Nat} {xs : List Bool} (h : SetTo r k r.length xs) : xs = r.map (fun x => Wf.bitF x k) := by
  apply List.ext_getElem
  · rw [h.1]; simp
  · intro t h1 h2
    have h3 := h.2 t (by have := h.1; omega)
    rw [List.getD_eq_getElem?_getD, List.getElem?_eq_getElem h1, List.getD_eq_getElem?_getD, List.getElem?_eq_getElem (by have := h.1; omega)] at h3
    simpa using h3
theorem R_madeB (n base : Nat) (W : World) (hb : base ≤ W.heap.size) (hn : n ≤ 100000000) :
    Kd.bool.R 4 (W.alloc (.cells (madeCells #[.bool false] n) 4)) base (fun _ => True) (.slice (some ⟨W.heap.size, 0, none⟩) n n) (List.replicate n false) := by
  refine ⟨fun _ _ => trivial, (madeCells #[.bool false] n).toList, ?_, ?_⟩
  · have := World.ownsRow_lit (base := base) (e := 4) (size := 1) W (madeCells #[.bool false] n) n hb (by simp only [maxLen]; omega) (by simp [size_madeCells])
    rw [List.length_replicate]
    exact this
  · have := Kd.reps_made (R := Kd.bool.M (W.alloc (.cells (madeCells #[.bool false] n) 4)) base (fun j => True ∧ some j ≠ (Value.slice (some ⟨W.heap.size, 0, none⟩) n n).ownBlock)) (z := .bool false) (size := 1) (z0 := false) rfl (by omega) rfl n
    rw [Nat.mul_one] at this
    exact this
section
variable {W : World} {base b2 gs n cap : Nat} {xs : List Bool} {ys : List Int} {v : Value}
theorem putB (h : Kd.bool.R 4 W base (fun _ => True) (.slice (some ⟨gs, 0, none⟩) n cap) xs) (mq i : Nat) (b : Bool) : Kd.bool.R 4 ((W.drewN mq).setCell ⟨gs, i, none⟩ (.bool b)) base (fun _ => True) (.slice (some ⟨gs, 0, none⟩) n cap) (xs.set i b) := by
  have := (Kd.R_putg (Kd.R_drewN h mq) (i : Int) b).1
  rw [Int.toNat_natCast] at this
  exact this
theorem farB (h : (Kd.int .u16).R 33 W b2 (fun _ => True) v ys) (hs : Kd.bool.R 4 W base (fun _ => True) (.slice (some ⟨gs, 0, none⟩) n cap) xs) (mq i : Nat) (b : Bool) : (Kd.int .u16).R 33 ((W.drewN mq).setCell ⟨gs, i, none⟩ (.bool b)) b2 (fun _ => True) v ys := by
  obtain ⟨cells, hc⟩ := Kd.R_typed (Kd.R_drewN hs mq) gs (by simp [Value.ownBlock])
  exact Kd.R_set (Kd.R_drewN h mq) hc (by intro q hq; simp [Kd.int, Kd.scalar] at hq; omega) i (.bool b)
theorem atB (h : Kd.bool.R 4 W base (fun _ => True) (.slice (some ⟨gs, 0, none⟩) n cap) xs) (i : Nat) (hi : i < n) : W.cell? ⟨gs, i, none⟩ = some (.bool (xs.getD i false)) ∧ W.frozen? ⟨gs, i, none⟩ = false := by
  have := Kd.R_celln false h (i : Int) (by omega) (by omega)
  rw [Int.toNat_natCast] at this
  exact ⟨this.1.trans (by simp [rdOf]), this.2⟩
end
section
variable {ops : Array Oper} {rest : List Oper} {o : Oper} {a : Act} {Q : Exit → Act → World → Prop}
theorem app_u16z {w0 W : World} (hgd : o.guard = none) (s x : Operand) (ho : o.op = .call { callee := .builtin .append, args := #[s, x], argTypes := #[23, 23] })
    (v : Value) (xs : List Int) (y : Int) (z : Nat) (hz : z = W.heap.size) (hs : a.eval s = v) (hx : a.eval x = .slice (some ⟨z, 0, none⟩) 1 1)
    (HO : Aside0 ((Kd.int .u16).R 33 W w0.heap.size (fun _ => True) v xs)) (HB : Aside0 (Below w0.heap.size w0 W)) (hl : Aside0 (xs.length ≤ 100000000))
    (h : ∀ v1 w1, Aside0 ((Kd.int .u16).R 33 w1 w0.heap.size (fun _ => True) v1 (xs ++ [y])) → Aside0 (Below w0.heap.size w0 w1) → Aside0 (W.grownBy w1 v.ownBlock) → Aside0 (v1.ownBlock = v.ownBlock ∨ ∃ b, v1.ownBlock = some b ∧ W.heap.size ≤ b) → wpList Try.prog ops Q rest (a.put o.dst v1) w1) :
    wpList Try.prog ops Q (o :: rest) a (W.alloc (.cells #[.int .u16 y] 33)) := by
  subst hz
  exact app_u16 hgd s x ho v xs y hs hx HO HB hl h
end
def NewEnd (l : List Int) (n : Nat) (w : World) (e : Ending) (w' : World) : Prop := ∃ g A1 c1, e = .returned (.tuple #[.pointer (some ⟨g, 0, none⟩), .int .i64 0]) ∧ MatTo w.heap.size w' g l A1 n c1 9 9 ∧ Below w.heap.size w w'
set_option maxRecDepth 100000 in
set_option maxHeartbeats 2000000 in
theorem new_calls (A : Option Addr) (n c : Nat) (l : List Int) (w : World) (h : Kd.C (Kd.int .u16) w A n l) (hn : n ≤ 100000) (hl : bigB l = false) (hl0 : ∀ x ∈ l, 0 ≤ x) :
    Calls Try.prog 5 #[.slice A n c] w fun e w' => NewEnd l n w e w' := by
  have HD := Aside0.mk h
  have HLN := Aside0.mk h.1
  have HLB := Aside0.mk hl
  have HL0 := Aside0.mk hl0
  clear h hl hl0
  go_enter Try.func5, Try.ntmps5
  go_wp2_with (first | (go_at_call 10; refine (contains_calls A n c l _ HD.out (by omega)).mono ?_; rw [HLB.out]; rintro e w' ⟨rfl, rfl⟩) | (go_at_call 12; refine (clone_u16 A n c l _ HD.out hn).mono ?_; rintro e w1 ⟨vc, rfl, HR, HB⟩; obtain ⟨A1, c1, rfl, hc1, HR1⟩ := R_is HR HLN.out; have HM := Aside0.mk (mat_zero (cs := #[.slice A1 n c1, .pointer none, .pointer none, .pointer none, .pointer none, .pointer none, .pointer none, .pointer none, .pointer none, .pointer none, .int .i64 0, .int .i64 0, .int .i64 0, .int .i64 0, .int .i64 0, .int .i64 0, .int .i64 0, .int .i64 0, .int .i64 0]) HR HB rfl rfl); have HB1 := Aside0.mk (below_alloc HB (.cells #[.slice A1 n c1, .pointer none, .pointer none, .pointer none, .pointer none, .pointer none, .pointer none, .pointer none, .pointer none, .pointer none, .int .i64 0, .int .i64 0, .int .i64 0, .int .i64 0, .int .i64 0, .int .i64 0, .int .i64 0, .int .i64 0, .int .i64 0] 41)); clear HR HR1 HB) | (go_at_call 12; refine (clone_u16 A n c l _ (Kd.C_below HD.out HB1.out) hn).mono ?_; rintro e w2 ⟨vr, rfl, HR, HB⟩; have HR2 := Aside0.mk (Kd.R_lower HR HB1.out.size); have HM2 := Aside0.mk (HM.out.below HB); have HB2 := Aside0.mk (below_then HB1.out HB1.out.size HB); clear HR HB HB1 HM))
  generalize w1.heap.size = g at *
  go_loopw [5, 25] (fun v5 v25 w' => ∃ k : Nat, v25 = .int .i64 k ∧ Aside0 (k ≤ 9) ∧ Aside0 ((Kd.int .u16).R 33 w' w.heap.size (fun _ => True) v5 (Wf.levelF l k)) ∧ Aside0 (MatTo w.heap.size w' g l A1 n c1 k k) ∧ Aside0 (Below w.heap.size w w')) (fun v5 v25 _ => 9 - (intOf v25).toNat)
  case atStart => exact ⟨0, rfl, ⟨Nat.zero_le _⟩, HR2, HM2, HB2⟩
  case round =>
    clear HR2 HM2 HB2
    obtain ⟨k, rfl, HK, HR, HM, HB⟩ := hrel
    by_cases hlt : k < 9
    · have HLL : Aside0 ((Wf.levelF l k).length = n) := ⟨by rw [Wf.level_length]; exact HLN.out⟩
      obtain ⟨A5, c5, rfl, hc5, hC5⟩ := R_is HR.out HLL.out
      have HC5 := Aside0.mk hC5
      have HR5 := Aside0.mk HR.out
      have mk1 := fun W => run_make_row' (P := Try.prog) 42 4 (.bool false) 1 Try.underlying42 info4 rfl .i64 .i64 n (by omega) (by omega) W
      have HMB := Aside0.mk (R_madeB n wr.heap.size wr (Nat.le_refl _) (by omega))
      have HMW := Aside0.mk (below_alloc (Below.refl wr.heap.size wr) (.cells (madeCells #[.bool false] n) 4))
      have HZ8 := Aside0.mk (Kd.R_nil (Kd.int .u16) 33 (wr.alloc (.cells (madeCells #[.bool false] n) 4)) wr.heap.size (fun _ => True))
      have HLV := Aside0.mk (fun x (hx : x ∈ Wf.levelF l k) => And.intro (HL0.out x (level_mem hx)) (big_le HLB.out x (level_mem hx)))
      obtain ⟨r, hr⟩ : ∃ r, Wf.levelF l k = r := ⟨_, rfl⟩
      have HRK := Aside0.mk hr
      rw [hr] at HLL HC5 HR5 HLV
      have HS0 : Aside0 (SetTo r k 0 (List.replicate n false)) := ⟨by rw [← HLL.out]; exact ⟨List.length_replicate, fun t ht => absurd ht (Nat.not_lt_zero _)⟩⟩
      clear hC5 HR hr
      go_wp2_with fail
      clear mk1
      have hd9 : decide ((k : Int) < 9) = true := decide_eq_true (by omega)
      rw [hd9]
      clear hd9
      obtain ⟨wr1, hwr1⟩ : ∃ z, z = wr := ⟨_, rfl⟩
      subst hwr1
      obtain ⟨gs, hgs⟩ : ∃ gs, wr1.heap.size = gs := ⟨_, rfl⟩
      have HGS := Aside0.mk hgs
      rw [hgs] at HMB ⊢
      clear hgs
      go_loopw [8, 9, 33] (fun v8 v9 v33 w' => ∃ i : Nat, v33 = .int .i64 i ∧ Aside0 (i ≤ n) ∧ (∃ xs, Aside0 (SetTo r k i xs) ∧ Aside0 (Kd.bool.R 4 w' gs (fun _ => True) (.slice (some ⟨gs, 0, none⟩) n n) xs)) ∧ Aside0 ((Kd.int .u16).R 33 w' wr1.heap.size (fun _ => True) v8 ((r.take i).filter (fun x => !Wf.bitF x k))) ∧ Aside0 ((Kd.int .u16).R 33 w' wr1.heap.size (fun _ => True) v9 ((r.take i).filter (fun x => Wf.bitF x k))) ∧ Aside0 (ApartV v8 v9) ∧ Aside0 (Below wr1.heap.size wr1 w')) (fun _ _ v33 _ => n - (intOf v33).toNat)
      case atStart => exact ⟨0, rfl, ⟨Nat.zero_le _⟩, ⟨_, HS0, HMB⟩, HZ8, HZ8, ⟨fun _ h => by simp [Value.ownBlock] at h⟩, HMW⟩
      case round =>
        clear HS0 HMB HZ8 HMW
        obtain ⟨i, rfl, HI, ⟨xs, HX, HS⟩, H8, H9, HA, HW⟩ := hrel
        by_cases hin : i < n
        · obtain ⟨ad, e, hx⟩ := at_nat HC5.out HW.out i hin
          cases e
          have HFL := Aside0.mk (filter_next (fun x => !Wf.bitF x k) (r := r) (i := i) (by rw [HLL.out]; exact hin))
          have HFH := Aside0.mk (filter_next (fun x => Wf.bitF x k) (r := r) (i := i) (by rw [HLL.out]; exact hin))
          have HXN := Aside0.mk (set_next HX.out (show i < r.length by rw [HLL.out]; exact hin))
          have hx2 := HLV.out _ (mem_of_getD (show i < r.length by rw [HLL.out]; exact hin))
          generalize r.getD i 0 = x at *
          obtain ⟨hq1, hq2⟩ := atB HS.out i hin
          have hwx : IntKind.i64.wrap x = x := by rw [IntKind.wrap_i64]; omega
          have HLE : Aside0 (((r.take i).filter (fun x => !Wf.bitF x k)).length ≤ 100000000 ∧ ((r.take i).filter (fun x => Wf.bitF x k)).length ≤ 100000000) := ⟨by
            have h1 := List.length_filter_le (fun x => !Wf.bitF x k) (r.take i)
            have h2 := List.length_filter_le (fun x => Wf.bitF x k) (r.take i)
            rw [List.length_take] at h1 h2
            omega⟩
          have HBC := Aside0.mk (fun W => bit_calls x k hx2 hlt W)
          have HLE1 := Aside0.mk HLE.out.1
          have HLE2 := Aside0.mk HLE.out.2
          cases hb : Wf.bitF x k with
          | true =>
            rw [hb] at HFL HFH HXN HBC
            clear hb hx2
            go_wp2_with (first | (go_at_call 13; refine (HBC.out _).mono ?_; rintro e w' ⟨rfl, ⟨mq, rfl⟩⟩; have HS1 := Aside0.mk (putB HS.out mq i true); have H81 := Aside0.mk (farB H8.out HS.out mq i true); have H91 := Aside0.mk (farB H9.out HS.out mq i true); have HW1 := Aside0.mk (below_set (j := i) (v := .bool true) (pw_below_drewN HW.out mq) (Nat.le_of_eq HGS.out)); clear HS H8 H9 HW) | ((at_builtin; refine app_u16z (w0 := wr1) rfl (.tmp 49) (.tmp 51) rfl u9 _ x _ (by simp [World.setCell]) rfl rfl H91 HW1 HLE2 ?_; intro v1 w3 HO1 HB1 hg hat; have H82 := Aside0.mk (R_beside H81.out rfl hg.out HA.out.symm); have HA2 := Aside0.mk (apart_step H81.out hat.out HA.out.symm).symm; have HS2 := Aside0.mk (Kd.R_over HS1.out H91.out (by intro q hq; simp [Kd.bool, Kd.scalar] at hq; omega) hg.out); clear hg hat H81 H91 HS1 HW1 HA)))
            go_round
            case rel => exact ⟨i + 1, by go_num, ⟨by omega⟩, ⟨_, HXN, HS2⟩, ⟨by rw [HFL.out]; simpa using H82.out⟩, ⟨by rw [HFH.out]; simpa using HO1.out⟩, HA2, HB1⟩
            case measure => simp [intOf]; omega
          | false =>
            rw [hb] at HFL HFH HXN HBC
            clear hb hx2
            go_wp2_with (first | (go_at_call 13; refine (HBC.out _).mono ?_; rintro e w' ⟨rfl, ⟨mq, rfl⟩⟩; have HS1 := Aside0.mk (putB HS.out mq i false); have H81 := Aside0.mk (farB H8.out HS.out mq i false); have H91 := Aside0.mk (farB H9.out HS.out mq i false); have HW1 := Aside0.mk (below_set (j := i) (v := .bool false) (pw_below_drewN HW.out mq) (Nat.le_of_eq HGS.out)); clear HS H8 H9 HW) | (at_builtin; refine app_u16z (w0 := wr1) rfl (.tmp 53) (.tmp 55) rfl u8 _ x _ (by simp [World.setCell]) rfl rfl H81 HW1 HLE1 ?_; intro v1 w3 HO1 HB1 hg hat; have H92 := Aside0.mk (R_beside H91.out rfl hg.out HA.out); have HA2 := Aside0.mk (apart_step H91.out hat.out HA.out); have HS2 := Aside0.mk (Kd.R_over HS1.out H81.out (by intro q hq; simp [Kd.bool, Kd.scalar] at hq; omega) hg.out); clear hg hat H81 H91 HS1 HW1 HA))
            go_round
            case rel => exact ⟨i + 1, by go_num, ⟨by omega⟩, ⟨_, HXN, HS2⟩, ⟨by rw [HFL.out]; simpa using HO1.out⟩, ⟨by rw [HFH.out]; simpa using H92.out⟩, HA2, HB1⟩
            case measure => simp [intOf]; omega
        · have hie : i = n := by have := HI.out; omega
          have HXA := Aside0.mk (set_all (by have := HX.out; rw [hie, ← HLL.out] at this; exact this))
          have hC := own_C HS.out
          rw [HXA.out] at hC
          have HCS := Aside0.mk hC
          have HV := Aside0.mk (fun W (hb : Below wr.heap.size wr W) => vec_calls _ n n ((n + 63) / 64) _ W (Kd.C_below HCS.out hb) (by omega) rfl)
          have h8 := H8.out
          have h9 := H9.out
          rw [hie, ← HLL.out, List.take_length] at h8 h9
          have H8' := Aside0.mk h8
          have H9' := Aside0.mk h9
          obtain ⟨A8, c8, e8⟩ := Kd.R_slice h8
          obtain ⟨A9, c9, e9⟩ := Kd.R_slice h9
          subst e8 e9
          have HMW := Aside0.mk (HM.out.below HW.out)
          have hq5 := (HMW.out.cell (1 + k) (by omega)).2
          have hk0 : (0 : Int) ≤ (k : Int) := by omega
          have hk9 : (k : Int) < 9 := by omega
          clear hC h8 h9 H8 H9 HX HS
          go_wp2_with fail
          go_region_held3 (fun w' => w'.frozen? ⟨g, 1 + k, none⟩ = false)
            (first | exact hq5 | exact (((HMW.out.below (pw_below_drewN (Below.refl _ _) 1)).below hBV).cell (1 + k) (by omega)).2 | exact ((((HMW.out.below (pw_below_drewN (Below.refl _ _) 1)).below hBV).put (1 + k) _ (by omega) (by omega) (by omega)).cell (1 + k) (by omega)).2)
            (first | (go_at_call 14; refine (HV.out _ (by first | exact Below.refl _ _ | exact pw_below_drewN (Below.refl _ _) _ | exact below_drew (Below.refl _ _))).mono ?_; rintro e w8 ⟨gt, rfl, hV, hBV⟩; obtain ⟨⟨v8, hc8⟩, hf8⟩ := ((HMW.out.below (pw_below_drewN (Below.refl _ _) 1)).below hBV).cell (1 + k) (by omega)))
          have HVS := Aside0.mk (hV.lower (b := g + 1) (by obtain ⟨_, h1, _⟩ := HMW.out.blk; exact blk_lt h1))
          have HBF : Aside0 (Wf.bitsF l k = r.map (fun x => Wf.bitF x k) ∧ Wf.zerosF l k = (r.filter (fun x => !Wf.bitF x k)).length) := ⟨by unfold Wf.bitsF Wf.zerosF; rw [HRK.out]; exact ⟨rfl, rfl⟩⟩
          rw [← HBF.out.1] at HVS
          have HM8 := Aside0.mk ((HMW.out.below (pw_below_drewN (Below.refl _ _) 1)).below hBV)
          have HM9 := Aside0.mk (HM8.out.level (Nat.le_refl k) hlt HVS.out)
          obtain ⟨cs8, hcs8, _⟩ := HM8.out.blk
          have H89 := Aside0.mk (Kd.R_set (Kd.R_below (Kd.R_below H8'.out (pw_below_drewN (Below.refl _ _) 1)) hBV) hcs8 (by intro q hq; simp [Kd.int, Kd.scalar] at hq; omega) (1 + k) (.pointer (some ⟨gt, 0, none⟩)))
          have H99 := Aside0.mk (Kd.R_set (Kd.R_below (Kd.R_below H9'.out (pw_below_drewN (Below.refl _ _) 1)) hBV) hcs8 (by intro q hq; simp [Kd.int, Kd.scalar] at hq; omega) (1 + k) (.pointer (some ⟨gt, 0, none⟩)))
          have HB9 := Aside0.mk (below_set (j := 1 + k) (v := .pointer (some ⟨gt, 0, none⟩)) (below_then (below_then (below_then HB.out HB.out.size HW.out) (Nat.le_trans HB.out.size HW.out.size) (pw_below_drewN (Below.refl _ _) 1)) (Nat.le_trans HB.out.size HW.out.size) hBV) HM9.out.lo)
          obtain ⟨⟨v9, hc9⟩, hf9⟩ := HM9.out.cell (10 + k) (by omega)
          have HBS := Aside0.mk HB.out.size
          have HA8 : Aside0 (ApartV (.slice A8 (r.filter (fun x => !Wf.bitF x k)).length c8) (.slice A1 n c1)) := ⟨fun j hj e => by
            have h1 := Kd.R_base H8'.out j hj
            have h2 := Kd.R_lt HM.out.row j e
            omega⟩
          clear hV hBV hc8 hf8 hcs8 HVS HMW HM8 H8' H9' HB
          generalize w8.setCell ⟨g, 1 + k, none⟩ (.pointer (some ⟨gt, 0, none⟩)) = w9 at *
          have HLV1 : Aside0 (Wf.levelF l (k + 1) = r.filter (fun x => !Wf.bitF x k) ++ r.filter (fun x => Wf.bitF x k)) := ⟨by rw [Wf.levelF, HRK.out]; rfl⟩
          obtain ⟨cs9, hcs9, _⟩ := HM9.out.blk
          have HM10 := Aside0.mk (HM9.out.zero (by omega) hlt)
          rw [HBF.out.2] at HM10
          have H810 := Aside0.mk (Kd.R_lower (Kd.R_set H89.out hcs9 (by intro q hq; simp [Kd.int, Kd.scalar] at hq; omega) (10 + k) (.int .i64 ((r.filter (fun x => !Wf.bitF x k)).length : Int))) HBS.out)
          have H910 := Aside0.mk (own_C (Kd.R_set H99.out hcs9 (by intro q hq; simp [Kd.int, Kd.scalar] at hq; omega) (10 + k) (.int .i64 ((r.filter (fun x => !Wf.bitF x k)).length : Int))))
          have HB10 := Aside0.mk (below_set (j := 10 + k) (v := .int .i64 ((r.filter (fun x => !Wf.bitF x k)).length : Int)) HB9.out HM9.out.lo)
          have HL8 : Aside0 ((r.filter (fun x => !Wf.bitF x k)).length + (r.filter (fun x => Wf.bitF x k)).length ≤ 100000000) := ⟨by
            have h1 := List.length_filter_le (fun x => !Wf.bitF x k) r
            have h2 := List.length_filter_le (fun x => Wf.bitF x k) r
            have h3 := HLL.out
            omega⟩
          clear hcs9 H89 H99 HM9 HB9
          go_wp2_with (first | (at_builtin; refine app_rows (w0 := w) 23 33 2 Try.underlying23 info33 (by omega) (by omega) rfl (.tmp 75) (.tmp 76) rfl _ _ _ _ _ _ rfl rfl H810 H910 HB10 HL8 ?_; intro v1 w3 HO1 HB1 hg hat; have HM11 := Aside0.mk (HM10.out.over H810.out hg.out HA8.out); clear hg hat H810 H910 HB10 HM10))
          go_round
          case rel => exact ⟨k + 1, by go_num, ⟨by omega⟩, ⟨by rw [HLV1.out]; exact HO1.out⟩, HM11, HB1⟩
          case measure => simp [intOf]; omega
    · have hke : k = 9 := by have := HK.out; omega
      have HM9 := Aside0.mk HM.out
      rw [hke] at HM9
      go_wp2_with fail
      go_ret2
      exact ⟨g, A1, c1, rfl, HM9.out, HB.out⟩
end Go.Proofs.Ytaoiljbbfcpfiaa
