/- Walks: the reference's sorted. -/
import Derived.Test.YtadekjidjhglaaaSe
import Derived.Test.YtadekjidjhglaaaBe
import Derived.Deep.DrawnRows
import Derived.Deep.RegionLaw
set_option linter.unusedVariables false
set_option linter.unusedSimpArgs false
namespace Go.Proofs.Ytadekjidjhglaaa
open Go.RowKit Go.Proofs.YtadekjidjhglaaaW.PrintWords Go.Proofs.YtadekjidjhglaaaW.PrintLast Go.Proofs.YtadekjidjhglaaaW.PrintMore

def tS (h : Nat × Nat) : S86 := ⟨(h.1 : Int), (h.2 : Int)⟩
abbrev HC (w : World) (A : Option Addr) (n : Nat) (hs : List (Nat × Nat)) : Prop := Kd.C k86 w A n (hs.map tS)
def vlen : Value → Nat
  | .slice _ n _ => n
  | _ => 0
@[simp] theorem vlen_slice (A : Option Addr) (n c : Nat) : vlen (.slice A n c) = n := rfl
theorem info86 : (Try.prog.info? 86).map (fun i => (i.zero, i.size, i.bytes)) = some (some (.agg #[.int .i64 0, .int .i64 0]), 2, 16) := by kernel_rfl
def SortedHits (ds : List (List Int)) (hs r : List (Nat × Nat)) : Prop := r.Perm hs ∧ r.Pairwise (Sf.hless ds)

section
variable {ops : Array Oper} {rest : List Oper} {o : Oper} {a : Act} {Q : Exit → Act → World → Prop}
theorem app_hit {w0 W : World} (hgd : o.guard = none) (s x : Operand) (ho : o.op = .call { callee := .builtin .append, args := #[s, x], argTypes := #[43, 43] })
    (v : Value) (xs : List (Nat × Nat)) (p : Nat × Nat) (hs : a.eval s = v) (hx : a.eval x = .slice (some ⟨W.heap.size, 0, none⟩) 1 1)
    (HO : Aside0 (Kd.R k86 86 W w0.heap.size (fun _ => True) v (xs.map tS))) (HB : Aside0 (Below w0.heap.size w0 W)) (hl : Aside0 (xs.length ≤ 100000000))
    (h : ∀ v1 w1, Aside0 (Kd.R k86 86 w1 w0.heap.size (fun _ => True) v1 ((xs ++ [p]).map tS)) → Aside0 (Below w0.heap.size w0 w1) → wpList Try.prog ops Q rest (a.put o.dst v1) w1) :
    wpList Try.prog ops Q (o :: rest) a (W.alloc (.cells #[.int .i64 p.1, .int .i64 p.2] 86)) := by
  refine app1 k86 43 86 _ 16 Try.underlying43 info86 rfl (show 0 < 2 by omega) (by omega) (by omega) (w0 := w0) hgd s x ho v (xs.map tS) (tS p) [.int .i64 p.1, .int .i64 p.2] hs hx (k86_mkM _ _ _ (tS p)) HO HB ⟨HB.out.size⟩ ⟨by rw [List.length_map]; exact hl.out⟩ (fun v1 w1 h1 h2 h3 h4 => h v1 w1 ⟨?_⟩ h2)
  have := h1.out
  rwa [show xs.map tS ++ [tS p] = (xs ++ [p]).map tS by simp] at this
theorem app_hits {w0 W : World} (hgd : o.guard = none) (s x : Operand) (ho : o.op = .call { callee := .builtin .append, args := #[s, x], argTypes := #[43, 43] })
    (v : Value) (xs ys : List (Nat × Nat)) (A : Option Addr) (m c : Nat) (hs : a.eval s = v) (hx : a.eval x = .slice A m c)
    (HO : Aside0 (Kd.R k86 86 W w0.heap.size (fun _ => True) v (xs.map tS))) (HR : Aside0 (HC W A m ys)) (HB : Aside0 (Below w0.heap.size w0 W)) (hl : Aside0 (xs.length + m ≤ 100000000))
    (h : ∀ v1 w1, Aside0 (Kd.R k86 86 w1 w0.heap.size (fun _ => True) v1 ((xs ++ ys).map tS)) → Aside0 (Below w0.heap.size w0 w1) → wpList Try.prog ops Q rest (a.put o.dst v1) w1) :
    wpList Try.prog ops Q (o :: rest) a W := by
  refine Kd.R_append_rows k86 (w0 := w0) w0.heap.size hgd s x 43 86 _ 16 ho Try.underlying43 info86 rfl (show 0 < 2 by omega) (by omega) v (xs.map tS) (ys.map tS) A m c (fun _ => True) (fun _ => False) hs hx HO.out HR.out (fun y cs hk => ?_) (fun _ hk => hk.elim) (fun _ _ => trivial) HB.out HB.out.size ?_ (fun v1 w1 h1 h2 h3 h4 => h v1 w1 ⟨?_⟩ ⟨h2⟩)
  · obtain rfl := k86_open hk
    exact k86_mkM _ _ _ _
  · have := hl.out
    rw [List.length_map]; omega
  · rwa [List.map_append]
end

theorem HC_len {w : World} {A : Option Addr} {n : Nat} {hs : List (Nat × Nat)} (h : HC w A n hs) : hs.length = n := by have := h.1; simpa using this
theorem HC_take {w : World} {A : Option Addr} {n : Nat} {hs : List (Nat × Nat)} (h : HC w A n hs) {m : Nat} (hm : m ≤ n) : HC w A m (hs.take m) := by
  have hl := HC_len h
  subst hl
  have h' : Kd.C k86 w A (hs.map tS).length (hs.map tS) := by rw [List.length_map]; exact h
  have := Kd.C_take (m := m) h' (by rw [List.length_map]; exact hm)
  rw [← List.map_take, List.length_map, List.length_take, Nat.min_eq_left hm] at this
  exact this
theorem HC_drop {w : World} {A : Option Addr} {n c : Nat} {hs : List (Nat × Nat)} (h : HC w A n hs) (hc : n ≤ c) {m : Nat} (hm : m ≤ n) : HC w (if c = m then A else A.map (·.add (m * 2))) (n - m) (hs.drop m) := by
  have hl := HC_len h
  subst hl
  have h' : Kd.C k86 w A (hs.map tS).length (hs.map tS) := by rw [List.length_map]; exact h
  have := Kd.C_drop (m := m) (c := c) h' (by rw [List.length_map]; exact hm) (by rw [List.length_map]; exact hc)
  rw [← List.map_drop, List.length_map, List.length_drop] at this
  exact this
theorem HC_head {w : World} {A : Option Addr} {n : Nat} {x : Nat × Nat} {hs : List (Nat × Nat)} (h : HC w A n (x :: hs)) : ∃ ad, A = some ad ∧ w.cell? ad = some (.int .i64 x.1) ∧ w.cell? ⟨ad.block, ad.off + 1, none⟩ = some (.int .i64 x.2) := by
  have hl := HC_len h
  obtain ⟨ad, rfl, h1, h2⟩ := at_T86 h 0 (by omega) (by simp at hl; omega)
  refine ⟨ad, rfl, ?_, ?_⟩
  · simpa [Addr.add, rd_T86, tS] using h1
  · simpa [Addr.add, rd_T86, tS] using h2

theorem HC_tail {w : World} {ad : Addr} {n c : Nat} {x : Nat × Nat} {hs : List (Nat × Nat)} (h : HC w (some ad) (n + 1) (x :: hs)) (hc : n + 1 ≤ c) : HC w (if c = 1 then some ad else some ⟨ad.block, ad.off + 2, none⟩) n hs := by
  have := HC_drop h hc (m := 1) (by omega)
  simpa [Addr.add] using this
theorem less_calls {ds : List (List Int)} (hb : Sf.Bytes ds) {A0 : Option Addr} {m c0 : Nat} (hm : m ≤ c0) {w : World} (h0 : Kd.C Kd.string w A0 m (Sf.strsF ds)) {x y : Nat × Nat} (hx : x ∈ Sf.hitsF 0 ds) (hy : y ∈ Sf.hitsF 0 ds) :
    Calls Try.prog 73 #[.slice A0 m c0, .agg #[.int .i64 x.1, .int .i64 x.2], .agg #[.int .i64 y.1, .int .i64 y.2]] w fun e w' => e = .returned (.bool (decide (Sf.hless ds x y))) ∧ Below w.heap.size w w' := by
  have hl : (Sf.strsF ds).length = m := h0.1
  subst hl
  exact concordanceref9_less.calls A0 c0 (Sf.strsF ds) x.1 x.2 y.1 y.2 _ w h0 hm (Sf.less_f hb hx hy)

set_option maxRecDepth 100000 in
set_option maxHeartbeats 1000000 in
theorem sorted_calls (ds : List (List Int)) (hb : Sf.Bytes ds) (A0 : Option Addr) (m c0 : Nat) (hm : m ≤ c0) :
    ∀ (N n : Nat), n ≤ N → n ≤ 1000000 → ∀ (A1 : Option Addr) (c1 : Nat) (hs : List (Nat × Nat)) (w : World), Kd.C Kd.string w A0 m (Sf.strsF ds) → HC w A1 n hs → n ≤ c1 → (∀ x ∈ hs, x ∈ Sf.hitsF 0 ds) → hs.Nodup →
    Calls Try.prog 54 #[.slice A0 m c0, .slice A1 n c1] w fun e w' => ∃ A c r, e = .returned (.slice A n c) ∧ n ≤ c ∧ HC w' A n r ∧ SortedHits ds hs r ∧ Below w.heap.size w w' := by
  intro N
  induction N with
  | zero =>
    intro n hn _ A1 c1 hs w h0 h1 hc1 hin hnd
    obtain rfl : n = 0 := by omega
    have hl := HC_len h1
    obtain rfl : hs = [] := List.eq_nil_of_length_eq_zero hl
    go_enter Try.func54, Try.ntmps54
    go_wp2_with fail
    go_ret
    exact ⟨A1, c1, [], rfl, hc1, h1, ⟨.refl _, .nil⟩, Below.refl _ _⟩
  | succ N ih =>
    intro n hn hbig A1 c1 hs w h0 h1 hc1 hin hnd
    have hl := HC_len h1
    by_cases h2 : n < 2
    · have hso : SortedHits ds hs hs := ⟨.refl _, by
        match hs, hl with
        | [], _ => exact .nil
        | [x], _ => exact List.pairwise_singleton _ _
        | x :: y :: t, hl => simp at hl; omega⟩
      have HSO := Aside0.mk hso
      have H1 := Aside0.mk h1
      clear hso h1 h0 hin hnd ih hl
      go_enter Try.func54, Try.ntmps54
      go_wp2_with fail
      go_ret
      exact ⟨A1, c1, hs, rfl, hc1, H1.out, HSO.out, Below.refl _ _⟩
    · have hIHa := fun (W : World) (hB : Below w.heap.size w W) => ih (n / 2) (by omega) (by omega) A1 c1 (hs.take (n / 2)) W (Kd.C_below h0 hB) (Kd.C_below (HC_take h1 (by omega)) hB) (by omega) (fun x hx => hin x (List.mem_of_mem_take hx)) (List.Sublist.nodup (List.take_sublist _ _) hnd)
      have hIHb := fun (W : World) (hB : Below w.heap.size w W) => ih (n - n / 2) (by omega) (by omega) (if c1 = n / 2 then A1 else A1.map (·.add (n / 2 * 2))) (c1 - n / 2) (hs.drop (n / 2)) W (Kd.C_below h0 hB) (Kd.C_below (HC_drop (m := n / 2) h1 hc1 (by omega)) hB) (by omega) (fun x hx => hin x (List.mem_of_mem_drop hx)) (List.Sublist.nodup (List.drop_sublist _ _) hnd)
      have H0 := Aside0.mk h0
      have HIN := Aside0.mk hin
      have HND := Aside0.mk hnd
      have HL := Aside0.mk hl
      obtain ⟨i86, hi86, hz86⟩ := Option.map_eq_some_iff.1 info86
      have hs86 : i86.size = 2 := by simp only [Prod.mk.injEq] at hz86; exact hz86.2.1
      have kc1 := cut_to (P := Try.prog) 43 86 .i64 Try.underlying43 hi86 A1 n c1 ((n / 2 : Nat) : Int) (by omega) (by omega) hc1
      have kc2 := cut_from (P := Try.prog) 43 86 .i64 Try.underlying43 hi86 2 hs86 A1 n c1 ((n / 2 : Nat) : Int) (by omega) (by omega)
      rw [Int.toNat_natCast] at kc1 kc2
      have hq : IntKind.i64.wrap ((n : Int) / 2) = ((n / 2 : Nat) : Int) := by rw [IntKind.wrap_i64]; omega
      have hqn : n / 2 ≤ n := by omega
      have hpn : n / 2 + (n - n / 2) = n := by omega
      generalize (if c1 = n / 2 then A1 else A1.map (·.add (n / 2 * 2))) = A2 at *
      generalize c1 - n / 2 = c2 at *
      generalize n - n / 2 = p at *
      generalize n / 2 = q at *
      have HA := Aside0.mk hIHa
      have HBb := Aside0.mk hIHb
      clear hIHa hIHb ih h0 h1 hin hnd hl hi86 hz86 hs86 i86
      go_enter Try.func54, Try.ntmps54
      go_upto_region 3 with fail
      go_cut [5, 6] (fun s5 s6 wx => ∃ Aa ca ra Ab cb rb, s5 = .slice Aa q ca ∧ s6 = .slice Ab p cb ∧ Aside0 (q ≤ ca) ∧ Aside0 (p ≤ cb) ∧ Aside0 (HC wx Aa q ra) ∧ Aside0 (HC wx Ab p rb) ∧ Aside0 (SortedHits ds (hs.take q) ra) ∧ Aside0 (SortedHits ds (hs.drop q) rb) ∧ Aside0 (Below w.heap.size w wx))
      case first =>
        go_region_law
          (first
            | (refine goes_ (N := some 18) Try.func54 (by kernel_rfl) rfl #[.slice A0 m c0, .slice A1 q c1] (by rfl) rfl rfl (by simp [Act.eval, Act.put]) ?_; refine (HA.out _ (by repeat (first | exact Below.refl _ _ | (exact below_then (below_drew (Below.refl _ _)) (Nat.le_refl _) hBb) | exact hBb | apply below_drew))).mono ?_; rintro e wa ⟨Aa, ca, ra, rfl, hca, hCa, hSa, hBa⟩; refine ⟨_, rfl, ?_⟩)
            | (refine goes_ (N := some 25) Try.func54 (by kernel_rfl) rfl #[.slice A0 m c0, .slice A2 p c2] (by rfl) rfl rfl (by simp [Act.eval, Act.put]) ?_; refine (HBb.out _ (by repeat (first | exact Below.refl _ _ | (exact below_then (below_drew (Below.refl _ _)) (Nat.le_refl _) hBa) | exact hBa | apply below_drew))).mono ?_; rintro e wb ⟨Ab, cb, rb, rfl, hcb, hCb, hSb, hBb⟩; refine ⟨_, rfl, ?_⟩))
        all_goals (go_wp2_with fail; go_meet; exact ⟨Aa, ca, ra, Ab, cb, rb, rfl, rfl, ⟨hca⟩, ⟨hcb⟩, ⟨by first | exact hCa | exact Kd.C_below hCa hBb⟩, ⟨by first | exact hCb | exact Kd.C_below hCb hBa⟩, ⟨hSa⟩, ⟨hSb⟩, ⟨by first | exact below_then (below_then (below_drew (Below.refl _ _)) (Nat.le_refl _) hBa) (below_then (below_drew (Below.refl _ _)) (Nat.le_refl _) hBa).size hBb | exact below_then (below_then (below_drew (Below.refl _ _)) (Nat.le_refl _) hBb) (below_then (below_drew (Below.refl _ _)) (Nat.le_refl _) hBb).size hBa⟩⟩)
      case rest =>
        obtain ⟨Aa, ca, ra, Ab, cb, rb, rfl, rfl, HCA, HCB, HHA, HHB, HSA, HSB, HB⟩ := hcut
        clear HA HBb kc1 kc2
        have hla := HC_len HHA.out
        have hlb := HC_len HHB.out
        have hinA : ∀ x ∈ ra, x ∈ Sf.hitsF 0 ds := fun x hx => HIN.out x (List.mem_of_mem_take (HSA.out.1.subset hx))
        have hinB : ∀ x ∈ rb, x ∈ Sf.hitsF 0 ds := fun x hx => HIN.out x (List.mem_of_mem_drop (HSB.out.1.subset hx))
        have hnab : ∀ x ∈ ra, ∀ y ∈ rb, x ≠ y := by
          intro x hx y hy he
          subst he
          have h1 := HSA.out.1.subset hx
          have h2 := HSB.out.1.subset hy
          have := HND.out
          rw [← List.take_append_drop q hs] at this
          exact (List.nodup_append.1 this).2.2 x h1 x h2 rfl
        have hM : SortedHits ds hs (Sf.mergeF (fun x y => decide (Sf.hless ds x y)) ra rb) :=
          ⟨(Sf.merge_perm _ _ _).trans ((HSA.out.1.append HSB.out.1).trans (by rw [List.take_append_drop])),
            Sf.merge_sorted (R := Sf.hless ds) (S := Sf.hitsF 0 ds) (fun _ _ _ => Sf.hless_trans) (fun a b ha hb => Sf.hless_tri a b ha hb) ra rb hinA hinB hnab HSA.out.2 HSB.out.2⟩
        have HM := Aside0.mk hM
        have HINA := Aside0.mk hinA
        have HINB := Aside0.mk hinB
        have HLA := Aside0.mk hla
        have HLB := Aside0.mk hlb
        have HBC := Aside0.mk (Below.refl wc.heap.size wc)
        obtain ⟨wb, hwb⟩ : ∃ wb, wb = wc := ⟨_, rfl⟩
        rw [← hwb] at HBC HHA HHB HB ⊢
        have HO := Aside0.mk (Kd.R_nil k86 86 wb wb.heap.size (fun _ => True))
        clear hwb hM hinA hinB hla hlb hnab HSA HSB HND HIN
        go_wp2_with fail
        go_loopw [5, 6, 7] (fun v5 v6 v7 w' => ∃ (A3 : Option Addr) (c3 : Nat) (xa : List (Nat × Nat)) (A4 : Option Addr) (c4 : Nat) (xb out : List (Nat × Nat)), v5 = .slice A3 xa.length c3 ∧ v6 = .slice A4 xb.length c4 ∧ Aside0 (xa.length ≤ c3) ∧ Aside0 (xb.length ≤ c4) ∧ Aside0 (HC wb A3 xa.length xa) ∧ Aside0 (HC wb A4 xb.length xb) ∧ Aside0 (∀ x ∈ xa, x ∈ Sf.hitsF 0 ds) ∧ Aside0 (∀ x ∈ xb, x ∈ Sf.hitsF 0 ds) ∧
          Aside0 (out.length + xa.length + xb.length = n) ∧ Aside0 (out ++ Sf.mergeF (fun x y => decide (Sf.hless ds x y)) xa xb = Sf.mergeF (fun x y => decide (Sf.hless ds x y)) ra rb) ∧ Aside0 (Kd.R k86 86 w' wb.heap.size (fun _ => True) v7 (out.map tS)) ∧ Aside0 (Below wb.heap.size wb w')) (fun v5 v6 _ _ => vlen v5 + vlen v6)
        case atStart => exact ⟨Aa, ca, ra, Ab, cb, rb, [], by rw [HLA.out], by rw [HLB.out], ⟨by rw [HLA.out]; exact HCA.out⟩, ⟨by rw [HLB.out]; exact HCB.out⟩, ⟨by rw [HLA.out]; exact HHA.out⟩, ⟨by rw [HLB.out]; exact HHB.out⟩, HINA, HINB, ⟨by rw [HLA.out, HLB.out]; simp; omega⟩, ⟨rfl⟩, HO, HBC⟩
        case round =>
          clear HO HBC
          obtain ⟨A3, c3, xa, A4, c4, xb, out, rfl, rfl, HC3, HC4, HH3, HH4, HI3, HI4, HSUM, HMG, HO, HBC⟩ := hrel
          match xa, xb with
          | [], xb =>
            rw [Sf.merge_nil_left] at HMG
            have HFIN : Aside0 (SortedHits ds hs ((out ++ []) ++ xb)) := ⟨by rw [List.append_nil, HMG.out]; exact HM.out⟩
            have HR3 := Aside0.mk (Kd.C_below HH3.out HBC.out)
            have HSU := HSUM.out
            have HK1 : Aside0 (out.length + ([] : List (Nat × Nat)).length ≤ 100000000) := ⟨by omega⟩
            have HK2 : Aside0 ((out ++ []).length + xb.length ≤ 100000000) := ⟨by simp; omega⟩
            clear HSU
            generalize hky : xb.length = ly at *
            go_wp2_with (first | (at_builtin; refine app_hits (w0 := wb) rfl (.tmp 58) (.tmp 59) rfl u7 out [] A3 0 c3 rfl rfl HO HR3 HBC HK1 ?_; intro v1 w1 HO1 HB1; have HR4 := Aside0.mk (Kd.C_below HH4.out HB1.out); clear HO HBC) | (at_builtin; refine app_hits (w0 := wb) rfl (.tmp 60) (.tmp 61) rfl v1 (out ++ []) xb A4 ly c4 rfl rfl HO1 HR4 HB1 HK2 ?_; intro v2 w2 HO2 HB2; clear HO1 HB1))
            go_ret
            obtain ⟨A5, c5, rfl, hc5, hC5⟩ := R_is (n := n) HO2.out (by rw [List.length_map, List.length_append, List.length_append]; have := HSUM.out; simp at *; omega)
            exact ⟨A5, c5, _, rfl, hc5, hC5, HFIN.out, below_then HB.out HB.out.size HB2.out⟩
          | x :: xa, [] =>
            rw [Sf.merge_nil_right] at HMG
            have HFIN : Aside0 (SortedHits ds hs ((out ++ (x :: xa)) ++ [])) := ⟨by rw [List.append_nil, HMG.out]; exact HM.out⟩
            have HR3 := Aside0.mk (Kd.C_below HH3.out HBC.out)
            have HSU := HSUM.out
            have HK1 : Aside0 (out.length + (x :: xa).length ≤ 100000000) := ⟨by omega⟩
            have HK2 : Aside0 ((out ++ (x :: xa)).length + ([] : List (Nat × Nat)).length ≤ 100000000) := ⟨by rw [List.length_append]; omega⟩
            have hpos : ((((x :: xa).length : Nat) : Int)) > 0 := by simp
            clear HSU
            generalize hkx : (x :: xa).length = lx at *
            go_wp2_with (first | (at_builtin; refine app_hits (w0 := wb) rfl (.tmp 58) (.tmp 59) rfl u7 out (x :: xa) A3 lx c3 rfl rfl HO HR3 HBC HK1 ?_; intro v1 w1 HO1 HB1; have HR4 := Aside0.mk (Kd.C_below HH4.out HB1.out); clear HO HBC) | (at_builtin; refine app_hits (w0 := wb) rfl (.tmp 60) (.tmp 61) rfl v1 (out ++ (x :: xa)) [] A4 0 c4 rfl rfl HO1 HR4 HB1 HK2 ?_; intro v2 w2 HO2 HB2; clear HO1 HB1))
            go_ret
            obtain ⟨A5, c5, rfl, hc5, hC5⟩ := R_is (n := n) HO2.out (by rw [List.length_map, List.length_append, List.length_append]; have := HSUM.out; simp only [List.length_nil] at *; omega)
            exact ⟨A5, c5, _, rfl, hc5, hC5, HFIN.out, below_then HB.out HB.out.size HB2.out⟩
          | x :: xa, y :: xb =>
            have hlx : (x :: xa).length = xa.length + 1 := rfl
            have hly : (y :: xb).length = xb.length + 1 := rfl
            rw [hlx] at HC3 HH3 HSUM ⊢
            rw [hly] at HC4 HH4 HSUM ⊢
            obtain ⟨ad3, rfl, h31, h32⟩ := HC_head HH3.out
            obtain ⟨ad4, rfl, h41, h42⟩ := HC_head HH4.out
            replace h31 := pw_cell_below HBC.out h31
            replace h32 := pw_cell_below HBC.out h32
            replace h41 := pw_cell_below HBC.out h41
            replace h42 := pw_cell_below HBC.out h42
            have HLESS := Aside0.mk (fun (W : World) (hB : Below wb.heap.size wb W) => less_calls (A0 := A0) (c0 := c0) (w := W) hb hm (Kd.C_below H0.out (below_then HB.out HB.out.size hB)) (HI4.out y (List.mem_cons_self ..)) (HI3.out x (List.mem_cons_self ..)))
            have HT3 := Aside0.mk (HC_tail HH3.out HC3.out)
            have HT4 := Aside0.mk (HC_tail HH4.out HC4.out)
            have HKX : Aside0 (xa.length ≤ 1000000 ∧ xb.length ≤ 1000000 ∧ out.length ≤ 1000000) := ⟨by have := HSUM.out; omega⟩
            have hux : ((xa.length + 1 : Nat) : Int) > 0 := by omega
            have huy : ((xb.length + 1 : Nat) : Int) > 0 := by omega
            generalize hkx : xa.length = lx at *
            generalize hky : xb.length = ly at *
            go_upto_region 6 with fail
            go_cut [41] (fun s41 wx => s41 = .bool (decide (Sf.hless ds y x)) ∧ Aside0 (Below wr.heap.size wr wx))
            case first =>
              go_region_law
                (first
                  | (refine goes_ (N := some 41) Try.func73 (by kernel_rfl) rfl #[.slice A0 m c0, .agg #[.int .i64 y.1, .int .i64 y.2], .agg #[.int .i64 x.1, .int .i64 x.2]] (by rfl) rfl rfl (by simp [Act.eval, Act.put]) ?_; refine (HLESS.out wr.drew (below_drew HBC.out)).mono ?_; rintro e w3 ⟨rfl, hB3⟩; refine ⟨_, rfl, ?_⟩))
              all_goals (go_wp2_with fail; go_meet; exact ⟨rfl, ⟨below_then (below_drew (Below.refl _ _)) (Nat.le_refl _) hB3⟩⟩)
            case rest =>
              obtain ⟨rfl, HBX⟩ := hcut
              clear HLESS
              have HBD := Aside0.mk (below_then HBC.out HBC.out.size HBX.out)
              have HOD := Aside0.mk (Kd.R_below HO.out HBX.out)
              have g31 := pw_cell_below HBX.out h31
              have g32 := pw_cell_below HBX.out h32
              have g41 := pw_cell_below HBX.out h41
              have g42 := pw_cell_below HBX.out h42
              have HKO : Aside0 (out.length ≤ 100000000) := ⟨by have := HKX.out; omega⟩
              clear HBC HO HBX h31 h32 h41 h42
              by_cases hle : Sf.hless ds y x
              · have HMG2 : Aside0 ((out ++ [y]) ++ Sf.mergeF (fun x y => decide (Sf.hless ds x y)) (x :: xa) xb = Sf.mergeF (fun x y => decide (Sf.hless ds x y)) ra rb) := ⟨by
                  rw [← HMG.out, Sf.merge_cons, if_pos (decide_eq_true hle)]; simp⟩
                have hle1 : decide (Sf.hless ds y x) = true := decide_eq_true hle
                rw [hle1]
                clear hle hle1
                go_wp2_with (first | (at_builtin; refine app_hit (w0 := wb) rfl (.tmp 42) (.tmp 46) rfl u7 out y rfl rfl HOD HBD HKO ?_; intro v1 w1 HO1 HB1; clear HOD HBD))
                exact ⟨⟨some ad3, c3, x :: xa, _, c4 - 1, xb, out ++ [y], by rw [List.length_cons, hkx], by rw [hky], ⟨by rw [List.length_cons, hkx]; exact HC3.out⟩, ⟨by rw [hky]; have := HC4.out; omega⟩, ⟨by rw [List.length_cons, hkx]; exact HH3.out⟩, ⟨by rw [hky]; exact HT4.out⟩, HI3, ⟨fun z hz => HI4.out z (List.mem_cons_of_mem _ hz)⟩, ⟨by have := HSUM.out; simp only [List.length_append, List.length_cons, List.length_nil]; omega⟩, HMG2, HO1, HB1⟩, by simp⟩
              · have HMG2 : Aside0 ((out ++ [x]) ++ Sf.mergeF (fun x y => decide (Sf.hless ds x y)) xa (y :: xb) = Sf.mergeF (fun x y => decide (Sf.hless ds x y)) ra rb) := ⟨by
                  rw [← HMG.out, Sf.merge_cons, if_neg (fun h => hle (of_decide_eq_true h))]; simp⟩
                have hle1 : decide (Sf.hless ds y x) = false := decide_eq_false hle
                rw [hle1]
                clear hle hle1
                go_wp2_with (first | (at_builtin; refine app_hit (w0 := wb) rfl (.tmp 50) (.tmp 54) rfl u7 out x rfl rfl HOD HBD HKO ?_; intro v1 w1 HO1 HB1; clear HOD HBD))
                exact ⟨⟨_, c3 - 1, xa, some ad4, c4, y :: xb, out ++ [x], by rw [hkx], by rw [List.length_cons, hky], ⟨by rw [hkx]; have := HC3.out; omega⟩, ⟨by rw [List.length_cons, hky]; exact HC4.out⟩, ⟨by rw [hkx]; exact HT3.out⟩, ⟨by rw [List.length_cons, hky]; exact HH4.out⟩, ⟨fun z hz => HI3.out z (List.mem_cons_of_mem _ hz)⟩, HI4, ⟨by have := HSUM.out; simp only [List.length_append, List.length_cons, List.length_nil]; omega⟩, HMG2, HO1, HB1⟩, by simp⟩
end Go.Proofs.Ytadekjidjhglaaa
