/- Walks: suffix.compare, the closures of Range, sort.Search, suffix.Range. -/
import Derived.Test.YtadekjidjhglaaaSi
import Derived.Test.YtadekjidjhglaaaBn
set_option linter.unusedVariables false
set_option linter.unusedSimpArgs false
namespace Go.Proofs.Ytadekjidjhglaaa
open Go.RowKit Go.Proofs.YtadekjidjhglaaaW.PrintWords Go.Proofs.YtadekjidjhglaaaW.PrintLast Go.Proofs.YtadekjidjhglaaaW.PrintMore

set_option maxRecDepth 100000 in
set_option maxHeartbeats 1000000 in
theorem compare_calls (A0 : Option Addr) (n c0 : Nat) (x : List Int) (A1 : Option Addr) (m c1 : Nat) (p : List Int) (w : World) (h0 : Kd.C (Kd.int .u16) w A0 n x) (h1 : Kd.C (Kd.int .u8) w A1 m p)
    (hx : ∀ t, 0 ≤ x.getD t 0 ∧ x.getD t 0 ≤ 256) (hp : Sf.Byte1 p) (z : Nat) (hz : z < n) (hz0 : x.getD z 0 = 0) (hm : m ≤ 1000000) :
    Calls Try.prog 57 #[.slice A0 n c0, .slice A1 m c1] w fun e w' => e = .returned (.int .i64 (Sf.cmpF x p)) ∧ w = w' := by
  have H0 := Aside0.mk h0
  have H1 := Aside0.mk h1
  have HX := Aside0.mk hx
  have HP := Aside0.mk hp
  have HL := Aside0.mk (And.intro h0.1 h1.1)
  have HZ := Aside0.mk (And.intro hz hz0)
  clear h0 h1 hx hp hz hz0
  go_enter Try.func57, Try.ntmps57
  go_wp2_with fail
  go_loop [5, 6, 7, 10] (fun v5 v6 v7 v10 => ∃ i : Nat, v10 = .int .i64 i ∧ Aside0 (i ≤ m) ∧ Aside0 (∀ t, t < i → x.getD t 0 = p.getD t 0 + 1)) (fun _ _ _ v10 => m - (intOf v10).toNat)
  case atStart => exact ⟨0, rfl, ⟨Nat.zero_le _⟩, ⟨fun t h => absurd h (Nat.not_lt_zero _)⟩⟩
  case round =>
    obtain ⟨i, rfl, HI, HM⟩ := hrel
    by_cases hlt : i < m
    · have hin : i < n := by
        have := Sf.cmp_in (fun c hc => (HP.out c hc).1) (z := z) (i := i) (by rw [HL.out.1]; exact HZ.out.1) HZ.out.2 (by rw [HL.out.2]; omega) HM.out
        rwa [HL.out.1] at this
      obtain ⟨ad0, e, h1⟩ := at_nat H0.out (Below.refl _ _) i hin
      cases e
      obtain ⟨ad1, e, h2⟩ := at_nat H1.out (Below.refl _ _) i hlt
      cases e
      have hb := HX.out i
      have hc := HP.out (p.getD i 0) (Sf.mem_of_getD (by rw [HL.out.2]; exact hlt))
      have HS := Aside0.mk (Sf.cmp_here (p := p) (x := x) (i := i) (by rw [HL.out.2]; exact hlt) HM.out)
      have HN : Aside0 (x.getD i 0 = p.getD i 0 + 1 → ∀ t, t < i + 1 → x.getD t 0 = p.getD t 0 + 1) := ⟨fun h t ht => by
        by_cases e : t = i
        · subst e; exact h
        · exact HM.out t (by omega)⟩
      generalize x.getD i 0 = a at *
      generalize p.getD i 0 = b at *
      have hw1 : IntKind.u16.wrap b = b := by rw [IntKind.wrap_u16]; omega
      have hw2 : IntKind.u16.wrap (b + 1) = b + 1 := by rw [IntKind.wrap_u16]; omega
      by_cases he : a = b + 1
      · have HN2 := Aside0.mk (HN.out he)
        have hne : (a != b + 1) = false := by simpa using he
        clear he
        go_wp2_with fail
        exact ⟨⟨i + 1, by go_num, ⟨by omega⟩, HN2⟩, by simp [intOf]; omega⟩
      · have HS2 := Aside0.mk (HS.out he)
        have hne : (a != b + 1) = true := by simpa using he
        clear he
        go_wp2_with fail
        go_ret
        exact ⟨by rw [HS2.out]; rfl, rfl⟩
    · have hj : i = m := by have := HI.out; omega
      have HS := Aside0.mk (Sf.cmp_all (p := p) (x := x) (fun t ht => HM.out t (by rw [HL.out.2] at ht; omega)))
      go_wp2_with fail
      go_ret
      exact ⟨by rw [HS.out]; rfl, rfl⟩

/-- What the closures of Range read. -/
structure RangeAt (w : World) (b1 b2 b3 : Nat) (N : Nat) (row : List Int) (sa : List Nat) (p : List Int) : Prop where
  mk :: (out : ∃ Ar cr As cs Ap cp, w.cell? ⟨b1, 0, none⟩ = some (.slice Ar N cr) ∧ w.cell? ⟨b2, 0, none⟩ = some (.slice As N cs) ∧ w.cell? ⟨b3, 0, none⟩ = some (.slice Ap p.length cp) ∧
    N ≤ cr ∧ N ≤ cs ∧ Kd.C (Kd.int .u16) w Ar N row ∧ Kd.C (Kd.int .i64) w As N (Sf.ni sa) ∧ Kd.C (Kd.int .u8) w Ap p.length p)
theorem RangeAt.below {w w1 : World} {b1 b2 b3 N : Nat} {row : List Int} {sa : List Nat} {p : List Int} (h : RangeAt w b1 b2 b3 N row sa p) (hB : Below w.heap.size w w1) : RangeAt w1 b1 b2 b3 N row sa p := by
  obtain ⟨Ar, cr, As, cs, Ap, cp, h1, h2, h3, h4, h5, h6, h7, h8⟩ := h.out
  exact ⟨Ar, cr, As, cs, Ap, cp, pw_cell_below hB h1, pw_cell_below hB h2, pw_cell_below hB h3, h4, h5, Kd.C_below h6 hB, Kd.C_below h7 hB, Kd.C_below h8 hB⟩
theorem row_drop_C {w : World} {A : Option Addr} {N c : Nat} {row : List Int} (h : Kd.C (Kd.int .u16) w A N row) (hc : N ≤ c) {j : Nat} (hj : j ≤ N) : Kd.C (Kd.int .u16) w (if c = j then A else A.map (·.add (j * 1))) (N - j) (row.drop j) := by
  have hl : row.length = N := h.1
  subst hl
  have := Kd.C_drop (m := j) (c := c) h hj hc
  rwa [List.length_drop] at this

set_option maxRecDepth 100000 in
set_option maxHeartbeats 1000000 in
theorem rlo_calls (i b1 b2 b3 N : Nat) (row : List Int) (sa : List Nat) (p : List Int) (w : World) (h : RangeAt w b1 b2 b3 N row sa p) (hx : ∀ t, 0 ≤ row.getD t 0 ∧ row.getD t 0 ≤ 256) (hp : Sf.Byte1 p) (hm : p.length ≤ 1000000)
    (hz : row.getD (N - 1) 0 = 0) (hi : i < N) (hlt : sa.getD i 0 < N) (hN : N ≤ 1000000) :
    Calls Try.prog 56 #[.int .i64 i, .pointer (some ⟨b1, 0, none⟩), .pointer (some ⟨b2, 0, none⟩), .pointer (some ⟨b3, 0, none⟩)] w fun e w' => e = .returned (.bool (decide (0 ≤ Sf.cmpF (row.drop (sa.getD i 0)) p))) ∧ Drawn0 w w' := by
  obtain ⟨Ar, cr, As, cs, Ap, cp, h1, h2, h3, h4, h5, h6, h7, h8⟩ := h.out
  obtain ⟨ad, e, hs⟩ := at_nat h7 (Below.refl _ _) i hi
  cases e
  rw [Sf.ni_getD] at hs
  generalize sa.getD i 0 = j at *
  obtain ⟨i57, hi57, hz57⟩ := Option.map_eq_some_iff.1 info57
  have hs57 : i57.size = 1 := by simp only [Prod.mk.injEq] at hz57; exact hz57.2.1
  have kc := cut_from (P := Try.prog) 53 57 .i64 Try.underlying53 hi57 1 hs57 Ar N cr (j : Int) (by omega) (by omega)
  rw [Int.toNat_natCast] at kc
  have hC := row_drop_C h6 h4 (j := j) (by omega)
  generalize (if cr = j then Ar else Ar.map (·.add (j * 1))) = A' at *
  have hzz : (row.drop j).getD (N - j - 1) 0 = 0 := by rw [Sf.getD_drop, show j + (N - j - 1) = N - 1 by omega]; exact hz
  have hxx : ∀ t, 0 ≤ (row.drop j).getD t 0 ∧ (row.drop j).getD t 0 ≤ 256 := fun t => by rw [Sf.getD_drop]; exact hx _
  have hn' : 0 < N - j := by omega
  have HCMP := Aside0.mk (fun (m : Nat) => compare_calls A' (N - j) (cr - j) (row.drop j) Ap p.length cp p (w.drewN m) (Kd.C_drewN hC m) (Kd.C_drewN h8 m) hxx hp (N - j - 1) (by omega) hzz hm)
  clear h h4 h5 h6 h7 h8 hx hp hm hz hi57 hz57 hs57 i57 hC hzz hxx
  generalize N - j = n' at *
  generalize cr - j = c' at *
  generalize row.drop j = x at *
  go_enter Try.func56, Try.ntmps56
  go_wp2_with fail
  go_quiet (first | (go_at_call 57; exact quiet_same2 (HCMP.out _)))
  go_wp2_with fail
  go_ret
  exact ⟨rfl, ⟨_, rfl⟩⟩
set_option maxRecDepth 100000 in
set_option maxHeartbeats 1000000 in
theorem rhi_calls (i b1 b2 b3 N : Nat) (row : List Int) (sa : List Nat) (p : List Int) (w : World) (h : RangeAt w b1 b2 b3 N row sa p) (hx : ∀ t, 0 ≤ row.getD t 0 ∧ row.getD t 0 ≤ 256) (hp : Sf.Byte1 p) (hm : p.length ≤ 1000000)
    (hz : row.getD (N - 1) 0 = 0) (hi : i < N) (hlt : sa.getD i 0 < N) (hN : N ≤ 1000000) :
    Calls Try.prog 58 #[.int .i64 i, .pointer (some ⟨b1, 0, none⟩), .pointer (some ⟨b2, 0, none⟩), .pointer (some ⟨b3, 0, none⟩)] w fun e w' => e = .returned (.bool (decide (0 < Sf.cmpF (row.drop (sa.getD i 0)) p))) ∧ Drawn0 w w' := by
  obtain ⟨Ar, cr, As, cs, Ap, cp, h1, h2, h3, h4, h5, h6, h7, h8⟩ := h.out
  obtain ⟨ad, e, hs⟩ := at_nat h7 (Below.refl _ _) i hi
  cases e
  rw [Sf.ni_getD] at hs
  generalize sa.getD i 0 = j at *
  obtain ⟨i57, hi57, hz57⟩ := Option.map_eq_some_iff.1 info57
  have hs57 : i57.size = 1 := by simp only [Prod.mk.injEq] at hz57; exact hz57.2.1
  have kc := cut_from (P := Try.prog) 53 57 .i64 Try.underlying53 hi57 1 hs57 Ar N cr (j : Int) (by omega) (by omega)
  rw [Int.toNat_natCast] at kc
  have hC := row_drop_C h6 h4 (j := j) (by omega)
  generalize (if cr = j then Ar else Ar.map (·.add (j * 1))) = A' at *
  have hzz : (row.drop j).getD (N - j - 1) 0 = 0 := by rw [Sf.getD_drop, show j + (N - j - 1) = N - 1 by omega]; exact hz
  have hxx : ∀ t, 0 ≤ (row.drop j).getD t 0 ∧ (row.drop j).getD t 0 ≤ 256 := fun t => by rw [Sf.getD_drop]; exact hx _
  have hn' : 0 < N - j := by omega
  have HCMP := Aside0.mk (fun (m : Nat) => compare_calls A' (N - j) (cr - j) (row.drop j) Ap p.length cp p (w.drewN m) (Kd.C_drewN hC m) (Kd.C_drewN h8 m) hxx hp (N - j - 1) (by omega) hzz hm)
  clear h h4 h5 h6 h7 h8 hx hp hm hz hi57 hz57 hs57 i57 hC hzz hxx
  generalize N - j = n' at *
  generalize cr - j = c' at *
  generalize row.drop j = x at *
  go_enter Try.func58, Try.ntmps58
  go_wp2_with fail
  go_quiet (first | (go_at_call 57; exact quiet_same2 (HCMP.out _)))
  go_wp2_with fail
  go_ret
  exact ⟨rfl, ⟨_, rfl⟩⟩
end Go.Proofs.Ytadekjidjhglaaa
