/- Walks: suffix.Array. -/
import Derived.Test.YtadekjidjhglaaaBe
set_option linter.unusedVariables false
set_option linter.unusedSimpArgs false
namespace Go.Proofs.Ytadekjidjhglaaa
open Go.RowKit Go.Proofs.YtadekjidjhglaaaW.PrintWords Go.Proofs.YtadekjidjhglaaaW.PrintLast Go.Proofs.YtadekjidjhglaaaW.PrintMore

set_option maxRecDepth 100000 in
set_option maxHeartbeats 2000000 in
theorem array_calls (g : Nat) (ds : List (List Int)) (w : World) (hT : TextAt w g ds) (hb : Sf.Bytes ds) (hm : ds.length ≤ 500) (hn : (Sf.rowF ds).length ≤ 60000) :
    Calls Try.prog 18 #[.pointer (some ⟨g, 0, none⟩)] w fun e w' => ∃ v sa, e = .returned v ∧ Sf.SA (Sf.r0 ds) sa ∧ Kd.R (Kd.int .i64) 3 w' w.heap.size (fun _ => True) v (Sf.ni sa) ∧ Below w.heap.size w w' := by
  have HT := Aside0.mk hT
  have HBy := Aside0.mk hb
  have HB := Aside0.mk (Below.refl w.heap.size w)
  obtain ⟨A0, c0, A1, c1, A2, c2, h0, h1, h2, l0, l2, r0, r1, r2⟩ := hT.out
  clear r0 r1 r2 h1 hb l0 hT
  obtain ⟨n, hn'⟩ : ∃ n, (Sf.rowF ds).length = n := ⟨_, rfl⟩
  rw [hn'] at h2 hn l2
  have HN := Aside0.mk hn'
  have HR : Aside0 ((Sf.r0 ds).length = n) := ⟨by rw [Sf.r0_length, ← Sf.rowF_length, hn']⟩
  clear hn'
  have HNb : Aside0 (n ≤ 100000000) := ⟨by omega⟩
  by_cases hz : n = 0
  · subst hz
    go_enter Try.func18, Try.ntmps18
    go_wp2_with (first | (go_at_call 19; refine (len_calls g _ _ _ _ (by assumption)).mono ?_; rintro e w' ⟨rfl, rfl⟩))
    go_ret
    have hr := List.eq_nil_of_length_eq_zero HR.out
    exact ⟨_, [], rfl, by rw [hr]; exact ⟨List.Perm.refl _, List.Pairwise.nil⟩, Kd.R_nil _ _ _ _ _, Below.refl _ _⟩
  · have hz1 : 1 ≤ n := by omega
    have hz2 : ((n : Int) == 0) = false := by simpa using hz
    go_enter Try.func18, Try.ntmps18
    go_wp2_with (first | (go_at_call 19; refine (len_calls g _ _ _ _ (by assumption)).mono ?_; rintro e w' ⟨rfl, rfl⟩) | (go_at_call 47; refine hold ?_))
    unfold Hid
    refine (firsts_calls g ds _ HT.out HBy.out hm (by have := HN.out; omega)).mono ?_
    rintro e w1 ⟨vr, rfl, hR, hB1⟩
    obtain ⟨Ar, cr, rfl, _, hCr⟩ := R_is hR HR.out
    have HCr := Aside0.mk hCr
    have HB1 := Aside0.mk hB1
    have hd := TextAt.below HT.out hB1
    replace h2 := pw_cell_below hB1 h2
    clear hR hCr hB1 hd h0 HB
    have HB := Aside0.mk (Below.refl w1.heap.size w1)
    obtain ⟨K, hK⟩ : ∃ K : Nat, (ds.length : Int) + 257 = K := ⟨ds.length + 257, by omega⟩
    rw [hK]
    have hKb : K ≤ 1000 := by omega
    have HK := Aside0.mk hK
    clear hK
    go_wp2_with (first | (go_at_call 19; refine (len_calls g _ _ _ _ (by assumption)).mono ?_; rintro e w' ⟨rfl, rfl⟩) | (at_make; refine mk_int (w0 := w1) 28 3 8 Try.underlying28 info3 (by omega) (by omega) rfl rfl _ _ rfl n rfl rfl HB HNb ?_; intro g1 cap w2 HO HB2 HG HG2; clear HB HG HG2; have HB := HB2; clear HB2))
    go_loopw [25] (fun v25 w' => ∃ i : Nat, v25 = .int .i64 i ∧ Aside0 (i ≤ n) ∧ Aside0 (Kd.R (Kd.int .i64) 3 w' w1.heap.size (fun _ => True) (.slice (some ⟨g1, 0, none⟩) n cap) (Sf.tab n (fun c => if c < i then (c : Int) else 0))) ∧ Aside0 (Below w1.heap.size w1 w')) (fun i _ => n - (intOf i).toNat)
    case atStart => exact ⟨0, rfl, ⟨Nat.zero_le _⟩, ⟨by have := HO.out; rw [Sf.tab_replicate] at this; simpa using this⟩, HB⟩
    case round =>
      clear HO HB
      obtain ⟨i, rfl, HI, HO, HB⟩ := hrel
      by_cases hlt : i < n
      · have HE : Aside0 ((Sf.tab n (fun c => if c < i then (c : Int) else 0)).set i i = Sf.tab n (fun c => if c < i + 1 then (c : Int) else 0)) := ⟨by
          rw [Sf.tab_set]
          refine Sf.tab_congr (fun c _ => ?_)
          by_cases e : c = i
          · subst e; rw [if_pos rfl, if_pos (by omega)]
          · rw [if_neg e]
            by_cases e2 : c < i
            · rw [if_pos e2, if_pos (by omega)]
            · rw [if_neg e2, if_neg (by omega)]⟩
        go_wp2_with (first | ((with_reducible refine gate_store (t := 3) (p := 31) rfl ?_); refine put_int 3 size3 31 _ rfl rfl rfl rfl rfl HO HB (by omega) ?_; intro w2 HO1 HB3 HG; clear HO HB HG))
        go_roundw
        case rel => exact ⟨i + 1, by go_num, ⟨by omega⟩, ⟨by rw [← HE.out]; exact HO1.out⟩, HB3⟩
        case measure => simp [intOf]; omega
      · have hj : i = n := by have := HI.out; omega
        subst hj
        have hni : Sf.tab i (fun c => if c < i then (c : Int) else 0) = Sf.ni (List.range i) := by
          unfold Sf.tab Sf.ni
          exact List.map_congr_left (fun c hc => by rw [if_pos (List.mem_range.1 hc)])
        rw [hni] at HO
        clear hlt hni HI
        go_wp2_with fail
        have hrb := Sf.r0_bounds HBy.out
        rw [HR.out, show ((ds.length + 257 : Nat) : Int) = (K : Int) by have := HK.out; omega] at hrb
        refine (sortBy_calls _ i _ (List.range i) Ar i cr (Sf.r0 ds) K _ (own_C HO.out) (Kd.C_below HCr.out HB.out) (by omega) (by omega) (by simp) HR.out (fun p hp => ⟨List.mem_range.1 hp, hrb p (List.mem_range.1 hp)⟩)).mono ?_
        rintro e w2 ⟨v5, rfl, hO2, hB2⟩
        have hHalf := Sf.half_one (Sf.r0 ds) K (by rw [HR.out]; exact hrb)
        have hRk := Sf.ranked_one (Sf.r0 ds) K (by rw [HR.out]; exact hrb)
        rw [HR.out] at hHalf
        have hlen : (Sf.ni (Sf.bucket (List.range i) (Sf.r0 ds) K)).length = i := by rw [Sf.ni_length, hHalf.1.length_eq]; rw [List.length_range]; exact HR.out
        obtain ⟨A5, c5, rfl, _, hC5⟩ := R_is hO2 hlen
        have HO5 := Aside0.mk (R_low hO2 HB.out)
        have HB2 := Aside0.mk (below_then HB.out HB.out.size hB2)
        have HHalf := Aside0.mk hHalf
        have HRk := Aside0.mk hRk
        have HCr2 := Aside0.mk (Kd.C_below HCr.out HB2.out)
        clear hO2 hB2 hHalf hRk hlen hC5 hrb HO HB
        generalize Sf.bucket (List.range i) (Sf.r0 ds) K = S at *
        go_wp2_with fail
        have HLo := Aside0.mk (show w.heap.size ≤ w1.heap.size from HB1.out.size)
        obtain ⟨w4, hw4⟩ : ∃ w4 : World, w4 = w2 := ⟨_, rfl⟩
        rw [← hw4] at HO5 HB2 HCr2 ⊢
        clear hw4
        go_loopw [3, 4, 5, 7] (fun v3 v4 v5 v7 w' => ∃ (k kinds : Nat) (S : List Nat) (RK : List Int) (A3 A5 : Option Addr) (c3 c5 : Nat), v7 = .int .i64 k ∧ v3 = .slice A3 i c3 ∧ v4 = .int .i64 kinds ∧ v5 = .slice A5 i c5 ∧ Aside0 (1 ≤ k ∧ k ≤ 120000 ∧ kinds ≤ 100000) ∧ Aside0 (Sf.Half (Sf.r0 ds) k S) ∧ Aside0 (Sf.Ranked (Sf.r0 ds) k RK kinds) ∧
          Aside0 (Kd.C (Kd.int .i64) w' A3 i RK) ∧ Aside0 (Kd.R (Kd.int .i64) 3 w' w1.heap.size (fun _ => True) (.slice A5 i c5) (Sf.ni S)) ∧ Aside0 (Below w1.heap.size w1 w')) (fun _ _ _ v7 _ => i - (intOf v7).toNat)
        case atStart => exact ⟨1, K, S, Sf.r0 ds, Ar, A5, cr, c5, rfl, rfl, rfl, rfl, ⟨by omega⟩, HHalf, HRk, HCr2, HO5, HB2⟩
        case round =>
          clear HHalf HRk HCr2 HO5 HB2
          obtain ⟨k, kinds, S, RK, A3, A5, c3, c5, rfl, rfl, rfl, rfl, HKK, HH, HRk, HC3, HO5, HB⟩ := hrel
          by_cases hlt : k < i
          · have hk := HKK.out
            have hperm := HH.out.1
            rw [HR.out] at hperm
            have hsl : S.length = i := by have := hperm.length_eq; simpa using this
            have HSL := Aside0.mk hsl
            have HPM := Aside0.mk hperm
            clear hsl hperm
            go_wp2_with fail
            refine (second_calls A5 i c5 S k _ (own_C HO5.out) (by omega) (by omega) HSL.out (fun p hp => (Sf.perm_range_mem HPM.out).1 hp)).mono ?_
            rintro e w5 ⟨v6, rfl, hO6, hB6⟩
            have hstep := Sf.half_step HH.out HRk.out (by omega) (by rw [HR.out]; omega)
            have hp2 := Sf.second_perm S i k HPM.out (by omega)
            have hlen : (Sf.secondF S k).length = i := by have := hp2.length_eq; simpa using this
            obtain ⟨A6, c6, rfl, _, hC6⟩ := R_is hO6 (show (Sf.ni (Sf.secondF S k)).length = i by rw [Sf.ni_length, hlen])
            have HC6 := Aside0.mk hC6
            have HST := Aside0.mk hstep
            have HP2 := Aside0.mk hp2
            have HB5 := Aside0.mk (below_then HB.out HB.out.size hB6)
            have HC3' := Aside0.mk (Kd.C_below HC3.out hB6)
            clear hstep hp2 hlen hC6 hO6 hB6 HB HC3
            go_wp2_with fail
            have hrk := HRk.out
            rw [Sf.Ranked, HR.out] at hrk
            refine (sortBy_calls A6 i c6 (Sf.secondF S k) A3 i c3 RK kinds _ HC6.out HC3'.out (by omega) (by omega) (by have := HP2.out.length_eq; simpa using this) hrk.1 (fun p hp => ⟨(Sf.perm_range_mem HP2.out).1 hp, hrk.2.2 p ((Sf.perm_range_mem HP2.out).1 hp)⟩)).mono ?_
            rintro e w6 ⟨v7, rfl, hO7, hB7⟩
            have hperm7 := HST.out.1
            rw [HR.out] at hperm7
            obtain ⟨A7, c7, rfl, _, hC7⟩ := R_is hO7 (show (Sf.ni (Sf.bucket (Sf.secondF S k) RK kinds)).length = i by rw [Sf.ni_length]; have := hperm7.length_eq; simpa using this)
            have HO7 := Aside0.mk (Kd.R_lower hO7 HB5.out.size)
            have HB6 := Aside0.mk (below_then HB5.out HB5.out.size hB7)
            have HC3 := Aside0.mk (Kd.C_below HC3'.out hB7)
            have HPM7 := Aside0.mk hperm7
            have HRL := Aside0.mk hrk.1
            clear hrk hO7 hB7 hC7 HB5 HC3' HC6 HO5 hperm7 HP2
            generalize Sf.bucket (Sf.secondF S k) RK kinds = S2 at *
            go_wp2_with fail
            refine (ranks_calls A7 i c7 S2 A3 c3 RK k _ (own_C HO7.out) HC3.out (by omega) (by omega) HPM7.out HRL.out).mono ?_
            rintro e w7 ⟨v8, next, rfl, hO8, hl8, hn8, hB8⟩
            have hrs := Sf.ranked_step HST.out HRk.out (next := next) (by omega) (by rw [hl8, HR.out]) (by rw [HR.out]; exact hn8)
            rw [HR.out] at hrs
            obtain ⟨A8, c8, rfl, _, hC8⟩ := R_is hO8 hl8
            have HO9 := Aside0.mk (Kd.R_below HO7.out hB8)
            have HB7 := Aside0.mk (below_then HB6.out HB6.out.size hB8)
            have HC8 := Aside0.mk hC8
            have HRS := Aside0.mk hrs
            have hlv := Sf.lvl_le (Sf.partF RK k S2) (i - 1)
            clear hrs hO8 hl8 hn8 hB8 hC8 HB6 HO7 HC3
            generalize hL : Sf.lvl (Sf.partF RK k S2) (i - 1) = L at *
            have HL := Aside0.mk hL
            clear hL
            have eL : ((L + 1 : Nat) : Int) = (L : Int) + 1 := by omega
            have HEL := Aside0.mk eL
            clear eL
            by_cases hd : (L : Int) + 1 = i
            · have hd1 : ((L : Int) + 1 == i) = true := by simpa using hd
              clear hd
              go_wp2_with fail
              go_ret
              have hsa := Sf.SA_of_levels HST.out HRk.out (by omega) (by rw [HR.out, HL.out]; have := beq_iff_eq.1 hd1; omega)
              exact ⟨_, S2, rfl, hsa, R_low HO9.out HB1.out, below_then HB1.out HB1.out.size HB7.out⟩
            · have hd1 : ((L : Int) + 1 == i) = false := by simpa using hd
              clear hd
              go_wp2_with fail
              go_roundw
              case rel => exact ⟨2 * k, L + 1, S2, next, A8, A7, c8, c7, by go_num, rfl, by go_num, rfl, ⟨by omega⟩, HST, HRS, HC8, HO9, HB7⟩
              case measure => simp [intOf]; omega
          · go_wp2_with fail
            go_ret
            have hsa := Sf.SA_of_half HH.out (by rw [HR.out]; omega)
            exact ⟨_, S, rfl, hsa, R_low HO5.out HB1.out, below_then HB1.out HB1.out.size HB.out⟩
end Go.Proofs.Ytadekjidjhglaaa
