/- The walks of layer 23: the example; acts in memory. No condition. -/
import Derived.Test.YtlfhbnajopekpaaKey5
namespace Go.Proofs.Ytlfhbnajopekpaa
open Go.RowKit
open Go.Maps (Keyed)
open Go.WideElems (Fit rd rg pl rd_key rd_val rg_of)
attribute [local go_sem ↓] ld32 ld35
attribute [local go_sem] run_ldAgg run_storeAgg agg_alloc_at agg_alloc_past agg_drew agg_setCell row_alloc_at row_alloc_past row_drew setRow_alloc_at setRow_alloc_past setRow_drew agg_setRow_at agg_setRow_far cell_setRow_at cell_setRow_far row_setRow_far size_setRow tgC_size tgC_one tgC_part tgC_splice tgC_splice_any zero_tg tgC_ne keyC_size keyC_g0 keyC_g33 keyC_g34 keyC_0 keyC_33 keyC_34 keyC_part keyC_tag keyC_splice0 keyC_set33 keyC_set34 zero_key keyC_all keyC_ne
theorem KMap.zero {w : World} {b s : Nat} {F : Nat → Option Ky} (h : KMap w b F s) (hF : ∀ k, k < 18446744073709551616 → F k = none) : s = 0 := by
  obtain ⟨D, hown, rfl, hrel⟩ := h
  obtain ⟨es, clock, hb, Fi, hs, rfl⟩ := hown
  have hsz : Maps.size (DataW.map ((es.toList.map (rg Try.prog 39 RV)).foldr DataW.insert [])) = es.size := by simp [Maps.size, length_sorted]
  rw [hsz]
  rcases Nat.eq_zero_or_pos es.size with h0 | h0
  · exact h0
  · exfalso
    have hx : es.toList[0]? = some (es.toList[0]'(by simpa using h0)) := List.getElem?_eq_getElem _
    obtain ⟨x, hx'⟩ : ∃ x, es.toList[0]? = some x := ⟨_, hx⟩
    have hm := List.mem_of_getElem? hx'
    obtain ⟨y, hy⟩ := Fi.reads x hm
    have hk := rd_key hy
    obtain ⟨n, -, hn, hw⟩ := Maps.keyOf_int_inv Try.underlying39 hk
    have h' : 0 ≤ n ∧ n < 18446744073709551616 := by
      simp [Lit.wf, IntKind.min, IntKind.max, IntKind.signed, IntKind.bits] at hw
      omega
    have hl : y.1 = lu n.toNat := by rw [hn]; show Lit.int .u64 n = Lit.int .u64 ((n.toNat : Nat) : Int); rw [Int.toNat_of_nonneg h'.1]
    have hh : Maps.has (DataW.map ((es.toList.map (rg Try.prog 39 RV)).foldr DataW.insert [])) (lu n.toNat) = true :=
      List.any_eq_true.2 ⟨rg Try.prog 39 RV x, mem_sorted.2 (List.mem_map.2 ⟨x, hm, rfl⟩), by rw [rg_of hy, hl]; exact same_self _⟩
    rw [(hrel n.toNat (by omega)).1 (hF _ (by omega))] at hh
    cases hh
theorem tg_1 : (#[.int .u8 1, .int .u8 0, .int .u8 0, .int .u8 0, .int .u8 0, .int .u8 0, .int .u8 0, .int .u8 0, .int .u8 0, .int .u8 0, .int .u8 0, .int .u8 0, .int .u8 0, .int .u8 0, .int .u8 0, .int .u8 0, .int .u8 0, .int .u8 0, .int .u8 0, .int .u8 0, .int .u8 0, .int .u8 0, .int .u8 0, .int .u8 0, .int .u8 0, .int .u8 0, .int .u8 0, .int .u8 0, .int .u8 0, .int .u8 0, .int .u8 0, .int .u8 0] : Array Value) = tgC (tg1 1) := one_tg (n := 1) (by decide)
theorem tg_2 : (#[.int .u8 2, .int .u8 0, .int .u8 0, .int .u8 0, .int .u8 0, .int .u8 0, .int .u8 0, .int .u8 0, .int .u8 0, .int .u8 0, .int .u8 0, .int .u8 0, .int .u8 0, .int .u8 0, .int .u8 0, .int .u8 0, .int .u8 0, .int .u8 0, .int .u8 0, .int .u8 0, .int .u8 0, .int .u8 0, .int .u8 0, .int .u8 0, .int .u8 0, .int .u8 0, .int .u8 0, .int .u8 0, .int .u8 0, .int .u8 0, .int .u8 0, .int .u8 0] : Array Value) = tgC (tg1 2) := one_tg (n := 2) (by decide)
theorem tg_7 : (#[.int .u8 7, .int .u8 0, .int .u8 0, .int .u8 0, .int .u8 0, .int .u8 0, .int .u8 0, .int .u8 0, .int .u8 0, .int .u8 0, .int .u8 0, .int .u8 0, .int .u8 0, .int .u8 0, .int .u8 0, .int .u8 0, .int .u8 0, .int .u8 0, .int .u8 0, .int .u8 0, .int .u8 0, .int .u8 0, .int .u8 0, .int .u8 0, .int .u8 0, .int .u8 0, .int .u8 0, .int .u8 0, .int .u8 0, .int .u8 0, .int .u8 0, .int .u8 0] : Array Value) = tgC (tg1 7) := one_tg (n := 7) (by decide)
theorem tg_8 : (#[.int .u8 8, .int .u8 0, .int .u8 0, .int .u8 0, .int .u8 0, .int .u8 0, .int .u8 0, .int .u8 0, .int .u8 0, .int .u8 0, .int .u8 0, .int .u8 0, .int .u8 0, .int .u8 0, .int .u8 0, .int .u8 0, .int .u8 0, .int .u8 0, .int .u8 0, .int .u8 0, .int .u8 0, .int .u8 0, .int .u8 0, .int .u8 0, .int .u8 0, .int .u8 0, .int .u8 0, .int .u8 0, .int .u8 0, .int .u8 0, .int .u8 0, .int .u8 0] : Array Value) = tgC (tg1 8) := one_tg (n := 8) (by decide)
attribute [local go_sem] tg_1 tg_2 tg_7 tg_8
abbrev up (F : Nat → Option Ky) (k : Nat) (x : Ky) : Nat → Option Ky := fun j => if j = k then some x else F j
abbrev sA (m : Nat) : Ks := ⟨m, 0, fun _ => none, 0⟩
theorem make_root {S : Ks} {t : Tg} {til : Nat} {kind : Int} (hk : kind = 1 ∨ kind = 2) (h : S.s < S.most) (hn : S.F (S.last + 1) = none) : S.make kind t til = (⟨S.most, S.last + 1, up S.F (S.last + 1) ⟨kind, t, til, false⟩, S.s + 1⟩, S.last + 1, 0) := by
  rw [Ks.make, if_pos hk, if_neg (by omega), hn]
  rfl
set_option maxRecDepth 100000 in
set_option maxHeartbeats 400000 in
theorem c_kalive (w : World) : Calls Try.prog 19 #[] w fun e w' => e = .returned (.bool true) ∧ Below w.heap.size w w' := by
  go_enter Try.func19, Try.ntmps19
  go_wp2_with fail
  refine (c_knew 1 w).mono ?_
  rintro e w1 ⟨g, b, rfl, hk1, hg, hb, b1⟩
  have hk1 : KeysAt w1 g b (sA 1) := hk1
  have HK1 := hide hk1
  have HB1 := hide b1
  have hws1 := b1.size
  clear hk1 b1
  go_wp2_with fail
  refine (c_kmake 1 (tg1 1) 9 w1 HK1.out (by decide) (by decide) (by decide)).mono ?_
  have hm1 : (sA 1).make 1 (tg1 1) 9 = (⟨1, 1, up (fun _ => none) 1 ⟨1, tg1 1, 9, false⟩, 1⟩, 1, 0) := make_root (.inl rfl) (by decide) rfl
  rw [hm1]
  rintro e w2 ⟨rfl, hk2, b2⟩
  have HK2 := hide hk2
  have HB2 := hide (HB1.out.trans ((b2.below (B := w.heap.size) hg hb hws1)))
  have hws2 := b2.size
  clear hk2 b2 hm1
  go_wp2_with fail
  refine (c_krevoke 1 w2 HK2.out (by decide) (by decide)).mono ?_
  have hm2 : (⟨1, 1, up (fun _ => none) 1 ⟨1, tg1 1, 9, false⟩, 1⟩ : Ks).revoke 1 = (⟨1, 1, up (up (fun _ => none) 1 ⟨1, tg1 1, 9, false⟩) 1 ⟨1, tg1 1, 9, true⟩, 1⟩, true) := rfl
  rw [hm2]
  rintro e w3 ⟨rfl, hk3, b3⟩
  have HK3 := hide hk3
  have HB3 := hide (HB2.out.trans ((b3.below (B := w.heap.size) hg hb (by omega))))
  have hws3 := b3.size
  clear hk3 b3 hm2
  go_wp2_with fail
  refine (c_kpurge 0 w3 HK3.out (by decide)).mono ?_
  rintro e w4 ⟨s', rfl, -, hk4, b4⟩
  obtain rfl : s' = 0 := hk4.2.zero fun k _ => by
    show Option.filter _ (if k = 1 then some _ else if k = 1 then some _ else none) = none
    by_cases h : k = 1
    · rw [if_pos h]; rfl
    · rw [if_neg h, if_neg h]; rfl
  have HK4 := hide hk4
  have HB4 := hide (HB3.out.trans ((b4.below (B := w.heap.size) hg hb (by omega))))
  have hws4 := b4.size
  clear hk4 b4
  go_wp2_with fail
  refine (c_kmake 2 (tg1 2) 9 w4 HK4.out (by decide) (by decide) (by decide)).mono ?_
  rw [make_root (.inr rfl) (Nat.zero_lt_one) (by rfl)]
  rintro e w5 ⟨rfl, -, b5⟩
  have HB5 := hide (HB4.out.trans ((b5.below (B := w.heap.size) hg hb (by omega))))
  clear b5
  go_wp2_with fail
  go_ret
  exact ⟨rfl, HB5.out⟩
end Go.Proofs.Ytlfhbnajopekpaa
