/- The document's answer for layer 10: whether two tokens are one. No condition. -/
import Derived.Test.YtlfhbnajopekpaaRf3
namespace Go.Proofs.Ytlfhbnajopekpaa
open Go.RowKit
attribute [local go_sem ↓] ld16 ld17 ld32 ld36
attribute [local go_sem] run_ldAgg run_storeAgg agg_alloc_at agg_alloc_past agg_drew agg_setCell row_alloc_at row_alloc_past row_drew setRow_alloc_at setRow_alloc_past setRow_drew agg_setRow_at agg_setRow_far cell_setRow_at cell_setRow_far row_setRow_far size_setRow tgC_size tgC_one tgC_part tgC_splice tokC_size tokC_0 tokC_1 tokC_2 tokC_3 tokC_g0 tokC_g1 tokC_g2 tokC_g3 tokC_part tokC_tag tokC_set0 tokC_set1 tokC_set2 tokC_set3 tokC_splice tokC_splice0 tgC_splice_any zero_tg zero_tok tokC_all tokC_ne tgC_ne

set_option maxRecDepth 100000 in
set_option maxHeartbeats 1600000 in
theorem c_rsame (t u : Tok) (A B : Option Addr) (n c m d : Nat) (ok ok' : Nat → Prop) (w : World) (hR : kCav.Row ok w A n c t.cavs) (hS : kCav.Row ok' w B m d u.cavs) :
    Calls Try.prog 38 #[tokV t A n c, tokV u B m d] w fun e w' => e = .returned (.bool (decide (t = u))) ∧ Below w.heap.size w w' := by
  have HLX := hide hR.1
  have HLY := hide hS.1
  have HR := hide hR
  have HS := hide hS
  have hbx : n ≤ maxLen := Nat.le_trans hR.2.1 hR.2.2.1
  simp only [maxLen] at hbx
  have htag := fun wx => tg_neq wx t.tag u.tag
  clear hR hS
  by_cases h1 : t.key = u.key
  · have h1' : (t.key : Int) = u.key := by rw [h1]
    by_cases h2 : t.id = u.id
    · have h2' := (bytes_inj _ _).2 h2
      by_cases h3 : t.bnd = u.bnd
      · by_cases h4 : t.tag = u.tag
        · rw [decide_eq_true h4] at htag
          have HE : Hid (decide (t = u) = decide (t.cavs = u.cavs)) := hide (by
            rw [Bool.eq_iff_iff]; simp only [decide_eq_true_eq, tok_eq, h1, h2, h3, h4, true_and])
          by_cases hl : n = m
          · subst hl
            clear h1 h2 h4
            go_enter Try.func38, Try.ntmps38
            go_wp2_with fail
            go_loopw [44] (fun i wr => ∃ k : Nat, k ≤ n ∧ i = .int .i64 (k : Int) ∧ Hid (t.cavs.take k = u.cavs.take k) ∧ Hid (Below w.heap.size w wr) ∧ Hid (wr.cell? ⟨w.heap.size, 2, none⟩ = some (.slice A n c)) ∧ Hid (wr.cell? ⟨w.heap.size + 1, 2, none⟩ = some (.slice B n d))) (fun i _ => n - (intOf i).toNat)
            case atStart => exact ⟨0, Nat.zero_le _, rfl, hide rfl, hide (below2 _ _ _), hide ((cell_of_row _ _ _ _ _ _ ((Below.heap_alloc _ _ _ (by simp)).trans (heap_alloc_new _ _))).trans (tokC_2 _ _ _ _ _)), hide ((cell_of_row _ _ _ _ _ _ (heap_new2 _ _ _)).trans (tokC_2 _ _ _ _ _))⟩
            case round =>
              obtain ⟨k, hk, rfl, HE1, HB, HB2, HB3⟩ := hrel
              have hy0 := HB2.out
              have hy1 := HB3.out
              by_cases hlt : k < n
              · obtain ⟨x, hx⟩ : ∃ x, t.cavs[k]? = some x := ⟨_, List.getElem?_eq_getElem (by have := HLX.out; omega)⟩
                obtain ⟨y, hy⟩ : ∃ y, u.cavs[k]? = some y := ⟨_, List.getElem?_eq_getElem (by have := HLY.out; omega)⟩
                obtain ⟨b1, q1, cs1, hix1, -, hbl1, hK1, hra1⟩ := (HR.out.below HB.out).index (P := Try.prog) Try.underlying57 (E := 85) cav_size hx
                obtain ⟨b2, q2, cs2, hix2, -, hbl2, hK2, hra2⟩ := (HS.out.below HB.out).index (P := Try.prog) Try.underlying57 (E := 85) cav_size hy
                have hKe1 := hK1.1
                have hKe2 := hK2.1
                subst hKe1
                subst hKe2
                have a0 := hra1 0 _ rfl
                have a1 := hra1 1 _ rfl
                have a2 := hra1 2 _ rfl
                have a3 := hra1 3 _ rfl
                have a4 := hra1 4 _ rfl
                have b0 := hra2 0 _ rfl
                have b1 := hra2 1 _ rfl
                have b2 := hra2 2 _ rfl
                have b3 := hra2 3 _ rfl
                have b4 := hra2 4 _ rfl
                simp only [Nat.add_zero] at a0 b0
                have HX := hide hx
                have HY := hide hy
                have hne := cav_neq_any x y
                clear hx hy hK1 hK2 hra1 hra2
                by_cases hxy : x = y
                · subst hxy
                  have HE2 : Hid (t.cavs.take (k + 1) = u.cavs.take (k + 1)) := hide (by
                    rw [List.take_add_one, List.take_add_one, HX.out, HY.out, HE1.out])
                  go_wp2_with fail
                  go_region
                  all_goals go_wp2_with fail
                  all_goals go_roundw
                  all_goals first
                    | (case rel => exact ⟨k + 1, by omega, by simp, HE2, hide HB.out.drew, hide HB2.out, hide HB3.out⟩)
                    | (simp [intOf]; omega)
                · have HNE := hide hxy
                  have HF : Hid (decide (t.cavs = u.cavs) = false) := hide (decide_eq_false fun e => by
                    have h1 := HX.out
                    rw [e, HY.out] at h1
                    exact HNE.out (Option.some.inj h1).symm)
                  rw [decide_eq_false hxy] at hne
                  clear hxy
                  go_wp2_with fail
                  go_region
                  all_goals go_wp2_with fail
                  all_goals go_ret
                  all_goals exact ⟨by rw [HE.out, HF.out]; rfl, HB.out.drew⟩
              · obtain rfl : k = n := by omega
                have HF : Hid (decide (t.cavs = u.cavs) = true) := hide (decide_eq_true (by
                  have := HE1.out
                  rwa [List.take_of_length_le (Nat.le_of_eq HLX.out), List.take_of_length_le (Nat.le_of_eq HLY.out)] at this))
                go_wp2_with fail
                go_ret
                exact ⟨by rw [HE.out, HF.out]; rfl, HB.out⟩
          · have HF : Hid (decide (t = u) = false) := hide (decide_eq_false fun e => hl (by rw [← HLX.out, ← HLY.out, e]))
            clear h1 h2 h4
            go_enter Try.func38, Try.ntmps38
            go_wp2_with fail
            go_ret
            exact ⟨by rw [HF.out]; rfl, below2 _ _ _⟩
        · have HE : Hid (decide (t = u) = false) := hide (decide_eq_false fun e => h4 (by rw [e]))
          rw [decide_eq_false h4] at htag
          clear h1 h2 h4
          go_enter Try.func38, Try.ntmps38
          go_wp2_with fail
          go_ret
          exact ⟨by rw [HE.out]; rfl, below2 _ _ _⟩
      · have HE : Hid (decide (t = u) = false) := hide (decide_eq_false fun e => h3 (by rw [e]))
        clear h1 h2
        go_enter Try.func38, Try.ntmps38
        go_wp2_with fail
        go_ret
        exact ⟨by rw [HE.out]; rfl, below2 _ _ _⟩
    · have HE : Hid (decide (t = u) = false) := hide (decide_eq_false fun e => h2 (by rw [e]))
      have h2' : ¬ t.id.toList = u.id.toList := fun e => h2 ((bytes_inj _ _).1 e)
      clear h1 h2
      go_enter Try.func38, Try.ntmps38
      go_wp2_with fail
      go_ret
      exact ⟨by rw [HE.out]; rfl, below2 _ _ _⟩
  · have HE : Hid (decide (t = u) = false) := hide (decide_eq_false fun e => h1 (by rw [e]))
    have h1' : ¬ (t.key : Int) = u.key := fun e => h1 (by omega)
    clear h1
    go_enter Try.func38, Try.ntmps38
    go_wp2_with fail
    go_ret
    exact ⟨by rw [HE.out]; rfl, below2 _ _ _⟩
end Go.Proofs.Ytlfhbnajopekpaa
