/- The document's answer for layer 11: whether two bundles are one. No condition. -/
import Derived.Test.YtlfhbnajopekpaaRb1
namespace Go.Proofs.Ytlfhbnajopekpaa
open Go.RowKit
attribute [local go_sem ↓] ld16 ld17 ld32 ld36 ld37
attribute [local go_sem] run_ldAgg run_storeAgg agg_alloc_at agg_alloc_past agg_drew agg_setCell row_alloc_at row_alloc_past row_drew setRow_alloc_at setRow_alloc_past setRow_drew agg_setRow_at agg_setRow_far cell_setRow_at cell_setRow_far row_setRow_far size_setRow tgC_size tgC_one tgC_part tgC_splice tokC_size tokC_0 tokC_1 tokC_2 tokC_3 tokC_g0 tokC_g1 tokC_g2 tokC_g3 tokC_part tokC_tag tokC_set0 tokC_set1 tokC_set2 tokC_set3 tokC_splice tokC_splice0 tgC_splice_any zero_tg zero_tok tokC_all tokC_ne tgC_ne
attribute [local go_sem] bunC_size bunC_0 bunC_1 bunC_2 bunC_3 bunC_36 bunC_g3 bunC_g36 bunC_part bunC_root bunC_set36 bunC_splice bunC_splice0 zero_bun bunC_all bunC_ne

set_option maxRecDepth 100000 in
set_option maxHeartbeats 800000 in
theorem c_rbsame (x y : Bun) (A B C D : Option Addr) (n c m d n' c' m' d' : Nat) (ok1 ok2 ok3 ok4 : Nat → Prop) (w : World) (h1 : kCav.Row ok1 w A n c x.root.cavs) (h2 : kTok.Row ok2 w B m d x.dis) (h3 : kCav.Row ok3 w C n' c' y.root.cavs) (h4 : kTok.Row ok4 w D m' d' y.dis) :
    Calls Try.prog 37 #[bunV x A n c B m d, bunV y C n' c' D m' d'] w fun e w' => e = .returned (.bool (decide (x = y))) ∧ Below w.heap.size w w' := by
  have HLX := hide h2.1
  have HLY := hide h4.1
  have hbx : m ≤ maxLen := Nat.le_trans h2.2.1 h2.2.2.1
  simp only [maxLen] at hbx
  have H1 := hide h1
  have H2 := hide h2
  have H3 := hide h3
  have H4 := hide h4
  clear h1 h2 h3 h4
  go_enter Try.func37, Try.ntmps37
  go_wp2_with fail
  refine (c_rsame x.root y.root A C n c n' c' _ _ _ (H1.out.below (below2 _ _ _)) (H3.out.below (below2 _ _ _))).mono ?_
  rintro e w1 ⟨rfl, b1⟩
  have HB1 := hide (bnext (below2 _ _ _) b1)
  have hX : BunIn w1 w.heap.size x A n c B m d := (b1.block _ (by simp; omega)).trans ((Below.heap_alloc _ _ _ (by simp)).trans (heap_alloc_new _ _))
  have hY : BunIn w1 (w.heap.size + 1) y C n' c' D m' d' := (b1.block _ (by simp)).trans (heap_new2 _ _ _)
  have hx := hX.dis
  have hy := hY.dis
  clear b1 hX hY
  by_cases hr : x.root = y.root
  · have HE : Hid (decide (x = y) = decide (x.dis = y.dis)) := hide (by
      rw [Bool.eq_iff_iff]
      cases x; cases y
      simp only [decide_eq_true_eq, Bun.mk.injEq] at hr ⊢
      simp [hr])
    rw [decide_eq_true hr]
    clear hr
    by_cases hl : m = m'
    · subst hl
      go_wp2_with fail
      go_loopw [24] (fun i wr => ∃ k : Nat, k ≤ m ∧ i = .int .i64 (k : Int) ∧ Hid (x.dis.take k = y.dis.take k) ∧ Hid (Below w.heap.size w wr) ∧ Hid (wr.cell? ⟨w.heap.size, 36, none⟩ = some (.slice B m d)) ∧ Hid (wr.cell? ⟨w.heap.size + 1, 36, none⟩ = some (.slice D m d'))) (fun i _ => m - (intOf i).toNat)
      case atStart => exact ⟨0, Nat.zero_le _, rfl, hide rfl, HB1, hide hx, hide hy⟩
      case round =>
        obtain ⟨k, hk, rfl, HE1, HB, HB2, HB3⟩ := hrel
        by_cases hlt : k < m
        · obtain ⟨p, hp⟩ : ∃ p, x.dis[k]? = some p := ⟨_, List.getElem?_eq_getElem (by have := HLX.out; omega)⟩
          obtain ⟨r, hr⟩ : ∃ r, y.dis[k]? = some r := ⟨_, List.getElem?_eq_getElem (by have := HLY.out; omega)⟩
          obtain ⟨b1, q1, A1, n1, c1, hix1, hbl1, hag1, hr1, hk1⟩ := tok_at (H2.out.below HB.out) hp
          obtain ⟨b2, q2, A2, n2, c2, hix2, hbl2, hag2, hr2, hk2⟩ := tok_at (H4.out.below HB.out) hr
          have HP := hide hp
          have HR := hide hr
          have HR1 := hide hr1
          have HR2 := hide hr2
          clear hp hr hr1 hr2
          go_wp2_with fail
          refine wp_region_ext mixed 12 (fun i v w' => match i with
            | 0 => v = .pointer (some ⟨w.heap.size, 36, none⟩)
            | 1 => v = .slice B m d
            | 2 => v = .int .i64 (k : Int)
            | 3 => v = .pointer (some ⟨b1, q1, none⟩)
            | 4 => v = tokV p A1 n1 c1
            | 5 => v = .pointer (some ⟨w.heap.size + 1, 36, none⟩)
            | 6 => v = .slice D m d'
            | 7 => v = .int .i64 (k : Int)
            | 8 => v = .pointer (some ⟨b2, q2, none⟩)
            | 9 => v = tokV r A2 n2 c2
            | 10 => v = .bool (decide (p = r))
            | _ => v = .bool (!decide (p = r))
            ) (by kernel_rfl) rfl ?_ ?_ ?_
          · intro i v w1 w2 h1 h2
            split at h2 <;> exact h2
          · refine ⟨fun a w2 hle hd hf hs K hK => ?_, fun a w2 hle hd hf hs K hK => ?_, fun a w2 hle hd hf hs K hK => ?_, fun a w2 hle hd hf hs K hK => ?_, fun a w2 hle hd hf hs K hK => ?_, fun a w2 hle hd hf hs K hK => ?_, fun a w2 hle hd hf hs K hK => ?_, fun a w2 hle hd hf hs K hK => ?_, fun a w2 hle hd hf hs K hK => ?_, fun a w2 hle hd hf hs K hK => ?_, fun a w2 hle hd hf hs K hK => ?_, fun a w2 hle hd hf hs K hK => ?_, trivial⟩
            all_goals clear hd
            · -- 27 := Op.fieldAddr 70 t2 1
              have e2 := hf 2 rfl; simp [Act.eval] at e2
              go_simp; exact hK _ _ (Ext.refl _) rfl
            · -- 28 := Op.load 68 t27
              have e27 := hs 0 27 (by kernel_rfl) rfl; simp [Act.eval] at e27
              have hc : w2.cell? ⟨w.heap.size, 36, none⟩ = some (.slice B m d) := hle.cell HB2.out
              go_simp; exact hK _ _ (Ext.refl _) rfl
            · -- 29 := Op.move t5
              have e5 := hf 5 rfl; simp [Act.eval] at e5
              go_simp; exact hK _ _ (Ext.refl _) rfl
            · -- 30 := Op.indexAddr 68 t28 t29
              have e28 := hs 1 28 (by kernel_rfl) rfl; have e29 := hs 2 29 (by kernel_rfl) rfl; simp [Act.eval] at e28 e29
              go_simp; exact hK _ _ (Ext.refl _) rfl
            · -- 31 := Op.load 59 t30
              have e30 := hs 3 30 (by kernel_rfl) rfl; simp [Act.eval] at e30
              have hq : agg? w2 ⟨b1, q1, none⟩ 36 = some (tokA p A1 n1 c1) := (agg_block (hle.block _ hbl1)).trans hag1
              go_simp; exact hK _ _ (Ext.refl _) rfl
            · -- 32 := Op.fieldAddr 70 t3 1
              have e3 := hf 3 rfl; simp [Act.eval] at e3
              go_simp; exact hK _ _ (Ext.refl _) rfl
            · -- 33 := Op.load 68 t32
              have e32 := hs 5 32 (by kernel_rfl) rfl; simp [Act.eval] at e32
              have hc : w2.cell? ⟨w.heap.size + 1, 36, none⟩ = some (.slice D m d') := hle.cell HB3.out
              go_simp; exact hK _ _ (Ext.refl _) rfl
            · -- 34 := Op.move t5
              have e5 := hf 5 rfl; simp [Act.eval] at e5
              go_simp; exact hK _ _ (Ext.refl _) rfl
            · -- 35 := Op.indexAddr 68 t33 t34
              have e33 := hs 6 33 (by kernel_rfl) rfl; have e34 := hs 7 34 (by kernel_rfl) rfl; simp [Act.eval] at e33 e34
              go_simp; exact hK _ _ (Ext.refl _) rfl
            · -- 36 := Op.load 59 t35
              have e35 := hs 8 35 (by kernel_rfl) rfl; simp [Act.eval] at e35
              have hq : agg? w2 ⟨b2, q2, none⟩ 36 = some (tokA r A2 n2 c2) := (agg_block (hle.block _ hbl2)).trans hag2
              go_simp; exact hK _ _ (Ext.refl _) rfl
            · -- 37 := Op.call { value (Operand.func 38), args := #[t31, t36], argTypes := #[59, 59] }
              have e31 := hs 4 31 (by kernel_rfl) rfl; have e36 := hs 9 36 (by kernel_rfl) rfl; simp [Act.eval] at e31 e36
              go_simp
              refine (c_rsame p r A1 A2 n1 c1 n2 c2 _ _ w2 (HR1.out.below hle) (HR2.out.below hle)).mono ?_
              rintro e w3 ⟨rfl, b3⟩
              exact hK _ _ b3 rfl
            · -- 38 := Op.unOp UnOp.not 4 t37
              have e37 := hs 10 37 (by kernel_rfl) rfl; simp [Act.eval] at e37
              go_simp; exact hK _ _ (Ext.refl _) rfl
          intro vs w8 hle hs
          have v11 := hs 11 (by omega) rfl
          simp only at v11
          clear hs

          have HB8 := hide (HB.out.trans (hle.mono HB.out.size))
          have HC8 := hide (hle.cell HB2.out)
          have HD8 := hide (hle.cell HB3.out)
          clear hle
          by_cases hpr : p = r
          · subst hpr
            have HE2 : Hid (x.dis.take (k + 1) = y.dis.take (k + 1)) := hide (by
              rw [List.take_add_one, List.take_add_one, HP.out, HR.out, HE1.out])
            simp only [decide_true] at v11
            simp only [putN, dstAt]
            go_simp
            go_wp2_with fail
            go_roundw
            case rel => exact ⟨k + 1, by omega, by simp, HE2, HB8, HC8, HD8⟩
            case measure => simp [intOf]; omega
          · have HF : Hid (decide (x.dis = y.dis) = false) := hide (decide_eq_false fun e => by
              have h1 := HP.out
              rw [e, HR.out] at h1
              exact hpr (Option.some.inj h1).symm)
            rw [decide_eq_false hpr] at v11
            clear hpr
            simp only [putN, dstAt]
            go_simp
            go_wp2_with fail
            go_ret
            exact ⟨by rw [HE.out, HF.out]; rfl, HB8.out⟩
        · obtain rfl : k = m := by omega
          have HF : Hid (decide (x.dis = y.dis) = true) := hide (decide_eq_true (by
            have := HE1.out
            rwa [List.take_of_length_le (Nat.le_of_eq HLX.out), List.take_of_length_le (Nat.le_of_eq HLY.out)] at this))
          go_wp2_with fail
          go_ret
          exact ⟨by rw [HE.out, HF.out]; rfl, HB.out⟩
    · have HF : Hid (decide (x.dis = y.dis) = false) := hide (decide_eq_false fun e => hl (by rw [← HLX.out, ← HLY.out, e]))
      go_wp2_with fail
      go_ret
      exact ⟨by rw [HE.out, HF.out]; rfl, HB1.out⟩
  · have HE : Hid (decide (x = y) = false) := hide (decide_eq_false fun e => hr (by rw [e]))
    rw [decide_eq_false hr]
    clear hr
    go_wp2_with fail
    go_ret
    exact ⟨by rw [HE.out]; rfl, HB1.out⟩
end Go.Proofs.Ytlfhbnajopekpaa
