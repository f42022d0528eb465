/- The walks of layer 23: keys made, revoked, rotated, purged. No condition. -/
import Derived.Test.YtlfhbnajopekpaaKey2
namespace Go.Proofs.Ytlfhbnajopekpaa
open Go.RowKit
open Go.Maps (Keyed)
attribute [local go_sem ↓] ld32 ld35
attribute [local go_sem] run_ldAgg run_storeAgg agg_alloc_at agg_alloc_past agg_drew agg_setCell row_alloc_at row_alloc_past row_drew setRow_alloc_at setRow_alloc_past setRow_drew agg_setRow_at agg_setRow_far cell_setRow_at cell_setRow_far row_setRow_far size_setRow tgC_size tgC_one tgC_part tgC_splice tgC_splice_any zero_tg tgC_ne keyC_size keyC_g0 keyC_g33 keyC_g34 keyC_0 keyC_33 keyC_34 keyC_part keyC_tag keyC_splice0 keyC_set33 keyC_set34 zero_key keyC_all keyC_ne

section
variable {w : World} {ops : Array Oper} {rest : List Oper} {o : Oper} {a : Act} {Q : Exit → Act → World → Prop} {b s : Nat} {F : Nat → Option Ky}
theorem evk {t : Tmp} {v : Value} (h : a.tmps[t]?.getD undef = v) : a.eval (.tmp t) = v := by
  simp only [Act.eval]
  simpa using h
theorem wp_klen {K : Act → World → Prop} (m : Operand) (hop : o.op = Op.call { callee := .builtin .len, args := #[m], argTypes := #[107] }) (hm : a.eval m = .map (some b)) (h : KMap w b F s)
    (hK : K (a.put o.dst (.int .i64 (s : Int))) w) : o.wp Try.prog a w K Q := by
  unfold Oper.wp execOp
  simp only [hop, resolve, invoke, builtin, Sem.run_bind, Sem.run_pure, Result.andThen_ok, List.map_toArray, List.map_cons, List.map_nil, hm, h.len]
  exact hK
end
def Ks.make (S : Ks) (kind : Int) (t : Tg) (til : Nat) : Ks × Nat × Nat :=
  if kind = 1 ∨ kind = 2 then
    if S.most ≤ S.s then (S, 0, 4)
    else (⟨S.most, S.last + 1, fun j => if j = S.last + 1 then some ⟨kind, t, til, false⟩ else S.F j, if (S.F (S.last + 1)).isSome then S.s else S.s + 1⟩, S.last + 1, 0)
  else (S, 0, 1)
theorem KeysAt.cells {w : World} {g b : Nat} {S : Ks} (h : KeysAt w g b S) : w.cell? ⟨g, 0, none⟩ = some (.int .i64 (S.most : Int)) ∧ w.cell? ⟨g, 1, none⟩ = some (.int .u64 (S.last : Int)) ∧ w.cell? ⟨g, 2, none⟩ = some (.map (some b)) ∧ ∀ j, w.frozen? ⟨g, j, none⟩ = false :=
  ⟨(cell_of_row w _ _ _ _ _ h.1).trans rfl, (cell_of_row w _ _ _ _ _ h.1).trans rfl, (cell_of_row w _ _ _ _ _ h.1).trans rfl, fun j => frozen_of_row w _ _ _ _ h.1⟩
set_option maxRecDepth 100000 in
set_option maxHeartbeats 400000 in
theorem c_kmake {S : Ks} {g b : Nat} (kind : Int) (t : Tg) (til : Nat) (w : World) (h : KeysAt w g b S) (hl : S.last + 1 < 18446744073709551616) (hs : S.s < maxLen) (ht : til < 18446744073709551616) :
    Calls Try.prog 21 #[.pointer (some ⟨g, 0, none⟩), .int .i64 kind, tgV t, .int .u64 (til : Int)] w fun e w' =>
      e = .returned (.tuple #[.int .u64 ((S.make kind t til).2.1 : Int), .int .i64 ((S.make kind t til).2.2 : Int)]) ∧ KeysAt w' g b (S.make kind t til).1 ∧ But g b w w' := by
  have hgs := (Array.getElem?_eq_some_iff.1 h.1).1
  obtain ⟨hc0, hc1, hc2, hf⟩ := (h.ext (below1 w (.cells (tgC t) 44))).cells
  have HL0 := hide hl
  have HS0 := hide hs
  clear hl hs ht
  have H := hide h
  have HB : Hid (But g b w (w.alloc (.cells (tgC t) 44))) := hide (But.ext (below1 _ _))
  clear h
  by_cases hk : kind = 1 ∨ kind = 2
  · by_cases hfu : S.most ≤ S.s
    · have HP : Hid (S.make kind t til = (S, 0, 4)) := hide (by rw [Ks.make, if_pos hk, if_pos hfu])
      rcases hk with rfl | rfl
      · go_enter Try.func21, Try.ntmps21
        go_wp2_with fail
        refine wp_region_ext mixed 11 (fun i v w' => match i with
          | 0 => v = .pointer (some ⟨g, 0, none⟩)
          | 1 => v = .pointer (some ⟨g, 0, none⟩)
          | 2 => v = .pointer (some ⟨g, 2, none⟩)
          | 3 => v = .map (some b)
          | 4 => v = .int .i64 (S.s : Int)
          | 5 => v = .pointer (some ⟨g, 0, none⟩)
          | 6 => v = .pointer (some ⟨g, 0, none⟩)
          | 7 => v = .pointer (some ⟨g, 0, none⟩)
          | 8 => v = .int .i64 (S.most : Int)
          | 9 => v = .bool true
          | _ => v = .bool true
          ) (by kernel_rfl) rfl ?_ ?_ ?_
        · intro i v w1 w2 h1 h2
          split at h2 <;> exact h2
        · refine ⟨fun a w2 hle hd hf hs K hK => ?_, fun a w2 hle hd hf hs K hK => ?_, fun a w2 hle hd hf hs K hK => ?_, fun a w2 hle hd hf hs K hK => ?_, fun a w2 hle hd hf hs K hK => ?_, fun a w2 hle hd hf hs K hK => ?_, fun a w2 hle hd hf hs K hK => ?_, fun a w2 hle hd hf hs K hK => ?_, fun a w2 hle hd hf hs K hK => ?_, fun a w2 hle hd hf hs K hK => ?_, fun a w2 hle hd hf hs K hK => ?_, trivial⟩
          all_goals clear hd
          · -- 18 := Op.move t0
            have e0 := hf 0 rfl; simp [Act.eval] at e0
            go_simp; exact hK _ _ (Ext.refl _) rfl
          · -- 19 := Op.nilCheck t18
            have e18 := hs 0 18 (by kernel_rfl) rfl; simp [Act.eval] at e18
            go_simp; exact hK _ _ (Ext.refl _) rfl
          · -- 20 := Op.fieldAddr 109 t19 2
            have e19 := hs 1 19 (by kernel_rfl) rfl; simp [Act.eval] at e19
            go_simp; exact hK _ _ (Ext.refl _) rfl
          · -- 21 := Op.load 107 t20
            have e20 := hs 2 20 (by kernel_rfl) rfl; simp [Act.eval] at e20
            have hc2' := hle.cell hc2
            go_simp; exact hK _ _ (Ext.refl _) rfl
          · -- 22 := Op.call { builtin len, args := #[t21], argTypes := #[107] }
            have e21 := hs 3 21 (by kernel_rfl) rfl; simp [Act.eval] at e21
            refine wp_klen _ rfl (evk e21) ((H.out.2.ext (below1 _ _)).ext hle) ?_
            exact hK _ _ (Ext.refl _) rfl
          · -- 23 := Op.move t0
            have e0 := hf 0 rfl; simp [Act.eval] at e0
            go_simp; exact hK _ _ (Ext.refl _) rfl
          · -- 24 := Op.nilCheck t23
            have e23 := hs 5 23 (by kernel_rfl) rfl; simp [Act.eval] at e23
            go_simp; exact hK _ _ (Ext.refl _) rfl
          · -- 25 := Op.fieldAddr 109 t24 0
            have e24 := hs 6 24 (by kernel_rfl) rfl; simp [Act.eval] at e24
            go_simp; exact hK _ _ (Ext.refl _) rfl
          · -- 26 := Op.load 3 t25
            have e25 := hs 7 25 (by kernel_rfl) rfl; simp [Act.eval] at e25
            have hc0' := hle.cell hc0
            go_simp; exact hK _ _ (Ext.refl _) rfl
          · -- 27 := Op.binOp BinOp.geq 3 t22 t26 3
            have e22 := hs 4 22 (by kernel_rfl) rfl; have e26 := hs 8 26 (by kernel_rfl) rfl; simp [Act.eval] at e22 e26
            go_simp; exact hK _ _ (Ext.refl _) rfl
          · -- 17 := Op.assign t27
            have e27 := hs 9 27 (by kernel_rfl) rfl; simp [Act.eval] at e27
            go_simp; exact hK _ _ (Ext.refl _) rfl
        intro vs w8 hle hs
        have v10 := hs 10 (by omega) rfl
        simp only at v10
        clear hs
        have HK8 := hide ((H.out.ext (below1 _ _)).ext hle)
        have HB8 := hide (HB.out.trans (But.ext hle))
        clear hle
        simp only [putN, dstAt]
        go_simp
        go_wp2_with fail
        go_ret2
        exact ⟨by rw [HP.out]; rfl, by rw [HP.out]; exact HK8.out, HB8.out⟩
      · go_enter Try.func21, Try.ntmps21
        go_wp2_with fail
        refine wp_region_ext mixed 11 (fun i v w' => match i with
          | 0 => v = .pointer (some ⟨g, 0, none⟩)
          | 1 => v = .pointer (some ⟨g, 0, none⟩)
          | 2 => v = .pointer (some ⟨g, 2, none⟩)
          | 3 => v = .map (some b)
          | 4 => v = .int .i64 (S.s : Int)
          | 5 => v = .pointer (some ⟨g, 0, none⟩)
          | 6 => v = .pointer (some ⟨g, 0, none⟩)
          | 7 => v = .pointer (some ⟨g, 0, none⟩)
          | 8 => v = .int .i64 (S.most : Int)
          | 9 => v = .bool true
          | _ => v = .bool true
          ) (by kernel_rfl) rfl ?_ ?_ ?_
        · intro i v w1 w2 h1 h2
          split at h2 <;> exact h2
        · refine ⟨fun a w2 hle hd hf hs K hK => ?_, fun a w2 hle hd hf hs K hK => ?_, fun a w2 hle hd hf hs K hK => ?_, fun a w2 hle hd hf hs K hK => ?_, fun a w2 hle hd hf hs K hK => ?_, fun a w2 hle hd hf hs K hK => ?_, fun a w2 hle hd hf hs K hK => ?_, fun a w2 hle hd hf hs K hK => ?_, fun a w2 hle hd hf hs K hK => ?_, fun a w2 hle hd hf hs K hK => ?_, fun a w2 hle hd hf hs K hK => ?_, trivial⟩
          all_goals clear hd
          · -- 18 := Op.move t0
            have e0 := hf 0 rfl; simp [Act.eval] at e0
            go_simp; exact hK _ _ (Ext.refl _) rfl
          · -- 19 := Op.nilCheck t18
            have e18 := hs 0 18 (by kernel_rfl) rfl; simp [Act.eval] at e18
            go_simp; exact hK _ _ (Ext.refl _) rfl
          · -- 20 := Op.fieldAddr 109 t19 2
            have e19 := hs 1 19 (by kernel_rfl) rfl; simp [Act.eval] at e19
            go_simp; exact hK _ _ (Ext.refl _) rfl
          · -- 21 := Op.load 107 t20
            have e20 := hs 2 20 (by kernel_rfl) rfl; simp [Act.eval] at e20
            have hc2' := hle.cell hc2
            go_simp; exact hK _ _ (Ext.refl _) rfl
          · -- 22 := Op.call { builtin len, args := #[t21], argTypes := #[107] }
            have e21 := hs 3 21 (by kernel_rfl) rfl; simp [Act.eval] at e21
            refine wp_klen _ rfl (evk e21) ((H.out.2.ext (below1 _ _)).ext hle) ?_
            exact hK _ _ (Ext.refl _) rfl
          · -- 23 := Op.move t0
            have e0 := hf 0 rfl; simp [Act.eval] at e0
            go_simp; exact hK _ _ (Ext.refl _) rfl
          · -- 24 := Op.nilCheck t23
            have e23 := hs 5 23 (by kernel_rfl) rfl; simp [Act.eval] at e23
            go_simp; exact hK _ _ (Ext.refl _) rfl
          · -- 25 := Op.fieldAddr 109 t24 0
            have e24 := hs 6 24 (by kernel_rfl) rfl; simp [Act.eval] at e24
            go_simp; exact hK _ _ (Ext.refl _) rfl
          · -- 26 := Op.load 3 t25
            have e25 := hs 7 25 (by kernel_rfl) rfl; simp [Act.eval] at e25
            have hc0' := hle.cell hc0
            go_simp; exact hK _ _ (Ext.refl _) rfl
          · -- 27 := Op.binOp BinOp.geq 3 t22 t26 3
            have e22 := hs 4 22 (by kernel_rfl) rfl; have e26 := hs 8 26 (by kernel_rfl) rfl; simp [Act.eval] at e22 e26
            go_simp; exact hK _ _ (Ext.refl _) rfl
          · -- 17 := Op.assign t27
            have e27 := hs 9 27 (by kernel_rfl) rfl; simp [Act.eval] at e27
            go_simp; exact hK _ _ (Ext.refl _) rfl
        intro vs w8 hle hs
        have v10 := hs 10 (by omega) rfl
        simp only at v10
        clear hs
        have HK8 := hide ((H.out.ext (below1 _ _)).ext hle)
        have HB8 := hide (HB.out.trans (But.ext hle))
        clear hle
        simp only [putN, dstAt]
        go_simp
        go_wp2_with fail
        go_ret2
        exact ⟨by rw [HP.out]; rfl, by rw [HP.out]; exact HK8.out, HB8.out⟩
    · have HP : Hid (S.make kind t til = (⟨S.most, S.last + 1, fun j => if j = S.last + 1 then some ⟨kind, t, til, false⟩ else S.F j, if (S.F (S.last + 1)).isSome then S.s else S.s + 1⟩, S.last + 1, 0)) := hide (by rw [Ks.make, if_pos hk, if_neg hfu])
      have hl' : (S.last : Int) + 1 < 18446744073709551616 := by have := HL0.out; omega
      rcases hk with rfl | rfl
      · go_enter Try.func21, Try.ntmps21
        go_wp2_with fail
        refine wp_region_ext mixed 11 (fun i v w' => match i with
          | 0 => v = .pointer (some ⟨g, 0, none⟩)
          | 1 => v = .pointer (some ⟨g, 0, none⟩)
          | 2 => v = .pointer (some ⟨g, 2, none⟩)
          | 3 => v = .map (some b)
          | 4 => v = .int .i64 (S.s : Int)
          | 5 => v = .pointer (some ⟨g, 0, none⟩)
          | 6 => v = .pointer (some ⟨g, 0, none⟩)
          | 7 => v = .pointer (some ⟨g, 0, none⟩)
          | 8 => v = .int .i64 (S.most : Int)
          | 9 => v = .bool false
          | _ => v = .bool false
          ) (by kernel_rfl) rfl ?_ ?_ ?_
        · intro i v w1 w2 h1 h2
          split at h2 <;> exact h2
        · refine ⟨fun a w2 hle hd hf hs K hK => ?_, fun a w2 hle hd hf hs K hK => ?_, fun a w2 hle hd hf hs K hK => ?_, fun a w2 hle hd hf hs K hK => ?_, fun a w2 hle hd hf hs K hK => ?_, fun a w2 hle hd hf hs K hK => ?_, fun a w2 hle hd hf hs K hK => ?_, fun a w2 hle hd hf hs K hK => ?_, fun a w2 hle hd hf hs K hK => ?_, fun a w2 hle hd hf hs K hK => ?_, fun a w2 hle hd hf hs K hK => ?_, trivial⟩
          all_goals clear hd
          · -- 18 := Op.move t0
            have e0 := hf 0 rfl; simp [Act.eval] at e0
            go_simp; exact hK _ _ (Ext.refl _) rfl
          · -- 19 := Op.nilCheck t18
            have e18 := hs 0 18 (by kernel_rfl) rfl; simp [Act.eval] at e18
            go_simp; exact hK _ _ (Ext.refl _) rfl
          · -- 20 := Op.fieldAddr 109 t19 2
            have e19 := hs 1 19 (by kernel_rfl) rfl; simp [Act.eval] at e19
            go_simp; exact hK _ _ (Ext.refl _) rfl
          · -- 21 := Op.load 107 t20
            have e20 := hs 2 20 (by kernel_rfl) rfl; simp [Act.eval] at e20
            have hc2' := hle.cell hc2
            go_simp; exact hK _ _ (Ext.refl _) rfl
          · -- 22 := Op.call { builtin len, args := #[t21], argTypes := #[107] }
            have e21 := hs 3 21 (by kernel_rfl) rfl; simp [Act.eval] at e21
            refine wp_klen _ rfl (evk e21) ((H.out.2.ext (below1 _ _)).ext hle) ?_
            exact hK _ _ (Ext.refl _) rfl
          · -- 23 := Op.move t0
            have e0 := hf 0 rfl; simp [Act.eval] at e0
            go_simp; exact hK _ _ (Ext.refl _) rfl
          · -- 24 := Op.nilCheck t23
            have e23 := hs 5 23 (by kernel_rfl) rfl; simp [Act.eval] at e23
            go_simp; exact hK _ _ (Ext.refl _) rfl
          · -- 25 := Op.fieldAddr 109 t24 0
            have e24 := hs 6 24 (by kernel_rfl) rfl; simp [Act.eval] at e24
            go_simp; exact hK _ _ (Ext.refl _) rfl
          · -- 26 := Op.load 3 t25
            have e25 := hs 7 25 (by kernel_rfl) rfl; simp [Act.eval] at e25
            have hc0' := hle.cell hc0
            go_simp; exact hK _ _ (Ext.refl _) rfl
          · -- 27 := Op.binOp BinOp.geq 3 t22 t26 3
            have e22 := hs 4 22 (by kernel_rfl) rfl; have e26 := hs 8 26 (by kernel_rfl) rfl; simp [Act.eval] at e22 e26
            go_simp; exact hK _ _ (Ext.refl _) rfl
          · -- 17 := Op.assign t27
            have e27 := hs 9 27 (by kernel_rfl) rfl; simp [Act.eval] at e27
            go_simp; exact hK _ _ (Ext.refl _) rfl
        intro vs w8 hle hs
        have v10 := hs 10 (by omega) rfl
        simp only at v10
        clear hs
        have HK8 := hide ((H.out.ext (below1 _ _)).ext hle)
        have HB8 := hide (HB.out.trans (But.ext hle))
        have hwt8 : w.heap.size < w8.heap.size := by have := hle.size; simp only [World.size_alloc] at this; omega
        have hag8 : agg? w8 ⟨w.heap.size, 0, none⟩ 32 = some (tgC t) := by
          refine (agg_block (hle.block _ (by simp))).trans ?_
          rw [agg_of_row (heap_alloc_new w _) 0 32 (by decide)]
          exact tgC_part _
        obtain ⟨hd0, hd1, hd2, hf8⟩ := HK8.out.cells
        have hgb := HK8.out.ne
        clear hle hc0 hc1 hc2 hf
        simp only [putN, dstAt]
        go_simp
        go_wp2_with fail
        obtain ⟨w9, hw9⟩ : ∃ w9, w9 = w8.setCell ⟨g, 1, none⟩ (.int .u64 ((S.last : Int) + 1)) := ⟨_, rfl⟩
        rw [← hw9]
        obtain ⟨l1, hl1⟩ : ∃ l1, l1 = S.last + 1 := ⟨_, rfl⟩
        have hq9 : w9.heap[g]? = some (.cells #[.int .i64 (S.most : Int), .int .u64 (l1 : Int), .map (some b)] 109) := by
          rw [hw9, hl1]
          exact heap_setCell_at HK8.out.1 _
        have HM9 := hide (HK8.out.2.of_heap (w' := w9) (by rw [hw9]; exact Below.heap_setCell _ _ _ _ (Ne.symm hgb)))
        have HQ9 := hide hq9
        have hd1' : w9.cell? ⟨g, 1, none⟩ = some (.int .u64 (l1 : Int)) := (cell_of_row w9 _ _ _ _ _ hq9).trans rfl
        have hd2' : w9.cell? ⟨g, 2, none⟩ = some (.map (some b)) := (cell_of_row w9 _ _ _ _ _ hq9).trans rfl
        have hwt : w.heap.size < w9.heap.size := by rw [hw9]; simpa using hwt8
        have hagt : agg? w9 ⟨w.heap.size, 0, none⟩ 32 = some (tgC t) := by
          rw [hw9]
          exact (agg_block (Below.heap_setCell _ _ _ _ (by show ¬ w.heap.size = g; omega))).trans hag8
        have HB9 := hide (HB8.out.trans (hw9 ▸ But.setCell (g := g) (b := b) (w := w8) 1 (.int .u64 ((S.last : Int) + 1))))
        have HL1 := hide hl1
        clear hd0 hd1 hd2 hf8 hag8 hwt8 hw9 HK8 HB8 hq9 hl1 hl'
        refine wp_region_ext mixed 12 (fun i v w' => match i with
          | 0 => v = .pointer (some ⟨g, 0, none⟩)
          | 1 => v = .pointer (some ⟨g, 0, none⟩)
          | 2 => v = .pointer (some ⟨g, 2, none⟩)
          | 3 => v = .map (some b)
          | 4 => v = .pointer (some ⟨g, 0, none⟩)
          | 5 => v = .pointer (some ⟨g, 0, none⟩)
          | 6 => v = .pointer (some ⟨g, 1, none⟩)
          | 7 => v = .int .u64 (l1 : Int)
          | 8 => v = .int .i64 1
          | 9 => v = tgV t
          | 10 => v = .int .u64 (til : Int)
          | _ => v = kyV ⟨1, t, til, false⟩
          ) (by kernel_rfl) rfl ?_ ?_ ?_
        · intro i v w1 w2 h1 h2
          split at h2 <;> exact h2
        · refine ⟨fun a w2 hle hd hf hs K hK => ?_, fun a w2 hle hd hf hs K hK => ?_, fun a w2 hle hd hf hs K hK => ?_, fun a w2 hle hd hf hs K hK => ?_, fun a w2 hle hd hf hs K hK => ?_, fun a w2 hle hd hf hs K hK => ?_, fun a w2 hle hd hf hs K hK => ?_, fun a w2 hle hd hf hs K hK => ?_, fun a w2 hle hd hf hs K hK => ?_, fun a w2 hle hd hf hs K hK => ?_, fun a w2 hle hd hf hs K hK => ?_, fun a w2 hle hd hf hs K hK => ?_, trivial⟩
          all_goals clear hd
          · -- 35 := Op.move t0
            have e0 := hf 0 rfl; simp [Act.eval] at e0
            go_simp; exact hK _ _ (Ext.refl _) rfl
          · -- 36 := Op.nilCheck t35
            have e35 := hs 0 35 (by kernel_rfl) rfl; simp [Act.eval] at e35
            go_simp; exact hK _ _ (Ext.refl _) rfl
          · -- 37 := Op.fieldAddr 109 t36 2
            have e36 := hs 1 36 (by kernel_rfl) rfl; simp [Act.eval] at e36
            go_simp; exact hK _ _ (Ext.refl _) rfl
          · -- 38 := Op.load 107 t37
            have e37 := hs 2 37 (by kernel_rfl) rfl; simp [Act.eval] at e37
            have hc2' := hle.cell hd2'
            go_simp; exact hK _ _ (Ext.refl _) rfl
          · -- 39 := Op.move t0
            have e0 := hf 0 rfl; simp [Act.eval] at e0
            go_simp; exact hK _ _ (Ext.refl _) rfl
          · -- 40 := Op.nilCheck t39
            have e39 := hs 4 39 (by kernel_rfl) rfl; simp [Act.eval] at e39
            go_simp; exact hK _ _ (Ext.refl _) rfl
          · -- 41 := Op.fieldAddr 109 t40 1
            have e40 := hs 5 40 (by kernel_rfl) rfl; simp [Act.eval] at e40
            go_simp; exact hK _ _ (Ext.refl _) rfl
          · -- 42 := Op.load 39 t41
            have e41 := hs 6 41 (by kernel_rfl) rfl; simp [Act.eval] at e41
            have hc1' := hle.cell hd1'
            go_simp; exact hK _ _ (Ext.refl _) rfl
          · -- 43 := Op.move t1
            have e1 := hf 1 rfl; simp [Act.eval] at e1
            go_simp; exact hK _ _ (Ext.refl _) rfl
          · -- 44 := Op.load 44 t6
            have e6 := hf 6 rfl; simp [Act.eval] at e6
            have hq : agg? w2 ⟨w.heap.size, 0, none⟩ 32 = some (tgC t) := (agg_block (hle.block _ hwt)).trans hagt
            go_simp; exact hK _ _ (Ext.refl _) rfl
          · -- 45 := Op.move t3
            have e3 := hf 3 rfl; simp [Act.eval] at e3
            go_simp; exact hK _ _ (Ext.refl _) rfl
          · -- 46 := Op.build 111 #[(0, t43), (1, t44), (2, t45)]
            have e43 := hs 8 43 (by kernel_rfl) rfl; have e44 := hs 9 44 (by kernel_rfl) rfl; have e45 := hs 10 45 (by kernel_rfl) rfl; simp [Act.eval] at e43 e44 e45
            exact wp_buildKey _ _ _ rfl _ _ _ _ _ (evk e43) (evk e44) (evk e45) (hK _ _ (Ext.refl _) rfl)
        intro vs w8 hle hs
        have v3 := hs 3 (by omega) rfl
        have v7 := hs 7 (by omega) rfl
        have v11 := hs 11 (by omega) rfl
        simp only at v3 v7 v11
        clear hs
        have HM10 := hide (HM9.out.ext hle)
        have hgs9 := (Array.getElem?_eq_some_iff.1 HQ9.out).1
        have HQ10 := hide ((hle.block g hgs9).trans HQ9.out)
        have hgs10 : g < w8.heap.size := Nat.lt_of_lt_of_le hgs9 hle.size
        have HB10 := hide (HB9.out.trans (But.ext hle))
        clear hle
        simp only [putN, dstAt, List.getElem?_toArray, List.getElem?_cons_succ, List.getElem?_cons_zero, Option.bind_some, Act.put, List.setIfInBounds_toArray, List.set_cons_succ, List.set_cons_zero, List.drop_succ_cons, List.drop_zero, v3, v7, v11]
        refine wpList_kstore rfl (.tmp 38) (.tmp 42) (.tmp 46) rfl rfl HM10.out l1 rfl (by rw [HL1.out]; exact HL0.out) HS0.out ⟨1, t, til, false⟩ rfl ?_
        intro w11 hm11 hg11
        have hq11 := (hg11.block g hgs10 (fun e => hgb (Option.some.inj e))).trans HQ10.out
        have hd1 : w11.cell? ⟨g, 1, none⟩ = some (.int .u64 (l1 : Int)) := (cell_of_row w11 _ _ _ _ _ hq11).trans rfl
        have HB11 := hide (HB10.out.trans (But.grown hg11))
        have HK11 : Hid (KeysAt w11 g b ⟨S.most, l1, fun j => if j = l1 then some ⟨1, t, til, false⟩ else S.F j, if (S.F l1).isSome then S.s else S.s + 1⟩) := hide ⟨hq11, hm11⟩
        clear hq11 hm11 hg11 v3 v7 v11 hd1' hd2' hagt
        simp only [Act.put]
        generalize kyV ⟨1, t, til, false⟩ = kv
        go_wp2_with fail
        go_ret2
        refine ⟨by rw [HP.out, ← HL1.out]; rfl, ?_, HB11.out⟩
        rw [HP.out, ← HL1.out]
        exact HK11.out
      · go_enter Try.func21, Try.ntmps21
        go_wp2_with fail
        refine wp_region_ext mixed 11 (fun i v w' => match i with
          | 0 => v = .pointer (some ⟨g, 0, none⟩)
          | 1 => v = .pointer (some ⟨g, 0, none⟩)
          | 2 => v = .pointer (some ⟨g, 2, none⟩)
          | 3 => v = .map (some b)
          | 4 => v = .int .i64 (S.s : Int)
          | 5 => v = .pointer (some ⟨g, 0, none⟩)
          | 6 => v = .pointer (some ⟨g, 0, none⟩)
          | 7 => v = .pointer (some ⟨g, 0, none⟩)
          | 8 => v = .int .i64 (S.most : Int)
          | 9 => v = .bool false
          | _ => v = .bool false
          ) (by kernel_rfl) rfl ?_ ?_ ?_
        · intro i v w1 w2 h1 h2
          split at h2 <;> exact h2
        · refine ⟨fun a w2 hle hd hf hs K hK => ?_, fun a w2 hle hd hf hs K hK => ?_, fun a w2 hle hd hf hs K hK => ?_, fun a w2 hle hd hf hs K hK => ?_, fun a w2 hle hd hf hs K hK => ?_, fun a w2 hle hd hf hs K hK => ?_, fun a w2 hle hd hf hs K hK => ?_, fun a w2 hle hd hf hs K hK => ?_, fun a w2 hle hd hf hs K hK => ?_, fun a w2 hle hd hf hs K hK => ?_, fun a w2 hle hd hf hs K hK => ?_, trivial⟩
          all_goals clear hd
          · -- 18 := Op.move t0
            have e0 := hf 0 rfl; simp [Act.eval] at e0
            go_simp; exact hK _ _ (Ext.refl _) rfl
          · -- 19 := Op.nilCheck t18
            have e18 := hs 0 18 (by kernel_rfl) rfl; simp [Act.eval] at e18
            go_simp; exact hK _ _ (Ext.refl _) rfl
          · -- 20 := Op.fieldAddr 109 t19 2
            have e19 := hs 1 19 (by kernel_rfl) rfl; simp [Act.eval] at e19
            go_simp; exact hK _ _ (Ext.refl _) rfl
          · -- 21 := Op.load 107 t20
            have e20 := hs 2 20 (by kernel_rfl) rfl; simp [Act.eval] at e20
            have hc2' := hle.cell hc2
            go_simp; exact hK _ _ (Ext.refl _) rfl
          · -- 22 := Op.call { builtin len, args := #[t21], argTypes := #[107] }
            have e21 := hs 3 21 (by kernel_rfl) rfl; simp [Act.eval] at e21
            refine wp_klen _ rfl (evk e21) ((H.out.2.ext (below1 _ _)).ext hle) ?_
            exact hK _ _ (Ext.refl _) rfl
          · -- 23 := Op.move t0
            have e0 := hf 0 rfl; simp [Act.eval] at e0
            go_simp; exact hK _ _ (Ext.refl _) rfl
          · -- 24 := Op.nilCheck t23
            have e23 := hs 5 23 (by kernel_rfl) rfl; simp [Act.eval] at e23
            go_simp; exact hK _ _ (Ext.refl _) rfl
          · -- 25 := Op.fieldAddr 109 t24 0
            have e24 := hs 6 24 (by kernel_rfl) rfl; simp [Act.eval] at e24
            go_simp; exact hK _ _ (Ext.refl _) rfl
          · -- 26 := Op.load 3 t25
            have e25 := hs 7 25 (by kernel_rfl) rfl; simp [Act.eval] at e25
            have hc0' := hle.cell hc0
            go_simp; exact hK _ _ (Ext.refl _) rfl
          · -- 27 := Op.binOp BinOp.geq 3 t22 t26 3
            have e22 := hs 4 22 (by kernel_rfl) rfl; have e26 := hs 8 26 (by kernel_rfl) rfl; simp [Act.eval] at e22 e26
            go_simp; exact hK _ _ (Ext.refl _) rfl
          · -- 17 := Op.assign t27
            have e27 := hs 9 27 (by kernel_rfl) rfl; simp [Act.eval] at e27
            go_simp; exact hK _ _ (Ext.refl _) rfl
        intro vs w8 hle hs
        have v10 := hs 10 (by omega) rfl
        simp only at v10
        clear hs
        have HK8 := hide ((H.out.ext (below1 _ _)).ext hle)
        have HB8 := hide (HB.out.trans (But.ext hle))
        have hwt8 : w.heap.size < w8.heap.size := by have := hle.size; simp only [World.size_alloc] at this; omega
        have hag8 : agg? w8 ⟨w.heap.size, 0, none⟩ 32 = some (tgC t) := by
          refine (agg_block (hle.block _ (by simp))).trans ?_
          rw [agg_of_row (heap_alloc_new w _) 0 32 (by decide)]
          exact tgC_part _
        obtain ⟨hd0, hd1, hd2, hf8⟩ := HK8.out.cells
        have hgb := HK8.out.ne
        clear hle hc0 hc1 hc2 hf
        simp only [putN, dstAt]
        go_simp
        go_wp2_with fail
        obtain ⟨w9, hw9⟩ : ∃ w9, w9 = w8.setCell ⟨g, 1, none⟩ (.int .u64 ((S.last : Int) + 1)) := ⟨_, rfl⟩
        rw [← hw9]
        obtain ⟨l1, hl1⟩ : ∃ l1, l1 = S.last + 1 := ⟨_, rfl⟩
        have hq9 : w9.heap[g]? = some (.cells #[.int .i64 (S.most : Int), .int .u64 (l1 : Int), .map (some b)] 109) := by
          rw [hw9, hl1]
          exact heap_setCell_at HK8.out.1 _
        have HM9 := hide (HK8.out.2.of_heap (w' := w9) (by rw [hw9]; exact Below.heap_setCell _ _ _ _ (Ne.symm hgb)))
        have HQ9 := hide hq9
        have hd1' : w9.cell? ⟨g, 1, none⟩ = some (.int .u64 (l1 : Int)) := (cell_of_row w9 _ _ _ _ _ hq9).trans rfl
        have hd2' : w9.cell? ⟨g, 2, none⟩ = some (.map (some b)) := (cell_of_row w9 _ _ _ _ _ hq9).trans rfl
        have hwt : w.heap.size < w9.heap.size := by rw [hw9]; simpa using hwt8
        have hagt : agg? w9 ⟨w.heap.size, 0, none⟩ 32 = some (tgC t) := by
          rw [hw9]
          exact (agg_block (Below.heap_setCell _ _ _ _ (by show ¬ w.heap.size = g; omega))).trans hag8
        have HB9 := hide (HB8.out.trans (hw9 ▸ But.setCell (g := g) (b := b) (w := w8) 1 (.int .u64 ((S.last : Int) + 1))))
        have HL1 := hide hl1
        clear hd0 hd1 hd2 hf8 hag8 hwt8 hw9 HK8 HB8 hq9 hl1 hl'
        refine wp_region_ext mixed 12 (fun i v w' => match i with
          | 0 => v = .pointer (some ⟨g, 0, none⟩)
          | 1 => v = .pointer (some ⟨g, 0, none⟩)
          | 2 => v = .pointer (some ⟨g, 2, none⟩)
          | 3 => v = .map (some b)
          | 4 => v = .pointer (some ⟨g, 0, none⟩)
          | 5 => v = .pointer (some ⟨g, 0, none⟩)
          | 6 => v = .pointer (some ⟨g, 1, none⟩)
          | 7 => v = .int .u64 (l1 : Int)
          | 8 => v = .int .i64 2
          | 9 => v = tgV t
          | 10 => v = .int .u64 (til : Int)
          | _ => v = kyV ⟨2, t, til, false⟩
          ) (by kernel_rfl) rfl ?_ ?_ ?_
        · intro i v w1 w2 h1 h2
          split at h2 <;> exact h2
        · refine ⟨fun a w2 hle hd hf hs K hK => ?_, fun a w2 hle hd hf hs K hK => ?_, fun a w2 hle hd hf hs K hK => ?_, fun a w2 hle hd hf hs K hK => ?_, fun a w2 hle hd hf hs K hK => ?_, fun a w2 hle hd hf hs K hK => ?_, fun a w2 hle hd hf hs K hK => ?_, fun a w2 hle hd hf hs K hK => ?_, fun a w2 hle hd hf hs K hK => ?_, fun a w2 hle hd hf hs K hK => ?_, fun a w2 hle hd hf hs K hK => ?_, fun a w2 hle hd hf hs K hK => ?_, trivial⟩
          all_goals clear hd
          · -- 35 := Op.move t0
            have e0 := hf 0 rfl; simp [Act.eval] at e0
            go_simp; exact hK _ _ (Ext.refl _) rfl
          · -- 36 := Op.nilCheck t35
            have e35 := hs 0 35 (by kernel_rfl) rfl; simp [Act.eval] at e35
            go_simp; exact hK _ _ (Ext.refl _) rfl
          · -- 37 := Op.fieldAddr 109 t36 2
            have e36 := hs 1 36 (by kernel_rfl) rfl; simp [Act.eval] at e36
            go_simp; exact hK _ _ (Ext.refl _) rfl
          · -- 38 := Op.load 107 t37
            have e37 := hs 2 37 (by kernel_rfl) rfl; simp [Act.eval] at e37
            have hc2' := hle.cell hd2'
            go_simp; exact hK _ _ (Ext.refl _) rfl
          · -- 39 := Op.move t0
            have e0 := hf 0 rfl; simp [Act.eval] at e0
            go_simp; exact hK _ _ (Ext.refl _) rfl
          · -- 40 := Op.nilCheck t39
            have e39 := hs 4 39 (by kernel_rfl) rfl; simp [Act.eval] at e39
            go_simp; exact hK _ _ (Ext.refl _) rfl
          · -- 41 := Op.fieldAddr 109 t40 1
            have e40 := hs 5 40 (by kernel_rfl) rfl; simp [Act.eval] at e40
            go_simp; exact hK _ _ (Ext.refl _) rfl
          · -- 42 := Op.load 39 t41
            have e41 := hs 6 41 (by kernel_rfl) rfl; simp [Act.eval] at e41
            have hc1' := hle.cell hd1'
            go_simp; exact hK _ _ (Ext.refl _) rfl
          · -- 43 := Op.move t1
            have e1 := hf 1 rfl; simp [Act.eval] at e1
            go_simp; exact hK _ _ (Ext.refl _) rfl
          · -- 44 := Op.load 44 t6
            have e6 := hf 6 rfl; simp [Act.eval] at e6
            have hq : agg? w2 ⟨w.heap.size, 0, none⟩ 32 = some (tgC t) := (agg_block (hle.block _ hwt)).trans hagt
            go_simp; exact hK _ _ (Ext.refl _) rfl
          · -- 45 := Op.move t3
            have e3 := hf 3 rfl; simp [Act.eval] at e3
            go_simp; exact hK _ _ (Ext.refl _) rfl
          · -- 46 := Op.build 111 #[(0, t43), (1, t44), (2, t45)]
            have e43 := hs 8 43 (by kernel_rfl) rfl; have e44 := hs 9 44 (by kernel_rfl) rfl; have e45 := hs 10 45 (by kernel_rfl) rfl; simp [Act.eval] at e43 e44 e45
            exact wp_buildKey _ _ _ rfl _ _ _ _ _ (evk e43) (evk e44) (evk e45) (hK _ _ (Ext.refl _) rfl)
        intro vs w8 hle hs
        have v3 := hs 3 (by omega) rfl
        have v7 := hs 7 (by omega) rfl
        have v11 := hs 11 (by omega) rfl
        simp only at v3 v7 v11
        clear hs
        have HM10 := hide (HM9.out.ext hle)
        have hgs9 := (Array.getElem?_eq_some_iff.1 HQ9.out).1
        have HQ10 := hide ((hle.block g hgs9).trans HQ9.out)
        have hgs10 : g < w8.heap.size := Nat.lt_of_lt_of_le hgs9 hle.size
        have HB10 := hide (HB9.out.trans (But.ext hle))
        clear hle
        simp only [putN, dstAt, List.getElem?_toArray, List.getElem?_cons_succ, List.getElem?_cons_zero, Option.bind_some, Act.put, List.setIfInBounds_toArray, List.set_cons_succ, List.set_cons_zero, List.drop_succ_cons, List.drop_zero, v3, v7, v11]
        refine wpList_kstore rfl (.tmp 38) (.tmp 42) (.tmp 46) rfl rfl HM10.out l1 rfl (by rw [HL1.out]; exact HL0.out) HS0.out ⟨2, t, til, false⟩ rfl ?_
        intro w11 hm11 hg11
        have hq11 := (hg11.block g hgs10 (fun e => hgb (Option.some.inj e))).trans HQ10.out
        have hd1 : w11.cell? ⟨g, 1, none⟩ = some (.int .u64 (l1 : Int)) := (cell_of_row w11 _ _ _ _ _ hq11).trans rfl
        have HB11 := hide (HB10.out.trans (But.grown hg11))
        have HK11 : Hid (KeysAt w11 g b ⟨S.most, l1, fun j => if j = l1 then some ⟨2, t, til, false⟩ else S.F j, if (S.F l1).isSome then S.s else S.s + 1⟩) := hide ⟨hq11, hm11⟩
        clear hq11 hm11 hg11 v3 v7 v11 hd1' hd2' hagt
        simp only [Act.put]
        generalize kyV ⟨2, t, til, false⟩ = kv
        go_wp2_with fail
        go_ret2
        refine ⟨by rw [HP.out, ← HL1.out]; rfl, ?_, HB11.out⟩
        rw [HP.out, ← HL1.out]
        exact HK11.out
  · have HP : Hid (S.make kind t til = (S, 0, 1)) := hide (by rw [Ks.make, if_neg hk])
    have h1 : ¬ kind = 1 := fun h => hk (.inl h)
    have h2 : ¬ kind = 2 := fun h => hk (.inr h)
    have hb1 : (kind == 1) = false := by simpa using h1
    have hb2 : (kind == 2) = false := by simpa using h2
    have hb3 : (kind != 1) = true := by rw [bne, hb1]; rfl
    have hb4 : (kind != 2) = true := by rw [bne, hb2]; rfl
    have H8 := hide (H.out.ext (below1 w (.cells (tgC t) 44)))
    clear hk
    go_enter Try.func21, Try.ntmps21
    go_wp2_with fail
    go_ret2
    exact ⟨by rw [HP.out]; rfl, by rw [HP.out]; exact H8.out, HB.out⟩
def Ks.revoke (S : Ks) (k : Nat) : Ks × Bool :=
  match S.F k with
  | none => (S, false)
  | some x => if x.rev then (S, false) else (⟨S.most, S.last, fun j => if j = k then some ⟨x.kind, x.tag, x.til, true⟩ else S.F j, S.s⟩, true)
set_option maxRecDepth 100000 in
set_option maxHeartbeats 400000 in
theorem c_krevoke {S : Ks} {g b : Nat} (k : Nat) (w : World) (h : KeysAt w g b S) (hk : k < 18446744073709551616) (hs : S.s < maxLen) : Calls Try.prog 25 #[.pointer (some ⟨g, 0, none⟩), .int .u64 (k : Int)] w fun e w' =>
    e = .returned (.bool (S.revoke k).2) ∧ KeysAt w' g b (S.revoke k).1 ∧ But g b w w' := by
  have hgs := (Array.getElem?_eq_some_iff.1 h.1).1
  obtain ⟨hc0, hc1, hc2, hf⟩ := h.cells
  have H := hide h
  have HKN := hide hk
  have HS0 := hide hs
  have hgb := h.ne
  clear h hk hs
  cases hF : S.F k with
  | none =>
    have HP : Hid (S.revoke k = (S, false)) := hide (by simp [Ks.revoke, hF])
    have HF := hide hF
    clear hF
    go_enter Try.func25, Try.ntmps25
    go_wp2_with (at_lookup; go_must (refine wpList_klook rfl _ _ rfl rfl (H.out.2.ext (Below.refl _ _)) k rfl HKN.out none HF.out ?_))
    go_ret
    exact ⟨by rw [HP.out]; rfl, by rw [HP.out]; exact H.out.ext (below1 _ _), But.ext (below1 _ _)⟩
  | some x =>
    obtain ⟨kd, tg, tl, rv⟩ := x
    cases rv with
    | true =>
      have HP : Hid (S.revoke k = (S, false)) := hide (by simp [Ks.revoke, hF])
      have HF := hide hF
      clear hF
      go_enter Try.func25, Try.ntmps25
      go_wp2_with (at_lookup; go_must (refine wpList_klook rfl _ _ rfl rfl (H.out.2.ext (Below.refl _ _)) k rfl HKN.out (some ⟨kd, tg, tl, true⟩) HF.out ?_))
      go_ret
      exact ⟨by rw [HP.out]; rfl, by rw [HP.out]; exact H.out.ext (below1 _ _), But.ext (below1 _ _)⟩
    | false =>
      have HP : Hid (S.revoke k = (⟨S.most, S.last, fun j => if j = k then some ⟨kd, tg, tl, true⟩ else S.F j, S.s⟩, true)) := hide (by simp [Ks.revoke, hF])
      have HF := hide hF
      clear hF
      go_enter Try.func25, Try.ntmps25
      go_wp2_with (at_lookup; go_must (refine wpList_klook rfl _ _ rfl rfl (H.out.2.ext (Below.refl _ _)) k rfl HKN.out (some ⟨kd, tg, tl, false⟩) HF.out ?_))
      obtain ⟨w9, hw9⟩ : ∃ w9, w9 = w.alloc (.cells (keyC (.int .i64 kd) (.int .u64 (tl : Int)) (.bool true) tg) 111) := ⟨_, rfl⟩
      rw [← hw9]
      have hq9 : w9.heap[w.heap.size]? = some (.cells (kyC ⟨kd, tg, tl, true⟩) 111) := by rw [hw9]; exact heap_alloc_new _ _
      have HB9 : Hid (Below w.heap.size w w9) := hide (by rw [hw9]; exact below1 _ _)
      have HK9 := hide (H.out.ext HB9.out)
      obtain ⟨hd0, hd1, hd2, hf9⟩ := HK9.out.cells
      have hwk := (Array.getElem?_eq_some_iff.1 hq9).1
      have hagk : agg? w9 ⟨w.heap.size, 0, none⟩ 35 = some (kyC ⟨kd, tg, tl, true⟩) := by
        rw [agg_of_row hq9 0 35 (by decide)]
        exact keyC_part _ _ _ _
      clear hw9 hq9 hc0 hc1 hc2 hf hd0 hd1 hf9
      refine wp_region_ext mixed 6 (fun i v w' => match i with
        | 0 => v = .pointer (some ⟨g, 0, none⟩)
        | 1 => v = .pointer (some ⟨g, 0, none⟩)
        | 2 => v = .pointer (some ⟨g, 2, none⟩)
        | 3 => v = .map (some b)
        | 4 => v = .int .u64 (k : Int)
        | _ => v = kyV ⟨kd, tg, tl, true⟩
        ) (by kernel_rfl) rfl ?_ ?_ ?_
      · intro i v w1 w2 h1 h2
        split at h2 <;> exact h2
      · refine ⟨fun a w2 hle hd hf hs K hK => ?_, fun a w2 hle hd hf hs K hK => ?_, fun a w2 hle hd hf hs K hK => ?_, fun a w2 hle hd hf hs K hK => ?_, fun a w2 hle hd hf hs K hK => ?_, fun a w2 hle hd hf hs K hK => ?_, trivial⟩
        all_goals clear hd
        · -- 23 := Op.move t0
          have e0 := hf 0 rfl; simp [Act.eval] at e0
          go_simp; exact hK _ _ (Ext.refl _) rfl
        · -- 24 := Op.nilCheck t23
          have e23 := hs 0 23 (by kernel_rfl) rfl; simp [Act.eval] at e23
          go_simp; exact hK _ _ (Ext.refl _) rfl
        · -- 25 := Op.fieldAddr 109 t24 2
          have e24 := hs 1 24 (by kernel_rfl) rfl; simp [Act.eval] at e24
          go_simp; exact hK _ _ (Ext.refl _) rfl
        · -- 26 := Op.load 107 t25
          have e25 := hs 2 25 (by kernel_rfl) rfl; simp [Act.eval] at e25
          have hc2' := hle.cell hd2
          go_simp; exact hK _ _ (Ext.refl _) rfl
        · -- 27 := Op.move t1
          have e1 := hf 1 rfl; simp [Act.eval] at e1
          go_simp; exact hK _ _ (Ext.refl _) rfl
        · -- 28 := Op.load 111 t5
          have e5 := hf 5 rfl; simp [Act.eval] at e5
          have hq : agg? w2 ⟨w.heap.size, 0, none⟩ 35 = some (kyC ⟨kd, tg, tl, true⟩) := (agg_block (hle.block _ hwk)).trans hagk
          go_simp; exact hK _ _ (Ext.refl _) rfl
      intro vs w8 hle hs
      have v3 := hs 3 (by omega) rfl
      have v4 := hs 4 (by omega) rfl
      have v5 := hs 5 (by omega) rfl
      simp only at v3 v4 v5
      clear hs
      have HK10 := hide (HK9.out.ext hle)
      have HB10 := hide (But.trans (But.ext HB9.out : But g b w w9) (But.ext hle))
      clear hle hagk hd2
      simp only [putN, dstAt, List.getElem?_toArray, List.getElem?_cons_succ, List.getElem?_cons_zero, Option.bind_some, Act.put, List.setIfInBounds_toArray, List.set_cons_succ, List.set_cons_zero, List.drop_succ_cons, List.drop_zero, v3, v4, v5]
      refine wpList_kstore rfl (.tmp 26) (.tmp 27) (.tmp 28) rfl rfl HK10.out.2 k rfl HKN.out HS0.out ⟨kd, tg, tl, true⟩ rfl ?_
      intro w11 hm11 hg11
      rw [HF.out] at hm11
      simp only [Option.isSome_some, if_true] at hm11
      have hq11 := (hg11.block g (Array.getElem?_eq_some_iff.1 HK10.out.1).1 (fun e => hgb (Option.some.inj e))).trans HK10.out.1
      have HB11 := hide (HB10.out.trans (But.grown hg11))
      have HK11 : Hid (KeysAt w11 g b ⟨S.most, S.last, fun j => if j = k then some ⟨kd, tg, tl, true⟩ else S.F j, S.s⟩) := hide ⟨hq11, hm11⟩
      clear hm11 hg11 hq11 v3 v4 v5
      simp only [Act.put]
      go_wp2_with fail
      go_ret
      exact ⟨by rw [HP.out]; rfl, by rw [HP.out]; exact HK11.out, HB11.out⟩

end Go.Proofs.Ytlfhbnajopekpaa
