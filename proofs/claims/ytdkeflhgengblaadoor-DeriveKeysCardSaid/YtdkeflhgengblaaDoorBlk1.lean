/- The walk of layer 2: a block's words. No condition. -/
import Derived.Test.YtdkeflhgengblaaDoorWd2
namespace Go.Proofs.YtdkeflhgengblaaDoor
open Go.RowKit
attribute [local go_sem ↓] ld8 ld64
attribute [local go_sem] run_ldAgg run_storeAgg agg_alloc_at agg_alloc_past agg_drew agg_setCell row_alloc_at row_alloc_past row_drew setRow_alloc_at setRow_alloc_past setRow_drew agg_setRow_at agg_setRow_far cell_setRow_at cell_setRow_far row_setRow_far size_setRow s8C_size s8C_0 s8C_1 s8C_2 s8C_3 s8C_4 s8C_5 s8C_6 s8C_7 s8C_part s8C_one s8C_splice0 s8C_ne blC_size wlC_size blC_one wlC_one

def zw64 : List UInt32 := List.replicate 64 0
def zb64 : List UInt8 := List.replicate 64 0
def s8z : S8 := ⟨0, 0, 0, 0, 0, 0, 0, 0⟩
theorem zero_w64 : (#[.int .u32 0, .int .u32 0, .int .u32 0, .int .u32 0, .int .u32 0, .int .u32 0, .int .u32 0, .int .u32 0, .int .u32 0, .int .u32 0, .int .u32 0, .int .u32 0, .int .u32 0, .int .u32 0, .int .u32 0, .int .u32 0, .int .u32 0, .int .u32 0, .int .u32 0, .int .u32 0, .int .u32 0, .int .u32 0, .int .u32 0, .int .u32 0, .int .u32 0, .int .u32 0, .int .u32 0, .int .u32 0, .int .u32 0, .int .u32 0, .int .u32 0, .int .u32 0, .int .u32 0, .int .u32 0, .int .u32 0, .int .u32 0, .int .u32 0, .int .u32 0, .int .u32 0, .int .u32 0, .int .u32 0, .int .u32 0, .int .u32 0, .int .u32 0, .int .u32 0, .int .u32 0, .int .u32 0, .int .u32 0, .int .u32 0, .int .u32 0, .int .u32 0, .int .u32 0, .int .u32 0, .int .u32 0, .int .u32 0, .int .u32 0, .int .u32 0, .int .u32 0, .int .u32 0, .int .u32 0, .int .u32 0, .int .u32 0, .int .u32 0, .int .u32 0] : Array Value) = wlC zw64 := rfl
theorem zero_w8 : (#[.int .u32 0, .int .u32 0, .int .u32 0, .int .u32 0, .int .u32 0, .int .u32 0, .int .u32 0, .int .u32 0] : Array Value) = s8C s8z := rfl
theorem zero_b64 : (#[.int .u8 0, .int .u8 0, .int .u8 0, .int .u8 0, .int .u8 0, .int .u8 0, .int .u8 0, .int .u8 0, .int .u8 0, .int .u8 0, .int .u8 0, .int .u8 0, .int .u8 0, .int .u8 0, .int .u8 0, .int .u8 0, .int .u8 0, .int .u8 0, .int .u8 0, .int .u8 0, .int .u8 0, .int .u8 0, .int .u8 0, .int .u8 0, .int .u8 0, .int .u8 0, .int .u8 0, .int .u8 0, .int .u8 0, .int .u8 0, .int .u8 0, .int .u8 0, .int .u8 0, .int .u8 0, .int .u8 0, .int .u8 0, .int .u8 0, .int .u8 0, .int .u8 0, .int .u8 0, .int .u8 0, .int .u8 0, .int .u8 0, .int .u8 0, .int .u8 0, .int .u8 0, .int .u8 0, .int .u8 0, .int .u8 0, .int .u8 0, .int .u8 0, .int .u8 0, .int .u8 0, .int .u8 0, .int .u8 0, .int .u8 0, .int .u8 0, .int .u8 0, .int .u8 0, .int .u8 0, .int .u8 0, .int .u8 0, .int .u8 0, .int .u8 0] : Array Value) = blC zb64 := rfl
attribute [local go_sem] zero_w64 zero_w8 zero_b64
/-- A schedule as far as it goes, noughts behind it. -/
def wzs (b : List UInt8) (i : Nat) : List UInt32 := schedN b i ++ List.replicate (64 - i) 0
theorem wzs_len (b : List UInt8) (i : Nat) (h : i ≤ 64) : (wzs b i).length = 64 := by
  rw [wzs, List.length_append, schedN_len, List.length_replicate]; omega
theorem wzs_at (b : List UInt8) {i j : Nat} (h : j < i) : (wzs b i)[j]? = some ((schedN b i).getD j 0) := by
  rw [wzs, List.getElem?_append_left (by rw [schedN_len]; exact h), List.getD_eq_getElem?_getD, List.getElem?_eq_getElem (by rw [schedN_len]; exact h)]
  rfl
theorem wzs_set (b : List UInt8) {i : Nat} (h : i < 64) : (wzs b i).set i (nextW b (schedN b i)) = wzs b (i + 1) := by
  apply List.ext_getElem?
  intro k
  rw [List.getElem?_set, wzs_len b i (by omega)]
  split
  · subst k
    first | rw [if_pos h] | skip
    rw [wzs, schedN, List.append_assoc, List.getElem?_append_right (by rw [schedN_len]; omega), schedN_len, Nat.sub_self]
    rfl
  · rename_i hk
    rw [wzs, wzs, schedN]
    rcases Nat.lt_or_ge k i with h1 | h1
    · rw [List.getElem?_append_left (by rw [schedN_len]; exact h1), List.append_assoc, List.getElem?_append_left (by rw [schedN_len]; exact h1)]
    · rw [List.getElem?_append_right (by rw [schedN_len]; exact h1), List.getElem?_append_right (by rw [List.length_append, schedN_len]; simp; omega), List.length_append, schedN_len, List.getElem?_replicate, List.getElem?_replicate]
      simp only [List.length_cons, List.length_nil]
      congr 1
      simp only [eq_iff_iff]; omega
theorem c_getL (A : Option Addr) (n c : Nat) (l : List UInt8) (ok : Nat → Prop) (w : World) (hR : kU8.Row ok w A n c l) (h : 4 ≤ l.length) :
    Calls Tryd.prog 133 #[.slice A n c] w fun e w' => e = .returned (wv (get4 l)) ∧ Below w.heap.size w w' := by
  match l, h with
  | x0 :: x1 :: x2 :: x3 :: r, _ => exact c_get A n c x0 x1 x2 x3 r ok w hR
set_option maxRecDepth 100000 in
set_option maxHeartbeats 1600000 in
theorem c_sched (b : List UInt8) (w : World) (hb : b.length = 64) : Calls Tryd.prog 118 #[.agg (blC b)] w fun e w' => e = .returned (.agg (wlC (schedN b 64))) ∧ Below w.heap.size w w' := by
  have HBL := hide hb
  have hpb := blC_part b 64 hb
  have hz : blC b = #[] → False := fun h => by
    have := congrArg Array.size h
    rw [blC_size, hb] at this
    cases this
  go_enter Tryd.func118, Tryd.ntmps118
  go_wp2_with fail
  go_loopw [4] (fun i wr => ∃ (k : Nat), k ≤ 64 ∧ i = .int .i64 (k : Int) ∧ Hid (wr.heap[w.heap.size]? = some (.cells (blC b) 153)) ∧ Hid (wr.heap[w.heap.size + 1]? = some (.cells (wlC (wzs b k)) 174)) ∧ Hid (Below w.heap.size w wr)) (fun i _ => 64 - (intOf i).toNat)
  case atStart =>
    refine ⟨0, Nat.zero_le _, rfl, hide ?_, hide ?_, hide (below2 _ _ _)⟩
    · exact (Below.heap_alloc _ _ _ (by simp)).trans (heap_alloc_new _ _)
    · show _ = some (Obj.cells (wlC zw64) 174)
      have := heap_alloc_new (w.alloc (.cells (blC b) 153)) (.cells (wlC zw64) 174)
      simpa only [World.size_alloc] using this
  case round =>
    obtain ⟨k, hk, rfl, HA, HZ, HB⟩ := hrel
    have hwr := HB.out.size
    have hgz := (Array.getElem?_eq_some_iff.1 HZ.out).1
    by_cases hlt : k < 64
    · by_cases h16 : k < 16
      · have hsl := arr_from (P := Tryd.prog) Tryd.underlying153 u8_info1 w.heap.size 0 (4 * k) (by omega) .i64 (4 * (k : Int)) (by omega)
        simp only [Nat.zero_add] at hsl
        go_wp2_with fail
        refine (c_getL _ _ _ (b.drop (4 * k)) (fun _ => True) wr (row_bl HA.out _ (fun i x hx => blC_at _ (by rw [List.getElem?_drop] at hx; exact hx)) trivial (by rw [List.length_drop, HBL.out]) (Nat.le_refl _) (by simp only [maxLen]; omega)) (by rw [List.length_drop, HBL.out]; omega)).mono ?_
        rintro e w3 ⟨rfl, b3⟩
        have hnx : nextW b (schedN b k) = get4 (b.drop (4 * k)) := by rw [nextW, if_pos (by rw [schedN_len]; exact h16), schedN_len]
        rw [← hnx]
        have hz3 := (b3.block _ hgz).trans HZ.out
        have HA3 := hide ((b3.block _ (Array.getElem?_eq_some_iff.1 HA.out).1).trans HA.out)
        have HB3 := hide (HB.out.trans (b3.mono hwr))
        have hcz := cell_of_row w3 (w.heap.size + 1) k _ _ _ hz3
        have hcs : (w3.cell? ⟨w.heap.size + 1, k, none⟩).isSome = true := by rw [hcz, wlC_get, List.getElem?_eq_getElem (by rw [wzs_len b k (by omega)]; exact hlt)]; rfl
        obtain ⟨v0, hv0⟩ := Option.isSome_iff_exists.1 hcs
        have hfz := frozen_of_row w3 (w.heap.size + 1) k _ _ hz3
        clear hcz hcs
        have HZ3 := hide hz3
        clear hz3 b3 hnx hsl
        go_wp2_with fail
        go_roundw
        case rel =>
          refine ⟨k + 1, by omega, by simp, ?_, ?_, hide (bsetCell HB3.out (Nat.le_succ _) _ _)⟩
          · exact hide ((Below.heap_setCell _ _ _ _ (by simp)).trans HA3.out)
          · have := heap_setCell_at (i := k) (wv (nextW b (schedN b k))) HZ3.out
            rw [wlC_set, wzs_set b hlt] at this
            exact hide this
        case measure => simp [intOf]; omega
      · obtain ⟨k2, hk2⟩ : ∃ j, k = j + 2 := ⟨k - 2, by omega⟩
        obtain ⟨k7, hk7⟩ : ∃ j, k = j + 7 := ⟨k - 7, by omega⟩
        obtain ⟨k15, hk15⟩ : ∃ j, k = j + 15 := ⟨k - 15, by omega⟩
        obtain ⟨k16, hk16⟩ : ∃ j, k = j + 16 := ⟨k - 16, by omega⟩
        have hz3 := HZ.out
        obtain ⟨x14, hx14⟩ : ∃ x, x = (schedN b k).getD k2 0 := ⟨_, rfl⟩
        obtain ⟨x9, hx9⟩ : ∃ x, x = (schedN b k).getD k7 0 := ⟨_, rfl⟩
        obtain ⟨x1, hx1⟩ : ∃ x, x = (schedN b k).getD k15 0 := ⟨_, rfl⟩
        obtain ⟨x0, hx0⟩ : ∃ x, x = (schedN b k).getD k16 0 := ⟨_, rfl⟩
        have hcz : ∀ (j : Nat), j < k → wr.cell? ⟨w.heap.size + 1, j, none⟩ = some (wv ((schedN b k).getD j 0)) := fun j hj => (cell_of_row wr (w.heap.size + 1) j _ _ _ hz3).trans (wlC_at _ (wzs_at b hj))
        have hc14 := hcz k2 (by omega)
        have hc9 := hcz k7 (by omega)
        have hc1 := hcz k15 (by omega)
        have hc0 := hcz k16 (by omega)
        have hnx : nextW b (schedN b k) = small1 x14 + x9 + small0 x1 + x0 := by
          rw [nextW, if_neg (by rw [schedN_len]; omega), schedN_len, hx14, hx9, hx1, hx0, show k - 2 = k2 by omega, show k - 7 = k7 by omega, show k - 15 = k15 by omega, show k - 16 = k16 by omega]
        rw [← hx14] at hc14
        rw [← hx9] at hc9
        rw [← hx1] at hc1
        rw [← hx0] at hc0
        obtain ⟨y25, hy25⟩ : ∃ y, y = small1 x14 + x9 := ⟨_, rfl⟩
        obtain ⟨y31, hy31⟩ : ∃ y, y = y25 + small0 x1 := ⟨_, rfl⟩
        obtain ⟨y36, hy36⟩ : ∃ y, y = y31 + x0 := ⟨_, rfl⟩
        rw [← hy25, ← hy31, ← hy36] at hnx
        have HNX := hide hnx
        have HY25 := hide hy25
        have HY31 := hide hy31
        have HY36 := hide hy36
        have l2 : k2 < 64 := by omega
        have l7 : k7 < 64 := by omega
        have l15 : k15 < 64 := by omega
        have l16 : k16 < 64 := by omega
        have HK2 := hide hk2
        have HK7 := hide hk7
        have HK15 := hide hk15
        have HK16 := hide hk16
        clear hy25 hy31 hy36 hcz hnx hx14 hx9 hx1 hx0 hz3 hk2 hk7 hk15 hk16
        go_wp2_with fail
        refine wp_region_ext mixed 23 (fun i v w' => match i with
          | 0 => v = .int .i64 ((k : Nat) : Int)
          | 1 => v = .int .i64 ((k : Nat) : Int)
          | 2 => v = .int .i64 ((k2 : Nat) : Int)
          | 3 => v = .pointer (some ⟨w.heap.size + 1, k2, none⟩)
          | 4 => v = wv (x14)
          | 5 => v = wv (small1 x14)
          | 6 => v = .int .i64 ((k : Nat) : Int)
          | 7 => v = .int .i64 ((k7 : Nat) : Int)
          | 8 => v = .pointer (some ⟨w.heap.size + 1, k7, none⟩)
          | 9 => v = wv (x9)
          | 10 => v = wv (y25)
          | 11 => v = .int .i64 ((k : Nat) : Int)
          | 12 => v = .int .i64 ((k15 : Nat) : Int)
          | 13 => v = .pointer (some ⟨w.heap.size + 1, k15, none⟩)
          | 14 => v = wv (x1)
          | 15 => v = wv (small0 x1)
          | 16 => v = wv (y31)
          | 17 => v = .int .i64 ((k : Nat) : Int)
          | 18 => v = .int .i64 ((k16 : Nat) : Int)
          | 19 => v = .pointer (some ⟨w.heap.size + 1, k16, none⟩)
          | 20 => v = wv (x0)
          | 21 => v = wv (y36)
          | _ => v = .pointer (some ⟨w.heap.size + 1, k, none⟩)
          ) (regOk_of (by kernel_rfl)) rfl ?_ ?_ ?_
        · intro i v w1 w2 h1 h2
          split at h2 <;> exact h2
        · refine ⟨fun a w2 hle hd hf hs K hK => ?_, fun a w2 hle hd hf hs K hK => ?_, fun a w2 hle hd hf hs K hK => ?_, fun a w2 hle hd hf hs K hK => ?_, fun a w2 hle hd hf hs K hK => ?_, fun a w2 hle hd hf hs K hK => ?_, fun a w2 hle hd hf hs K hK => ?_, fun a w2 hle hd hf hs K hK => ?_, fun a w2 hle hd hf hs K hK => ?_, fun a w2 hle hd hf hs K hK => ?_, fun a w2 hle hd hf hs K hK => ?_, fun a w2 hle hd hf hs K hK => ?_, fun a w2 hle hd hf hs K hK => ?_, fun a w2 hle hd hf hs K hK => ?_, fun a w2 hle hd hf hs K hK => ?_, fun a w2 hle hd hf hs K hK => ?_, fun a w2 hle hd hf hs K hK => ?_, fun a w2 hle hd hf hs K hK => ?_, fun a w2 hle hd hf hs K hK => ?_, fun a w2 hle hd hf hs K hK => ?_, fun a w2 hle hd hf hs K hK => ?_, fun a w2 hle hd hf hs K hK => ?_, fun a w2 hle hd hf hs K hK => ?_, trivial⟩
          all_goals clear hd
          · -- 15 := Op.move t3
            have e3 := hf 3 rfl; simp [Act.eval] at e3
            go_simp; exact hK _ _ (Ext.refl _) rfl
          · -- 16 := Op.move t3
            have e3 := hf 3 rfl; simp [Act.eval] at e3
            go_simp; exact hK _ _ (Ext.refl _) rfl
          · -- 17 := Op.binOp BinOp.sub 3 t16 (const (2:i64)) 3
            have e16 := hs 1 16 (needs_direct (by kernel_rfl)) rfl; simp [Act.eval] at e16
            go_simp
            exact hK _ _ (Ext.refl _) (congrArg (Value.int .i64) (by have := HK2.out; rw [wrap64s (by omega) (by omega)]; omega))
          · -- 18 := Op.indexAddr 174 t2 t17
            have e2 := hf 2 rfl; have e17 := hs 2 17 (needs_direct (by kernel_rfl)) rfl; simp [Act.eval] at e2 e17
            go_simp
            rw [if_pos (by omega)]
            go_simp
            exact hK _ _ (Ext.refl _) rfl
          · -- 19 := Op.load 155 t18
            have e18 := hs 3 18 (needs_direct (by kernel_rfl)) rfl; simp [Act.eval] at e18
            have hq := hle.cell hc14
            go_simp; exact hK _ _ (Ext.refl _) rfl
          · -- 20 := Op.call { value (Operand.func 134), args := #[const (1:i64), t19], argTypes := #[3, 155] }
            have e19 := hs 4 19 (needs_direct (by kernel_rfl)) rfl; simp [Act.eval] at e19
            go_simp
            refine (c_small1 _ w2).mono ?_
            rintro e w3 ⟨rfl, rfl⟩
            exact hK _ _ (Ext.refl _) rfl
          · -- 21 := Op.move t3
            have e3 := hf 3 rfl; simp [Act.eval] at e3
            go_simp; exact hK _ _ (Ext.refl _) rfl
          · -- 22 := Op.binOp BinOp.sub 3 t21 (const (7:i64)) 3
            have e21 := hs 6 21 (needs_direct (by kernel_rfl)) rfl; simp [Act.eval] at e21
            go_simp
            exact hK _ _ (Ext.refl _) (congrArg (Value.int .i64) (by have := HK7.out; rw [wrap64s (by omega) (by omega)]; omega))
          · -- 23 := Op.indexAddr 174 t2 t22
            have e2 := hf 2 rfl; have e22 := hs 7 22 (needs_direct (by kernel_rfl)) rfl; simp [Act.eval] at e2 e22
            go_simp
            rw [if_pos (by omega)]
            go_simp
            exact hK _ _ (Ext.refl _) rfl
          · -- 24 := Op.load 155 t23
            have e23 := hs 8 23 (needs_direct (by kernel_rfl)) rfl; simp [Act.eval] at e23
            have hq := hle.cell hc9
            go_simp; exact hK _ _ (Ext.refl _) rfl
          · -- 25 := Op.binOp BinOp.add 155 t20 t24 155
            have e20 := hs 5 20 (needs_direct (by kernel_rfl)) rfl; have e24 := hs 9 24 (needs_direct (by kernel_rfl)) rfl; simp [Act.eval] at e20 e24
            go_simp
            exact hK _ _ (Ext.refl _) (congrArg (Value.int .u32) (by rw [HY25.out]; first | exact w_add _ _ | exact w_addW _ _))
          · -- 26 := Op.move t3
            have e3 := hf 3 rfl; simp [Act.eval] at e3
            go_simp; exact hK _ _ (Ext.refl _) rfl
          · -- 27 := Op.binOp BinOp.sub 3 t26 (const (15:i64)) 3
            have e26 := hs 11 26 (needs_direct (by kernel_rfl)) rfl; simp [Act.eval] at e26
            go_simp
            exact hK _ _ (Ext.refl _) (congrArg (Value.int .i64) (by have := HK15.out; rw [wrap64s (by omega) (by omega)]; omega))
          · -- 28 := Op.indexAddr 174 t2 t27
            have e2 := hf 2 rfl; have e27 := hs 12 27 (needs_direct (by kernel_rfl)) rfl; simp [Act.eval] at e2 e27
            go_simp
            rw [if_pos (by omega)]
            go_simp
            exact hK _ _ (Ext.refl _) rfl
          · -- 29 := Op.load 155 t28
            have e28 := hs 13 28 (needs_direct (by kernel_rfl)) rfl; simp [Act.eval] at e28
            have hq := hle.cell hc1
            go_simp; exact hK _ _ (Ext.refl _) rfl
          · -- 30 := Op.call { value (Operand.func 134), args := #[const (0:i64), t29], argTypes := #[3, 155] }
            have e29 := hs 14 29 (needs_direct (by kernel_rfl)) rfl; simp [Act.eval] at e29
            go_simp
            refine (c_small0 _ w2).mono ?_
            rintro e w3 ⟨rfl, rfl⟩
            exact hK _ _ (Ext.refl _) rfl
          · -- 31 := Op.binOp BinOp.add 155 t25 t30 155
            have e25 := hs 10 25 (needs_direct (by kernel_rfl)) rfl; have e30 := hs 15 30 (needs_direct (by kernel_rfl)) rfl; simp [Act.eval] at e25 e30
            go_simp
            exact hK _ _ (Ext.refl _) (congrArg (Value.int .u32) (by rw [HY31.out]; first | exact w_add _ _ | exact w_addW _ _))
          · -- 32 := Op.move t3
            have e3 := hf 3 rfl; simp [Act.eval] at e3
            go_simp; exact hK _ _ (Ext.refl _) rfl
          · -- 33 := Op.binOp BinOp.sub 3 t32 (const (16:i64)) 3
            have e32 := hs 17 32 (needs_direct (by kernel_rfl)) rfl; simp [Act.eval] at e32
            go_simp
            exact hK _ _ (Ext.refl _) (congrArg (Value.int .i64) (by have := HK16.out; rw [wrap64s (by omega) (by omega)]; omega))
          · -- 34 := Op.indexAddr 174 t2 t33
            have e2 := hf 2 rfl; have e33 := hs 18 33 (needs_direct (by kernel_rfl)) rfl; simp [Act.eval] at e2 e33
            go_simp
            rw [if_pos (by omega)]
            go_simp
            exact hK _ _ (Ext.refl _) rfl
          · -- 35 := Op.load 155 t34
            have e34 := hs 19 34 (needs_direct (by kernel_rfl)) rfl; simp [Act.eval] at e34
            have hq := hle.cell hc0
            go_simp; exact hK _ _ (Ext.refl _) rfl
          · -- 36 := Op.binOp BinOp.add 155 t31 t35 155
            have e31 := hs 16 31 (needs_direct (by kernel_rfl)) rfl; have e35 := hs 20 35 (needs_direct (by kernel_rfl)) rfl; simp [Act.eval] at e31 e35
            go_simp
            exact hK _ _ (Ext.refl _) (congrArg (Value.int .u32) (by rw [HY36.out]; first | exact w_add _ _ | exact w_addW _ _))
          · -- 37 := Op.indexAddr 174 t2 t15
            have e2 := hf 2 rfl; have e15 := hs 0 15 (needs_direct (by kernel_rfl)) rfl; simp [Act.eval] at e2 e15
            go_simp; exact hK _ _ (Ext.refl _) rfl
        intro vs w8 hle hs
        have v21 := hs 21 (by omega) rfl
        have v22 := hs 22 (by omega) rfl
        simp only at v21 v22
        clear hs
        have hz8 := (hle.block _ hgz).trans HZ.out
        have HA8 := hide ((hle.block _ (Array.getElem?_eq_some_iff.1 HA.out).1).trans HA.out)
        have HB8 := hide (HB.out.trans (hle.mono hwr))
        have hcz := cell_of_row w8 (w.heap.size + 1) k _ _ _ hz8
        have hcs : (w8.cell? ⟨w.heap.size + 1, k, none⟩).isSome = true := by rw [hcz, wlC_get, List.getElem?_eq_getElem (by rw [wzs_len b k (by omega)]; exact hlt)]; rfl
        obtain ⟨v0, hv0⟩ := Option.isSome_iff_exists.1 hcs
        have hfz := frozen_of_row w8 (w.heap.size + 1) k _ _ hz8
        clear hcz hcs hc14 hc9 hc1 hc0 hle
        have HZ8 := hide hz8
        clear hz8
        simp only [putN, dstAt]
        go_simp
        go_wp2_with fail
        go_roundw
        case rel =>
          refine ⟨k + 1, by omega, by simp, ?_, ?_, hide (bsetCell HB8.out (Nat.le_succ _) _ _)⟩
          · exact hide ((Below.heap_setCell _ _ _ _ (by simp)).trans HA8.out)
          · have := heap_setCell_at (i := k) (wv y36) HZ8.out
            rw [← HNX.out, wlC_set, wzs_set b hlt] at this
            rw [HNX.out] at this
            exact hide this
        case measure => simp [intOf]; omega
    · obtain rfl : k = 64 := by omega
      have e64 : wzs b 64 = schedN b 64 := by rw [wzs, Nat.sub_self]; exact List.append_nil _
      have hz64 := HZ.out
      rw [e64] at hz64
      have hrow : row? wr (w.heap.size + 1) = some (wlC (schedN b 64)) := row_of hz64
      have hag : agg? wr ⟨w.heap.size + 1, 0, none⟩ 64 = some (wlC (schedN b 64)) := (agg_of_row hz64 0 64 (by decide)).trans (wlC_part _ 64 (schedN_len b 64))
      have hsp : splice (wlC (schedN b 64)) 0 (wlC (schedN b 64)) = wlC (schedN b 64) := splice0 _ _ rfl
      have hsz : (wlC (schedN b 64)).size = 64 := by rw [wlC_size, schedN_len]
      have HB5 := hide (bsetRow HB.out (Nat.le_succ _) (wlC (schedN b 64)))
      have hag5 : agg? (wr.setRow (w.heap.size + 1) (wlC (schedN b 64))) ⟨w.heap.size + 1, 0, none⟩ 64 = some (wlC (schedN b 64)) := (agg_setRow_at _ _ _ _ _ (by rw [hrow]; rfl) (by decide)).trans (wlC_part _ 64 (schedN_len b 64))
      go_wp2_with fail
      exact bodyPost_ret (v := .agg (wlC (schedN b 64))) (by simp [results, Tryd.results118, go_sem, hag5]) rfl ⟨rfl, HB5.out⟩
end Go.Proofs.YtdkeflhgengblaaDoor
