/- The walk of layer 2: a block done. No condition. -/
import Derived.Test.YtdkeflhgengblaaDoorBlk1
namespace Go.Proofs.YtdkeflhgengblaaDoor
open Go.RowKit
attribute [local go_sem ↓] ld8 ld64
attribute [local go_sem] run_ldAgg run_storeAgg agg_alloc_at agg_alloc_past agg_drew agg_setCell row_alloc_at row_alloc_past row_drew setRow_alloc_at setRow_alloc_past setRow_drew agg_setRow_at agg_setRow_far cell_setRow_at cell_setRow_far row_setRow_far size_setRow s8C_size s8C_0 s8C_1 s8C_2 s8C_3 s8C_4 s8C_5 s8C_6 s8C_7 s8C_part s8C_one s8C_splice0 s8C_ne blC_size wlC_size blC_one wlC_one
attribute [local go_sem] zero_w64 zero_w8 zero_b64
theorem sets8 (a b c d e f g h : UInt32) : ((((((((s8C s8z).toList.set 0 (wv a)).set 1 (wv b)).set 2 (wv c)).set 3 (wv d)).set 4 (wv e)).set 5 (wv f)).set 6 (wv g)).set 7 (wv h) = (s8C ⟨a, b, c, d, e, f, g, h⟩).toList := rfl
/-- Words, the first j of them added to. -/
def addl (l m : List UInt32) (j : Nat) : List UInt32 := (l.zipWith (· + ·) m).take j ++ l.drop j
section
variable {l m : List UInt32} {n j : Nat} {p q : UInt32}
theorem addl_len (hl : l.length = n) (hm : m.length = n) (hj : j ≤ n) : (addl l m j).length = n := by
  simp only [addl, List.length_append, List.length_take, List.length_zipWith, List.length_drop]; omega
theorem addl_at (hl : l.length = n) (hm : m.length = n) (hj : j < n) : (addl l m j)[j]? = l[j]? := by
  rw [addl, List.getElem?_append_right (by simp only [List.length_take, List.length_zipWith]; omega), List.length_take, List.length_zipWith, List.getElem?_drop]
  congr 1; omega
theorem addl_set (hl : l.length = n) (hm : m.length = n) (hj : j < n) (hp : l[j]? = some p) (hq : m[j]? = some q) : (addl l m j).set j (p + q) = addl l m (j + 1) := by
  apply List.ext_getElem?
  intro k
  have h1 : (addl l m j).length = n := addl_len hl hm (by omega)
  rw [List.getElem?_set, h1]
  by_cases hk : j = k
  · subst hk
    rw [if_pos rfl, if_pos hj, addl, List.getElem?_append_left (by simp only [List.length_take, List.length_zipWith]; omega), List.getElem?_take, if_pos (Nat.lt_succ_self _), List.getElem?_zipWith, hp, hq]
  · rw [if_neg hk, addl, addl]
    rcases Nat.lt_or_ge k j with h2 | h2
    · rw [List.getElem?_append_left (by simp only [List.length_take, List.length_zipWith]; omega), List.getElem?_append_left (by simp only [List.length_take, List.length_zipWith]; omega), List.getElem?_take, List.getElem?_take, if_pos h2, if_pos (by omega)]
    · rw [List.getElem?_append_right (by simp only [List.length_take, List.length_zipWith]; omega), List.getElem?_append_right (by simp only [List.length_take, List.length_zipWith]; omega), List.getElem?_drop, List.getElem?_drop]
      congr 1
      simp only [List.length_take, List.length_zipWith]; omega
end
theorem addl_end (s h : S8) : addl s.list h.list 8 = (s.add h).list := rfl
theorem addl_start (l m : List UInt32) : addl l m 0 = l := by simp [addl]
theorem u32_info1 : (Tryd.prog.info? 155).map (·.size) = some 1 := by kernel_rfl
set_option maxRecDepth 100000 in
set_option maxHeartbeats 1600000 in
theorem c_compress (h : S8) (b : List UInt8) (w : World) (hb : b.length = 64) (hP : PrimesAt w) : Calls Tryd.prog 101 #[.agg (s8C h), .agg (blC b)] w fun e w' => e = .returned (.agg (s8C (compress h b))) ∧ Below w.heap.size w w' := by
  have hpb := blC_part b 64 hb
  have HP0 := hide hP
  clear hP
  have hz : blC b = #[] → False := fun h => by
    have := congrArg Array.size h
    rw [blC_size, hb] at this
    cases this
  obtain ⟨W3, hW3⟩ : ∃ W3, W3 = ((w.alloc (.cells (s8C h) 156)).alloc (.cells (blC b) 153)).alloc (.cells (s8C s8z) 156) := ⟨_, rfl⟩
  have hs3 : W3.heap.size = w.heap.size + 1 + 1 + 1 := by rw [hW3]; simp only [World.size_alloc]
  have hB3 : Below w.heap.size w W3 := by rw [hW3]; exact below3 _ _ _ _
  have hA3 : W3.heap[w.heap.size]? = some (.cells (s8C h) 156) := by
    rw [hW3, Below.heap_alloc _ _ _ (by simp only [World.size_alloc]; omega), Below.heap_alloc _ _ _ (by simp only [World.size_alloc]; omega)]
    exact heap_alloc_new _ _
  have hC3 : W3.heap[w.heap.size + 1]? = some (.cells (blC b) 153) := by
    rw [hW3, Below.heap_alloc _ _ _ (by simp only [World.size_alloc]; omega)]
    have := heap_alloc_new (w.alloc (.cells (s8C h) 156)) (.cells (blC b) 153)
    simpa only [World.size_alloc] using this
  have hD3 : W3.heap[w.heap.size + 1 + 1]? = some (.cells (s8C s8z) 156) := by
    rw [hW3]
    have := heap_alloc_new ((w.alloc (.cells (s8C h) 156)).alloc (.cells (blC b) 153)) (.cells (s8C s8z) 156)
    simpa only [World.size_alloc] using this
  have haA : agg? W3 ⟨w.heap.size, 0, none⟩ 8 = some (s8C h) := (agg_of_row hA3 0 8 (by decide)).trans (s8C_part h)
  have haC : agg? W3 ⟨w.heap.size + 1, 0, none⟩ 64 = some (blC b) := (agg_of_row hC3 0 64 (by decide)).trans hpb
  go_enter Tryd.func101, Tryd.ntmps101
  have HW3 := hide hW3
  clear hW3
  go_wp2_with fail
  rw [← HW3.out]
  clear HW3
  go_simp
  go_wp2_with fail
  refine (c_sched b _ hb).mono ?_
  rintro e w4 ⟨rfl, b4⟩
  obtain ⟨Wd, hWd⟩ : ∃ Wd, Wd = schedN b 64 := ⟨_, rfl⟩
  have hWl : Wd.length = 64 := by rw [hWd]; exact schedN_len b 64
  have HCO : Hid (compress h b = (turns h Wd 64).add h) := hide (by rw [hWd]; rfl)
  rw [← hWd]
  clear hWd
  rw [s8C_splice0 h (s8C s8z) rfl] at b4
  have hsz4 : w.heap.size + 1 + 1 + 1 + 1 ≤ w4.heap.size := by have := b4.size; simp only [World.size_alloc, hs3] at this; exact this
  have hB4 : Below w.heap.size w w4 := hB3.trans (((below1 W3 _).mono hB3.size).trans (b4.mono (by simp only [World.size_alloc]; have := hB3.size; omega)))
  have hk4 : ∀ k, k < W3.heap.size → w4.heap[k]? = W3.heap[k]? := fun k hk => (b4.block k (by simp only [World.size_alloc]; omega)).trans (Below.heap_alloc _ _ _ hk)
  have hA4 := (hk4 _ (by omega)).trans hA3
  have hD4 := (hk4 _ (by omega)).trans hD3
  have hS4 : w4.heap[w.heap.size + 1 + 1 + 1]? = some (.cells (s8C h) 156) := by
    rw [← hs3]
    exact (b4.block _ (by simp only [World.size_alloc]; omega)).trans (heap_alloc_new W3 _)
  have HA4 := hide hA4
  have HD4 := hide hD4
  have HS4 := hide hS4
  have HB4 := hide hB4
  clear hk4 hA4 hD4 hS4 hB4 b4 hA3 hC3 hD3 haA haC hB3 hs3 hsz4 hpb hz hb
  go_wp2_with fail
  go_loopw [14] (fun i wr => ∃ (k : Nat), k ≤ 64 ∧ i = .int .i64 (k : Int) ∧ Hid (wr.heap[w.heap.size]? = some (.cells (s8C h) 156)) ∧ Hid (wr.heap[w.heap.size + 1 + 1]? = some (.cells (s8C s8z) 156)) ∧ Hid (wr.heap[w.heap.size + 1 + 1 + 1]? = some (.cells (s8C (turns h Wd k)) 156)) ∧ Hid (Below w.heap.size w wr)) (fun i _ => 64 - (intOf i).toNat)
  case atStart => exact ⟨0, Nat.zero_le _, rfl, HA4, HD4, HS4, HB4⟩
  case round =>
    obtain ⟨k, hk, rfl, HA, HD, HS, HB⟩ := hrel
    have hwr := HB.out.size
    have hgs := (Array.getElem?_eq_some_iff.1 HS.out).1
    have hgd := (Array.getElem?_eq_some_iff.1 HD.out).1
    by_cases hlt : k < 64
    · have HP : Hid (PrimesAt wr) := hide (HP0.out.below HB.out HP0.out.1)
      obtain ⟨s, hs⟩ : ∃ s, s = turns h Wd k := ⟨_, rfl⟩
      obtain ⟨x, hx⟩ : ∃ x, x = Wd.getD k 0 := ⟨_, rfl⟩
      have hxk : Wd[k]? = some x := by
        rw [hx, List.getD_eq_getElem?_getD, List.getElem?_eq_getElem (by rw [hWl]; exact hlt)]; rfl
      have hxc := wlC_at _ hxk
      have hst : turns h Wd (k + 1) = s.turn (primesW.getD k 0) x := by rw [turns, ← hs, ← hx]
      have hS := HS.out
      rw [← hs] at hS
      have HSS := hide hS
      have hc0 := (cell_of_row wr _ 0 _ _ _ hS).trans (s8C_0 s)
      have hc1 := (cell_of_row wr _ 1 _ _ _ hS).trans (s8C_1 s)
      have hc2 := (cell_of_row wr _ 2 _ _ _ hS).trans (s8C_2 s)
      have hc3 := (cell_of_row wr _ 3 _ _ _ hS).trans (s8C_3 s)
      have hc4 := (cell_of_row wr _ 4 _ _ _ hS).trans (s8C_4 s)
      have hc5 := (cell_of_row wr _ 5 _ _ _ hS).trans (s8C_5 s)
      have hc6 := (cell_of_row wr _ 6 _ _ _ hS).trans (s8C_6 s)
      have hc7 := (cell_of_row wr _ 7 _ _ _ hS).trans (s8C_7 s)
      clear hS hs hx HS
      have hix := arr_index (P := Tryd.prog) Tryd.underlying174 u32_info1 Tryd.underlying155 (wlC Wd) k hlt (wv x) hxc .i64
      clear hxc hxk
      obtain ⟨y23, hy23⟩ : ∃ y, y = s.h + great1 s.e := ⟨_, rfl⟩
      obtain ⟨y31, hy31⟩ : ∃ y, y = y23 + chooseW s.e s.f s.g := ⟨_, rfl⟩
      obtain ⟨y34, hy34⟩ : ∃ y, y = y31 + primesW.getD k 0 := ⟨_, rfl⟩
      obtain ⟨t0, ht0⟩ : ∃ y, y = y34 + x := ⟨_, rfl⟩
      obtain ⟨u0, hu0⟩ : ∃ y, y = great0 s.a + mostW s.a s.b s.c := ⟨_, rfl⟩
      have hst2 : s.turn (primesW.getD k 0) x = ⟨t0 + u0, s.a, s.b, s.c, s.d + t0, s.e, s.f, s.g⟩ := by
        rw [S8.turn, hu0, ht0, hy34, hy31, hy23]
      rw [hst2] at hst
      have HST := hide hst
      have HY23 := hide hy23
      have HY31 := hide hy31
      have HY34 := hide hy34
      have HT0 := hide ht0
      have HU0 := hide hu0
      clear hst hst2 hy23 hy31 hy34 ht0 hu0
      go_wp2_with fail
      refine wp_region_ext mixed 20 (fun i v w' => match i with
        | 0 => v = .pointer (some ⟨w.heap.size + 1 + 1 + 1, 7, none⟩)
        | 1 => v = wv (s.h)
        | 2 => v = .pointer (some ⟨w.heap.size + 1 + 1 + 1, 4, none⟩)
        | 3 => v = wv (s.e)
        | 4 => v = wv (great1 s.e)
        | 5 => v = wv (y23)
        | 6 => v = .pointer (some ⟨w.heap.size + 1 + 1 + 1, 4, none⟩)
        | 7 => v = wv (s.e)
        | 8 => v = .pointer (some ⟨w.heap.size + 1 + 1 + 1, 5, none⟩)
        | 9 => v = wv (s.f)
        | 10 => v = .pointer (some ⟨w.heap.size + 1 + 1 + 1, 6, none⟩)
        | 11 => v = wv (s.g)
        | 12 => v = wv (chooseW s.e s.f s.g)
        | 13 => v = wv (y31)
        | 14 => v = .int .i64 (k : Int)
        | 15 => v = wv (primesW.getD k 0)
        | 16 => v = wv (y34)
        | 17 => v = wv (x)
        | 18 => v = wv (t0)
        | _ => v = wv (t0)
        ) (regOk_of (by kernel_rfl)) rfl ?_ ?_ ?_
      · intro i v w1 w2 h1 h2
        split at h2 <;> exact h2
      · refine ⟨fun a w2 hle hd hf hs K hK => ?_, fun a w2 hle hd hf hs K hK => ?_, fun a w2 hle hd hf hs K hK => ?_, fun a w2 hle hd hf hs K hK => ?_, fun a w2 hle hd hf hs K hK => ?_, fun a w2 hle hd hf hs K hK => ?_, fun a w2 hle hd hf hs K hK => ?_, fun a w2 hle hd hf hs K hK => ?_, fun a w2 hle hd hf hs K hK => ?_, fun a w2 hle hd hf hs K hK => ?_, fun a w2 hle hd hf hs K hK => ?_, fun a w2 hle hd hf hs K hK => ?_, fun a w2 hle hd hf hs K hK => ?_, fun a w2 hle hd hf hs K hK => ?_, fun a w2 hle hd hf hs K hK => ?_, fun a w2 hle hd hf hs K hK => ?_, fun a w2 hle hd hf hs K hK => ?_, fun a w2 hle hd hf hs K hK => ?_, fun a w2 hle hd hf hs K hK => ?_, fun a w2 hle hd hf hs K hK => ?_, trivial⟩
        all_goals clear hd
        · -- 18 := Op.indexAddr 156 t5 (const (7:i64))
          have e5 := hf 5 rfl; simp [Act.eval] at e5
          go_simp; exact hK _ _ (Ext.refl _) rfl
        · -- 19 := Op.load 155 t18
          have e18 := hs 0 18 (needs_direct (by kernel_rfl)) rfl; simp [Act.eval] at e18
          have hq := hle.cell hc7
          go_simp; exact hK _ _ (Ext.refl _) rfl
        · -- 20 := Op.indexAddr 156 t5 (const (4:i64))
          have e5 := hf 5 rfl; simp [Act.eval] at e5
          go_simp; exact hK _ _ (Ext.refl _) rfl
        · -- 21 := Op.load 155 t20
          have e20 := hs 2 20 (needs_direct (by kernel_rfl)) rfl; simp [Act.eval] at e20
          have hq := hle.cell hc4
          go_simp; exact hK _ _ (Ext.refl _) rfl
        · -- 22 := Op.call { value (Operand.func 119), args := #[const (1:i64), t21], argTypes := #[3, 155] }
          have e21 := hs 3 21 (needs_direct (by kernel_rfl)) rfl; simp [Act.eval] at e21
          go_simp
          refine (c_great1 _ w2).mono ?_
          rintro e w3 ⟨rfl, rfl⟩
          exact hK _ _ (Ext.refl _) rfl
        · -- 23 := Op.binOp BinOp.add 155 t19 t22 155
          have e19 := hs 1 19 (needs_direct (by kernel_rfl)) rfl; have e22 := hs 4 22 (needs_direct (by kernel_rfl)) rfl; simp [Act.eval] at e19 e22
          go_simp
          exact hK _ _ (Ext.refl _) (congrArg (Value.int .u32) (by rw [HY23.out]; first | exact w_add _ _ | exact w_addW _ _))
        · -- 24 := Op.indexAddr 156 t5 (const (4:i64))
          have e5 := hf 5 rfl; simp [Act.eval] at e5
          go_simp; exact hK _ _ (Ext.refl _) rfl
        · -- 25 := Op.load 155 t24
          have e24 := hs 6 24 (needs_direct (by kernel_rfl)) rfl; simp [Act.eval] at e24
          have hq := hle.cell hc4
          go_simp; exact hK _ _ (Ext.refl _) rfl
        · -- 26 := Op.indexAddr 156 t5 (const (5:i64))
          have e5 := hf 5 rfl; simp [Act.eval] at e5
          go_simp; exact hK _ _ (Ext.refl _) rfl
        · -- 27 := Op.load 155 t26
          have e26 := hs 8 26 (needs_direct (by kernel_rfl)) rfl; simp [Act.eval] at e26
          have hq := hle.cell hc5
          go_simp; exact hK _ _ (Ext.refl _) rfl
        · -- 28 := Op.indexAddr 156 t5 (const (6:i64))
          have e5 := hf 5 rfl; simp [Act.eval] at e5
          go_simp; exact hK _ _ (Ext.refl _) rfl
        · -- 29 := Op.load 155 t28
          have e28 := hs 10 28 (needs_direct (by kernel_rfl)) rfl; simp [Act.eval] at e28
          have hq := hle.cell hc6
          go_simp; exact hK _ _ (Ext.refl _) rfl
        · -- 30 := Op.call { value (Operand.func 120), args := #[t25, t27, t29], argTypes := #[155, 155, 155] }
          have e25 := hs 7 25 (needs_direct (by kernel_rfl)) rfl; have e27 := hs 9 27 (needs_direct (by kernel_rfl)) rfl; have e29 := hs 11 29 (needs_direct (by kernel_rfl)) rfl; simp [Act.eval] at e25 e27 e29
          go_simp
          refine (c_choose _ _ _ w2).mono ?_
          rintro e w3 ⟨rfl, rfl⟩
          exact hK _ _ (Ext.refl _) rfl
        · -- 31 := Op.binOp BinOp.add 155 t23 t30 155
          have e23 := hs 5 23 (needs_direct (by kernel_rfl)) rfl; have e30 := hs 12 30 (needs_direct (by kernel_rfl)) rfl; simp [Act.eval] at e23 e30
          go_simp
          exact hK _ _ (Ext.refl _) (congrArg (Value.int .u32) (by rw [HY31.out]; first | exact w_add _ _ | exact w_addW _ _))
        · -- 32 := Op.move t6
          have e6 := hf 6 rfl; simp [Act.eval] at e6
          go_simp; exact hK _ _ (Ext.refl _) rfl
        · -- 33 := Op.call { value (Operand.func 121), args := #[t32], argTypes := #[3] }
          have e32 := hs 14 32 (needs_direct (by kernel_rfl)) rfl; simp [Act.eval] at e32
          go_simp
          refine (c_prime k w2 (HP.out.ext hle) hlt).mono ?_
          rintro e w3 ⟨rfl, rfl⟩
          exact hK _ _ (Ext.refl _) rfl
        · -- 34 := Op.binOp BinOp.add 155 t31 t33 155
          have e31 := hs 13 31 (needs_direct (by kernel_rfl)) rfl; have e33 := hs 15 33 (needs_direct (by kernel_rfl)) rfl; simp [Act.eval] at e31 e33
          go_simp
          exact hK _ _ (Ext.refl _) (congrArg (Value.int .u32) (by rw [HY34.out]; first | exact w_add _ _ | exact w_addW _ _))
        · -- 35 := Op.move t7
          have e7 := hf 7 rfl; simp [Act.eval] at e7
          go_simp; exact hK _ _ (Ext.refl _) rfl
        · -- 36 := Op.binOp BinOp.add 155 t34 t35 155
          have e34 := hs 16 34 (needs_direct (by kernel_rfl)) rfl; have e35 := hs 17 35 (needs_direct (by kernel_rfl)) rfl; simp [Act.eval] at e34 e35
          go_simp
          exact hK _ _ (Ext.refl _) (congrArg (Value.int .u32) (by rw [HT0.out]; first | exact w_add _ _ | exact w_addW _ _))
        · -- 8 := Op.assign t36
          have e36 := hs 18 36 (needs_direct (by kernel_rfl)) rfl; simp [Act.eval] at e36
          go_simp; exact hK _ _ (Ext.refl _) rfl
      intro vs w5 hle5 hs
      have v19 := hs 19 (by omega) rfl
      simp only at v19
      clear hs
      have hd0 := hle5.cell hc0
      have hd1 := hle5.cell hc1
      have hd2 := hle5.cell hc2
      have HE5 := hide hle5
      clear hc0 hc1 hc2 hc3 hc4 hc5 hc6 hc7 hle5 hix
      simp only [putN, dstAt]
      go_simp
      go_wp2_with fail
      refine wp_region_ext mixed 12 (fun i v w' => match i with
        | 0 => v = .pointer (some ⟨w.heap.size + 1 + 1 + 1, 0, none⟩)
        | 1 => v = wv (s.a)
        | 2 => v = wv (great0 s.a)
        | 3 => v = .pointer (some ⟨w.heap.size + 1 + 1 + 1, 0, none⟩)
        | 4 => v = wv (s.a)
        | 5 => v = .pointer (some ⟨w.heap.size + 1 + 1 + 1, 1, none⟩)
        | 6 => v = wv (s.b)
        | 7 => v = .pointer (some ⟨w.heap.size + 1 + 1 + 1, 2, none⟩)
        | 8 => v = wv (s.c)
        | 9 => v = wv (mostW s.a s.b s.c)
        | 10 => v = wv (u0)
        | _ => v = wv (u0)
        ) (regOk_of (by kernel_rfl)) rfl ?_ ?_ ?_
      · intro i v w1 w2 h1 h2
        split at h2 <;> exact h2
      · refine ⟨fun a w2 hle hd hf hs K hK => ?_, fun a w2 hle hd hf hs K hK => ?_, fun a w2 hle hd hf hs K hK => ?_, fun a w2 hle hd hf hs K hK => ?_, fun a w2 hle hd hf hs K hK => ?_, fun a w2 hle hd hf hs K hK => ?_, fun a w2 hle hd hf hs K hK => ?_, fun a w2 hle hd hf hs K hK => ?_, fun a w2 hle hd hf hs K hK => ?_, fun a w2 hle hd hf hs K hK => ?_, fun a w2 hle hd hf hs K hK => ?_, fun a w2 hle hd hf hs K hK => ?_, trivial⟩
        all_goals clear hd
        · -- 37 := Op.indexAddr 156 t5 (const (0:i64))
          have e5 := hf 5 rfl; simp [Act.eval] at e5
          go_simp; exact hK _ _ (Ext.refl _) rfl
        · -- 38 := Op.load 155 t37
          have e37 := hs 0 37 (needs_direct (by kernel_rfl)) rfl; simp [Act.eval] at e37
          have hq := hle.cell hd0
          go_simp; exact hK _ _ (Ext.refl _) rfl
        · -- 39 := Op.call { value (Operand.func 119), args := #[const (0:i64), t38], argTypes := #[3, 155] }
          have e38 := hs 1 38 (needs_direct (by kernel_rfl)) rfl; simp [Act.eval] at e38
          go_simp
          refine (c_great0 _ w2).mono ?_
          rintro e w3 ⟨rfl, rfl⟩
          exact hK _ _ (Ext.refl _) rfl
        · -- 40 := Op.indexAddr 156 t5 (const (0:i64))
          have e5 := hf 5 rfl; simp [Act.eval] at e5
          go_simp; exact hK _ _ (Ext.refl _) rfl
        · -- 41 := Op.load 155 t40
          have e40 := hs 3 40 (needs_direct (by kernel_rfl)) rfl; simp [Act.eval] at e40
          have hq := hle.cell hd0
          go_simp; exact hK _ _ (Ext.refl _) rfl
        · -- 42 := Op.indexAddr 156 t5 (const (1:i64))
          have e5 := hf 5 rfl; simp [Act.eval] at e5
          go_simp; exact hK _ _ (Ext.refl _) rfl
        · -- 43 := Op.load 155 t42
          have e42 := hs 5 42 (needs_direct (by kernel_rfl)) rfl; simp [Act.eval] at e42
          have hq := hle.cell hd1
          go_simp; exact hK _ _ (Ext.refl _) rfl
        · -- 44 := Op.indexAddr 156 t5 (const (2:i64))
          have e5 := hf 5 rfl; simp [Act.eval] at e5
          go_simp; exact hK _ _ (Ext.refl _) rfl
        · -- 45 := Op.load 155 t44
          have e44 := hs 7 44 (needs_direct (by kernel_rfl)) rfl; simp [Act.eval] at e44
          have hq := hle.cell hd2
          go_simp; exact hK _ _ (Ext.refl _) rfl
        · -- 46 := Op.call { value (Operand.func 122), args := #[t41, t43, t45], argTypes := #[155, 155, 155] }
          have e41 := hs 4 41 (needs_direct (by kernel_rfl)) rfl; have e43 := hs 6 43 (needs_direct (by kernel_rfl)) rfl; have e45 := hs 8 45 (needs_direct (by kernel_rfl)) rfl; simp [Act.eval] at e41 e43 e45
          go_simp
          refine (c_most _ _ _ w2).mono ?_
          rintro e w3 ⟨rfl, rfl⟩
          exact hK _ _ (Ext.refl _) rfl
        · -- 47 := Op.binOp BinOp.add 155 t39 t46 155
          have e39 := hs 2 39 (needs_direct (by kernel_rfl)) rfl; have e46 := hs 9 46 (needs_direct (by kernel_rfl)) rfl; simp [Act.eval] at e39 e46
          go_simp
          exact hK _ _ (Ext.refl _) (congrArg (Value.int .u32) (by rw [HU0.out]; first | exact w_add _ _ | exact w_addW _ _))
        · -- 9 := Op.assign t47
          have e47 := hs 10 47 (needs_direct (by kernel_rfl)) rfl; simp [Act.eval] at e47
          go_simp; exact hK _ _ (Ext.refl _) rfl
      intro vs w8 hle hs
      have v11 := hs 11 (by omega) rfl
      simp only at v11
      clear hs
      have hE8 : Ext wr w8 := HE5.out.trans hle
      have hS8 := (hE8.block _ hgs).trans HSS.out
      have HA8 := hide ((hE8.block _ (Array.getElem?_eq_some_iff.1 HA.out).1).trans HA.out)
      have HD8 := hide ((hE8.block _ hgd).trans HD.out)
      have HB8 := hide (HB.out.trans (hE8.mono hwr))
      have hc0 := (cell_of_row w8 _ 0 _ _ _ hS8).trans (s8C_0 s)
      have hc1 := (cell_of_row w8 _ 1 _ _ _ hS8).trans (s8C_1 s)
      have hc2 := (cell_of_row w8 _ 2 _ _ _ hS8).trans (s8C_2 s)
      have hc3 := (cell_of_row w8 _ 3 _ _ _ hS8).trans (s8C_3 s)
      have hc4 := (cell_of_row w8 _ 4 _ _ _ hS8).trans (s8C_4 s)
      have hc5 := (cell_of_row w8 _ 5 _ _ _ hS8).trans (s8C_5 s)
      have hc6 := (cell_of_row w8 _ 6 _ _ _ hS8).trans (s8C_6 s)
      have hc7 := (cell_of_row w8 _ 7 _ _ _ hS8).trans (s8C_7 s)
      have hr8 := row_of hS8
      have HS8 := hide hS8
      clear hS8 hE8 hd0 hd1 hd2 hle
      simp only [putN, dstAt]
      go_simp
      go_wp2_with fail
      rw [w_add t0 u0, w_add s.d t0, sets8]
      go_simp
      go_wp2_with fail
      go_roundw
      case rel =>
        refine ⟨k + 1, by omega, by simp, ?_, ?_, ?_, hide (bsetRow HB8.out (by omega) _)⟩
        · exact hide ((heap_setRow_far _ _ _ (by omega)).trans HA8.out)
        · exact hide ((heap_setRow_far _ _ _ (by omega)).trans HD8.out)
        · rw [HST.out]
          have := setRow_heap w8 (w.heap.size + 1 + 1 + 1) _ (s8C ⟨t0 + u0, s.a, s.b, s.c, s.d + t0, s.e, s.f, s.g⟩) _ _ HS8.out
          rw [s8C_splice0 _ _ rfl]
          exact hide this
      case measure => simp [intOf]; omega
    · have HK64 := hide (show k = 64 by omega)
      obtain ⟨s, hs⟩ : ∃ s, s = turns h Wd k := ⟨_, rfl⟩
      have hS := HS.out
      rw [← hs] at hS
      have HFIN : Hid (compress h b = s.add h) := hide (by rw [HCO.out, hs, HK64.out])
      have HSS := hide hS
      obtain ⟨l, hl⟩ : ∃ l, l = s.list := ⟨_, rfl⟩
      obtain ⟨m, hm⟩ : ∃ m, m = h.list := ⟨_, rfl⟩
      have hll : l.length = 8 := by rw [hl]; rfl
      have hml : m.length = 8 := by rw [hm]; rfl
      have HLS : Hid (s8C s = wlC l) := hide (by rw [hl]; rfl)
      have HMH : Hid (s8C h = wlC m) := hide (by rw [hm]; rfl)
      have HLM : Hid (addl l m 8 = (s.add h).list) := hide (by rw [hl, hm]; rfl)
      clear hs HS hS hl hm
      go_wp2_with fail
      go_loopw [69] (fun i wz => ∃ (j : Nat), j ≤ 8 ∧ i = .int .i64 (j : Int) ∧ Hid (wz.heap[w.heap.size]? = some (.cells (s8C h) 156)) ∧ Hid (wz.heap[w.heap.size + 1 + 1]? = some (.cells (s8C s8z) 156)) ∧ Hid (wz.heap[w.heap.size + 1 + 1 + 1]? = some (.cells (wlC (addl l m j)) 156)) ∧ Hid (Below w.heap.size w wz)) (fun i _ => 8 - (intOf i).toNat)
      case atStart => exact ⟨0, Nat.zero_le _, rfl, HA, HD, hide (by rw [addl_start, ← HLS.out]; exact HSS.out), HB⟩
      case round =>
        clear HSS HA HD HB hwr hgs hgd
        obtain ⟨j, hj, rfl, HA, HD, HS, HB⟩ := hrel
        have hwr := HB.out.size
        have hgs := (Array.getElem?_eq_some_iff.1 HS.out).1
        have hgd := (Array.getElem?_eq_some_iff.1 HD.out).1
        by_cases hlt : j < 8
        · obtain ⟨p, hp⟩ : ∃ p, l[j]? = some p := ⟨_, List.getElem?_eq_getElem (by omega)⟩
          obtain ⟨q, hq⟩ : ∃ q, m[j]? = some q := ⟨_, List.getElem?_eq_getElem (by omega)⟩
          have hcp := (cell_of_row wr _ j _ _ _ HS.out).trans (wlC_at _ ((addl_at hll hml hlt).trans hp))
          have hcq : wr.cell? ⟨w.heap.size, j, none⟩ = some (wv q) := by
            rw [cell_of_row wr _ j _ _ _ HA.out, HMH.out]
            exact wlC_at _ hq
          have HST := hide (addl_set hll hml hlt hp hq)
          obtain ⟨y, hy⟩ : ∃ y, y = p + q := ⟨_, rfl⟩
          have HY := hide hy
          clear hp hq hy
          go_wp2_with fail
          refine wp_region_ext mixed 8 (fun i v w' => match i with
            | 0 => v = .int .i64 ((j : Nat) : Int)
            | 1 => v = .pointer (some ⟨w.heap.size + 1 + 1 + 1, j, none⟩)
            | 2 => v = wv (p)
            | 3 => v = .int .i64 ((j : Nat) : Int)
            | 4 => v = .pointer (some ⟨w.heap.size, j, none⟩)
            | 5 => v = wv (q)
            | 6 => v = wv (y)
            | _ => v = .pointer (some ⟨w.heap.size + 1 + 1 + 1, j, none⟩)
            ) (regOk_of (by kernel_rfl)) rfl ?_ ?_ ?_
          · intro i v w1 w2 h1 h2
            split at h2 <;> exact h2
          · refine ⟨fun a w2 hle hd hf hs K hK => ?_, fun a w2 hle hd hf hs K hK => ?_, fun a w2 hle hd hf hs K hK => ?_, fun a w2 hle hd hf hs K hK => ?_, fun a w2 hle hd hf hs K hK => ?_, fun a w2 hle hd hf hs K hK => ?_, fun a w2 hle hd hf hs K hK => ?_, fun a w2 hle hd hf hs K hK => ?_, trivial⟩
            all_goals clear hd
            · -- 72 := Op.move t10
              have e10 := hf 10 rfl; simp [Act.eval] at e10
              go_simp; exact hK _ _ (Ext.refl _) rfl
            · -- 73 := Op.indexAddr 156 t5 t72
              have e5 := hf 5 rfl; have e72 := hs 0 72 (needs_direct (by kernel_rfl)) rfl; simp [Act.eval] at e5 e72
              go_simp; exact hK _ _ (Ext.refl _) rfl
            · -- 74 := Op.load 155 t73
              have e73 := hs 1 73 (needs_direct (by kernel_rfl)) rfl; simp [Act.eval] at e73
              have hq := hle.cell hcp
              go_simp; exact hK _ _ (Ext.refl _) rfl
            · -- 75 := Op.move t10
              have e10 := hf 10 rfl; simp [Act.eval] at e10
              go_simp; exact hK _ _ (Ext.refl _) rfl
            · -- 76 := Op.indexAddr 156 t2 t75
              have e2 := hf 2 rfl; have e75 := hs 3 75 (needs_direct (by kernel_rfl)) rfl; simp [Act.eval] at e2 e75
              go_simp; exact hK _ _ (Ext.refl _) rfl
            · -- 77 := Op.load 155 t76
              have e76 := hs 4 76 (needs_direct (by kernel_rfl)) rfl; simp [Act.eval] at e76
              have hq := hle.cell hcq
              go_simp; exact hK _ _ (Ext.refl _) rfl
            · -- 78 := Op.binOp BinOp.add 155 t74 t77 155
              have e74 := hs 2 74 (needs_direct (by kernel_rfl)) rfl; have e77 := hs 5 77 (needs_direct (by kernel_rfl)) rfl; simp [Act.eval] at e74 e77
              go_simp
              exact hK _ _ (Ext.refl _) (congrArg (Value.int .u32) (by rw [HY.out]; first | exact w_add _ _ | exact w_addW _ _))
            · -- 79 := Op.indexAddr 156 t5 t72
              have e5 := hf 5 rfl; have e72 := hs 0 72 (needs_direct (by kernel_rfl)) rfl; simp [Act.eval] at e5 e72
              go_simp; exact hK _ _ (Ext.refl _) rfl
          intro vs w8 hle hs
          have v6 := hs 6 (by omega) rfl
          have v7 := hs 7 (by omega) rfl
          simp only at v6 v7
          clear hs
          have hS8 := (hle.block _ hgs).trans HS.out
          have HA8 := hide ((hle.block _ (Array.getElem?_eq_some_iff.1 HA.out).1).trans HA.out)
          have HD8 := hide ((hle.block _ hgd).trans HD.out)
          have HB8 := hide (HB.out.trans (hle.mono hwr))
          have hcz := cell_of_row w8 (w.heap.size + 1 + 1 + 1) j _ _ _ hS8
          have hcs : (w8.cell? ⟨w.heap.size + 1 + 1 + 1, j, none⟩).isSome = true := by rw [hcz, wlC_get, List.getElem?_eq_getElem (by rw [addl_len hll hml (by omega)]; exact hlt)]; rfl
          obtain ⟨v0, hv0⟩ := Option.isSome_iff_exists.1 hcs
          have hfz := frozen_of_row w8 (w.heap.size + 1 + 1 + 1) j _ _ hS8
          have HS8 := hide hS8
          clear hcz hcs hcp hcq hle hS8
          simp only [putN, dstAt]
          go_simp
          go_wp2_with fail
          go_roundw
          case rel =>
            refine ⟨j + 1, by omega, by simp, ?_, ?_, ?_, hide (bsetCell HB8.out (by omega) _ _)⟩
            · exact hide ((Below.heap_setCell _ _ _ _ (by simp; omega)).trans HA8.out)
            · exact hide ((Below.heap_setCell _ _ _ _ (by simp)).trans HD8.out)
            · have := heap_setCell_at (i := j) (wv y) HS8.out
              rw [wlC_set, HY.out, HST.out] at this
              rw [HY.out]
              exact hide this
          case measure => simp [intOf]; omega
        · obtain rfl : j = 8 := by omega
          have hS := HS.out
          rw [HLM.out, ← s8C_wl] at hS
          have hag : agg? wr ⟨w.heap.size + 1 + 1 + 1, 0, none⟩ 8 = some (s8C (s.add h)) := (agg_of_row hS 0 8 (by decide)).trans (s8C_part _)
          have hr := row_of HD.out
          clear hS
          have HB9 := hide (bsetRow HB.out (show w.heap.size ≤ w.heap.size + 1 + 1 by omega) (s8C (s.add h)))
          have hag9 : agg? (wr.setRow (w.heap.size + 1 + 1) (s8C (s.add h))) ⟨w.heap.size + 1 + 1, 0, none⟩ 8 = some (s8C (s.add h)) := (agg_setRow_at _ _ _ _ _ (by rw [hr]; rfl) (by decide)).trans (s8C_part _)
          have hsp := s8C_splice0 (s.add h) (s8C s8z) rfl
          go_wp2_with fail
          exact bodyPost_ret (v := .agg (s8C (s.add h))) (by simp [results, Tryd.results101, go_sem, hag9]) rfl ⟨by rw [HFIN.out], HB9.out⟩
end Go.Proofs.YtdkeflhgengblaaDoor
