/- Texts of one proof, one behind the other: Blk2, Dig1, Fil, Dig2, Dig3, Zer, Dig4, Opn, Door, Dig5, Hm1, Hm2, Hm3, Rs1, Rs2, Rs3. No condition. -/
import Derived.Test.YtdkeflhgengblaaDoorAda
import Derived.Great.FillDense
import Derived.Deep.OwnRows
import Derived.Laws.OwnMore
import Derived.Lib.AppendZerosOnto
import Derived.Test.YtdkeflhgengblaaDoorRows
import Derived.ProofKit
import Derived.LaidMore
import Derived.OpenShut
import Derived.Stop.Joined
namespace Go.Proofs.YtdkeflhgengblaaDoor
open Go.RowKit
attribute [local go_sem ↓] ld8 ld64
attribute [local go_sem] run_ldAgg run_storeAgg agg_alloc_at agg_alloc_past agg_drew agg_setCell row_alloc_at row_alloc_past row_drew setRow_alloc_at setRow_alloc_past setRow_drew agg_setRow_at agg_setRow_far cell_setRow_at cell_setRow_far row_setRow_far size_setRow s8C_size s8C_0 s8C_1 s8C_2 s8C_3 s8C_4 s8C_5 s8C_6 s8C_7 s8C_part s8C_one s8C_splice0 s8C_ne blC_size wlC_size blC_one wlC_one
attribute [local go_sem] zero_w64 zero_w8 zero_b64
theorem sets8 (a b c d e f g h : UInt32) : ((((((((s8C s8z).toList.set 0 (wv a)).set 1 (wv b)).set 2 (wv c)).set 3 (wv d)).set 4 (wv e)).set 5 (wv f)).set 6 (wv g)).set 7 (wv h) = (s8C ⟨a, b, c, d, e, f, g, h⟩).toList := rfl
/-- Words, the first j of them added to. -/
def addl (l m : List UInt32) (j : Nat) : List UInt32 := (l.zipWith (· + ·) m).take j ++ l.drop j
section
variable {l m : List UInt32} {n j : Nat} {p q : UInt32}
theorem addl_len (hl : l.length = n) (hm : m.length = n) (hj : j ≤ n) : (addl l m j).length = n := by
  simp only [addl, List.length_append, List.length_take, List.length_zipWith, List.length_drop]; omega
theorem addl_at (hl : l.length = n) (hm : m.length = n) (hj : j < n) : (addl l m j)[j]? = l[j]? := by
  rw [addl, List.getElem?_append_right (by simp only [List.length_take, List.length_zipWith]; omega), List.length_take, List.length_zipWith, List.getElem?_drop]
  congr 1; omega
theorem addl_set (hl : l.length = n) (hm : m.length = n) (hj : j < n) (hp : l[j]? = some p) (hq : m[j]? = some q) : (addl l m j).set j (p + q) = addl l m (j + 1) := by
  apply List.ext_getElem?
  intro k
  have h1 : (addl l m j).length = n := addl_len hl hm (by omega)
  rw [List.getElem?_set, h1]
  by_cases hk : j = k
  · subst hk
    rw [if_pos rfl, if_pos hj, addl, List.getElem?_append_left (by simp only [List.length_take, List.length_zipWith]; omega), List.getElem?_take, if_pos (Nat.lt_succ_self _), List.getElem?_zipWith, hp, hq]
  · rw [if_neg hk, addl, addl]
    rcases Nat.lt_or_ge k j with h2 | h2
    · rw [List.getElem?_append_left (by simp only [List.length_take, List.length_zipWith]; omega), List.getElem?_append_left (by simp only [List.length_take, List.length_zipWith]; omega), List.getElem?_take, List.getElem?_take, if_pos h2, if_pos (by omega)]
    · rw [List.getElem?_append_right (by simp only [List.length_take, List.length_zipWith]; omega), List.getElem?_append_right (by simp only [List.length_take, List.length_zipWith]; omega), List.getElem?_drop, List.getElem?_drop]
      congr 1
      simp only [List.length_take, List.length_zipWith]; omega
end
theorem addl_end (s h : S8) : addl s.list h.list 8 = (s.add h).list := rfl
theorem addl_start (l m : List UInt32) : addl l m 0 = l := by simp [addl]
theorem u32_info1 : (Tryd.prog.info? 155).map (·.size) = some 1 := by kernel_rfl
set_option maxRecDepth 100000 in
set_option maxHeartbeats 1600000 in
theorem c_compress (h : S8) (b : List UInt8) (w : World) (hb : b.length = 64) (hP : PrimesAt w) : Calls Tryd.prog 101 #[.agg (s8C h), .agg (blC b)] w fun e w' => e = .returned (.agg (s8C (compress h b))) ∧ Below w.heap.size w w' := by
  have hpb := blC_part b 64 hb
  have HP0 := hide hP
  clear hP
  have hz : blC b = #[] → False := fun h => by
    have := congrArg Array.size h
    rw [blC_size, hb] at this
    cases this
  obtain ⟨W3, hW3⟩ : ∃ W3, W3 = ((w.alloc (.cells (s8C h) 156)).alloc (.cells (blC b) 153)).alloc (.cells (s8C s8z) 156) := ⟨_, rfl⟩
  have hs3 : W3.heap.size = w.heap.size + 1 + 1 + 1 := by rw [hW3]; simp only [World.size_alloc]
  have hB3 : Below w.heap.size w W3 := by rw [hW3]; exact below3 _ _ _ _
  have hA3 : W3.heap[w.heap.size]? = some (.cells (s8C h) 156) := by
    rw [hW3, Below.heap_alloc _ _ _ (by simp only [World.size_alloc]; omega), Below.heap_alloc _ _ _ (by simp only [World.size_alloc]; omega)]
    exact heap_alloc_new _ _
  have hC3 : W3.heap[w.heap.size + 1]? = some (.cells (blC b) 153) := by
    rw [hW3, Below.heap_alloc _ _ _ (by simp only [World.size_alloc]; omega)]
    have := heap_alloc_new (w.alloc (.cells (s8C h) 156)) (.cells (blC b) 153)
    simpa only [World.size_alloc] using this
  have hD3 : W3.heap[w.heap.size + 1 + 1]? = some (.cells (s8C s8z) 156) := by
    rw [hW3]
    have := heap_alloc_new ((w.alloc (.cells (s8C h) 156)).alloc (.cells (blC b) 153)) (.cells (s8C s8z) 156)
    simpa only [World.size_alloc] using this
  have haA : agg? W3 ⟨w.heap.size, 0, none⟩ 8 = some (s8C h) := (agg_of_row hA3 0 8 (by decide)).trans (s8C_part h)
  have haC : agg? W3 ⟨w.heap.size + 1, 0, none⟩ 64 = some (blC b) := (agg_of_row hC3 0 64 (by decide)).trans hpb
  go_enter Tryd.func101, Tryd.ntmps101
  have HW3 := hide hW3
  clear hW3
  go_wp2_with fail
  rw [← HW3.out]
  clear HW3
  go_simp
  go_wp2_with fail
  refine (c_sched b _ hb).mono ?_
  rintro e w4 ⟨rfl, b4⟩
  obtain ⟨Wd, hWd⟩ : ∃ Wd, Wd = schedN b 64 := ⟨_, rfl⟩
  have hWl : Wd.length = 64 := by rw [hWd]; exact schedN_len b 64
  have HCO : Hid (compress h b = (turns h Wd 64).add h) := hide (by rw [hWd]; rfl)
  rw [← hWd]
  clear hWd
  rw [s8C_splice0 h (s8C s8z) rfl] at b4
  have hsz4 : w.heap.size + 1 + 1 + 1 + 1 ≤ w4.heap.size := by have := b4.size; simp only [World.size_alloc, hs3] at this; exact this
  have hB4 : Below w.heap.size w w4 := hB3.trans (((below1 W3 _).mono hB3.size).trans (b4.mono (by simp only [World.size_alloc]; have := hB3.size; omega)))
  have hk4 : ∀ k, k < W3.heap.size → w4.heap[k]? = W3.heap[k]? := fun k hk => (b4.block k (by simp only [World.size_alloc]; omega)).trans (Below.heap_alloc _ _ _ hk)
  have hA4 := (hk4 _ (by omega)).trans hA3
  have hD4 := (hk4 _ (by omega)).trans hD3
  have hS4 : w4.heap[w.heap.size + 1 + 1 + 1]? = some (.cells (s8C h) 156) := by
    rw [← hs3]
    exact (b4.block _ (by simp only [World.size_alloc]; omega)).trans (heap_alloc_new W3 _)
  have HA4 := hide hA4
  have HD4 := hide hD4
  have HS4 := hide hS4
  have HB4 := hide hB4
  clear hk4 hA4 hD4 hS4 hB4 b4 hA3 hC3 hD3 haA haC hB3 hs3 hsz4 hpb hz hb
  go_wp2_with fail
  go_loopw [14] (fun i wr => ∃ (k : Nat), k ≤ 64 ∧ i = .int .i64 (k : Int) ∧ Hid (wr.heap[w.heap.size]? = some (.cells (s8C h) 156)) ∧ Hid (wr.heap[w.heap.size + 1 + 1]? = some (.cells (s8C s8z) 156)) ∧ Hid (wr.heap[w.heap.size + 1 + 1 + 1]? = some (.cells (s8C (turns h Wd k)) 156)) ∧ Hid (Below w.heap.size w wr)) (fun i _ => 64 - (intOf i).toNat)
  case atStart => exact ⟨0, Nat.zero_le _, rfl, HA4, HD4, HS4, HB4⟩
  case round =>
    obtain ⟨k, hk, rfl, HA, HD, HS, HB⟩ := hrel
    have hwr := HB.out.size
    have hgs := (Array.getElem?_eq_some_iff.1 HS.out).1
    have hgd := (Array.getElem?_eq_some_iff.1 HD.out).1
    by_cases hlt : k < 64
    · have HP : Hid (PrimesAt wr) := hide (HP0.out.below HB.out HP0.out.1)
      obtain ⟨s, hs⟩ : ∃ s, s = turns h Wd k := ⟨_, rfl⟩
      obtain ⟨x, hx⟩ : ∃ x, x = Wd.getD k 0 := ⟨_, rfl⟩
      have hxk : Wd[k]? = some x := by
        rw [hx, List.getD_eq_getElem?_getD, List.getElem?_eq_getElem (by rw [hWl]; exact hlt)]; rfl
      have hxc := wlC_at _ hxk
      have hst : turns h Wd (k + 1) = s.turn (primesW.getD k 0) x := by rw [turns, ← hs, ← hx]
      have hS := HS.out
      rw [← hs] at hS
      have HSS := hide hS
      have hc0 := (cell_of_row wr _ 0 _ _ _ hS).trans (s8C_0 s)
      have hc1 := (cell_of_row wr _ 1 _ _ _ hS).trans (s8C_1 s)
      have hc2 := (cell_of_row wr _ 2 _ _ _ hS).trans (s8C_2 s)
      have hc3 := (cell_of_row wr _ 3 _ _ _ hS).trans (s8C_3 s)
      have hc4 := (cell_of_row wr _ 4 _ _ _ hS).trans (s8C_4 s)
      have hc5 := (cell_of_row wr _ 5 _ _ _ hS).trans (s8C_5 s)
      have hc6 := (cell_of_row wr _ 6 _ _ _ hS).trans (s8C_6 s)
      have hc7 := (cell_of_row wr _ 7 _ _ _ hS).trans (s8C_7 s)
      clear hS hs hx HS
      have hix := arr_index (P := Tryd.prog) Tryd.underlying174 u32_info1 Tryd.underlying155 (wlC Wd) k hlt (wv x) hxc .i64
      clear hxc hxk
      obtain ⟨y23, hy23⟩ : ∃ y, y = s.h + great1 s.e := ⟨_, rfl⟩
      obtain ⟨y31, hy31⟩ : ∃ y, y = y23 + chooseW s.e s.f s.g := ⟨_, rfl⟩
      obtain ⟨y34, hy34⟩ : ∃ y, y = y31 + primesW.getD k 0 := ⟨_, rfl⟩
      obtain ⟨t0, ht0⟩ : ∃ y, y = y34 + x := ⟨_, rfl⟩
      obtain ⟨u0, hu0⟩ : ∃ y, y = great0 s.a + mostW s.a s.b s.c := ⟨_, rfl⟩
      have hst2 : s.turn (primesW.getD k 0) x = ⟨t0 + u0, s.a, s.b, s.c, s.d + t0, s.e, s.f, s.g⟩ := by
        rw [S8.turn, hu0, ht0, hy34, hy31, hy23]
      rw [hst2] at hst
      have HST := hide hst
      have HY23 := hide hy23
      have HY31 := hide hy31
      have HY34 := hide hy34
      have HT0 := hide ht0
      have HU0 := hide hu0
      clear hst hst2 hy23 hy31 hy34 ht0 hu0
      go_wp2_with fail
      refine wp_region_ext mixed 20 (fun i v w' => match i with
        | 0 => v = .pointer (some ⟨w.heap.size + 1 + 1 + 1, 7, none⟩)
        | 1 => v = wv (s.h)
        | 2 => v = .pointer (some ⟨w.heap.size + 1 + 1 + 1, 4, none⟩)
        | 3 => v = wv (s.e)
        | 4 => v = wv (great1 s.e)
        | 5 => v = wv (y23)
        | 6 => v = .pointer (some ⟨w.heap.size + 1 + 1 + 1, 4, none⟩)
        | 7 => v = wv (s.e)
        | 8 => v = .pointer (some ⟨w.heap.size + 1 + 1 + 1, 5, none⟩)
        | 9 => v = wv (s.f)
        | 10 => v = .pointer (some ⟨w.heap.size + 1 + 1 + 1, 6, none⟩)
        | 11 => v = wv (s.g)
        | 12 => v = wv (chooseW s.e s.f s.g)
        | 13 => v = wv (y31)
        | 14 => v = .int .i64 (k : Int)
        | 15 => v = wv (primesW.getD k 0)
        | 16 => v = wv (y34)
        | 17 => v = wv (x)
        | 18 => v = wv (t0)
        | _ => v = wv (t0)
        ) (regOk_of (by kernel_rfl)) rfl ?_ ?_ ?_
      · intro i v w1 w2 h1 h2
        split at h2 <;> exact h2
      · refine ⟨fun a w2 hle hd hf hs K hK => ?_, fun a w2 hle hd hf hs K hK => ?_, fun a w2 hle hd hf hs K hK => ?_, fun a w2 hle hd hf hs K hK => ?_, fun a w2 hle hd hf hs K hK => ?_, fun a w2 hle hd hf hs K hK => ?_, fun a w2 hle hd hf hs K hK => ?_, fun a w2 hle hd hf hs K hK => ?_, fun a w2 hle hd hf hs K hK => ?_, fun a w2 hle hd hf hs K hK => ?_, fun a w2 hle hd hf hs K hK => ?_, fun a w2 hle hd hf hs K hK => ?_, fun a w2 hle hd hf hs K hK => ?_, fun a w2 hle hd hf hs K hK => ?_, fun a w2 hle hd hf hs K hK => ?_, fun a w2 hle hd hf hs K hK => ?_, fun a w2 hle hd hf hs K hK => ?_, fun a w2 hle hd hf hs K hK => ?_, fun a w2 hle hd hf hs K hK => ?_, fun a w2 hle hd hf hs K hK => ?_, trivial⟩
        all_goals clear hd
        · -- 18 := Op.indexAddr 156 t5 (const (7:i64))
          have e5 := hf 5 rfl; simp [Act.eval] at e5
          go_simp; exact hK _ _ (Ext.refl _) rfl
        · -- 19 := Op.load 155 t18
          have e18 := hs 0 18 (needs_direct (by kernel_rfl)) rfl; simp [Act.eval] at e18
          have hq := hle.cell hc7
          go_simp; exact hK _ _ (Ext.refl _) rfl
        · -- 20 := Op.indexAddr 156 t5 (const (4:i64))
          have e5 := hf 5 rfl; simp [Act.eval] at e5
          go_simp; exact hK _ _ (Ext.refl _) rfl
        · -- 21 := Op.load 155 t20
          have e20 := hs 2 20 (needs_direct (by kernel_rfl)) rfl; simp [Act.eval] at e20
          have hq := hle.cell hc4
          go_simp; exact hK _ _ (Ext.refl _) rfl
        · -- 22 := Op.call { value (Operand.func 119), args := #[const (1:i64), t21], argTypes := #[3, 155] }
          have e21 := hs 3 21 (needs_direct (by kernel_rfl)) rfl; simp [Act.eval] at e21
          go_simp
          refine (c_great1 _ w2).mono ?_
          rintro e w3 ⟨rfl, rfl⟩
          exact hK _ _ (Ext.refl _) rfl
        · -- 23 := Op.binOp BinOp.add 155 t19 t22 155
          have e19 := hs 1 19 (needs_direct (by kernel_rfl)) rfl; have e22 := hs 4 22 (needs_direct (by kernel_rfl)) rfl; simp [Act.eval] at e19 e22
          go_simp
          exact hK _ _ (Ext.refl _) (congrArg (Value.int .u32) (by rw [HY23.out]; first | exact w_add _ _ | exact w_addW _ _))
        · -- 24 := Op.indexAddr 156 t5 (const (4:i64))
          have e5 := hf 5 rfl; simp [Act.eval] at e5
          go_simp; exact hK _ _ (Ext.refl _) rfl
        · -- 25 := Op.load 155 t24
          have e24 := hs 6 24 (needs_direct (by kernel_rfl)) rfl; simp [Act.eval] at e24
          have hq := hle.cell hc4
          go_simp; exact hK _ _ (Ext.refl _) rfl
        · -- 26 := Op.indexAddr 156 t5 (const (5:i64))
          have e5 := hf 5 rfl; simp [Act.eval] at e5
          go_simp; exact hK _ _ (Ext.refl _) rfl
        · -- 27 := Op.load 155 t26
          have e26 := hs 8 26 (needs_direct (by kernel_rfl)) rfl; simp [Act.eval] at e26
          have hq := hle.cell hc5
          go_simp; exact hK _ _ (Ext.refl _) rfl
        · -- 28 := Op.indexAddr 156 t5 (const (6:i64))
          have e5 := hf 5 rfl; simp [Act.eval] at e5
          go_simp; exact hK _ _ (Ext.refl _) rfl
        · -- 29 := Op.load 155 t28
          have e28 := hs 10 28 (needs_direct (by kernel_rfl)) rfl; simp [Act.eval] at e28
          have hq := hle.cell hc6
          go_simp; exact hK _ _ (Ext.refl _) rfl
        · -- 30 := Op.call { value (Operand.func 120), args := #[t25, t27, t29], argTypes := #[155, 155, 155] }
          have e25 := hs 7 25 (needs_direct (by kernel_rfl)) rfl; have e27 := hs 9 27 (needs_direct (by kernel_rfl)) rfl; have e29 := hs 11 29 (needs_direct (by kernel_rfl)) rfl; simp [Act.eval] at e25 e27 e29
          go_simp
          refine (c_choose _ _ _ w2).mono ?_
          rintro e w3 ⟨rfl, rfl⟩
          exact hK _ _ (Ext.refl _) rfl
        · -- 31 := Op.binOp BinOp.add 155 t23 t30 155
          have e23 := hs 5 23 (needs_direct (by kernel_rfl)) rfl; have e30 := hs 12 30 (needs_direct (by kernel_rfl)) rfl; simp [Act.eval] at e23 e30
          go_simp
          exact hK _ _ (Ext.refl _) (congrArg (Value.int .u32) (by rw [HY31.out]; first | exact w_add _ _ | exact w_addW _ _))
        · -- 32 := Op.move t6
          have e6 := hf 6 rfl; simp [Act.eval] at e6
          go_simp; exact hK _ _ (Ext.refl _) rfl
        · -- 33 := Op.call { value (Operand.func 121), args := #[t32], argTypes := #[3] }
          have e32 := hs 14 32 (needs_direct (by kernel_rfl)) rfl; simp [Act.eval] at e32
          go_simp
          refine (c_prime k w2 (HP.out.ext hle) hlt).mono ?_
          rintro e w3 ⟨rfl, rfl⟩
          exact hK _ _ (Ext.refl _) rfl
        · -- 34 := Op.binOp BinOp.add 155 t31 t33 155
          have e31 := hs 13 31 (needs_direct (by kernel_rfl)) rfl; have e33 := hs 15 33 (needs_direct (by kernel_rfl)) rfl; simp [Act.eval] at e31 e33
          go_simp
          exact hK _ _ (Ext.refl _) (congrArg (Value.int .u32) (by rw [HY34.out]; first | exact w_add _ _ | exact w_addW _ _))
        · -- 35 := Op.move t7
          have e7 := hf 7 rfl; simp [Act.eval] at e7
          go_simp; exact hK _ _ (Ext.refl _) rfl
        · -- 36 := Op.binOp BinOp.add 155 t34 t35 155
          have e34 := hs 16 34 (needs_direct (by kernel_rfl)) rfl; have e35 := hs 17 35 (needs_direct (by kernel_rfl)) rfl; simp [Act.eval] at e34 e35
          go_simp
          exact hK _ _ (Ext.refl _) (congrArg (Value.int .u32) (by rw [HT0.out]; first | exact w_add _ _ | exact w_addW _ _))
        · -- 8 := Op.assign t36
          have e36 := hs 18 36 (needs_direct (by kernel_rfl)) rfl; simp [Act.eval] at e36
          go_simp; exact hK _ _ (Ext.refl _) rfl
      intro vs w5 hle5 hs
      have v19 := hs 19 (by omega) rfl
      simp only at v19
      clear hs
      have hd0 := hle5.cell hc0
      have hd1 := hle5.cell hc1
      have hd2 := hle5.cell hc2
      have HE5 := hide hle5
      clear hc0 hc1 hc2 hc3 hc4 hc5 hc6 hc7 hle5 hix
      simp only [putN, dstAt]
      go_simp
      go_wp2_with fail
      refine wp_region_ext mixed 12 (fun i v w' => match i with
        | 0 => v = .pointer (some ⟨w.heap.size + 1 + 1 + 1, 0, none⟩)
        | 1 => v = wv (s.a)
        | 2 => v = wv (great0 s.a)
        | 3 => v = .pointer (some ⟨w.heap.size + 1 + 1 + 1, 0, none⟩)
        | 4 => v = wv (s.a)
        | 5 => v = .pointer (some ⟨w.heap.size + 1 + 1 + 1, 1, none⟩)
        | 6 => v = wv (s.b)
        | 7 => v = .pointer (some ⟨w.heap.size + 1 + 1 + 1, 2, none⟩)
        | 8 => v = wv (s.c)
        | 9 => v = wv (mostW s.a s.b s.c)
        | 10 => v = wv (u0)
        | _ => v = wv (u0)
        ) (regOk_of (by kernel_rfl)) rfl ?_ ?_ ?_
      · intro i v w1 w2 h1 h2
        split at h2 <;> exact h2
      · refine ⟨fun a w2 hle hd hf hs K hK => ?_, fun a w2 hle hd hf hs K hK => ?_, fun a w2 hle hd hf hs K hK => ?_, fun a w2 hle hd hf hs K hK => ?_, fun a w2 hle hd hf hs K hK => ?_, fun a w2 hle hd hf hs K hK => ?_, fun a w2 hle hd hf hs K hK => ?_, fun a w2 hle hd hf hs K hK => ?_, fun a w2 hle hd hf hs K hK => ?_, fun a w2 hle hd hf hs K hK => ?_, fun a w2 hle hd hf hs K hK => ?_, fun a w2 hle hd hf hs K hK => ?_, trivial⟩
        all_goals clear hd
        · -- 37 := Op.indexAddr 156 t5 (const (0:i64))
          have e5 := hf 5 rfl; simp [Act.eval] at e5
          go_simp; exact hK _ _ (Ext.refl _) rfl
        · -- 38 := Op.load 155 t37
          have e37 := hs 0 37 (needs_direct (by kernel_rfl)) rfl; simp [Act.eval] at e37
          have hq := hle.cell hd0
          go_simp; exact hK _ _ (Ext.refl _) rfl
        · -- 39 := Op.call { value (Operand.func 119), args := #[const (0:i64), t38], argTypes := #[3, 155] }
          have e38 := hs 1 38 (needs_direct (by kernel_rfl)) rfl; simp [Act.eval] at e38
          go_simp
          refine (c_great0 _ w2).mono ?_
          rintro e w3 ⟨rfl, rfl⟩
          exact hK _ _ (Ext.refl _) rfl
        · -- 40 := Op.indexAddr 156 t5 (const (0:i64))
          have e5 := hf 5 rfl; simp [Act.eval] at e5
          go_simp; exact hK _ _ (Ext.refl _) rfl
        · -- 41 := Op.load 155 t40
          have e40 := hs 3 40 (needs_direct (by kernel_rfl)) rfl; simp [Act.eval] at e40
          have hq := hle.cell hd0
          go_simp; exact hK _ _ (Ext.refl _) rfl
        · -- 42 := Op.indexAddr 156 t5 (const (1:i64))
          have e5 := hf 5 rfl; simp [Act.eval] at e5
          go_simp; exact hK _ _ (Ext.refl _) rfl
        · -- 43 := Op.load 155 t42
          have e42 := hs 5 42 (needs_direct (by kernel_rfl)) rfl; simp [Act.eval] at e42
          have hq := hle.cell hd1
          go_simp; exact hK _ _ (Ext.refl _) rfl
        · -- 44 := Op.indexAddr 156 t5 (const (2:i64))
          have e5 := hf 5 rfl; simp [Act.eval] at e5
          go_simp; exact hK _ _ (Ext.refl _) rfl
        · -- 45 := Op.load 155 t44
          have e44 := hs 7 44 (needs_direct (by kernel_rfl)) rfl; simp [Act.eval] at e44
          have hq := hle.cell hd2
          go_simp; exact hK _ _ (Ext.refl _) rfl
        · -- 46 := Op.call { value (Operand.func 122), args := #[t41, t43, t45], argTypes := #[155, 155, 155] }
          have e41 := hs 4 41 (needs_direct (by kernel_rfl)) rfl; have e43 := hs 6 43 (needs_direct (by kernel_rfl)) rfl; have e45 := hs 8 45 (needs_direct (by kernel_rfl)) rfl; simp [Act.eval] at e41 e43 e45
          go_simp
          refine (c_most _ _ _ w2).mono ?_
          rintro e w3 ⟨rfl, rfl⟩
          exact hK _ _ (Ext.refl _) rfl
        · -- 47 := Op.binOp BinOp.add 155 t39 t46 155
          have e39 := hs 2 39 (needs_direct (by kernel_rfl)) rfl; have e46 := hs 9 46 (needs_direct (by kernel_rfl)) rfl; simp [Act.eval] at e39 e46
          go_simp
          exact hK _ _ (Ext.refl _) (congrArg (Value.int .u32) (by rw [HU0.out]; first | exact w_add _ _ | exact w_addW _ _))
        · -- 9 := Op.assign t47
          have e47 := hs 10 47 (needs_direct (by kernel_rfl)) rfl; simp [Act.eval] at e47
          go_simp; exact hK _ _ (Ext.refl _) rfl
      intro vs w8 hle hs
      have v11 := hs 11 (by omega) rfl
      simp only at v11
      clear hs
      have hE8 : Ext wr w8 := HE5.out.trans hle
      have hS8 := (hE8.block _ hgs).trans HSS.out
      have HA8 := hide ((hE8.block _ (Array.getElem?_eq_some_iff.1 HA.out).1).trans HA.out)
      have HD8 := hide ((hE8.block _ hgd).trans HD.out)
      have HB8 := hide (HB.out.trans (hE8.mono hwr))
      have hc0 := (cell_of_row w8 _ 0 _ _ _ hS8).trans (s8C_0 s)
      have hc1 := (cell_of_row w8 _ 1 _ _ _ hS8).trans (s8C_1 s)
      have hc2 := (cell_of_row w8 _ 2 _ _ _ hS8).trans (s8C_2 s)
      have hc3 := (cell_of_row w8 _ 3 _ _ _ hS8).trans (s8C_3 s)
      have hc4 := (cell_of_row w8 _ 4 _ _ _ hS8).trans (s8C_4 s)
      have hc5 := (cell_of_row w8 _ 5 _ _ _ hS8).trans (s8C_5 s)
      have hc6 := (cell_of_row w8 _ 6 _ _ _ hS8).trans (s8C_6 s)
      have hc7 := (cell_of_row w8 _ 7 _ _ _ hS8).trans (s8C_7 s)
      have hr8 := row_of hS8
      have HS8 := hide hS8
      clear hS8 hE8 hd0 hd1 hd2 hle
      simp only [putN, dstAt]
      go_simp
      go_wp2_with fail
      rw [w_add t0 u0, w_add s.d t0, sets8]
      go_simp
      go_wp2_with fail
      go_roundw
      case rel =>
        refine ⟨k + 1, by omega, by simp, ?_, ?_, ?_, hide (bsetRow HB8.out (by omega) _)⟩
        · exact hide ((heap_setRow_far _ _ _ (by omega)).trans HA8.out)
        · exact hide ((heap_setRow_far _ _ _ (by omega)).trans HD8.out)
        · rw [HST.out]
          have := setRow_heap w8 (w.heap.size + 1 + 1 + 1) _ (s8C ⟨t0 + u0, s.a, s.b, s.c, s.d + t0, s.e, s.f, s.g⟩) _ _ HS8.out
          rw [s8C_splice0 _ _ rfl]
          exact hide this
      case measure => simp [intOf]; omega
    · have HK64 := hide (show k = 64 by omega)
      obtain ⟨s, hs⟩ : ∃ s, s = turns h Wd k := ⟨_, rfl⟩
      have hS := HS.out
      rw [← hs] at hS
      have HFIN : Hid (compress h b = s.add h) := hide (by rw [HCO.out, hs, HK64.out])
      have HSS := hide hS
      obtain ⟨l, hl⟩ : ∃ l, l = s.list := ⟨_, rfl⟩
      obtain ⟨m, hm⟩ : ∃ m, m = h.list := ⟨_, rfl⟩
      have hll : l.length = 8 := by rw [hl]; rfl
      have hml : m.length = 8 := by rw [hm]; rfl
      have HLS : Hid (s8C s = wlC l) := hide (by rw [hl]; rfl)
      have HMH : Hid (s8C h = wlC m) := hide (by rw [hm]; rfl)
      have HLM : Hid (addl l m 8 = (s.add h).list) := hide (by rw [hl, hm]; rfl)
      clear hs HS hS hl hm
      go_wp2_with fail
      go_loopw [69] (fun i wz => ∃ (j : Nat), j ≤ 8 ∧ i = .int .i64 (j : Int) ∧ Hid (wz.heap[w.heap.size]? = some (.cells (s8C h) 156)) ∧ Hid (wz.heap[w.heap.size + 1 + 1]? = some (.cells (s8C s8z) 156)) ∧ Hid (wz.heap[w.heap.size + 1 + 1 + 1]? = some (.cells (wlC (addl l m j)) 156)) ∧ Hid (Below w.heap.size w wz)) (fun i _ => 8 - (intOf i).toNat)
      case atStart => exact ⟨0, Nat.zero_le _, rfl, HA, HD, hide (by rw [addl_start, ← HLS.out]; exact HSS.out), HB⟩
      case round =>
        clear HSS HA HD HB hwr hgs hgd
        obtain ⟨j, hj, rfl, HA, HD, HS, HB⟩ := hrel
        have hwr := HB.out.size
        have hgs := (Array.getElem?_eq_some_iff.1 HS.out).1
        have hgd := (Array.getElem?_eq_some_iff.1 HD.out).1
        by_cases hlt : j < 8
        · obtain ⟨p, hp⟩ : ∃ p, l[j]? = some p := ⟨_, List.getElem?_eq_getElem (by omega)⟩
          obtain ⟨q, hq⟩ : ∃ q, m[j]? = some q := ⟨_, List.getElem?_eq_getElem (by omega)⟩
          have hcp := (cell_of_row wr _ j _ _ _ HS.out).trans (wlC_at _ ((addl_at hll hml hlt).trans hp))
          have hcq : wr.cell? ⟨w.heap.size, j, none⟩ = some (wv q) := by
            rw [cell_of_row wr _ j _ _ _ HA.out, HMH.out]
            exact wlC_at _ hq
          have HST := hide (addl_set hll hml hlt hp hq)
          obtain ⟨y, hy⟩ : ∃ y, y = p + q := ⟨_, rfl⟩
          have HY := hide hy
          clear hp hq hy
          go_wp2_with fail
          refine wp_region_ext mixed 8 (fun i v w' => match i with
            | 0 => v = .int .i64 ((j : Nat) : Int)
            | 1 => v = .pointer (some ⟨w.heap.size + 1 + 1 + 1, j, none⟩)
            | 2 => v = wv (p)
            | 3 => v = .int .i64 ((j : Nat) : Int)
            | 4 => v = .pointer (some ⟨w.heap.size, j, none⟩)
            | 5 => v = wv (q)
            | 6 => v = wv (y)
            | _ => v = .pointer (some ⟨w.heap.size + 1 + 1 + 1, j, none⟩)
            ) (regOk_of (by kernel_rfl)) rfl ?_ ?_ ?_
          · intro i v w1 w2 h1 h2
            split at h2 <;> exact h2
          · refine ⟨fun a w2 hle hd hf hs K hK => ?_, fun a w2 hle hd hf hs K hK => ?_, fun a w2 hle hd hf hs K hK => ?_, fun a w2 hle hd hf hs K hK => ?_, fun a w2 hle hd hf hs K hK => ?_, fun a w2 hle hd hf hs K hK => ?_, fun a w2 hle hd hf hs K hK => ?_, fun a w2 hle hd hf hs K hK => ?_, trivial⟩
            all_goals clear hd
            · -- 72 := Op.move t10
              have e10 := hf 10 rfl; simp [Act.eval] at e10
              go_simp; exact hK _ _ (Ext.refl _) rfl
            · -- 73 := Op.indexAddr 156 t5 t72
              have e5 := hf 5 rfl; have e72 := hs 0 72 (needs_direct (by kernel_rfl)) rfl; simp [Act.eval] at e5 e72
              go_simp; exact hK _ _ (Ext.refl _) rfl
            · -- 74 := Op.load 155 t73
              have e73 := hs 1 73 (needs_direct (by kernel_rfl)) rfl; simp [Act.eval] at e73
              have hq := hle.cell hcp
              go_simp; exact hK _ _ (Ext.refl _) rfl
            · -- 75 := Op.move t10
              have e10 := hf 10 rfl; simp [Act.eval] at e10
              go_simp; exact hK _ _ (Ext.refl _) rfl
            · -- 76 := Op.indexAddr 156 t2 t75
              have e2 := hf 2 rfl; have e75 := hs 3 75 (needs_direct (by kernel_rfl)) rfl; simp [Act.eval] at e2 e75
              go_simp; exact hK _ _ (Ext.refl _) rfl
            · -- 77 := Op.load 155 t76
              have e76 := hs 4 76 (needs_direct (by kernel_rfl)) rfl; simp [Act.eval] at e76
              have hq := hle.cell hcq
              go_simp; exact hK _ _ (Ext.refl _) rfl
            · -- 78 := Op.binOp BinOp.add 155 t74 t77 155
              have e74 := hs 2 74 (needs_direct (by kernel_rfl)) rfl; have e77 := hs 5 77 (needs_direct (by kernel_rfl)) rfl; simp [Act.eval] at e74 e77
              go_simp
              exact hK _ _ (Ext.refl _) (congrArg (Value.int .u32) (by rw [HY.out]; first | exact w_add _ _ | exact w_addW _ _))
            · -- 79 := Op.indexAddr 156 t5 t72
              have e5 := hf 5 rfl; have e72 := hs 0 72 (needs_direct (by kernel_rfl)) rfl; simp [Act.eval] at e5 e72
              go_simp; exact hK _ _ (Ext.refl _) rfl
          intro vs w8 hle hs
          have v6 := hs 6 (by omega) rfl
          have v7 := hs 7 (by omega) rfl
          simp only at v6 v7
          clear hs
          have hS8 := (hle.block _ hgs).trans HS.out
          have HA8 := hide ((hle.block _ (Array.getElem?_eq_some_iff.1 HA.out).1).trans HA.out)
          have HD8 := hide ((hle.block _ hgd).trans HD.out)
          have HB8 := hide (HB.out.trans (hle.mono hwr))
          have hcz := cell_of_row w8 (w.heap.size + 1 + 1 + 1) j _ _ _ hS8
          have hcs : (w8.cell? ⟨w.heap.size + 1 + 1 + 1, j, none⟩).isSome = true := by rw [hcz, wlC_get, List.getElem?_eq_getElem (by rw [addl_len hll hml (by omega)]; exact hlt)]; rfl
          obtain ⟨v0, hv0⟩ := Option.isSome_iff_exists.1 hcs
          have hfz := frozen_of_row w8 (w.heap.size + 1 + 1 + 1) j _ _ hS8
          have HS8 := hide hS8
          clear hcz hcs hcp hcq hle hS8
          simp only [putN, dstAt]
          go_simp
          go_wp2_with fail
          go_roundw
          case rel =>
            refine ⟨j + 1, by omega, by simp, ?_, ?_, ?_, hide (bsetCell HB8.out (by omega) _ _)⟩
            · exact hide ((Below.heap_setCell _ _ _ _ (by simp; omega)).trans HA8.out)
            · exact hide ((Below.heap_setCell _ _ _ _ (by simp)).trans HD8.out)
            · have := heap_setCell_at (i := j) (wv y) HS8.out
              rw [wlC_set, HY.out, HST.out] at this
              rw [HY.out]
              exact hide this
          case measure => simp [intOf]; omega
        · obtain rfl : j = 8 := by omega
          have hS := HS.out
          rw [HLM.out, ← s8C_wl] at hS
          have hag : agg? wr ⟨w.heap.size + 1 + 1 + 1, 0, none⟩ 8 = some (s8C (s.add h)) := (agg_of_row hS 0 8 (by decide)).trans (s8C_part _)
          have hr := row_of HD.out
          clear hS
          have HB9 := hide (bsetRow HB.out (show w.heap.size ≤ w.heap.size + 1 + 1 by omega) (s8C (s.add h)))
          have hag9 : agg? (wr.setRow (w.heap.size + 1 + 1) (s8C (s.add h))) ⟨w.heap.size + 1 + 1, 0, none⟩ 8 = some (s8C (s.add h)) := (agg_setRow_at _ _ _ _ _ (by rw [hr]; rfl) (by decide)).trans (s8C_part _)
          have hsp := s8C_splice0 (s.add h) (s8C s8z) rfl
          go_wp2_with fail
          exact bodyPost_ret (v := .agg (s8C (s.add h))) (by simp [results, Tryd.results101, go_sem, hag9]) rfl ⟨by rw [HFIN.out], HB9.out⟩
end Go.Proofs.YtdkeflhgengblaaDoor
namespace Go.Proofs.YtdkeflhgengblaaDoor
open Go.RowKit
theorem u32_of (n : Nat) : ((n : Int) % 4294967296) = ((UInt32.ofNat n).toNat : Int) := by
  rw [UInt32.toNat_ofNat']; show (n : Int) % 4294967296 = ((n % 2 ^ 32 : Nat) : Int); omega
set_option maxRecDepth 100000 in
set_option maxHeartbeats 400000 in
theorem c_pad (n : Nat) (w : World) (hn : n < 2305843009213693952) : Calls Tryd.prog 102 #[.int .u64 (n : Int)] w fun e w' => ∃ v, e = .returned v ∧ kU8.Own (fun _ => True) w.heap.size w' 5 v (padN n) ∧ Below w.heap.size w w' := by
  have HN := hide hn
  obtain ⟨p, hp⟩ : ∃ p, p = (119 - n % 64) % 64 := ⟨_, rfl⟩
  have hp64 : p < 64 := by omega
  have HP := hide hp
  have HO : Hid (kU8.Own (fun _ => True) w.heap.size (w.alloc (.cells #[.int .u8 128] 5)) 5 (.slice (some ⟨w.heap.size, 0, none⟩) 1 1) [128]) := hide (Kd.Own.lit (css := [[.int .u8 128]]) (.single (kU8_ofNat _ _ (n := 128) (by decide) rfl)) _ rfl 1 rfl (by decide) _ rfl (Nat.le_refl _))
  clear hp hn
  go_enter Tryd.func102, Tryd.ntmps102
  go_wp2_with fail
  go_loopw [3] (fun v wr => ∃ (pre : List UInt8), 1 ≤ pre.length ∧ pre.length ≤ p + 1 ∧ Hid (pre = 128 :: List.replicate (pre.length - 1) 0) ∧ Hid (kU8.Own (fun _ => True) w.heap.size wr 5 v pre) ∧ Hid (Below w.heap.size w wr)) (fun v wr => 100 - (match v with | .slice _ n _ => n | _ => 0))
  case atStart => exact ⟨[128], Nat.le_refl _, Nat.succ_le_succ (Nat.zero_le _), hide rfl, HO, hide (below1 _ _)⟩
  case round =>
    obtain ⟨pre, hl1, hl2, HPRE, HV, HB⟩ := hrel
    obtain ⟨A, c, rfl⟩ := HV.out.form
    have hwr := HB.out.size
    obtain ⟨m, hm⟩ : ∃ m, m = pre.length := ⟨_, rfl⟩
    rw [← hm] at hl1 hl2 HPRE HV ⊢
    have HM := hide hm
    clear hm
    have hwrap : ∀ x : Int, 0 ≤ x → x < 18446744073709551616 → IntKind.u64.wrap x = x := fun x h0 h1 => by rw [IntKind.wrap_u64]; omega
    have hc1 : IntKind.u64.wrap (IntKind.u64.wrap ((n : Int) + (m : Int)) + 8) = ((n + m + 8 : Nat) : Int) := by
      have := HN.out
      rw [hwrap ((n : Int) + (m : Int)) (by omega) (by omega), hwrap _ (by omega) (by omega)]; omega
    have hc2 : ((n + m + 8 : Nat) : Int).tmod 64 = (((n + m + 8) % 64 : Nat) : Int) := by rw [Int.tmod_eq_emod_of_nonneg (by omega)]; omega
    have hc3 : (IntKind.u64.wrap (IntKind.u64.wrap ((n : Int) + (m : Int)) + 8)).tmod 64 = (((n + m + 8) % 64 : Nat) : Int) := by rw [hc1, hc2]
    clear hc1 hc2 hwrap
    by_cases hlt : m < p + 1
    · have hq : ((IntKind.u64.wrap (IntKind.u64.wrap ((n : Int) + (m : Int)) + 8)).tmod 64 != 0) = true := by
        rw [hc3]
        have : ¬ (((n + m + 8) % 64 : Nat) : Int) = 0 := by have := HP.out; omega
        simpa using this
      clear hc3
      go_wp2_with (at_builtin; go_loud (refine wpList_app (d := kU8) (ys := [0]) rfl _ _ _ rfl Tryd.underlying22 u8_info rfl (by decide) 1 rfl rfl (.inl (HV.out.below (below1 _ _))) (Kd.Src.new ?_ _ rfl _ rfl) ?_ ?_ ?_ ?_))
      · exact ⟨rfl, trivial⟩
      · simp; omega
      · have := HM.out; simp only [maxLen]; omega
      · have := HM.out; omega
      · intro v1 w1 _ h2 h3 _ _
        obtain ⟨A1, c1, rfl⟩ := h2.form
        have hl1' : (pre ++ [(0 : UInt8)]).length = m + 1 := by rw [List.length_append, ← HM.out]; rfl
        have H2 := hide h2
        have H3 := hide (HB.out.trans (((below1 wr _).mono hwr).trans h3))
        clear h2 h3 hq
        rw [hl1'] at H2 ⊢
        have HL1 := hide hl1'
        clear hl1'
        go_wp2
        go_roundw
        case rel =>
          refine ⟨pre ++ [0], by rw [HL1.out]; omega, by rw [HL1.out]; omega, ?_, H2, H3⟩
          rw [HL1.out]
          refine hide ?_
          have := HPRE.out
          rw [this, List.cons_append, show m + 1 - 1 = (m - 1) + 1 by omega, List.replicate_succ']
        case measure => simp; omega
    · have hq : ((IntKind.u64.wrap (IntKind.u64.wrap ((n : Int) + (m : Int)) + 8)).tmod 64 != 0) = false := by
        rw [hc3]
        have : (((n + m + 8) % 64 : Nat) : Int) = 0 := by have := HP.out; omega
        simpa using this
      clear hc3
      have hmp : m = p + 1 := by omega
      have HPRE2 : Hid (128 :: List.replicate ((119 - n % 64) % 64) 0 = pre) := hide (by rw [HPRE.out, hmp, ← HP.out]; rfl)
      have hrow := HV.out.row
      obtain ⟨A', c', e, hr⟩ := hrow
      obtain ⟨rfl, hcc⟩ : A = A' ∧ c = c' := by
        simp only [Value.slice.injEq] at e
        exact ⟨e.1, e.2.2⟩
      subst hcc
      have HR := hide hr
      clear hr e hmp
      go_wp2_with fail
      rw [show ((n : Int) / 536870912 % 4294967296) = ((UInt32.ofNat (n / 536870912)).toNat : Int) by rw [← u32_of]; omega]
      have hlm : pre.length = m := HM.out.symm
      rw [hlm] at HR
      refine (c_put A m c pre _ _ wr HR.out (by omega)).mono ?_
      rintro e w1 ⟨v1, rfl, h1, b1⟩
      have hlp : (pre ++ put4 (UInt32.ofNat (n / 536870912))).length = m + 4 := by rw [List.length_append, hlm]; rfl
      have hrow := h1.row
      rw [hlp] at hrow
      obtain ⟨A1, c1, rfl, hr1⟩ := hrow
      have HR1 := hide hr1
      have HB1 := hide (HB.out.trans (b1.mono hwr))
      have hw1 := HB1.out.size
      clear hr1 h1 hlp
      go_wp2_with fail
      rw [show (IntKind.u64.wrap ((n : Int) * 8) % 4294967296) = ((UInt32.ofNat (n * 8)).toNat : Int) by rw [← u32_of, IntKind.wrap_u64]; omega]
      refine (c_put A1 (m + 4) c1 _ _ _ w1 HR1.out (by omega)).mono ?_
      rintro e w2 ⟨v2, rfl, h2, b2⟩
      have H2 := hide (h2.lower (Nat.le_trans hwr b1.size))
      have HB2 := hide (HB1.out.trans (b2.mono hw1))
      clear h2 b2
      go_wp2_with fail
      go_ret
      refine ⟨_, rfl, ?_, HB2.out⟩
      rw [padN, HPRE2.out]
      exact H2.out
end Go.Proofs.YtdkeflhgengblaaDoor
namespace Go.Proofs.YtdkeflhgengblaaDoor
open Go.RowKit
theorem fill_cons {place : Nat → Option (Nat × Nat)} {cells v : Array Value} {i o n : Nat} {rest : List (Nat × Value)} (hp : place i = some (o, n)) (hv : v.size = n) (hc : o + n ≤ cells.size) :
    Instr.fill place cells ((i, .agg v) :: rest) = Instr.fill place (splice cells o v) rest := by
  obtain ⟨h1, h2⟩ := Great.foldl_set o v.toList 0 cells
  conv => lhs; unfold Instr.fill
  simp only [hp]
  split
  · rename_i h
    exfalso
    simp [Value.cells, hv] at h
    omega
  show Instr.fill place (Array.foldl (fun cs x => cs.setIfInBounds (o + x.2) x.1) cells v.zipIdx) rest = _
  congr 1
  apply Array.ext_getElem?
  intro k
  have h3 := h2 k
  rw [← Array.foldl_toList]
  simp only [Array.toList_zipIdx]
  rw [h3]
  simp only [splice, Array.length_toList, hv, Nat.add_zero]
  have hlen : (List.take o cells.toList).length = o := by rw [List.length_take, Array.length_toList]; omega
  have e : (List.take o cells.toList ++ v.toList ++ List.drop (o + n) cells.toList).toArray[k]? = (List.take o cells.toList ++ (v.toList ++ List.drop (o + n) cells.toList))[k]? := by
    rw [List.append_assoc]
    simp only [List.getElem?_toArray]
  rw [e, List.getElem?_append, hlen]
  rcases Nat.lt_or_ge k o with h | h
  · rw [if_neg (by omega), if_pos h, List.getElem?_take, if_pos h, Array.getElem?_toList]
  · rw [if_neg (Nat.not_lt.2 h), List.getElem?_append, Array.length_toList, hv]
    rcases Nat.lt_or_ge k (o + n) with h' | h'
    · rw [if_pos (by omega), if_pos (by omega)]
    · rw [if_neg (by omega), if_neg (by omega), List.getElem?_drop, Array.getElem?_toList, show o + n + (k - o - n) = k by omega]
theorem fill_one {place : Nat → Option (Nat × Nat)} {cells : Array Value} {v : Value} {i o : Nat} {rest : List (Nat × Value)} (hp : place i = some (o, 1)) (hv : v.cells = #[v]) (hc : o < cells.size) :
    Instr.fill place cells ((i, v) :: rest) = Instr.fill place (cells.setIfInBounds o v) rest := by
  conv => lhs; unfold Instr.fill
  simp only [hp]
  split
  · rename_i h
    exfalso
    simp [hv] at h
    omega
  · rw [hv]
    rfl
end Go.Proofs.YtdkeflhgengblaaDoor
namespace Go.Proofs.YtdkeflhgengblaaDoor
open Go.RowKit
/-- 64 bytes. -/
structure B64 where
  l : List UInt8
  len : l.length = 64
def B64.zero : B64 := ⟨List.replicate 64 0, by simp⟩
/-- A digest's cells. -/
def dgC (h : S8) (r : B64) (n : Value) : Array Value := (h.list.map wv ++ r.l.map bv ++ [n]).toArray
section
variable (h h' : S8) (r r' : B64) (n m : Value)
theorem dgL_len : (h.list.map wv ++ r.l.map bv).length = 72 := by simp [S8.list, r.len]
theorem dgC_size : (dgC h r n).size = 73 := by
  rw [dgC, List.size_toArray, List.length_append, dgL_len]; rfl
theorem dgC_72 : (dgC h r n)[72]? = some n := by
  rw [dgC, List.getElem?_toArray, List.getElem?_append_right (by rw [dgL_len]; exact Nat.le_refl _), dgL_len]; rfl
theorem dgC_part : part? (dgC h r n) 0 73 = some (dgC h r n) := part_self _ _ (dgC_size h r n)
theorem dgC_h : part? (dgC h r n) 0 8 = some (s8C h) := by
  unfold part?
  rw [dgC_size, if_pos (by decide)]
  congr 1
  apply Array.ext_getElem?
  intro i
  rw [Array.getElem?_extract, dgC_size]
  show (if i < 8 then (dgC h r n)[0 + i]? else none) = _
  rw [s8C_wl, wlC_get, Nat.zero_add]
  split
  · rw [dgC, List.getElem?_toArray, List.append_assoc, List.getElem?_append_left (by simp [S8.list]; omega), List.getElem?_map]
  · rw [List.getElem?_eq_none (by simp [S8.list]; omega)]; rfl
theorem dgC_r : part? (dgC h r n) 8 64 = some (blC r.l) := by
  unfold part?
  rw [dgC_size, if_pos (by decide)]
  congr 1
  apply Array.ext_getElem?
  intro i
  rw [Array.getElem?_extract, dgC_size]
  show (if i < 64 then (dgC h r n)[8 + i]? else none) = _
  rw [blC_get]
  have hr := r.len
  split
  · rw [dgC, List.getElem?_toArray, List.append_assoc, List.getElem?_append_right (by simp [S8.list]), List.getElem?_append_left (by simp [S8.list]; omega), List.getElem?_map]
    congr 2
    simp [S8.list]
  · rw [List.getElem?_eq_none (by omega)]; rfl
theorem dgC_splice_h : splice (dgC h r n) 0 (s8C h') = dgC h' r n := by
  have e : (h.list.map wv).length = 8 := rfl
  rw [splice, s8C_wl, wlC_size]
  show (List.take 0 (dgC h r n).toList ++ (wlC h'.list).toList ++ List.drop 8 (dgC h r n).toList).toArray = _
  simp only [dgC, wlC, List.take_zero, List.nil_append, List.append_assoc]
  rw [← e, List.drop_left]
theorem dgC_set : (dgC h r n).setIfInBounds 72 m = dgC h r m := by
  apply Array.ext_getElem?
  intro i
  rw [Array.getElem?_setIfInBounds, dgC_size]
  by_cases hi : 72 = i
  · subst hi
    rw [if_pos rfl, if_pos (by decide), dgC_72]
  · rw [if_neg hi, dgC, dgC, List.getElem?_toArray, List.getElem?_toArray]
    rcases Nat.lt_or_ge i 72 with h1 | h1
    · rw [List.getElem?_append_left (l₁ := h.list.map wv ++ r.l.map bv) (by rw [dgL_len]; exact h1), List.getElem?_append_left (l₁ := h.list.map wv ++ r.l.map bv) (by rw [dgL_len]; exact h1)]
    · rw [List.getElem?_eq_none (by rw [List.length_append, dgL_len]; simp; omega), List.getElem?_eq_none (by rw [List.length_append, dgL_len]; simp; omega)]
theorem splice_mid {L R N C : List Value} {o : Nat} (hL : L.length = 8) (hR : o + C.length ≤ R.length) : (L ++ R ++ N).take (8 + o) ++ C ++ (L ++ R ++ N).drop (8 + o + C.length) = L ++ (R.take o ++ C ++ R.drop (o + C.length)) ++ N := by
  have h1 : (L ++ (R ++ N)).take (8 + o) = L ++ R.take o := by
    rw [List.take_append, List.take_of_length_le (by omega), hL, show 8 + o - 8 = o by omega, List.take_append_of_le_length (by omega)]
  have h2 : (L ++ (R ++ N)).drop (8 + o + C.length) = R.drop (o + C.length) ++ N := by
    rw [List.drop_append, List.drop_eq_nil_of_le (by omega), hL, show 8 + o + C.length - 8 = o + C.length by omega, List.drop_append_of_le_length (by omega), List.nil_append]
  rw [List.append_assoc L R N, h1, h2]
  simp only [List.append_assoc]
theorem dgC_splice_r (o : Nat) (c : List UInt8) (hr : r'.l = r.l.take o ++ c ++ r.l.drop (o + c.length)) (ho : o + c.length ≤ 64) : splice (dgC h r n) (8 + o) (blC c) = dgC h r' n := by
  have hl := r.len
  have e := splice_mid (L := h.list.map wv) (R := r.l.map bv) (N := [n]) (C := c.map bv) (o := o) rfl (by simp only [List.length_map]; omega)
  rw [List.length_map] at e
  rw [splice, blC_size]
  show (List.take (8 + o) (h.list.map wv ++ r.l.map bv ++ [n]) ++ (c.map bv) ++ List.drop (8 + o + c.length) (h.list.map wv ++ r.l.map bv ++ [n])).toArray = _
  rw [e, dgC, hr]
  simp only [List.map_append, List.map_take, List.map_drop]
theorem dgC_one (k : IntKind) (z : Int) : oneAll (dgC h r (.int k z)) = true := by
  rw [oneAll, Array.all_eq_true_iff_forall_mem]
  intro x hx
  simp only [dgC, List.mem_toArray, List.mem_append, List.mem_map, List.mem_singleton] at hx
  rcases hx with (⟨b, _, rfl⟩ | ⟨b, _, rfl⟩) | rfl <;> rfl
theorem dgC_splice0 (C : Array Value) (hC : C.size = 73) : splice C 0 (dgC h r n) = dgC h r n := splice0 _ _ (by rw [hC, dgC_size])
theorem dgC_ne : (dgC h r n = #[]) = False := eq_false fun e => by
  have := congrArg Array.size e
  rw [dgC_size] at this
  cases this
theorem zero_dg : (#[.int .u32 0, .int .u32 0, .int .u32 0, .int .u32 0, .int .u32 0, .int .u32 0, .int .u32 0, .int .u32 0, .int .u8 0, .int .u8 0, .int .u8 0, .int .u8 0, .int .u8 0, .int .u8 0, .int .u8 0, .int .u8 0, .int .u8 0, .int .u8 0, .int .u8 0, .int .u8 0, .int .u8 0, .int .u8 0, .int .u8 0, .int .u8 0, .int .u8 0, .int .u8 0, .int .u8 0, .int .u8 0, .int .u8 0, .int .u8 0, .int .u8 0, .int .u8 0, .int .u8 0, .int .u8 0, .int .u8 0, .int .u8 0, .int .u8 0, .int .u8 0, .int .u8 0, .int .u8 0, .int .u8 0, .int .u8 0, .int .u8 0, .int .u8 0, .int .u8 0, .int .u8 0, .int .u8 0, .int .u8 0, .int .u8 0, .int .u8 0, .int .u8 0, .int .u8 0, .int .u8 0, .int .u8 0, .int .u8 0, .int .u8 0, .int .u8 0, .int .u8 0, .int .u8 0, .int .u8 0, .int .u8 0, .int .u8 0, .int .u8 0, .int .u8 0, .int .u8 0, .int .u8 0, .int .u8 0, .int .u8 0, .int .u8 0, .int .u8 0, .int .u8 0, .int .u8 0, .int .u64 0] : Array Value) = dgC s8z B64.zero (.int .u64 0) := rfl
theorem ld73 (a : Addr) : loadCellsFrom a 0 73 #[] = ldAgg a 73 := rfl
end
theorem built_dig (s : S8) : Tryd.prog.built 158 [(0, .agg (s8C s))] = some (dgC s B64.zero (.int .u64 0)) := by
  have hz : (Tryd.prog.info? 158).map (fun i => (i.zero, i.size)) = some (some (.agg #[.int .u32 0, .int .u32 0, .int .u32 0, .int .u32 0, .int .u32 0, .int .u32 0, .int .u32 0, .int .u32 0, .int .u8 0, .int .u8 0, .int .u8 0, .int .u8 0, .int .u8 0, .int .u8 0, .int .u8 0, .int .u8 0, .int .u8 0, .int .u8 0, .int .u8 0, .int .u8 0, .int .u8 0, .int .u8 0, .int .u8 0, .int .u8 0, .int .u8 0, .int .u8 0, .int .u8 0, .int .u8 0, .int .u8 0, .int .u8 0, .int .u8 0, .int .u8 0, .int .u8 0, .int .u8 0, .int .u8 0, .int .u8 0, .int .u8 0, .int .u8 0, .int .u8 0, .int .u8 0, .int .u8 0, .int .u8 0, .int .u8 0, .int .u8 0, .int .u8 0, .int .u8 0, .int .u8 0, .int .u8 0, .int .u8 0, .int .u8 0, .int .u8 0, .int .u8 0, .int .u8 0, .int .u8 0, .int .u8 0, .int .u8 0, .int .u8 0, .int .u8 0, .int .u8 0, .int .u8 0, .int .u8 0, .int .u8 0, .int .u8 0, .int .u8 0, .int .u8 0, .int .u8 0, .int .u8 0, .int .u8 0, .int .u8 0, .int .u8 0, .int .u8 0, .int .u8 0, .int .u64 0]), 73) := by kernel_rfl
  obtain ⟨i0, hi, hzz⟩ := Option.map_eq_some_iff.1 hz
  simp only [Prod.mk.injEq] at hzz
  obtain ⟨hz0, hz1⟩ := hzz
  rw [zero_dg] at hz0
  have hp : #[(⟨"h", 156, 0, false, "", "chitty/digest", 0⟩ : Field), (⟨"rest", 153, 8, false, "", "chitty/digest", 32⟩ : Field), (⟨"many", 41, 72, false, "", "chitty/digest", 96⟩ : Field)].toList.mapM (fun f => (Tryd.prog.info? f.type).map fun i => (f.offset, i.size)) = some [(0, 8), (8, 64), (72, 1)] := by kernel_rfl
  unfold Program.built
  rw [hi, Tryd.underlying158]
  simp only [hz0]
  rw [hp]
  simp only [Value.cells]
  rw [fill_cons (o := 0) (n := 8) rfl rfl (by rw [dgC_size]; decide), dgC_splice_h]
  rfl
theorem wp_buildDig {o : Oper} {a0 : Act} {w : World} {K : Act → World → Prop} {Q : Exit → Act → World → Prop} (x : Operand) (ho : o.op = .build 158 #[(0, x)]) (s : S8) (hx : a0.eval x = .agg (s8C s))
    (h : K (a0.put o.dst (.agg (dgC s B64.zero (.int .u64 0)))) w) : o.wp Tryd.prog a0 w K Q := by
  have e : (Array.map (fun x => (x.fst, a0.eval x.snd)) #[(0, x)]).toList = [(0, .agg (s8C s))] := by simp [hx]
  have hb := (congrArg (Tryd.prog.built 158) e).trans (built_dig s)
  refine wp_build 158 #[(0, x)] ho (by rw [hb]; rfl) ?_
  rw [hb]
  exact h
set_option maxRecDepth 100000 in
theorem at_buildDig {ops : Array Oper} {rest : List Oper} {a0 : Act} {w : World} {Q : Exit → Act → World → Prop} {dst : Option Tmp} {ty : TypeId} {pos : String} {after : Array Edge} {x : Operand} (s : S8) (hx : a0.eval x = .agg (s8C s))
    (h : wpList Tryd.prog ops Q rest (a0.put dst (.agg (dgC s B64.zero (.int .u64 0)))) w) : wpList Tryd.prog ops Q (⟨dst, .build 158 #[(0, x)], ty, pos, after, none⟩ :: rest) a0 w :=
  wpList_plain rfl fun _ hK => wp_buildDig x rfl s hx (hK _ _ h)
/-- A digest to which bytes were written. -/
def DigAt (w : World) (g : Nat) (xs : List UInt8) : Prop :=
  ∃ (h : S8) (tail : List UInt8) (r : B64), w.heap[g]? = some (.cells (dgC h r (.int .u64 (xs.length : Int))) 158) ∧ Split xs h tail ∧ r.l.take tail.length = tail
theorem DigAt.of_heap {w w' : World} {g : Nat} {xs : List UInt8} (h : DigAt w g xs) (hb : w'.heap[g]? = w.heap[g]?) : DigAt w' g xs := let ⟨a, b, c, h1, h2⟩ := h; ⟨a, b, c, hb.trans h1, h2⟩
theorem DigAt.lt {w : World} {g : Nat} {xs : List UInt8} (h : DigAt w g xs) : g < w.heap.size := let ⟨_, _, _, h1, _⟩ := h; (Array.getElem?_eq_some_iff.1 h1).1
theorem DigAt.ext {w w' : World} {g : Nat} {xs : List UInt8} (h : DigAt w g xs) (hb : Below w.heap.size w w') : DigAt w' g xs := h.of_heap (hb.block g h.lt)
attribute [local go_sem ↓] ld8 ld64 ld73
attribute [local go_sem] run_ldAgg run_storeAgg agg_alloc_at agg_alloc_past agg_drew agg_setCell row_alloc_at row_alloc_past row_drew setRow_alloc_at setRow_alloc_past setRow_drew agg_setRow_at agg_setRow_far cell_setRow_at cell_setRow_far row_setRow_far size_setRow s8C_size s8C_part s8C_one s8C_splice0 s8C_ne dgC_size dgC_72 dgC_part dgC_h dgC_r dgC_splice_h dgC_set dgC_one dgC_splice0 dgC_ne zero_dg
set_option maxRecDepth 100000 in
set_option maxHeartbeats 400000 in
theorem c_dnew (w : World) : Calls Tryd.prog 100 #[] w fun e w' => ∃ g, e = .returned (.pointer (some ⟨g, 0, none⟩)) ∧ w.heap.size ≤ g ∧ DigAt w' g [] ∧ Below w.heap.size w w' := by
  go_enter Tryd.func100, Tryd.ntmps100
  go_wp2_with fail
  refine (c_wstart w).mono ?_
  rintro e w1 ⟨rfl, b1⟩
  have HB1 := hide b1
  clear b1
  go_wp2_with ((with_reducible show wpList _ _ _ (Oper.mk (some 2) _ _ _ _ _ :: _) _ _); go_loud (refine at_buildDig S8.start rfl ?_))
  go_ret
  exact ⟨_, rfl, HB1.out.size, ⟨S8.start, [], B64.zero, heap_alloc_new _ _, Split.start, rfl⟩, bnext HB1.out (below1 _ _)⟩
set_option maxRecDepth 100000 in
set_option maxHeartbeats 400000 in
theorem c_dclone (g : Nat) (xs : List UInt8) (w : World) (hD : DigAt w g xs) : Calls Tryd.prog 71 #[.pointer (some ⟨g, 0, none⟩)] w fun e w' => ∃ g', e = .returned (.pointer (some ⟨g', 0, none⟩)) ∧ w.heap.size ≤ g' ∧ DigAt w' g' xs ∧ Below w.heap.size w w' := by
  obtain ⟨h, tail, r, hg, hsp, htl⟩ := hD
  have hag : agg? w ⟨g, 0, none⟩ 73 = some (dgC h r (.int .u64 (xs.length : Int))) := (agg_of_row hg 0 73 (by decide)).trans (dgC_part _ _ _)
  have hgs := (Array.getElem?_eq_some_iff.1 hg).1
  have HSP := hide hsp
  have HTL := hide htl
  clear hsp htl hg
  go_enter Tryd.func71, Tryd.ntmps71
  go_wp2_with fail
  go_ret
  exact ⟨_, rfl, Nat.le_refl _, ⟨h, tail, r, heap_alloc_new _ _, HSP.out, HTL.out⟩, below1 _ _⟩
end Go.Proofs.YtdkeflhgengblaaDoor
namespace Go.Proofs.YtdkeflhgengblaaDoor
open Go.RowKit
attribute [local go_sem ↓] ld8 ld64 ld73
attribute [local go_sem] run_ldAgg run_storeAgg agg_alloc_at agg_alloc_past agg_drew agg_setCell row_alloc_at row_alloc_past row_drew setRow_alloc_at setRow_alloc_past setRow_drew agg_setRow_at agg_setRow_far cell_setRow_at cell_setRow_far row_setRow_far size_setRow s8C_size s8C_part s8C_one s8C_splice0 s8C_ne dgC_size dgC_72 dgC_part dgC_h dgC_r dgC_splice_h dgC_set dgC_one dgC_splice0 dgC_ne zero_dg
theorem PrimesAt.grown {w w' : World} {g : Nat} (h : PrimesAt w) (hb : w.grownBy w' (some g)) (hg : g ≠ 0) : PrimesAt w' :=
  ⟨Nat.lt_of_lt_of_le h.1 hb.size, fun i p hi => (World.cell?_of_block (a := ⟨0, i, none⟩) (hb.block 0 h.1 (fun e => hg (Option.some.inj e).symm))).trans (h.2 i p hi)⟩
theorem grown_setCell {w w' : World} {g : Nat} (h : w.grownBy w' (some g)) (i : Nat) (v : Value) : w.grownBy (w'.setCell ⟨g, i, none⟩ v) (some g) :=
  ⟨h.os, h.tape, h.output, by simp only [size_setCell]; exact h.size, fun k hk hne => (Below.heap_setCell _ _ _ _ (show ¬ k = g from fun e => hne (e ▸ rfl))).trans (h.block k hk hne)⟩
theorem grown_setRow {w w' : World} {g : Nat} (h : w.grownBy w' (some g)) (C : Array Value) : w.grownBy (w'.setRow g C) (some g) :=
  ⟨h.os, h.tape, h.output, by simp only [size_setRow]; exact h.size, fun k hk hne => (heap_setRow_far _ _ _ (show ¬ k = g from fun e => hne (e ▸ rfl))).trans (h.block k hk hne)⟩
theorem grown_ext {w w' w'' : World} {g : Option Nat} (h : w.grownBy w' g) (b : Below w'.heap.size w' w'') : w.grownBy w'' g :=
  ⟨b.os.trans h.os, b.tape.trans h.tape, b.output.trans h.output, Nat.le_trans h.size b.size, fun k hk hne => (b.block k (Nat.lt_of_lt_of_le hk h.size)).trans (h.block k hk hne)⟩
theorem row_grown {α : Type} {d : Kd α} {ok : Nat → Prop} {w w' : World} {A : Option Addr} {n c : Nat} {xs : List α} {g : Nat} (h : d.Row ok w A n c xs) (hb : w.grownBy w' (some g)) (hok : ∀ k, ok k → k ≠ g) : d.Row ok w' A n c xs :=
  h.keep fun k hk hlt => hb.block k hlt (fun e => hok k hk (Option.some.inj e))
theorem at_copy8g {P : Program} {ops : Array Oper} {rest : List Oper} {a : Act} {w : World} {Q : Exit → Act → World → Prop} {dst : Option Tmp} {ty : TypeId} {pos : String} {after : Array Edge} {d s : Operand} {dT sT : TypeId} (elem : TypeId) (hu : P.underlying dT = some (.slice elem)) (hsz : (P.info? elem).map (·.size) = some 1)
    (g off dLen dCap : Nat) {A : Option Addr} {n c : Nat} {xs : List UInt8} {ok : Nat → Prop} (hR : kU8.Row ok w A n c xs) (hd : a.eval d = .slice (some ⟨g, off, none⟩) dLen dCap) (hs : a.eval s = .slice A n c)
    (C : Array Value) (t : TypeId) (hg : w.heap[g]? = some (.cells C t (0, 0))) (k : Nat) (hk : min n dLen = k) (hfit : off + k ≤ C.size) (C' : Array Value) (hC : splice C off (blC (xs.take k)) = C')
    (h : ∀ w', Hid (w'.heap[g]? = some (.cells C' t (0, 0))) → w.grownBy w' (some g) → wpList P ops Q rest (a.put dst (.int .i64 (k : Int))) w') : wpList P ops Q (⟨dst, .call { callee := .builtin .copy, args := #[d, s], argTypes := #[dT, sT] }, ty, pos, after, none⟩ :: rest) a w :=
  at_copy8 elem hu hsz g off dLen dCap hR hd hs C t hg k hk hfit C' hC (h _ (hide (setRow_heap w g C C' t _ hg)) (grown_setRow (grownBy_refl _ _) _))
/-- A step: of what is written so much fits. -/
theorem dig_step {xs todo tail : List UInt8} {h : S8} {r : B64} (hs : Split xs h tail) (ht : r.l.take tail.length = tail) (m : Nat) (hm : m = min todo.length (64 - tail.length)) :
    ∃ r2 : B64, r2.l = r.l.take tail.length ++ todo.take m ++ r.l.drop (tail.length + (todo.take m).length) ∧ tail.length + (todo.take m).length ≤ 64 ∧
      ((tail.length + m ≠ 64 → Split (xs ++ todo.take m) h (tail ++ todo.take m) ∧ r2.l.take (tail ++ todo.take m).length = tail ++ todo.take m) ∧ (tail.length + m = 64 → Split (xs ++ todo.take m) (compress h r2.l) [])) := by
  have hl := r.len
  have h64 : tail.length < 64 := let ⟨_, _, _, _, _, h⟩ := hs; h
  have htm : (todo.take m).length = m := by rw [List.length_take]; omega
  refine ⟨⟨r.l.take tail.length ++ todo.take m ++ r.l.drop (tail.length + (todo.take m).length), ?_⟩, rfl, by omega, fun h1 => ⟨hs.more (by omega), ?_⟩, fun h1 => ?_⟩
  · simp only [List.length_append, List.length_take, List.length_drop]; omega
  · show List.take _ (r.l.take tail.length ++ todo.take m ++ _) = _
    rw [ht, List.take_left]
  · have e : r.l.take tail.length ++ todo.take m ++ r.l.drop (tail.length + (todo.take m).length) = tail ++ todo.take m := by
      rw [ht, List.drop_eq_nil_of_le (by omega), List.append_nil]
    show Split _ (compress h (r.l.take tail.length ++ todo.take m ++ r.l.drop (tail.length + (todo.take m).length))) []
    rw [e]
    exact hs.full (by omega)
theorem arr_from2 {P : Program} {t E : TypeId} {N : Nat} (ht : P.underlying t = some (.array N E)) (hE : (P.info? E).map (·.size) = some 1) (b o k : Nat) (hk : k < N) (kd : IntKind) (i : Int) (hi : i = k) :
    ∀ W : World, (Instr.sliceAt t (.pointer (some ⟨b, o, none⟩)) (some (.int kd i)) none none).run P W = .ok (.slice (some ⟨b, o + k, none⟩) (N - k) (N - k)) W := arr_from ht hE b o k hk kd i hi
set_option maxRecDepth 100000 in
set_option maxHeartbeats 1600000 in
theorem c_dwrite (g : Nat) (xs ys : List UInt8) (A : Option Addr) (n c : Nat) (ok : Nat → Prop) (w : World) (hD : DigAt w g xs) (hR : kU8.Row ok w A n c ys) (hok : ∀ k, ok k → k ≠ g) (hP : PrimesAt w) (hg0 : g ≠ 0) (hn : xs.length + n < 2305843009213693952) :
    Calls Tryd.prog 69 #[.pointer (some ⟨g, 0, none⟩), .slice A n c] w fun e w' => e = .returned (.tuple #[]) ∧ DigAt w' g (xs ++ ys) ∧ w.grownBy w' (some g) := by
  have HD := hide hD
  have HR := hide hR
  have HP := hide hP
  have HN := hide hn
  have HOK := hide hok
  clear hD hR hP hn hok
  go_enter Tryd.func69, Tryd.ntmps69
  go_wp2_with fail
  go_loopw [1] (fun v wr => ∃ (dn todo : List UInt8) (A1 : Option Addr) (n1 c1 : Nat), v = .slice A1 n1 c1 ∧ Hid (ys = dn ++ todo) ∧ Hid (kU8.Row ok wr A1 n1 c1 todo) ∧ Hid (DigAt wr g (xs ++ dn)) ∧ Hid (w.grownBy wr (some g))) (fun v _ => (match v with | .slice _ n _ => n | _ => 0))
  case atStart => exact ⟨[], ys, A, n, c, rfl, hide rfl, HR, hide (by rw [List.append_nil]; exact HD.out), hide (grownBy_refl _ _)⟩
  case round =>
    obtain ⟨dn, todo, A1, n1, c1, rfl, HYS, HR1, HD1, HG1⟩ := hrel
    by_cases hpos : 0 < n1
    · obtain ⟨h, tail, r, hg, hsp, htl⟩ := HD1.out
      obtain ⟨q, hq⟩ : ∃ q, q = (xs ++ dn).length := ⟨_, rfl⟩
      have hq61 : q < 2305843009213693952 := by
        have h1 := HN.out; have h2 := HR.out.1; have h3 := congrArg List.length HYS.out
        rw [hq, List.length_append]
        rw [List.length_append] at h3
        omega
      rw [← hq] at hg
      obtain ⟨t, ht⟩ : ∃ t, t = tail.length := ⟨_, rfl⟩
      have htq : t = q % 64 := by rw [ht, hsp.len, hq]
      have ht64 : t < 64 := by omega
      have hn1 : todo.length = n1 := HR1.out.1
      obtain ⟨m, hm⟩ : ∃ m, m = min todo.length (64 - tail.length) := ⟨_, rfl⟩
      obtain ⟨r2, hr2, hfit, hA, hB⟩ := dig_step (todo := todo) hsp htl m hm
      have hmm : min n1 (64 - t) = m := by omega
      have hc72 := (cell_of_row wr g 72 _ _ _ hg).trans (dgC_72 _ _ _)
      have hfz := frozen_of_row wr g 72 _ _ hg
      have hgs := (Array.getElem?_eq_some_iff.1 hg).1
      have hmod : (q : Int).tmod 64 = (t : Int) := by rw [Int.tmod_eq_emod_of_nonneg (by omega)]; omega
      have hsl := arr_from (P := Tryd.prog) Tryd.underlying153 u8_info1 g 8 t ht64 .i64 (t : Int) rfl
      have HGG := hide hg
      have HQ := hide hq61
      have HSP := hide hsp
      have HTL := hide htl
      have HFIT := hide hfit
      have HR2 := hide hr2
      have HA := hide hA
      have HB := hide hB
      have HT := hide ht
      have HM := hide hm
      have HQX := hide hq
      have HN1 := hide hn1
      have HMM := hide hmm
      clear hmm hn1 hq hg hq61 hsp htl hfit hr2 hA hB hm htq ht
      have HSPL : Hid (splice (dgC h r (.int .u64 (q : Int))) (8 + t) (blC (todo.take m)) = dgC h r2 (.int .u64 (q : Int))) := hide (by
        have := HT.out
        rw [this]
        exact dgC_splice_r h r r2 _ _ _ HR2.out HFIT.out)
      have HF : Hid (8 + t + m ≤ (dgC h r (.int .u64 (q : Int))).size) := hide (by rw [dgC_size]; have := HFIT.out; have := HM.out; have := HT.out; have := HN1.out; omega)
      obtain ⟨B, hs1, hB⟩ := HR1.out.from (P := Tryd.prog) Tryd.underlying22 (E := 5) (by kernel_rfl) (k := m) (by have := HM.out; have := HN1.out; omega) .i64 (m : Int) rfl
      have HB2 := hide hB
      have hm64 : m ≤ 64 := by have := HM.out; omega
      have hw1 : IntKind.u64.wrap (m : Int) = (m : Int) := by rw [IntKind.wrap_u64]; omega
      have hw2 : IntKind.u64.wrap ((q : Int) + (m : Int)) = ((q + m : Nat) : Int) := by rw [IntKind.wrap_u64]; have := HQ.out; omega
      have HM1 : Hid (1 ≤ m ∧ m ≤ n1) := hide (by have := HM.out; have := HN1.out; have := HT.out; omega)
      have HLEN : Hid ((xs ++ (dn ++ todo.take m)).length = q + m) := hide (by
        have := HM1.out; have := HN1.out; have := HQX.out
        rw [← List.append_assoc, List.length_append, ← this, List.length_take]; omega)
      have HYS2 : Hid (ys = (dn ++ todo.take m) ++ todo.drop m) := hide (by rw [List.append_assoc, List.take_append_drop]; exact HYS.out)
      clear hB
      by_cases h64 : t + m = 64
      · have hd : ((t : Int) + (m : Int) == 64) = true := by
          have : (t : Int) + (m : Int) = 64 := by omega
          rw [this]; rfl
        go_wp2_with ((with_reducible show wpList _ _ _ (Oper.mk (some 21) _ _ _ _ _ :: _) _ _); go_loud (refine at_copy8g (P := Tryd.prog) 5 Tryd.underlying22 (by kernel_rfl) g (8 + t) (64 - t) (64 - t) HR1.out rfl rfl _ _ HGG.out m HMM.out HF.out _ HSPL.out ?_; intro w2 HG2 hgr2; have hd72 := (cell_of_row w2 g 72 _ _ _ HG2.out).trans (dgC_72 _ _ _); have hfz2 := frozen_of_row w2 g 72 _ _ HG2.out))
        obtain ⟨w6, hw6⟩ : ∃ w6, w6 = w2.setCell ⟨g, 72, none⟩ (.int .u64 ((q : Int) + (m : Int))) := ⟨_, rfl⟩
        rw [← hw6]
        have hg6 : w6.heap[g]? = some (.cells (dgC h r2 (.int .u64 ((q + m : Nat) : Int))) 158) := by
          rw [hw6, heap_setCell_at _ HG2.out, dgC_set, Int.natCast_add]
        have hgr6 : wr.grownBy w6 (some g) := by rw [hw6]; exact grown_setCell hgr2 _ _
        have HG6 := hide hg6
        have hgs6 := (Array.getElem?_eq_some_iff.1 hg6).1
        have HGR6 := hide (grownBy_trans HG1.out hgr6)
        have HB6 := hide (row_grown HB2.out hgr6 HOK.out)
        have HPR6 := hide (HP.out.grown HGR6.out hg0)
        clear hw6 hg6 hgr6 hd72 hfz2
        refine wp_region_ext mixed 12 (fun i v w' => match i with
          | 0 => v = .pointer (some ⟨g, 0, none⟩)
          | 1 => v = .pointer (some ⟨g, 0, none⟩)
          | 2 => v = .pointer (some ⟨g, 0, none⟩)
          | 3 => v = .pointer (some ⟨g, 0, none⟩)
          | 4 => v = .agg (s8C h)
          | 5 => v = .pointer (some ⟨g, 0, none⟩)
          | 6 => v = .pointer (some ⟨g, 0, none⟩)
          | 7 => v = .pointer (some ⟨g, 8, none⟩)
          | 8 => v = .agg (blC r2.l)
          | 9 => v = .agg (s8C (compress h r2.l))
          | 10 => v = .pointer (some ⟨g, 0, none⟩)
          | _ => v = .pointer (some ⟨g, 0, none⟩)
          ) (regOk_of (by kernel_rfl)) rfl ?_ ?_ ?_
        · intro i v w1 w2 h1 h2
          split at h2 <;> exact h2
        · refine ⟨fun a w7 hle hd hf hs K hK => ?_, fun a w7 hle hd hf hs K hK => ?_, fun a w7 hle hd hf hs K hK => ?_, fun a w7 hle hd hf hs K hK => ?_, fun a w7 hle hd hf hs K hK => ?_, fun a w7 hle hd hf hs K hK => ?_, fun a w7 hle hd hf hs K hK => ?_, fun a w7 hle hd hf hs K hK => ?_, fun a w7 hle hd hf hs K hK => ?_, fun a w7 hle hd hf hs K hK => ?_, fun a w7 hle hd hf hs K hK => ?_, fun a w7 hle hd hf hs K hK => ?_, trivial⟩
          all_goals clear hd
          · -- 38 := Op.move t0
            have e0 := hf 0 rfl; simp [Act.eval] at e0
            go_simp; exact hK _ _ (Ext.refl _) rfl
          · -- 39 := Op.move t0
            have e0 := hf 0 rfl; simp [Act.eval] at e0
            go_simp; exact hK _ _ (Ext.refl _) rfl
          · -- 40 := Op.nilCheck t39
            have e39 := hs 1 39 (needs_direct (by kernel_rfl)) rfl; simp [Act.eval] at e39
            go_simp; exact hK _ _ (Ext.refl _) rfl
          · -- 41 := Op.fieldAddr 158 t40 0
            have e40 := hs 2 40 (needs_direct (by kernel_rfl)) rfl; simp [Act.eval] at e40
            go_simp; exact hK _ _ (Ext.refl _) rfl
          · -- 42 := Op.load 156 t41
            have e41 := hs 3 41 (needs_direct (by kernel_rfl)) rfl; simp [Act.eval] at e41
            have hq : agg? w7 ⟨g, 0, none⟩ 8 = some (s8C h) := (agg_block (hle.block _ hgs6)).trans ((agg_of_row HG6.out 0 8 (by decide)).trans (dgC_h _ _ _))
            go_simp; exact hK _ _ (Ext.refl _) rfl
          · -- 43 := Op.move t0
            have e0 := hf 0 rfl; simp [Act.eval] at e0
            go_simp; exact hK _ _ (Ext.refl _) rfl
          · -- 44 := Op.nilCheck t43
            have e43 := hs 5 43 (needs_direct (by kernel_rfl)) rfl; simp [Act.eval] at e43
            go_simp; exact hK _ _ (Ext.refl _) rfl
          · -- 45 := Op.fieldAddr 158 t44 1
            have e44 := hs 6 44 (needs_direct (by kernel_rfl)) rfl; simp [Act.eval] at e44
            go_simp; exact hK _ _ (Ext.refl _) rfl
          · -- 46 := Op.load 153 t45
            have e45 := hs 7 45 (needs_direct (by kernel_rfl)) rfl; simp [Act.eval] at e45
            have hq : agg? w7 ⟨g, 8, none⟩ 64 = some (blC r2.l) := (agg_block (hle.block _ hgs6)).trans ((agg_of_row HG6.out 8 64 (by decide)).trans (dgC_r _ _ _))
            go_simp; exact hK _ _ (Ext.refl _) rfl
          · -- 47 := Op.call { value (Operand.func 101), args := #[t42, t46], argTypes := #[156, 153] }
            have e42 := hs 4 42 (needs_direct (by kernel_rfl)) rfl; have e46 := hs 8 46 (needs_direct (by kernel_rfl)) rfl; simp [Act.eval] at e42 e46
            go_simp
            refine (c_compress h r2.l w7 r2.len (HPR6.out.ext hle)).mono ?_
            rintro e w9 ⟨rfl, b3⟩
            exact hK _ _ b3 rfl
          · -- 48 := Op.nilCheck t38
            have e38 := hs 0 38 (needs_direct (by kernel_rfl)) rfl; simp [Act.eval] at e38
            go_simp; exact hK _ _ (Ext.refl _) rfl
          · -- 49 := Op.fieldAddr 158 t48 0
            have e48 := hs 10 48 (needs_direct (by kernel_rfl)) rfl; simp [Act.eval] at e48
            go_simp; exact hK _ _ (Ext.refl _) rfl
        intro vs w8 hle hs
        have v9 := hs 9 (by omega) rfl
        have v11 := hs 11 (by omega) rfl
        simp only at v9 v11
        clear hs
        have hg8 := (hle.block _ hgs6).trans HG6.out
        have HR8 := hide (HB6.out.below hle)
        have HGR8 := hide (grown_ext HGR6.out hle)
        have hr8 := row_of hg8
        have hfz8 := frozen_of_row w8 g 0 _ _ hg8
        have HG8 := hide hg8
        clear hg8 hle
        simp only [putN, dstAt]
        go_simp
        go_wp2_with fail
        go_roundw
        case rel =>
          refine ⟨dn ++ todo.take m, todo.drop m, B, n1 - m, c1 - m, rfl, HYS2, ?_, ?_, hide (grown_setRow HGR8.out _)⟩
          · exact hide (row_grown HR8.out (grown_setRow (grownBy_refl _ _) _) HOK.out)
          · refine hide ⟨compress h r2.l, [], r2, ?_, ?_, rfl⟩
            · rw [HLEN.out, setRow_heap w8 g _ _ _ _ HG8.out, Int.natCast_add]
            · rw [← List.append_assoc]
              exact HB.out (by have := HT.out; omega)
        case measure => have := HM1.out; simp; omega
      · have hd : ((t : Int) + (m : Int) == 64) = false := by
          have : ¬ (t : Int) + (m : Int) = 64 := by omega
          simpa using this
        go_wp2_with ((with_reducible show wpList _ _ _ (Oper.mk (some 21) _ _ _ _ _ :: _) _ _); go_loud (refine at_copy8g (P := Tryd.prog) 5 Tryd.underlying22 (by kernel_rfl) g (8 + t) (64 - t) (64 - t) HR1.out rfl rfl _ _ HGG.out m HMM.out HF.out _ HSPL.out ?_; intro w2 HG2 hgr2; have hd72 := (cell_of_row w2 g 72 _ _ _ HG2.out).trans (dgC_72 _ _ _); have hfz2 := frozen_of_row w2 g 72 _ _ HG2.out))
        go_roundw
        case rel =>
          have hgr6 : wr.grownBy (w2.setCell ⟨g, 72, none⟩ (.int .u64 ((q : Int) + (m : Int)))) (some g) := grown_setCell hgr2 _ _
          refine ⟨dn ++ todo.take m, todo.drop m, B, n1 - m, c1 - m, rfl, HYS2, hide (row_grown HB2.out hgr6 HOK.out), ?_, hide (grownBy_trans HG1.out hgr6)⟩
          obtain ⟨h1, h2⟩ := HA.out (by have := HT.out; omega)
          refine hide ⟨h, tail ++ todo.take m, r2, ?_, ?_, h2⟩
          · rw [HLEN.out, heap_setCell_at _ HG2.out, dgC_set, Int.natCast_add]
          · rw [← List.append_assoc]
            exact h1
        case measure => have := HM1.out; simp; omega
    · have hn0 : n1 = 0 := by omega
      have HT0 : Hid (todo = []) := hide (List.eq_nil_of_length_eq_zero (by rw [HR1.out.1]; exact hn0))
      have HFIN : Hid (DigAt wr g (xs ++ ys)) := hide (by rw [HYS.out, HT0.out, List.append_nil]; exact HD1.out)
      go_wp2_with fail
      exact bodyPost_end (v := .tuple #[]) (by simp [results, Tryd.results69, go_sem]) rfl ⟨rfl, HFIN.out, HG1.out⟩
end Go.Proofs.YtdkeflhgengblaaDoor
namespace Go.Proofs.YtdkeflhgengblaaDoor
open Go.RowKit

def zs (k : Nat) : List UInt8 := List.replicate k 0
theorem zs_len (k : Nat) : (zs k).length = k := List.length_replicate
section
variable {P : Program} {E : TypeId} {w w' : World} {ok : Nat → Prop}
/-- A row of zeros' cells. -/
theorem zrow {g k : Nat} {C : Array Value} {fr : Nat × Nat} (hg : w.heap[g]? = some (.cells C E fr)) (hC : C.toList = List.replicate k (Value.int .u8 0)) (hok : ok g) (hk : k ≤ maxLen) : kU8.Row ok w (some ⟨g, 0, none⟩) k k (zs k) := by
  refine ⟨zs_len k, Nat.le_refl _, hk, fun _ => ⟨g, 0, rfl, hok, (Array.getElem?_eq_some_iff.1 hg).1, fun i x hx => ⟨[bv x], ⟨rfl, trivial⟩, fun j u hu => ?_⟩⟩⟩
  have hi : i < k := by have := (List.getElem?_eq_some_iff.1 hx).1; rwa [zs_len] at this
  have hx0 : x = 0 := by
    have := List.mem_of_getElem? hx
    exact List.eq_of_mem_replicate this
  subst hx0
  have hj : j = 0 := by have := (List.getElem?_eq_some_iff.1 hu).1; simp at this; omega
  subst hj
  have hu' : u = bv 0 := by simpa using hu.symm
  subst hu'
  rw [cell_of_row w _ _ _ _ _ hg]
  rw [← Array.getElem?_toList, hC, List.getElem?_replicate, if_pos (by simp only [kU8, Kd.cell]; omega)]
  rfl
/-- make([]byte, n). -/
theorem mk8 {T : TypeId} (hT : P.underlying T = some (.slice E)) (hinfo : (P.info? E).map (fun i => (i.zero, i.size, i.bytes)) = some (some (.int .u8 0), 1, 1)) (n : Nat) (h : n ≤ 140737488355328) :
    ∃ C : Array Value, C.toList = List.replicate n (Value.int .u8 0) ∧ ∀ W : World, (Instr.makeSlice T (.int .i64 (n : Int)) (.int .i64 (n : Int))).run P W = .ok (.slice (some ⟨W.heap.size, 0, none⟩) n n) (W.alloc (.cells C E)) :=
  ⟨madeCells #[.int .u8 0] n, toList_madeCells_one _ _, fun W => run_make_row' T E (.int .u8 0) 1 hT hinfo rfl .i64 .i64 n (by omega) (by omega) W⟩

theorem zeroCells_zs (k : Nat) : Builtin.zeroCells (Value.int IntKind.u8 0).cells k = (Lib.strCells (txt (zs k))).toArray := by
  apply Array.ext'
  apply List.ext_getElem?
  intro j
  have h1 : (Value.int IntKind.u8 0).cells = #[Value.int IntKind.u8 0] := rfl
  by_cases hj : j < k
  · simp [Builtin.zeroCells, h1, Lib.strCells, zs, hj, Nat.mod_one]
  · simp [Builtin.zeroCells, h1, Lib.strCells, zs, hj]
theorem zs_size (k : Nat) : (txt (zs k)).size = k := by rw [txt_size, zs_len]
/-- append(v, make([]byte, k)...) is as good as append(v, "\x00..."...). -/
theorem append_zeros {T TN U ty : TypeId} {kn kq : IntKind} (hT : P.underlying T = some (.slice E)) (hTN : P.underlying TN = some (.int kn)) (hU : P.underlying U = some .string)
    (hinfo : (P.info? E).map (fun i => (i.zero, i.size, i.bytes)) = some (some (.int .u8 0), 1, 1)) (A : Option Addr) (n c k : Nat) (h0 : 0 < k) (hlen : n + k ≤ 140737488355328) :
    (Builtin.append_ #[T, TN] ty #[.slice A n c, .int kq (k : Int)]).run P w = (Builtin.append_ #[T, U] ty #[.slice A n c, .string (txt (zs k))]).run P w := by
  obtain ⟨i0, hi, hzz⟩ := Option.map_eq_some_iff.1 hinfo
  simp only [Prod.mk.injEq] at hzz
  obtain ⟨hz0, hz1, hz2⟩ := hzz
  have hw : IntKind.i64.wrap (k : Int) = k := by rw [IntKind.wrap_i64]; omega
  have hneg : ¬ ((k : Int) < 0) := by omega
  have hk0 : ¬ k = 0 := by omega
  have h48 : ¬ (281474976710656 < (k : Int)) := by omega
  have h63 : ¬ (9223372036854775807 < ((n : Int) + (k : Int))) := by omega
  have hf : ∀ W : World, (Builtin.firstCells 1 k (.string (txt (zs k)))).run P W = .ok (Lib.strCells (txt (zs k))).toArray W := fun W => by
    have := Lib.run_firstCells_string (P := P) (w := W) 1 (txt (zs k))
    rwa [zs_size] at this
  have hz := zeroCells_zs k
  by_cases hroom : n + k ≤ c
  · simp [Builtin.append_, run_underlying hT, run_underlying hTN, run_underlying hU, sizeOf, typeInfo, zeroValue, asInt, asIntOf, hi, hz0, hz1, hz2, hw, hneg, hk0, h48, Builtin.lenOf, zs_size, hroom, hf, hz]
  · have hfit : ¬ (281474976710656 < Builtin.nextslicecap (n + k) c) := by
      have := growslice_fits (need := n + k) (old := c) (bytes := 1) (by omega) (by omega)
      omega
    simp [Builtin.append_, run_underlying hT, run_underlying hTN, run_underlying hU, sizeOf, typeInfo, zeroValue, asInt, asIntOf, hi, hz0, hz1, hz2, hw, hneg, hk0, h48, h63, hfit, Builtin.lenOf, zs_size, hroom, hf, hz, Question.forced]

variable {base : Nat} {v : Value} {xs : List UInt8}
theorem els8 {css : List (List Value)} (he : kU8.Els ok w xs css) : css.flatten = xs.map bv := by
  have : css = xs.map fun x => [bv x] := by
    apply List.ext_getElem?
    intro i
    rw [List.getElem?_map]
    by_cases hi' : i < xs.length
    · have h1 : xs[i]? = some xs[i] := List.getElem?_eq_getElem hi'
      have h2 : css[i]? = some (css[i]'(by rw [he.1]; exact hi')) := List.getElem?_eq_getElem _
      rw [h2, h1, (he.2 i _ _ h1 h2).1]
      rfl
    · rw [List.getElem?_eq_none (by rw [he.1]; omega), List.getElem?_eq_none (by omega)]; rfl
  rw [this]
  clear this he
  induction xs <;> simp_all
theorem own8 {ok' : Nat → Prop} (h : kU8.Own ok base w E v xs) : kU8.Own ok' base w E v xs :=
  let ⟨css, he, ho⟩ := h
  ⟨css, ⟨he.1, fun i x cs hx hc => he.2 i x cs hx hc⟩, ho⟩
/-- An append of zeros leaves the row as it was, as far as it was the slice's. -/
theorem app_zeros_old {T U ty : TypeId} (hT : P.underlying T = some (.slice E)) (hU : P.underlying U = some .string) (hinfo : (P.info? E).map (fun i => (i.zero, i.size, i.bytes)) = some (some (.int .u8 0), 1, 1))
    {A : Option Addr} {n c : Nat} (k : Nat) (_h0 : 0 < k) (h : kU8.Own ok base w E (.slice A n c) xs) (hn : xs.length = n) (hlen : n + k ≤ 140737488355328) {v' : Value} (hrun : (Builtin.append_ #[T, U] ty #[.slice A n c, .string (txt (zs k))]).run P w = .ok v' w')
    (ho' : kU8.Own ok base w' E v' (xs ++ zs k)) : kU8.Row (fun _ => True) w' A n c xs := by
  obtain ⟨i0, hi, hzz⟩ := Option.map_eq_some_iff.1 hinfo
  simp only [Prod.mk.injEq] at hzz
  obtain ⟨hz0, hz1, hz2⟩ := hzz
  subst hn
  obtain ⟨A0, c0, he, hrow⟩ := h.row
  cases he
  have hs := zs_size k
  have keep : (∀ j, j < w.heap.size → w'.heap[j]? = w.heap[j]?) → kU8.Row (fun _ => True) w' A xs.length c xs := fun hk => (hrow.more (ok' := fun _ => True) fun _ _ => trivial).keep fun j _ hj => hk j hj
  obtain ⟨css, hel, ho⟩ := h
  rw [els8 hel] at ho
  rcases ho.2 with ⟨e, h0'⟩ | ⟨g, cap, cur, e, hbg, hg, hnc, hcm, hcs, htake⟩
  · have hx : xs = [] := List.eq_nil_of_length_eq_zero h0'
    subst hx
    exact .nil _ _ _ _ _ hrow.2.2.1
  · cases e
    by_cases hroom : xs.length + k ≤ c
    · have hcs' : cur.size = c := by simpa [kU8, Kd.cell] using hcs
      have hr := Lib.run_append_room_string (P := P) w T U ty E i0 hT hU hi hz1 g xs.length c cur hg (txt (zs k)) (by rw [hs]; exact hroom) (by rw [hs]; omega)
      rw [hr] at hrun
      injection hrun with hv hw
      obtain ⟨A1, c1, he1, hrow1⟩ := ho'.row
      rw [← hv] at he1
      injection he1 with e1 e2 e3
      rw [← e1, ← e3] at hrow1
      have h2 := (hrow1.more (ok' := fun _ => True) fun _ _ => trivial).take (k := xs.length) (by rw [List.length_append]; omega)
      rwa [List.take_left] at h2
    · have hc := ho.cells (g := g) rfl
      have hr := Lib.run_append_grow_string (P := P) w T U ty E i0 (.int .u8 0) hT hU hi hz0 ⟨g, 0, none⟩ xs.length c (xs.map bv) (by simp [hz1]) hc (txt (zs k)) (by rw [hs]; omega) (by rw [hs]; omega) (by rw [hz2, hs]; exact growslice_fits (by omega) (by omega))
      rw [hr] at hrun
      injection hrun with hv hw
      subst hw
      exact keep fun j hj => Below.heap_alloc w.drew _ j hj
theorem wpList_app_zeros {ops : Array Oper} {rest : List Oper} {op : Oper} {a : Act} {Q : Exit → Act → World → Prop} (hgd : op.guard = none) (sl x : Operand) (T TN U : TypeId) {kn kq : IntKind} (ho : op.op = .call { callee := .builtin .append, args := #[sl, x], argTypes := #[T, TN] })
    (hT : P.underlying T = some (.slice E)) (hTN : P.underlying TN = some (.int kn)) (hU : P.underlying U = some .string) (hinfo : (P.info? E).map (fun i => (i.zero, i.size, i.bytes)) = some (some (.int .u8 0), 1, 1))
    {A : Option Addr} {n c : Nat} (k : Nat) {z : Int} (hs : a.eval sl = .slice A n c) (hx : a.eval x = .int kq z) (hz : z = (k : Int)) (h0 : 0 < k)
    (h : kU8.Own ok base w E (.slice A n c) xs) (hbase : base ≤ w.heap.size) (hn : xs.length = n) (hlen : n + k ≤ 140737488355328)
    (hk : ∀ v' w', kU8.Own ok base w' E v' (xs ++ zs k) → kU8.Row (fun _ => True) w' A n c xs → Below base w w' → (∀ j, j < w.heap.size → some j ≠ (Value.slice A n c).ownBlock → w'.heap[j]? = w.heap[j]?) → wpList P ops Q rest (a.put op.dst v') w') : wpList P ops Q (op :: rest) a w := by
  subst hz
  obtain ⟨v', w', hrun, -, h2, h3, h4, -⟩ := App.append_str (P := P) (T := T) (U := U) (ty := op.type) hT hU hinfo (.inl h) hbase (txt (zs k)) (by rw [zs_size, hn]; omega)
  have h2' := h2 (.inl (by rw [zs_size]; exact h0))
  rw [byt_txt] at h2'
  have hold := app_zeros_old hT hU hinfo k h0 h hn hlen hrun h2'
  rw [← append_zeros (kn := kn) (kq := kq) (TN := TN) hT hTN hU hinfo A _ c k h0 hlen] at hrun
  exact Lib.wpList_append_run w hgd sl x T TN ho _ _ hs hx v' w' hrun (hk v' w' h2' hold h3 h4)
end
end Go.Proofs.YtdkeflhgengblaaDoor
namespace Go.Proofs.YtdkeflhgengblaaDoor
open Go.RowKit
attribute [local go_sem ↓] ld8 ld32 ld64 ld73
attribute [local go_sem] run_ldAgg run_storeAgg agg_alloc_at agg_alloc_past agg_drew agg_setCell row_alloc_at row_alloc_past row_drew setRow_alloc_at setRow_alloc_past setRow_drew agg_setRow_at agg_setRow_far cell_setRow_at cell_setRow_far row_setRow_far size_setRow s8C_size s8C_part s8C_one s8C_splice0 s8C_ne dgC_size dgC_72 dgC_part dgC_h dgC_r dgC_splice_h dgC_set dgC_one dgC_splice0 dgC_ne zero_dg
attribute [local go_sem] tgC_size tgC_one tgC_part tgC_splice tgC_splice_any zero_tg tgC_ne
theorem own_row {ok : Nat → Prop} {base : Nat} {w : World} {E : TypeId} {v : Value} {xs : List UInt8} (h : kU8.Own ok base w E v xs) : ∃ A c, v = .slice A xs.length c ∧ kU8.Row (base ≤ ·) w A xs.length c xs := by
  have h0 : kU8.Own (fun _ => False) base w E v xs := own8 h
  obtain ⟨A, c, rfl, hr⟩ := h0.row
  refine ⟨A, c, rfl, row8 hr fun k _ hk => ?_⟩
  rcases hk with hk | hk
  · exact hk.elim
  · exact (h0.base_le k hk.symm).1
/-- The sum of bytes as a tag. -/
def shaT (xs : List UInt8) : Tg := ⟨sha xs, rfl⟩
set_option maxRecDepth 100000 in
set_option maxHeartbeats 1600000 in
theorem c_dsum (g : Nat) (xs : List UInt8) (w : World) (hD : DigAt w g xs) (hP : PrimesAt w) (hn : xs.length < 1152921504606846976) :
    Calls Tryd.prog 70 #[.pointer (some ⟨g, 0, none⟩)] w fun e w' => e = .returned (tgV (shaT xs)) ∧ Below w.heap.size w w' := by
  have HD := hide hD
  have HP := hide hP
  have HN := hide hn
  have hgs := hD.lt
  clear hD hP hn
  go_enter Tryd.func70, Tryd.ntmps70
  go_wp2_with fail
  obtain ⟨W1, hW1⟩ : ∃ W1, W1 = w.alloc (.cells (tgC Tg.zero) 29) := ⟨_, rfl⟩
  rw [← hW1]
  have hB1 : Below w.heap.size w W1 := by rw [hW1]; exact below1 _ _
  have hs1 : W1.heap.size = w.heap.size + 1 := by rw [hW1]; simp only [World.size_alloc]
  have hz1 : W1.heap[w.heap.size]? = some (.cells (tgC Tg.zero) 29) := by rw [hW1]; exact heap_alloc_new _ _
  clear hW1
  refine (c_dclone g xs W1 (HD.out.ext hB1)).mono ?_
  rintro e w2 ⟨g', rfl, hg', hd2, b2⟩
  have HD1 := hide ((HD.out.ext hB1).ext b2)
  have HD2 := hide hd2
  have HB2 := hide (hB1.trans (b2.mono hB1.size))
  have HZ2 := hide ((b2.block w.heap.size (by omega)).trans hz1)
  have hws2 := HB2.out.size
  have hg2 : w.heap.size + 1 ≤ g' := by omega
  clear hd2 b2 hB1 hs1 hz1 hg'
  obtain ⟨h1, t1, r1, hg1, -, -⟩ := HD1.out
  have hc72 := (cell_of_row w2 g 72 _ _ _ hg1).trans (dgC_72 _ _ _)
  clear hg1
  go_wp2_with fail
  refine (c_pad xs.length w2 (by have := HN.out; omega)).mono ?_
  rintro e w3 ⟨v3, rfl, h3, b3⟩
  obtain ⟨A3, c3, rfl, hr3⟩ := own_row h3
  have HR3 := hide hr3
  have HD3 := hide (HD2.out.ext b3)
  have HB3 := hide (HB2.out.trans (b3.mono hws2))
  have HZ3 := hide ((b3.block w.heap.size (by have := HD2.out.lt; omega)).trans HZ2.out)
  have hws3 := HB3.out.size
  have hg3 := HD2.out.lt
  have hpl : (padN xs.length).length ≤ 72 := by rw [padN_len]; omega
  have HPL := hide hpl
  clear hr3 h3 b3 hc72 hpl
  go_wp2_with fail
  refine (c_dwrite g' xs (padN xs.length) A3 _ c3 _ w3 HD3.out HR3.out (fun k hk => by omega) (HP.out.below HB3.out HP.out.1) (by omega) (by have := HPL.out; have := HN.out; omega)).mono ?_
  rintro e w4 ⟨rfl, hd4, gr4⟩
  have hg33 := HD3.out.lt
  obtain ⟨h4, t4, r4, hg4, hsp4, -⟩ := hd4
  have HSUM := hide hsp4.sum
  have hag4 : agg? w4 ⟨g', 0, none⟩ 8 = some (s8C h4) := (agg_of_row hg4 0 8 (by decide)).trans (dgC_h _ _ _)
  have HB4 : Hid (Below w.heap.size w w4) := hide ⟨gr4.os.trans HB3.out.os, gr4.tape.trans HB3.out.tape, gr4.output.trans HB3.out.output, Nat.le_trans HB3.out.size gr4.size, fun k hk => (gr4.block k (Nat.lt_of_lt_of_le hk HB3.out.size) (fun e => by have := Option.some.inj e; omega)).trans (HB3.out.block k hk)⟩
  have HZ4 := hide ((gr4.block w.heap.size (by omega) (fun e => by have := Option.some.inj e; omega)).trans HZ3.out)
  have hz4s := (Array.getElem?_eq_some_iff.1 HZ4.out).1
  clear hsp4 gr4 hg4
  go_wp2_with fail
  have hll : h4.list.length = 8 := rfl
  obtain ⟨hl, hhl⟩ : ∃ hl, hl = h4.list := ⟨_, rfl⟩
  have HC : Hid (s8C h4 = wlC hl) := hide (by rw [hhl]; rfl)
  have HBY : Hid (h4.bytes = hl.flatMap put4) := hide (by rw [hhl]; rfl)
  rw [← hhl] at hll
  clear hhl
  go_loopw [4, 20] (fun v i wr => ∃ (k : Nat) (A : Option Addr) (n c : Nat), k ≤ 8 ∧ i = .int .i64 (k : Int) ∧ v = .slice A n c ∧ Hid (kU8.Row (fun _ => True) wr A n c ((hl.take k).flatMap put4)) ∧ Hid (n = 4 * k) ∧ Hid (wr.heap[w.heap.size]? = some (.cells (tgC Tg.zero) 29)) ∧ Hid (Below w.heap.size w wr)) (fun _ i _ => 8 - (intOf i).toNat)
  case atStart => exact ⟨0, none, 0, 0, Nat.zero_le _, rfl, rfl, hide (Kd.Row.nil _ _ _ _ _ (Nat.zero_le _)), hide rfl, HZ4, HB4⟩
  case round =>
    obtain ⟨k, A, n, c, hk, rfl, rfl, HR, HNK, HZ, HB⟩ := hrel
    have hwr := HB.out.size
    have hzs := (Array.getElem?_eq_some_iff.1 HZ.out).1
    by_cases hlt : k < 8
    · obtain ⟨x, hx⟩ : ∃ x, hl[k]? = some x := ⟨_, List.getElem?_eq_getElem (by omega)⟩
      have hxc : (s8C h4)[k]? = some (wv x) := by rw [HC.out]; exact wlC_at _ hx
      have hix := arr_index (P := Tryd.prog) Tryd.underlying156 u32_info1 Tryd.underlying155 (s8C h4) k hlt (wv x) hxc .i64
      have HTK : Hid ((hl.take (k + 1)).flatMap put4 = (hl.take k).flatMap put4 ++ put4 x) := hide (by
        rw [List.take_add_one, hx]; simp)
      clear hx hxc
      go_wp2_with fail
      refine (c_put A n c _ x _ wr HR.out (by have := HNK.out; omega)).mono ?_
      rintro e w5 ⟨v5, rfl, h5, b5⟩
      have hl5 : ((hl.take k).flatMap put4 ++ put4 x).length = n + 4 := by rw [List.length_append, HR.out.1]; rfl
      obtain ⟨A5, c5, rfl, hr5⟩ := own_row h5
      rw [hl5] at hr5
      rw [← HTK.out] at hr5
      have HR5 := hide (row8 (ok' := fun _ => True) hr5 fun _ _ _ => trivial)
      have HB5 := hide (HB.out.trans (b5.mono hwr))
      have HZ5 := hide ((b5.block _ hzs).trans HZ.out)
      rw [hl5]
      clear hr5 h5 b5 hl5 hix
      go_wp2_with fail
      go_roundw
      case rel => exact ⟨k + 1, A5, n + 4, c5, by omega, by simp, rfl, HR5, hide (by have := HNK.out; omega), HZ5, HB5⟩
      case measure => simp [intOf]; omega
    · obtain rfl : k = 8 := by omega
      have hn32 : n = 32 := HNK.out
      subst hn32
      have hrow := HR.out
      rw [List.take_of_length_le (show hl.length ≤ 8 by omega), ← HBY.out, HSUM.out] at hrow
      have ht := hrow.1
      obtain ⟨b, o, rfl, -, hb, hc⟩ := row_bytes hrow (by decide)
      have hag : agg? wr ⟨b, o, none⟩ 32 = some (tgC (shaT xs)) := agg_range (cs := (sha xs).map bv) (fun j v hv => by
        rw [List.getElem?_map] at hv
        obtain ⟨x, hx, rfl⟩ := Option.map_eq_some_iff.1 hv
        exact hc j x hx) 32 rfl
      obtain ⟨t, htt⟩ : ∃ t, t = shaT xs := ⟨_, rfl⟩
      rw [← htt] at hag
      have HTT := hide htt
      clear htt
      have hap : ∀ wx : World, (Instr.arrayAt 29 (.slice (some ⟨b, o, none⟩) 32 c)).run Tryd.prog wx = .ok (.pointer (some ⟨b, o, none⟩)) wx := fun wx => by simp [Instr.arrayAt, run_underlying Tryd.underlying29]
      have hrz := row_of HZ.out
      have HB9 := hide (bsetRow HB.out (Nat.le_refl _) (tgC t))
      have hag9 : agg? (wr.setRow w.heap.size (tgC t)) ⟨w.heap.size, 0, none⟩ 32 = some (tgC t) := (agg_setRow_at _ _ _ _ _ (by rw [hrz]; rfl) (by decide)).trans (tgC_part t)
      clear hrow ht hc
      go_wp2_with fail
      exact bodyPost_ret (v := tgV t) (by simp [results, Tryd.results70, go_sem, hag9]) rfl ⟨by rw [HTT.out], HB9.out⟩
/-! ### rows of rows of bytes -/
/-- A slice of slices of bytes: each reads as its bytes. -/
def kRow8 : Kd (List UInt8) where
  sz := 1
  K ok w x cs := ∃ A n c, cs = [.slice A n c] ∧ kU8.Row ok w A n c x
  len := by rintro _ _ x cs ⟨A, n, c, rfl, _⟩; rfl
  one := by
    rintro _ _ x cs ⟨A, n, c, rfl, _⟩ u hu
    rw [List.mem_singleton] at hu
    subst hu
    rfl
  keep hk h := let ⟨A, n, c, e, hr⟩ := h; ⟨A, n, c, e, hr.keep fun k h _ => hk k h⟩
  more hk h := let ⟨A, n, c, e, hr⟩ := h; ⟨A, n, c, e, hr.more hk⟩
  bound h := let ⟨A, n, c, e, hr⟩ := h; ⟨A, n, c, e, hr.bound⟩
end Go.Proofs.YtdkeflhgengblaaDoor
namespace Go.Proofs.YtdkeflhgengblaaDoor
open Go.ChangeShapes Go.WideShapes Go.ChangeAt Go.RowKit

theorem open_tag {H : Type} {enc : TypeId × Value → H} {w : World} {spare : Nat → Bool} {held : Bool} (n : Nat) (cs : List Value) (x : DataW H × List MemPlace) (h : DataW.trod enc Tryd.prog w 0 spare held n 29 cs = some x) :
    ∃ t : Tg, cs = (tgC t).toList := by
  obtain ⟨xs, m, rfl, -, hl, hx, hf⟩ := DataW.trod_array Tryd.underlying29 h
  have c32 : Tryd.prog.cellsOf 29 = 32 := by kernel_rfl
  have c1 : Tryd.prog.cellsOf 5 = 1 := by kernel_rfl
  rw [c32] at hl
  rw [c1] at hf
  have hb : ∀ i, i < 32 → ∃ b : UInt8, cs[i]? = some (bv b) := fun i hi => by
    have h1 := hf i hi
    rw [List.getElem?_eq_getElem (by omega)] at h1
    obtain ⟨k, e, -, hk⟩ := DataW.trod_int Tryd.underlying5 h1
    simp [Lit.wf, IntKind.min, IntKind.max, IntKind.signed, IntKind.bits] at hk
    obtain ⟨b, rfl⟩ : ∃ b : UInt8, (b.toNat : Int) = k := ⟨UInt8.ofNat k.toNat, by simp; omega⟩
    refine ⟨b, ?_⟩
    have := congrArg (·[0]?) e
    simpa [List.getElem?_take, List.getElem?_drop] using this
  obtain ⟨bs, hbl, hbs⟩ := list_of 32 hb
  refine ⟨⟨bs, hbl⟩, ?_⟩
  apply List.ext_getElem?
  intro i
  by_cases hi : i < 32
  · rw [hbs i _ (List.getElem?_eq_getElem (by omega))]
    simp [tgC, List.getElem?_eq_getElem (show i < bs.length by omega)]
  · rw [List.getElem?_eq_none (by omega), List.getElem?_eq_none (by simp [tgC]; omega)]
theorem u8_open {H : Type} {enc : TypeId × Value → H} {w : World} {spare : Nat → Bool} {held : Bool} (n : Nat) (cs : List Value) (x : DataW H × List MemPlace) (h : DataW.trod enc Tryd.prog w 0 spare held n 5 cs = some x) :
    ∃ y, kU8.K (· < w.heap.size) w y cs := by
  obtain ⟨k, e, -, hk⟩ := DataW.trod_int Tryd.underlying5 h
  simp [Lit.wf, IntKind.min, IntKind.max, IntKind.signed, IntKind.bits] at hk
  obtain ⟨b, rfl⟩ : ∃ b : UInt8, (b.toNat : Int) = k := ⟨UInt8.ofNat k.toNat, by simp; omega⟩
  exact ⟨b, e, trivial⟩
set_option maxRecDepth 100000 in
theorem okWide_tag {w : World} {r : Reach} {base : Nat} {v : Value} (h : Value.okWide Tryd.prog w r base 29 v) : ∃ cs, v = .agg cs := by
  simp only [Value.okWide, Tryd.underlying29] at h
  obtain ⟨cs, h1, _, _⟩ := h
  exact ⟨cs, h1⟩
end Go.Proofs.YtdkeflhgengblaaDoor
namespace Go.Proofs.YtdkeflhgengblaaDoor
open Go.ChangeShapes Go.WideShapes Go.ChangeAt Go.RowKit

theorem laidOutD : laidOutB Tryd.prog = true := by kernel_rfl
theorem ownKnobD : ownKnob Tryd.prog.godebug = none := by kernel_rfl
theorem gPrimes : Tryd.prog.globalNamed "chitty/word.primes" = some 0 := by kernel_rfl
theorem tPrimes : (Tryd.prog.globals[0]?).map (·.type) = some 174 := by kernel_rfl
abbrev laidD : List (String × DataW Unit) := [("chitty/word.primes", Rows.laid_chitty_word_primes)]
theorem door_met (os : Os) (args : Array Value) : laidMetH Tryd.prog laidD ((World.doorLaid Tryd.prog 400 os).forCall (fun _ _ => 0) ⟨#[], args, []⟩).memory :=
  laidMetH_of_parts3 (fuel := 8) (laidMet_of_run' 8 (by kernel_rfl) (by kernel_rfl)) (by kernel_rfl) (by kernel_rfl)
theorem primes_datum : (Rows.laid_chitty_word_primes : DataW Unit) = .agg (primesW.map fun p => .lit (.int .u32 (p.toNat : Int))) := by rfl
theorem primes_of {W : World} (h : laidMetH Tryd.prog laidD W) : PrimesAt W := by
  rw [MakeChecks.laidMetH_plain _ _ _ (by kernel_rfl)] at h
  obtain ⟨ps, ⟨g0, t0, cs0, f0, p0, q0, hg0, ht0, hv0, hd0, _, _⟩, _, _⟩ := h
  obtain rfl := Option.some.inj (gPrimes.symm.trans hg0)
  obtain rfl := Option.some.inj (tPrimes.symm.trans ht0)
  obtain ⟨xs, m1, rfl, hx1, hlen, hn, hel⟩ := DataW.trod_array Tryd.underlying174 hd0
  have c1 : Tryd.prog.cellsOf 155 = 1 := by kernel_rfl
  have hxe : xs.map (·.1) = primesW.map fun p => .lit (.int .u32 (p.toNat : Int)) := by
    have := congrArg Prod.fst hx1
    rw [primes_datum] at this
    exact (DataW.agg.inj this).symm
  have hcell : ∀ (i : Nat) (p : UInt32), primesW[i]? = some p → W.cell? ⟨0, i, none⟩ = some (wv p) := by
    intro i p hp
    have hi : i < 64 := by
      have := (List.getElem?_eq_some_iff.1 hp).1
      have : primesW.length = 64 := by decide
      omega
    have h1 := hel i hi
    rw [List.getElem?_eq_getElem (by omega), c1] at h1
    obtain ⟨k, e1, e2, -⟩ := DataW.trod_int Tryd.underlying155 h1
    have h3 := congrArg (·[i]?) hxe
    simp only [List.getElem?_map, hp, List.getElem?_eq_getElem (show i < xs.length by omega), Option.map_some, e2, Option.some.injEq, DataW.lit.injEq, Lit.int.injEq, true_and] at h3
    have h4 := World.var?_cell gPrimes hv0 i
    rw [h4]
    have h5 := congrArg (·[0]?) e1
    simp only [Nat.mul_one, List.getElem?_take, List.getElem?_drop, Nat.add_zero] at h5
    rw [if_pos (by decide)] at h5
    rw [← Array.getElem?_toList, h5, h3]
    rfl
  refine ⟨?_, hcell⟩
  exact World.block_lt_of_cell? W ⟨0, 0, none⟩ (hcell 0 _ rfl)
theorem bytes_open {H : Type} {enc : TypeId × Value → H} {w : World} {spare : Nat → Bool} {held : Bool} (n : Nat) (cs : List Value) (x : DataW H × List MemPlace) (h : DataW.trod enc Tryd.prog w 0 spare held n 22 cs = some x) :
    ∃ y, kRow8.K (· < w.heap.size) w y cs := by
  obtain ⟨A, n, c, xs, rfl, hr⟩ := trod_row (d := kU8) Tryd.underlying22 (by kernel_rfl) (by decide) u8_open h
  exact ⟨xs, A, n, c, rfl, hr⟩
end Go.Proofs.YtdkeflhgengblaaDoor
namespace Go.Proofs.YtdkeflhgengblaaDoor
open Go.RowKit
attribute [local go_sem ↓] ld8 ld32 ld64 ld73
attribute [local go_sem] run_ldAgg run_storeAgg agg_alloc_at agg_alloc_past agg_drew agg_setCell row_alloc_at row_alloc_past row_drew setRow_alloc_at setRow_alloc_past setRow_drew agg_setRow_at agg_setRow_far cell_setRow_at cell_setRow_far row_setRow_far size_setRow s8C_size s8C_part s8C_one s8C_splice0 s8C_ne dgC_size dgC_72 dgC_part dgC_h dgC_r dgC_splice_h dgC_set dgC_one dgC_splice0 dgC_ne zero_dg
attribute [local go_sem] tgC_size tgC_one tgC_part tgC_splice tgC_splice_any zero_tg tgC_ne

theorem bytes_info : (Tryd.prog.info? 22).map (·.size) = some kRow8.sz := by kernel_rfl
theorem flat_take_succ {l : List (List UInt8)} {k : Nat} {x : List UInt8} (h : l[k]? = some x) : (l.take (k + 1)).flatten = (l.take k).flatten ++ x := by
  rw [List.take_add_one, h]; simp
theorem flat_take_le (l : List (List UInt8)) (k : Nat) : (l.take k).flatten.length ≤ l.flatten.length := by
  have := congrArg List.length (show l.flatten = (l.take k).flatten ++ (l.drop k).flatten by rw [← List.flatten_append, List.take_append_drop])
  rw [List.length_append] at this
  omega
theorem flat_part {l : List (List UInt8)} {k : Nat} {x : List UInt8} (h : l[k]? = some x) : (l.take k).flatten.length + x.length ≤ l.flatten.length := by
  have := flat_take_le l (k + 1)
  rw [flat_take_succ h, List.length_append] at this
  exact this
set_option maxRecDepth 100000 in
set_option maxHeartbeats 1600000 in
theorem c_digof (A : Option Addr) (n c : Nat) (l : List (List UInt8)) (ok : Nat → Prop) (w : World) (hR : kRow8.Row ok w A n c l) (hP : PrimesAt w) (hn : l.flatten.length < 1152921504606846976) :
    Calls Tryd.prog 99 #[.slice A n c] w fun e w' => e = .returned (tgV (shaT l.flatten)) ∧ Below w.heap.size w w' := by
  have HR := hide hR.bound
  have HP := hide hP
  have HN := hide hn
  have hll := hR.1
  have hn63 : n ≤ 9223372036854775807 := Nat.le_trans hR.2.1 hR.2.2.1
  clear hR hP hn
  go_enter Tryd.func99, Tryd.ntmps99
  go_wp2_with fail
  obtain ⟨W1, hW1⟩ : ∃ W1, W1 = w.alloc (.cells (tgC Tg.zero) 29) := ⟨_, rfl⟩
  rw [← hW1]
  have hB1 : Below w.heap.size w W1 := by rw [hW1]; exact below1 _ _
  have hs1 : W1.heap.size = w.heap.size + 1 := by rw [hW1]; simp only [World.size_alloc]
  have hz1 : W1.heap[w.heap.size]? = some (.cells (tgC Tg.zero) 29) := by rw [hW1]; exact heap_alloc_new _ _
  clear hW1
  refine (c_dnew W1).mono ?_
  rintro e w2 ⟨g, rfl, hg, hd2, b2⟩
  have HD2 := hide hd2
  have HB2 := hide (hB1.trans (b2.mono hB1.size))
  have HZ2 := hide ((b2.block w.heap.size (by omega)).trans hz1)
  have hg2 : w.heap.size + 1 ≤ g := by omega
  have HLL := hide hll
  clear hd2 b2 hB1 hs1 hz1 hg hll
  go_wp2_with fail
  go_loopw [9] (fun i wr => ∃ (k : Nat), k ≤ n ∧ i = .int .i64 (k : Int) ∧ Hid (DigAt wr g (l.take k).flatten) ∧ Hid (wr.heap[w.heap.size]? = some (.cells (tgC Tg.zero) 29)) ∧ Hid (Below w.heap.size w wr)) (fun i _ => n - (intOf i).toNat)
  case atStart => exact ⟨0, Nat.zero_le _, rfl, HD2, HZ2, HB2⟩
  case round =>
    obtain ⟨k, hk, rfl, HD, HZ, HB⟩ := hrel
    have hwr := HB.out.size
    have hzs := (Array.getElem?_eq_some_iff.1 HZ.out).1
    have hgs := HD.out.lt
    by_cases hlt : k < n
    · obtain ⟨x, hx⟩ : ∃ x, l[k]? = some x := ⟨_, List.getElem?_eq_getElem (by have := HLL.out; omega)⟩
      obtain ⟨q, o, cs, hix, -, hbl, hKx, hra⟩ := (HR.out.below HB.out).index (P := Tryd.prog) Tryd.underlying23 (E := 22) bytes_info hx
      obtain ⟨A2, n2, c2, rfl, hr2⟩ := hKx
      have HR2 := hide hr2
      have hce : wr.cell? ⟨q, o, none⟩ = some (.slice A2 n2 c2) := by simpa using hra 0 _ rfl
      have HTK := hide (flat_take_succ hx)
      have HFP := hide (flat_part hx)
      clear hx hra hr2
      go_wp2_with fail
      refine (c_dwrite g _ x A2 n2 c2 _ wr HD.out HR2.out (fun k hk => by omega) (HP.out.below HB.out HP.out.1) (by omega) (by have := HFP.out; have := HN.out; have := HR2.out.1; omega)).mono ?_
      rintro e w3 ⟨rfl, hd3, gr3⟩
      have HD3 : Hid (DigAt w3 g (l.take (k + 1)).flatten) := hide (by rw [HTK.out]; exact hd3)
      have HB3 : Hid (Below w.heap.size w w3) := hide ⟨gr3.os.trans HB.out.os, gr3.tape.trans HB.out.tape, gr3.output.trans HB.out.output, Nat.le_trans HB.out.size gr3.size, fun j hj => (gr3.block j (Nat.lt_of_lt_of_le hj HB.out.size) (fun e => by have := Option.some.inj e; omega)).trans (HB.out.block j hj)⟩
      have HZ3 := hide ((gr3.block w.heap.size (by omega) (fun e => by have := Option.some.inj e; omega)).trans HZ.out)
      clear hd3 gr3 hix hce
      go_wp2_with fail
      go_roundw
      case rel => exact ⟨k + 1, by omega, by simp, HD3, HZ3, HB3⟩
      case measure => simp [intOf]; omega
    · obtain rfl : n = k := by omega
      go_wp2_with fail
      have hd9 := HD.out
      rw [List.take_of_length_le (show l.length ≤ n by have := HLL.out; omega)] at hd9
      refine (c_dsum g _ wr hd9 (HP.out.below HB.out HP.out.1) HN.out).mono ?_
      obtain ⟨t, htt⟩ : ∃ t, t = shaT l.flatten := ⟨_, rfl⟩
      rw [← htt]
      have HTT := hide htt
      clear htt hd9
      rintro e w9 ⟨rfl, b9⟩
      have hz9 := (b9.block _ hzs).trans HZ.out
      have hrz := row_of hz9
      have HB9 := hide (bsetRow (HB.out.trans (b9.mono hwr)) (Nat.le_refl _) (tgC t))
      have hag9 : agg? (w9.setRow w.heap.size (tgC t)) ⟨w.heap.size, 0, none⟩ 32 = some (tgC t) := (agg_setRow_at _ _ _ _ _ (by rw [hrz]; rfl) (by decide)).trans (tgC_part t)
      clear b9 hz9
      go_wp2_with fail
      exact bodyPost_ret (v := tgV t) (by simp [results, Tryd.results99, go_sem, hag9]) rfl ⟨by rw [HTT.out], HB9.out⟩
end Go.Proofs.YtdkeflhgengblaaDoor
namespace Go.Proofs.YtdkeflhgengblaaDoor
open Go.RowKit
attribute [local go_sem ↓] ld8 ld32 ld64 ld73
attribute [local go_sem] run_ldAgg run_storeAgg agg_alloc_at agg_alloc_past agg_drew agg_setCell row_alloc_at row_alloc_past row_drew setRow_alloc_at setRow_alloc_past setRow_drew agg_setRow_at agg_setRow_far cell_setRow_at cell_setRow_far row_setRow_far size_setRow s8C_size s8C_part s8C_one s8C_splice0 s8C_ne dgC_size dgC_72 dgC_part dgC_h dgC_r dgC_splice_h dgC_set dgC_one dgC_splice0 dgC_ne zero_dg
attribute [local go_sem] tgC_size tgC_one tgC_part tgC_splice tgC_splice_any zero_tg tgC_ne
attribute [local go_sem] zero_b64
/-- Bytes, the first i of them turned. -/
def xorl (K : List UInt8) (b : UInt8) (i : Nat) : List UInt8 := (K.map (· ^^^ b)).take i ++ K.drop i
section
variable {K : List UInt8} {b x : UInt8} {i n : Nat}
theorem xorl_len : (xorl K b i).length = K.length := by simp only [xorl, List.length_append, List.length_take, List.length_map, List.length_drop]; omega
theorem xorl_start : xorl K b 0 = K := by simp [xorl]
theorem xorl_end (h : K.length = n) : xorl K b n = K.map (· ^^^ b) := by
  rw [xorl, List.drop_eq_nil_of_le (by omega), List.append_nil, List.take_of_length_le (by simp; omega)]
theorem xorl_at (h : i < K.length) : (xorl K b i)[i]? = K[i]? := by
  rw [xorl, List.getElem?_append_right (by simp; omega), List.getElem?_drop]
  congr 1
  simp; omega
theorem xorl_set (h : K[i]? = some x) : (xorl K b i).set i (x ^^^ b) = xorl K b (i + 1) := by
  have hi : i < K.length := (List.getElem?_eq_some_iff.1 h).1
  apply List.ext_getElem?
  intro k
  rw [List.getElem?_set, xorl_len]
  by_cases hk : i = k
  · subst hk
    rw [if_pos rfl, if_pos hi, xorl, List.getElem?_append_left (by simp; omega), List.getElem?_take, if_pos (Nat.lt_succ_self _), List.getElem?_map, h]
    rfl
  · rw [if_neg hk, xorl, xorl]
    rcases Nat.lt_or_ge k i with h2 | h2
    · rw [List.getElem?_append_left (by simp; omega), List.getElem?_append_left (by simp; omega), List.getElem?_take, List.getElem?_take, if_pos h2, if_pos (by omega)]
    · rw [List.getElem?_append_right (by simp; omega), List.getElem?_append_right (by simp; omega), List.getElem?_drop, List.getElem?_drop]
      congr 1
      simp only [List.length_take, List.length_map]; omega
theorem row8_one {ok : Nat → Prop} {w : World} {g : Nat} {A : Option Addr} {n c : Nat} {x : List UInt8} {t : TypeId} {fr : Nat × Nat} (hg : w.heap[g]? = some (.cells #[.slice A n c] t fr)) (hr : kU8.Row ok w A n c x) (hok : ok g) : kRow8.Row ok w (some ⟨g, 0, none⟩) 1 1 [x] := by
  refine ⟨rfl, Nat.le_refl _, by decide, fun _ => ⟨g, 0, rfl, hok, (Array.getElem?_eq_some_iff.1 hg).1, fun i y hy => ?_⟩⟩
  have hi : i = 0 := by have := (List.getElem?_eq_some_iff.1 hy).1; simp at this; omega
  subst hi
  have hy' : y = x := by simpa using hy.symm
  subst hy'
  refine ⟨[.slice A n c], ⟨A, n, c, rfl, hr⟩, fun j u hu => ?_⟩
  have hj : j = 0 := by have := (List.getElem?_eq_some_iff.1 hu).1; simp at this; omega
  subst hj
  have hu' : u = .slice A n c := by simpa using hu.symm
  subst hu'
  rw [cell_of_row w _ _ _ _ _ hg]
  rfl
theorem b_xor (x b : UInt8) : bits .xor .u8 (x.toNat : Int) (b.toNat : Int) = ((x ^^^ b).toNat : Int) := u8_xor_nat _ _ x.toNat_lt b.toNat_lt
end
set_option maxRecDepth 100000 in
set_option maxHeartbeats 1600000 in
theorem c_turned0 (A : Option Addr) (n c : Nat) (key : List UInt8) (by_ : UInt8) (ok : Nat → Prop) (w : World) (hR : kU8.Row ok w A n c key) (hP : PrimesAt w) (hn : n ≤ 64) :
    Calls Tryd.prog 68 #[.slice A n c, bv by_] w fun e w' => ∃ g, e = .returned (.pointer (some ⟨g, 0, none⟩)) ∧ w.heap.size ≤ g ∧ DigAt w' g (keyX key by_) ∧ Below w.heap.size w w' := by
  have HP := hide hP
  have hp0 := hP.1
  obtain ⟨KB, hKB⟩ : ∃ KB, KB = key := ⟨_, rfl⟩
  have HKB : Hid (KB = keyB key) := hide (by rw [keyB, if_neg (by rw [hR.1]; omega), hKB])
  have HKL : Hid (KB.length ≤ 64) := hide (by rw [hKB, hR.1]; exact hn)
  have HR2 : Hid (kU8.Row (fun k => k < w.heap.size) (w.alloc (.cells (blC zb64) 153)) A n c KB) := hide (by
    rw [hKB]
    exact (row8 hR.bound (fun k _ h => h.2)).alloc _)
  have HZ2 := hide (heap_alloc_new w (.cells (blC zb64) 153))
  have HB2 := hide (below1 w (.cells (blC zb64) 153))
  obtain ⟨n2, hn2⟩ : ∃ n2, n2 = n := ⟨_, rfl⟩
  rw [← hn2] at HR2 hn ⊢
  clear hKB hR hP hn2
  go_enter Tryd.func68, Tryd.ntmps68

  -- the key's block
  have hkl : KB.length ≤ 64 := HKL.out
  obtain ⟨K, hK⟩ : ∃ K, K = KB ++ List.replicate (64 - KB.length) (0 : UInt8) := ⟨_, rfl⟩
  have hKl : K.length = 64 := by rw [hK, List.length_append, List.length_replicate]; omega
  have HKX : Hid (K.map (· ^^^ by_) = keyX key by_) := hide (by rw [hK, keyX, HKB.out])
  have HSPL : Hid (splice (blC zb64) 0 (blC (KB.take KB.length)) = blC K) := hide (by
    rw [List.take_length, blC_splice, hK]
    congr 1
    rw [List.take_zero, List.nil_append, Nat.zero_add]
    congr 1
    rw [zb64, List.drop_replicate])
  have HMIN : Hid (min n2 64 = KB.length) := hide (by have := HR2.out.1; omega)
  have HKL64 := hide hKl
  clear hK hkl hKl
  go_wp2_with ((with_reducible show wpList _ _ _ (Oper.mk (some 18) _ _ _ _ _ :: _) _ _); go_loud (refine at_copy8g (P := Tryd.prog) 5 Tryd.underlying22 (by kernel_rfl) w.heap.size 0 64 64 HR2.out rfl rfl _ _ HZ2.out KB.length HMIN.out (by rw [blC_size, Nat.zero_add]; exact HKL.out) _ HSPL.out ?_; intro w3 HZ3 hgr3))
  have HB3 : Hid (Below w.heap.size w w3) := hide ⟨hgr3.os.trans HB2.out.os, hgr3.tape.trans HB2.out.tape, hgr3.output.trans HB2.out.output, Nat.le_trans HB2.out.size hgr3.size, fun j hj => (hgr3.block j (Nat.lt_of_lt_of_le hj HB2.out.size) (fun e => by have := Option.some.inj e; omega)).trans (HB2.out.block j hj)⟩
  clear hgr3
  go_loopw [19] (fun i wr => ∃ (k : Nat), k ≤ 64 ∧ i = .int .i64 (k : Int) ∧ Hid (wr.heap[w.heap.size]? = some (.cells (blC (xorl K by_ k)) 153)) ∧ Hid (Below w.heap.size w wr)) (fun i _ => 64 - (intOf i).toNat)
  case atStart => exact ⟨0, Nat.zero_le _, rfl, hide (by rw [xorl_start]; exact HZ3.out), HB3⟩
  case round =>
    obtain ⟨k, hk, rfl, HZ, HB⟩ := hrel
    have hwr := HB.out.size
    have hzs := (Array.getElem?_eq_some_iff.1 HZ.out).1
    by_cases hlt : k < 64
    · obtain ⟨x, hx⟩ : ∃ x, K[k]? = some x := ⟨_, List.getElem?_eq_getElem (by have := HKL64.out; omega)⟩
      have hcx := (cell_of_row wr _ k _ _ _ HZ.out).trans (blC_at _ ((xorl_at (b := by_) (by have := HKL64.out; omega)).trans hx))
      have hfz := frozen_of_row wr w.heap.size k _ _ HZ.out
      have HST := hide (xorl_set (b := by_) hx)
      have hxx := b_xor x by_
      clear hx
      go_wp2_with fail
      go_roundw
      case rel =>
        refine ⟨k + 1, by omega, by simp, ?_, hide (bsetCell HB.out (Nat.le_refl _) _ _)⟩
        have := heap_setCell_at (i := k) (bv (x ^^^ by_)) HZ.out
        rw [blC_set, HST.out] at this
        exact hide this
      case measure => simp [intOf]; omega
    · obtain rfl : k = 64 := by omega
      go_wp2_with fail
      refine (c_dnew wr).mono ?_
      rintro e w5 ⟨g, rfl, hg, hd5, b5⟩
      have hz5 := (b5.block _ hzs).trans HZ.out
      rw [xorl_end (b := by_) HKL64.out, HKX.out] at hz5
      have hrow : kU8.Row (fun k => k = w.heap.size) w5 (some ⟨w.heap.size, 0, none⟩) 64 64 (keyX key by_) := by
        have := row_all (ok := fun k => k = w.heap.size) hz5 rfl (by rw [keyX_len]; decide)
        rwa [keyX_len] at this
      have HROW := hide hrow
      have HD5 := hide hd5
      have HB5 := hide (HB.out.trans (b5.mono hwr))
      have hws := HB5.out.size
      clear hz5 hrow hd5 b5
      go_wp2_with fail
      refine (c_dwrite g [] (keyX key by_) _ 64 64 _ w5 HD5.out HROW.out (fun k hk => by omega) (HP.out.below HB5.out HP.out.1) (by omega) (by simp)).mono ?_
      rintro e w6 ⟨rfl, hd6, gr6⟩
      have HD6 := hide hd6
      have HB6 : Hid (Below w.heap.size w w6) := hide ⟨gr6.os.trans HB5.out.os, gr6.tape.trans HB5.out.tape, gr6.output.trans HB5.out.output, Nat.le_trans HB5.out.size gr6.size, fun j hj => (gr6.block j (Nat.lt_of_lt_of_le hj HB5.out.size) (fun e => by have := Option.some.inj e; omega)).trans (HB5.out.block j hj)⟩
      clear hd6 gr6
      go_wp2_with fail
      go_ret
      exact ⟨g, rfl, by omega, by simpa using HD6.out, HB6.out⟩

set_option maxRecDepth 100000 in
set_option maxHeartbeats 1600000 in
theorem c_turned1 (A : Option Addr) (n c : Nat) (key : List UInt8) (by_ : UInt8) (ok : Nat → Prop) (w : World) (hR : kU8.Row ok w A n c key) (hP : PrimesAt w) (hn : 64 < n) (hn2 : n < 1152921504606846976) :
    Calls Tryd.prog 68 #[.slice A n c, bv by_] w fun e w' => ∃ g, e = .returned (.pointer (some ⟨g, 0, none⟩)) ∧ w.heap.size ≤ g ∧ DigAt w' g (keyX key by_) ∧ Below w.heap.size w w' := by
  have HP := hide hP
  have HR := hide hR
  have hp0 := hP.1
  have HN := hide hn2
  clear hR hP hn2
  go_enter Tryd.func68, Tryd.ntmps68
  go_wp2_with fail
  obtain ⟨W2, hW2⟩ : ∃ W2, W2 = (w.alloc (.cells (blC zb64) 153)).alloc (.cells #[.slice A n c] 22) := ⟨_, rfl⟩
  rw [← hW2]
  have hB0 : Below w.heap.size w W2 := by rw [hW2]; exact below2 _ _ _
  have hs0 : W2.heap.size = w.heap.size + 1 + 1 := by rw [hW2]; simp only [World.size_alloc]
  have hz0 : W2.heap[w.heap.size]? = some (.cells (blC zb64) 153) := by
    rw [hW2, Below.heap_alloc _ _ _ (by simp only [World.size_alloc]; omega)]
    exact heap_alloc_new _ _
  have hc0 : W2.heap[w.heap.size + 1]? = some (.cells #[.slice A n c] 22) := by
    rw [hW2]
    have := heap_alloc_new (w.alloc (.cells (blC zb64) 153)) (.cells #[.slice A n c] 22)
    simpa only [World.size_alloc] using this
  clear hW2
  have hr0 : kRow8.Row (fun _ => True) W2 (some ⟨w.heap.size + 1, 0, none⟩) 1 1 [key] := row8_one hc0 (row8 (HR.out.below hB0) (fun _ _ _ => trivial)) trivial
  have hP2 := HP.out.below hB0 HP.out.1
  have hkl : key.length = n := HR.out.1
  refine (c_digof _ 1 1 [key] _ W2 hr0 hP2 (by have := HN.out; simp; omega)).mono ?_
  rintro e w2 ⟨rfl, b2⟩
  rw [show [key].flatten = key by simp]
  obtain ⟨t, htt⟩ : ∃ t, t = shaT key := ⟨_, rfl⟩
  rw [← htt]
  obtain ⟨KB, hKB⟩ : ∃ KB, KB = t.l := ⟨_, rfl⟩
  have HKB : Hid (KB = keyB key) := hide (by rw [keyB, if_pos (by rw [hkl]; exact hn), hKB, htt]; rfl)
  have HKL : Hid (KB.length ≤ 64) := hide (by rw [hKB, t.len]; decide)
  have hsz2 := b2.size
  have HZ2 : Hid ((w2.alloc (.cells (tgC t) 29)).heap[w.heap.size]? = some (.cells (blC zb64) 153)) := hide ((Below.heap_alloc _ _ _ (by omega)).trans ((b2.block _ (by omega)).trans hz0))
  have HB2 : Hid (Below w.heap.size w (w2.alloc (.cells (tgC t) 29))) := hide (hB0.trans ((b2.mono hB0.size).trans ((below1 w2 _).mono (by omega))))
  have HR2 : Hid (kU8.Row (fun k => w.heap.size < k) (w2.alloc (.cells (tgC t) 29)) (some ⟨w2.heap.size, 0, none⟩) 32 32 KB) := hide (by
    have hq : (w2.alloc (.cells (tgC t) 29)).heap[w2.heap.size]? = some (.cells (blC KB) 29) := by rw [heap_alloc_new, hKB, tgC_bl]
    have hl : KB.length = 32 := by rw [hKB, t.len]
    have := row_all (ok := fun k => w.heap.size < k) hq (by omega) (by rw [hl]; decide)
    rwa [hl] at this)
  have hgw : w.heap.size < w2.heap.size := by omega
  clear hKB htt hsz2 hr0 hP2 hB0 hs0 hz0 hc0 b2 hkl

  -- the key's block
  have hkl : KB.length ≤ 64 := HKL.out
  obtain ⟨K, hK⟩ : ∃ K, K = KB ++ List.replicate (64 - KB.length) (0 : UInt8) := ⟨_, rfl⟩
  have hKl : K.length = 64 := by rw [hK, List.length_append, List.length_replicate]; omega
  have HKX : Hid (K.map (· ^^^ by_) = keyX key by_) := hide (by rw [hK, keyX, HKB.out])
  have HSPL : Hid (splice (blC zb64) 0 (blC (KB.take KB.length)) = blC K) := hide (by
    rw [List.take_length, blC_splice, hK]
    congr 1
    rw [List.take_zero, List.nil_append, Nat.zero_add]
    congr 1
    rw [zb64, List.drop_replicate])
  have HMIN : Hid (min 32 64 = KB.length) := hide (by have := HR2.out.1; omega)
  have HKL64 := hide hKl
  clear hK hkl hKl
  go_wp2_with ((with_reducible show wpList _ _ _ (Oper.mk (some 18) _ _ _ _ _ :: _) _ _); go_loud (refine at_copy8g (P := Tryd.prog) 5 Tryd.underlying22 (by kernel_rfl) w.heap.size 0 64 64 HR2.out rfl rfl _ _ HZ2.out KB.length HMIN.out (by rw [blC_size, Nat.zero_add]; exact HKL.out) _ HSPL.out ?_; intro w3 HZ3 hgr3))
  have HB3 : Hid (Below w.heap.size w w3) := hide ⟨hgr3.os.trans HB2.out.os, hgr3.tape.trans HB2.out.tape, hgr3.output.trans HB2.out.output, Nat.le_trans HB2.out.size hgr3.size, fun j hj => (hgr3.block j (Nat.lt_of_lt_of_le hj HB2.out.size) (fun e => by have := Option.some.inj e; omega)).trans (HB2.out.block j hj)⟩
  clear hgr3
  go_loopw [19] (fun i wr => ∃ (k : Nat), k ≤ 64 ∧ i = .int .i64 (k : Int) ∧ Hid (wr.heap[w.heap.size]? = some (.cells (blC (xorl K by_ k)) 153)) ∧ Hid (Below w.heap.size w wr)) (fun i _ => 64 - (intOf i).toNat)
  case atStart => exact ⟨0, Nat.zero_le _, rfl, hide (by rw [xorl_start]; exact HZ3.out), HB3⟩
  case round =>
    obtain ⟨k, hk, rfl, HZ, HB⟩ := hrel
    have hwr := HB.out.size
    have hzs := (Array.getElem?_eq_some_iff.1 HZ.out).1
    by_cases hlt : k < 64
    · obtain ⟨x, hx⟩ : ∃ x, K[k]? = some x := ⟨_, List.getElem?_eq_getElem (by have := HKL64.out; omega)⟩
      have hcx := (cell_of_row wr _ k _ _ _ HZ.out).trans (blC_at _ ((xorl_at (b := by_) (by have := HKL64.out; omega)).trans hx))
      have hfz := frozen_of_row wr w.heap.size k _ _ HZ.out
      have HST := hide (xorl_set (b := by_) hx)
      have hxx := b_xor x by_
      clear hx
      go_wp2_with fail
      go_roundw
      case rel =>
        refine ⟨k + 1, by omega, by simp, ?_, hide (bsetCell HB.out (Nat.le_refl _) _ _)⟩
        have := heap_setCell_at (i := k) (bv (x ^^^ by_)) HZ.out
        rw [blC_set, HST.out] at this
        exact hide this
      case measure => simp [intOf]; omega
    · obtain rfl : k = 64 := by omega
      go_wp2_with fail
      refine (c_dnew wr).mono ?_
      rintro e w5 ⟨g, rfl, hg, hd5, b5⟩
      have hz5 := (b5.block _ hzs).trans HZ.out
      rw [xorl_end (b := by_) HKL64.out, HKX.out] at hz5
      have hrow : kU8.Row (fun k => k = w.heap.size) w5 (some ⟨w.heap.size, 0, none⟩) 64 64 (keyX key by_) := by
        have := row_all (ok := fun k => k = w.heap.size) hz5 rfl (by rw [keyX_len]; decide)
        rwa [keyX_len] at this
      have HROW := hide hrow
      have HD5 := hide hd5
      have HB5 := hide (HB.out.trans (b5.mono hwr))
      have hws := HB5.out.size
      clear hz5 hrow hd5 b5
      go_wp2_with fail
      refine (c_dwrite g [] (keyX key by_) _ 64 64 _ w5 HD5.out HROW.out (fun k hk => by omega) (HP.out.below HB5.out HP.out.1) (by omega) (by simp)).mono ?_
      rintro e w6 ⟨rfl, hd6, gr6⟩
      have HD6 := hide hd6
      have HB6 : Hid (Below w.heap.size w w6) := hide ⟨gr6.os.trans HB5.out.os, gr6.tape.trans HB5.out.tape, gr6.output.trans HB5.out.output, Nat.le_trans HB5.out.size gr6.size, fun j hj => (gr6.block j (Nat.lt_of_lt_of_le hj HB5.out.size) (fun e => by have := Option.some.inj e; omega)).trans (HB5.out.block j hj)⟩
      clear hd6 gr6
      go_wp2_with fail
      go_ret
      exact ⟨g, rfl, by omega, by simpa using HD6.out, HB6.out⟩
end Go.Proofs.YtdkeflhgengblaaDoor
namespace Go.Proofs.YtdkeflhgengblaaDoor
open Go.RowKit
attribute [local go_sem ↓] ld8 ld32 ld64 ld73
attribute [local go_sem] run_ldAgg run_storeAgg agg_alloc_at agg_alloc_past agg_drew agg_setCell row_alloc_at row_alloc_past row_drew setRow_alloc_at setRow_alloc_past setRow_drew agg_setRow_at agg_setRow_far cell_setRow_at cell_setRow_far row_setRow_far size_setRow s8C_size s8C_part s8C_one s8C_splice0 s8C_ne dgC_size dgC_72 dgC_part dgC_h dgC_r dgC_splice_h dgC_set dgC_one dgC_splice0 dgC_ne zero_dg
attribute [local go_sem] tgC_size tgC_one tgC_part tgC_splice tgC_splice_any zero_tg tgC_ne

theorem c_turned (A : Option Addr) (n c : Nat) (key : List UInt8) (by_ : UInt8) (ok : Nat → Prop) (w : World) (hR : kU8.Row ok w A n c key) (hP : PrimesAt w) (hn2 : n < 1152921504606846976) :
    Calls Tryd.prog 68 #[.slice A n c, bv by_] w fun e w' => ∃ g, e = .returned (.pointer (some ⟨g, 0, none⟩)) ∧ w.heap.size ≤ g ∧ DigAt w' g (keyX key by_) ∧ Below w.heap.size w w' := by
  by_cases h : n ≤ 64
  · exact c_turned0 A n c key by_ ok w hR hP h
  · exact c_turned1 A n c key by_ ok w hR hP (by omega) hn2
/-- A mac to which bytes were written; its blocks are from base on. -/
def MacAt (w : World) (base m : Nat) (key xs : List UInt8) : Prop :=
  ∃ gi go, w.heap[m]? = some (.cells #[.pointer (some ⟨gi, 0, none⟩), .pointer (some ⟨go, 0, none⟩)] 123) ∧ DigAt w gi (keyX key 54 ++ xs) ∧ DigAt w go (keyX key 92) ∧ gi ≠ go ∧ m ≠ gi ∧ m ≠ go ∧ base ≤ m ∧ base ≤ gi ∧ base ≤ go
theorem MacAt.ext {w w' : World} {base m : Nat} {key xs : List UInt8} (h : MacAt w base m key xs) (hb : Below w.heap.size w w') : MacAt w' base m key xs :=
  let ⟨gi, go, h1, h2, h3, h4⟩ := h; ⟨gi, go, (hb.block m (Array.getElem?_eq_some_iff.1 h1).1).trans h1, h2.ext hb, h3.ext hb, h4⟩
theorem below_of_grown {B g : Nat} {w w' : World} (h : w.grownBy w' (some g)) (hB : B ≤ w.heap.size) (hg : B ≤ g) : Below B w w' :=
  ⟨h.os, h.tape, h.output, h.size, fun k hk => h.block k (by omega) (fun e => by have := Option.some.inj e; omega)⟩
set_option maxRecDepth 100000 in
set_option maxHeartbeats 400000 in
theorem c_mnew (A : Option Addr) (n c : Nat) (key : List UInt8) (ok : Nat → Prop) (w : World) (hR : kU8.Row ok w A n c key) (hP : PrimesAt w) (hn2 : n < 1152921504606846976) :
    Calls Tryd.prog 13 #[.slice A n c] w fun e w' => ∃ m, e = .returned (.pointer (some ⟨m, 0, none⟩)) ∧ MacAt w' w.heap.size m key [] ∧ Below w.heap.size w w' := by
  have HR := hide hR
  have HP := hide hP
  have HN := hide hn2
  clear hR hP hn2
  go_enter Tryd.func13, Tryd.ntmps13
  go_wp2_with fail
  refine (c_turned A n c key 54 ok w HR.out HP.out HN.out).mono ?_
  rintro e w1 ⟨gi, rfl, hgi, hd1, b1⟩
  have HD1 := hide hd1
  have HB1 := hide b1
  have hws := b1.size
  have hgi1 := hd1.lt
  clear hd1 b1
  go_wp2_with fail
  refine (c_turned A n c key 92 ok w1 (HR.out.below HB1.out) (HP.out.ext HB1.out) HN.out).mono ?_
  rintro e w2 ⟨go, rfl, hgo, hd2, b2⟩
  have HD2 := hide hd2
  have HD12 := hide (HD1.out.ext b2)
  have HB2 := hide (bnext HB1.out b2)
  have hgo2 := hd2.lt
  have hws2 := b2.size
  clear hd2 b2
  go_wp2_with fail
  go_ret
  exact ⟨_, rfl, ⟨gi, go, heap_alloc_new _ _, by rw [List.append_nil]; exact HD12.out.ext (below1 _ _), HD2.out.ext (below1 _ _), by omega, by omega, by omega, by omega, by omega, by omega⟩, bnext HB2.out (below1 _ _)⟩
set_option maxRecDepth 100000 in
set_option maxHeartbeats 400000 in
theorem c_mwrite (base m : Nat) (key xs ys : List UInt8) (A : Option Addr) (n c : Nat) (w : World) (hM : MacAt w base m key xs) (hR : kU8.Row (· < base) w A n c ys) (hP : PrimesAt w) (hb : base ≤ w.heap.size) (hb0 : 0 < base) (hn : xs.length + n < 1152921504606846976) :
    Calls Tryd.prog 14 #[.pointer (some ⟨m, 0, none⟩), .slice A n c] w fun e w' => e = .returned (.tuple #[]) ∧ MacAt w' base m key (xs ++ ys) ∧ Below base w w' := by
  obtain ⟨gi, go, hm, hdi, hdo, n1, n2, n3, b1, b2, b3⟩ := hM
  have HM := hide hm
  have HDI := hide hdi
  have HDO := hide hdo
  have HR := hide hR
  have HP := hide hP
  have HN := hide hn
  have hms := (Array.getElem?_eq_some_iff.1 hm).1
  have hc0 : w.cell? ⟨m, 0, none⟩ = some (.pointer (some ⟨gi, 0, none⟩)) := (cell_of_row w m 0 _ _ _ hm).trans rfl
  have hos := hdo.lt
  clear hm hdi hdo hR hP hn
  go_enter Tryd.func14, Tryd.ntmps14
  go_wp2_with fail
  refine (c_dwrite gi _ ys A n c _ w HDI.out HR.out (fun k hk => by omega) HP.out (by omega) (by rw [List.length_append, keyX_len]; have := HN.out; omega)).mono ?_
  rintro e w2 ⟨rfl, hd2, gr⟩
  have HFIN : Hid (MacAt w2 base m key (xs ++ ys)) := hide ⟨gi, go, (gr.block m hms (fun e => n2 (Option.some.inj e))).trans HM.out, by rw [← List.append_assoc]; exact hd2, HDO.out.of_heap (gr.block go hos (fun e => n1 (Option.some.inj e).symm)), n1, n2, n3, b1, b2, b3⟩
  have HBB := hide (below_of_grown gr hb b2)
  clear hd2 gr
  go_wp2_with fail
  exact bodyPost_end (v := .tuple #[]) (by simp [results, Tryd.results14, go_sem]) rfl ⟨rfl, HFIN.out, HBB.out⟩
/-- A mac as a tag. -/
def macT (key xs : List UInt8) : Tg := ⟨mac key xs, rfl⟩
set_option maxRecDepth 100000 in
set_option maxHeartbeats 800000 in
theorem c_msum (base m : Nat) (key xs : List UInt8) (w : World) (hM : MacAt w base m key xs) (hP : PrimesAt w) (hn : xs.length < 576460752303423488) :
    Calls Tryd.prog 15 #[.pointer (some ⟨m, 0, none⟩)] w fun e w' => e = .returned (tgV (macT key xs)) ∧ Below w.heap.size w w' := by
  obtain ⟨gi, go, hm, hdi, hdo, -⟩ := hM
  have HDI := hide hdi
  have HDO := hide hdo
  have HP := hide hP
  have HN := hide hn
  have hms := (Array.getElem?_eq_some_iff.1 hm).1
  have hc0 : (w.alloc (.cells (tgC Tg.zero) 29)).cell? ⟨m, 0, none⟩ = some (.pointer (some ⟨gi, 0, none⟩)) := (cell_of_row _ m 0 _ _ _ ((Below.heap_alloc w _ m hms).trans hm)).trans rfl
  have HM := hide hm
  clear hm hdi hdo hP hn
  go_enter Tryd.func15, Tryd.ntmps15
  go_wp2_with fail
  obtain ⟨W1, hW1⟩ : ∃ W1, W1 = w.alloc (.cells (tgC Tg.zero) 29) := ⟨_, rfl⟩
  rw [← hW1]
  have hB1 : Below w.heap.size w W1 := by rw [hW1]; exact below1 _ _
  have hs1 : W1.heap.size = w.heap.size + 1 := by rw [hW1]; simp only [World.size_alloc]
  have hz1 : W1.heap[w.heap.size]? = some (.cells (tgC Tg.zero) 29) := by rw [hW1]; exact heap_alloc_new _ _
  clear hW1 hc0
  refine (c_dsum gi _ W1 (HDI.out.ext hB1) (HP.out.ext hB1) (by rw [List.length_append, keyX_len]; have := HN.out; omega)).mono ?_
  rintro e w2 ⟨rfl, b2⟩
  obtain ⟨t, htt⟩ : ∃ t, t = shaT (keyX key 54 ++ xs) := ⟨_, rfl⟩
  rw [← htt]
  have HTT := hide htt
  have hB2 := hB1.trans (b2.mono hB1.size)
  have hsz2 := b2.size
  have HB2 := hide (hB2.trans ((below1 w2 (.cells (tgC t) 29)).mono hB2.size))
  have HZ2 := hide ((Below.heap_alloc w2 (.cells (tgC t) 29) _ (by omega)).trans ((b2.block w.heap.size (by omega)).trans hz1))
  have hm2 : (w2.alloc (.cells (tgC t) 29)).heap[m]? = _ := (HB2.out.block m hms).trans HM.out
  have hc1 := (cell_of_row _ m 1 _ _ _ hm2).trans rfl
  have HDO2 := hide (HDO.out.of_heap (HB2.out.block go HDO.out.lt))
  have HT2 := hide (heap_alloc_new w2 (.cells (tgC t) 29))
  have hws1 := HB2.out.size
  clear htt hB2 hB1 hz1 b2 hm2
  go_wp2_with fail
  refine (c_dclone go _ _ HDO2.out).mono ?_
  rintro e w3 ⟨g', rfl, hg', hd3, b3⟩
  have HD3 := hide hd3
  have HB3 := hide (HB2.out.trans (b3.mono hws1))
  have hg2 : w2.heap.size + 1 ≤ g' := by simpa only [World.size_alloc] using hg'
  have hsz3 := b3.size
  rw [World.size_alloc] at hsz3
  have HZ3 := hide ((b3.block w.heap.size (by simp only [World.size_alloc]; omega)).trans HZ2.out)
  have ht3 := (b3.block w2.heap.size (by simp only [World.size_alloc]; omega)).trans HT2.out
  have hrow : kU8.Row (fun k => k = w2.heap.size) w3 (some ⟨w2.heap.size, 0, none⟩) 32 32 t.l := by
    rw [tgC_bl] at ht3
    have := row_all (ok := fun k => k = w2.heap.size) ht3 rfl (by rw [t.len]; decide)
    rwa [t.len] at this
  have HROW := hide hrow
  have hws3 := HB3.out.size
  clear hd3 b3 hg' ht3 hrow hc1
  go_wp2_with fail
  refine (c_dwrite g' _ t.l _ 32 32 _ w3 HD3.out HROW.out (fun k hk => by omega) (HP.out.ext HB3.out) (by omega) (by rw [keyX_len]; decide)).mono ?_
  rintro e w4 ⟨rfl, hd4, gr4⟩
  have HD4 : Hid (DigAt w4 g' (keyX key 92 ++ sha (keyX key 54 ++ xs))) := hide (by
    have h := hd4
    rw [HTT.out] at h
    exact h)
  have HB4 := hide (HB3.out.trans (below_of_grown (B := w.heap.size) gr4 hws3 (by omega)))
  have hg3 := HD3.out.lt
  have HZ4 := hide ((gr4.block w.heap.size (by omega) (fun e => by have := Option.some.inj e; omega)).trans HZ3.out)
  have hz4s := (Array.getElem?_eq_some_iff.1 HZ4.out).1
  have hws4 := HB4.out.size
  clear hd4 gr4
  go_wp2_with fail
  refine (c_dsum g' _ w4 HD4.out (HP.out.ext HB4.out) (by rw [List.length_append, keyX_len, sha_len]; decide)).mono ?_
  obtain ⟨u, huu⟩ : ∃ u, u = shaT (keyX key 92 ++ sha (keyX key 54 ++ xs)) := ⟨_, rfl⟩
  rw [← huu]
  have HUU : Hid (macT key xs = u) := hide (by rw [huu]; rfl)
  rintro e w5 ⟨rfl, b5⟩
  have hz5 := (b5.block w.heap.size hz4s).trans HZ4.out
  have hrz := row_of hz5
  have HB5 := hide (bsetRow (HB4.out.trans (b5.mono hws4)) (Nat.le_refl _) (tgC u))
  have hag9 : agg? (w5.setRow w.heap.size (tgC u)) ⟨w.heap.size, 0, none⟩ 32 = some (tgC u) := (agg_setRow_at _ _ _ _ _ (by rw [hrz]; rfl) (by decide)).trans (tgC_part u)
  clear b5 hz5 huu
  go_wp2_with fail
  exact bodyPost_ret (v := tgV u) (by simp [results, Tryd.results15, go_sem, hag9]) rfl ⟨by rw [HUU.out], HB5.out⟩
end Go.Proofs.YtdkeflhgengblaaDoor
namespace Go.Proofs.YtdkeflhgengblaaDoor
open Go.RowKit
attribute [local go_sem ↓] ld8 ld32 ld64 ld73
attribute [local go_sem] run_ldAgg run_storeAgg agg_alloc_at agg_alloc_past agg_drew agg_setCell row_alloc_at row_alloc_past row_drew setRow_alloc_at setRow_alloc_past setRow_drew agg_setRow_at agg_setRow_far cell_setRow_at cell_setRow_far row_setRow_far size_setRow s8C_size s8C_part s8C_one s8C_splice0 s8C_ne dgC_size dgC_72 dgC_part dgC_h dgC_r dgC_splice_h dgC_set dgC_one dgC_splice0 dgC_ne zero_dg
attribute [local go_sem] tgC_size tgC_one tgC_part tgC_splice tgC_splice_any zero_tg tgC_ne

set_option maxRecDepth 100000 in
set_option maxHeartbeats 1600000 in
theorem c_mof (A B : Option Addr) (n c m d : Nat) (key : List UInt8) (l : List (List UInt8)) (ok ok' : Nat → Prop) (w : World) (hK : kU8.Row ok' w A n c key) (hR : kRow8.Row ok w B m d l) (hP : PrimesAt w) (hn2 : n < 1152921504606846976) (hn : l.flatten.length < 576460752303423488) :
    Calls Tryd.prog 17 #[.slice A n c, .slice B m d] w fun e w' => e = .returned (tgV (macT key l.flatten)) ∧ Below w.heap.size w w' := by
  have HR := hide (hR.bound.more (ok' := fun k => k < w.heap.size + 1) fun k h => Nat.lt_succ_of_lt h.2)
  have HK := hide hK
  have HP := hide hP
  have HN := hide hn
  have HN2 := hide hn2
  have hll := hR.1
  have hm63 : m ≤ 9223372036854775807 := Nat.le_trans hR.2.1 hR.2.2.1
  clear hR hP hn hn2 hK
  go_enter Tryd.func17, Tryd.ntmps17
  go_wp2_with fail
  obtain ⟨W1, hW1⟩ : ∃ W1, W1 = w.alloc (.cells (tgC Tg.zero) 29) := ⟨_, rfl⟩
  rw [← hW1]
  have hB1 : Below w.heap.size w W1 := by rw [hW1]; exact below1 _ _
  have hs1 : W1.heap.size = w.heap.size + 1 := by rw [hW1]; simp only [World.size_alloc]
  have hz1 : W1.heap[w.heap.size]? = some (.cells (tgC Tg.zero) 29) := by rw [hW1]; exact heap_alloc_new _ _
  clear hW1
  refine (c_mnew A n c key _ W1 (HK.out.below hB1) (HP.out.ext hB1) HN2.out).mono ?_
  rintro e w2 ⟨g, rfl, hm2, b2⟩
  rw [hs1] at hm2
  have HM2 := hide hm2
  have HB2 := hide (hB1.trans (b2.mono hB1.size))
  have HZ2 := hide ((b2.block w.heap.size (by omega)).trans hz1)
  have hsz2 := b2.size
  rw [hs1] at hsz2
  have HLL := hide hll
  clear hm2 b2 hB1 hs1 hz1 hll
  go_wp2_with fail
  go_loopw [12] (fun i wr => ∃ (k : Nat), k ≤ m ∧ i = .int .i64 (k : Int) ∧ Hid (MacAt wr (w.heap.size + 1) g key (l.take k).flatten) ∧ Hid (wr.heap[w.heap.size]? = some (.cells (tgC Tg.zero) 29)) ∧ w.heap.size + 1 ≤ wr.heap.size ∧ Hid (Below w.heap.size w wr)) (fun i _ => m - (intOf i).toNat)
  case atStart => exact ⟨0, Nat.zero_le _, rfl, HM2, HZ2, hsz2, HB2⟩
  case round =>
    obtain ⟨k, hk, rfl, HM, HZ, hwr1, HB⟩ := hrel
    have hwr := HB.out.size
    by_cases hlt : k < m
    · obtain ⟨x, hx⟩ : ∃ x, l[k]? = some x := ⟨_, List.getElem?_eq_getElem (by have := HLL.out; omega)⟩
      obtain ⟨q, o, cs, hix, -, hbl, hKx, hra⟩ := (HR.out.below HB.out).index (P := Tryd.prog) Tryd.underlying23 (E := 22) bytes_info hx
      obtain ⟨A2, n2, c2, rfl, hr2⟩ := hKx
      have HR2 := hide hr2
      have hce : wr.cell? ⟨q, o, none⟩ = some (.slice A2 n2 c2) := by simpa using hra 0 _ rfl
      have HTK := hide (flat_take_succ hx)
      have HFP := hide (flat_part hx)
      clear hx hra hr2
      go_wp2_with fail
      refine (c_mwrite (w.heap.size + 1) g key _ x A2 n2 c2 wr HM.out HR2.out (HP.out.ext HB.out) hwr1 (by omega) (by have := HFP.out; have := HN.out; have := HR2.out.1; omega)).mono ?_
      rintro e w3 ⟨rfl, hm3, b3⟩
      have HM3 : Hid (MacAt w3 (w.heap.size + 1) g key (l.take (k + 1)).flatten) := hide (by rw [HTK.out]; exact hm3)
      have HB3 := hide (HB.out.trans (b3.mono (Nat.le_succ _)))
      have HZ3 := hide ((b3.block w.heap.size (Nat.lt_succ_self _)).trans HZ.out)
      have hw3 := b3.size
      clear hm3 b3 hix hce
      go_wp2_with fail
      go_roundw
      case rel => exact ⟨k + 1, by omega, by simp, HM3, HZ3, by omega, HB3⟩
      case measure => simp [intOf]; omega
    · obtain rfl : m = k := by omega
      go_wp2_with fail
      have hm9 := HM.out
      rw [List.take_of_length_le (show l.length ≤ m by have := HLL.out; omega)] at hm9
      refine (c_msum _ g key _ wr hm9 (HP.out.ext HB.out) HN.out).mono ?_
      obtain ⟨t, htt⟩ : ∃ t, t = macT key l.flatten := ⟨_, rfl⟩
      rw [← htt]
      have HTT := hide htt
      clear htt hm9
      rintro e w9 ⟨rfl, b9⟩
      have hz9 := (b9.block w.heap.size hwr1).trans HZ.out
      have hrz := row_of hz9
      have HB9 := hide (bsetRow (HB.out.trans (b9.mono hwr)) (Nat.le_refl _) (tgC t))
      have hag9 : agg? (w9.setRow w.heap.size (tgC t)) ⟨w.heap.size, 0, none⟩ 32 = some (tgC t) := (agg_setRow_at _ _ _ _ _ (by rw [hrz]; rfl) (by decide)).trans (tgC_part t)
      clear b9 hz9
      go_wp2_with fail
      exact bodyPost_ret (v := tgV t) (by simp [results, Tryd.results17, go_sem, hag9]) rfl ⟨by rw [HTT.out], HB9.out⟩
end Go.Proofs.YtdkeflhgengblaaDoor
namespace Go.Proofs.YtdkeflhgengblaaDoor
open Go.RowKit
def kW : Kd UInt32 := Kd.cell wv (fun _ => rfl) (fun _ => True)
theorem w_info : (Tryd.prog.info? 155).map (fun i => (i.zero, i.size, i.bytes)) = some (some (.int .u32 0), 1, 4) := by kernel_rfl
theorem w_info1 : (Tryd.prog.info? 155).map (·.size) = some kW.sz := by kernel_rfl
theorem row_word {ok : Nat → Prop} {w : World} {A : Option Addr} {n c : Nat} {l : List UInt32} (h : kW.Row ok w A n c l) {i : Nat} {x : UInt32} (hx : l[i]? = some x) :
    ∃ p o, (∀ wx : World, (Instr.indexAt 161 (.slice A n c) (.int .i64 (i : Int))).run Tryd.prog wx = .ok (.pointer (some ⟨p, o, none⟩)) wx) ∧ w.cell? ⟨p, o, none⟩ = some (wv x) ∧ p < w.heap.size := by
  obtain ⟨b, o, cs, h1, -, hb, hk, hr⟩ := h.index (P := Tryd.prog) Tryd.underlying161 (E := 155) w_info1 hx
  obtain ⟨rfl, -⟩ := hk
  exact ⟨b, o, h1, by simpa using hr 0 _ rfl, hb⟩
theorem row_byte {ok : Nat → Prop} {w : World} {A : Option Addr} {n c : Nat} {l : List UInt8} (h : kU8.Row ok w A n c l) {i : Nat} {x : UInt8} (hx : l[i]? = some x) :
    ∃ p o, (∀ wx : World, (Instr.indexAt 22 (.slice A n c) (.int .i64 (i : Int))).run Tryd.prog wx = .ok (.pointer (some ⟨p, o, none⟩)) wx) ∧ w.cell? ⟨p, o, none⟩ = some (bv x) ∧ p < w.heap.size := by
  obtain ⟨b, o, cs, h1, -, hb, hk, hr⟩ := h.index (P := Tryd.prog) Tryd.underlying22 (E := 5) u8_info1 hx
  obtain ⟨rfl, -⟩ := hk
  exact ⟨b, o, h1, by simpa using hr 0 _ rfl, hb⟩
theorem w_or_comm (x y : UInt32) : x ||| y = y ||| x := by
  apply UInt32.toBitVec_inj.1
  rw [UInt32.toBitVec_or, UInt32.toBitVec_or, BitVec.or_comm]
theorem rot_is2 (x : UInt32) (n s : Nat) (h : n + s = 32) (h1 : 0 < n) (h2 : 0 < s) : bits .or .u32 ((x.toNat : Int) / 2 ^ n) (((x.toNat : Int) * 2 ^ s) % 4294967296) = ((rotr x (UInt32.ofNat n)).toNat : Int) := by
  rw [← rot_is x n s h h1 h2, w_shl x s (by omega), w_shr x n (by omega), w_or, w_or, w_or_comm]
set_option maxRecDepth 100000 in
theorem c_rturn (x : UInt32) (n : Nat) (w : World) (h1 : 0 < n) (h2 : n < 32) : Calls Tryd.prog 126 #[wv x, .int .u64 (n : Int)] w fun e w' => e = .returned (wv (rotr x (UInt32.ofNat n))) ∧ w' = w := by
  have HR := hide (rot_is2 x n (32 - n) (by omega) h1 (by omega))
  have h31 : n ≤ 31 := by omega
  go_enter Tryd.func126, Tryd.ntmps126
  go_wp2
  go_ret
  refine ⟨congrArg (fun z => Ending.returned (.int .u32 z)) (?_ : bits .or .u32 ((x.toNat : Int) / 2 ^ n) (((x.toNat : Int) * 2 ^ (32 - n)) % 4294967296) = _), rfl⟩
  exact HR.out
theorem bytes_els (ok : Nat → Prop) (w : World) (l : List UInt8) : kU8.Els ok w l (l.map fun x => [bv x]) := ⟨by simp, fun i x cs hx hc => by
  rw [List.getElem?_map, hx] at hc
  rw [← Option.some.inj hc]
  exact ⟨rfl, trivial⟩⟩
theorem bytes_flat (l : List UInt8) : (l.map fun x => [bv x]).flatten = l.map bv := by induction l with
  | nil => rfl
  | cons x l ih => simp [ih]
theorem bytes_lit (w : World) (l : List UInt8) (C : Array Value) (hC : C = blC l) (n : Nat) (hn : l.length = n) (hm : n ≤ maxLen) : kU8.Own (fun _ => True) w.heap.size (w.alloc (.cells C 5)) 5 (.slice (some ⟨w.heap.size, 0, none⟩) n n) l :=
  Kd.Own.lit (css := l.map fun x => [bv x]) (bytes_els _ _ _) C (by rw [bytes_flat, hC, blC]) n hn hm _ rfl (Nat.le_refl _)
set_option maxRecDepth 100000 in
theorem c_rbytes (x : UInt32) (w : World) : Calls Tryd.prog 107 #[wv x] w fun e w' => ∃ v, e = .returned v ∧ kU8.Own (fun _ => True) w.heap.size w' 5 v (put4 x) ∧ Below w.heap.size w w' := by
  have HB := hide (w_byte16 x)
  have HC := hide (w_byte8 x)
  have HD := hide (w_byte0 x)
  go_enter Tryd.func107, Tryd.ntmps107
  go_wp2
  go_ret
  refine ⟨_, rfl, ?_, below1 _ _⟩
  rw [w_byte24, HB.out, HC.out, HD.out]
  exact bytes_lit w (put4 x) _ rfl 4 rfl (by decide)
/-- Words out of a literal. -/
theorem words_els (ok : Nat → Prop) (w : World) (l : List UInt32) : kW.Els ok w l (l.map fun x => [wv x]) := ⟨by simp, fun i x cs hx hc => by
  rw [List.getElem?_map, hx] at hc
  rw [← Option.some.inj hc]
  exact ⟨rfl, trivial⟩⟩
theorem words_flat (l : List UInt32) : (l.map fun x => [wv x]).flatten = l.map wv := by induction l with
  | nil => rfl
  | cons x l ih => simp [ih]
theorem words_lit (w : World) (l : List UInt32) (C : Array Value) (hC : C = wlC l) (n : Nat) (hn : l.length = n) (hm : n ≤ maxLen) : kW.Own (fun _ => True) w.heap.size (w.alloc (.cells C 155)) 155 (.slice (some ⟨w.heap.size, 0, none⟩) n n) l :=
  Kd.Own.lit (css := l.map fun x => [wv x]) (words_els _ _ _) C (by rw [words_flat, hC, wlC]) n hn hm _ rfl (Nat.le_refl _)
set_option maxRecDepth 100000 in
theorem c_rstart (w : World) : Calls Tryd.prog 105 #[] w fun e w' => ∃ v, e = .returned v ∧ kW.Own (fun _ => True) w.heap.size w' 155 v S8.start.list ∧ Below w.heap.size w w' := by
  go_enter Tryd.func105, Tryd.ntmps105
  go_wp2
  go_ret
  exact ⟨_, rfl, words_lit w S8.start.list _ rfl 8 rfl (by decide), below1 _ _⟩
set_option maxRecDepth 100000 in
theorem c_rprimes (w : World) : Calls Tryd.prog 125 #[] w fun e w' => ∃ v, e = .returned v ∧ kW.Own (fun _ => True) w.heap.size w' 155 v primesW ∧ Below w.heap.size w w' := by
  go_enter Tryd.func125, Tryd.ntmps125
  go_wp2
  go_ret
  exact ⟨_, rfl, words_lit w primesW _ rfl 64 rfl (by decide), below1 _ _⟩
def accL (l : List UInt8) : Nat → UInt32
  | 0 => 0
  | k + 1 => accL l k * 256 + (l.getD k 0).toUInt32
theorem accL_get (l : List UInt8) : accL l 4 = get4 l := by
  rw [get4, ← get4r_eq]
  rfl
theorem accL_step (l : List UInt8) (k : Nat) (x : UInt8) (hx : l[k]? = some x) : (accL l (k + 1)).toNat = ((accL l k).toNat * 256 + x.toNat) % 4294967296 := by
  rw [accL, List.getD_eq_getElem?_getD, hx, Option.getD_some, UInt32.toNat_add, UInt32.toNat_mul, UInt8.toNat_toUInt32]
  show ((accL l k).toNat * 256 % 4294967296 + x.toNat) % 4294967296 = _
  omega
set_option maxRecDepth 100000 in
set_option maxHeartbeats 400000 in
theorem c_rget (A : Option Addr) (n c : Nat) (l : List UInt8) (ok : Nat → Prop) (w : World) (hR : kU8.Row ok w A n c l) (h : 4 ≤ l.length) :
    Calls Tryd.prog 136 #[.slice A n c] w fun e w' => e = .returned (wv (get4 l)) ∧ w' = w := by
  have HL := hide h
  have hn4 : 4 ≤ n := by have := hR.1; omega
  have HR := hide hR
  clear hR h
  go_enter Tryd.func136, Tryd.ntmps136
  go_wp2_with fail
  go_loopw [3, 4] (fun v i wr => ∃ (k : Nat), k ≤ 4 ∧ i = .int .i64 (k : Int) ∧ v = wv (accL l k) ∧ w = wr) (fun _ i _ => 4 - (intOf i).toNat)
  case atStart => exact ⟨0, Nat.zero_le _, rfl, rfl, rfl⟩
  case round =>
    obtain ⟨k, hk, rfl, rfl, rfl⟩ := hrel
    by_cases hlt : k < 4
    · obtain ⟨x, hx⟩ : ∃ x, l[k]? = some x := ⟨_, List.getElem?_eq_getElem (by have := HL.out; omega)⟩
      obtain ⟨b0, o0, hi0, hc0, -⟩ := row_byte HR.out hx
      have HST := hide (accL_step l k x hx)
      obtain ⟨a, ha⟩ : ∃ a, a = accL l k := ⟨_, rfl⟩
      rw [← ha] at HST ⊢
      clear hx ha
      go_wp2_with fail
      go_roundw
      case rel =>
        refine ⟨k + 1, by omega, by simp, congrArg (Value.int .u32) ?_, trivial⟩
        rw [HST.out]
        try simp only [IntKind.wrap_u32']
        omega
      case measure => simp [intOf]; omega
    · obtain rfl : k = 4 := by omega
      go_wp2_with fail
      go_ret
      exact ⟨by rw [← accL_get]; rfl, rfl⟩
end Go.Proofs.YtdkeflhgengblaaDoor
namespace Go.Proofs.YtdkeflhgengblaaDoor
open Go.RowKit
theorem append_zeros0 {P : Program} {w : World} {E T TN ty : TypeId} {kn kq : IntKind} (hT : P.underlying T = some (.slice E)) (hTN : P.underlying TN = some (.int kn)) (hinfo : (P.info? E).map (fun i => (i.zero, i.size, i.bytes)) = some (some (.int .u8 0), 1, 1)) (A : Option Addr) (n c : Nat) (hc : n ≤ c) :
    (Builtin.append_ #[T, TN] ty #[.slice A n c, .int kq 0]).run P w = .ok (.slice A n c) w := by
  obtain ⟨i0, hi, hzz⟩ := Option.map_eq_some_iff.1 hinfo
  simp only [Prod.mk.injEq] at hzz
  obtain ⟨hz0, hz1, hz2⟩ := hzz
  have hw : IntKind.i64.wrap 0 = 0 := by decide
  cases A <;> simp [Builtin.append_, run_underlying hT, run_underlying hTN, sizeOf, typeInfo, asInt, asIntOf, hi, hz2, hw, hc, storeCells]
theorem zerosN (k : Nat) : zs k = List.replicate k 0 := rfl
/-- append(v, make([]byte, k)...) onto a row of the call's own. -/
theorem at_app_zeros {P : Program} {E : TypeId} {ok : Nat → Prop} {base : Nat} {w : World} {xs : List UInt8} {ops : Array Oper} {rest : List Oper} {a : Act} {Q : Exit → Act → World → Prop} {dst : Option Tmp} {ty : TypeId} {pos : String} {after : Array Edge} {sl x : Operand} {T TN U : TypeId} {kn kq : IntKind}
    (hT : P.underlying T = some (.slice E)) (hTN : P.underlying TN = some (.int kn)) (hU : P.underlying U = some .string) (hinfo : (P.info? E).map (fun i => (i.zero, i.size, i.bytes)) = some (some (.int .u8 0), 1, 1))
    {A : Option Addr} {n c : Nat} (k : Nat) {z : Int} (hs : a.eval sl = .slice A n c) (hx : a.eval x = .int kq z) (hz : z = (k : Int))
    (h : kU8.Own ok base w E (.slice A n c) xs) (hbase : base ≤ w.heap.size) (hn : xs.length = n) (hlen : n + k ≤ 140737488355328)
    (hk : ∀ v' w', Hid (kU8.Own ok base w' E v' (xs ++ zs k)) → Below base w w' → wpList P ops Q rest (a.put dst v') w') : wpList P ops Q (⟨dst, .call { callee := .builtin .append, args := #[sl, x], argTypes := #[T, TN] }, ty, pos, after, none⟩ :: rest) a w := by
  rcases Nat.eq_zero_or_pos k with h0 | h0
  · subst h0
    subst hz
    obtain ⟨A0, c0, he, hrow⟩ := h.row
    have hc : n ≤ c := by
      cases he
      have := hrow.2.1
      omega
    refine Lib.wpList_append_run w rfl sl x T TN rfl _ _ hs hx _ _ (append_zeros0 hT hTN hinfo A n c hc) (hk _ _ (hide ?_) (Below.refl _ _))
    rw [show xs ++ zs 0 = xs from List.append_nil _]
    exact h
  · exact wpList_app_zeros rfl sl x T TN U rfl hT hTN hU hinfo k hs hx hz h0 h hbase hn hlen fun v' w' h1 _ h3 _ => hk v' w' (hide h1) h3
theorem padN_bits (n : Nat) (h : n < 2305843009213693952) : padN n = 128 :: zs ((119 - n % 64) % 64) ++ [7, 6, 5, 4, 3, 2, 1, 0].map fun i => UInt8.ofNat (n * 8 / 256 ^ i) := by
  rw [padN, List.append_assoc, bits_put4 n h, zerosN]
def bl8 (n : Nat) : List UInt8 := [7, 6, 5, 4, 3, 2, 1, 0].map fun i => UInt8.ofNat (n * 8 / 256 ^ i)
theorem bl8_at (n q : Nat) (h : q < 8) : (bl8 n)[7 - q]? = some (UInt8.ofNat (n * 8 / 256 ^ q)) := by
  match q, h with
  | 0, _ => rfl
  | 1, _ => rfl
  | 2, _ => rfl
  | 3, _ => rfl
  | 4, _ => rfl
  | 5, _ => rfl
  | 6, _ => rfl
  | 7, _ => rfl
theorem pow_bits (q : Nat) : (2 : Nat) ^ (8 * q) = 256 ^ q := by rw [Nat.pow_mul]
set_option maxRecDepth 100000 in
set_option maxHeartbeats 1600000 in
theorem c_rpad (n : Nat) (w : World) (hn : n < 2305843009213693952) : Calls Tryd.prog 104 #[.int .u64 (n : Int)] w fun e w' => ∃ v, e = .returned v ∧ kU8.Own (fun _ => True) w.heap.size w' 5 v (padN n) ∧ Below w.heap.size w w' := by
  obtain ⟨p, hp⟩ : ∃ p, p = (119 - n % 64) % 64 := ⟨_, rfl⟩
  have hpad := padN_bits n hn
  rw [← hp] at hpad
  have HPAD : Hid (padN n = (128 :: zs p) ++ bl8 n) := hide hpad
  have hp64 : p < 64 := by omega
  have HN := hide hn
  have HPI : Hid ((55 - (n : Int)) % 64 = (p : Int)) := hide (by omega)
  have HO := hide (bytes_lit w [128] #[.int .u8 128] rfl 1 rfl (by decide))
  have HW : Hid (IntKind.u64.wrap ((n : Int) * 8) = ((n * 8 : Nat) : Int)) := hide (by rw [IntKind.wrap_u64]; omega)
  have HLZ : Hid ((128 :: zs p).length = p + 1) := hide (by rw [List.length_cons, zs_len])
  clear hp hn hpad
  go_enter Tryd.func104, Tryd.ntmps104
  go_wp2_with ((with_reducible show wpList _ _ _ (Oper.mk (some 15) _ _ _ _ _ :: _) _ _); go_loud (refine at_app_zeros (P := Tryd.prog) (U := 9) Tryd.underlying22 Tryd.underlying3 Tryd.underlying9 u8_info p rfl rfl (by have := HPI.out; omega) HO.out ?_ rfl ?_ ?_))
  · simp
  · omega
  intro v1 w1 H1 b1
  have HB1 := hide ((below1 w (.cells #[.int .u8 128] 5)).trans b1)
  clear b1
  go_wp2_with fail
  rw [HW.out]
  obtain ⟨N8, hN8⟩ : ∃ N8, N8 = n * 8 := ⟨_, rfl⟩
  rw [← hN8]
  have HN8 := hide hN8
  have HN64 : Hid (N8 < 18446744073709551616) := hide (by rw [hN8]; have := HN.out; omega)
  clear hN8
  go_loopw [4, 6] (fun v i wr => ∃ (m : Nat) (z : Int), m ≤ 8 ∧ i = .int .i64 z ∧ Hid (z = (m : Int) - 1) ∧ Hid (kU8.Own (fun _ => True) w.heap.size wr 5 v ((128 :: zs p) ++ (bl8 n).take (8 - m))) ∧ Hid (Below w.heap.size w wr)) (fun _ i _ => (intOf i + 1).toNat)
  case atStart => exact ⟨8, 7, Nat.le_refl _, rfl, hide rfl, hide (by rw [Nat.sub_self, List.take_zero, List.append_nil]; exact H1.out), HB1⟩
  case round =>
    obtain ⟨m, z, hm, rfl, HZ, HV, HB⟩ := hrel
    have hwr := HB.out.size
    by_cases hpos : 0 < m
    · obtain ⟨q, rfl⟩ : ∃ q, m = q + 1 := ⟨m - 1, by omega⟩
      obtain rfl : z = (q : Int) := by have := HZ.out; omega
      have hq8 : q < 8 := by omega
      obtain ⟨A, c, rfl⟩ := HV.out.form
      have hln : ((128 :: zs p) ++ (bl8 n).take (8 - (q + 1))).length = p + 1 + (7 - q) := by
        rw [List.length_append, HLZ.out, List.length_take]
        show p + 1 + min _ 8 = _
        omega
      rw [hln] at HV ⊢
      have HLN := hide hln
      have HTK : Hid (128 :: (zs p ++ ((bl8 n).take (7 - q) ++ [UInt8.ofNat (n * 8 / 256 ^ q)])) = (128 :: zs p) ++ (bl8 n).take (8 - q)) := hide (by
        rw [show 8 - q = (7 - q) + 1 by omega, List.take_add_one, bl8_at n q hq8]
        rfl)
      have HBT : Hid (((N8 : Int) / 2 ^ (8 * q)).tmod 256 % 256 = ((UInt8.ofNat (n * 8 / 256 ^ q)).toNat : Int)) := hide (by
        have e : ((N8 : Int) / 2 ^ (8 * q)) = ((n * 8 / 256 ^ q : Nat) : Int) := by
          rw [HN8.out, ← pow_bits]
          simp
        obtain ⟨B, hB⟩ : ∃ B, B = n * 8 / 256 ^ q := ⟨_, rfl⟩
        rw [e, ← hB, Int.tmod_eq_emod_of_nonneg (Int.natCast_nonneg B), UInt8.toNat_ofNat']
        show _ = ((B % 256 : Nat) : Int)
        omega)
      clear hln
      go_wp2_with (at_builtin; go_loud (refine wpList_app (d := kU8) (ys := [UInt8.ofNat (n * 8 / 256 ^ q)]) rfl _ _ _ rfl Tryd.underlying22 u8_info rfl (by decide) 1 rfl rfl (.inl (HV.out.below (below1 _ _))) (Kd.Src.new ?_ _ rfl _ rfl) ?_ ?_ ?_ ?_))
      · exact ⟨congrArg (fun z => [Value.int .u8 z]) HBT.out, trivial⟩
      · simp; omega
      · rw [HLN.out]; simp only [maxLen]; omega
      · rw [HLN.out]; omega
      · intro v2 w2 _ h2 h3 _ _
        rw [HTK.out] at h2
        have H2 := hide h2
        have H3 := hide (HB.out.trans (((below1 wr _).mono hwr).trans h3))
        clear h2 h3
        go_wp2
        go_roundw
        case rel => exact ⟨q, (q : Int) - 1, by omega, by simp, hide rfl, H2, H3⟩
        case measure => simp [intOf]
    · obtain rfl : m = 0 := by omega
      obtain rfl : z = -1 := by have := HZ.out; omega
      go_wp2_with fail
      go_ret
      refine ⟨_, rfl, ?_, HB.out⟩
      rw [HPAD.out]
      exact HV.out
end Go.Proofs.YtdkeflhgengblaaDoor
namespace Go.Proofs.YtdkeflhgengblaaDoor
open Go.RowKit
theorem w_quo8 (x : UInt32) (z : Int) (hz : z = (x.toNat : Int)) : z / 8 = ((x >>> (3 : UInt32)).toNat : Int) := by rw [hz]; exact w_shr x 3 (by decide)
theorem w_quo1024 (x : UInt32) (z : Int) (hz : z = (x.toNat : Int)) : z / 1024 = ((x >>> (10 : UInt32)).toNat : Int) := by rw [hz]; exact w_shr x 10 (by decide)
theorem w_quo8W (x : UInt32) (z : Int) (hz : z = (x.toNat : Int)) : IntKind.u32.wrap (z / 8) = ((x >>> (3 : UInt32)).toNat : Int) := by
  have h := x.toNat_lt
  rw [← w_quo8 x z hz, IntKind.wrap_u32']; omega
theorem w_quo1024W (x : UInt32) (z : Int) (hz : z = (x.toNat : Int)) : IntKind.u32.wrap (z / 1024) = ((x >>> (10 : UInt32)).toNat : Int) := by
  have h := x.toNat_lt
  rw [← w_quo1024 x z hz, IntKind.wrap_u32']; omega
theorem own_rowW {base : Nat} {w : World} {E : TypeId} {v : Value} {xs : List UInt32} (h : kW.Own (fun _ => True) base w E v xs) : ∃ A c, v = .slice A xs.length c ∧ kW.Row (fun _ => True) w A xs.length c xs := by
  obtain ⟨A, c, rfl, hr⟩ := h.row
  exact ⟨A, c, rfl, hr.more fun _ _ => trivial⟩
theorem words_src (ok : Nat → Prop) (w : World) (x : UInt32) (C : Array Value) (hC : C = #[wv x]) : kW.Src ok (w.alloc (.cells C 155)) (some ⟨w.heap.size, 0, none⟩) 1 [x] := by
  subst hC
  exact Kd.Src.new (d := kW) (x := x) (cs := [wv x]) (⟨rfl, trivial⟩ : kW.K ok w x [wv x]) #[wv x] rfl _ rfl
set_option maxRecDepth 100000 in
set_option maxHeartbeats 1600000 in
theorem c_rsched (b : List UInt8) (B : Option Addr) (nb cb : Nat) (ok : Nat → Prop) (w : World) (hRb : kU8.Row ok w B nb cb b) (hb : b.length = 64) : Calls Tryd.prog 124 #[.slice B nb cb] w fun e w' => ∃ v, e = .returned v ∧ kW.Own (fun _ => True) w.heap.size w' 155 v (schedN b 64) ∧ Below w.heap.size w w' := by
  have HB64 := hide hb
  have HRB := hide hRb
  have hnb : nb = 64 := by have := hRb.1; omega
  subst hnb
  have HO := hide (words_lit w [] #[] rfl 0 rfl (Nat.zero_le _))
  clear hRb hb
  go_enter Tryd.func124, Tryd.ntmps124
  go_wp2_with fail
  go_loopw [3, 4] (fun v i wr => ∃ (k : Nat), k ≤ 16 ∧ i = .int .i64 (k : Int) ∧ Hid (kW.Own (fun _ => True) w.heap.size wr 155 v (schedN b k)) ∧ Hid (Below w.heap.size w wr)) (fun _ i _ => 16 - (intOf i).toNat)
  case atStart => exact ⟨0, Nat.zero_le _, rfl, HO, hide (below1 _ _)⟩
  case round =>
    obtain ⟨k, hk, rfl, HV, HB⟩ := hrel
    obtain ⟨A, c, rfl⟩ := HV.out.form
    have hln : (schedN b k).length = k := schedN_len b k
    obtain ⟨n1, hn1⟩ : ∃ n1, n1 = (schedN b k).length := ⟨_, rfl⟩
    rw [← hn1] at HV hln ⊢
    have HN1 := hide hln
    have hwr := HB.out.size
    clear hn1 hln
    by_cases hlt : k < 16
    · obtain ⟨D, hs1, hD⟩ := HRB.out.from (P := Tryd.prog) Tryd.underlying22 (E := 5) (by kernel_rfl) (k := 4 * k) (by omega) .i64 (4 * (k : Int)) (by omega)
      have HD := hide (hD.below HB.out)
      have HNX : Hid (schedN b (k + 1) = schedN b k ++ [get4 (b.drop (4 * k))]) := hide (by
        rw [schedN, nextW, if_pos (by rw [schedN_len]; exact hlt), schedN_len])
      have HL4 : Hid (4 ≤ (b.drop (4 * k)).length) := hide (by rw [List.length_drop, HB64.out]; omega)
      clear hD
      go_wp2_with fail
      refine (c_rget _ _ _ (b.drop (4 * k)) _ wr HD.out HL4.out).mono ?_
      obtain ⟨x, hx⟩ : ∃ x, x = get4 (b.drop (4 * k)) := ⟨_, rfl⟩
      rw [← hx] at HNX ⊢
      clear hx
      rintro e w3 ⟨rfl, rfl⟩
      go_wp2_with (at_builtin; go_loud (refine wpList_app (d := kW) (ys := [x]) rfl _ _ _ rfl Tryd.underlying161 w_info rfl (by decide) 1 rfl rfl (.inl (HV.out.below (below1 _ _))) (words_src _ _ x _ rfl) ?_ ?_ ?_ ?_))
      · simp; omega
      · have := HN1.out; simp only [maxLen, schedN_len]; omega
      · simp only [schedN_len]; omega
      · intro v2 w2 _ h2 h3 _ _
        rw [← HNX.out] at h2
        have H2 := hide h2
        have H3 := hide (HB.out.trans (((below1 _ _).mono hwr).trans h3))
        clear h2 h3
        go_wp2
        go_roundw
        case rel => exact ⟨k + 1, by omega, by simp, H2, H3⟩
        case measure => simp [intOf]; omega
    · obtain rfl : k = 16 := by omega
      have HN16 : Hid (n1 = 16) := HN1
      go_wp2_with fail
      go_loopw [3, 5] (fun v i wr => ∃ (k : Nat), 16 ≤ k ∧ k ≤ 64 ∧ i = .int .i64 (k : Int) ∧ Hid (kW.Own (fun _ => True) w.heap.size wr 155 v (schedN b k)) ∧ Hid (Below w.heap.size w wr)) (fun _ i _ => 64 - (intOf i).toNat)
      case atStart => exact ⟨16, Nat.le_refl _, by omega, rfl, HV, HB⟩
      case round =>
        clear HV HB hwr HN1 HN16
        obtain ⟨k, hk16, hk, rfl, HV, HB⟩ := hrel
        obtain ⟨A, c, hvf⟩ := HV.out.form
        rw [hvf] at HV ⊢
        clear hvf
        obtain ⟨W, hW⟩ : ∃ W, W = schedN b k := ⟨_, rfl⟩
        have HNX : Hid (schedN b (k + 1) = W ++ [nextW b W]) := hide (by rw [schedN, hW])
        have hWl : W.length = k := by rw [hW, schedN_len]
        rw [← hW] at HV ⊢
        have HWE := hide hW
        clear hW
        obtain ⟨n1, hn1⟩ : ∃ n1, n1 = W.length := ⟨_, rfl⟩
        rw [← hn1] at HV ⊢
        have HN1 : Hid (n1 = k) := hide (by rw [hn1]; exact hWl)
        have HWL := hide hWl
        have HR : Hid (kW.Row (fun _ => True) wr A n1 c W) := hide (by
          obtain ⟨A', c', e, hr⟩ := own_rowW HV.out
          rw [← hn1] at e hr
          simp only [Value.slice.injEq] at e
          rw [e.1, e.2.2]
          exact hr)
        have hwr := HB.out.size
        clear hn1 hWl
        by_cases hlt : k < 64
        · obtain ⟨k2, hk2⟩ : ∃ j, k = j + 2 := ⟨k - 2, by omega⟩
          obtain ⟨k7, hk7⟩ : ∃ j, k = j + 7 := ⟨k - 7, by omega⟩
          obtain ⟨k15, hk15⟩ : ∃ j, k = j + 15 := ⟨k - 15, by omega⟩
          obtain ⟨k16, hk16'⟩ : ∃ j, k = j + 16 := ⟨k - 16, by omega⟩
          obtain ⟨x2, hx2⟩ : ∃ x, W[k2]? = some x := ⟨_, List.getElem?_eq_getElem (by have := HWL.out; omega)⟩
          obtain ⟨x7, hx7⟩ : ∃ x, W[k7]? = some x := ⟨_, List.getElem?_eq_getElem (by have := HWL.out; omega)⟩
          obtain ⟨x15, hx15⟩ : ∃ x, W[k15]? = some x := ⟨_, List.getElem?_eq_getElem (by have := HWL.out; omega)⟩
          obtain ⟨x16, hx16⟩ : ∃ x, W[k16]? = some x := ⟨_, List.getElem?_eq_getElem (by have := HWL.out; omega)⟩
          have HNX2 : Hid (nextW b W = small1 x2 + x7 + small0 x15 + x16) := hide (by
            rw [nextW, if_neg (by rw [HWL.out]; omega), HWL.out, show k - 2 = k2 by omega, show k - 7 = k7 by omega, show k - 15 = k15 by omega, show k - 16 = k16 by omega]
            simp only [List.getD_eq_getElem?_getD, hx2, hx7, hx15, hx16, Option.getD_some])
          have HK2 := hide hk2
          have HK7 := hide hk7
          have HK15 := hide hk15
          have HK16 := hide hk16'
          have HX2 := hide hx2
          have HX7 := hide hx7
          have HX15 := hide hx15
          have HX16 := hide hx16
          clear hk2 hk7 hk15 hk16' hx2 hx7 hx15 hx16
          go_wp2_with fail
          obtain ⟨pL_k2, oL_k2, hiL_k2, hcL_k2, -⟩ := row_word HR.out HX2.out
          obtain ⟨y37, hy37⟩ : ∃ y, y = rotr x2 17 ^^^ rotr x2 19 := ⟨_, rfl⟩
          obtain ⟨y43, hy43⟩ : ∃ y, y = x2 >>> (10 : UInt32) := ⟨_, rfl⟩
          obtain ⟨y44, hy44⟩ : ∃ y, y = y37 ^^^ y43 := ⟨_, rfl⟩
          have Hy37 := hide hy37
          have Hy43 := hide hy43
          have Hy44 := hide hy44
          clear hy37 hy43 hy44
          refine wp_region_ext mixed 21 (fun i v w' => match i with
            | 0 => v = .slice A n1 c
            | 1 => v = .int .i64 ((k : Nat) : Int)
            | 2 => v = .int .i64 ((k2 : Nat) : Int)
            | 3 => v = .pointer (some ⟨pL_k2, oL_k2, none⟩)
            | 4 => v = wv (x2)
            | 5 => v = wv (rotr x2 17)
            | 6 => v = .slice A n1 c
            | 7 => v = .int .i64 ((k : Nat) : Int)
            | 8 => v = .int .i64 ((k2 : Nat) : Int)
            | 9 => v = .pointer (some ⟨pL_k2, oL_k2, none⟩)
            | 10 => v = wv (x2)
            | 11 => v = wv (rotr x2 19)
            | 12 => v = wv (y37)
            | 13 => v = .slice A n1 c
            | 14 => v = .int .i64 ((k : Nat) : Int)
            | 15 => v = .int .i64 ((k2 : Nat) : Int)
            | 16 => v = .pointer (some ⟨pL_k2, oL_k2, none⟩)
            | 17 => v = wv (x2)
            | 18 => v = wv (y43)
            | 19 => v = wv (y44)
            | _ => v = wv (y44)
            ) (regOk_of (by kernel_rfl)) rfl ?_ ?_ ?_
          · intro i v w1 w2 h1 h2
            split at h2 <;> exact h2
          · refine ⟨fun a w2 hle hd hf hs K hK => ?_, fun a w2 hle hd hf hs K hK => ?_, fun a w2 hle hd hf hs K hK => ?_, fun a w2 hle hd hf hs K hK => ?_, fun a w2 hle hd hf hs K hK => ?_, fun a w2 hle hd hf hs K hK => ?_, fun a w2 hle hd hf hs K hK => ?_, fun a w2 hle hd hf hs K hK => ?_, fun a w2 hle hd hf hs K hK => ?_, fun a w2 hle hd hf hs K hK => ?_, fun a w2 hle hd hf hs K hK => ?_, fun a w2 hle hd hf hs K hK => ?_, fun a w2 hle hd hf hs K hK => ?_, fun a w2 hle hd hf hs K hK => ?_, fun a w2 hle hd hf hs K hK => ?_, fun a w2 hle hd hf hs K hK => ?_, fun a w2 hle hd hf hs K hK => ?_, fun a w2 hle hd hf hs K hK => ?_, fun a w2 hle hd hf hs K hK => ?_, fun a w2 hle hd hf hs K hK => ?_, fun a w2 hle hd hf hs K hK => ?_, trivial⟩
            all_goals clear hd
            · -- 25 := Op.move t3
              have e3 := hf 3 rfl; simp [Act.eval] at e3
              go_simp; exact hK _ _ (Ext.refl _) rfl
            · -- 26 := Op.move t5
              have e5 := hf 5 rfl; simp [Act.eval] at e5
              go_simp; exact hK _ _ (Ext.refl _) rfl
            · -- 27 := Op.binOp BinOp.sub 3 t26 (const (2:i64)) 3
              have e26 := hs 1 26 (needs_direct (by kernel_rfl)) rfl; simp [Act.eval] at e26
              go_simp
              exact hK _ _ (Ext.refl _) (congrArg (Value.int .i64) (by have := HK2.out; first | (rw [wrap64s (by omega) (by omega)]; omega) | omega))
            · -- 28 := Op.indexAddr 161 t25 t27
              have e25 := hs 0 25 (needs_direct (by kernel_rfl)) rfl; have e27 := hs 2 27 (needs_direct (by kernel_rfl)) rfl; simp [Act.eval] at e25 e27
              go_simp
              exact hK _ _ (Ext.refl _) rfl
            · -- 29 := Op.load 155 t28
              have e28 := hs 3 28 (needs_direct (by kernel_rfl)) rfl; simp [Act.eval] at e28
              have hq := hle.cell hcL_k2
              go_simp; exact hK _ _ (Ext.refl _) rfl
            · -- 30 := Op.call { value (Operand.func 126), args := #[t29, const (17:u64)], argTypes := #[155, 165] }
              have e29 := hs 4 29 (needs_direct (by kernel_rfl)) rfl; simp [Act.eval] at e29
              go_simp
              refine (c_rturn x2 17 w2 (by decide) (by decide)).mono ?_
              rintro e w9 ⟨rfl, rfl⟩
              exact hK _ _ (Ext.refl _) rfl
            · -- 31 := Op.move t3
              have e3 := hf 3 rfl; simp [Act.eval] at e3
              go_simp; exact hK _ _ (Ext.refl _) rfl
            · -- 32 := Op.move t5
              have e5 := hf 5 rfl; simp [Act.eval] at e5
              go_simp; exact hK _ _ (Ext.refl _) rfl
            · -- 33 := Op.binOp BinOp.sub 3 t32 (const (2:i64)) 3
              have e32 := hs 7 32 (needs_direct (by kernel_rfl)) rfl; simp [Act.eval] at e32
              go_simp
              exact hK _ _ (Ext.refl _) (congrArg (Value.int .i64) (by have := HK2.out; first | (rw [wrap64s (by omega) (by omega)]; omega) | omega))
            · -- 34 := Op.indexAddr 161 t31 t33
              have e31 := hs 6 31 (needs_direct (by kernel_rfl)) rfl; have e33 := hs 8 33 (needs_direct (by kernel_rfl)) rfl; simp [Act.eval] at e31 e33
              go_simp
              exact hK _ _ (Ext.refl _) rfl
            · -- 35 := Op.load 155 t34
              have e34 := hs 9 34 (needs_direct (by kernel_rfl)) rfl; simp [Act.eval] at e34
              have hq := hle.cell hcL_k2
              go_simp; exact hK _ _ (Ext.refl _) rfl
            · -- 36 := Op.call { value (Operand.func 126), args := #[t35, const (19:u64)], argTypes := #[155, 165] }
              have e35 := hs 10 35 (needs_direct (by kernel_rfl)) rfl; simp [Act.eval] at e35
              go_simp
              refine (c_rturn x2 19 w2 (by decide) (by decide)).mono ?_
              rintro e w9 ⟨rfl, rfl⟩
              exact hK _ _ (Ext.refl _) rfl
            · -- 37 := Op.binOp BinOp.xor 155 t30 t36 155
              have e30 := hs 5 30 (needs_direct (by kernel_rfl)) rfl; have e36 := hs 11 36 (needs_direct (by kernel_rfl)) rfl; simp [Act.eval] at e30 e36
              go_simp
              exact hK _ _ (Ext.refl _) (congrArg (Value.int .u32) (by rw [Hy37.out]; exact w_xor _ _))
            · -- 38 := Op.move t3
              have e3 := hf 3 rfl; simp [Act.eval] at e3
              go_simp; exact hK _ _ (Ext.refl _) rfl
            · -- 39 := Op.move t5
              have e5 := hf 5 rfl; simp [Act.eval] at e5
              go_simp; exact hK _ _ (Ext.refl _) rfl
            · -- 40 := Op.binOp BinOp.sub 3 t39 (const (2:i64)) 3
              have e39 := hs 14 39 (needs_direct (by kernel_rfl)) rfl; simp [Act.eval] at e39
              go_simp
              exact hK _ _ (Ext.refl _) (congrArg (Value.int .i64) (by have := HK2.out; first | (rw [wrap64s (by omega) (by omega)]; omega) | omega))
            · -- 41 := Op.indexAddr 161 t38 t40
              have e38 := hs 13 38 (needs_direct (by kernel_rfl)) rfl; have e40 := hs 15 40 (needs_direct (by kernel_rfl)) rfl; simp [Act.eval] at e38 e40
              go_simp
              exact hK _ _ (Ext.refl _) rfl
            · -- 42 := Op.load 155 t41
              have e41 := hs 16 41 (needs_direct (by kernel_rfl)) rfl; simp [Act.eval] at e41
              have hq := hle.cell hcL_k2
              go_simp; exact hK _ _ (Ext.refl _) rfl
            · -- 43 := Op.binOp BinOp.quo 155 t42 (const (1024:u32)) 155
              have e42 := hs 17 42 (needs_direct (by kernel_rfl)) rfl; simp [Act.eval] at e42
              go_simp
              exact hK _ _ (Ext.refl _) (congrArg (Value.int .u32) (by rw [Hy43.out]; first | exact w_quo1024 _ _ rfl | exact w_quo1024W _ _ rfl))
            · -- 44 := Op.binOp BinOp.xor 155 t37 t43 155
              have e37 := hs 12 37 (needs_direct (by kernel_rfl)) rfl; have e43 := hs 18 43 (needs_direct (by kernel_rfl)) rfl; simp [Act.eval] at e37 e43
              go_simp
              exact hK _ _ (Ext.refl _) (congrArg (Value.int .u32) (by rw [Hy44.out]; exact w_xor _ _))
            · -- 6 := Op.assign t44
              have e44 := hs 19 44 (needs_direct (by kernel_rfl)) rfl; simp [Act.eval] at e44
              go_simp; exact hK _ _ (Ext.refl _) rfl
          intro vs w5 hle5 hs
          have v20 := hs 20 (by omega) rfl
          simp only at v20
          clear hs
          have HR5 := hide (HR.out.below hle5)
          have HE5 := hide hle5
          clear hiL_k2 hcL_k2 hle5
          simp only [putN, dstAt]
          go_simp
          go_wp2_with fail
          obtain ⟨pM_k15, oM_k15, hiM_k15, hcM_k15, -⟩ := row_word HR5.out HX15.out
          obtain ⟨z57, hz57⟩ : ∃ y, y = rotr x15 7 ^^^ rotr x15 18 := ⟨_, rfl⟩
          obtain ⟨z63, hz63⟩ : ∃ y, y = x15 >>> (3 : UInt32) := ⟨_, rfl⟩
          obtain ⟨z64, hz64⟩ : ∃ y, y = z57 ^^^ z63 := ⟨_, rfl⟩
          have Hz57 := hide hz57
          have Hz63 := hide hz63
          have Hz64 := hide hz64
          clear hz57 hz63 hz64
          refine wp_region_ext mixed 21 (fun i v w' => match i with
            | 0 => v = .slice A n1 c
            | 1 => v = .int .i64 ((k : Nat) : Int)
            | 2 => v = .int .i64 ((k15 : Nat) : Int)
            | 3 => v = .pointer (some ⟨pM_k15, oM_k15, none⟩)
            | 4 => v = wv (x15)
            | 5 => v = wv (rotr x15 7)
            | 6 => v = .slice A n1 c
            | 7 => v = .int .i64 ((k : Nat) : Int)
            | 8 => v = .int .i64 ((k15 : Nat) : Int)
            | 9 => v = .pointer (some ⟨pM_k15, oM_k15, none⟩)
            | 10 => v = wv (x15)
            | 11 => v = wv (rotr x15 18)
            | 12 => v = wv (z57)
            | 13 => v = .slice A n1 c
            | 14 => v = .int .i64 ((k : Nat) : Int)
            | 15 => v = .int .i64 ((k15 : Nat) : Int)
            | 16 => v = .pointer (some ⟨pM_k15, oM_k15, none⟩)
            | 17 => v = wv (x15)
            | 18 => v = wv (z63)
            | 19 => v = wv (z64)
            | _ => v = wv (z64)
            ) (regOk_of (by kernel_rfl)) rfl ?_ ?_ ?_
          · intro i v w1 w2 h1 h2
            split at h2 <;> exact h2
          · refine ⟨fun a w2 hle hd hf hs K hK => ?_, fun a w2 hle hd hf hs K hK => ?_, fun a w2 hle hd hf hs K hK => ?_, fun a w2 hle hd hf hs K hK => ?_, fun a w2 hle hd hf hs K hK => ?_, fun a w2 hle hd hf hs K hK => ?_, fun a w2 hle hd hf hs K hK => ?_, fun a w2 hle hd hf hs K hK => ?_, fun a w2 hle hd hf hs K hK => ?_, fun a w2 hle hd hf hs K hK => ?_, fun a w2 hle hd hf hs K hK => ?_, fun a w2 hle hd hf hs K hK => ?_, fun a w2 hle hd hf hs K hK => ?_, fun a w2 hle hd hf hs K hK => ?_, fun a w2 hle hd hf hs K hK => ?_, fun a w2 hle hd hf hs K hK => ?_, fun a w2 hle hd hf hs K hK => ?_, fun a w2 hle hd hf hs K hK => ?_, fun a w2 hle hd hf hs K hK => ?_, fun a w2 hle hd hf hs K hK => ?_, fun a w2 hle hd hf hs K hK => ?_, trivial⟩
            all_goals clear hd
            · -- 45 := Op.move t3
              have e3 := hf 3 rfl; simp [Act.eval] at e3
              go_simp; exact hK _ _ (Ext.refl _) rfl
            · -- 46 := Op.move t5
              have e5 := hf 5 rfl; simp [Act.eval] at e5
              go_simp; exact hK _ _ (Ext.refl _) rfl
            · -- 47 := Op.binOp BinOp.sub 3 t46 (const (15:i64)) 3
              have e46 := hs 1 46 (needs_direct (by kernel_rfl)) rfl; simp [Act.eval] at e46
              go_simp
              exact hK _ _ (Ext.refl _) (congrArg (Value.int .i64) (by have := HK15.out; first | (rw [wrap64s (by omega) (by omega)]; omega) | omega))
            · -- 48 := Op.indexAddr 161 t45 t47
              have e45 := hs 0 45 (needs_direct (by kernel_rfl)) rfl; have e47 := hs 2 47 (needs_direct (by kernel_rfl)) rfl; simp [Act.eval] at e45 e47
              go_simp
              exact hK _ _ (Ext.refl _) rfl
            · -- 49 := Op.load 155 t48
              have e48 := hs 3 48 (needs_direct (by kernel_rfl)) rfl; simp [Act.eval] at e48
              have hq := hle.cell hcM_k15
              go_simp; exact hK _ _ (Ext.refl _) rfl
            · -- 50 := Op.call { value (Operand.func 126), args := #[t49, const (7:u64)], argTypes := #[155, 165] }
              have e49 := hs 4 49 (needs_direct (by kernel_rfl)) rfl; simp [Act.eval] at e49
              go_simp
              refine (c_rturn x15 7 w2 (by decide) (by decide)).mono ?_
              rintro e w9 ⟨rfl, rfl⟩
              exact hK _ _ (Ext.refl _) rfl
            · -- 51 := Op.move t3
              have e3 := hf 3 rfl; simp [Act.eval] at e3
              go_simp; exact hK _ _ (Ext.refl _) rfl
            · -- 52 := Op.move t5
              have e5 := hf 5 rfl; simp [Act.eval] at e5
              go_simp; exact hK _ _ (Ext.refl _) rfl
            · -- 53 := Op.binOp BinOp.sub 3 t52 (const (15:i64)) 3
              have e52 := hs 7 52 (needs_direct (by kernel_rfl)) rfl; simp [Act.eval] at e52
              go_simp
              exact hK _ _ (Ext.refl _) (congrArg (Value.int .i64) (by have := HK15.out; first | (rw [wrap64s (by omega) (by omega)]; omega) | omega))
            · -- 54 := Op.indexAddr 161 t51 t53
              have e51 := hs 6 51 (needs_direct (by kernel_rfl)) rfl; have e53 := hs 8 53 (needs_direct (by kernel_rfl)) rfl; simp [Act.eval] at e51 e53
              go_simp
              exact hK _ _ (Ext.refl _) rfl
            · -- 55 := Op.load 155 t54
              have e54 := hs 9 54 (needs_direct (by kernel_rfl)) rfl; simp [Act.eval] at e54
              have hq := hle.cell hcM_k15
              go_simp; exact hK _ _ (Ext.refl _) rfl
            · -- 56 := Op.call { value (Operand.func 126), args := #[t55, const (18:u64)], argTypes := #[155, 165] }
              have e55 := hs 10 55 (needs_direct (by kernel_rfl)) rfl; simp [Act.eval] at e55
              go_simp
              refine (c_rturn x15 18 w2 (by decide) (by decide)).mono ?_
              rintro e w9 ⟨rfl, rfl⟩
              exact hK _ _ (Ext.refl _) rfl
            · -- 57 := Op.binOp BinOp.xor 155 t50 t56 155
              have e50 := hs 5 50 (needs_direct (by kernel_rfl)) rfl; have e56 := hs 11 56 (needs_direct (by kernel_rfl)) rfl; simp [Act.eval] at e50 e56
              go_simp
              exact hK _ _ (Ext.refl _) (congrArg (Value.int .u32) (by rw [Hz57.out]; exact w_xor _ _))
            · -- 58 := Op.move t3
              have e3 := hf 3 rfl; simp [Act.eval] at e3
              go_simp; exact hK _ _ (Ext.refl _) rfl
            · -- 59 := Op.move t5
              have e5 := hf 5 rfl; simp [Act.eval] at e5
              go_simp; exact hK _ _ (Ext.refl _) rfl
            · -- 60 := Op.binOp BinOp.sub 3 t59 (const (15:i64)) 3
              have e59 := hs 14 59 (needs_direct (by kernel_rfl)) rfl; simp [Act.eval] at e59
              go_simp
              exact hK _ _ (Ext.refl _) (congrArg (Value.int .i64) (by have := HK15.out; first | (rw [wrap64s (by omega) (by omega)]; omega) | omega))
            · -- 61 := Op.indexAddr 161 t58 t60
              have e58 := hs 13 58 (needs_direct (by kernel_rfl)) rfl; have e60 := hs 15 60 (needs_direct (by kernel_rfl)) rfl; simp [Act.eval] at e58 e60
              go_simp
              exact hK _ _ (Ext.refl _) rfl
            · -- 62 := Op.load 155 t61
              have e61 := hs 16 61 (needs_direct (by kernel_rfl)) rfl; simp [Act.eval] at e61
              have hq := hle.cell hcM_k15
              go_simp; exact hK _ _ (Ext.refl _) rfl
            · -- 63 := Op.binOp BinOp.quo 155 t62 (const (8:u32)) 155
              have e62 := hs 17 62 (needs_direct (by kernel_rfl)) rfl; simp [Act.eval] at e62
              go_simp
              exact hK _ _ (Ext.refl _) (congrArg (Value.int .u32) (by rw [Hz63.out]; first | exact w_quo8 _ _ rfl | exact w_quo8W _ _ rfl))
            · -- 64 := Op.binOp BinOp.xor 155 t57 t63 155
              have e57 := hs 12 57 (needs_direct (by kernel_rfl)) rfl; have e63 := hs 18 63 (needs_direct (by kernel_rfl)) rfl; simp [Act.eval] at e57 e63
              go_simp
              exact hK _ _ (Ext.refl _) (congrArg (Value.int .u32) (by rw [Hz64.out]; exact w_xor _ _))
            · -- 7 := Op.assign t64
              have e64 := hs 19 64 (needs_direct (by kernel_rfl)) rfl; simp [Act.eval] at e64
              go_simp; exact hK _ _ (Ext.refl _) rfl
          intro vs w8 hle8 hs
          have v20 := hs 20 (by omega) rfl
          simp only at v20
          clear hs
          have HR8 := hide (HR5.out.below hle8)
          have HE8 := hide (HE5.out.trans hle8)
          clear hiM_k15 hcM_k15 hle8
          simp only [putN, dstAt]
          go_simp
          go_wp2_with fail
          obtain ⟨pN_k7, oN_k7, hiN_k7, hcN_k7, -⟩ := row_word HR8.out HX7.out
          obtain ⟨u72, hu72⟩ : ∃ y, y = y44 + x7 := ⟨_, rfl⟩
          obtain ⟨u74, hu74⟩ : ∃ y, y = u72 + z64 := ⟨_, rfl⟩
          obtain ⟨pN_k16, oN_k16, hiN_k16, hcN_k16, -⟩ := row_word HR8.out HX16.out
          obtain ⟨u80, hu80⟩ : ∃ y, y = u74 + x16 := ⟨_, rfl⟩
          have Hu72 := hide hu72
          have Hu74 := hide hu74
          have Hu80 := hide hu80
          clear hu72 hu74 hu80
          refine wp_region_ext mixed 17 (fun i v w' => match i with
            | 0 => v = .slice A n1 c
            | 1 => v = wv (y44)
            | 2 => v = .slice A n1 c
            | 3 => v = .int .i64 ((k : Nat) : Int)
            | 4 => v = .int .i64 ((k7 : Nat) : Int)
            | 5 => v = .pointer (some ⟨pN_k7, oN_k7, none⟩)
            | 6 => v = wv (x7)
            | 7 => v = wv (u72)
            | 8 => v = wv (z64)
            | 9 => v = wv (u74)
            | 10 => v = .slice A n1 c
            | 11 => v = .int .i64 ((k : Nat) : Int)
            | 12 => v = .int .i64 ((k16 : Nat) : Int)
            | 13 => v = .pointer (some ⟨pN_k16, oN_k16, none⟩)
            | 14 => v = wv (x16)
            | 15 => v = wv (u80)
            | _ => ∃ g, v = .slice (some ⟨g, 0, none⟩) 1 1 ∧ w'.heap[g]? = some (.cells #[wv u80] 155)
            ) (regOk_of (by kernel_rfl)) rfl ?_ ?_ ?_
          · intro i v w1 w2 h1 h2
            split at h2 <;> first | exact h2 | (obtain ⟨g, rfl, hg⟩ := h2; exact ⟨g, rfl, h1.heap hg⟩)
          · refine ⟨fun a w2 hle hd hf hs K hK => ?_, fun a w2 hle hd hf hs K hK => ?_, fun a w2 hle hd hf hs K hK => ?_, fun a w2 hle hd hf hs K hK => ?_, fun a w2 hle hd hf hs K hK => ?_, fun a w2 hle hd hf hs K hK => ?_, fun a w2 hle hd hf hs K hK => ?_, fun a w2 hle hd hf hs K hK => ?_, fun a w2 hle hd hf hs K hK => ?_, fun a w2 hle hd hf hs K hK => ?_, fun a w2 hle hd hf hs K hK => ?_, fun a w2 hle hd hf hs K hK => ?_, fun a w2 hle hd hf hs K hK => ?_, fun a w2 hle hd hf hs K hK => ?_, fun a w2 hle hd hf hs K hK => ?_, fun a w2 hle hd hf hs K hK => ?_, fun a w2 hle hd hf hs K hK => ?_, trivial⟩
            all_goals clear hd
            · -- 65 := Op.move t3
              have e3 := hf 3 rfl; simp [Act.eval] at e3
              go_simp; exact hK _ _ (Ext.refl _) rfl
            · -- 66 := Op.move t6
              have e6 := hf 6 rfl; simp [Act.eval] at e6
              go_simp; exact hK _ _ (Ext.refl _) rfl
            · -- 67 := Op.move t3
              have e3 := hf 3 rfl; simp [Act.eval] at e3
              go_simp; exact hK _ _ (Ext.refl _) rfl
            · -- 68 := Op.move t5
              have e5 := hf 5 rfl; simp [Act.eval] at e5
              go_simp; exact hK _ _ (Ext.refl _) rfl
            · -- 69 := Op.binOp BinOp.sub 3 t68 (const (7:i64)) 3
              have e68 := hs 3 68 (needs_direct (by kernel_rfl)) rfl; simp [Act.eval] at e68
              go_simp
              exact hK _ _ (Ext.refl _) (congrArg (Value.int .i64) (by have := HK7.out; first | (rw [wrap64s (by omega) (by omega)]; omega) | omega))
            · -- 70 := Op.indexAddr 161 t67 t69
              have e67 := hs 2 67 (needs_direct (by kernel_rfl)) rfl; have e69 := hs 4 69 (needs_direct (by kernel_rfl)) rfl; simp [Act.eval] at e67 e69
              go_simp
              exact hK _ _ (Ext.refl _) rfl
            · -- 71 := Op.load 155 t70
              have e70 := hs 5 70 (needs_direct (by kernel_rfl)) rfl; simp [Act.eval] at e70
              have hq := hle.cell hcN_k7
              go_simp; exact hK _ _ (Ext.refl _) rfl
            · -- 72 := Op.binOp BinOp.add 155 t66 t71 155
              have e66 := hs 1 66 (needs_direct (by kernel_rfl)) rfl; have e71 := hs 6 71 (needs_direct (by kernel_rfl)) rfl; simp [Act.eval] at e66 e71
              go_simp
              exact hK _ _ (Ext.refl _) (congrArg (Value.int .u32) (by rw [Hu72.out]; first | exact w_add _ _ | exact w_addW _ _))
            · -- 73 := Op.move t7
              have e7 := hf 7 rfl; simp [Act.eval] at e7
              go_simp; exact hK _ _ (Ext.refl _) rfl
            · -- 74 := Op.binOp BinOp.add 155 t72 t73 155
              have e72 := hs 7 72 (needs_direct (by kernel_rfl)) rfl; have e73 := hs 8 73 (needs_direct (by kernel_rfl)) rfl; simp [Act.eval] at e72 e73
              go_simp
              exact hK _ _ (Ext.refl _) (congrArg (Value.int .u32) (by rw [Hu74.out]; first | exact w_add _ _ | exact w_addW _ _))
            · -- 75 := Op.move t3
              have e3 := hf 3 rfl; simp [Act.eval] at e3
              go_simp; exact hK _ _ (Ext.refl _) rfl
            · -- 76 := Op.move t5
              have e5 := hf 5 rfl; simp [Act.eval] at e5
              go_simp; exact hK _ _ (Ext.refl _) rfl
            · -- 77 := Op.binOp BinOp.sub 3 t76 (const (16:i64)) 3
              have e76 := hs 11 76 (needs_direct (by kernel_rfl)) rfl; simp [Act.eval] at e76
              go_simp
              exact hK _ _ (Ext.refl _) (congrArg (Value.int .i64) (by have := HK16.out; first | (rw [wrap64s (by omega) (by omega)]; omega) | omega))
            · -- 78 := Op.indexAddr 161 t75 t77
              have e75 := hs 10 75 (needs_direct (by kernel_rfl)) rfl; have e77 := hs 12 77 (needs_direct (by kernel_rfl)) rfl; simp [Act.eval] at e75 e77
              go_simp
              exact hK _ _ (Ext.refl _) rfl
            · -- 79 := Op.load 155 t78
              have e78 := hs 13 78 (needs_direct (by kernel_rfl)) rfl; simp [Act.eval] at e78
              have hq := hle.cell hcN_k16
              go_simp; exact hK _ _ (Ext.refl _) rfl
            · -- 80 := Op.binOp BinOp.add 155 t74 t79 155
              have e74 := hs 9 74 (needs_direct (by kernel_rfl)) rfl; have e79 := hs 14 79 (needs_direct (by kernel_rfl)) rfl; simp [Act.eval] at e74 e79
              go_simp
              exact hK _ _ (Ext.refl _) (congrArg (Value.int .u32) (by rw [Hu80.out]; first | exact w_add _ _ | exact w_addW _ _))
            · -- 81 := Op.buildSlice 161 1 #[(0, t80)]
              have e80 := hs 15 80 (needs_direct (by kernel_rfl)) rfl; simp [Act.eval] at e80
              go_simp; exact hK _ _ (Ext.alloc _ _) ⟨_, rfl, heap_alloc_new _ _⟩
          intro vs wa hlea hs
          have v0 := hs 0 (by omega) rfl
          have v16 := hs 16 (by omega) rfl
          simp only at v0 v16
          clear hs
          obtain ⟨ga, va, hga⟩ := v16
          have HEA := hide (HE8.out.trans hlea)
          have HGA := hide hga
          have HNX3 : Hid (W ++ [u80] = schedN b (k + 1)) := hide (by
            rw [HNX.out, HNX2.out, Hu80.out, Hu74.out, Hu72.out, Hy44.out, Hy37.out, Hy43.out, Hz64.out, Hz57.out, Hz63.out]
            rfl)
          clear hiN_k7 hcN_k7 hiN_k16 hcN_k16 hga hlea
          simp only [putN, dstAt]
          go_simp
          go_wp2_with (at_builtin; go_loud (refine wpList_app (d := kW) (ys := [u80]) rfl _ _ _ rfl Tryd.underlying161 w_info rfl (by decide) 1 rfl rfl (.inl (HV.out.below HEA.out)) (Kd.Src.blk (d := kW) HGA.out (x := u80) (cs := [wv u80]) ⟨rfl, trivial⟩ rfl) ?_ ?_ ?_ ?_))
          · exact Nat.le_trans hwr HEA.out.size
          · have := HWL.out; simp only [maxLen]; omega
          · have := HWL.out; omega
          · intro vb wb _ h2 h3 _ _
            rw [HNX3.out] at h2
            have H2 := hide h2
            have H3 := hide ((HB.out.trans (HEA.out.mono hwr)).trans h3)
            clear h2 h3
            go_wp2
            refine ⟨?_, ?measure⟩
            refine ⟨_, _, _, _, _, _, _, _, _, _, _, _, _, _, _, _, _, _, _, _, _, _, _, _, _, _, _, _, _, _, _, _, _, _, _, _, _, _, _, _, _, _, _, _, _, _, _, _, _, _, _, _, _, _, _, _, _, _, _, _, _, _, _, _, _, _, ?rel, rfl⟩
            case rel => exact ⟨k + 1, by omega, by omega, by simp, H2, H3⟩
            case measure => simp [intOf]; omega
        · obtain rfl : k = 64 := by omega
          go_wp2_with fail
          go_ret
          exact ⟨_, rfl, by rw [← HWE.out]; exact HV.out, HB.out⟩
end Go.Proofs.YtdkeflhgengblaaDoor
