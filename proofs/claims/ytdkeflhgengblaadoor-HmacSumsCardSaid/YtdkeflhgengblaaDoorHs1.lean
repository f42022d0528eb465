/- The walk of the chapter's example of layer 4. No condition. -/
import Derived.Test.YtdkeflhgengblaaDoorRs7
import Derived.Lib.SlBytesConst
namespace Go.Proofs.YtdkeflhgengblaaDoor
open Go.RowKit
attribute [local go_sem ↓] ld8 ld32 ld64 ld73
attribute [local go_sem] run_ldAgg run_storeAgg agg_alloc_at agg_alloc_past agg_drew agg_setCell row_alloc_at row_alloc_past row_drew setRow_alloc_at setRow_alloc_past setRow_drew agg_setRow_at agg_setRow_far cell_setRow_at cell_setRow_far row_setRow_far size_setRow s8C_size s8C_part s8C_one s8C_splice0 s8C_ne dgC_size dgC_72 dgC_part dgC_h dgC_r dgC_splice_h dgC_set dgC_one dgC_splice0 dgC_ne zero_dg
attribute [local go_sem] tgC_size tgC_one tgC_part tgC_splice tgC_splice_any zero_tg tgC_ne

def kJefe : List UInt8 := [74, 101, 102, 101]
def xWhat : List UInt8 := [119, 104, 97, 116, 32, 100, 111, 32, 121, 97, 32, 119, 97, 110, 116, 32, 102, 111, 114, 32, 110, 111, 116, 104, 105, 110, 103, 63]
theorem alive_cells (t : Tg) (h : t.l.take 4 = [0x5b, 0xdc, 0xc1, 0x46]) : (tgC t)[0]? = some (.int .u8 91) ∧ (tgC t)[1]? = some (.int .u8 220) ∧ (tgC t)[2]? = some (.int .u8 193) ∧ (tgC t)[3]? = some (.int .u8 70) := by
  have e : ∀ i, i < 4 → t.l[i]? = ([0x5b, 0xdc, 0xc1, 0x46] : List UInt8)[i]? := fun i hi => by rw [← h, List.getElem?_take, if_pos hi]
  rw [tgC_bl]
  exact ⟨blC_at _ (e 0 (by decide)), blC_at _ (e 1 (by decide)), blC_at _ (e 2 (by decide)), blC_at _ (e 3 (by decide))⟩
set_option maxRecDepth 100000 in
set_option maxHeartbeats 800000 in
theorem c_halive (w : World) (hP : PrimesAt w) : Calls Tryd.prog 12 #[] w fun e w' => e = .returned (.bool true) ∧ Below w.heap.size w w' := by
  have HP := hide hP
  clear hP
  obtain ⟨W3, hW3⟩ : ∃ W3, W3 = ((w.alloc (.cells #[.int .u8 74, .int .u8 101, .int .u8 102, .int .u8 101] 5 (4, 5))).alloc (.cells #[.int .u8 119, .int .u8 104, .int .u8 97, .int .u8 116, .int .u8 32, .int .u8 100, .int .u8 111, .int .u8 32, .int .u8 121, .int .u8 97, .int .u8 32, .int .u8 119, .int .u8 97, .int .u8 110, .int .u8 116, .int .u8 32, .int .u8 102, .int .u8 111, .int .u8 114, .int .u8 32, .int .u8 110, .int .u8 111, .int .u8 116, .int .u8 104, .int .u8 105, .int .u8 110, .int .u8 103, .int .u8 63] 5 (28, 29))).alloc (.cells #[.slice (some ⟨w.heap.size + 1, 0, none⟩) 28 28] 22) := ⟨_, rfl⟩
  have HW3 := hide hW3
  have hs3 : W3.heap.size = w.heap.size + 1 + 1 + 1 := by rw [hW3]; simp only [World.size_alloc]
  have HB3 : Hid (Below w.heap.size w W3) := hide (by rw [hW3]; exact below3 _ _ _ _)
  have hA3 : W3.heap[w.heap.size]? = some (.cells #[.int .u8 74, .int .u8 101, .int .u8 102, .int .u8 101] 5 (4, 5)) := by
    rw [hW3, Below.heap_alloc _ _ _ (by simp only [World.size_alloc]; omega), Below.heap_alloc _ _ _ (by simp only [World.size_alloc]; omega)]
    exact heap_alloc_new _ _
  have hC3 : W3.heap[w.heap.size + 1]? = some (.cells #[.int .u8 119, .int .u8 104, .int .u8 97, .int .u8 116, .int .u8 32, .int .u8 100, .int .u8 111, .int .u8 32, .int .u8 121, .int .u8 97, .int .u8 32, .int .u8 119, .int .u8 97, .int .u8 110, .int .u8 116, .int .u8 32, .int .u8 102, .int .u8 111, .int .u8 114, .int .u8 32, .int .u8 110, .int .u8 111, .int .u8 116, .int .u8 104, .int .u8 105, .int .u8 110, .int .u8 103, .int .u8 63] 5 (28, 29)) := by
    rw [hW3, Below.heap_alloc _ _ _ (by simp only [World.size_alloc]; omega)]
    have := heap_alloc_new (w.alloc (.cells #[.int .u8 74, .int .u8 101, .int .u8 102, .int .u8 101] 5 (4, 5))) (.cells #[.int .u8 119, .int .u8 104, .int .u8 97, .int .u8 116, .int .u8 32, .int .u8 100, .int .u8 111, .int .u8 32, .int .u8 121, .int .u8 97, .int .u8 32, .int .u8 119, .int .u8 97, .int .u8 110, .int .u8 116, .int .u8 32, .int .u8 102, .int .u8 111, .int .u8 114, .int .u8 32, .int .u8 110, .int .u8 111, .int .u8 116, .int .u8 104, .int .u8 105, .int .u8 110, .int .u8 103, .int .u8 63] 5 (28, 29))
    simpa only [World.size_alloc] using this
  have hD3 : W3.heap[w.heap.size + 1 + 1]? = some (.cells #[.slice (some ⟨w.heap.size + 1, 0, none⟩) 28 28] 22) := by
    rw [hW3]
    have := heap_alloc_new ((w.alloc (.cells #[.int .u8 74, .int .u8 101, .int .u8 102, .int .u8 101] 5 (4, 5))).alloc (.cells #[.int .u8 119, .int .u8 104, .int .u8 97, .int .u8 116, .int .u8 32, .int .u8 100, .int .u8 111, .int .u8 32, .int .u8 121, .int .u8 97, .int .u8 32, .int .u8 119, .int .u8 97, .int .u8 110, .int .u8 116, .int .u8 32, .int .u8 102, .int .u8 111, .int .u8 114, .int .u8 32, .int .u8 110, .int .u8 111, .int .u8 116, .int .u8 104, .int .u8 105, .int .u8 110, .int .u8 103, .int .u8 63] 5 (28, 29))) (.cells #[.slice (some ⟨w.heap.size + 1, 0, none⟩) 28 28] 22)
    simpa only [World.size_alloc] using this
  have HRK : Hid (kU8.Row (fun _ => True) W3 (some ⟨w.heap.size, 0, none⟩) 4 4 kJefe) := hide (row_all (l := kJefe) hA3 trivial (by decide))
  have HRX : Hid (kRow8.Row (fun _ => True) W3 (some ⟨w.heap.size + 1 + 1, 0, none⟩) 1 1 [xWhat]) := hide (row8_one hD3 (row_all (l := xWhat) hC3 trivial (by decide)) trivial)
  obtain ⟨t, ht⟩ : ∃ t, t = macT kJefe xWhat := ⟨_, rfl⟩
  have HT : Hid (macT kJefe [xWhat].flatten = t) := hide (by rw [ht]; rfl)
  obtain ⟨c0, c1, c2, c3⟩ := alive_cells t (by rw [ht]; exact alive_mac)
  have hcv1 := Lib.run_convert_bytes_const (P := Tryd.prog) w 22 5 #[.int .u8 74, .int .u8 101, .int .u8 102, .int .u8 101] 4 4 Tryd.underlying22 Tryd.underlying5
  have hcv2 := Lib.run_convert_bytes_const (P := Tryd.prog) (w.alloc (.cells #[.int .u8 74, .int .u8 101, .int .u8 102, .int .u8 101] 5 (4, 5))) 22 5 #[.int .u8 119, .int .u8 104, .int .u8 97, .int .u8 116, .int .u8 32, .int .u8 100, .int .u8 111, .int .u8 32, .int .u8 121, .int .u8 97, .int .u8 32, .int .u8 119, .int .u8 97, .int .u8 110, .int .u8 116, .int .u8 32, .int .u8 102, .int .u8 111, .int .u8 114, .int .u8 32, .int .u8 110, .int .u8 111, .int .u8 116, .int .u8 104, .int .u8 105, .int .u8 110, .int .u8 103, .int .u8 63] 28 28 Tryd.underlying22 Tryd.underlying5
  rw [World.size_alloc] at hcv2
  clear hW3 hA3 hC3 hD3 ht
  go_enter Tryd.func12, Tryd.ntmps12
  go_wp2_with fail
  rw [← HW3.out]
  clear HW3 hcv1 hcv2
  refine (c_mof _ _ 4 4 1 1 kJefe [xWhat] _ _ W3 HRK.out HRX.out (HP.out.ext HB3.out) (by decide) (by decide)).mono ?_
  rw [HT.out]
  rintro e w5 ⟨rfl, b5⟩
  have HB5 := hide (HB3.out.trans (b5.mono HB3.out.size))
  have hw5 := HB5.out.size
  have HB6 := hide (HB5.out.trans ((below1 w5 (.cells (tgC t) 29)).mono hw5))
  have hg6 := heap_alloc_new w5 (.cells (tgC t) 29)
  have d0 := (cell_of_row _ w5.heap.size 0 _ _ _ hg6).trans c0
  have d1 := (cell_of_row _ w5.heap.size 1 _ _ _ hg6).trans c1
  have d2 := (cell_of_row _ w5.heap.size 2 _ _ _ hg6).trans c2
  have d3 := (cell_of_row _ w5.heap.size 3 _ _ _ hg6).trans c3
  clear b5 hg6
  go_wp2_with fail
  go_ret
  exact ⟨rfl, HB6.out⟩
end Go.Proofs.YtdkeflhgengblaaDoor
