/- The walk of hmac.Of. No condition. -/
import Derived.Test.YtdkeflhgengblaaDoorHm2
namespace Go.Proofs.YtdkeflhgengblaaDoor
open Go.RowKit
attribute [local go_sem ↓] ld8 ld32 ld64 ld73
attribute [local go_sem] run_ldAgg run_storeAgg agg_alloc_at agg_alloc_past agg_drew agg_setCell row_alloc_at row_alloc_past row_drew setRow_alloc_at setRow_alloc_past setRow_drew agg_setRow_at agg_setRow_far cell_setRow_at cell_setRow_far row_setRow_far size_setRow s8C_size s8C_part s8C_one s8C_splice0 s8C_ne dgC_size dgC_72 dgC_part dgC_h dgC_r dgC_splice_h dgC_set dgC_one dgC_splice0 dgC_ne zero_dg
attribute [local go_sem] tgC_size tgC_one tgC_part tgC_splice tgC_splice_any zero_tg tgC_ne

set_option maxRecDepth 100000 in
set_option maxHeartbeats 1600000 in
theorem c_mof (A B : Option Addr) (n c m d : Nat) (key : List UInt8) (l : List (List UInt8)) (ok ok' : Nat → Prop) (w : World) (hK : kU8.Row ok' w A n c key) (hR : kRow8.Row ok w B m d l) (hP : PrimesAt w) (hn2 : n < 1152921504606846976) (hn : l.flatten.length < 576460752303423488) :
    Calls Tryd.prog 17 #[.slice A n c, .slice B m d] w fun e w' => e = .returned (tgV (macT key l.flatten)) ∧ Below w.heap.size w w' := by
  have HR := hide (hR.bound.more (ok' := fun k => k < w.heap.size + 1) fun k h => Nat.lt_succ_of_lt h.2)
  have HK := hide hK
  have HP := hide hP
  have HN := hide hn
  have HN2 := hide hn2
  have hll := hR.1
  have hm63 : m ≤ 9223372036854775807 := Nat.le_trans hR.2.1 hR.2.2.1
  clear hR hP hn hn2 hK
  go_enter Tryd.func17, Tryd.ntmps17
  go_wp2_with fail
  obtain ⟨W1, hW1⟩ : ∃ W1, W1 = w.alloc (.cells (tgC Tg.zero) 29) := ⟨_, rfl⟩
  rw [← hW1]
  have hB1 : Below w.heap.size w W1 := by rw [hW1]; exact below1 _ _
  have hs1 : W1.heap.size = w.heap.size + 1 := by rw [hW1]; simp only [World.size_alloc]
  have hz1 : W1.heap[w.heap.size]? = some (.cells (tgC Tg.zero) 29) := by rw [hW1]; exact heap_alloc_new _ _
  clear hW1
  refine (c_mnew A n c key _ W1 (HK.out.below hB1) (HP.out.ext hB1) HN2.out).mono ?_
  rintro e w2 ⟨g, rfl, hm2, b2⟩
  rw [hs1] at hm2
  have HM2 := hide hm2
  have HB2 := hide (hB1.trans (b2.mono hB1.size))
  have HZ2 := hide ((b2.block w.heap.size (by omega)).trans hz1)
  have hsz2 := b2.size
  rw [hs1] at hsz2
  have HLL := hide hll
  clear hm2 b2 hB1 hs1 hz1 hll
  go_wp2_with fail
  go_loopw [12] (fun i wr => ∃ (k : Nat), k ≤ m ∧ i = .int .i64 (k : Int) ∧ Hid (MacAt wr (w.heap.size + 1) g key (l.take k).flatten) ∧ Hid (wr.heap[w.heap.size]? = some (.cells (tgC Tg.zero) 29)) ∧ w.heap.size + 1 ≤ wr.heap.size ∧ Hid (Below w.heap.size w wr)) (fun i _ => m - (intOf i).toNat)
  case atStart => exact ⟨0, Nat.zero_le _, rfl, HM2, HZ2, hsz2, HB2⟩
  case round =>
    obtain ⟨k, hk, rfl, HM, HZ, hwr1, HB⟩ := hrel
    have hwr := HB.out.size
    by_cases hlt : k < m
    · obtain ⟨x, hx⟩ : ∃ x, l[k]? = some x := ⟨_, List.getElem?_eq_getElem (by have := HLL.out; omega)⟩
      obtain ⟨q, o, cs, hix, -, hbl, hKx, hra⟩ := (HR.out.below HB.out).index (P := Tryd.prog) Tryd.underlying23 (E := 22) bytes_info hx
      obtain ⟨A2, n2, c2, rfl, hr2⟩ := hKx
      have HR2 := hide hr2
      have hce : wr.cell? ⟨q, o, none⟩ = some (.slice A2 n2 c2) := by simpa using hra 0 _ rfl
      have HTK := hide (flat_take_succ hx)
      have HFP := hide (flat_part hx)
      clear hx hra hr2
      go_wp2_with fail
      refine (c_mwrite (w.heap.size + 1) g key _ x A2 n2 c2 wr HM.out HR2.out (HP.out.ext HB.out) hwr1 (by omega) (by have := HFP.out; have := HN.out; have := HR2.out.1; omega)).mono ?_
      rintro e w3 ⟨rfl, hm3, b3⟩
      have HM3 : Hid (MacAt w3 (w.heap.size + 1) g key (l.take (k + 1)).flatten) := hide (by rw [HTK.out]; exact hm3)
      have HB3 := hide (HB.out.trans (b3.mono (Nat.le_succ _)))
      have HZ3 := hide ((b3.block w.heap.size (Nat.lt_succ_self _)).trans HZ.out)
      have hw3 := b3.size
      clear hm3 b3 hix hce
      go_wp2_with fail
      go_roundw
      case rel => exact ⟨k + 1, by omega, by simp, HM3, HZ3, by omega, HB3⟩
      case measure => simp [intOf]; omega
    · obtain rfl : m = k := by omega
      go_wp2_with fail
      have hm9 := HM.out
      rw [List.take_of_length_le (show l.length ≤ m by have := HLL.out; omega)] at hm9
      refine (c_msum _ g key _ wr hm9 (HP.out.ext HB.out) HN.out).mono ?_
      obtain ⟨t, htt⟩ : ∃ t, t = macT key l.flatten := ⟨_, rfl⟩
      rw [← htt]
      have HTT := hide htt
      clear htt hm9
      rintro e w9 ⟨rfl, b9⟩
      have hz9 := (b9.block w.heap.size hwr1).trans HZ.out
      have hrz := row_of hz9
      have HB9 := hide (bsetRow (HB.out.trans (b9.mono hwr)) (Nat.le_refl _) (tgC t))
      have hag9 : agg? (w9.setRow w.heap.size (tgC t)) ⟨w.heap.size, 0, none⟩ 32 = some (tgC t) := (agg_setRow_at _ _ _ _ _ (by rw [hrz]; rfl) (by decide)).trans (tgC_part t)
      clear b9 hz9
      go_wp2_with fail
      exact bodyPost_ret (v := tgV t) (by simp [results, Tryd.results17, go_sem, hag9]) rfl ⟨by rw [HTT.out], HB9.out⟩
end Go.Proofs.YtdkeflhgengblaaDoor
