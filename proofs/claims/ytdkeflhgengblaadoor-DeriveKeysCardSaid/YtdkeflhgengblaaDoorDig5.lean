/- The walk of digest.Of. No condition. -/
import Derived.Test.YtdkeflhgengblaaDoorDig4
namespace Go.Proofs.YtdkeflhgengblaaDoor
open Go.RowKit
attribute [local go_sem ↓] ld8 ld32 ld64 ld73
attribute [local go_sem] run_ldAgg run_storeAgg agg_alloc_at agg_alloc_past agg_drew agg_setCell row_alloc_at row_alloc_past row_drew setRow_alloc_at setRow_alloc_past setRow_drew agg_setRow_at agg_setRow_far cell_setRow_at cell_setRow_far row_setRow_far size_setRow s8C_size s8C_part s8C_one s8C_splice0 s8C_ne dgC_size dgC_72 dgC_part dgC_h dgC_r dgC_splice_h dgC_set dgC_one dgC_splice0 dgC_ne zero_dg
attribute [local go_sem] tgC_size tgC_one tgC_part tgC_splice tgC_splice_any zero_tg tgC_ne

theorem bytes_info : (Tryd.prog.info? 22).map (·.size) = some kRow8.sz := by kernel_rfl
theorem flat_take_succ {l : List (List UInt8)} {k : Nat} {x : List UInt8} (h : l[k]? = some x) : (l.take (k + 1)).flatten = (l.take k).flatten ++ x := by
  rw [List.take_add_one, h]; simp
theorem flat_take_le (l : List (List UInt8)) (k : Nat) : (l.take k).flatten.length ≤ l.flatten.length := by
  have := congrArg List.length (show l.flatten = (l.take k).flatten ++ (l.drop k).flatten by rw [← List.flatten_append, List.take_append_drop])
  rw [List.length_append] at this
  omega
theorem flat_part {l : List (List UInt8)} {k : Nat} {x : List UInt8} (h : l[k]? = some x) : (l.take k).flatten.length + x.length ≤ l.flatten.length := by
  have := flat_take_le l (k + 1)
  rw [flat_take_succ h, List.length_append] at this
  exact this
set_option maxRecDepth 100000 in
set_option maxHeartbeats 1600000 in
theorem c_digof (A : Option Addr) (n c : Nat) (l : List (List UInt8)) (ok : Nat → Prop) (w : World) (hR : kRow8.Row ok w A n c l) (hP : PrimesAt w) (hn : l.flatten.length < 1152921504606846976) :
    Calls Tryd.prog 99 #[.slice A n c] w fun e w' => e = .returned (tgV (shaT l.flatten)) ∧ Below w.heap.size w w' := by
  have HR := hide hR.bound
  have HP := hide hP
  have HN := hide hn
  have hll := hR.1
  have hn63 : n ≤ 9223372036854775807 := Nat.le_trans hR.2.1 hR.2.2.1
  clear hR hP hn
  go_enter Tryd.func99, Tryd.ntmps99
  go_wp2_with fail
  obtain ⟨W1, hW1⟩ : ∃ W1, W1 = w.alloc (.cells (tgC Tg.zero) 29) := ⟨_, rfl⟩
  rw [← hW1]
  have hB1 : Below w.heap.size w W1 := by rw [hW1]; exact below1 _ _
  have hs1 : W1.heap.size = w.heap.size + 1 := by rw [hW1]; simp only [World.size_alloc]
  have hz1 : W1.heap[w.heap.size]? = some (.cells (tgC Tg.zero) 29) := by rw [hW1]; exact heap_alloc_new _ _
  clear hW1
  refine (c_dnew W1).mono ?_
  rintro e w2 ⟨g, rfl, hg, hd2, b2⟩
  have HD2 := hide hd2
  have HB2 := hide (hB1.trans (b2.mono hB1.size))
  have HZ2 := hide ((b2.block w.heap.size (by omega)).trans hz1)
  have hg2 : w.heap.size + 1 ≤ g := by omega
  have HLL := hide hll
  clear hd2 b2 hB1 hs1 hz1 hg hll
  go_wp2_with fail
  go_loopw [9] (fun i wr => ∃ (k : Nat), k ≤ n ∧ i = .int .i64 (k : Int) ∧ Hid (DigAt wr g (l.take k).flatten) ∧ Hid (wr.heap[w.heap.size]? = some (.cells (tgC Tg.zero) 29)) ∧ Hid (Below w.heap.size w wr)) (fun i _ => n - (intOf i).toNat)
  case atStart => exact ⟨0, Nat.zero_le _, rfl, HD2, HZ2, HB2⟩
  case round =>
    obtain ⟨k, hk, rfl, HD, HZ, HB⟩ := hrel
    have hwr := HB.out.size
    have hzs := (Array.getElem?_eq_some_iff.1 HZ.out).1
    have hgs := HD.out.lt
    by_cases hlt : k < n
    · obtain ⟨x, hx⟩ : ∃ x, l[k]? = some x := ⟨_, List.getElem?_eq_getElem (by have := HLL.out; omega)⟩
      obtain ⟨q, o, cs, hix, -, hbl, hKx, hra⟩ := (HR.out.below HB.out).index (P := Tryd.prog) Tryd.underlying23 (E := 22) bytes_info hx
      obtain ⟨A2, n2, c2, rfl, hr2⟩ := hKx
      have HR2 := hide hr2
      have hce : wr.cell? ⟨q, o, none⟩ = some (.slice A2 n2 c2) := by simpa using hra 0 _ rfl
      have HTK := hide (flat_take_succ hx)
      have HFP := hide (flat_part hx)
      clear hx hra hr2
      go_wp2_with fail
      refine (c_dwrite g _ x A2 n2 c2 _ wr HD.out HR2.out (fun k hk => by omega) (HP.out.below HB.out HP.out.1) (by omega) (by have := HFP.out; have := HN.out; have := HR2.out.1; omega)).mono ?_
      rintro e w3 ⟨rfl, hd3, gr3⟩
      have HD3 : Hid (DigAt w3 g (l.take (k + 1)).flatten) := hide (by rw [HTK.out]; exact hd3)
      have HB3 : Hid (Below w.heap.size w w3) := hide ⟨gr3.os.trans HB.out.os, gr3.tape.trans HB.out.tape, gr3.output.trans HB.out.output, Nat.le_trans HB.out.size gr3.size, fun j hj => (gr3.block j (Nat.lt_of_lt_of_le hj HB.out.size) (fun e => by have := Option.some.inj e; omega)).trans (HB.out.block j hj)⟩
      have HZ3 := hide ((gr3.block w.heap.size (by omega) (fun e => by have := Option.some.inj e; omega)).trans HZ.out)
      clear hd3 gr3 hix hce
      go_wp2_with fail
      go_roundw
      case rel => exact ⟨k + 1, by omega, by simp, HD3, HZ3, HB3⟩
      case measure => simp [intOf]; omega
    · obtain rfl : n = k := by omega
      go_wp2_with fail
      have hd9 := HD.out
      rw [List.take_of_length_le (show l.length ≤ n by have := HLL.out; omega)] at hd9
      refine (c_dsum g _ wr hd9 (HP.out.below HB.out HP.out.1) HN.out).mono ?_
      obtain ⟨t, htt⟩ : ∃ t, t = shaT l.flatten := ⟨_, rfl⟩
      rw [← htt]
      have HTT := hide htt
      clear htt hd9
      rintro e w9 ⟨rfl, b9⟩
      have hz9 := (b9.block _ hzs).trans HZ.out
      have hrz := row_of hz9
      have HB9 := hide (bsetRow (HB.out.trans (b9.mono hwr)) (Nat.le_refl _) (tgC t))
      have hag9 : agg? (w9.setRow w.heap.size (tgC t)) ⟨w.heap.size, 0, none⟩ 32 = some (tgC t) := (agg_setRow_at _ _ _ _ _ (by rw [hrz]; rfl) (by decide)).trans (tgC_part t)
      clear b9 hz9
      go_wp2_with fail
      exact bodyPost_ret (v := tgV t) (by simp [results, Tryd.results99, go_sem, hag9]) rfl ⟨by rw [HTT.out], HB9.out⟩
end Go.Proofs.YtdkeflhgengblaaDoor
