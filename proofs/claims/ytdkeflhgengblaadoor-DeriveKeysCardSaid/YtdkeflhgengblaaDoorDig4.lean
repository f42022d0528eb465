/- The walks of digest.Sum, digest.Of. No condition. -/
import Derived.Test.YtdkeflhgengblaaDoorDig3
import Derived.Test.YtdkeflhgengblaaDoorZer
namespace Go.Proofs.YtdkeflhgengblaaDoor
open Go.RowKit
attribute [local go_sem ↓] ld8 ld32 ld64 ld73
attribute [local go_sem] run_ldAgg run_storeAgg agg_alloc_at agg_alloc_past agg_drew agg_setCell row_alloc_at row_alloc_past row_drew setRow_alloc_at setRow_alloc_past setRow_drew agg_setRow_at agg_setRow_far cell_setRow_at cell_setRow_far row_setRow_far size_setRow s8C_size s8C_part s8C_one s8C_splice0 s8C_ne dgC_size dgC_72 dgC_part dgC_h dgC_r dgC_splice_h dgC_set dgC_one dgC_splice0 dgC_ne zero_dg
attribute [local go_sem] tgC_size tgC_one tgC_part tgC_splice tgC_splice_any zero_tg tgC_ne
theorem own_row {ok : Nat → Prop} {base : Nat} {w : World} {E : TypeId} {v : Value} {xs : List UInt8} (h : kU8.Own ok base w E v xs) : ∃ A c, v = .slice A xs.length c ∧ kU8.Row (base ≤ ·) w A xs.length c xs := by
  have h0 : kU8.Own (fun _ => False) base w E v xs := own8 h
  obtain ⟨A, c, rfl, hr⟩ := h0.row
  refine ⟨A, c, rfl, row8 hr fun k _ hk => ?_⟩
  rcases hk with hk | hk
  · exact hk.elim
  · exact (h0.base_le k hk.symm).1
/-- The sum of bytes as a tag. -/
def shaT (xs : List UInt8) : Tg := ⟨sha xs, rfl⟩
set_option maxRecDepth 100000 in
set_option maxHeartbeats 1600000 in
theorem c_dsum (g : Nat) (xs : List UInt8) (w : World) (hD : DigAt w g xs) (hP : PrimesAt w) (hn : xs.length < 1152921504606846976) :
    Calls Tryd.prog 70 #[.pointer (some ⟨g, 0, none⟩)] w fun e w' => e = .returned (tgV (shaT xs)) ∧ Below w.heap.size w w' := by
  have HD := hide hD
  have HP := hide hP
  have HN := hide hn
  have hgs := hD.lt
  clear hD hP hn
  go_enter Tryd.func70, Tryd.ntmps70
  go_wp2_with fail
  obtain ⟨W1, hW1⟩ : ∃ W1, W1 = w.alloc (.cells (tgC Tg.zero) 29) := ⟨_, rfl⟩
  rw [← hW1]
  have hB1 : Below w.heap.size w W1 := by rw [hW1]; exact below1 _ _
  have hs1 : W1.heap.size = w.heap.size + 1 := by rw [hW1]; simp only [World.size_alloc]
  have hz1 : W1.heap[w.heap.size]? = some (.cells (tgC Tg.zero) 29) := by rw [hW1]; exact heap_alloc_new _ _
  clear hW1
  refine (c_dclone g xs W1 (HD.out.ext hB1)).mono ?_
  rintro e w2 ⟨g', rfl, hg', hd2, b2⟩
  have HD1 := hide ((HD.out.ext hB1).ext b2)
  have HD2 := hide hd2
  have HB2 := hide (hB1.trans (b2.mono hB1.size))
  have HZ2 := hide ((b2.block w.heap.size (by omega)).trans hz1)
  have hws2 := HB2.out.size
  have hg2 : w.heap.size + 1 ≤ g' := by omega
  clear hd2 b2 hB1 hs1 hz1 hg'
  obtain ⟨h1, t1, r1, hg1, -, -⟩ := HD1.out
  have hc72 := (cell_of_row w2 g 72 _ _ _ hg1).trans (dgC_72 _ _ _)
  clear hg1
  go_wp2_with fail
  refine (c_pad xs.length w2 (by have := HN.out; omega)).mono ?_
  rintro e w3 ⟨v3, rfl, h3, b3⟩
  obtain ⟨A3, c3, rfl, hr3⟩ := own_row h3
  have HR3 := hide hr3
  have HD3 := hide (HD2.out.ext b3)
  have HB3 := hide (HB2.out.trans (b3.mono hws2))
  have HZ3 := hide ((b3.block w.heap.size (by have := HD2.out.lt; omega)).trans HZ2.out)
  have hws3 := HB3.out.size
  have hg3 := HD2.out.lt
  have hpl : (padN xs.length).length ≤ 72 := by rw [padN_len]; omega
  have HPL := hide hpl
  clear hr3 h3 b3 hc72 hpl
  go_wp2_with fail
  refine (c_dwrite g' xs (padN xs.length) A3 _ c3 _ w3 HD3.out HR3.out (fun k hk => by omega) (HP.out.below HB3.out HP.out.1) (by omega) (by have := HPL.out; have := HN.out; omega)).mono ?_
  rintro e w4 ⟨rfl, hd4, gr4⟩
  have hg33 := HD3.out.lt
  obtain ⟨h4, t4, r4, hg4, hsp4, -⟩ := hd4
  have HSUM := hide hsp4.sum
  have hag4 : agg? w4 ⟨g', 0, none⟩ 8 = some (s8C h4) := (agg_of_row hg4 0 8 (by decide)).trans (dgC_h _ _ _)
  have HB4 : Hid (Below w.heap.size w w4) := hide ⟨gr4.os.trans HB3.out.os, gr4.tape.trans HB3.out.tape, gr4.output.trans HB3.out.output, Nat.le_trans HB3.out.size gr4.size, fun k hk => (gr4.block k (Nat.lt_of_lt_of_le hk HB3.out.size) (fun e => by have := Option.some.inj e; omega)).trans (HB3.out.block k hk)⟩
  have HZ4 := hide ((gr4.block w.heap.size (by omega) (fun e => by have := Option.some.inj e; omega)).trans HZ3.out)
  have hz4s := (Array.getElem?_eq_some_iff.1 HZ4.out).1
  clear hsp4 gr4 hg4
  go_wp2_with fail
  have hll : h4.list.length = 8 := rfl
  obtain ⟨hl, hhl⟩ : ∃ hl, hl = h4.list := ⟨_, rfl⟩
  have HC : Hid (s8C h4 = wlC hl) := hide (by rw [hhl]; rfl)
  have HBY : Hid (h4.bytes = hl.flatMap put4) := hide (by rw [hhl]; rfl)
  rw [← hhl] at hll
  clear hhl
  go_loopw [4, 20] (fun v i wr => ∃ (k : Nat) (A : Option Addr) (n c : Nat), k ≤ 8 ∧ i = .int .i64 (k : Int) ∧ v = .slice A n c ∧ Hid (kU8.Row (fun _ => True) wr A n c ((hl.take k).flatMap put4)) ∧ Hid (n = 4 * k) ∧ Hid (wr.heap[w.heap.size]? = some (.cells (tgC Tg.zero) 29)) ∧ Hid (Below w.heap.size w wr)) (fun _ i _ => 8 - (intOf i).toNat)
  case atStart => exact ⟨0, none, 0, 0, Nat.zero_le _, rfl, rfl, hide (Kd.Row.nil _ _ _ _ _ (Nat.zero_le _)), hide rfl, HZ4, HB4⟩
  case round =>
    obtain ⟨k, A, n, c, hk, rfl, rfl, HR, HNK, HZ, HB⟩ := hrel
    have hwr := HB.out.size
    have hzs := (Array.getElem?_eq_some_iff.1 HZ.out).1
    by_cases hlt : k < 8
    · obtain ⟨x, hx⟩ : ∃ x, hl[k]? = some x := ⟨_, List.getElem?_eq_getElem (by omega)⟩
      have hxc : (s8C h4)[k]? = some (wv x) := by rw [HC.out]; exact wlC_at _ hx
      have hix := arr_index (P := Tryd.prog) Tryd.underlying156 u32_info1 Tryd.underlying155 (s8C h4) k hlt (wv x) hxc .i64
      have HTK : Hid ((hl.take (k + 1)).flatMap put4 = (hl.take k).flatMap put4 ++ put4 x) := hide (by
        rw [List.take_add_one, hx]; simp)
      clear hx hxc
      go_wp2_with fail
      refine (c_put A n c _ x _ wr HR.out (by have := HNK.out; omega)).mono ?_
      rintro e w5 ⟨v5, rfl, h5, b5⟩
      have hl5 : ((hl.take k).flatMap put4 ++ put4 x).length = n + 4 := by rw [List.length_append, HR.out.1]; rfl
      obtain ⟨A5, c5, rfl, hr5⟩ := own_row h5
      rw [hl5] at hr5
      rw [← HTK.out] at hr5
      have HR5 := hide (row8 (ok' := fun _ => True) hr5 fun _ _ _ => trivial)
      have HB5 := hide (HB.out.trans (b5.mono hwr))
      have HZ5 := hide ((b5.block _ hzs).trans HZ.out)
      rw [hl5]
      clear hr5 h5 b5 hl5 hix
      go_wp2_with fail
      go_roundw
      case rel => exact ⟨k + 1, A5, n + 4, c5, by omega, by simp, rfl, HR5, hide (by have := HNK.out; omega), HZ5, HB5⟩
      case measure => simp [intOf]; omega
    · obtain rfl : k = 8 := by omega
      have hn32 : n = 32 := HNK.out
      subst hn32
      have hrow := HR.out
      rw [List.take_of_length_le (show hl.length ≤ 8 by omega), ← HBY.out, HSUM.out] at hrow
      have ht := hrow.1
      obtain ⟨b, o, rfl, -, hb, hc⟩ := row_bytes hrow (by decide)
      have hag : agg? wr ⟨b, o, none⟩ 32 = some (tgC (shaT xs)) := agg_range (cs := (sha xs).map bv) (fun j v hv => by
        rw [List.getElem?_map] at hv
        obtain ⟨x, hx, rfl⟩ := Option.map_eq_some_iff.1 hv
        exact hc j x hx) 32 rfl
      obtain ⟨t, htt⟩ : ∃ t, t = shaT xs := ⟨_, rfl⟩
      rw [← htt] at hag
      have HTT := hide htt
      clear htt
      have hap : ∀ wx : World, (Instr.arrayAt 29 (.slice (some ⟨b, o, none⟩) 32 c)).run Tryd.prog wx = .ok (.pointer (some ⟨b, o, none⟩)) wx := fun wx => by simp [Instr.arrayAt, run_underlying Tryd.underlying29]
      have hrz := row_of HZ.out
      have HB9 := hide (bsetRow HB.out (Nat.le_refl _) (tgC t))
      have hag9 : agg? (wr.setRow w.heap.size (tgC t)) ⟨w.heap.size, 0, none⟩ 32 = some (tgC t) := (agg_setRow_at _ _ _ _ _ (by rw [hrz]; rfl) (by decide)).trans (tgC_part t)
      clear hrow ht hc
      go_wp2_with fail
      exact bodyPost_ret (v := tgV t) (by simp [results, Tryd.results70, go_sem, hag9]) rfl ⟨by rw [HTT.out], HB9.out⟩
/-! ### rows of rows of bytes -/
/-- A slice of slices of bytes: each reads as its bytes. -/
def kRow8 : Kd (List UInt8) where
  sz := 1
  K ok w x cs := ∃ A n c, cs = [.slice A n c] ∧ kU8.Row ok w A n c x
  len := by rintro _ _ x cs ⟨A, n, c, rfl, _⟩; rfl
  one := by
    rintro _ _ x cs ⟨A, n, c, rfl, _⟩ u hu
    rw [List.mem_singleton] at hu
    subst hu
    rfl
  keep hk h := let ⟨A, n, c, e, hr⟩ := h; ⟨A, n, c, e, hr.keep fun k h _ => hk k h⟩
  more hk h := let ⟨A, n, c, e, hr⟩ := h; ⟨A, n, c, e, hr.more hk⟩
  bound h := let ⟨A, n, c, e, hr⟩ := h; ⟨A, n, c, e, hr.bound⟩
end Go.Proofs.YtdkeflhgengblaaDoor
