/- The walk of hmac.turned. No condition. -/
import Derived.Test.YtdkeflhgengblaaDoorDig5
namespace Go.Proofs.YtdkeflhgengblaaDoor
open Go.RowKit
attribute [local go_sem ↓] ld8 ld32 ld64 ld73
attribute [local go_sem] run_ldAgg run_storeAgg agg_alloc_at agg_alloc_past agg_drew agg_setCell row_alloc_at row_alloc_past row_drew setRow_alloc_at setRow_alloc_past setRow_drew agg_setRow_at agg_setRow_far cell_setRow_at cell_setRow_far row_setRow_far size_setRow s8C_size s8C_part s8C_one s8C_splice0 s8C_ne dgC_size dgC_72 dgC_part dgC_h dgC_r dgC_splice_h dgC_set dgC_one dgC_splice0 dgC_ne zero_dg
attribute [local go_sem] tgC_size tgC_one tgC_part tgC_splice tgC_splice_any zero_tg tgC_ne
attribute [local go_sem] zero_b64
/-- Bytes, the first i of them turned. -/
def xorl (K : List UInt8) (b : UInt8) (i : Nat) : List UInt8 := (K.map (· ^^^ b)).take i ++ K.drop i
section
variable {K : List UInt8} {b x : UInt8} {i n : Nat}
theorem xorl_len : (xorl K b i).length = K.length := by simp only [xorl, List.length_append, List.length_take, List.length_map, List.length_drop]; omega
theorem xorl_start : xorl K b 0 = K := by simp [xorl]
theorem xorl_end (h : K.length = n) : xorl K b n = K.map (· ^^^ b) := by
  rw [xorl, List.drop_eq_nil_of_le (by omega), List.append_nil, List.take_of_length_le (by simp; omega)]
theorem xorl_at (h : i < K.length) : (xorl K b i)[i]? = K[i]? := by
  rw [xorl, List.getElem?_append_right (by simp; omega), List.getElem?_drop]
  congr 1
  simp; omega
theorem xorl_set (h : K[i]? = some x) : (xorl K b i).set i (x ^^^ b) = xorl K b (i + 1) := by
  have hi : i < K.length := (List.getElem?_eq_some_iff.1 h).1
  apply List.ext_getElem?
  intro k
  rw [List.getElem?_set, xorl_len]
  by_cases hk : i = k
  · subst hk
    rw [if_pos rfl, if_pos hi, xorl, List.getElem?_append_left (by simp; omega), List.getElem?_take, if_pos (Nat.lt_succ_self _), List.getElem?_map, h]
    rfl
  · rw [if_neg hk, xorl, xorl]
    rcases Nat.lt_or_ge k i with h2 | h2
    · rw [List.getElem?_append_left (by simp; omega), List.getElem?_append_left (by simp; omega), List.getElem?_take, List.getElem?_take, if_pos h2, if_pos (by omega)]
    · rw [List.getElem?_append_right (by simp; omega), List.getElem?_append_right (by simp; omega), List.getElem?_drop, List.getElem?_drop]
      congr 1
      simp only [List.length_take, List.length_map]; omega
theorem row8_one {ok : Nat → Prop} {w : World} {g : Nat} {A : Option Addr} {n c : Nat} {x : List UInt8} {t : TypeId} {fr : Nat × Nat} (hg : w.heap[g]? = some (.cells #[.slice A n c] t fr)) (hr : kU8.Row ok w A n c x) (hok : ok g) : kRow8.Row ok w (some ⟨g, 0, none⟩) 1 1 [x] := by
  refine ⟨rfl, Nat.le_refl _, by decide, fun _ => ⟨g, 0, rfl, hok, (Array.getElem?_eq_some_iff.1 hg).1, fun i y hy => ?_⟩⟩
  have hi : i = 0 := by have := (List.getElem?_eq_some_iff.1 hy).1; simp at this; omega
  subst hi
  have hy' : y = x := by simpa using hy.symm
  subst hy'
  refine ⟨[.slice A n c], ⟨A, n, c, rfl, hr⟩, fun j u hu => ?_⟩
  have hj : j = 0 := by have := (List.getElem?_eq_some_iff.1 hu).1; simp at this; omega
  subst hj
  have hu' : u = .slice A n c := by simpa using hu.symm
  subst hu'
  rw [cell_of_row w _ _ _ _ _ hg]
  rfl
theorem b_xor (x b : UInt8) : bits .xor .u8 (x.toNat : Int) (b.toNat : Int) = ((x ^^^ b).toNat : Int) := u8_xor_nat _ _ x.toNat_lt b.toNat_lt
end
set_option maxRecDepth 100000 in
set_option maxHeartbeats 1600000 in
theorem c_turned0 (A : Option Addr) (n c : Nat) (key : List UInt8) (by_ : UInt8) (ok : Nat → Prop) (w : World) (hR : kU8.Row ok w A n c key) (hP : PrimesAt w) (hn : n ≤ 64) :
    Calls Tryd.prog 68 #[.slice A n c, bv by_] w fun e w' => ∃ g, e = .returned (.pointer (some ⟨g, 0, none⟩)) ∧ w.heap.size ≤ g ∧ DigAt w' g (keyX key by_) ∧ Below w.heap.size w w' := by
  have HP := hide hP
  have hp0 := hP.1
  obtain ⟨KB, hKB⟩ : ∃ KB, KB = key := ⟨_, rfl⟩
  have HKB : Hid (KB = keyB key) := hide (by rw [keyB, if_neg (by rw [hR.1]; omega), hKB])
  have HKL : Hid (KB.length ≤ 64) := hide (by rw [hKB, hR.1]; exact hn)
  have HR2 : Hid (kU8.Row (fun k => k < w.heap.size) (w.alloc (.cells (blC zb64) 153)) A n c KB) := hide (by
    rw [hKB]
    exact (row8 hR.bound (fun k _ h => h.2)).alloc _)
  have HZ2 := hide (heap_alloc_new w (.cells (blC zb64) 153))
  have HB2 := hide (below1 w (.cells (blC zb64) 153))
  obtain ⟨n2, hn2⟩ : ∃ n2, n2 = n := ⟨_, rfl⟩
  rw [← hn2] at HR2 hn ⊢
  clear hKB hR hP hn2
  go_enter Tryd.func68, Tryd.ntmps68

  -- the key's block
  have hkl : KB.length ≤ 64 := HKL.out
  obtain ⟨K, hK⟩ : ∃ K, K = KB ++ List.replicate (64 - KB.length) (0 : UInt8) := ⟨_, rfl⟩
  have hKl : K.length = 64 := by rw [hK, List.length_append, List.length_replicate]; omega
  have HKX : Hid (K.map (· ^^^ by_) = keyX key by_) := hide (by rw [hK, keyX, HKB.out])
  have HSPL : Hid (splice (blC zb64) 0 (blC (KB.take KB.length)) = blC K) := hide (by
    rw [List.take_length, blC_splice, hK]
    congr 1
    rw [List.take_zero, List.nil_append, Nat.zero_add]
    congr 1
    rw [zb64, List.drop_replicate])
  have HMIN : Hid (min n2 64 = KB.length) := hide (by have := HR2.out.1; omega)
  have HKL64 := hide hKl
  clear hK hkl hKl
  go_wp2_with ((with_reducible show wpList _ _ _ (Oper.mk (some 18) _ _ _ _ _ :: _) _ _); go_loud (refine at_copy8g (P := Tryd.prog) 5 Tryd.underlying22 (by kernel_rfl) w.heap.size 0 64 64 HR2.out rfl rfl _ _ HZ2.out KB.length HMIN.out (by rw [blC_size, Nat.zero_add]; exact HKL.out) _ HSPL.out ?_; intro w3 HZ3 hgr3))
  have HB3 : Hid (Below w.heap.size w w3) := hide ⟨hgr3.os.trans HB2.out.os, hgr3.tape.trans HB2.out.tape, hgr3.output.trans HB2.out.output, Nat.le_trans HB2.out.size hgr3.size, fun j hj => (hgr3.block j (Nat.lt_of_lt_of_le hj HB2.out.size) (fun e => by have := Option.some.inj e; omega)).trans (HB2.out.block j hj)⟩
  clear hgr3
  go_loopw [19] (fun i wr => ∃ (k : Nat), k ≤ 64 ∧ i = .int .i64 (k : Int) ∧ Hid (wr.heap[w.heap.size]? = some (.cells (blC (xorl K by_ k)) 153)) ∧ Hid (Below w.heap.size w wr)) (fun i _ => 64 - (intOf i).toNat)
  case atStart => exact ⟨0, Nat.zero_le _, rfl, hide (by rw [xorl_start]; exact HZ3.out), HB3⟩
  case round =>
    obtain ⟨k, hk, rfl, HZ, HB⟩ := hrel
    have hwr := HB.out.size
    have hzs := (Array.getElem?_eq_some_iff.1 HZ.out).1
    by_cases hlt : k < 64
    · obtain ⟨x, hx⟩ : ∃ x, K[k]? = some x := ⟨_, List.getElem?_eq_getElem (by have := HKL64.out; omega)⟩
      have hcx := (cell_of_row wr _ k _ _ _ HZ.out).trans (blC_at _ ((xorl_at (b := by_) (by have := HKL64.out; omega)).trans hx))
      have hfz := frozen_of_row wr w.heap.size k _ _ HZ.out
      have HST := hide (xorl_set (b := by_) hx)
      have hxx := b_xor x by_
      clear hx
      go_wp2_with fail
      go_roundw
      case rel =>
        refine ⟨k + 1, by omega, by simp, ?_, hide (bsetCell HB.out (Nat.le_refl _) _ _)⟩
        have := heap_setCell_at (i := k) (bv (x ^^^ by_)) HZ.out
        rw [blC_set, HST.out] at this
        exact hide this
      case measure => simp [intOf]; omega
    · obtain rfl : k = 64 := by omega
      go_wp2_with fail
      refine (c_dnew wr).mono ?_
      rintro e w5 ⟨g, rfl, hg, hd5, b5⟩
      have hz5 := (b5.block _ hzs).trans HZ.out
      rw [xorl_end (b := by_) HKL64.out, HKX.out] at hz5
      have hrow : kU8.Row (fun k => k = w.heap.size) w5 (some ⟨w.heap.size, 0, none⟩) 64 64 (keyX key by_) := by
        have := row_all (ok := fun k => k = w.heap.size) hz5 rfl (by rw [keyX_len]; decide)
        rwa [keyX_len] at this
      have HROW := hide hrow
      have HD5 := hide hd5
      have HB5 := hide (HB.out.trans (b5.mono hwr))
      have hws := HB5.out.size
      clear hz5 hrow hd5 b5
      go_wp2_with fail
      refine (c_dwrite g [] (keyX key by_) _ 64 64 _ w5 HD5.out HROW.out (fun k hk => by omega) (HP.out.below HB5.out HP.out.1) (by omega) (by simp)).mono ?_
      rintro e w6 ⟨rfl, hd6, gr6⟩
      have HD6 := hide hd6
      have HB6 : Hid (Below w.heap.size w w6) := hide ⟨gr6.os.trans HB5.out.os, gr6.tape.trans HB5.out.tape, gr6.output.trans HB5.out.output, Nat.le_trans HB5.out.size gr6.size, fun j hj => (gr6.block j (Nat.lt_of_lt_of_le hj HB5.out.size) (fun e => by have := Option.some.inj e; omega)).trans (HB5.out.block j hj)⟩
      clear hd6 gr6
      go_wp2_with fail
      go_ret
      exact ⟨g, rfl, by omega, by simpa using HD6.out, HB6.out⟩

set_option maxRecDepth 100000 in
set_option maxHeartbeats 1600000 in
theorem c_turned1 (A : Option Addr) (n c : Nat) (key : List UInt8) (by_ : UInt8) (ok : Nat → Prop) (w : World) (hR : kU8.Row ok w A n c key) (hP : PrimesAt w) (hn : 64 < n) (hn2 : n < 1152921504606846976) :
    Calls Tryd.prog 68 #[.slice A n c, bv by_] w fun e w' => ∃ g, e = .returned (.pointer (some ⟨g, 0, none⟩)) ∧ w.heap.size ≤ g ∧ DigAt w' g (keyX key by_) ∧ Below w.heap.size w w' := by
  have HP := hide hP
  have HR := hide hR
  have hp0 := hP.1
  have HN := hide hn2
  clear hR hP hn2
  go_enter Tryd.func68, Tryd.ntmps68
  go_wp2_with fail
  obtain ⟨W2, hW2⟩ : ∃ W2, W2 = (w.alloc (.cells (blC zb64) 153)).alloc (.cells #[.slice A n c] 22) := ⟨_, rfl⟩
  rw [← hW2]
  have hB0 : Below w.heap.size w W2 := by rw [hW2]; exact below2 _ _ _
  have hs0 : W2.heap.size = w.heap.size + 1 + 1 := by rw [hW2]; simp only [World.size_alloc]
  have hz0 : W2.heap[w.heap.size]? = some (.cells (blC zb64) 153) := by
    rw [hW2, Below.heap_alloc _ _ _ (by simp only [World.size_alloc]; omega)]
    exact heap_alloc_new _ _
  have hc0 : W2.heap[w.heap.size + 1]? = some (.cells #[.slice A n c] 22) := by
    rw [hW2]
    have := heap_alloc_new (w.alloc (.cells (blC zb64) 153)) (.cells #[.slice A n c] 22)
    simpa only [World.size_alloc] using this
  clear hW2
  have hr0 : kRow8.Row (fun _ => True) W2 (some ⟨w.heap.size + 1, 0, none⟩) 1 1 [key] := row8_one hc0 (row8 (HR.out.below hB0) (fun _ _ _ => trivial)) trivial
  have hP2 := HP.out.below hB0 HP.out.1
  have hkl : key.length = n := HR.out.1
  refine (c_digof _ 1 1 [key] _ W2 hr0 hP2 (by have := HN.out; simp; omega)).mono ?_
  rintro e w2 ⟨rfl, b2⟩
  rw [show [key].flatten = key by simp]
  obtain ⟨t, htt⟩ : ∃ t, t = shaT key := ⟨_, rfl⟩
  rw [← htt]
  obtain ⟨KB, hKB⟩ : ∃ KB, KB = t.l := ⟨_, rfl⟩
  have HKB : Hid (KB = keyB key) := hide (by rw [keyB, if_pos (by rw [hkl]; exact hn), hKB, htt]; rfl)
  have HKL : Hid (KB.length ≤ 64) := hide (by rw [hKB, t.len]; decide)
  have hsz2 := b2.size
  have HZ2 : Hid ((w2.alloc (.cells (tgC t) 29)).heap[w.heap.size]? = some (.cells (blC zb64) 153)) := hide ((Below.heap_alloc _ _ _ (by omega)).trans ((b2.block _ (by omega)).trans hz0))
  have HB2 : Hid (Below w.heap.size w (w2.alloc (.cells (tgC t) 29))) := hide (hB0.trans ((b2.mono hB0.size).trans ((below1 w2 _).mono (by omega))))
  have HR2 : Hid (kU8.Row (fun k => w.heap.size < k) (w2.alloc (.cells (tgC t) 29)) (some ⟨w2.heap.size, 0, none⟩) 32 32 KB) := hide (by
    have hq : (w2.alloc (.cells (tgC t) 29)).heap[w2.heap.size]? = some (.cells (blC KB) 29) := by rw [heap_alloc_new, hKB, tgC_bl]
    have hl : KB.length = 32 := by rw [hKB, t.len]
    have := row_all (ok := fun k => w.heap.size < k) hq (by omega) (by rw [hl]; decide)
    rwa [hl] at this)
  have hgw : w.heap.size < w2.heap.size := by omega
  clear hKB htt hsz2 hr0 hP2 hB0 hs0 hz0 hc0 b2 hkl

  -- the key's block
  have hkl : KB.length ≤ 64 := HKL.out
  obtain ⟨K, hK⟩ : ∃ K, K = KB ++ List.replicate (64 - KB.length) (0 : UInt8) := ⟨_, rfl⟩
  have hKl : K.length = 64 := by rw [hK, List.length_append, List.length_replicate]; omega
  have HKX : Hid (K.map (· ^^^ by_) = keyX key by_) := hide (by rw [hK, keyX, HKB.out])
  have HSPL : Hid (splice (blC zb64) 0 (blC (KB.take KB.length)) = blC K) := hide (by
    rw [List.take_length, blC_splice, hK]
    congr 1
    rw [List.take_zero, List.nil_append, Nat.zero_add]
    congr 1
    rw [zb64, List.drop_replicate])
  have HMIN : Hid (min 32 64 = KB.length) := hide (by have := HR2.out.1; omega)
  have HKL64 := hide hKl
  clear hK hkl hKl
  go_wp2_with ((with_reducible show wpList _ _ _ (Oper.mk (some 18) _ _ _ _ _ :: _) _ _); go_loud (refine at_copy8g (P := Tryd.prog) 5 Tryd.underlying22 (by kernel_rfl) w.heap.size 0 64 64 HR2.out rfl rfl _ _ HZ2.out KB.length HMIN.out (by rw [blC_size, Nat.zero_add]; exact HKL.out) _ HSPL.out ?_; intro w3 HZ3 hgr3))
  have HB3 : Hid (Below w.heap.size w w3) := hide ⟨hgr3.os.trans HB2.out.os, hgr3.tape.trans HB2.out.tape, hgr3.output.trans HB2.out.output, Nat.le_trans HB2.out.size hgr3.size, fun j hj => (hgr3.block j (Nat.lt_of_lt_of_le hj HB2.out.size) (fun e => by have := Option.some.inj e; omega)).trans (HB2.out.block j hj)⟩
  clear hgr3
  go_loopw [19] (fun i wr => ∃ (k : Nat), k ≤ 64 ∧ i = .int .i64 (k : Int) ∧ Hid (wr.heap[w.heap.size]? = some (.cells (blC (xorl K by_ k)) 153)) ∧ Hid (Below w.heap.size w wr)) (fun i _ => 64 - (intOf i).toNat)
  case atStart => exact ⟨0, Nat.zero_le _, rfl, hide (by rw [xorl_start]; exact HZ3.out), HB3⟩
  case round =>
    obtain ⟨k, hk, rfl, HZ, HB⟩ := hrel
    have hwr := HB.out.size
    have hzs := (Array.getElem?_eq_some_iff.1 HZ.out).1
    by_cases hlt : k < 64
    · obtain ⟨x, hx⟩ : ∃ x, K[k]? = some x := ⟨_, List.getElem?_eq_getElem (by have := HKL64.out; omega)⟩
      have hcx := (cell_of_row wr _ k _ _ _ HZ.out).trans (blC_at _ ((xorl_at (b := by_) (by have := HKL64.out; omega)).trans hx))
      have hfz := frozen_of_row wr w.heap.size k _ _ HZ.out
      have HST := hide (xorl_set (b := by_) hx)
      have hxx := b_xor x by_
      clear hx
      go_wp2_with fail
      go_roundw
      case rel =>
        refine ⟨k + 1, by omega, by simp, ?_, hide (bsetCell HB.out (Nat.le_refl _) _ _)⟩
        have := heap_setCell_at (i := k) (bv (x ^^^ by_)) HZ.out
        rw [blC_set, HST.out] at this
        exact hide this
      case measure => simp [intOf]; omega
    · obtain rfl : k = 64 := by omega
      go_wp2_with fail
      refine (c_dnew wr).mono ?_
      rintro e w5 ⟨g, rfl, hg, hd5, b5⟩
      have hz5 := (b5.block _ hzs).trans HZ.out
      rw [xorl_end (b := by_) HKL64.out, HKX.out] at hz5
      have hrow : kU8.Row (fun k => k = w.heap.size) w5 (some ⟨w.heap.size, 0, none⟩) 64 64 (keyX key by_) := by
        have := row_all (ok := fun k => k = w.heap.size) hz5 rfl (by rw [keyX_len]; decide)
        rwa [keyX_len] at this
      have HROW := hide hrow
      have HD5 := hide hd5
      have HB5 := hide (HB.out.trans (b5.mono hwr))
      have hws := HB5.out.size
      clear hz5 hrow hd5 b5
      go_wp2_with fail
      refine (c_dwrite g [] (keyX key by_) _ 64 64 _ w5 HD5.out HROW.out (fun k hk => by omega) (HP.out.below HB5.out HP.out.1) (by omega) (by simp)).mono ?_
      rintro e w6 ⟨rfl, hd6, gr6⟩
      have HD6 := hide hd6
      have HB6 : Hid (Below w.heap.size w w6) := hide ⟨gr6.os.trans HB5.out.os, gr6.tape.trans HB5.out.tape, gr6.output.trans HB5.out.output, Nat.le_trans HB5.out.size gr6.size, fun j hj => (gr6.block j (Nat.lt_of_lt_of_le hj HB5.out.size) (fun e => by have := Option.some.inj e; omega)).trans (HB5.out.block j hj)⟩
      clear hd6 gr6
      go_wp2_with fail
      go_ret
      exact ⟨g, rfl, by omega, by simpa using HD6.out, HB6.out⟩
end Go.Proofs.YtdkeflhgengblaaDoor
