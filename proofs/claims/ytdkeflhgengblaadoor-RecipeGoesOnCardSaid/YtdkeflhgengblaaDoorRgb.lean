/- Texts of one proof, one behind the other: Wd2, Blk1, Blk2, Dig1, Fil, Dig2, Dig3, Zer, Dig4, Opn, Door, TagEq, Tk, Chk, Bk, Bun1, Fld3, Pkt7, Pkt1, Pkt2, Pkt3. No condition. -/
import Derived.Test.YtdkeflhgengblaaDoorRga
import Derived.Great.FillDense
import Derived.Deep.OwnRows
import Derived.Laws.OwnMore
import Derived.Lib.AppendZerosOnto
import Derived.Test.YtdkeflhgengblaaDoorRows
import Derived.ProofKit
import Derived.LaidMore
import Derived.OpenShut
import Derived.Stop.Joined
import Derived.Stop.BytesEq
import Derived.Great.BuildSlice
namespace Go.Proofs.YtdkeflhgengblaaDoor
open Go.RowKit
attribute [local go_sem ↓] ld8 ld64
attribute [local go_sem] run_ldAgg run_storeAgg agg_alloc_at agg_alloc_past agg_drew agg_setCell row_alloc_at row_alloc_past row_drew setRow_alloc_at setRow_alloc_past setRow_drew agg_setRow_at agg_setRow_far cell_setRow_at cell_setRow_far row_setRow_far size_setRow s8C_size s8C_0 s8C_1 s8C_2 s8C_3 s8C_4 s8C_5 s8C_6 s8C_7 s8C_part s8C_one s8C_splice0 s8C_ne
theorem u8_u32 (b : UInt8) : (b.toNat : Int) % 4294967296 = (b.toUInt32.toNat : Int) := by
  have := b.toNat_lt
  rw [UInt8.toNat_toUInt32]; omega
theorem w_shl24 (x : UInt32) : ((x.toNat : Int) * 16777216) % 4294967296 = ((x <<< (24 : UInt32)).toNat : Int) := w_shl x 24 (by decide)
theorem w_shl16 (x : UInt32) : ((x.toNat : Int) * 65536) % 4294967296 = ((x <<< (16 : UInt32)).toNat : Int) := w_shl x 16 (by decide)
theorem w_shl8 (x : UInt32) : ((x.toNat : Int) * 256) % 4294967296 = ((x <<< (8 : UInt32)).toNat : Int) := w_shl x 8 (by decide)
set_option maxRecDepth 100000 in
theorem c_get (A : Option Addr) (n c : Nat) (x0 x1 x2 x3 : UInt8) (r : List UInt8) (ok : Nat → Prop) (w : World) (hR : kU8.Row ok w A n c (x0 :: x1 :: x2 :: x3 :: r)) :
    Calls Tryd.prog 133 #[.slice A n c] w fun e w' => e = .returned (wv (get4 (x0 :: x1 :: x2 :: x3 :: r))) ∧ Below w.heap.size w w' := by
  have h4 : min n 4 = 4 := by
    have := hR.1
    simp at this
    omega
  have HR := hide hR
  clear hR
  go_enter Tryd.func133, Tryd.ntmps133
  go_wp2_with ((with_reducible show wpList _ _ _ (Oper.mk (some 6) _ _ _ _ _ :: _) _ _); go_loud (refine at_copy8 (P := Tryd.prog) 5 Tryd.underlying22 (by kernel_rfl) w.heap.size 0 4 4 (HR.out.alloc _) rfl rfl _ _ (heap_alloc_new _ _) 4 h4 (by decide) #[bv x0, bv x1, bv x2, bv x3] rfl ?_))
  go_ret
  refine ⟨congrArg (fun z => Ending.returned (.int .u32 z)) (?_ : bits .or .u32 (bits .or .u32 (bits .or .u32 ((x0.toNat : Int) % 4294967296 * 16777216 % 4294967296) ((x1.toNat : Int) % 4294967296 * 65536 % 4294967296)) ((x2.toNat : Int) % 4294967296 * 256 % 4294967296)) ((x3.toNat : Int) % 4294967296) = _), below1 _ _⟩
  rw [u8_u32, u8_u32, u8_u32, u8_u32, w_shl24, w_shl16, w_shl8, w_or, w_or, w_or]
  rfl
set_option maxRecDepth 100000 in
theorem c_wstart (w : World) : Calls Tryd.prog 117 #[] w fun e w' => e = .returned (.agg (s8C S8.start)) ∧ Below w.heap.size w w' := by
  go_enter Tryd.func117, Tryd.ntmps117
  go_wp2
  exact bodyPost_ret (v := .agg (s8C S8.start)) (by simp [results, Tryd.results117, go_sem, show (#[Value.int IntKind.u32 1779033703, Value.int IntKind.u32 3144134277, Value.int IntKind.u32 1013904242, Value.int IntKind.u32 2773480762, Value.int IntKind.u32 1359893119, Value.int IntKind.u32 2600822924, Value.int IntKind.u32 528734635, Value.int IntKind.u32 1541459225] : Array Value) = s8C S8.start from rfl]) rfl ⟨rfl, below1 _ _⟩
theorem w_byte24 (x : UInt32) : ((x.toNat : Int) / 16777216) % 256 = ((x >>> (24 : UInt32)).toUInt8.toNat : Int) := by
  have : (x.toNat : Int) / 16777216 = ((x >>> (24 : UInt32)).toNat : Int) := w_shr x 24 (by decide)
  rw [this]; simp
theorem w_byte16 (x : UInt32) : ((x.toNat : Int) / 65536) % 256 = ((x >>> (16 : UInt32)).toUInt8.toNat : Int) := by
  have : (x.toNat : Int) / 65536 = ((x >>> (16 : UInt32)).toNat : Int) := w_shr x 16 (by decide)
  rw [this]; simp
theorem w_byte8 (x : UInt32) : ((x.toNat : Int) / 256) % 256 = ((x >>> (8 : UInt32)).toUInt8.toNat : Int) := by
  have : (x.toNat : Int) / 256 = ((x >>> (8 : UInt32)).toNat : Int) := w_shr x 8 (by decide)
  rw [this]; simp
theorem w_byte0 (x : UInt32) : (x.toNat : Int) % 256 = (x.toUInt8.toNat : Int) := by simp
set_option maxRecDepth 100000 in
set_option maxHeartbeats 400000 in
theorem c_put (A : Option Addr) (n c : Nat) (xs : List UInt8) (x : UInt32) (ok : Nat → Prop) (w : World) (hR : kU8.Row ok w A n c xs) (hn : n ≤ 1099511627777) :
    Calls Tryd.prog 103 #[.slice A n c, wv x] w fun e w' => ∃ v, e = .returned v ∧ kU8.Own (fun _ => True) w.heap.size w' 5 v (xs ++ put4 x) ∧ Below w.heap.size w w' := by
  have HR := hide hR
  have hc : n ≤ c := hR.2.1
  have hm : c ≤ maxLen := hR.2.2.1
  have HN := hide hn
  clear hR hn
  go_enter Tryd.func103, Tryd.ntmps103
  go_wp2_with fail
  refine (c_clip A n c w hc hm).mono ?_
  rintro e w1 ⟨rfl, rfl⟩
  have happ : kU8.App (fun _ => True) w.heap.size w 5 (.slice A n n) xs := by
    have hR := HR.out
    have hl := hR.1
    subst hl
    exact .inr ⟨A, rfl, hR.1, Nat.le_refl _, by have := HN.out; simp only [maxLen]; omega, fun h => let ⟨b, o, e, hb, hlt, hcc⟩ := hR.2.2.2 h; ⟨b, o, e, ⟨trivial, hlt⟩, hlt, fun i x hx => let ⟨cs, h1, h2⟩ := hcc i x hx; ⟨cs, h1, h2⟩⟩⟩
  have Happ := hide happ
  clear happ
  have hlx : xs.length + 4 ≤ 1099511627781 := by have := HR.out.1; have := HN.out; omega
  have HL := hide hlx
  clear hlx
  have hb4 : w.heap.size ≤ w.heap.size := Nat.le_refl _
  have e4 : (#[.int .u8 ((x.toNat : Int) / 16777216 % 256), .int .u8 ((x.toNat : Int) / 65536 % 256), .int .u8 ((x.toNat : Int) / 256 % 256), .int .u8 ((x.toNat : Int) % 256)] : Array Value) = blC (put4 x) := by
    rw [w_byte24, w_byte16, w_byte8, w_byte0]; rfl
  go_wp2_with (at_builtin; go_loud (refine wpList_app (d := kU8) (ys := put4 x) rfl _ _ _ rfl Tryd.underlying22 u8_info rfl (by decide) 4 rfl rfl (Happ.out.alloc hb4 _) (src8 (row_all (ok := fun _ => True) (l := put4 x) (heap_alloc_new w _) trivial (show 4 ≤ maxLen by decide)).src) ?_ ?_ ?_ ?_))
  · simp
  · have := HL.out; simp only [maxLen]; omega
  · have := HL.out; omega
  · intro v1 w1 _ h2 h3 _ _
    have H2 := hide h2
    have H3 := hide ((below1 w (.cells (blC (put4 x)) 5)).trans h3)
    clear h2 h3
    go_wp2
    go_ret
    exact ⟨_, rfl, H2.out, H3.out⟩
end Go.Proofs.YtdkeflhgengblaaDoor
namespace Go.Proofs.YtdkeflhgengblaaDoor
open Go.RowKit
attribute [local go_sem ↓] ld8 ld64
attribute [local go_sem] run_ldAgg run_storeAgg agg_alloc_at agg_alloc_past agg_drew agg_setCell row_alloc_at row_alloc_past row_drew setRow_alloc_at setRow_alloc_past setRow_drew agg_setRow_at agg_setRow_far cell_setRow_at cell_setRow_far row_setRow_far size_setRow s8C_size s8C_0 s8C_1 s8C_2 s8C_3 s8C_4 s8C_5 s8C_6 s8C_7 s8C_part s8C_one s8C_splice0 s8C_ne blC_size wlC_size blC_one wlC_one

def zw64 : List UInt32 := List.replicate 64 0
def zb64 : List UInt8 := List.replicate 64 0
def s8z : S8 := ⟨0, 0, 0, 0, 0, 0, 0, 0⟩
theorem zero_w64 : (#[.int .u32 0, .int .u32 0, .int .u32 0, .int .u32 0, .int .u32 0, .int .u32 0, .int .u32 0, .int .u32 0, .int .u32 0, .int .u32 0, .int .u32 0, .int .u32 0, .int .u32 0, .int .u32 0, .int .u32 0, .int .u32 0, .int .u32 0, .int .u32 0, .int .u32 0, .int .u32 0, .int .u32 0, .int .u32 0, .int .u32 0, .int .u32 0, .int .u32 0, .int .u32 0, .int .u32 0, .int .u32 0, .int .u32 0, .int .u32 0, .int .u32 0, .int .u32 0, .int .u32 0, .int .u32 0, .int .u32 0, .int .u32 0, .int .u32 0, .int .u32 0, .int .u32 0, .int .u32 0, .int .u32 0, .int .u32 0, .int .u32 0, .int .u32 0, .int .u32 0, .int .u32 0, .int .u32 0, .int .u32 0, .int .u32 0, .int .u32 0, .int .u32 0, .int .u32 0, .int .u32 0, .int .u32 0, .int .u32 0, .int .u32 0, .int .u32 0, .int .u32 0, .int .u32 0, .int .u32 0, .int .u32 0, .int .u32 0, .int .u32 0, .int .u32 0] : Array Value) = wlC zw64 := rfl
theorem zero_w8 : (#[.int .u32 0, .int .u32 0, .int .u32 0, .int .u32 0, .int .u32 0, .int .u32 0, .int .u32 0, .int .u32 0] : Array Value) = s8C s8z := rfl
theorem zero_b64 : (#[.int .u8 0, .int .u8 0, .int .u8 0, .int .u8 0, .int .u8 0, .int .u8 0, .int .u8 0, .int .u8 0, .int .u8 0, .int .u8 0, .int .u8 0, .int .u8 0, .int .u8 0, .int .u8 0, .int .u8 0, .int .u8 0, .int .u8 0, .int .u8 0, .int .u8 0, .int .u8 0, .int .u8 0, .int .u8 0, .int .u8 0, .int .u8 0, .int .u8 0, .int .u8 0, .int .u8 0, .int .u8 0, .int .u8 0, .int .u8 0, .int .u8 0, .int .u8 0, .int .u8 0, .int .u8 0, .int .u8 0, .int .u8 0, .int .u8 0, .int .u8 0, .int .u8 0, .int .u8 0, .int .u8 0, .int .u8 0, .int .u8 0, .int .u8 0, .int .u8 0, .int .u8 0, .int .u8 0, .int .u8 0, .int .u8 0, .int .u8 0, .int .u8 0, .int .u8 0, .int .u8 0, .int .u8 0, .int .u8 0, .int .u8 0, .int .u8 0, .int .u8 0, .int .u8 0, .int .u8 0, .int .u8 0, .int .u8 0, .int .u8 0, .int .u8 0] : Array Value) = blC zb64 := rfl
attribute [local go_sem] zero_w64 zero_w8 zero_b64
/-- A schedule as far as it goes, noughts behind it. -/
def wzs (b : List UInt8) (i : Nat) : List UInt32 := schedN b i ++ List.replicate (64 - i) 0
theorem wzs_len (b : List UInt8) (i : Nat) (h : i ≤ 64) : (wzs b i).length = 64 := by
  rw [wzs, List.length_append, schedN_len, List.length_replicate]; omega
theorem wzs_at (b : List UInt8) {i j : Nat} (h : j < i) : (wzs b i)[j]? = some ((schedN b i).getD j 0) := by
  rw [wzs, List.getElem?_append_left (by rw [schedN_len]; exact h), List.getD_eq_getElem?_getD, List.getElem?_eq_getElem (by rw [schedN_len]; exact h)]
  rfl
theorem wzs_set (b : List UInt8) {i : Nat} (h : i < 64) : (wzs b i).set i (nextW b (schedN b i)) = wzs b (i + 1) := by
  apply List.ext_getElem?
  intro k
  rw [List.getElem?_set, wzs_len b i (by omega)]
  split
  · subst k
    first | rw [if_pos h] | skip
    rw [wzs, schedN, List.append_assoc, List.getElem?_append_right (by rw [schedN_len]; omega), schedN_len, Nat.sub_self]
    rfl
  · rename_i hk
    rw [wzs, wzs, schedN]
    rcases Nat.lt_or_ge k i with h1 | h1
    · rw [List.getElem?_append_left (by rw [schedN_len]; exact h1), List.append_assoc, List.getElem?_append_left (by rw [schedN_len]; exact h1)]
    · rw [List.getElem?_append_right (by rw [schedN_len]; exact h1), List.getElem?_append_right (by rw [List.length_append, schedN_len]; simp; omega), List.length_append, schedN_len, List.getElem?_replicate, List.getElem?_replicate]
      simp only [List.length_cons, List.length_nil]
      congr 1
      simp only [eq_iff_iff]; omega
theorem c_getL (A : Option Addr) (n c : Nat) (l : List UInt8) (ok : Nat → Prop) (w : World) (hR : kU8.Row ok w A n c l) (h : 4 ≤ l.length) :
    Calls Tryd.prog 133 #[.slice A n c] w fun e w' => e = .returned (wv (get4 l)) ∧ Below w.heap.size w w' := by
  match l, h with
  | x0 :: x1 :: x2 :: x3 :: r, _ => exact c_get A n c x0 x1 x2 x3 r ok w hR
set_option maxRecDepth 100000 in
set_option maxHeartbeats 1600000 in
theorem c_sched (b : List UInt8) (w : World) (hb : b.length = 64) : Calls Tryd.prog 118 #[.agg (blC b)] w fun e w' => e = .returned (.agg (wlC (schedN b 64))) ∧ Below w.heap.size w w' := by
  have HBL := hide hb
  have hpb := blC_part b 64 hb
  have hz : blC b = #[] → False := fun h => by
    have := congrArg Array.size h
    rw [blC_size, hb] at this
    cases this
  go_enter Tryd.func118, Tryd.ntmps118
  go_wp2_with fail
  go_loopw [4] (fun i wr => ∃ (k : Nat), k ≤ 64 ∧ i = .int .i64 (k : Int) ∧ Hid (wr.heap[w.heap.size]? = some (.cells (blC b) 153)) ∧ Hid (wr.heap[w.heap.size + 1]? = some (.cells (wlC (wzs b k)) 174)) ∧ Hid (Below w.heap.size w wr)) (fun i _ => 64 - (intOf i).toNat)
  case atStart =>
    refine ⟨0, Nat.zero_le _, rfl, hide ?_, hide ?_, hide (below2 _ _ _)⟩
    · exact (Below.heap_alloc _ _ _ (by simp)).trans (heap_alloc_new _ _)
    · show _ = some (Obj.cells (wlC zw64) 174)
      have := heap_alloc_new (w.alloc (.cells (blC b) 153)) (.cells (wlC zw64) 174)
      simpa only [World.size_alloc] using this
  case round =>
    obtain ⟨k, hk, rfl, HA, HZ, HB⟩ := hrel
    have hwr := HB.out.size
    have hgz := (Array.getElem?_eq_some_iff.1 HZ.out).1
    by_cases hlt : k < 64
    · by_cases h16 : k < 16
      · have hsl := arr_from (P := Tryd.prog) Tryd.underlying153 u8_info1 w.heap.size 0 (4 * k) (by omega) .i64 (4 * (k : Int)) (by omega)
        simp only [Nat.zero_add] at hsl
        go_wp2_with fail
        refine (c_getL _ _ _ (b.drop (4 * k)) (fun _ => True) wr (row_bl HA.out _ (fun i x hx => blC_at _ (by rw [List.getElem?_drop] at hx; exact hx)) trivial (by rw [List.length_drop, HBL.out]) (Nat.le_refl _) (by simp only [maxLen]; omega)) (by rw [List.length_drop, HBL.out]; omega)).mono ?_
        rintro e w3 ⟨rfl, b3⟩
        have hnx : nextW b (schedN b k) = get4 (b.drop (4 * k)) := by rw [nextW, if_pos (by rw [schedN_len]; exact h16), schedN_len]
        rw [← hnx]
        have hz3 := (b3.block _ hgz).trans HZ.out
        have HA3 := hide ((b3.block _ (Array.getElem?_eq_some_iff.1 HA.out).1).trans HA.out)
        have HB3 := hide (HB.out.trans (b3.mono hwr))
        have hcz := cell_of_row w3 (w.heap.size + 1) k _ _ _ hz3
        have hcs : (w3.cell? ⟨w.heap.size + 1, k, none⟩).isSome = true := by rw [hcz, wlC_get, List.getElem?_eq_getElem (by rw [wzs_len b k (by omega)]; exact hlt)]; rfl
        obtain ⟨v0, hv0⟩ := Option.isSome_iff_exists.1 hcs
        have hfz := frozen_of_row w3 (w.heap.size + 1) k _ _ hz3
        clear hcz hcs
        have HZ3 := hide hz3
        clear hz3 b3 hnx hsl
        go_wp2_with fail
        go_roundw
        case rel =>
          refine ⟨k + 1, by omega, by simp, ?_, ?_, hide (bsetCell HB3.out (Nat.le_succ _) _ _)⟩
          · exact hide ((Below.heap_setCell _ _ _ _ (by simp)).trans HA3.out)
          · have := heap_setCell_at (i := k) (wv (nextW b (schedN b k))) HZ3.out
            rw [wlC_set, wzs_set b hlt] at this
            exact hide this
        case measure => simp [intOf]; omega
      · obtain ⟨k2, hk2⟩ : ∃ j, k = j + 2 := ⟨k - 2, by omega⟩
        obtain ⟨k7, hk7⟩ : ∃ j, k = j + 7 := ⟨k - 7, by omega⟩
        obtain ⟨k15, hk15⟩ : ∃ j, k = j + 15 := ⟨k - 15, by omega⟩
        obtain ⟨k16, hk16⟩ : ∃ j, k = j + 16 := ⟨k - 16, by omega⟩
        have hz3 := HZ.out
        obtain ⟨x14, hx14⟩ : ∃ x, x = (schedN b k).getD k2 0 := ⟨_, rfl⟩
        obtain ⟨x9, hx9⟩ : ∃ x, x = (schedN b k).getD k7 0 := ⟨_, rfl⟩
        obtain ⟨x1, hx1⟩ : ∃ x, x = (schedN b k).getD k15 0 := ⟨_, rfl⟩
        obtain ⟨x0, hx0⟩ : ∃ x, x = (schedN b k).getD k16 0 := ⟨_, rfl⟩
        have hcz : ∀ (j : Nat), j < k → wr.cell? ⟨w.heap.size + 1, j, none⟩ = some (wv ((schedN b k).getD j 0)) := fun j hj => (cell_of_row wr (w.heap.size + 1) j _ _ _ hz3).trans (wlC_at _ (wzs_at b hj))
        have hc14 := hcz k2 (by omega)
        have hc9 := hcz k7 (by omega)
        have hc1 := hcz k15 (by omega)
        have hc0 := hcz k16 (by omega)
        have hnx : nextW b (schedN b k) = small1 x14 + x9 + small0 x1 + x0 := by
          rw [nextW, if_neg (by rw [schedN_len]; omega), schedN_len, hx14, hx9, hx1, hx0, show k - 2 = k2 by omega, show k - 7 = k7 by omega, show k - 15 = k15 by omega, show k - 16 = k16 by omega]
        rw [← hx14] at hc14
        rw [← hx9] at hc9
        rw [← hx1] at hc1
        rw [← hx0] at hc0
        obtain ⟨y25, hy25⟩ : ∃ y, y = small1 x14 + x9 := ⟨_, rfl⟩
        obtain ⟨y31, hy31⟩ : ∃ y, y = y25 + small0 x1 := ⟨_, rfl⟩
        obtain ⟨y36, hy36⟩ : ∃ y, y = y31 + x0 := ⟨_, rfl⟩
        rw [← hy25, ← hy31, ← hy36] at hnx
        have HNX := hide hnx
        have HY25 := hide hy25
        have HY31 := hide hy31
        have HY36 := hide hy36
        have l2 : k2 < 64 := by omega
        have l7 : k7 < 64 := by omega
        have l15 : k15 < 64 := by omega
        have l16 : k16 < 64 := by omega
        have HK2 := hide hk2
        have HK7 := hide hk7
        have HK15 := hide hk15
        have HK16 := hide hk16
        clear hy25 hy31 hy36 hcz hnx hx14 hx9 hx1 hx0 hz3 hk2 hk7 hk15 hk16
        go_wp2_with fail
        refine wp_region_ext mixed 23 (fun i v w' => match i with
          | 0 => v = .int .i64 ((k : Nat) : Int)
          | 1 => v = .int .i64 ((k : Nat) : Int)
          | 2 => v = .int .i64 ((k2 : Nat) : Int)
          | 3 => v = .pointer (some ⟨w.heap.size + 1, k2, none⟩)
          | 4 => v = wv (x14)
          | 5 => v = wv (small1 x14)
          | 6 => v = .int .i64 ((k : Nat) : Int)
          | 7 => v = .int .i64 ((k7 : Nat) : Int)
          | 8 => v = .pointer (some ⟨w.heap.size + 1, k7, none⟩)
          | 9 => v = wv (x9)
          | 10 => v = wv (y25)
          | 11 => v = .int .i64 ((k : Nat) : Int)
          | 12 => v = .int .i64 ((k15 : Nat) : Int)
          | 13 => v = .pointer (some ⟨w.heap.size + 1, k15, none⟩)
          | 14 => v = wv (x1)
          | 15 => v = wv (small0 x1)
          | 16 => v = wv (y31)
          | 17 => v = .int .i64 ((k : Nat) : Int)
          | 18 => v = .int .i64 ((k16 : Nat) : Int)
          | 19 => v = .pointer (some ⟨w.heap.size + 1, k16, none⟩)
          | 20 => v = wv (x0)
          | 21 => v = wv (y36)
          | _ => v = .pointer (some ⟨w.heap.size + 1, k, none⟩)
          ) (regOk_of (by kernel_rfl)) rfl ?_ ?_ ?_
        · intro i v w1 w2 h1 h2
          split at h2 <;> exact h2
        · refine ⟨fun a w2 hle hd hf hs K hK => ?_, fun a w2 hle hd hf hs K hK => ?_, fun a w2 hle hd hf hs K hK => ?_, fun a w2 hle hd hf hs K hK => ?_, fun a w2 hle hd hf hs K hK => ?_, fun a w2 hle hd hf hs K hK => ?_, fun a w2 hle hd hf hs K hK => ?_, fun a w2 hle hd hf hs K hK => ?_, fun a w2 hle hd hf hs K hK => ?_, fun a w2 hle hd hf hs K hK => ?_, fun a w2 hle hd hf hs K hK => ?_, fun a w2 hle hd hf hs K hK => ?_, fun a w2 hle hd hf hs K hK => ?_, fun a w2 hle hd hf hs K hK => ?_, fun a w2 hle hd hf hs K hK => ?_, fun a w2 hle hd hf hs K hK => ?_, fun a w2 hle hd hf hs K hK => ?_, fun a w2 hle hd hf hs K hK => ?_, fun a w2 hle hd hf hs K hK => ?_, fun a w2 hle hd hf hs K hK => ?_, fun a w2 hle hd hf hs K hK => ?_, fun a w2 hle hd hf hs K hK => ?_, fun a w2 hle hd hf hs K hK => ?_, trivial⟩
          all_goals clear hd
          · -- 15 := Op.move t3
            have e3 := hf 3 rfl; simp [Act.eval] at e3
            go_simp; exact hK _ _ (Ext.refl _) rfl
          · -- 16 := Op.move t3
            have e3 := hf 3 rfl; simp [Act.eval] at e3
            go_simp; exact hK _ _ (Ext.refl _) rfl
          · -- 17 := Op.binOp BinOp.sub 3 t16 (const (2:i64)) 3
            have e16 := hs 1 16 (needs_direct (by kernel_rfl)) rfl; simp [Act.eval] at e16
            go_simp
            exact hK _ _ (Ext.refl _) (congrArg (Value.int .i64) (by have := HK2.out; rw [wrap64s (by omega) (by omega)]; omega))
          · -- 18 := Op.indexAddr 174 t2 t17
            have e2 := hf 2 rfl; have e17 := hs 2 17 (needs_direct (by kernel_rfl)) rfl; simp [Act.eval] at e2 e17
            go_simp
            rw [if_pos (by omega)]
            go_simp
            exact hK _ _ (Ext.refl _) rfl
          · -- 19 := Op.load 155 t18
            have e18 := hs 3 18 (needs_direct (by kernel_rfl)) rfl; simp [Act.eval] at e18
            have hq := hle.cell hc14
            go_simp; exact hK _ _ (Ext.refl _) rfl
          · -- 20 := Op.call { value (Operand.func 134), args := #[const (1:i64), t19], argTypes := #[3, 155] }
            have e19 := hs 4 19 (needs_direct (by kernel_rfl)) rfl; simp [Act.eval] at e19
            go_simp
            refine (c_small1 _ w2).mono ?_
            rintro e w3 ⟨rfl, rfl⟩
            exact hK _ _ (Ext.refl _) rfl
          · -- 21 := Op.move t3
            have e3 := hf 3 rfl; simp [Act.eval] at e3
            go_simp; exact hK _ _ (Ext.refl _) rfl
          · -- 22 := Op.binOp BinOp.sub 3 t21 (const (7:i64)) 3
            have e21 := hs 6 21 (needs_direct (by kernel_rfl)) rfl; simp [Act.eval] at e21
            go_simp
            exact hK _ _ (Ext.refl _) (congrArg (Value.int .i64) (by have := HK7.out; rw [wrap64s (by omega) (by omega)]; omega))
          · -- 23 := Op.indexAddr 174 t2 t22
            have e2 := hf 2 rfl; have e22 := hs 7 22 (needs_direct (by kernel_rfl)) rfl; simp [Act.eval] at e2 e22
            go_simp
            rw [if_pos (by omega)]
            go_simp
            exact hK _ _ (Ext.refl _) rfl
          · -- 24 := Op.load 155 t23
            have e23 := hs 8 23 (needs_direct (by kernel_rfl)) rfl; simp [Act.eval] at e23
            have hq := hle.cell hc9
            go_simp; exact hK _ _ (Ext.refl _) rfl
          · -- 25 := Op.binOp BinOp.add 155 t20 t24 155
            have e20 := hs 5 20 (needs_direct (by kernel_rfl)) rfl; have e24 := hs 9 24 (needs_direct (by kernel_rfl)) rfl; simp [Act.eval] at e20 e24
            go_simp
            exact hK _ _ (Ext.refl _) (congrArg (Value.int .u32) (by rw [HY25.out]; first | exact w_add _ _ | exact w_addW _ _))
          · -- 26 := Op.move t3
            have e3 := hf 3 rfl; simp [Act.eval] at e3
            go_simp; exact hK _ _ (Ext.refl _) rfl
          · -- 27 := Op.binOp BinOp.sub 3 t26 (const (15:i64)) 3
            have e26 := hs 11 26 (needs_direct (by kernel_rfl)) rfl; simp [Act.eval] at e26
            go_simp
            exact hK _ _ (Ext.refl _) (congrArg (Value.int .i64) (by have := HK15.out; rw [wrap64s (by omega) (by omega)]; omega))
          · -- 28 := Op.indexAddr 174 t2 t27
            have e2 := hf 2 rfl; have e27 := hs 12 27 (needs_direct (by kernel_rfl)) rfl; simp [Act.eval] at e2 e27
            go_simp
            rw [if_pos (by omega)]
            go_simp
            exact hK _ _ (Ext.refl _) rfl
          · -- 29 := Op.load 155 t28
            have e28 := hs 13 28 (needs_direct (by kernel_rfl)) rfl; simp [Act.eval] at e28
            have hq := hle.cell hc1
            go_simp; exact hK _ _ (Ext.refl _) rfl
          · -- 30 := Op.call { value (Operand.func 134), args := #[const (0:i64), t29], argTypes := #[3, 155] }
            have e29 := hs 14 29 (needs_direct (by kernel_rfl)) rfl; simp [Act.eval] at e29
            go_simp
            refine (c_small0 _ w2).mono ?_
            rintro e w3 ⟨rfl, rfl⟩
            exact hK _ _ (Ext.refl _) rfl
          · -- 31 := Op.binOp BinOp.add 155 t25 t30 155
            have e25 := hs 10 25 (needs_direct (by kernel_rfl)) rfl; have e30 := hs 15 30 (needs_direct (by kernel_rfl)) rfl; simp [Act.eval] at e25 e30
            go_simp
            exact hK _ _ (Ext.refl _) (congrArg (Value.int .u32) (by rw [HY31.out]; first | exact w_add _ _ | exact w_addW _ _))
          · -- 32 := Op.move t3
            have e3 := hf 3 rfl; simp [Act.eval] at e3
            go_simp; exact hK _ _ (Ext.refl _) rfl
          · -- 33 := Op.binOp BinOp.sub 3 t32 (const (16:i64)) 3
            have e32 := hs 17 32 (needs_direct (by kernel_rfl)) rfl; simp [Act.eval] at e32
            go_simp
            exact hK _ _ (Ext.refl _) (congrArg (Value.int .i64) (by have := HK16.out; rw [wrap64s (by omega) (by omega)]; omega))
          · -- 34 := Op.indexAddr 174 t2 t33
            have e2 := hf 2 rfl; have e33 := hs 18 33 (needs_direct (by kernel_rfl)) rfl; simp [Act.eval] at e2 e33
            go_simp
            rw [if_pos (by omega)]
            go_simp
            exact hK _ _ (Ext.refl _) rfl
          · -- 35 := Op.load 155 t34
            have e34 := hs 19 34 (needs_direct (by kernel_rfl)) rfl; simp [Act.eval] at e34
            have hq := hle.cell hc0
            go_simp; exact hK _ _ (Ext.refl _) rfl
          · -- 36 := Op.binOp BinOp.add 155 t31 t35 155
            have e31 := hs 16 31 (needs_direct (by kernel_rfl)) rfl; have e35 := hs 20 35 (needs_direct (by kernel_rfl)) rfl; simp [Act.eval] at e31 e35
            go_simp
            exact hK _ _ (Ext.refl _) (congrArg (Value.int .u32) (by rw [HY36.out]; first | exact w_add _ _ | exact w_addW _ _))
          · -- 37 := Op.indexAddr 174 t2 t15
            have e2 := hf 2 rfl; have e15 := hs 0 15 (needs_direct (by kernel_rfl)) rfl; simp [Act.eval] at e2 e15
            go_simp; exact hK _ _ (Ext.refl _) rfl
        intro vs w8 hle hs
        have v21 := hs 21 (by omega) rfl
        have v22 := hs 22 (by omega) rfl
        simp only at v21 v22
        clear hs
        have hz8 := (hle.block _ hgz).trans HZ.out
        have HA8 := hide ((hle.block _ (Array.getElem?_eq_some_iff.1 HA.out).1).trans HA.out)
        have HB8 := hide (HB.out.trans (hle.mono hwr))
        have hcz := cell_of_row w8 (w.heap.size + 1) k _ _ _ hz8
        have hcs : (w8.cell? ⟨w.heap.size + 1, k, none⟩).isSome = true := by rw [hcz, wlC_get, List.getElem?_eq_getElem (by rw [wzs_len b k (by omega)]; exact hlt)]; rfl
        obtain ⟨v0, hv0⟩ := Option.isSome_iff_exists.1 hcs
        have hfz := frozen_of_row w8 (w.heap.size + 1) k _ _ hz8
        clear hcz hcs hc14 hc9 hc1 hc0 hle
        have HZ8 := hide hz8
        clear hz8
        simp only [putN, dstAt]
        go_simp
        go_wp2_with fail
        go_roundw
        case rel =>
          refine ⟨k + 1, by omega, by simp, ?_, ?_, hide (bsetCell HB8.out (Nat.le_succ _) _ _)⟩
          · exact hide ((Below.heap_setCell _ _ _ _ (by simp)).trans HA8.out)
          · have := heap_setCell_at (i := k) (wv y36) HZ8.out
            rw [← HNX.out, wlC_set, wzs_set b hlt] at this
            rw [HNX.out] at this
            exact hide this
        case measure => simp [intOf]; omega
    · obtain rfl : k = 64 := by omega
      have e64 : wzs b 64 = schedN b 64 := by rw [wzs, Nat.sub_self]; exact List.append_nil _
      have hz64 := HZ.out
      rw [e64] at hz64
      have hrow : row? wr (w.heap.size + 1) = some (wlC (schedN b 64)) := row_of hz64
      have hag : agg? wr ⟨w.heap.size + 1, 0, none⟩ 64 = some (wlC (schedN b 64)) := (agg_of_row hz64 0 64 (by decide)).trans (wlC_part _ 64 (schedN_len b 64))
      have hsp : splice (wlC (schedN b 64)) 0 (wlC (schedN b 64)) = wlC (schedN b 64) := splice0 _ _ rfl
      have hsz : (wlC (schedN b 64)).size = 64 := by rw [wlC_size, schedN_len]
      have HB5 := hide (bsetRow HB.out (Nat.le_succ _) (wlC (schedN b 64)))
      have hag5 : agg? (wr.setRow (w.heap.size + 1) (wlC (schedN b 64))) ⟨w.heap.size + 1, 0, none⟩ 64 = some (wlC (schedN b 64)) := (agg_setRow_at _ _ _ _ _ (by rw [hrow]; rfl) (by decide)).trans (wlC_part _ 64 (schedN_len b 64))
      go_wp2_with fail
      exact bodyPost_ret (v := .agg (wlC (schedN b 64))) (by simp [results, Tryd.results118, go_sem, hag5]) rfl ⟨rfl, HB5.out⟩
end Go.Proofs.YtdkeflhgengblaaDoor
namespace Go.Proofs.YtdkeflhgengblaaDoor
open Go.RowKit
attribute [local go_sem ↓] ld8 ld64
attribute [local go_sem] run_ldAgg run_storeAgg agg_alloc_at agg_alloc_past agg_drew agg_setCell row_alloc_at row_alloc_past row_drew setRow_alloc_at setRow_alloc_past setRow_drew agg_setRow_at agg_setRow_far cell_setRow_at cell_setRow_far row_setRow_far size_setRow s8C_size s8C_0 s8C_1 s8C_2 s8C_3 s8C_4 s8C_5 s8C_6 s8C_7 s8C_part s8C_one s8C_splice0 s8C_ne blC_size wlC_size blC_one wlC_one
attribute [local go_sem] zero_w64 zero_w8 zero_b64
theorem sets8 (a b c d e f g h : UInt32) : ((((((((s8C s8z).toList.set 0 (wv a)).set 1 (wv b)).set 2 (wv c)).set 3 (wv d)).set 4 (wv e)).set 5 (wv f)).set 6 (wv g)).set 7 (wv h) = (s8C ⟨a, b, c, d, e, f, g, h⟩).toList := rfl
/-- Words, the first j of them added to. -/
def addl (l m : List UInt32) (j : Nat) : List UInt32 := (l.zipWith (· + ·) m).take j ++ l.drop j
section
variable {l m : List UInt32} {n j : Nat} {p q : UInt32}
theorem addl_len (hl : l.length = n) (hm : m.length = n) (hj : j ≤ n) : (addl l m j).length = n := by
  simp only [addl, List.length_append, List.length_take, List.length_zipWith, List.length_drop]; omega
theorem addl_at (hl : l.length = n) (hm : m.length = n) (hj : j < n) : (addl l m j)[j]? = l[j]? := by
  rw [addl, List.getElem?_append_right (by simp only [List.length_take, List.length_zipWith]; omega), List.length_take, List.length_zipWith, List.getElem?_drop]
  congr 1; omega
theorem addl_set (hl : l.length = n) (hm : m.length = n) (hj : j < n) (hp : l[j]? = some p) (hq : m[j]? = some q) : (addl l m j).set j (p + q) = addl l m (j + 1) := by
  apply List.ext_getElem?
  intro k
  have h1 : (addl l m j).length = n := addl_len hl hm (by omega)
  rw [List.getElem?_set, h1]
  by_cases hk : j = k
  · subst hk
    rw [if_pos rfl, if_pos hj, addl, List.getElem?_append_left (by simp only [List.length_take, List.length_zipWith]; omega), List.getElem?_take, if_pos (Nat.lt_succ_self _), List.getElem?_zipWith, hp, hq]
  · rw [if_neg hk, addl, addl]
    rcases Nat.lt_or_ge k j with h2 | h2
    · rw [List.getElem?_append_left (by simp only [List.length_take, List.length_zipWith]; omega), List.getElem?_append_left (by simp only [List.length_take, List.length_zipWith]; omega), List.getElem?_take, List.getElem?_take, if_pos h2, if_pos (by omega)]
    · rw [List.getElem?_append_right (by simp only [List.length_take, List.length_zipWith]; omega), List.getElem?_append_right (by simp only [List.length_take, List.length_zipWith]; omega), List.getElem?_drop, List.getElem?_drop]
      congr 1
      simp only [List.length_take, List.length_zipWith]; omega
end
theorem addl_end (s h : S8) : addl s.list h.list 8 = (s.add h).list := rfl
theorem addl_start (l m : List UInt32) : addl l m 0 = l := by simp [addl]
theorem u32_info1 : (Tryd.prog.info? 155).map (·.size) = some 1 := by kernel_rfl
set_option maxRecDepth 100000 in
set_option maxHeartbeats 1600000 in
theorem c_compress (h : S8) (b : List UInt8) (w : World) (hb : b.length = 64) (hP : PrimesAt w) : Calls Tryd.prog 101 #[.agg (s8C h), .agg (blC b)] w fun e w' => e = .returned (.agg (s8C (compress h b))) ∧ Below w.heap.size w w' := by
  have hpb := blC_part b 64 hb
  have HP0 := hide hP
  clear hP
  have hz : blC b = #[] → False := fun h => by
    have := congrArg Array.size h
    rw [blC_size, hb] at this
    cases this
  obtain ⟨W3, hW3⟩ : ∃ W3, W3 = ((w.alloc (.cells (s8C h) 156)).alloc (.cells (blC b) 153)).alloc (.cells (s8C s8z) 156) := ⟨_, rfl⟩
  have hs3 : W3.heap.size = w.heap.size + 1 + 1 + 1 := by rw [hW3]; simp only [World.size_alloc]
  have hB3 : Below w.heap.size w W3 := by rw [hW3]; exact below3 _ _ _ _
  have hA3 : W3.heap[w.heap.size]? = some (.cells (s8C h) 156) := by
    rw [hW3, Below.heap_alloc _ _ _ (by simp only [World.size_alloc]; omega), Below.heap_alloc _ _ _ (by simp only [World.size_alloc]; omega)]
    exact heap_alloc_new _ _
  have hC3 : W3.heap[w.heap.size + 1]? = some (.cells (blC b) 153) := by
    rw [hW3, Below.heap_alloc _ _ _ (by simp only [World.size_alloc]; omega)]
    have := heap_alloc_new (w.alloc (.cells (s8C h) 156)) (.cells (blC b) 153)
    simpa only [World.size_alloc] using this
  have hD3 : W3.heap[w.heap.size + 1 + 1]? = some (.cells (s8C s8z) 156) := by
    rw [hW3]
    have := heap_alloc_new ((w.alloc (.cells (s8C h) 156)).alloc (.cells (blC b) 153)) (.cells (s8C s8z) 156)
    simpa only [World.size_alloc] using this
  have haA : agg? W3 ⟨w.heap.size, 0, none⟩ 8 = some (s8C h) := (agg_of_row hA3 0 8 (by decide)).trans (s8C_part h)
  have haC : agg? W3 ⟨w.heap.size + 1, 0, none⟩ 64 = some (blC b) := (agg_of_row hC3 0 64 (by decide)).trans hpb
  go_enter Tryd.func101, Tryd.ntmps101
  have HW3 := hide hW3
  clear hW3
  go_wp2_with fail
  rw [← HW3.out]
  clear HW3
  go_simp
  go_wp2_with fail
  refine (c_sched b _ hb).mono ?_
  rintro e w4 ⟨rfl, b4⟩
  obtain ⟨Wd, hWd⟩ : ∃ Wd, Wd = schedN b 64 := ⟨_, rfl⟩
  have hWl : Wd.length = 64 := by rw [hWd]; exact schedN_len b 64
  have HCO : Hid (compress h b = (turns h Wd 64).add h) := hide (by rw [hWd]; rfl)
  rw [← hWd]
  clear hWd
  rw [s8C_splice0 h (s8C s8z) rfl] at b4
  have hsz4 : w.heap.size + 1 + 1 + 1 + 1 ≤ w4.heap.size := by have := b4.size; simp only [World.size_alloc, hs3] at this; exact this
  have hB4 : Below w.heap.size w w4 := hB3.trans (((below1 W3 _).mono hB3.size).trans (b4.mono (by simp only [World.size_alloc]; have := hB3.size; omega)))
  have hk4 : ∀ k, k < W3.heap.size → w4.heap[k]? = W3.heap[k]? := fun k hk => (b4.block k (by simp only [World.size_alloc]; omega)).trans (Below.heap_alloc _ _ _ hk)
  have hA4 := (hk4 _ (by omega)).trans hA3
  have hD4 := (hk4 _ (by omega)).trans hD3
  have hS4 : w4.heap[w.heap.size + 1 + 1 + 1]? = some (.cells (s8C h) 156) := by
    rw [← hs3]
    exact (b4.block _ (by simp only [World.size_alloc]; omega)).trans (heap_alloc_new W3 _)
  have HA4 := hide hA4
  have HD4 := hide hD4
  have HS4 := hide hS4
  have HB4 := hide hB4
  clear hk4 hA4 hD4 hS4 hB4 b4 hA3 hC3 hD3 haA haC hB3 hs3 hsz4 hpb hz hb
  go_wp2_with fail
  go_loopw [14] (fun i wr => ∃ (k : Nat), k ≤ 64 ∧ i = .int .i64 (k : Int) ∧ Hid (wr.heap[w.heap.size]? = some (.cells (s8C h) 156)) ∧ Hid (wr.heap[w.heap.size + 1 + 1]? = some (.cells (s8C s8z) 156)) ∧ Hid (wr.heap[w.heap.size + 1 + 1 + 1]? = some (.cells (s8C (turns h Wd k)) 156)) ∧ Hid (Below w.heap.size w wr)) (fun i _ => 64 - (intOf i).toNat)
  case atStart => exact ⟨0, Nat.zero_le _, rfl, HA4, HD4, HS4, HB4⟩
  case round =>
    obtain ⟨k, hk, rfl, HA, HD, HS, HB⟩ := hrel
    have hwr := HB.out.size
    have hgs := (Array.getElem?_eq_some_iff.1 HS.out).1
    have hgd := (Array.getElem?_eq_some_iff.1 HD.out).1
    by_cases hlt : k < 64
    · have HP : Hid (PrimesAt wr) := hide (HP0.out.below HB.out HP0.out.1)
      obtain ⟨s, hs⟩ : ∃ s, s = turns h Wd k := ⟨_, rfl⟩
      obtain ⟨x, hx⟩ : ∃ x, x = Wd.getD k 0 := ⟨_, rfl⟩
      have hxk : Wd[k]? = some x := by
        rw [hx, List.getD_eq_getElem?_getD, List.getElem?_eq_getElem (by rw [hWl]; exact hlt)]; rfl
      have hxc := wlC_at _ hxk
      have hst : turns h Wd (k + 1) = s.turn (primesW.getD k 0) x := by rw [turns, ← hs, ← hx]
      have hS := HS.out
      rw [← hs] at hS
      have HSS := hide hS
      have hc0 := (cell_of_row wr _ 0 _ _ _ hS).trans (s8C_0 s)
      have hc1 := (cell_of_row wr _ 1 _ _ _ hS).trans (s8C_1 s)
      have hc2 := (cell_of_row wr _ 2 _ _ _ hS).trans (s8C_2 s)
      have hc3 := (cell_of_row wr _ 3 _ _ _ hS).trans (s8C_3 s)
      have hc4 := (cell_of_row wr _ 4 _ _ _ hS).trans (s8C_4 s)
      have hc5 := (cell_of_row wr _ 5 _ _ _ hS).trans (s8C_5 s)
      have hc6 := (cell_of_row wr _ 6 _ _ _ hS).trans (s8C_6 s)
      have hc7 := (cell_of_row wr _ 7 _ _ _ hS).trans (s8C_7 s)
      clear hS hs hx HS
      have hix := arr_index (P := Tryd.prog) Tryd.underlying174 u32_info1 Tryd.underlying155 (wlC Wd) k hlt (wv x) hxc .i64
      clear hxc hxk
      obtain ⟨y23, hy23⟩ : ∃ y, y = s.h + great1 s.e := ⟨_, rfl⟩
      obtain ⟨y31, hy31⟩ : ∃ y, y = y23 + chooseW s.e s.f s.g := ⟨_, rfl⟩
      obtain ⟨y34, hy34⟩ : ∃ y, y = y31 + primesW.getD k 0 := ⟨_, rfl⟩
      obtain ⟨t0, ht0⟩ : ∃ y, y = y34 + x := ⟨_, rfl⟩
      obtain ⟨u0, hu0⟩ : ∃ y, y = great0 s.a + mostW s.a s.b s.c := ⟨_, rfl⟩
      have hst2 : s.turn (primesW.getD k 0) x = ⟨t0 + u0, s.a, s.b, s.c, s.d + t0, s.e, s.f, s.g⟩ := by
        rw [S8.turn, hu0, ht0, hy34, hy31, hy23]
      rw [hst2] at hst
      have HST := hide hst
      have HY23 := hide hy23
      have HY31 := hide hy31
      have HY34 := hide hy34
      have HT0 := hide ht0
      have HU0 := hide hu0
      clear hst hst2 hy23 hy31 hy34 ht0 hu0
      go_wp2_with fail
      refine wp_region_ext mixed 20 (fun i v w' => match i with
        | 0 => v = .pointer (some ⟨w.heap.size + 1 + 1 + 1, 7, none⟩)
        | 1 => v = wv (s.h)
        | 2 => v = .pointer (some ⟨w.heap.size + 1 + 1 + 1, 4, none⟩)
        | 3 => v = wv (s.e)
        | 4 => v = wv (great1 s.e)
        | 5 => v = wv (y23)
        | 6 => v = .pointer (some ⟨w.heap.size + 1 + 1 + 1, 4, none⟩)
        | 7 => v = wv (s.e)
        | 8 => v = .pointer (some ⟨w.heap.size + 1 + 1 + 1, 5, none⟩)
        | 9 => v = wv (s.f)
        | 10 => v = .pointer (some ⟨w.heap.size + 1 + 1 + 1, 6, none⟩)
        | 11 => v = wv (s.g)
        | 12 => v = wv (chooseW s.e s.f s.g)
        | 13 => v = wv (y31)
        | 14 => v = .int .i64 (k : Int)
        | 15 => v = wv (primesW.getD k 0)
        | 16 => v = wv (y34)
        | 17 => v = wv (x)
        | 18 => v = wv (t0)
        | _ => v = wv (t0)
        ) (regOk_of (by kernel_rfl)) rfl ?_ ?_ ?_
      · intro i v w1 w2 h1 h2
        split at h2 <;> exact h2
      · refine ⟨fun a w2 hle hd hf hs K hK => ?_, fun a w2 hle hd hf hs K hK => ?_, fun a w2 hle hd hf hs K hK => ?_, fun a w2 hle hd hf hs K hK => ?_, fun a w2 hle hd hf hs K hK => ?_, fun a w2 hle hd hf hs K hK => ?_, fun a w2 hle hd hf hs K hK => ?_, fun a w2 hle hd hf hs K hK => ?_, fun a w2 hle hd hf hs K hK => ?_, fun a w2 hle hd hf hs K hK => ?_, fun a w2 hle hd hf hs K hK => ?_, fun a w2 hle hd hf hs K hK => ?_, fun a w2 hle hd hf hs K hK => ?_, fun a w2 hle hd hf hs K hK => ?_, fun a w2 hle hd hf hs K hK => ?_, fun a w2 hle hd hf hs K hK => ?_, fun a w2 hle hd hf hs K hK => ?_, fun a w2 hle hd hf hs K hK => ?_, fun a w2 hle hd hf hs K hK => ?_, fun a w2 hle hd hf hs K hK => ?_, trivial⟩
        all_goals clear hd
        · -- 18 := Op.indexAddr 156 t5 (const (7:i64))
          have e5 := hf 5 rfl; simp [Act.eval] at e5
          go_simp; exact hK _ _ (Ext.refl _) rfl
        · -- 19 := Op.load 155 t18
          have e18 := hs 0 18 (needs_direct (by kernel_rfl)) rfl; simp [Act.eval] at e18
          have hq := hle.cell hc7
          go_simp; exact hK _ _ (Ext.refl _) rfl
        · -- 20 := Op.indexAddr 156 t5 (const (4:i64))
          have e5 := hf 5 rfl; simp [Act.eval] at e5
          go_simp; exact hK _ _ (Ext.refl _) rfl
        · -- 21 := Op.load 155 t20
          have e20 := hs 2 20 (needs_direct (by kernel_rfl)) rfl; simp [Act.eval] at e20
          have hq := hle.cell hc4
          go_simp; exact hK _ _ (Ext.refl _) rfl
        · -- 22 := Op.call { value (Operand.func 119), args := #[const (1:i64), t21], argTypes := #[3, 155] }
          have e21 := hs 3 21 (needs_direct (by kernel_rfl)) rfl; simp [Act.eval] at e21
          go_simp
          refine (c_great1 _ w2).mono ?_
          rintro e w3 ⟨rfl, rfl⟩
          exact hK _ _ (Ext.refl _) rfl
        · -- 23 := Op.binOp BinOp.add 155 t19 t22 155
          have e19 := hs 1 19 (needs_direct (by kernel_rfl)) rfl; have e22 := hs 4 22 (needs_direct (by kernel_rfl)) rfl; simp [Act.eval] at e19 e22
          go_simp
          exact hK _ _ (Ext.refl _) (congrArg (Value.int .u32) (by rw [HY23.out]; first | exact w_add _ _ | exact w_addW _ _))
        · -- 24 := Op.indexAddr 156 t5 (const (4:i64))
          have e5 := hf 5 rfl; simp [Act.eval] at e5
          go_simp; exact hK _ _ (Ext.refl _) rfl
        · -- 25 := Op.load 155 t24
          have e24 := hs 6 24 (needs_direct (by kernel_rfl)) rfl; simp [Act.eval] at e24
          have hq := hle.cell hc4
          go_simp; exact hK _ _ (Ext.refl _) rfl
        · -- 26 := Op.indexAddr 156 t5 (const (5:i64))
          have e5 := hf 5 rfl; simp [Act.eval] at e5
          go_simp; exact hK _ _ (Ext.refl _) rfl
        · -- 27 := Op.load 155 t26
          have e26 := hs 8 26 (needs_direct (by kernel_rfl)) rfl; simp [Act.eval] at e26
          have hq := hle.cell hc5
          go_simp; exact hK _ _ (Ext.refl _) rfl
        · -- 28 := Op.indexAddr 156 t5 (const (6:i64))
          have e5 := hf 5 rfl; simp [Act.eval] at e5
          go_simp; exact hK _ _ (Ext.refl _) rfl
        · -- 29 := Op.load 155 t28
          have e28 := hs 10 28 (needs_direct (by kernel_rfl)) rfl; simp [Act.eval] at e28
          have hq := hle.cell hc6
          go_simp; exact hK _ _ (Ext.refl _) rfl
        · -- 30 := Op.call { value (Operand.func 120), args := #[t25, t27, t29], argTypes := #[155, 155, 155] }
          have e25 := hs 7 25 (needs_direct (by kernel_rfl)) rfl; have e27 := hs 9 27 (needs_direct (by kernel_rfl)) rfl; have e29 := hs 11 29 (needs_direct (by kernel_rfl)) rfl; simp [Act.eval] at e25 e27 e29
          go_simp
          refine (c_choose _ _ _ w2).mono ?_
          rintro e w3 ⟨rfl, rfl⟩
          exact hK _ _ (Ext.refl _) rfl
        · -- 31 := Op.binOp BinOp.add 155 t23 t30 155
          have e23 := hs 5 23 (needs_direct (by kernel_rfl)) rfl; have e30 := hs 12 30 (needs_direct (by kernel_rfl)) rfl; simp [Act.eval] at e23 e30
          go_simp
          exact hK _ _ (Ext.refl _) (congrArg (Value.int .u32) (by rw [HY31.out]; first | exact w_add _ _ | exact w_addW _ _))
        · -- 32 := Op.move t6
          have e6 := hf 6 rfl; simp [Act.eval] at e6
          go_simp; exact hK _ _ (Ext.refl _) rfl
        · -- 33 := Op.call { value (Operand.func 121), args := #[t32], argTypes := #[3] }
          have e32 := hs 14 32 (needs_direct (by kernel_rfl)) rfl; simp [Act.eval] at e32
          go_simp
          refine (c_prime k w2 (HP.out.ext hle) hlt).mono ?_
          rintro e w3 ⟨rfl, rfl⟩
          exact hK _ _ (Ext.refl _) rfl
        · -- 34 := Op.binOp BinOp.add 155 t31 t33 155
          have e31 := hs 13 31 (needs_direct (by kernel_rfl)) rfl; have e33 := hs 15 33 (needs_direct (by kernel_rfl)) rfl; simp [Act.eval] at e31 e33
          go_simp
          exact hK _ _ (Ext.refl _) (congrArg (Value.int .u32) (by rw [HY34.out]; first | exact w_add _ _ | exact w_addW _ _))
        · -- 35 := Op.move t7
          have e7 := hf 7 rfl; simp [Act.eval] at e7
          go_simp; exact hK _ _ (Ext.refl _) rfl
        · -- 36 := Op.binOp BinOp.add 155 t34 t35 155
          have e34 := hs 16 34 (needs_direct (by kernel_rfl)) rfl; have e35 := hs 17 35 (needs_direct (by kernel_rfl)) rfl; simp [Act.eval] at e34 e35
          go_simp
          exact hK _ _ (Ext.refl _) (congrArg (Value.int .u32) (by rw [HT0.out]; first | exact w_add _ _ | exact w_addW _ _))
        · -- 8 := Op.assign t36
          have e36 := hs 18 36 (needs_direct (by kernel_rfl)) rfl; simp [Act.eval] at e36
          go_simp; exact hK _ _ (Ext.refl _) rfl
      intro vs w5 hle5 hs
      have v19 := hs 19 (by omega) rfl
      simp only at v19
      clear hs
      have hd0 := hle5.cell hc0
      have hd1 := hle5.cell hc1
      have hd2 := hle5.cell hc2
      have HE5 := hide hle5
      clear hc0 hc1 hc2 hc3 hc4 hc5 hc6 hc7 hle5 hix
      simp only [putN, dstAt]
      go_simp
      go_wp2_with fail
      refine wp_region_ext mixed 12 (fun i v w' => match i with
        | 0 => v = .pointer (some ⟨w.heap.size + 1 + 1 + 1, 0, none⟩)
        | 1 => v = wv (s.a)
        | 2 => v = wv (great0 s.a)
        | 3 => v = .pointer (some ⟨w.heap.size + 1 + 1 + 1, 0, none⟩)
        | 4 => v = wv (s.a)
        | 5 => v = .pointer (some ⟨w.heap.size + 1 + 1 + 1, 1, none⟩)
        | 6 => v = wv (s.b)
        | 7 => v = .pointer (some ⟨w.heap.size + 1 + 1 + 1, 2, none⟩)
        | 8 => v = wv (s.c)
        | 9 => v = wv (mostW s.a s.b s.c)
        | 10 => v = wv (u0)
        | _ => v = wv (u0)
        ) (regOk_of (by kernel_rfl)) rfl ?_ ?_ ?_
      · intro i v w1 w2 h1 h2
        split at h2 <;> exact h2
      · refine ⟨fun a w2 hle hd hf hs K hK => ?_, fun a w2 hle hd hf hs K hK => ?_, fun a w2 hle hd hf hs K hK => ?_, fun a w2 hle hd hf hs K hK => ?_, fun a w2 hle hd hf hs K hK => ?_, fun a w2 hle hd hf hs K hK => ?_, fun a w2 hle hd hf hs K hK => ?_, fun a w2 hle hd hf hs K hK => ?_, fun a w2 hle hd hf hs K hK => ?_, fun a w2 hle hd hf hs K hK => ?_, fun a w2 hle hd hf hs K hK => ?_, fun a w2 hle hd hf hs K hK => ?_, trivial⟩
        all_goals clear hd
        · -- 37 := Op.indexAddr 156 t5 (const (0:i64))
          have e5 := hf 5 rfl; simp [Act.eval] at e5
          go_simp; exact hK _ _ (Ext.refl _) rfl
        · -- 38 := Op.load 155 t37
          have e37 := hs 0 37 (needs_direct (by kernel_rfl)) rfl; simp [Act.eval] at e37
          have hq := hle.cell hd0
          go_simp; exact hK _ _ (Ext.refl _) rfl
        · -- 39 := Op.call { value (Operand.func 119), args := #[const (0:i64), t38], argTypes := #[3, 155] }
          have e38 := hs 1 38 (needs_direct (by kernel_rfl)) rfl; simp [Act.eval] at e38
          go_simp
          refine (c_great0 _ w2).mono ?_
          rintro e w3 ⟨rfl, rfl⟩
          exact hK _ _ (Ext.refl _) rfl
        · -- 40 := Op.indexAddr 156 t5 (const (0:i64))
          have e5 := hf 5 rfl; simp [Act.eval] at e5
          go_simp; exact hK _ _ (Ext.refl _) rfl
        · -- 41 := Op.load 155 t40
          have e40 := hs 3 40 (needs_direct (by kernel_rfl)) rfl; simp [Act.eval] at e40
          have hq := hle.cell hd0
          go_simp; exact hK _ _ (Ext.refl _) rfl
        · -- 42 := Op.indexAddr 156 t5 (const (1:i64))
          have e5 := hf 5 rfl; simp [Act.eval] at e5
          go_simp; exact hK _ _ (Ext.refl _) rfl
        · -- 43 := Op.load 155 t42
          have e42 := hs 5 42 (needs_direct (by kernel_rfl)) rfl; simp [Act.eval] at e42
          have hq := hle.cell hd1
          go_simp; exact hK _ _ (Ext.refl _) rfl
        · -- 44 := Op.indexAddr 156 t5 (const (2:i64))
          have e5 := hf 5 rfl; simp [Act.eval] at e5
          go_simp; exact hK _ _ (Ext.refl _) rfl
        · -- 45 := Op.load 155 t44
          have e44 := hs 7 44 (needs_direct (by kernel_rfl)) rfl; simp [Act.eval] at e44
          have hq := hle.cell hd2
          go_simp; exact hK _ _ (Ext.refl _) rfl
        · -- 46 := Op.call { value (Operand.func 122), args := #[t41, t43, t45], argTypes := #[155, 155, 155] }
          have e41 := hs 4 41 (needs_direct (by kernel_rfl)) rfl; have e43 := hs 6 43 (needs_direct (by kernel_rfl)) rfl; have e45 := hs 8 45 (needs_direct (by kernel_rfl)) rfl; simp [Act.eval] at e41 e43 e45
          go_simp
          refine (c_most _ _ _ w2).mono ?_
          rintro e w3 ⟨rfl, rfl⟩
          exact hK _ _ (Ext.refl _) rfl
        · -- 47 := Op.binOp BinOp.add 155 t39 t46 155
          have e39 := hs 2 39 (needs_direct (by kernel_rfl)) rfl; have e46 := hs 9 46 (needs_direct (by kernel_rfl)) rfl; simp [Act.eval] at e39 e46
          go_simp
          exact hK _ _ (Ext.refl _) (congrArg (Value.int .u32) (by rw [HU0.out]; first | exact w_add _ _ | exact w_addW _ _))
        · -- 9 := Op.assign t47
          have e47 := hs 10 47 (needs_direct (by kernel_rfl)) rfl; simp [Act.eval] at e47
          go_simp; exact hK _ _ (Ext.refl _) rfl
      intro vs w8 hle hs
      have v11 := hs 11 (by omega) rfl
      simp only at v11
      clear hs
      have hE8 : Ext wr w8 := HE5.out.trans hle
      have hS8 := (hE8.block _ hgs).trans HSS.out
      have HA8 := hide ((hE8.block _ (Array.getElem?_eq_some_iff.1 HA.out).1).trans HA.out)
      have HD8 := hide ((hE8.block _ hgd).trans HD.out)
      have HB8 := hide (HB.out.trans (hE8.mono hwr))
      have hc0 := (cell_of_row w8 _ 0 _ _ _ hS8).trans (s8C_0 s)
      have hc1 := (cell_of_row w8 _ 1 _ _ _ hS8).trans (s8C_1 s)
      have hc2 := (cell_of_row w8 _ 2 _ _ _ hS8).trans (s8C_2 s)
      have hc3 := (cell_of_row w8 _ 3 _ _ _ hS8).trans (s8C_3 s)
      have hc4 := (cell_of_row w8 _ 4 _ _ _ hS8).trans (s8C_4 s)
      have hc5 := (cell_of_row w8 _ 5 _ _ _ hS8).trans (s8C_5 s)
      have hc6 := (cell_of_row w8 _ 6 _ _ _ hS8).trans (s8C_6 s)
      have hc7 := (cell_of_row w8 _ 7 _ _ _ hS8).trans (s8C_7 s)
      have hr8 := row_of hS8
      have HS8 := hide hS8
      clear hS8 hE8 hd0 hd1 hd2 hle
      simp only [putN, dstAt]
      go_simp
      go_wp2_with fail
      rw [w_add t0 u0, w_add s.d t0, sets8]
      go_simp
      go_wp2_with fail
      go_roundw
      case rel =>
        refine ⟨k + 1, by omega, by simp, ?_, ?_, ?_, hide (bsetRow HB8.out (by omega) _)⟩
        · exact hide ((heap_setRow_far _ _ _ (by omega)).trans HA8.out)
        · exact hide ((heap_setRow_far _ _ _ (by omega)).trans HD8.out)
        · rw [HST.out]
          have := setRow_heap w8 (w.heap.size + 1 + 1 + 1) _ (s8C ⟨t0 + u0, s.a, s.b, s.c, s.d + t0, s.e, s.f, s.g⟩) _ _ HS8.out
          rw [s8C_splice0 _ _ rfl]
          exact hide this
      case measure => simp [intOf]; omega
    · have HK64 := hide (show k = 64 by omega)
      obtain ⟨s, hs⟩ : ∃ s, s = turns h Wd k := ⟨_, rfl⟩
      have hS := HS.out
      rw [← hs] at hS
      have HFIN : Hid (compress h b = s.add h) := hide (by rw [HCO.out, hs, HK64.out])
      have HSS := hide hS
      obtain ⟨l, hl⟩ : ∃ l, l = s.list := ⟨_, rfl⟩
      obtain ⟨m, hm⟩ : ∃ m, m = h.list := ⟨_, rfl⟩
      have hll : l.length = 8 := by rw [hl]; rfl
      have hml : m.length = 8 := by rw [hm]; rfl
      have HLS : Hid (s8C s = wlC l) := hide (by rw [hl]; rfl)
      have HMH : Hid (s8C h = wlC m) := hide (by rw [hm]; rfl)
      have HLM : Hid (addl l m 8 = (s.add h).list) := hide (by rw [hl, hm]; rfl)
      clear hs HS hS hl hm
      go_wp2_with fail
      go_loopw [69] (fun i wz => ∃ (j : Nat), j ≤ 8 ∧ i = .int .i64 (j : Int) ∧ Hid (wz.heap[w.heap.size]? = some (.cells (s8C h) 156)) ∧ Hid (wz.heap[w.heap.size + 1 + 1]? = some (.cells (s8C s8z) 156)) ∧ Hid (wz.heap[w.heap.size + 1 + 1 + 1]? = some (.cells (wlC (addl l m j)) 156)) ∧ Hid (Below w.heap.size w wz)) (fun i _ => 8 - (intOf i).toNat)
      case atStart => exact ⟨0, Nat.zero_le _, rfl, HA, HD, hide (by rw [addl_start, ← HLS.out]; exact HSS.out), HB⟩
      case round =>
        clear HSS HA HD HB hwr hgs hgd
        obtain ⟨j, hj, rfl, HA, HD, HS, HB⟩ := hrel
        have hwr := HB.out.size
        have hgs := (Array.getElem?_eq_some_iff.1 HS.out).1
        have hgd := (Array.getElem?_eq_some_iff.1 HD.out).1
        by_cases hlt : j < 8
        · obtain ⟨p, hp⟩ : ∃ p, l[j]? = some p := ⟨_, List.getElem?_eq_getElem (by omega)⟩
          obtain ⟨q, hq⟩ : ∃ q, m[j]? = some q := ⟨_, List.getElem?_eq_getElem (by omega)⟩
          have hcp := (cell_of_row wr _ j _ _ _ HS.out).trans (wlC_at _ ((addl_at hll hml hlt).trans hp))
          have hcq : wr.cell? ⟨w.heap.size, j, none⟩ = some (wv q) := by
            rw [cell_of_row wr _ j _ _ _ HA.out, HMH.out]
            exact wlC_at _ hq
          have HST := hide (addl_set hll hml hlt hp hq)
          obtain ⟨y, hy⟩ : ∃ y, y = p + q := ⟨_, rfl⟩
          have HY := hide hy
          clear hp hq hy
          go_wp2_with fail
          refine wp_region_ext mixed 8 (fun i v w' => match i with
            | 0 => v = .int .i64 ((j : Nat) : Int)
            | 1 => v = .pointer (some ⟨w.heap.size + 1 + 1 + 1, j, none⟩)
            | 2 => v = wv (p)
            | 3 => v = .int .i64 ((j : Nat) : Int)
            | 4 => v = .pointer (some ⟨w.heap.size, j, none⟩)
            | 5 => v = wv (q)
            | 6 => v = wv (y)
            | _ => v = .pointer (some ⟨w.heap.size + 1 + 1 + 1, j, none⟩)
            ) (regOk_of (by kernel_rfl)) rfl ?_ ?_ ?_
          · intro i v w1 w2 h1 h2
            split at h2 <;> exact h2
          · refine ⟨fun a w2 hle hd hf hs K hK => ?_, fun a w2 hle hd hf hs K hK => ?_, fun a w2 hle hd hf hs K hK => ?_, fun a w2 hle hd hf hs K hK => ?_, fun a w2 hle hd hf hs K hK => ?_, fun a w2 hle hd hf hs K hK => ?_, fun a w2 hle hd hf hs K hK => ?_, fun a w2 hle hd hf hs K hK => ?_, trivial⟩
            all_goals clear hd
            · -- 72 := Op.move t10
              have e10 := hf 10 rfl; simp [Act.eval] at e10
              go_simp; exact hK _ _ (Ext.refl _) rfl
            · -- 73 := Op.indexAddr 156 t5 t72
              have e5 := hf 5 rfl; have e72 := hs 0 72 (needs_direct (by kernel_rfl)) rfl; simp [Act.eval] at e5 e72
              go_simp; exact hK _ _ (Ext.refl _) rfl
            · -- 74 := Op.load 155 t73
              have e73 := hs 1 73 (needs_direct (by kernel_rfl)) rfl; simp [Act.eval] at e73
              have hq := hle.cell hcp
              go_simp; exact hK _ _ (Ext.refl _) rfl
            · -- 75 := Op.move t10
              have e10 := hf 10 rfl; simp [Act.eval] at e10
              go_simp; exact hK _ _ (Ext.refl _) rfl
            · -- 76 := Op.indexAddr 156 t2 t75
              have e2 := hf 2 rfl; have e75 := hs 3 75 (needs_direct (by kernel_rfl)) rfl; simp [Act.eval] at e2 e75
              go_simp; exact hK _ _ (Ext.refl _) rfl
            · -- 77 := Op.load 155 t76
              have e76 := hs 4 76 (needs_direct (by kernel_rfl)) rfl; simp [Act.eval] at e76
              have hq := hle.cell hcq
              go_simp; exact hK _ _ (Ext.refl _) rfl
            · -- 78 := Op.binOp BinOp.add 155 t74 t77 155
              have e74 := hs 2 74 (needs_direct (by kernel_rfl)) rfl; have e77 := hs 5 77 (needs_direct (by kernel_rfl)) rfl; simp [Act.eval] at e74 e77
              go_simp
              exact hK _ _ (Ext.refl _) (congrArg (Value.int .u32) (by rw [HY.out]; first | exact w_add _ _ | exact w_addW _ _))
            · -- 79 := Op.indexAddr 156 t5 t72
              have e5 := hf 5 rfl; have e72 := hs 0 72 (needs_direct (by kernel_rfl)) rfl; simp [Act.eval] at e5 e72
              go_simp; exact hK _ _ (Ext.refl _) rfl
          intro vs w8 hle hs
          have v6 := hs 6 (by omega) rfl
          have v7 := hs 7 (by omega) rfl
          simp only at v6 v7
          clear hs
          have hS8 := (hle.block _ hgs).trans HS.out
          have HA8 := hide ((hle.block _ (Array.getElem?_eq_some_iff.1 HA.out).1).trans HA.out)
          have HD8 := hide ((hle.block _ hgd).trans HD.out)
          have HB8 := hide (HB.out.trans (hle.mono hwr))
          have hcz := cell_of_row w8 (w.heap.size + 1 + 1 + 1) j _ _ _ hS8
          have hcs : (w8.cell? ⟨w.heap.size + 1 + 1 + 1, j, none⟩).isSome = true := by rw [hcz, wlC_get, List.getElem?_eq_getElem (by rw [addl_len hll hml (by omega)]; exact hlt)]; rfl
          obtain ⟨v0, hv0⟩ := Option.isSome_iff_exists.1 hcs
          have hfz := frozen_of_row w8 (w.heap.size + 1 + 1 + 1) j _ _ hS8
          have HS8 := hide hS8
          clear hcz hcs hcp hcq hle hS8
          simp only [putN, dstAt]
          go_simp
          go_wp2_with fail
          go_roundw
          case rel =>
            refine ⟨j + 1, by omega, by simp, ?_, ?_, ?_, hide (bsetCell HB8.out (by omega) _ _)⟩
            · exact hide ((Below.heap_setCell _ _ _ _ (by simp; omega)).trans HA8.out)
            · exact hide ((Below.heap_setCell _ _ _ _ (by simp)).trans HD8.out)
            · have := heap_setCell_at (i := j) (wv y) HS8.out
              rw [wlC_set, HY.out, HST.out] at this
              rw [HY.out]
              exact hide this
          case measure => simp [intOf]; omega
        · obtain rfl : j = 8 := by omega
          have hS := HS.out
          rw [HLM.out, ← s8C_wl] at hS
          have hag : agg? wr ⟨w.heap.size + 1 + 1 + 1, 0, none⟩ 8 = some (s8C (s.add h)) := (agg_of_row hS 0 8 (by decide)).trans (s8C_part _)
          have hr := row_of HD.out
          clear hS
          have HB9 := hide (bsetRow HB.out (show w.heap.size ≤ w.heap.size + 1 + 1 by omega) (s8C (s.add h)))
          have hag9 : agg? (wr.setRow (w.heap.size + 1 + 1) (s8C (s.add h))) ⟨w.heap.size + 1 + 1, 0, none⟩ 8 = some (s8C (s.add h)) := (agg_setRow_at _ _ _ _ _ (by rw [hr]; rfl) (by decide)).trans (s8C_part _)
          have hsp := s8C_splice0 (s.add h) (s8C s8z) rfl
          go_wp2_with fail
          exact bodyPost_ret (v := .agg (s8C (s.add h))) (by simp [results, Tryd.results101, go_sem, hag9]) rfl ⟨by rw [HFIN.out], HB9.out⟩
end Go.Proofs.YtdkeflhgengblaaDoor
namespace Go.Proofs.YtdkeflhgengblaaDoor
open Go.RowKit
theorem u32_of (n : Nat) : ((n : Int) % 4294967296) = ((UInt32.ofNat n).toNat : Int) := by
  rw [UInt32.toNat_ofNat']; show (n : Int) % 4294967296 = ((n % 2 ^ 32 : Nat) : Int); omega
set_option maxRecDepth 100000 in
set_option maxHeartbeats 400000 in
theorem c_pad (n : Nat) (w : World) (hn : n < 2305843009213693952) : Calls Tryd.prog 102 #[.int .u64 (n : Int)] w fun e w' => ∃ v, e = .returned v ∧ kU8.Own (fun _ => True) w.heap.size w' 5 v (padN n) ∧ Below w.heap.size w w' := by
  have HN := hide hn
  obtain ⟨p, hp⟩ : ∃ p, p = (119 - n % 64) % 64 := ⟨_, rfl⟩
  have hp64 : p < 64 := by omega
  have HP := hide hp
  have HO : Hid (kU8.Own (fun _ => True) w.heap.size (w.alloc (.cells #[.int .u8 128] 5)) 5 (.slice (some ⟨w.heap.size, 0, none⟩) 1 1) [128]) := hide (Kd.Own.lit (css := [[.int .u8 128]]) (.single (kU8_ofNat _ _ (n := 128) (by decide) rfl)) _ rfl 1 rfl (by decide) _ rfl (Nat.le_refl _))
  clear hp hn
  go_enter Tryd.func102, Tryd.ntmps102
  go_wp2_with fail
  go_loopw [3] (fun v wr => ∃ (pre : List UInt8), 1 ≤ pre.length ∧ pre.length ≤ p + 1 ∧ Hid (pre = 128 :: List.replicate (pre.length - 1) 0) ∧ Hid (kU8.Own (fun _ => True) w.heap.size wr 5 v pre) ∧ Hid (Below w.heap.size w wr)) (fun v wr => 100 - (match v with | .slice _ n _ => n | _ => 0))
  case atStart => exact ⟨[128], Nat.le_refl _, Nat.succ_le_succ (Nat.zero_le _), hide rfl, HO, hide (below1 _ _)⟩
  case round =>
    obtain ⟨pre, hl1, hl2, HPRE, HV, HB⟩ := hrel
    obtain ⟨A, c, rfl⟩ := HV.out.form
    have hwr := HB.out.size
    obtain ⟨m, hm⟩ : ∃ m, m = pre.length := ⟨_, rfl⟩
    rw [← hm] at hl1 hl2 HPRE HV ⊢
    have HM := hide hm
    clear hm
    have hwrap : ∀ x : Int, 0 ≤ x → x < 18446744073709551616 → IntKind.u64.wrap x = x := fun x h0 h1 => by rw [IntKind.wrap_u64]; omega
    have hc1 : IntKind.u64.wrap (IntKind.u64.wrap ((n : Int) + (m : Int)) + 8) = ((n + m + 8 : Nat) : Int) := by
      have := HN.out
      rw [hwrap ((n : Int) + (m : Int)) (by omega) (by omega), hwrap _ (by omega) (by omega)]; omega
    have hc2 : ((n + m + 8 : Nat) : Int).tmod 64 = (((n + m + 8) % 64 : Nat) : Int) := by rw [Int.tmod_eq_emod_of_nonneg (by omega)]; omega
    have hc3 : (IntKind.u64.wrap (IntKind.u64.wrap ((n : Int) + (m : Int)) + 8)).tmod 64 = (((n + m + 8) % 64 : Nat) : Int) := by rw [hc1, hc2]
    clear hc1 hc2 hwrap
    by_cases hlt : m < p + 1
    · have hq : ((IntKind.u64.wrap (IntKind.u64.wrap ((n : Int) + (m : Int)) + 8)).tmod 64 != 0) = true := by
        rw [hc3]
        have : ¬ (((n + m + 8) % 64 : Nat) : Int) = 0 := by have := HP.out; omega
        simpa using this
      clear hc3
      go_wp2_with (at_builtin; go_loud (refine wpList_app (d := kU8) (ys := [0]) rfl _ _ _ rfl Tryd.underlying22 u8_info rfl (by decide) 1 rfl rfl (.inl (HV.out.below (below1 _ _))) (Kd.Src.new ?_ _ rfl _ rfl) ?_ ?_ ?_ ?_))
      · exact ⟨rfl, trivial⟩
      · simp; omega
      · have := HM.out; simp only [maxLen]; omega
      · have := HM.out; omega
      · intro v1 w1 _ h2 h3 _ _
        obtain ⟨A1, c1, rfl⟩ := h2.form
        have hl1' : (pre ++ [(0 : UInt8)]).length = m + 1 := by rw [List.length_append, ← HM.out]; rfl
        have H2 := hide h2
        have H3 := hide (HB.out.trans (((below1 wr _).mono hwr).trans h3))
        clear h2 h3 hq
        rw [hl1'] at H2 ⊢
        have HL1 := hide hl1'
        clear hl1'
        go_wp2
        go_roundw
        case rel =>
          refine ⟨pre ++ [0], by rw [HL1.out]; omega, by rw [HL1.out]; omega, ?_, H2, H3⟩
          rw [HL1.out]
          refine hide ?_
          have := HPRE.out
          rw [this, List.cons_append, show m + 1 - 1 = (m - 1) + 1 by omega, List.replicate_succ']
        case measure => simp; omega
    · have hq : ((IntKind.u64.wrap (IntKind.u64.wrap ((n : Int) + (m : Int)) + 8)).tmod 64 != 0) = false := by
        rw [hc3]
        have : (((n + m + 8) % 64 : Nat) : Int) = 0 := by have := HP.out; omega
        simpa using this
      clear hc3
      have hmp : m = p + 1 := by omega
      have HPRE2 : Hid (128 :: List.replicate ((119 - n % 64) % 64) 0 = pre) := hide (by rw [HPRE.out, hmp, ← HP.out]; rfl)
      have hrow := HV.out.row
      obtain ⟨A', c', e, hr⟩ := hrow
      obtain ⟨rfl, hcc⟩ : A = A' ∧ c = c' := by
        simp only [Value.slice.injEq] at e
        exact ⟨e.1, e.2.2⟩
      subst hcc
      have HR := hide hr
      clear hr e hmp
      go_wp2_with fail
      rw [show ((n : Int) / 536870912 % 4294967296) = ((UInt32.ofNat (n / 536870912)).toNat : Int) by rw [← u32_of]; omega]
      have hlm : pre.length = m := HM.out.symm
      rw [hlm] at HR
      refine (c_put A m c pre _ _ wr HR.out (by omega)).mono ?_
      rintro e w1 ⟨v1, rfl, h1, b1⟩
      have hlp : (pre ++ put4 (UInt32.ofNat (n / 536870912))).length = m + 4 := by rw [List.length_append, hlm]; rfl
      have hrow := h1.row
      rw [hlp] at hrow
      obtain ⟨A1, c1, rfl, hr1⟩ := hrow
      have HR1 := hide hr1
      have HB1 := hide (HB.out.trans (b1.mono hwr))
      have hw1 := HB1.out.size
      clear hr1 h1 hlp
      go_wp2_with fail
      rw [show (IntKind.u64.wrap ((n : Int) * 8) % 4294967296) = ((UInt32.ofNat (n * 8)).toNat : Int) by rw [← u32_of, IntKind.wrap_u64]; omega]
      refine (c_put A1 (m + 4) c1 _ _ _ w1 HR1.out (by omega)).mono ?_
      rintro e w2 ⟨v2, rfl, h2, b2⟩
      have H2 := hide (h2.lower (Nat.le_trans hwr b1.size))
      have HB2 := hide (HB1.out.trans (b2.mono hw1))
      clear h2 b2
      go_wp2_with fail
      go_ret
      refine ⟨_, rfl, ?_, HB2.out⟩
      rw [padN, HPRE2.out]
      exact H2.out
end Go.Proofs.YtdkeflhgengblaaDoor
namespace Go.Proofs.YtdkeflhgengblaaDoor
open Go.RowKit
theorem fill_cons {place : Nat → Option (Nat × Nat)} {cells v : Array Value} {i o n : Nat} {rest : List (Nat × Value)} (hp : place i = some (o, n)) (hv : v.size = n) (hc : o + n ≤ cells.size) :
    Instr.fill place cells ((i, .agg v) :: rest) = Instr.fill place (splice cells o v) rest := by
  obtain ⟨h1, h2⟩ := Great.foldl_set o v.toList 0 cells
  conv => lhs; unfold Instr.fill
  simp only [hp]
  split
  · rename_i h
    exfalso
    simp [Value.cells, hv] at h
    omega
  show Instr.fill place (Array.foldl (fun cs x => cs.setIfInBounds (o + x.2) x.1) cells v.zipIdx) rest = _
  congr 1
  apply Array.ext_getElem?
  intro k
  have h3 := h2 k
  rw [← Array.foldl_toList]
  simp only [Array.toList_zipIdx]
  rw [h3]
  simp only [splice, Array.length_toList, hv, Nat.add_zero]
  have hlen : (List.take o cells.toList).length = o := by rw [List.length_take, Array.length_toList]; omega
  have e : (List.take o cells.toList ++ v.toList ++ List.drop (o + n) cells.toList).toArray[k]? = (List.take o cells.toList ++ (v.toList ++ List.drop (o + n) cells.toList))[k]? := by
    rw [List.append_assoc]
    simp only [List.getElem?_toArray]
  rw [e, List.getElem?_append, hlen]
  rcases Nat.lt_or_ge k o with h | h
  · rw [if_neg (by omega), if_pos h, List.getElem?_take, if_pos h, Array.getElem?_toList]
  · rw [if_neg (Nat.not_lt.2 h), List.getElem?_append, Array.length_toList, hv]
    rcases Nat.lt_or_ge k (o + n) with h' | h'
    · rw [if_pos (by omega), if_pos (by omega)]
    · rw [if_neg (by omega), if_neg (by omega), List.getElem?_drop, Array.getElem?_toList, show o + n + (k - o - n) = k by omega]
theorem fill_one {place : Nat → Option (Nat × Nat)} {cells : Array Value} {v : Value} {i o : Nat} {rest : List (Nat × Value)} (hp : place i = some (o, 1)) (hv : v.cells = #[v]) (hc : o < cells.size) :
    Instr.fill place cells ((i, v) :: rest) = Instr.fill place (cells.setIfInBounds o v) rest := by
  conv => lhs; unfold Instr.fill
  simp only [hp]
  split
  · rename_i h
    exfalso
    simp [hv] at h
    omega
  · rw [hv]
    rfl
end Go.Proofs.YtdkeflhgengblaaDoor
namespace Go.Proofs.YtdkeflhgengblaaDoor
open Go.RowKit
/-- 64 bytes. -/
structure B64 where
  l : List UInt8
  len : l.length = 64
def B64.zero : B64 := ⟨List.replicate 64 0, by simp⟩
/-- A digest's cells. -/
def dgC (h : S8) (r : B64) (n : Value) : Array Value := (h.list.map wv ++ r.l.map bv ++ [n]).toArray
section
variable (h h' : S8) (r r' : B64) (n m : Value)
theorem dgL_len : (h.list.map wv ++ r.l.map bv).length = 72 := by simp [S8.list, r.len]
theorem dgC_size : (dgC h r n).size = 73 := by
  rw [dgC, List.size_toArray, List.length_append, dgL_len]; rfl
theorem dgC_72 : (dgC h r n)[72]? = some n := by
  rw [dgC, List.getElem?_toArray, List.getElem?_append_right (by rw [dgL_len]; exact Nat.le_refl _), dgL_len]; rfl
theorem dgC_part : part? (dgC h r n) 0 73 = some (dgC h r n) := part_self _ _ (dgC_size h r n)
theorem dgC_h : part? (dgC h r n) 0 8 = some (s8C h) := by
  unfold part?
  rw [dgC_size, if_pos (by decide)]
  congr 1
  apply Array.ext_getElem?
  intro i
  rw [Array.getElem?_extract, dgC_size]
  show (if i < 8 then (dgC h r n)[0 + i]? else none) = _
  rw [s8C_wl, wlC_get, Nat.zero_add]
  split
  · rw [dgC, List.getElem?_toArray, List.append_assoc, List.getElem?_append_left (by simp [S8.list]; omega), List.getElem?_map]
  · rw [List.getElem?_eq_none (by simp [S8.list]; omega)]; rfl
theorem dgC_r : part? (dgC h r n) 8 64 = some (blC r.l) := by
  unfold part?
  rw [dgC_size, if_pos (by decide)]
  congr 1
  apply Array.ext_getElem?
  intro i
  rw [Array.getElem?_extract, dgC_size]
  show (if i < 64 then (dgC h r n)[8 + i]? else none) = _
  rw [blC_get]
  have hr := r.len
  split
  · rw [dgC, List.getElem?_toArray, List.append_assoc, List.getElem?_append_right (by simp [S8.list]), List.getElem?_append_left (by simp [S8.list]; omega), List.getElem?_map]
    congr 2
    simp [S8.list]
  · rw [List.getElem?_eq_none (by omega)]; rfl
theorem dgC_splice_h : splice (dgC h r n) 0 (s8C h') = dgC h' r n := by
  have e : (h.list.map wv).length = 8 := rfl
  rw [splice, s8C_wl, wlC_size]
  show (List.take 0 (dgC h r n).toList ++ (wlC h'.list).toList ++ List.drop 8 (dgC h r n).toList).toArray = _
  simp only [dgC, wlC, List.take_zero, List.nil_append, List.append_assoc]
  rw [← e, List.drop_left]
theorem dgC_set : (dgC h r n).setIfInBounds 72 m = dgC h r m := by
  apply Array.ext_getElem?
  intro i
  rw [Array.getElem?_setIfInBounds, dgC_size]
  by_cases hi : 72 = i
  · subst hi
    rw [if_pos rfl, if_pos (by decide), dgC_72]
  · rw [if_neg hi, dgC, dgC, List.getElem?_toArray, List.getElem?_toArray]
    rcases Nat.lt_or_ge i 72 with h1 | h1
    · rw [List.getElem?_append_left (l₁ := h.list.map wv ++ r.l.map bv) (by rw [dgL_len]; exact h1), List.getElem?_append_left (l₁ := h.list.map wv ++ r.l.map bv) (by rw [dgL_len]; exact h1)]
    · rw [List.getElem?_eq_none (by rw [List.length_append, dgL_len]; simp; omega), List.getElem?_eq_none (by rw [List.length_append, dgL_len]; simp; omega)]
theorem splice_mid {L R N C : List Value} {o : Nat} (hL : L.length = 8) (hR : o + C.length ≤ R.length) : (L ++ R ++ N).take (8 + o) ++ C ++ (L ++ R ++ N).drop (8 + o + C.length) = L ++ (R.take o ++ C ++ R.drop (o + C.length)) ++ N := by
  have h1 : (L ++ (R ++ N)).take (8 + o) = L ++ R.take o := by
    rw [List.take_append, List.take_of_length_le (by omega), hL, show 8 + o - 8 = o by omega, List.take_append_of_le_length (by omega)]
  have h2 : (L ++ (R ++ N)).drop (8 + o + C.length) = R.drop (o + C.length) ++ N := by
    rw [List.drop_append, List.drop_eq_nil_of_le (by omega), hL, show 8 + o + C.length - 8 = o + C.length by omega, List.drop_append_of_le_length (by omega), List.nil_append]
  rw [List.append_assoc L R N, h1, h2]
  simp only [List.append_assoc]
theorem dgC_splice_r (o : Nat) (c : List UInt8) (hr : r'.l = r.l.take o ++ c ++ r.l.drop (o + c.length)) (ho : o + c.length ≤ 64) : splice (dgC h r n) (8 + o) (blC c) = dgC h r' n := by
  have hl := r.len
  have e := splice_mid (L := h.list.map wv) (R := r.l.map bv) (N := [n]) (C := c.map bv) (o := o) rfl (by simp only [List.length_map]; omega)
  rw [List.length_map] at e
  rw [splice, blC_size]
  show (List.take (8 + o) (h.list.map wv ++ r.l.map bv ++ [n]) ++ (c.map bv) ++ List.drop (8 + o + c.length) (h.list.map wv ++ r.l.map bv ++ [n])).toArray = _
  rw [e, dgC, hr]
  simp only [List.map_append, List.map_take, List.map_drop]
theorem dgC_one (k : IntKind) (z : Int) : oneAll (dgC h r (.int k z)) = true := by
  rw [oneAll, Array.all_eq_true_iff_forall_mem]
  intro x hx
  simp only [dgC, List.mem_toArray, List.mem_append, List.mem_map, List.mem_singleton] at hx
  rcases hx with (⟨b, _, rfl⟩ | ⟨b, _, rfl⟩) | rfl <;> rfl
theorem dgC_splice0 (C : Array Value) (hC : C.size = 73) : splice C 0 (dgC h r n) = dgC h r n := splice0 _ _ (by rw [hC, dgC_size])
theorem dgC_ne : (dgC h r n = #[]) = False := eq_false fun e => by
  have := congrArg Array.size e
  rw [dgC_size] at this
  cases this
theorem zero_dg : (#[.int .u32 0, .int .u32 0, .int .u32 0, .int .u32 0, .int .u32 0, .int .u32 0, .int .u32 0, .int .u32 0, .int .u8 0, .int .u8 0, .int .u8 0, .int .u8 0, .int .u8 0, .int .u8 0, .int .u8 0, .int .u8 0, .int .u8 0, .int .u8 0, .int .u8 0, .int .u8 0, .int .u8 0, .int .u8 0, .int .u8 0, .int .u8 0, .int .u8 0, .int .u8 0, .int .u8 0, .int .u8 0, .int .u8 0, .int .u8 0, .int .u8 0, .int .u8 0, .int .u8 0, .int .u8 0, .int .u8 0, .int .u8 0, .int .u8 0, .int .u8 0, .int .u8 0, .int .u8 0, .int .u8 0, .int .u8 0, .int .u8 0, .int .u8 0, .int .u8 0, .int .u8 0, .int .u8 0, .int .u8 0, .int .u8 0, .int .u8 0, .int .u8 0, .int .u8 0, .int .u8 0, .int .u8 0, .int .u8 0, .int .u8 0, .int .u8 0, .int .u8 0, .int .u8 0, .int .u8 0, .int .u8 0, .int .u8 0, .int .u8 0, .int .u8 0, .int .u8 0, .int .u8 0, .int .u8 0, .int .u8 0, .int .u8 0, .int .u8 0, .int .u8 0, .int .u8 0, .int .u64 0] : Array Value) = dgC s8z B64.zero (.int .u64 0) := rfl
theorem ld73 (a : Addr) : loadCellsFrom a 0 73 #[] = ldAgg a 73 := rfl
end
theorem built_dig (s : S8) : Tryd.prog.built 158 [(0, .agg (s8C s))] = some (dgC s B64.zero (.int .u64 0)) := by
  have hz : (Tryd.prog.info? 158).map (fun i => (i.zero, i.size)) = some (some (.agg #[.int .u32 0, .int .u32 0, .int .u32 0, .int .u32 0, .int .u32 0, .int .u32 0, .int .u32 0, .int .u32 0, .int .u8 0, .int .u8 0, .int .u8 0, .int .u8 0, .int .u8 0, .int .u8 0, .int .u8 0, .int .u8 0, .int .u8 0, .int .u8 0, .int .u8 0, .int .u8 0, .int .u8 0, .int .u8 0, .int .u8 0, .int .u8 0, .int .u8 0, .int .u8 0, .int .u8 0, .int .u8 0, .int .u8 0, .int .u8 0, .int .u8 0, .int .u8 0, .int .u8 0, .int .u8 0, .int .u8 0, .int .u8 0, .int .u8 0, .int .u8 0, .int .u8 0, .int .u8 0, .int .u8 0, .int .u8 0, .int .u8 0, .int .u8 0, .int .u8 0, .int .u8 0, .int .u8 0, .int .u8 0, .int .u8 0, .int .u8 0, .int .u8 0, .int .u8 0, .int .u8 0, .int .u8 0, .int .u8 0, .int .u8 0, .int .u8 0, .int .u8 0, .int .u8 0, .int .u8 0, .int .u8 0, .int .u8 0, .int .u8 0, .int .u8 0, .int .u8 0, .int .u8 0, .int .u8 0, .int .u8 0, .int .u8 0, .int .u8 0, .int .u8 0, .int .u8 0, .int .u64 0]), 73) := by kernel_rfl
  obtain ⟨i0, hi, hzz⟩ := Option.map_eq_some_iff.1 hz
  simp only [Prod.mk.injEq] at hzz
  obtain ⟨hz0, hz1⟩ := hzz
  rw [zero_dg] at hz0
  have hp : #[(⟨"h", 156, 0, false, "", "chitty/digest", 0⟩ : Field), (⟨"rest", 153, 8, false, "", "chitty/digest", 32⟩ : Field), (⟨"many", 41, 72, false, "", "chitty/digest", 96⟩ : Field)].toList.mapM (fun f => (Tryd.prog.info? f.type).map fun i => (f.offset, i.size)) = some [(0, 8), (8, 64), (72, 1)] := by kernel_rfl
  unfold Program.built
  rw [hi, Tryd.underlying158]
  simp only [hz0]
  rw [hp]
  simp only [Value.cells]
  rw [fill_cons (o := 0) (n := 8) rfl rfl (by rw [dgC_size]; decide), dgC_splice_h]
  rfl
theorem wp_buildDig {o : Oper} {a0 : Act} {w : World} {K : Act → World → Prop} {Q : Exit → Act → World → Prop} (x : Operand) (ho : o.op = .build 158 #[(0, x)]) (s : S8) (hx : a0.eval x = .agg (s8C s))
    (h : K (a0.put o.dst (.agg (dgC s B64.zero (.int .u64 0)))) w) : o.wp Tryd.prog a0 w K Q := by
  have e : (Array.map (fun x => (x.fst, a0.eval x.snd)) #[(0, x)]).toList = [(0, .agg (s8C s))] := by simp [hx]
  have hb := (congrArg (Tryd.prog.built 158) e).trans (built_dig s)
  refine wp_build 158 #[(0, x)] ho (by rw [hb]; rfl) ?_
  rw [hb]
  exact h
set_option maxRecDepth 100000 in
theorem at_buildDig {ops : Array Oper} {rest : List Oper} {a0 : Act} {w : World} {Q : Exit → Act → World → Prop} {dst : Option Tmp} {ty : TypeId} {pos : String} {after : Array Edge} {x : Operand} (s : S8) (hx : a0.eval x = .agg (s8C s))
    (h : wpList Tryd.prog ops Q rest (a0.put dst (.agg (dgC s B64.zero (.int .u64 0)))) w) : wpList Tryd.prog ops Q (⟨dst, .build 158 #[(0, x)], ty, pos, after, none⟩ :: rest) a0 w :=
  wpList_plain rfl fun _ hK => wp_buildDig x rfl s hx (hK _ _ h)
/-- A digest to which bytes were written. -/
def DigAt (w : World) (g : Nat) (xs : List UInt8) : Prop :=
  ∃ (h : S8) (tail : List UInt8) (r : B64), w.heap[g]? = some (.cells (dgC h r (.int .u64 (xs.length : Int))) 158) ∧ Split xs h tail ∧ r.l.take tail.length = tail
theorem DigAt.of_heap {w w' : World} {g : Nat} {xs : List UInt8} (h : DigAt w g xs) (hb : w'.heap[g]? = w.heap[g]?) : DigAt w' g xs := let ⟨a, b, c, h1, h2⟩ := h; ⟨a, b, c, hb.trans h1, h2⟩
theorem DigAt.lt {w : World} {g : Nat} {xs : List UInt8} (h : DigAt w g xs) : g < w.heap.size := let ⟨_, _, _, h1, _⟩ := h; (Array.getElem?_eq_some_iff.1 h1).1
theorem DigAt.ext {w w' : World} {g : Nat} {xs : List UInt8} (h : DigAt w g xs) (hb : Below w.heap.size w w') : DigAt w' g xs := h.of_heap (hb.block g h.lt)
attribute [local go_sem ↓] ld8 ld64 ld73
attribute [local go_sem] run_ldAgg run_storeAgg agg_alloc_at agg_alloc_past agg_drew agg_setCell row_alloc_at row_alloc_past row_drew setRow_alloc_at setRow_alloc_past setRow_drew agg_setRow_at agg_setRow_far cell_setRow_at cell_setRow_far row_setRow_far size_setRow s8C_size s8C_part s8C_one s8C_splice0 s8C_ne dgC_size dgC_72 dgC_part dgC_h dgC_r dgC_splice_h dgC_set dgC_one dgC_splice0 dgC_ne zero_dg
set_option maxRecDepth 100000 in
set_option maxHeartbeats 400000 in
theorem c_dnew (w : World) : Calls Tryd.prog 100 #[] w fun e w' => ∃ g, e = .returned (.pointer (some ⟨g, 0, none⟩)) ∧ w.heap.size ≤ g ∧ DigAt w' g [] ∧ Below w.heap.size w w' := by
  go_enter Tryd.func100, Tryd.ntmps100
  go_wp2_with fail
  refine (c_wstart w).mono ?_
  rintro e w1 ⟨rfl, b1⟩
  have HB1 := hide b1
  clear b1
  go_wp2_with ((with_reducible show wpList _ _ _ (Oper.mk (some 2) _ _ _ _ _ :: _) _ _); go_loud (refine at_buildDig S8.start rfl ?_))
  go_ret
  exact ⟨_, rfl, HB1.out.size, ⟨S8.start, [], B64.zero, heap_alloc_new _ _, Split.start, rfl⟩, bnext HB1.out (below1 _ _)⟩
set_option maxRecDepth 100000 in
set_option maxHeartbeats 400000 in
theorem c_dclone (g : Nat) (xs : List UInt8) (w : World) (hD : DigAt w g xs) : Calls Tryd.prog 71 #[.pointer (some ⟨g, 0, none⟩)] w fun e w' => ∃ g', e = .returned (.pointer (some ⟨g', 0, none⟩)) ∧ w.heap.size ≤ g' ∧ DigAt w' g' xs ∧ Below w.heap.size w w' := by
  obtain ⟨h, tail, r, hg, hsp, htl⟩ := hD
  have hag : agg? w ⟨g, 0, none⟩ 73 = some (dgC h r (.int .u64 (xs.length : Int))) := (agg_of_row hg 0 73 (by decide)).trans (dgC_part _ _ _)
  have hgs := (Array.getElem?_eq_some_iff.1 hg).1
  have HSP := hide hsp
  have HTL := hide htl
  clear hsp htl hg
  go_enter Tryd.func71, Tryd.ntmps71
  go_wp2_with fail
  go_ret
  exact ⟨_, rfl, Nat.le_refl _, ⟨h, tail, r, heap_alloc_new _ _, HSP.out, HTL.out⟩, below1 _ _⟩
end Go.Proofs.YtdkeflhgengblaaDoor
namespace Go.Proofs.YtdkeflhgengblaaDoor
open Go.RowKit
attribute [local go_sem ↓] ld8 ld64 ld73
attribute [local go_sem] run_ldAgg run_storeAgg agg_alloc_at agg_alloc_past agg_drew agg_setCell row_alloc_at row_alloc_past row_drew setRow_alloc_at setRow_alloc_past setRow_drew agg_setRow_at agg_setRow_far cell_setRow_at cell_setRow_far row_setRow_far size_setRow s8C_size s8C_part s8C_one s8C_splice0 s8C_ne dgC_size dgC_72 dgC_part dgC_h dgC_r dgC_splice_h dgC_set dgC_one dgC_splice0 dgC_ne zero_dg
theorem PrimesAt.grown {w w' : World} {g : Nat} (h : PrimesAt w) (hb : w.grownBy w' (some g)) (hg : g ≠ 0) : PrimesAt w' :=
  ⟨Nat.lt_of_lt_of_le h.1 hb.size, fun i p hi => (World.cell?_of_block (a := ⟨0, i, none⟩) (hb.block 0 h.1 (fun e => hg (Option.some.inj e).symm))).trans (h.2 i p hi)⟩
theorem grown_setCell {w w' : World} {g : Nat} (h : w.grownBy w' (some g)) (i : Nat) (v : Value) : w.grownBy (w'.setCell ⟨g, i, none⟩ v) (some g) :=
  ⟨h.os, h.tape, h.output, by simp only [size_setCell]; exact h.size, fun k hk hne => (Below.heap_setCell _ _ _ _ (show ¬ k = g from fun e => hne (e ▸ rfl))).trans (h.block k hk hne)⟩
theorem grown_setRow {w w' : World} {g : Nat} (h : w.grownBy w' (some g)) (C : Array Value) : w.grownBy (w'.setRow g C) (some g) :=
  ⟨h.os, h.tape, h.output, by simp only [size_setRow]; exact h.size, fun k hk hne => (heap_setRow_far _ _ _ (show ¬ k = g from fun e => hne (e ▸ rfl))).trans (h.block k hk hne)⟩
theorem grown_ext {w w' w'' : World} {g : Option Nat} (h : w.grownBy w' g) (b : Below w'.heap.size w' w'') : w.grownBy w'' g :=
  ⟨b.os.trans h.os, b.tape.trans h.tape, b.output.trans h.output, Nat.le_trans h.size b.size, fun k hk hne => (b.block k (Nat.lt_of_lt_of_le hk h.size)).trans (h.block k hk hne)⟩
theorem row_grown {α : Type} {d : Kd α} {ok : Nat → Prop} {w w' : World} {A : Option Addr} {n c : Nat} {xs : List α} {g : Nat} (h : d.Row ok w A n c xs) (hb : w.grownBy w' (some g)) (hok : ∀ k, ok k → k ≠ g) : d.Row ok w' A n c xs :=
  h.keep fun k hk hlt => hb.block k hlt (fun e => hok k hk (Option.some.inj e))
theorem at_copy8g {P : Program} {ops : Array Oper} {rest : List Oper} {a : Act} {w : World} {Q : Exit → Act → World → Prop} {dst : Option Tmp} {ty : TypeId} {pos : String} {after : Array Edge} {d s : Operand} {dT sT : TypeId} (elem : TypeId) (hu : P.underlying dT = some (.slice elem)) (hsz : (P.info? elem).map (·.size) = some 1)
    (g off dLen dCap : Nat) {A : Option Addr} {n c : Nat} {xs : List UInt8} {ok : Nat → Prop} (hR : kU8.Row ok w A n c xs) (hd : a.eval d = .slice (some ⟨g, off, none⟩) dLen dCap) (hs : a.eval s = .slice A n c)
    (C : Array Value) (t : TypeId) (hg : w.heap[g]? = some (.cells C t (0, 0))) (k : Nat) (hk : min n dLen = k) (hfit : off + k ≤ C.size) (C' : Array Value) (hC : splice C off (blC (xs.take k)) = C')
    (h : ∀ w', Hid (w'.heap[g]? = some (.cells C' t (0, 0))) → w.grownBy w' (some g) → wpList P ops Q rest (a.put dst (.int .i64 (k : Int))) w') : wpList P ops Q (⟨dst, .call { callee := .builtin .copy, args := #[d, s], argTypes := #[dT, sT] }, ty, pos, after, none⟩ :: rest) a w :=
  at_copy8 elem hu hsz g off dLen dCap hR hd hs C t hg k hk hfit C' hC (h _ (hide (setRow_heap w g C C' t _ hg)) (grown_setRow (grownBy_refl _ _) _))
/-- A step: of what is written so much fits. -/
theorem dig_step {xs todo tail : List UInt8} {h : S8} {r : B64} (hs : Split xs h tail) (ht : r.l.take tail.length = tail) (m : Nat) (hm : m = min todo.length (64 - tail.length)) :
    ∃ r2 : B64, r2.l = r.l.take tail.length ++ todo.take m ++ r.l.drop (tail.length + (todo.take m).length) ∧ tail.length + (todo.take m).length ≤ 64 ∧
      ((tail.length + m ≠ 64 → Split (xs ++ todo.take m) h (tail ++ todo.take m) ∧ r2.l.take (tail ++ todo.take m).length = tail ++ todo.take m) ∧ (tail.length + m = 64 → Split (xs ++ todo.take m) (compress h r2.l) [])) := by
  have hl := r.len
  have h64 : tail.length < 64 := let ⟨_, _, _, _, _, h⟩ := hs; h
  have htm : (todo.take m).length = m := by rw [List.length_take]; omega
  refine ⟨⟨r.l.take tail.length ++ todo.take m ++ r.l.drop (tail.length + (todo.take m).length), ?_⟩, rfl, by omega, fun h1 => ⟨hs.more (by omega), ?_⟩, fun h1 => ?_⟩
  · simp only [List.length_append, List.length_take, List.length_drop]; omega
  · show List.take _ (r.l.take tail.length ++ todo.take m ++ _) = _
    rw [ht, List.take_left]
  · have e : r.l.take tail.length ++ todo.take m ++ r.l.drop (tail.length + (todo.take m).length) = tail ++ todo.take m := by
      rw [ht, List.drop_eq_nil_of_le (by omega), List.append_nil]
    show Split _ (compress h (r.l.take tail.length ++ todo.take m ++ r.l.drop (tail.length + (todo.take m).length))) []
    rw [e]
    exact hs.full (by omega)
theorem arr_from2 {P : Program} {t E : TypeId} {N : Nat} (ht : P.underlying t = some (.array N E)) (hE : (P.info? E).map (·.size) = some 1) (b o k : Nat) (hk : k < N) (kd : IntKind) (i : Int) (hi : i = k) :
    ∀ W : World, (Instr.sliceAt t (.pointer (some ⟨b, o, none⟩)) (some (.int kd i)) none none).run P W = .ok (.slice (some ⟨b, o + k, none⟩) (N - k) (N - k)) W := arr_from ht hE b o k hk kd i hi
set_option maxRecDepth 100000 in
set_option maxHeartbeats 1600000 in
theorem c_dwrite (g : Nat) (xs ys : List UInt8) (A : Option Addr) (n c : Nat) (ok : Nat → Prop) (w : World) (hD : DigAt w g xs) (hR : kU8.Row ok w A n c ys) (hok : ∀ k, ok k → k ≠ g) (hP : PrimesAt w) (hg0 : g ≠ 0) (hn : xs.length + n < 2305843009213693952) :
    Calls Tryd.prog 69 #[.pointer (some ⟨g, 0, none⟩), .slice A n c] w fun e w' => e = .returned (.tuple #[]) ∧ DigAt w' g (xs ++ ys) ∧ w.grownBy w' (some g) := by
  have HD := hide hD
  have HR := hide hR
  have HP := hide hP
  have HN := hide hn
  have HOK := hide hok
  clear hD hR hP hn hok
  go_enter Tryd.func69, Tryd.ntmps69
  go_wp2_with fail
  go_loopw [1] (fun v wr => ∃ (dn todo : List UInt8) (A1 : Option Addr) (n1 c1 : Nat), v = .slice A1 n1 c1 ∧ Hid (ys = dn ++ todo) ∧ Hid (kU8.Row ok wr A1 n1 c1 todo) ∧ Hid (DigAt wr g (xs ++ dn)) ∧ Hid (w.grownBy wr (some g))) (fun v _ => (match v with | .slice _ n _ => n | _ => 0))
  case atStart => exact ⟨[], ys, A, n, c, rfl, hide rfl, HR, hide (by rw [List.append_nil]; exact HD.out), hide (grownBy_refl _ _)⟩
  case round =>
    obtain ⟨dn, todo, A1, n1, c1, rfl, HYS, HR1, HD1, HG1⟩ := hrel
    by_cases hpos : 0 < n1
    · obtain ⟨h, tail, r, hg, hsp, htl⟩ := HD1.out
      obtain ⟨q, hq⟩ : ∃ q, q = (xs ++ dn).length := ⟨_, rfl⟩
      have hq61 : q < 2305843009213693952 := by
        have h1 := HN.out; have h2 := HR.out.1; have h3 := congrArg List.length HYS.out
        rw [hq, List.length_append]
        rw [List.length_append] at h3
        omega
      rw [← hq] at hg
      obtain ⟨t, ht⟩ : ∃ t, t = tail.length := ⟨_, rfl⟩
      have htq : t = q % 64 := by rw [ht, hsp.len, hq]
      have ht64 : t < 64 := by omega
      have hn1 : todo.length = n1 := HR1.out.1
      obtain ⟨m, hm⟩ : ∃ m, m = min todo.length (64 - tail.length) := ⟨_, rfl⟩
      obtain ⟨r2, hr2, hfit, hA, hB⟩ := dig_step (todo := todo) hsp htl m hm
      have hmm : min n1 (64 - t) = m := by omega
      have hc72 := (cell_of_row wr g 72 _ _ _ hg).trans (dgC_72 _ _ _)
      have hfz := frozen_of_row wr g 72 _ _ hg
      have hgs := (Array.getElem?_eq_some_iff.1 hg).1
      have hmod : (q : Int).tmod 64 = (t : Int) := by rw [Int.tmod_eq_emod_of_nonneg (by omega)]; omega
      have hsl := arr_from (P := Tryd.prog) Tryd.underlying153 u8_info1 g 8 t ht64 .i64 (t : Int) rfl
      have HGG := hide hg
      have HQ := hide hq61
      have HSP := hide hsp
      have HTL := hide htl
      have HFIT := hide hfit
      have HR2 := hide hr2
      have HA := hide hA
      have HB := hide hB
      have HT := hide ht
      have HM := hide hm
      have HQX := hide hq
      have HN1 := hide hn1
      have HMM := hide hmm
      clear hmm hn1 hq hg hq61 hsp htl hfit hr2 hA hB hm htq ht
      have HSPL : Hid (splice (dgC h r (.int .u64 (q : Int))) (8 + t) (blC (todo.take m)) = dgC h r2 (.int .u64 (q : Int))) := hide (by
        have := HT.out
        rw [this]
        exact dgC_splice_r h r r2 _ _ _ HR2.out HFIT.out)
      have HF : Hid (8 + t + m ≤ (dgC h r (.int .u64 (q : Int))).size) := hide (by rw [dgC_size]; have := HFIT.out; have := HM.out; have := HT.out; have := HN1.out; omega)
      obtain ⟨B, hs1, hB⟩ := HR1.out.from (P := Tryd.prog) Tryd.underlying22 (E := 5) (by kernel_rfl) (k := m) (by have := HM.out; have := HN1.out; omega) .i64 (m : Int) rfl
      have HB2 := hide hB
      have hm64 : m ≤ 64 := by have := HM.out; omega
      have hw1 : IntKind.u64.wrap (m : Int) = (m : Int) := by rw [IntKind.wrap_u64]; omega
      have hw2 : IntKind.u64.wrap ((q : Int) + (m : Int)) = ((q + m : Nat) : Int) := by rw [IntKind.wrap_u64]; have := HQ.out; omega
      have HM1 : Hid (1 ≤ m ∧ m ≤ n1) := hide (by have := HM.out; have := HN1.out; have := HT.out; omega)
      have HLEN : Hid ((xs ++ (dn ++ todo.take m)).length = q + m) := hide (by
        have := HM1.out; have := HN1.out; have := HQX.out
        rw [← List.append_assoc, List.length_append, ← this, List.length_take]; omega)
      have HYS2 : Hid (ys = (dn ++ todo.take m) ++ todo.drop m) := hide (by rw [List.append_assoc, List.take_append_drop]; exact HYS.out)
      clear hB
      by_cases h64 : t + m = 64
      · have hd : ((t : Int) + (m : Int) == 64) = true := by
          have : (t : Int) + (m : Int) = 64 := by omega
          rw [this]; rfl
        go_wp2_with ((with_reducible show wpList _ _ _ (Oper.mk (some 21) _ _ _ _ _ :: _) _ _); go_loud (refine at_copy8g (P := Tryd.prog) 5 Tryd.underlying22 (by kernel_rfl) g (8 + t) (64 - t) (64 - t) HR1.out rfl rfl _ _ HGG.out m HMM.out HF.out _ HSPL.out ?_; intro w2 HG2 hgr2; have hd72 := (cell_of_row w2 g 72 _ _ _ HG2.out).trans (dgC_72 _ _ _); have hfz2 := frozen_of_row w2 g 72 _ _ HG2.out))
        obtain ⟨w6, hw6⟩ : ∃ w6, w6 = w2.setCell ⟨g, 72, none⟩ (.int .u64 ((q : Int) + (m : Int))) := ⟨_, rfl⟩
        rw [← hw6]
        have hg6 : w6.heap[g]? = some (.cells (dgC h r2 (.int .u64 ((q + m : Nat) : Int))) 158) := by
          rw [hw6, heap_setCell_at _ HG2.out, dgC_set, Int.natCast_add]
        have hgr6 : wr.grownBy w6 (some g) := by rw [hw6]; exact grown_setCell hgr2 _ _
        have HG6 := hide hg6
        have hgs6 := (Array.getElem?_eq_some_iff.1 hg6).1
        have HGR6 := hide (grownBy_trans HG1.out hgr6)
        have HB6 := hide (row_grown HB2.out hgr6 HOK.out)
        have HPR6 := hide (HP.out.grown HGR6.out hg0)
        clear hw6 hg6 hgr6 hd72 hfz2
        refine wp_region_ext mixed 12 (fun i v w' => match i with
          | 0 => v = .pointer (some ⟨g, 0, none⟩)
          | 1 => v = .pointer (some ⟨g, 0, none⟩)
          | 2 => v = .pointer (some ⟨g, 0, none⟩)
          | 3 => v = .pointer (some ⟨g, 0, none⟩)
          | 4 => v = .agg (s8C h)
          | 5 => v = .pointer (some ⟨g, 0, none⟩)
          | 6 => v = .pointer (some ⟨g, 0, none⟩)
          | 7 => v = .pointer (some ⟨g, 8, none⟩)
          | 8 => v = .agg (blC r2.l)
          | 9 => v = .agg (s8C (compress h r2.l))
          | 10 => v = .pointer (some ⟨g, 0, none⟩)
          | _ => v = .pointer (some ⟨g, 0, none⟩)
          ) (regOk_of (by kernel_rfl)) rfl ?_ ?_ ?_
        · intro i v w1 w2 h1 h2
          split at h2 <;> exact h2
        · refine ⟨fun a w7 hle hd hf hs K hK => ?_, fun a w7 hle hd hf hs K hK => ?_, fun a w7 hle hd hf hs K hK => ?_, fun a w7 hle hd hf hs K hK => ?_, fun a w7 hle hd hf hs K hK => ?_, fun a w7 hle hd hf hs K hK => ?_, fun a w7 hle hd hf hs K hK => ?_, fun a w7 hle hd hf hs K hK => ?_, fun a w7 hle hd hf hs K hK => ?_, fun a w7 hle hd hf hs K hK => ?_, fun a w7 hle hd hf hs K hK => ?_, fun a w7 hle hd hf hs K hK => ?_, trivial⟩
          all_goals clear hd
          · -- 38 := Op.move t0
            have e0 := hf 0 rfl; simp [Act.eval] at e0
            go_simp; exact hK _ _ (Ext.refl _) rfl
          · -- 39 := Op.move t0
            have e0 := hf 0 rfl; simp [Act.eval] at e0
            go_simp; exact hK _ _ (Ext.refl _) rfl
          · -- 40 := Op.nilCheck t39
            have e39 := hs 1 39 (needs_direct (by kernel_rfl)) rfl; simp [Act.eval] at e39
            go_simp; exact hK _ _ (Ext.refl _) rfl
          · -- 41 := Op.fieldAddr 158 t40 0
            have e40 := hs 2 40 (needs_direct (by kernel_rfl)) rfl; simp [Act.eval] at e40
            go_simp; exact hK _ _ (Ext.refl _) rfl
          · -- 42 := Op.load 156 t41
            have e41 := hs 3 41 (needs_direct (by kernel_rfl)) rfl; simp [Act.eval] at e41
            have hq : agg? w7 ⟨g, 0, none⟩ 8 = some (s8C h) := (agg_block (hle.block _ hgs6)).trans ((agg_of_row HG6.out 0 8 (by decide)).trans (dgC_h _ _ _))
            go_simp; exact hK _ _ (Ext.refl _) rfl
          · -- 43 := Op.move t0
            have e0 := hf 0 rfl; simp [Act.eval] at e0
            go_simp; exact hK _ _ (Ext.refl _) rfl
          · -- 44 := Op.nilCheck t43
            have e43 := hs 5 43 (needs_direct (by kernel_rfl)) rfl; simp [Act.eval] at e43
            go_simp; exact hK _ _ (Ext.refl _) rfl
          · -- 45 := Op.fieldAddr 158 t44 1
            have e44 := hs 6 44 (needs_direct (by kernel_rfl)) rfl; simp [Act.eval] at e44
            go_simp; exact hK _ _ (Ext.refl _) rfl
          · -- 46 := Op.load 153 t45
            have e45 := hs 7 45 (needs_direct (by kernel_rfl)) rfl; simp [Act.eval] at e45
            have hq : agg? w7 ⟨g, 8, none⟩ 64 = some (blC r2.l) := (agg_block (hle.block _ hgs6)).trans ((agg_of_row HG6.out 8 64 (by decide)).trans (dgC_r _ _ _))
            go_simp; exact hK _ _ (Ext.refl _) rfl
          · -- 47 := Op.call { value (Operand.func 101), args := #[t42, t46], argTypes := #[156, 153] }
            have e42 := hs 4 42 (needs_direct (by kernel_rfl)) rfl; have e46 := hs 8 46 (needs_direct (by kernel_rfl)) rfl; simp [Act.eval] at e42 e46
            go_simp
            refine (c_compress h r2.l w7 r2.len (HPR6.out.ext hle)).mono ?_
            rintro e w9 ⟨rfl, b3⟩
            exact hK _ _ b3 rfl
          · -- 48 := Op.nilCheck t38
            have e38 := hs 0 38 (needs_direct (by kernel_rfl)) rfl; simp [Act.eval] at e38
            go_simp; exact hK _ _ (Ext.refl _) rfl
          · -- 49 := Op.fieldAddr 158 t48 0
            have e48 := hs 10 48 (needs_direct (by kernel_rfl)) rfl; simp [Act.eval] at e48
            go_simp; exact hK _ _ (Ext.refl _) rfl
        intro vs w8 hle hs
        have v9 := hs 9 (by omega) rfl
        have v11 := hs 11 (by omega) rfl
        simp only at v9 v11
        clear hs
        have hg8 := (hle.block _ hgs6).trans HG6.out
        have HR8 := hide (HB6.out.below hle)
        have HGR8 := hide (grown_ext HGR6.out hle)
        have hr8 := row_of hg8
        have hfz8 := frozen_of_row w8 g 0 _ _ hg8
        have HG8 := hide hg8
        clear hg8 hle
        simp only [putN, dstAt]
        go_simp
        go_wp2_with fail
        go_roundw
        case rel =>
          refine ⟨dn ++ todo.take m, todo.drop m, B, n1 - m, c1 - m, rfl, HYS2, ?_, ?_, hide (grown_setRow HGR8.out _)⟩
          · exact hide (row_grown HR8.out (grown_setRow (grownBy_refl _ _) _) HOK.out)
          · refine hide ⟨compress h r2.l, [], r2, ?_, ?_, rfl⟩
            · rw [HLEN.out, setRow_heap w8 g _ _ _ _ HG8.out, Int.natCast_add]
            · rw [← List.append_assoc]
              exact HB.out (by have := HT.out; omega)
        case measure => have := HM1.out; simp; omega
      · have hd : ((t : Int) + (m : Int) == 64) = false := by
          have : ¬ (t : Int) + (m : Int) = 64 := by omega
          simpa using this
        go_wp2_with ((with_reducible show wpList _ _ _ (Oper.mk (some 21) _ _ _ _ _ :: _) _ _); go_loud (refine at_copy8g (P := Tryd.prog) 5 Tryd.underlying22 (by kernel_rfl) g (8 + t) (64 - t) (64 - t) HR1.out rfl rfl _ _ HGG.out m HMM.out HF.out _ HSPL.out ?_; intro w2 HG2 hgr2; have hd72 := (cell_of_row w2 g 72 _ _ _ HG2.out).trans (dgC_72 _ _ _); have hfz2 := frozen_of_row w2 g 72 _ _ HG2.out))
        go_roundw
        case rel =>
          have hgr6 : wr.grownBy (w2.setCell ⟨g, 72, none⟩ (.int .u64 ((q : Int) + (m : Int)))) (some g) := grown_setCell hgr2 _ _
          refine ⟨dn ++ todo.take m, todo.drop m, B, n1 - m, c1 - m, rfl, HYS2, hide (row_grown HB2.out hgr6 HOK.out), ?_, hide (grownBy_trans HG1.out hgr6)⟩
          obtain ⟨h1, h2⟩ := HA.out (by have := HT.out; omega)
          refine hide ⟨h, tail ++ todo.take m, r2, ?_, ?_, h2⟩
          · rw [HLEN.out, heap_setCell_at _ HG2.out, dgC_set, Int.natCast_add]
          · rw [← List.append_assoc]
            exact h1
        case measure => have := HM1.out; simp; omega
    · have hn0 : n1 = 0 := by omega
      have HT0 : Hid (todo = []) := hide (List.eq_nil_of_length_eq_zero (by rw [HR1.out.1]; exact hn0))
      have HFIN : Hid (DigAt wr g (xs ++ ys)) := hide (by rw [HYS.out, HT0.out, List.append_nil]; exact HD1.out)
      go_wp2_with fail
      exact bodyPost_end (v := .tuple #[]) (by simp [results, Tryd.results69, go_sem]) rfl ⟨rfl, HFIN.out, HG1.out⟩
end Go.Proofs.YtdkeflhgengblaaDoor
namespace Go.Proofs.YtdkeflhgengblaaDoor
open Go.RowKit

def zs (k : Nat) : List UInt8 := List.replicate k 0
theorem zs_len (k : Nat) : (zs k).length = k := List.length_replicate
section
variable {P : Program} {E : TypeId} {w w' : World} {ok : Nat → Prop}
/-- A row of zeros' cells. -/
theorem zrow {g k : Nat} {C : Array Value} {fr : Nat × Nat} (hg : w.heap[g]? = some (.cells C E fr)) (hC : C.toList = List.replicate k (Value.int .u8 0)) (hok : ok g) (hk : k ≤ maxLen) : kU8.Row ok w (some ⟨g, 0, none⟩) k k (zs k) := by
  refine ⟨zs_len k, Nat.le_refl _, hk, fun _ => ⟨g, 0, rfl, hok, (Array.getElem?_eq_some_iff.1 hg).1, fun i x hx => ⟨[bv x], ⟨rfl, trivial⟩, fun j u hu => ?_⟩⟩⟩
  have hi : i < k := by have := (List.getElem?_eq_some_iff.1 hx).1; rwa [zs_len] at this
  have hx0 : x = 0 := by
    have := List.mem_of_getElem? hx
    exact List.eq_of_mem_replicate this
  subst hx0
  have hj : j = 0 := by have := (List.getElem?_eq_some_iff.1 hu).1; simp at this; omega
  subst hj
  have hu' : u = bv 0 := by simpa using hu.symm
  subst hu'
  rw [cell_of_row w _ _ _ _ _ hg]
  rw [← Array.getElem?_toList, hC, List.getElem?_replicate, if_pos (by simp only [kU8, Kd.cell]; omega)]
  rfl
/-- make([]byte, n). -/
theorem mk8 {T : TypeId} (hT : P.underlying T = some (.slice E)) (hinfo : (P.info? E).map (fun i => (i.zero, i.size, i.bytes)) = some (some (.int .u8 0), 1, 1)) (n : Nat) (h : n ≤ 140737488355328) :
    ∃ C : Array Value, C.toList = List.replicate n (Value.int .u8 0) ∧ ∀ W : World, (Instr.makeSlice T (.int .i64 (n : Int)) (.int .i64 (n : Int))).run P W = .ok (.slice (some ⟨W.heap.size, 0, none⟩) n n) (W.alloc (.cells C E)) :=
  ⟨madeCells #[.int .u8 0] n, toList_madeCells_one _ _, fun W => run_make_row' T E (.int .u8 0) 1 hT hinfo rfl .i64 .i64 n (by omega) (by omega) W⟩

theorem zeroCells_zs (k : Nat) : Builtin.zeroCells (Value.int IntKind.u8 0).cells k = (Lib.strCells (txt (zs k))).toArray := by
  apply Array.ext'
  apply List.ext_getElem?
  intro j
  have h1 : (Value.int IntKind.u8 0).cells = #[Value.int IntKind.u8 0] := rfl
  by_cases hj : j < k
  · simp [Builtin.zeroCells, h1, Lib.strCells, zs, hj, Nat.mod_one]
  · simp [Builtin.zeroCells, h1, Lib.strCells, zs, hj]
theorem zs_size (k : Nat) : (txt (zs k)).size = k := by rw [txt_size, zs_len]
/-- append(v, make([]byte, k)...) is as good as append(v, "\x00..."...). -/
theorem append_zeros {T TN U ty : TypeId} {kn kq : IntKind} (hT : P.underlying T = some (.slice E)) (hTN : P.underlying TN = some (.int kn)) (hU : P.underlying U = some .string)
    (hinfo : (P.info? E).map (fun i => (i.zero, i.size, i.bytes)) = some (some (.int .u8 0), 1, 1)) (A : Option Addr) (n c k : Nat) (h0 : 0 < k) (hlen : n + k ≤ 140737488355328) :
    (Builtin.append_ #[T, TN] ty #[.slice A n c, .int kq (k : Int)]).run P w = (Builtin.append_ #[T, U] ty #[.slice A n c, .string (txt (zs k))]).run P w := by
  obtain ⟨i0, hi, hzz⟩ := Option.map_eq_some_iff.1 hinfo
  simp only [Prod.mk.injEq] at hzz
  obtain ⟨hz0, hz1, hz2⟩ := hzz
  have hw : IntKind.i64.wrap (k : Int) = k := by rw [IntKind.wrap_i64]; omega
  have hneg : ¬ ((k : Int) < 0) := by omega
  have hk0 : ¬ k = 0 := by omega
  have h48 : ¬ (281474976710656 < (k : Int)) := by omega
  have h63 : ¬ (9223372036854775807 < ((n : Int) + (k : Int))) := by omega
  have hf : ∀ W : World, (Builtin.firstCells 1 k (.string (txt (zs k)))).run P W = .ok (Lib.strCells (txt (zs k))).toArray W := fun W => by
    have := Lib.run_firstCells_string (P := P) (w := W) 1 (txt (zs k))
    rwa [zs_size] at this
  have hz := zeroCells_zs k
  by_cases hroom : n + k ≤ c
  · simp [Builtin.append_, run_underlying hT, run_underlying hTN, run_underlying hU, sizeOf, typeInfo, zeroValue, asInt, asIntOf, hi, hz0, hz1, hz2, hw, hneg, hk0, h48, Builtin.lenOf, zs_size, hroom, hf, hz]
  · have hfit : ¬ (281474976710656 < Builtin.nextslicecap (n + k) c) := by
      have := growslice_fits (need := n + k) (old := c) (bytes := 1) (by omega) (by omega)
      omega
    simp [Builtin.append_, run_underlying hT, run_underlying hTN, run_underlying hU, sizeOf, typeInfo, zeroValue, asInt, asIntOf, hi, hz0, hz1, hz2, hw, hneg, hk0, h48, h63, hfit, Builtin.lenOf, zs_size, hroom, hf, hz, Question.forced]

variable {base : Nat} {v : Value} {xs : List UInt8}
theorem els8 {css : List (List Value)} (he : kU8.Els ok w xs css) : css.flatten = xs.map bv := by
  have : css = xs.map fun x => [bv x] := by
    apply List.ext_getElem?
    intro i
    rw [List.getElem?_map]
    by_cases hi' : i < xs.length
    · have h1 : xs[i]? = some xs[i] := List.getElem?_eq_getElem hi'
      have h2 : css[i]? = some (css[i]'(by rw [he.1]; exact hi')) := List.getElem?_eq_getElem _
      rw [h2, h1, (he.2 i _ _ h1 h2).1]
      rfl
    · rw [List.getElem?_eq_none (by rw [he.1]; omega), List.getElem?_eq_none (by omega)]; rfl
  rw [this]
  clear this he
  induction xs <;> simp_all
theorem own8 {ok' : Nat → Prop} (h : kU8.Own ok base w E v xs) : kU8.Own ok' base w E v xs :=
  let ⟨css, he, ho⟩ := h
  ⟨css, ⟨he.1, fun i x cs hx hc => he.2 i x cs hx hc⟩, ho⟩
/-- An append of zeros leaves the row as it was, as far as it was the slice's. -/
theorem app_zeros_old {T U ty : TypeId} (hT : P.underlying T = some (.slice E)) (hU : P.underlying U = some .string) (hinfo : (P.info? E).map (fun i => (i.zero, i.size, i.bytes)) = some (some (.int .u8 0), 1, 1))
    {A : Option Addr} {n c : Nat} (k : Nat) (_h0 : 0 < k) (h : kU8.Own ok base w E (.slice A n c) xs) (hn : xs.length = n) (hlen : n + k ≤ 140737488355328) {v' : Value} (hrun : (Builtin.append_ #[T, U] ty #[.slice A n c, .string (txt (zs k))]).run P w = .ok v' w')
    (ho' : kU8.Own ok base w' E v' (xs ++ zs k)) : kU8.Row (fun _ => True) w' A n c xs := by
  obtain ⟨i0, hi, hzz⟩ := Option.map_eq_some_iff.1 hinfo
  simp only [Prod.mk.injEq] at hzz
  obtain ⟨hz0, hz1, hz2⟩ := hzz
  subst hn
  obtain ⟨A0, c0, he, hrow⟩ := h.row
  cases he
  have hs := zs_size k
  have keep : (∀ j, j < w.heap.size → w'.heap[j]? = w.heap[j]?) → kU8.Row (fun _ => True) w' A xs.length c xs := fun hk => (hrow.more (ok' := fun _ => True) fun _ _ => trivial).keep fun j _ hj => hk j hj
  obtain ⟨css, hel, ho⟩ := h
  rw [els8 hel] at ho
  rcases ho.2 with ⟨e, h0'⟩ | ⟨g, cap, cur, e, hbg, hg, hnc, hcm, hcs, htake⟩
  · have hx : xs = [] := List.eq_nil_of_length_eq_zero h0'
    subst hx
    exact .nil _ _ _ _ _ hrow.2.2.1
  · cases e
    by_cases hroom : xs.length + k ≤ c
    · have hcs' : cur.size = c := by simpa [kU8, Kd.cell] using hcs
      have hr := Lib.run_append_room_string (P := P) w T U ty E i0 hT hU hi hz1 g xs.length c cur hg (txt (zs k)) (by rw [hs]; exact hroom) (by rw [hs]; omega)
      rw [hr] at hrun
      injection hrun with hv hw
      obtain ⟨A1, c1, he1, hrow1⟩ := ho'.row
      rw [← hv] at he1
      injection he1 with e1 e2 e3
      rw [← e1, ← e3] at hrow1
      have h2 := (hrow1.more (ok' := fun _ => True) fun _ _ => trivial).take (k := xs.length) (by rw [List.length_append]; omega)
      rwa [List.take_left] at h2
    · have hc := ho.cells (g := g) rfl
      have hr := Lib.run_append_grow_string (P := P) w T U ty E i0 (.int .u8 0) hT hU hi hz0 ⟨g, 0, none⟩ xs.length c (xs.map bv) (by simp [hz1]) hc (txt (zs k)) (by rw [hs]; omega) (by rw [hs]; omega) (by rw [hz2, hs]; exact growslice_fits (by omega) (by omega))
      rw [hr] at hrun
      injection hrun with hv hw
      subst hw
      exact keep fun j hj => Below.heap_alloc w.drew _ j hj
theorem wpList_app_zeros {ops : Array Oper} {rest : List Oper} {op : Oper} {a : Act} {Q : Exit → Act → World → Prop} (hgd : op.guard = none) (sl x : Operand) (T TN U : TypeId) {kn kq : IntKind} (ho : op.op = .call { callee := .builtin .append, args := #[sl, x], argTypes := #[T, TN] })
    (hT : P.underlying T = some (.slice E)) (hTN : P.underlying TN = some (.int kn)) (hU : P.underlying U = some .string) (hinfo : (P.info? E).map (fun i => (i.zero, i.size, i.bytes)) = some (some (.int .u8 0), 1, 1))
    {A : Option Addr} {n c : Nat} (k : Nat) {z : Int} (hs : a.eval sl = .slice A n c) (hx : a.eval x = .int kq z) (hz : z = (k : Int)) (h0 : 0 < k)
    (h : kU8.Own ok base w E (.slice A n c) xs) (hbase : base ≤ w.heap.size) (hn : xs.length = n) (hlen : n + k ≤ 140737488355328)
    (hk : ∀ v' w', kU8.Own ok base w' E v' (xs ++ zs k) → kU8.Row (fun _ => True) w' A n c xs → Below base w w' → (∀ j, j < w.heap.size → some j ≠ (Value.slice A n c).ownBlock → w'.heap[j]? = w.heap[j]?) → wpList P ops Q rest (a.put op.dst v') w') : wpList P ops Q (op :: rest) a w := by
  subst hz
  obtain ⟨v', w', hrun, -, h2, h3, h4, -⟩ := App.append_str (P := P) (T := T) (U := U) (ty := op.type) hT hU hinfo (.inl h) hbase (txt (zs k)) (by rw [zs_size, hn]; omega)
  have h2' := h2 (.inl (by rw [zs_size]; exact h0))
  rw [byt_txt] at h2'
  have hold := app_zeros_old hT hU hinfo k h0 h hn hlen hrun h2'
  rw [← append_zeros (kn := kn) (kq := kq) (TN := TN) hT hTN hU hinfo A _ c k h0 hlen] at hrun
  exact Lib.wpList_append_run w hgd sl x T TN ho _ _ hs hx v' w' hrun (hk v' w' h2' hold h3 h4)
end
end Go.Proofs.YtdkeflhgengblaaDoor
namespace Go.Proofs.YtdkeflhgengblaaDoor
open Go.RowKit
attribute [local go_sem ↓] ld8 ld32 ld64 ld73
attribute [local go_sem] run_ldAgg run_storeAgg agg_alloc_at agg_alloc_past agg_drew agg_setCell row_alloc_at row_alloc_past row_drew setRow_alloc_at setRow_alloc_past setRow_drew agg_setRow_at agg_setRow_far cell_setRow_at cell_setRow_far row_setRow_far size_setRow s8C_size s8C_part s8C_one s8C_splice0 s8C_ne dgC_size dgC_72 dgC_part dgC_h dgC_r dgC_splice_h dgC_set dgC_one dgC_splice0 dgC_ne zero_dg
attribute [local go_sem] tgC_size tgC_one tgC_part tgC_splice tgC_splice_any zero_tg tgC_ne
theorem own_row {ok : Nat → Prop} {base : Nat} {w : World} {E : TypeId} {v : Value} {xs : List UInt8} (h : kU8.Own ok base w E v xs) : ∃ A c, v = .slice A xs.length c ∧ kU8.Row (base ≤ ·) w A xs.length c xs := by
  have h0 : kU8.Own (fun _ => False) base w E v xs := own8 h
  obtain ⟨A, c, rfl, hr⟩ := h0.row
  refine ⟨A, c, rfl, row8 hr fun k _ hk => ?_⟩
  rcases hk with hk | hk
  · exact hk.elim
  · exact (h0.base_le k hk.symm).1
/-- The sum of bytes as a tag. -/
def shaT (xs : List UInt8) : Tg := ⟨sha xs, rfl⟩
set_option maxRecDepth 100000 in
set_option maxHeartbeats 1600000 in
theorem c_dsum (g : Nat) (xs : List UInt8) (w : World) (hD : DigAt w g xs) (hP : PrimesAt w) (hn : xs.length < 1152921504606846976) :
    Calls Tryd.prog 70 #[.pointer (some ⟨g, 0, none⟩)] w fun e w' => e = .returned (tgV (shaT xs)) ∧ Below w.heap.size w w' := by
  have HD := hide hD
  have HP := hide hP
  have HN := hide hn
  have hgs := hD.lt
  clear hD hP hn
  go_enter Tryd.func70, Tryd.ntmps70
  go_wp2_with fail
  obtain ⟨W1, hW1⟩ : ∃ W1, W1 = w.alloc (.cells (tgC Tg.zero) 29) := ⟨_, rfl⟩
  rw [← hW1]
  have hB1 : Below w.heap.size w W1 := by rw [hW1]; exact below1 _ _
  have hs1 : W1.heap.size = w.heap.size + 1 := by rw [hW1]; simp only [World.size_alloc]
  have hz1 : W1.heap[w.heap.size]? = some (.cells (tgC Tg.zero) 29) := by rw [hW1]; exact heap_alloc_new _ _
  clear hW1
  refine (c_dclone g xs W1 (HD.out.ext hB1)).mono ?_
  rintro e w2 ⟨g', rfl, hg', hd2, b2⟩
  have HD1 := hide ((HD.out.ext hB1).ext b2)
  have HD2 := hide hd2
  have HB2 := hide (hB1.trans (b2.mono hB1.size))
  have HZ2 := hide ((b2.block w.heap.size (by omega)).trans hz1)
  have hws2 := HB2.out.size
  have hg2 : w.heap.size + 1 ≤ g' := by omega
  clear hd2 b2 hB1 hs1 hz1 hg'
  obtain ⟨h1, t1, r1, hg1, -, -⟩ := HD1.out
  have hc72 := (cell_of_row w2 g 72 _ _ _ hg1).trans (dgC_72 _ _ _)
  clear hg1
  go_wp2_with fail
  refine (c_pad xs.length w2 (by have := HN.out; omega)).mono ?_
  rintro e w3 ⟨v3, rfl, h3, b3⟩
  obtain ⟨A3, c3, rfl, hr3⟩ := own_row h3
  have HR3 := hide hr3
  have HD3 := hide (HD2.out.ext b3)
  have HB3 := hide (HB2.out.trans (b3.mono hws2))
  have HZ3 := hide ((b3.block w.heap.size (by have := HD2.out.lt; omega)).trans HZ2.out)
  have hws3 := HB3.out.size
  have hg3 := HD2.out.lt
  have hpl : (padN xs.length).length ≤ 72 := by rw [padN_len]; omega
  have HPL := hide hpl
  clear hr3 h3 b3 hc72 hpl
  go_wp2_with fail
  refine (c_dwrite g' xs (padN xs.length) A3 _ c3 _ w3 HD3.out HR3.out (fun k hk => by omega) (HP.out.below HB3.out HP.out.1) (by omega) (by have := HPL.out; have := HN.out; omega)).mono ?_
  rintro e w4 ⟨rfl, hd4, gr4⟩
  have hg33 := HD3.out.lt
  obtain ⟨h4, t4, r4, hg4, hsp4, -⟩ := hd4
  have HSUM := hide hsp4.sum
  have hag4 : agg? w4 ⟨g', 0, none⟩ 8 = some (s8C h4) := (agg_of_row hg4 0 8 (by decide)).trans (dgC_h _ _ _)
  have HB4 : Hid (Below w.heap.size w w4) := hide ⟨gr4.os.trans HB3.out.os, gr4.tape.trans HB3.out.tape, gr4.output.trans HB3.out.output, Nat.le_trans HB3.out.size gr4.size, fun k hk => (gr4.block k (Nat.lt_of_lt_of_le hk HB3.out.size) (fun e => by have := Option.some.inj e; omega)).trans (HB3.out.block k hk)⟩
  have HZ4 := hide ((gr4.block w.heap.size (by omega) (fun e => by have := Option.some.inj e; omega)).trans HZ3.out)
  have hz4s := (Array.getElem?_eq_some_iff.1 HZ4.out).1
  clear hsp4 gr4 hg4
  go_wp2_with fail
  have hll : h4.list.length = 8 := rfl
  obtain ⟨hl, hhl⟩ : ∃ hl, hl = h4.list := ⟨_, rfl⟩
  have HC : Hid (s8C h4 = wlC hl) := hide (by rw [hhl]; rfl)
  have HBY : Hid (h4.bytes = hl.flatMap put4) := hide (by rw [hhl]; rfl)
  rw [← hhl] at hll
  clear hhl
  go_loopw [4, 20] (fun v i wr => ∃ (k : Nat) (A : Option Addr) (n c : Nat), k ≤ 8 ∧ i = .int .i64 (k : Int) ∧ v = .slice A n c ∧ Hid (kU8.Row (fun _ => True) wr A n c ((hl.take k).flatMap put4)) ∧ Hid (n = 4 * k) ∧ Hid (wr.heap[w.heap.size]? = some (.cells (tgC Tg.zero) 29)) ∧ Hid (Below w.heap.size w wr)) (fun _ i _ => 8 - (intOf i).toNat)
  case atStart => exact ⟨0, none, 0, 0, Nat.zero_le _, rfl, rfl, hide (Kd.Row.nil _ _ _ _ _ (Nat.zero_le _)), hide rfl, HZ4, HB4⟩
  case round =>
    obtain ⟨k, A, n, c, hk, rfl, rfl, HR, HNK, HZ, HB⟩ := hrel
    have hwr := HB.out.size
    have hzs := (Array.getElem?_eq_some_iff.1 HZ.out).1
    by_cases hlt : k < 8
    · obtain ⟨x, hx⟩ : ∃ x, hl[k]? = some x := ⟨_, List.getElem?_eq_getElem (by omega)⟩
      have hxc : (s8C h4)[k]? = some (wv x) := by rw [HC.out]; exact wlC_at _ hx
      have hix := arr_index (P := Tryd.prog) Tryd.underlying156 u32_info1 Tryd.underlying155 (s8C h4) k hlt (wv x) hxc .i64
      have HTK : Hid ((hl.take (k + 1)).flatMap put4 = (hl.take k).flatMap put4 ++ put4 x) := hide (by
        rw [List.take_add_one, hx]; simp)
      clear hx hxc
      go_wp2_with fail
      refine (c_put A n c _ x _ wr HR.out (by have := HNK.out; omega)).mono ?_
      rintro e w5 ⟨v5, rfl, h5, b5⟩
      have hl5 : ((hl.take k).flatMap put4 ++ put4 x).length = n + 4 := by rw [List.length_append, HR.out.1]; rfl
      obtain ⟨A5, c5, rfl, hr5⟩ := own_row h5
      rw [hl5] at hr5
      rw [← HTK.out] at hr5
      have HR5 := hide (row8 (ok' := fun _ => True) hr5 fun _ _ _ => trivial)
      have HB5 := hide (HB.out.trans (b5.mono hwr))
      have HZ5 := hide ((b5.block _ hzs).trans HZ.out)
      rw [hl5]
      clear hr5 h5 b5 hl5 hix
      go_wp2_with fail
      go_roundw
      case rel => exact ⟨k + 1, A5, n + 4, c5, by omega, by simp, rfl, HR5, hide (by have := HNK.out; omega), HZ5, HB5⟩
      case measure => simp [intOf]; omega
    · obtain rfl : k = 8 := by omega
      have hn32 : n = 32 := HNK.out
      subst hn32
      have hrow := HR.out
      rw [List.take_of_length_le (show hl.length ≤ 8 by omega), ← HBY.out, HSUM.out] at hrow
      have ht := hrow.1
      obtain ⟨b, o, rfl, -, hb, hc⟩ := row_bytes hrow (by decide)
      have hag : agg? wr ⟨b, o, none⟩ 32 = some (tgC (shaT xs)) := agg_range (cs := (sha xs).map bv) (fun j v hv => by
        rw [List.getElem?_map] at hv
        obtain ⟨x, hx, rfl⟩ := Option.map_eq_some_iff.1 hv
        exact hc j x hx) 32 rfl
      obtain ⟨t, htt⟩ : ∃ t, t = shaT xs := ⟨_, rfl⟩
      rw [← htt] at hag
      have HTT := hide htt
      clear htt
      have hap : ∀ wx : World, (Instr.arrayAt 29 (.slice (some ⟨b, o, none⟩) 32 c)).run Tryd.prog wx = .ok (.pointer (some ⟨b, o, none⟩)) wx := fun wx => by simp [Instr.arrayAt, run_underlying Tryd.underlying29]
      have hrz := row_of HZ.out
      have HB9 := hide (bsetRow HB.out (Nat.le_refl _) (tgC t))
      have hag9 : agg? (wr.setRow w.heap.size (tgC t)) ⟨w.heap.size, 0, none⟩ 32 = some (tgC t) := (agg_setRow_at _ _ _ _ _ (by rw [hrz]; rfl) (by decide)).trans (tgC_part t)
      clear hrow ht hc
      go_wp2_with fail
      exact bodyPost_ret (v := tgV t) (by simp [results, Tryd.results70, go_sem, hag9]) rfl ⟨by rw [HTT.out], HB9.out⟩
/-! ### rows of rows of bytes -/
/-- A slice of slices of bytes: each reads as its bytes. -/
def kRow8 : Kd (List UInt8) where
  sz := 1
  K ok w x cs := ∃ A n c, cs = [.slice A n c] ∧ kU8.Row ok w A n c x
  len := by rintro _ _ x cs ⟨A, n, c, rfl, _⟩; rfl
  one := by
    rintro _ _ x cs ⟨A, n, c, rfl, _⟩ u hu
    rw [List.mem_singleton] at hu
    subst hu
    rfl
  keep hk h := let ⟨A, n, c, e, hr⟩ := h; ⟨A, n, c, e, hr.keep fun k h _ => hk k h⟩
  more hk h := let ⟨A, n, c, e, hr⟩ := h; ⟨A, n, c, e, hr.more hk⟩
  bound h := let ⟨A, n, c, e, hr⟩ := h; ⟨A, n, c, e, hr.bound⟩
end Go.Proofs.YtdkeflhgengblaaDoor
namespace Go.Proofs.YtdkeflhgengblaaDoor
open Go.ChangeShapes Go.WideShapes Go.ChangeAt Go.RowKit

theorem open_tag {H : Type} {enc : TypeId × Value → H} {w : World} {spare : Nat → Bool} {held : Bool} (n : Nat) (cs : List Value) (x : DataW H × List MemPlace) (h : DataW.trod enc Tryd.prog w 0 spare held n 29 cs = some x) :
    ∃ t : Tg, cs = (tgC t).toList := by
  obtain ⟨xs, m, rfl, -, hl, hx, hf⟩ := DataW.trod_array Tryd.underlying29 h
  have c32 : Tryd.prog.cellsOf 29 = 32 := by kernel_rfl
  have c1 : Tryd.prog.cellsOf 5 = 1 := by kernel_rfl
  rw [c32] at hl
  rw [c1] at hf
  have hb : ∀ i, i < 32 → ∃ b : UInt8, cs[i]? = some (bv b) := fun i hi => by
    have h1 := hf i hi
    rw [List.getElem?_eq_getElem (by omega)] at h1
    obtain ⟨k, e, -, hk⟩ := DataW.trod_int Tryd.underlying5 h1
    simp [Lit.wf, IntKind.min, IntKind.max, IntKind.signed, IntKind.bits] at hk
    obtain ⟨b, rfl⟩ : ∃ b : UInt8, (b.toNat : Int) = k := ⟨UInt8.ofNat k.toNat, by simp; omega⟩
    refine ⟨b, ?_⟩
    have := congrArg (·[0]?) e
    simpa [List.getElem?_take, List.getElem?_drop] using this
  obtain ⟨bs, hbl, hbs⟩ := list_of 32 hb
  refine ⟨⟨bs, hbl⟩, ?_⟩
  apply List.ext_getElem?
  intro i
  by_cases hi : i < 32
  · rw [hbs i _ (List.getElem?_eq_getElem (by omega))]
    simp [tgC, List.getElem?_eq_getElem (show i < bs.length by omega)]
  · rw [List.getElem?_eq_none (by omega), List.getElem?_eq_none (by simp [tgC]; omega)]
theorem u8_open {H : Type} {enc : TypeId × Value → H} {w : World} {spare : Nat → Bool} {held : Bool} (n : Nat) (cs : List Value) (x : DataW H × List MemPlace) (h : DataW.trod enc Tryd.prog w 0 spare held n 5 cs = some x) :
    ∃ y, kU8.K (· < w.heap.size) w y cs := by
  obtain ⟨k, e, -, hk⟩ := DataW.trod_int Tryd.underlying5 h
  simp [Lit.wf, IntKind.min, IntKind.max, IntKind.signed, IntKind.bits] at hk
  obtain ⟨b, rfl⟩ : ∃ b : UInt8, (b.toNat : Int) = k := ⟨UInt8.ofNat k.toNat, by simp; omega⟩
  exact ⟨b, e, trivial⟩
set_option maxRecDepth 100000 in
theorem okWide_tag {w : World} {r : Reach} {base : Nat} {v : Value} (h : Value.okWide Tryd.prog w r base 29 v) : ∃ cs, v = .agg cs := by
  simp only [Value.okWide, Tryd.underlying29] at h
  obtain ⟨cs, h1, _, _⟩ := h
  exact ⟨cs, h1⟩
end Go.Proofs.YtdkeflhgengblaaDoor
namespace Go.Proofs.YtdkeflhgengblaaDoor
open Go.ChangeShapes Go.WideShapes Go.ChangeAt Go.RowKit

theorem laidOutD : laidOutB Tryd.prog = true := by kernel_rfl
theorem ownKnobD : ownKnob Tryd.prog.godebug = none := by kernel_rfl
theorem gPrimes : Tryd.prog.globalNamed "chitty/word.primes" = some 0 := by kernel_rfl
theorem tPrimes : (Tryd.prog.globals[0]?).map (·.type) = some 174 := by kernel_rfl
abbrev laidD : List (String × DataW Unit) := [("chitty/word.primes", Rows.laid_chitty_word_primes)]
theorem door_met (os : Os) (args : Array Value) : laidMetH Tryd.prog laidD ((World.doorLaid Tryd.prog 400 os).forCall (fun _ _ => 0) ⟨#[], args, []⟩).memory :=
  laidMetH_of_parts3 (fuel := 8) (laidMet_of_run' 8 (by kernel_rfl) (by kernel_rfl)) (by kernel_rfl) (by kernel_rfl)
theorem primes_datum : (Rows.laid_chitty_word_primes : DataW Unit) = .agg (primesW.map fun p => .lit (.int .u32 (p.toNat : Int))) := by rfl
theorem primes_of {W : World} (h : laidMetH Tryd.prog laidD W) : PrimesAt W := by
  rw [MakeChecks.laidMetH_plain _ _ _ (by kernel_rfl)] at h
  obtain ⟨ps, ⟨g0, t0, cs0, f0, p0, q0, hg0, ht0, hv0, hd0, _, _⟩, _, _⟩ := h
  obtain rfl := Option.some.inj (gPrimes.symm.trans hg0)
  obtain rfl := Option.some.inj (tPrimes.symm.trans ht0)
  obtain ⟨xs, m1, rfl, hx1, hlen, hn, hel⟩ := DataW.trod_array Tryd.underlying174 hd0
  have c1 : Tryd.prog.cellsOf 155 = 1 := by kernel_rfl
  have hxe : xs.map (·.1) = primesW.map fun p => .lit (.int .u32 (p.toNat : Int)) := by
    have := congrArg Prod.fst hx1
    rw [primes_datum] at this
    exact (DataW.agg.inj this).symm
  have hcell : ∀ (i : Nat) (p : UInt32), primesW[i]? = some p → W.cell? ⟨0, i, none⟩ = some (wv p) := by
    intro i p hp
    have hi : i < 64 := by
      have := (List.getElem?_eq_some_iff.1 hp).1
      have : primesW.length = 64 := by decide
      omega
    have h1 := hel i hi
    rw [List.getElem?_eq_getElem (by omega), c1] at h1
    obtain ⟨k, e1, e2, -⟩ := DataW.trod_int Tryd.underlying155 h1
    have h3 := congrArg (·[i]?) hxe
    simp only [List.getElem?_map, hp, List.getElem?_eq_getElem (show i < xs.length by omega), Option.map_some, e2, Option.some.injEq, DataW.lit.injEq, Lit.int.injEq, true_and] at h3
    have h4 := World.var?_cell gPrimes hv0 i
    rw [h4]
    have h5 := congrArg (·[0]?) e1
    simp only [Nat.mul_one, List.getElem?_take, List.getElem?_drop, Nat.add_zero] at h5
    rw [if_pos (by decide)] at h5
    rw [← Array.getElem?_toList, h5, h3]
    rfl
  refine ⟨?_, hcell⟩
  exact World.block_lt_of_cell? W ⟨0, 0, none⟩ (hcell 0 _ rfl)
theorem bytes_open {H : Type} {enc : TypeId × Value → H} {w : World} {spare : Nat → Bool} {held : Bool} (n : Nat) (cs : List Value) (x : DataW H × List MemPlace) (h : DataW.trod enc Tryd.prog w 0 spare held n 22 cs = some x) :
    ∃ y, kRow8.K (· < w.heap.size) w y cs := by
  obtain ⟨A, n, c, xs, rfl, hr⟩ := trod_row (d := kU8) Tryd.underlying22 (by kernel_rfl) (by decide) u8_open h
  exact ⟨xs, A, n, c, rfl, hr⟩
end Go.Proofs.YtdkeflhgengblaaDoor
namespace Go.Proofs.YtdkeflhgengblaaDoor
open Go.RowKit
theorem tg_size (w : World) : (sizeOf 5).run Tryd.prog w = .ok 1 w := by
  have h : (Tryd.prog.info? 5).map (·.size) = some 1 := by kernel_rfl
  simp [sizeOf, go_sem, Tryd.t5]
set_option maxRecDepth 100000 in
theorem tg_eql (w : World) (t u : Tg) : (binOp .eql 29 (tgV t) (tgV u)).run Tryd.prog w = .ok (.bool (decide (t = u))) w := by
  have h := run_eql_bytes (P := Tryd.prog) w 29 5 32 Tryd.underlying29 Tryd.underlying5 tg_size t.l u.l t.len u.len
  have e : (t.l == u.l) = decide (t = u) := by
    rw [Bool.eq_iff_iff]
    cases t; cases u
    simp
  rw [e] at h
  exact h
theorem tg_neq (w : World) (t u : Tg) : (binOp .neq 29 (tgV t) (tgV u)).run Tryd.prog w = .ok (.bool (!decide (t = u))) w := by
  have h := tg_eql w t u
  unfold tgV at h ⊢
  rw [run_eql_struct] at h
  rw [run_neq_struct]
  cases hq : (Op.equalIn 10000 29 (.agg (tgC t)) (.agg (tgC u))).run Tryd.prog w with
  | ok b w' =>
    rw [hq] at h
    simp only [Result.andThen_ok, Result.ok.injEq, Value.bool.injEq] at h ⊢
    exact ⟨by rw [h.1], h.2⟩
  | _ => rw [hq] at h; cases h
theorem tg_in (w : World) (t u : Tg) : (Op.equalIn 10000 29 (.agg (tgC t)) (.agg (tgC u))).run Tryd.prog w = .ok (decide (t = u)) w := by
  have h := tg_eql w t u
  unfold tgV at h
  rw [run_eql_struct] at h
  cases hq : (Op.equalIn 10000 29 (.agg (tgC t)) (.agg (tgC u))).run Tryd.prog w with
  | ok b w' =>
    rw [hq] at h
    simp only [Result.andThen_ok, Result.ok.injEq, Value.bool.injEq] at h
    rw [h.1, h.2]
  | _ => rw [hq] at h; cases h
theorem opt_bool {o : Option Value} {b : Bool} (h : o.getD undef = .bool b) : o = some (.bool b) := by
  cases o with
  | none => cases h
  | some v => simpa using h
end Go.Proofs.YtdkeflhgengblaaDoor
namespace Go.Proofs.YtdkeflhgengblaaDoor
open Go.RowKit

attribute [local go_sem ↓] ld16 ld17 ld32 ld36
attribute [local go_sem] run_ldAgg run_storeAgg agg_alloc_at agg_alloc_past agg_drew agg_setCell row_alloc_at row_alloc_past row_drew setRow_alloc_at setRow_alloc_past setRow_drew tgC_size tgC_one tgC_part tgC_splice tokC_size tokC_0 tokC_1 tokC_2 tokC_3 tokC_g0 tokC_g1 tokC_g2 tokC_g3 tokC_part tokC_tag tokC_set0 tokC_set1 tokC_set2 tokC_set3 tokC_splice tokC_splice0

/-- A caveat. -/
structure Cav where
  third : Bool
  text : ByteArray
  party : Nat
  id : ByteArray
  vault : ByteArray
  deriving DecidableEq
def Cav.cells (c : Cav) : List Value := [.bool c.third, .string c.text, .int .u64 (c.party : Int), .string c.id, .string c.vault]
def Cav.ok (c : Cav) : Prop := c.text.size ≤ maxLen ∧ c.party < 18446744073709551616 ∧ c.id.size ≤ maxLen ∧ c.vault.size ≤ maxLen
def kCav : Kd Cav where
  sz := 5
  K _ _ c cs := cs = c.cells ∧ c.ok
  len h := by rw [h.1]; rfl
  one h u hu := by
    rw [h.1] at hu
    simp [Cav.cells] at hu
    rcases hu with rfl | rfl | rfl | rfl | rfl <;> rfl
  keep _ h := h
  more _ h := h
  bound h := h
/-- A token. -/
structure Tok where
  key : Nat
  id : ByteArray
  cavs : List Cav
  bnd : Bool
  tag : Tg
  deriving DecidableEq
abbrev tokV (t : Tok) (A : Option Addr) (n c : Nat) : Value := .agg (tokC (.int .u64 (t.key : Int)) (.string t.id) (.slice A n c) (.bool t.bnd) t.tag)
theorem bytes_inj (a b : ByteArray) : a.toList = b.toList ↔ a = b := by
  constructor
  · intro h
    rw [ByteArray.toList_eq, ByteArray.toList_eq] at h
    obtain ⟨⟨a⟩⟩ := a
    obtain ⟨⟨b⟩⟩ := b
    simpa using h
  · rintro rfl
    rfl
abbrev cavV (x : Cav) : Value := .agg #[.bool x.third, .string x.text, .int .u64 (x.party : Int), .string x.id, .string x.vault]
theorem cav_eql (x y : Cav) (wx : World) : (binOp .eql 83 (cavV x) (cavV y)).run Tryd.prog wx = .ok (.bool (decide (x = y))) wx := by
  have e : (decide (x = y)) = (decide (x.third = y.third) && (decide (x.text = y.text) && (decide (x.party = y.party) && (decide (x.id = y.id) && decide (x.vault = y.vault))))) := by
    rw [Bool.eq_iff_iff]
    cases x; cases y
    simp
  rw [e]
  go_simp
  simp only [bytes_inj, Int.natCast_inj]
  repeat' split
  all_goals simp_all
theorem cav_neq {x y : Cav} (h : ¬ x = y) (wx : World) : (binOp .neq 83 (cavV x) (cavV y)).run Tryd.prog wx = .ok (.bool true) wx := by
  go_simp
  simp only [bytes_inj, Int.natCast_inj]
  intro h1 h2 h3 h4 h5
  cases x; cases y
  simp_all
theorem cav_size : (Tryd.prog.info? 83).map (·.size) = some kCav.sz := by kernel_rfl
theorem tok_eq {t u : Tok} : t = u ↔ t.key = u.key ∧ t.id = u.id ∧ t.bnd = u.bnd ∧ t.tag = u.tag ∧ t.cavs = u.cavs := by
  cases t; cases u
  simp only [Tok.mk.injEq]
  constructor
  · rintro ⟨h1, h2, h3, h4, h5⟩; exact ⟨h1, h2, h4, h5, h3⟩
  · rintro ⟨h1, h2, h3, h4, h5⟩; exact ⟨h1, h2, h5, h3, h4⟩
/-- Texts as long as a machine can have them. -/
def Cav.fits (c : Cav) : Prop := c.text.size ≤ 140737488355328 ∧ c.id.size ≤ 140737488355328 ∧ c.vault.size ≤ 140737488355328
theorem heap_new2 (w : World) (o p : Obj) : ((w.alloc o).alloc p).heap[w.heap.size + 1]? = some p := by
  have := heap_alloc_new (w.alloc o) p
  rwa [World.size_alloc] at this
theorem cav_info : (Tryd.prog.info? 83).map (fun i => (i.zero, i.size, i.bytes)) = some (some (.agg #[.bool false, .string ByteArray.empty, .int .u64 0, .string ByteArray.empty, .string ByteArray.empty]), 5, 64) := by kernel_rfl
theorem src_cav {ok ok' : Nat → Prop} {w : World} {A : Option Addr} {m : Nat} {xs : List Cav} (h : kCav.Src ok w A m xs) : kCav.Src ok' w A m xs := let ⟨h1, css, he, hc⟩ := h; ⟨h1, css, ⟨he.1, fun i x cs hx hcs => he.2 i x cs hx hcs⟩, hc⟩
def Tok.zero : Tok := ⟨0, ByteArray.empty, [], false, Tg.zero⟩
abbrev tokZ : Array Value := tokC (.int .u64 0) (.string ⟨#[]⟩) (.slice none 0 0) (.bool false) Tg.zero
abbrev tokA (t : Tok) (A : Option Addr) (n c : Nat) : Array Value := tokC (.int .u64 (t.key : Int)) (.string t.id) (.slice A n c) (.bool t.bnd) t.tag
theorem cav_neq_any (x y : Cav) (wx : World) : (binOp .neq 83 (cavV x) (cavV y)).run Tryd.prog wx = .ok (.bool (!decide (x = y))) wx := by
  have h := cav_eql x y wx
  unfold cavV at h ⊢
  rw [run_eql_struct] at h
  rw [run_neq_struct]
  cases hq : (Op.equalIn 10000 83 (.agg #[.bool x.third, .string x.text, .int .u64 (x.party : Int), .string x.id, .string x.vault]) (.agg #[.bool y.third, .string y.text, .int .u64 (y.party : Int), .string y.id, .string y.vault])).run Tryd.prog wx with
  | ok b w' =>
    rw [hq] at h
    simp only [Result.andThen_ok, Result.ok.injEq, Value.bool.injEq] at h ⊢
    exact ⟨by rw [h.1], h.2⟩
  | _ => rw [hq] at h; cases h
theorem tok_row {w : World} {g : Nat} {a b c d : Value} {t : Tg} {T : TypeId} {fr : Nat × Nat} (h : w.heap[g]? = some (.cells (tokC a b c d t) T fr)) : kU8.Row (fun _ => True) w (some ⟨g, 4, none⟩) 32 32 t.l := by
  refine ⟨t.len, Nat.le_refl _, by simp [maxLen], fun _ => ⟨g, 4, rfl, trivial, (Array.getElem?_eq_some_iff.1 h).1, fun i x hx => ⟨[bv x], ⟨rfl, trivial⟩, fun j v hv => ?_⟩⟩⟩
  match j, hv with
  | 0, hv =>
    simp at hv
    subst hv
    rw [cell_of_row w _ _ _ _ _ h]
    have hi : i < 32 := by rw [← t.len]; exact (List.getElem?_eq_some_iff.1 hx).1
    show (tokC a b c d t)[4 + i * 1 + 0]? = _
    rw [Nat.mul_one, Nat.add_zero, tokC, Array.getElem?_append, if_neg (by simp)]
    simp [tgC, hx]
  | j + 1, hv => simp at hv
theorem opt_undef {o : Option Value} (h : o.getD undef = undef) : o = none ∨ o = some undef := by
  cases o with
  | none => exact .inl rfl
  | some v => exact .inr (by simpa using h)
end Go.Proofs.YtdkeflhgengblaaDoor
namespace Go.Proofs.YtdkeflhgengblaaDoor
open Go.RowKit
attribute [local go_sem ↓] ld16 ld17 ld32 ld36
attribute [local go_sem] run_ldAgg run_storeAgg agg_alloc_at agg_alloc_past agg_drew agg_setCell row_alloc_at row_alloc_past row_drew setRow_alloc_at setRow_alloc_past setRow_drew tgC_size tgC_one tgC_part tgC_splice tokC_size tokC_0 tokC_1 tokC_2 tokC_3 tokC_g0 tokC_g1 tokC_g2 tokC_g3 tokC_part tokC_tag tokC_set0 tokC_set1 tokC_set2 tokC_set3 tokC_splice tokC_splice0 tgC_splice_any zero_tg zero_tok tokC_one
/-- 32 bytes as a tag. -/
def tagOf (l : List UInt8) : Option Tg := if h : l.length = 32 then some ⟨l, h⟩ else none
def tagV : Option Tg → Value
  | none => .tuple #[tgV Tg.zero, .bool false]
  | some t => .tuple #[tgV t, .bool true]
set_option maxRecDepth 100000 in
theorem c_tagof (A : Option Addr) (n c : Nat) (xs : List UInt8) (ok : Nat → Prop) (w : World) (hR : kU8.Row ok w A n c xs) :
    Calls Tryd.prog 88 #[.slice A n c] w fun e w' => e = .returned (tagV (tagOf xs)) ∧ Below w.heap.size w w' := by
  have hl := hR.1
  by_cases h32 : n = 32
  · subst h32
    have HT : Hid (tagOf xs = some ⟨xs, hl⟩) := hide (by rw [tagOf, dif_pos hl])
    obtain ⟨b, o, rfl, -, hb, hc⟩ := row_bytes hR (by decide)
    have hag : agg? w ⟨b, o, none⟩ 32 = some (tgC ⟨xs, hl⟩) := agg_range (cs := xs.map bv) (fun j v hv => by
      rw [List.getElem?_map] at hv
      obtain ⟨x, hx, rfl⟩ := Option.map_eq_some_iff.1 hv
      exact hc j x hx) 32 (by simpa using hl)
    generalize (⟨xs, hl⟩ : Tg) = t at hag HT
    have hap : ∀ wx : World, (Instr.arrayAt 29 (.slice (some ⟨b, o, none⟩) 32 c)).run Tryd.prog wx = .ok (.pointer (some ⟨b, o, none⟩)) wx := fun wx => by simp [Instr.arrayAt, run_underlying Tryd.underlying29]
    clear hR hc hl
    go_enter Tryd.func88, Tryd.ntmps88
    go_wp2_with fail
    exact bodyPost_ret (v := .tuple #[tgV t, .bool true]) (by simp [results, Tryd.results88, go_sem]) rfl ⟨by rw [HT.out]; rfl, below1 _ _⟩
  · have HT : Hid (tagOf xs = none) := hide (by rw [tagOf, dif_neg (by rw [hl]; exact h32)])
    clear hR hl
    go_enter Tryd.func88, Tryd.ntmps88
    go_wp2_with fail
    exact bodyPost_ret (v := .tuple #[tgV Tg.zero, .bool false]) (by simp [results, Tryd.results88, go_sem]) rfl ⟨by rw [HT.out]; rfl, below1 _ _⟩

theorem nil_iff (s : ByteArray) : s.toList = [] ↔ s = ByteArray.empty := by
  have h : ByteArray.empty.toList = [] := by rw [ByteArray.toList_eq]; rfl
  rw [← h]
  exact bytes_inj _ _
theorem cav_mk {x : Cav} {a : Bool} {b d e : ByteArray} {c : Nat} : x = ⟨a, b, c, d, e⟩ ↔ x.third = a ∧ x.text = b ∧ x.party = c ∧ x.id = d ∧ x.vault = e := by
  cases x
  simp
/-- Can a caveat be? -/
def canC (c : Cav) : Bool := if c.third then decide (c.text = ByteArray.empty) && decide (c.id.size ≤ 1024) && decide (c.vault.size ≤ 1024) else decide (c.text.size ≤ 512) && decide (c = ⟨false, c.text, 0, ByteArray.empty, ByteArray.empty⟩)
/-- Can a token be? -/
def checkT (t : Tok) : Bool := decide (t.id.size ≤ 1024) && decide (t.cavs.length ≤ 64) && t.cavs.all canC
set_option maxRecDepth 100000 in
theorem c_can (x : Cav) (w : World) : Calls Tryd.prog 113 #[cavV x] w fun e w' => e = .returned (.bool (canC x)) ∧ Below w.heap.size w w' := by
  cases h3 : x.third with
  | true =>
    unfold cavV
    rw [h3]
    have H3 := hide h3
    clear h3
    go_enter Tryd.func113, Tryd.ntmps113
    go_wp2_with fail
    all_goals go_ret
    all_goals refine ⟨congrArg (fun b => Ending.returned (.bool b)) (?_ : _ = canC x), below1 _ _⟩
    all_goals simp_all [canC, H3.out, ← nil_iff]
    all_goals first | omega | (rw [Bool.eq_iff_iff]; simp; omega)
  | false => 
    unfold cavV
    rw [h3]
    have H3 := hide h3
    clear h3
    go_enter Tryd.func113, Tryd.ntmps113
    go_wp2_with fail
    all_goals go_ret
    all_goals refine ⟨congrArg (fun b => Ending.returned (.bool b)) (?_ : _ = canC x), below1 _ _⟩
    all_goals simp_all [canC, H3.out, ← nil_iff, cav_mk]
    all_goals first | omega | (rw [Bool.eq_iff_iff]; simp; omega)
def errV (b : Bool) : Value := .int .i64 (if b then 0 else 1)
set_option maxRecDepth 100000 in
theorem c_cannot (x : Cav) (w : World) : Calls Tryd.prog 112 #[cavV x] w fun e w' => e = .returned (.bool (!canC x)) ∧ Below w.heap.size w w' := by
  go_enter Tryd.func112, Tryd.ntmps112
  go_wp2_with fail
  refine (c_can x _).mono ?_
  rintro e w1 ⟨rfl, b1⟩
  have HB := hide (bnext (below1 _ _) b1)
  clear b1
  go_wp2_with fail
  go_ret
  exact ⟨rfl, HB.out⟩
/-- Where the first caveat lies that can't be. -/
def firstBad (l : List Cav) : Int := match l.findIdx? (fun c => !canC c) with | some k => (k : Int) | none => -1
set_option maxRecDepth 100000 in
set_option maxHeartbeats 400000 in
theorem c_index (A : Option Addr) (n c : Nat) (l : List Cav) (ok : Nat → Prop) (w : World) (hR : kCav.Row ok w A n c l) :
    Calls Tryd.prog 129 #[.slice A n c, .func (.func 112) #[] #[]] w fun e w' => (∃ i : Int, e = .returned (.int .i64 i) ∧ (0 ≤ i ↔ l.all canC = false)) ∧ Below w.heap.size w w' := by
  have HL := hide hR.1
  have hm : n ≤ 9223372036854775807 := Nat.le_trans hR.2.1 hR.2.2.1
  have HR := hide hR
  clear hR
  go_enter Tryd.func129, Tryd.ntmps129
  go_wp2
  go_loopw [8] (fun i wr => ∃ k : Nat, k ≤ n ∧ i = .int .i64 (k : Int) ∧ Hid ((l.take k).all canC = true) ∧ Hid (Below w.heap.size w wr)) (fun i _ => n - (intOf i).toNat)
  case atStart => exact ⟨0, Nat.zero_le _, rfl, hide rfl, hide (Below.refl _ _)⟩
  case round =>
    obtain ⟨k, hk, rfl, HA, HB⟩ := hrel
    by_cases hlt : k < n
    · obtain ⟨x, hx⟩ : ∃ x, l[k]? = some x := ⟨_, List.getElem?_eq_getElem (by have := HL.out; omega)⟩
      obtain ⟨b, q, cs, hix, -, hbl, hK, hra⟩ := (HR.out.below HB.out).index (P := Tryd.prog) Tryd.underlying42 (E := 83) cav_size hx
      have hKe := hK.1
      subst hKe
      have a0 := hra 0 _ rfl
      have a1 := hra 1 _ rfl
      have a2 := hra 2 _ rfl
      have a3 := hra 3 _ rfl
      have a4 := hra 4 _ rfl
      simp only [Nat.add_zero] at a0
      have HX := hide hx
      clear hx hK hra
      go_wp2_with fail
      refine (c_cannot x wr).mono ?_
      rintro e w1 ⟨rfl, b1⟩
      have HB1 := hide (HB.out.trans (b1.mono HB.out.size))
      clear b1
      cases hc : canC x with
      | true =>
        have HA1 : Hid ((l.take (k + 1)).all canC = true) := hide (by rw [List.take_add_one, HX.out, List.all_append, HA.out]; simp [hc])
        clear hc
        go_wp2_with fail
        go_roundw
        case rel => exact ⟨k + 1, by omega, by simp, HA1, HB1⟩
        case measure => simp [intOf]; omega
      | false =>
        have HA1 : Hid (l.all canC = false) := hide (by
          rw [List.all_eq_false]
          exact ⟨x, List.mem_of_getElem? HX.out, by simp [hc]⟩)
        clear hc
        go_wp2_with fail
        go_ret
        exact ⟨⟨(k : Int), rfl, fun _ => HA1.out, fun _ => by omega⟩, HB1.out⟩
    · obtain rfl : k = n := by omega
      have HA1 : Hid (l.all canC = true) := hide (by
        have := HA.out
        rwa [List.take_of_length_le (Nat.le_of_eq HL.out)] at this)
      go_wp2_with fail
      go_ret
      exact ⟨⟨-1, rfl, fun h => by omega, fun h => by rw [HA1.out] at h; cases h⟩, HB.out⟩
set_option maxRecDepth 100000 in
theorem c_contains (A : Option Addr) (n c : Nat) (l : List Cav) (ok : Nat → Prop) (w : World) (hR : kCav.Row ok w A n c l) :
    Calls Tryd.prog 111 #[.slice A n c, .func (.func 112) #[] #[]] w fun e w' => e = .returned (.bool (!l.all canC)) ∧ Below w.heap.size w w' := by
  have HR := hide hR
  clear hR
  go_enter Tryd.func111, Tryd.ntmps111
  go_wp2_with fail
  refine (c_index A n c l ok w HR.out).mono ?_
  rintro e w1 ⟨⟨i, rfl, hi⟩, b1⟩
  have HI := hide hi
  have HB := hide b1
  clear hi b1
  cases hc : l.all canC with
  | true =>
    have h0 : ¬ 0 ≤ i := fun h => by have := HI.out.1 h; rw [hc] at this; cases this
    have h0' := hide (decide_eq_false h0)
    go_wp2_with fail
    go_ret
    exact ⟨by rw [hc]; exact congrArg (fun b => Ending.returned (.bool b)) h0'.out, HB.out⟩
  | false =>
    have h0 : 0 ≤ i := HI.out.2 hc
    go_wp2_with fail
    go_ret
    exact ⟨by rw [hc]; rfl, HB.out⟩
set_option maxRecDepth 100000 in
theorem c_check (t : Tok) (A : Option Addr) (n c : Nat) (ok : Nat → Prop) (w : World) (hR : kCav.Row ok w A n c t.cavs) :
    Calls Tryd.prog 91 #[tokV t A n c] w fun e w' => e = .returned (errV (checkT t)) ∧ Below w.heap.size w w' := by
  have HL := hide hR.1
  have hm : n ≤ 9223372036854775807 := Nat.le_trans hR.2.1 hR.2.2.1
  have HR := hide hR
  clear hR
  by_cases h1 : 1024 < t.id.size
  · have HC : Hid (checkT t = false) := hide (by simp [checkT]; omega)
    go_enter Tryd.func91, Tryd.ntmps91
    go_wp2_with fail
    go_ret
    exact ⟨by rw [HC.out]; rfl, below1 _ _⟩
  · by_cases h2 : 64 < n
    · have HC : Hid (checkT t = false) := hide (by have := HL.out; simp [checkT]; omega)
      go_enter Tryd.func91, Tryd.ntmps91
      go_wp2_with fail
      go_ret
      exact ⟨by rw [HC.out]; rfl, below1 _ _⟩
    · have HC : Hid (checkT t = t.cavs.all canC) := hide (by have := HL.out; simp [checkT]; omega)
      go_enter Tryd.func91, Tryd.ntmps91
      go_wp2_with fail
      refine (c_contains A n c t.cavs ok _ (HR.out.below (below1 _ _))).mono ?_
      rintro e w1 ⟨rfl, b1⟩
      have HB := hide (bnext (below1 _ _) b1)
      clear b1
      cases hc : t.cavs.all canC with
      | true =>
        have HC := hide (HC.out.trans hc)
        clear hc
        go_wp2_with fail
        go_ret
        exact ⟨by rw [HC.out]; rfl, HB.out⟩
      | false =>
        have HC := hide (HC.out.trans hc)
        clear hc
        go_wp2_with fail
        go_ret
        exact ⟨by rw [HC.out]; rfl, HB.out⟩
end Go.Proofs.YtdkeflhgengblaaDoor
namespace Go.Proofs.YtdkeflhgengblaaDoor
open Go.RowKit
theorem ld37 (a : Addr) : loadCellsFrom a 0 37 #[] = ldAgg a 37 := rfl
/-- A bundle. -/
structure Bun where
  root : Tok
  dis : List Tok
  deriving DecidableEq
def Bun.zero : Bun := ⟨Tok.zero, []⟩
def kTok : Kd Tok where
  sz := 36
  K ok w t cs := ∃ A n c, cs = (tokA t A n c).toList ∧ kCav.Row ok w A n c t.cavs ∧ t.key < 18446744073709551616
  len := by rintro ok w x cs ⟨A, n, c, rfl, -⟩; rw [Array.length_toList, tokC_size]
  one := by
    rintro ok w x cs ⟨A, n, c, rfl, -⟩ u hu
    exact (Array.all_eq_true_iff_forall_mem.1 (tokC_all x.tag .u64 x.key x.id A n c x.bnd)) u (by simpa using hu)
  keep := by rintro ok w w' x cs hk ⟨A, n, c, e, hr, h1⟩; exact ⟨A, n, c, e, hr.keep fun k h _ => hk k h, h1⟩
  more := by rintro ok ok' w x cs hk ⟨A, n, c, e, hr, h1⟩; exact ⟨A, n, c, e, hr.more hk, h1⟩
  bound := by rintro ok w x cs ⟨A, n, c, e, hr, h1⟩; exact ⟨A, n, c, e, hr.bound, h1⟩
/-- A bundle's cells. -/
def bunC (a b c d : Value) (t : Tg) (s : Value) : Array Value := (tokC a b c d t).push s
section
variable (a b c d s v : Value) (t u : Tg)
theorem bunC_size : (bunC a b c d t s).size = 37 := by simp [bunC, tokC_size]
theorem bunC_lt {i : Nat} (h : i < 36) : (bunC a b c d t s)[i]? = (tokC a b c d t)[i]? := by
  rw [bunC, Array.getElem?_push, if_neg (by rw [tokC_size]; omega)]
theorem bunC_0 : (bunC a b c d t s)[0]? = some a := (bunC_lt _ _ _ _ _ _ (by decide)).trans (tokC_0 _ _ _ _ _)
theorem bunC_1 : (bunC a b c d t s)[1]? = some b := (bunC_lt _ _ _ _ _ _ (by decide)).trans (tokC_1 _ _ _ _ _)
theorem bunC_2 : (bunC a b c d t s)[2]? = some c := (bunC_lt _ _ _ _ _ _ (by decide)).trans (tokC_2 _ _ _ _ _)
theorem bunC_3 : (bunC a b c d t s)[3]? = some d := (bunC_lt _ _ _ _ _ _ (by decide)).trans (tokC_3 _ _ _ _ _)
theorem bunC_36 : (bunC a b c d t s)[36]? = some s := by rw [bunC, Array.getElem?_push, if_pos (tokC_size _ _ _ _ _).symm]
theorem bunC_g3 (h : 3 < (bunC a b c d t s).size) : (bunC a b c d t s)[3]'h = d := by
  have := bunC_3 a b c d s t
  rw [Array.getElem?_eq_getElem h] at this
  exact Option.some.inj this
theorem bunC_g36 (h : 36 < (bunC a b c d t s).size) : (bunC a b c d t s)[36]'h = s := by
  have := bunC_36 a b c d s t
  rw [Array.getElem?_eq_getElem h] at this
  exact Option.some.inj this
theorem bunC_part : part? (bunC a b c d t s) 0 37 = some (bunC a b c d t s) := part_self _ _ (bunC_size _ _ _ _ _ _)
theorem bunC_root : part? (bunC a b c d t s) 0 36 = some (tokC a b c d t) := by
  unfold part?
  rw [bunC_size, if_pos (by decide)]
  congr 1
  have h := tokC_size a b c d t
  apply Array.ext
  · simp [h, bunC_size]
  · intro i h1 h2
    rw [h] at h2
    simp [bunC, h]
theorem bunC_list : (bunC a b c d t s).toList = (tokC a b c d t).toList ++ [s] := by rw [bunC, Array.toList_push]
theorem bunC_set36 : (bunC a b c d t s).setIfInBounds 36 v = bunC a b c d t v := by
  have h := tokC_size a b c d t
  apply Array.ext
  · simp [bunC]
  · intro i h1 h2
    rw [Array.getElem_setIfInBounds]
    · simp only [bunC, Array.getElem_push, h]
      by_cases h36 : 36 = i
      · subst h36; simp
      · have : i < 36 := by rw [bunC_size] at h2; omega
        simp [h36, this]
    · simpa using h1
theorem bunC_splice (a' b' c' d' : Value) : splice (bunC a b c d t s) 0 (tokC a' b' c' d' u) = bunC a' b' c' d' u s := by
  have h : (tokC a b c d t).toList.length = 36 := by rw [Array.length_toList, tokC_size]
  apply Array.toList_inj.1
  rw [bunC_list, splice, bunC_list, tokC_size]
  simp [h]
theorem bunC_splice0 (C : Array Value) (h : C.size = 37) : splice C 0 (bunC a b c d t s) = bunC a b c d t s := by
  have h' : List.drop 37 C.toList = [] := List.drop_eq_nil_of_le (by simp [h])
  simp [splice, bunC_size, h']
theorem zero_bun : (#[a, b, c, d, .int .u8 0, .int .u8 0, .int .u8 0, .int .u8 0, .int .u8 0, .int .u8 0, .int .u8 0, .int .u8 0, .int .u8 0, .int .u8 0, .int .u8 0, .int .u8 0, .int .u8 0, .int .u8 0, .int .u8 0, .int .u8 0, .int .u8 0, .int .u8 0, .int .u8 0, .int .u8 0, .int .u8 0, .int .u8 0, .int .u8 0, .int .u8 0, .int .u8 0, .int .u8 0, .int .u8 0, .int .u8 0, .int .u8 0, .int .u8 0, .int .u8 0, .int .u8 0, s] : Array Value) = bunC a b c d Tg.zero s := by
  rw [bunC, ← zero_tok]
  rfl
theorem bunC_all (k : IntKind) (n : Int) (x : ByteArray) (A B : Option Addr) (l m i j : Nat) (q : Bool) : oneAll (bunC (.int k n) (.string x) (.slice A l m) (.bool q) t (.slice B i j)) = true := by
  have h := tokC_all t k n x A l m q
  rw [oneAll, Array.all_eq_true_iff_forall_mem] at h ⊢
  intro v hv
  rw [bunC, Array.mem_push] at hv
  rcases hv with hv | rfl
  · exact h v hv
  · rfl
theorem bunC_ne : (bunC a b c d t s = #[]) = False := eq_false fun h => by
  have := congrArg Array.size h
  rw [bunC_size] at this
  cases this
end
abbrev bunA (b : Bun) (A : Option Addr) (n c : Nat) (B : Option Addr) (m d : Nat) : Array Value := bunC (.int .u64 (b.root.key : Int)) (.string b.root.id) (.slice A n c) (.bool b.root.bnd) b.root.tag (.slice B m d)
abbrev bunV (b : Bun) (A : Option Addr) (n c : Nat) (B : Option Addr) (m d : Nat) : Value := .agg (bunA b A n c B m d)
theorem tok_size : (Tryd.prog.info? 44).map (·.size) = some kTok.sz := by kernel_rfl
/-- A token in a row. -/
theorem tok_at {ok : Nat → Prop} {w : World} {A : Option Addr} {n c : Nat} {xs : List Tok} (h : kTok.Row ok w A n c xs) {i : Nat} {x : Tok} (hx : xs[i]? = some x) :
    ∃ b o A1 n1 c1, (∀ wx : World, (Instr.indexAt 59 (.slice A n c) (.int .i64 (i : Int))).run Tryd.prog wx = .ok (.pointer (some ⟨b, o, none⟩)) wx) ∧ b < w.heap.size ∧ agg? w ⟨b, o, none⟩ 36 = some (tokA x A1 n1 c1) ∧
      kCav.Row ok w A1 n1 c1 x.cavs ∧ x.key < 18446744073709551616 := by
  obtain ⟨b, o, cs, hix, -, hbl, ⟨A1, n1, c1, rfl, hr, hk⟩, hra⟩ := h.index (P := Tryd.prog) Tryd.underlying59 (E := 44) tok_size hx
  refine ⟨b, o, A1, n1, c1, hix, hbl, ?_, hr, hk⟩
  have := agg_range hra 36 (by rw [Array.length_toList, tokC_size])
  simpa using this

def checkD (d : Tok) : Bool := decide (d.key = 0) && checkT d
def checkB (b : Bun) : Bool := !b.root.bnd && decide (b.dis.length ≤ 16) && checkT b.root && b.dis.all checkD
abbrev bunZ : Array Value := bunC (.int .u64 0) (.string ⟨#[]⟩) (.slice none 0 0) (.bool false) Tg.zero (.slice none 0 0)
theorem tok_info : (Tryd.prog.info? 44).map (fun i => (i.zero, i.size, i.bytes)) = some (some (.agg #[.int .u64 0, .string ByteArray.empty, .slice none 0 0, .bool false, .int .u8 0, .int .u8 0, .int .u8 0, .int .u8 0, .int .u8 0, .int .u8 0, .int .u8 0, .int .u8 0, .int .u8 0, .int .u8 0, .int .u8 0, .int .u8 0, .int .u8 0, .int .u8 0, .int .u8 0, .int .u8 0, .int .u8 0, .int .u8 0, .int .u8 0, .int .u8 0, .int .u8 0, .int .u8 0, .int .u8 0, .int .u8 0, .int .u8 0, .int .u8 0, .int .u8 0, .int .u8 0, .int .u8 0, .int .u8 0, .int .u8 0, .int .u8 0]), 36, 88) := by kernel_rfl
theorem fill_tok {v cells : Array Value} (hv : v.size = 36) (hc : cells.size = 36) : Instr.fill (fun i => some (i * 36, 36)) cells [(0, .agg v)] = some v := by
  obtain ⟨r, h1, h2, h3⟩ := Great.fill_dense (s := 36) (by decide) [.agg v] 0 cells (by simp [Value.cells, hv]) (by simp [hc])
  have e : r = v := by
    apply Array.ext
    · rw [h2, hc, hv]
    · intro i hi1 hi2
      have hi : i < 36 := by rw [← hv]; exact hi2
      have := h3 i
      rw [if_pos (by simp; omega)] at this
      have e1 : i / 36 = 0 := by omega
      have e2 : i % 36 = i := by omega
      rw [e1, e2] at this
      simpa [Value.cells, hi1, hi2] using this
  subst e
  exact h1
/-- A slice literal of one token, where the walk stands at it. -/
theorem at_buildTok {ops : Array Oper} {rest : List Oper} {dst : Option Tmp} {ty : TypeId} {pos : String} {after : Array Edge} {a0 : Act} {w : World} {Q : Exit → Act → World → Prop} (x : Operand) (a b c d : Value) (t : Tg) (hx : a0.eval x = .agg (tokC a b c d t)) (H : Nat) (hH : w.heap.size = H)
    (k : wpList Tryd.prog ops Q rest (a0.put dst (.slice (some ⟨H, 0, none⟩) 1 1)) (w.alloc (.cells (tokC a b c d t) 44))) :
    wpList Tryd.prog ops Q (⟨dst, .buildSlice 59 1 #[(0, x)], ty, pos, after, none⟩ :: rest) a0 w := by
  subst hH
  obtain ⟨i0, hi, hzz⟩ := Option.map_eq_some_iff.1 tok_info
  simp only [Prod.mk.injEq] at hzz
  obtain ⟨hz0, hz1, -⟩ := hzz
  refine wpList_buildSlice rfl 59 44 1 #[(0, x)] rfl (tokC a b c d t) i0 _ Tryd.underlying59 hi hz0 (by rw [hz1]; decide) (by rw [hz1]; decide) ?_ k
  rw [hz1]
  have e : (Array.map (fun x => (x.fst, a0.eval x.snd)) #[(0, x)]).toList = [(0, .agg (tokC a b c d t))] := by simp [hx]
  exact (congrArg _ e).trans (fill_tok (tokC_size _ _ _ _ _) (by simp))
/-- A bundle in block g. -/
def BunIn (w : World) (g : Nat) (x : Bun) (A : Option Addr) (n c : Nat) (B : Option Addr) (m d : Nat) : Prop := w.heap[g]? = some (.cells (bunA x A n c B m d) 61)
section
variable {w w' : World} {g : Nat} {x : Bun} {A B : Option Addr} {n c m d : Nat}
theorem BunIn.agg (h : BunIn w g x A n c B m d) : agg? w ⟨g, 0, none⟩ 37 = some (bunA x A n c B m d) := by
  rw [agg_of_row h 0 37 (by decide)]
  exact bunC_part _ _ _ _ _ _
theorem BunIn.root (h : BunIn w g x A n c B m d) : agg? w ⟨g, 0, none⟩ 36 = some (tokA x.root A n c) := by
  rw [agg_of_row h 0 36 (by decide)]
  exact bunC_root _ _ _ _ _ _
theorem BunIn.dis (h : BunIn w g x A n c B m d) : w.cell? ⟨g, 36, none⟩ = some (.slice B m d) := (cell_of_row w _ _ _ _ _ h).trans (bunC_36 _ _ _ _ _ _)
theorem BunIn.lt (h : BunIn w g x A n c B m d) : g < w.heap.size := (Array.getElem?_eq_some_iff.1 h).1
theorem BunIn.below (h : BunIn w g x A n c B m d) (hb : Below w.heap.size w w') : BunIn w' g x A n c B m d := (hb.block g (Array.getElem?_eq_some_iff.1 h).1).trans h
end
end Go.Proofs.YtdkeflhgengblaaDoor
namespace Go.Proofs.YtdkeflhgengblaaDoor
open Go.RowKit
attribute [local go_sem ↓] ld16 ld17 ld32 ld36 ld37
attribute [local go_sem] run_ldAgg run_storeAgg agg_alloc_at agg_alloc_past agg_drew agg_setCell row_alloc_at row_alloc_past row_drew setRow_alloc_at setRow_alloc_past setRow_drew agg_setRow_at agg_setRow_far cell_setRow_at cell_setRow_far row_setRow_far size_setRow tgC_size tgC_one tgC_part tgC_splice tokC_size tokC_0 tokC_1 tokC_2 tokC_3 tokC_g0 tokC_g1 tokC_g2 tokC_g3 tokC_part tokC_tag tokC_set0 tokC_set1 tokC_set2 tokC_set3 tokC_splice tokC_splice0 tgC_splice_any zero_tg zero_tok tokC_all tokC_ne tgC_ne
attribute [local go_sem] bunC_size bunC_0 bunC_1 bunC_2 bunC_3 bunC_36 bunC_g3 bunC_g36 bunC_part bunC_root bunC_set36 bunC_splice bunC_splice0 zero_bun bunC_all bunC_ne

theorem c_check0 (t : Tok) (h0 : t.key = 0) (A : Option Addr) (n c : Nat) (ok : Nat → Prop) (w : World) (hR : kCav.Row ok w A n c t.cavs) :
    Calls Tryd.prog 91 #[.agg (tokC (.int .u64 0) (.string t.id) (.slice A n c) (.bool t.bnd) t.tag)] w fun e w' => e = .returned (errV (checkT t)) ∧ Below w.heap.size w w' := by
  have h := c_check t A n c ok w hR
  unfold tokV at h
  rw [h0] at h
  exact h
set_option maxRecDepth 100000 in
set_option maxHeartbeats 400000 in
theorem c_bcheck (x : Bun) (A B : Option Addr) (n c m d : Nat) (ok ok' : Nat → Prop) (w : World) (hR : kCav.Row ok w A n c x.root.cavs) (hS : kTok.Row ok' w B m d x.dis) :
    Calls Tryd.prog 83 #[bunV x A n c B m d] w fun e w' => e = .returned (errV (checkB x)) ∧ Below w.heap.size w w' := by
  have HL := hide hS.1
  have hm : m ≤ 9223372036854775807 := Nat.le_trans hS.2.1 hS.2.2.1
  have HR := hide hR
  have HS := hide hS
  clear hR hS
  unfold bunV bunA
  cases hb : x.root.bnd with
  | true =>
    have HC : Hid (checkB x = false) := hide (by simp [checkB, hb])
    clear hb
    go_enter Tryd.func83, Tryd.ntmps83
    go_wp2_with fail
    go_ret
    exact ⟨by rw [HC.out]; rfl, below1 _ _⟩
  | false =>
    by_cases h2 : 16 < m
    · have HC : Hid (checkB x = false) := hide (by
        have := HL.out
        have h : decide (x.dis.length ≤ 16) = false := decide_eq_false (by omega)
        simp [checkB, h])
      clear hb
      go_enter Tryd.func83, Tryd.ntmps83
      go_wp2_with fail
      go_ret
      exact ⟨by rw [HC.out]; rfl, below1 _ _⟩
    · have HC : Hid (checkB x = (checkT x.root && x.dis.all checkD)) := hide (by
        have := HL.out
        have h : decide (x.dis.length ≤ 16) = true := decide_eq_true (by omega)
        simp only [checkB, hb, h, Bool.not_false, Bool.true_and])
      have hbv : tokC (.int .u64 (x.root.key : Int)) (.string x.root.id) (.slice A n c) (.bool false) x.root.tag = tokA x.root A n c := by rw [tokA, hb]
      have HBV := hide hbv
      clear hb hbv
      go_enter Tryd.func83, Tryd.ntmps83
      go_wp2_with fail
      rw [HBV.out]
      refine (c_check x.root A n c ok _ (HR.out.below (below1 _ _))).mono ?_
      rintro e w1 ⟨rfl, b1⟩
      have HB := hide (bnext (below1 _ _) b1)
      have hg1 : w1.heap[w.heap.size]? = some (.cells (bunC (.int .u64 (x.root.key : Int)) (.string x.root.id) (.slice A n c) (.bool false) x.root.tag (.slice B m d)) 61) := (b1.block _ (by simp)).trans (heap_alloc_new _ _)
      have hy : w1.cell? ⟨w.heap.size, 36, none⟩ = some (.slice B m d) := (cell_of_row w1 _ _ _ _ _ hg1).trans (bunC_36 _ _ _ _ _ _)
      clear b1 hg1
      cases hck : checkT x.root with
      | false =>
        have HC := hide (HC.out.trans (by rw [hck, Bool.false_and]))
        clear hck
        simp only [errV]
        go_wp2_with fail
        go_ret
        exact ⟨by rw [HC.out]; rfl, HB.out⟩
      | true =>
        have HC := hide (HC.out.trans (by rw [hck, Bool.true_and]))
        clear hck
        simp only [errV]
        go_wp2_with fail
        go_loopw [23] (fun i wr => ∃ k : Nat, k ≤ m ∧ i = .int .i64 (k : Int) ∧ Hid ((x.dis.take k).all checkD = true) ∧ Hid (Below w.heap.size w wr)) (fun i _ => m - (intOf i).toNat)
        case atStart => exact ⟨0, Nat.zero_le _, rfl, hide rfl, HB⟩
        case round =>
          obtain ⟨k, hk, rfl, HA, HB⟩ := hrel
          by_cases hlt : k < m
          · obtain ⟨y, hx⟩ : ∃ y, x.dis[k]? = some y := ⟨_, List.getElem?_eq_getElem (by have := HL.out; omega)⟩
            obtain ⟨b, q, A1, n1, c1, hix, hbl, hag, hr1, hk1⟩ := tok_at (HS.out.below HB.out) hx
            have HX := hide hx
            have HR1 := hide hr1
            have hsb := HB.out.size
            clear hx hr1
            by_cases h0 : y.key = 0
            · have h0' : (y.key : Int) = 0 := by omega
              go_wp2_with fail
              refine (c_check0 y h0 A1 n1 c1 _ _ (HR1.out.below (below1 _ _))).mono ?_
              rintro e w2 ⟨rfl, b2⟩
              have HB2 := hide (HB.out.trans ((bnext (below1 _ _) b2).mono hsb))
              clear b2
              cases hc : checkT y with
              | true =>
                have HA1 : Hid ((x.dis.take (k + 1)).all checkD = true) := hide (by rw [List.take_add_one, HX.out, List.all_append, HA.out]; simp [hc, checkD, h0])
                clear hc
                simp only [errV]
                go_wp2_with fail
                go_roundw
                case rel => exact ⟨k + 1, by omega, by simp, HA1, HB2⟩
                case measure => simp [intOf]; omega
              | false =>
                have HA1 : Hid (x.dis.all checkD = false) := hide (by
                  rw [List.all_eq_false]
                  exact ⟨y, List.mem_of_getElem? HX.out, by simp [hc, checkD]⟩)
                clear hc
                simp only [errV]
                go_wp2_with fail
                go_ret
                exact ⟨by rw [HC.out, HA1.out]; rfl, HB2.out⟩
            · have h0' : ¬ (y.key : Int) = 0 := by omega
              have HA1 : Hid (x.dis.all checkD = false) := hide (by
                rw [List.all_eq_false]
                exact ⟨y, List.mem_of_getElem? HX.out, by simp [checkD, h0]⟩)
              go_wp2_with fail
              go_ret
              exact ⟨by rw [HC.out, HA1.out]; rfl, HB.out.alloc hsb _⟩
          · obtain rfl : k = m := by omega
            have HA1 : Hid (x.dis.all checkD = true) := hide (by
              have := HA.out
              rwa [List.take_of_length_le (Nat.le_of_eq HL.out)] at this)
            go_wp2_with fail
            go_ret
            exact ⟨by rw [HC.out, HA1.out]; rfl, HB.out⟩
end Go.Proofs.YtdkeflhgengblaaDoor
namespace Go.Proofs.YtdkeflhgengblaaDoor
open Go.RowKit

set_option maxRecDepth 100000 in
theorem c_pnumber (x : Nat) (i : Int) (w : World) (hi : i = (x : Int)) (hx : x < 18446744073709551616) :
    Calls Tryd.prog 93 #[.int .u64 i] w fun e w' => e = .returned (.string (txt (vput x))) ∧ Below w.heap.size w w' := by
  subst hi
  have HX := hide hx
  clear hx
  go_enter Tryd.func93, Tryd.ntmps93
  go_wp2_with fail
  refine (c_vput none 0 0 [] x _ (fun _ => True) w rfl (.nil _ _ _ _ _ (Nat.zero_le _)) (by decide) HX.out).mono ?_
  rintro e w1 ⟨v, rfl, ho, hb⟩
  rw [List.nil_append] at ho
  obtain ⟨A, c, rfl, hr⟩ := ho.row
  have hs := row_string (P := Tryd.prog) Tryd.underlying22 Tryd.underlying5 Tryd.underlying9 hr
  have HB := hide hb
  clear ho hr hb
  go_wp2_with fail
  go_ret
  exact ⟨rfl, HB.out⟩

def fjoin (l : List Fld) : List UInt8 := l.flatMap fput
theorem fjoin_app (l r : List Fld) : fjoin (l ++ r) = fjoin l ++ fjoin r := by simp [fjoin]
theorem fjoin_take (l : List Fld) (k : Nat) : (fjoin (l.take k)).length ≤ (fjoin l).length := by
  conv => rhs; rw [← List.take_append_drop k l, fjoin_app]
  simp
theorem fld_size : (Tryd.prog.info? 144).map (·.size) = some kFld.sz := by kernel_rfl

set_option maxRecDepth 100000 in
set_option maxHeartbeats 400000 in
theorem c_fjoin (A : Option Addr) (n c : Nat) (l : List Fld) (ok : Nat → Prop) (w : World) (hR : kFld.Row ok w A n c l) (hn : (fjoin l).length ≤ 1099511627776) (hv : ∀ f ∈ l, f.value.size ≤ 1099511627776) :
    Calls Tryd.prog 92 #[.slice A n c] w fun e w' => ∃ v, e = .returned v ∧ kU8.Own (fun _ => True) w.heap.size w' 5 v (fjoin l) ∧ Below w.heap.size w w' := by
  have HL := hide hR.1
  have hcap : n ≤ maxLen := Nat.le_trans hR.2.1 hR.2.2.1
  simp only [maxLen] at hcap
  have HR := hide hR
  have HN := hide hn
  have HV := hide hv
  clear hR hn hv
  go_enter Tryd.func92, Tryd.ntmps92
  go_wp2
  go_loopw [8, 3] (fun i p wr => ∃ k : Nat, k ≤ n ∧ i = .int .i64 (k : Int) ∧ Hid (kU8.Own (fun _ => True) w.heap.size wr 5 p (fjoin (l.take k))) ∧ Hid (Below w.heap.size w wr)) (fun i _ _ => n - (intOf i).toNat)
  case atStart => exact ⟨0, Nat.zero_le _, rfl, hide (.nil _ _ _ _ _), hide (Below.refl _ _)⟩
  case round =>
    obtain ⟨k, hk, rfl, HO, HB⟩ := hrel
    by_cases hlt : k < n
    · obtain ⟨f, hf⟩ : ∃ f, l[k]? = some f := ⟨_, List.getElem?_eq_getElem (by have := HL.out; omega)⟩
      obtain ⟨b, q, cs, hix, -, hbl, hK, hra⟩ := (HR.out.below HB.out).index (P := Tryd.prog) Tryd.underlying169 (E := 144) fld_size hf
      have hKe := hK.1
      subst hKe
      have hc0 := hra 0 _ rfl
      have hc1 := hra 1 _ rfl
      simp only [Nat.add_zero] at hc0
      have HT : Hid (l.take (k + 1) = l.take k ++ [f]) := hide (by rw [List.take_add_one, hf]; rfl)
      have HFV := hide (HV.out f (List.mem_of_getElem? hf))
      have HF := hide hf
      obtain ⟨A1, c1, rfl, hr1⟩ := HO.out.row
      have HR1 := hide (hr1.alloc (.cells #[bv f.kind, .string f.value] 144))
      clear hf hK hra hr1
      go_wp2_with fail
      refine (c_fput A1 _ c1 _ f.kind f.value _ _ HR1.out (Nat.le_trans (fjoin_take l k) HN.out) HFV.out).mono ?_
      rintro e w1 ⟨v1, rfl, h1, b1⟩
      have H1 := hide (h1.lower (base' := w.heap.size) (by simp; have := HB.out.size; omega))
      have HB1 := hide (HB.out.trans (((below1 wr (.cells #[bv f.kind, .string f.value] 144)).mono HB.out.size).trans (b1.mono (by simp; have := HB.out.size; omega))))
      clear h1 b1
      go_wp2_with fail
      go_roundw
      case rel =>
        refine ⟨k + 1, by omega, by simp, hide ?_, HB1⟩
        rw [HT.out, fjoin_app]
        have := H1.out
        simpa [fjoin] using this
      case measure => simp [intOf]; omega
    · obtain rfl : k = n := by omega
      have HE : Hid (l.take k = l) := hide (List.take_of_length_le (Nat.le_of_eq HL.out))
      go_wp2_with fail
      go_ret
      exact ⟨_, rfl, by rw [← HE.out]; exact HO.out, HB.out⟩

/-- The field with which bytes begin. -/
def fget : List UInt8 → Option (Fld × Nat)
  | [] => none
  | k :: r => if (vget r).2 = 0 ∨ ((r.drop (vget r).2).length < (vget r).1) then none else some (⟨k, txt ((r.drop (vget r).2).take (vget r).1)⟩, 1 + (vget r).2 + (vget r).1)

def fgetV : Option (Fld × Nat) → Value
  | none => .tuple #[.agg #[.int .u8 0, .string ByteArray.empty], .int .i64 0, .bool false]
  | some (f, k) => .tuple #[.agg #[bv f.kind, .string f.value], .int .i64 (k : Int), .bool true]
theorem vgo_le : ∀ (l : List UInt8) (i acc : Nat), (vgo i acc l).2 ≤ i + l.length ∧ (vgo i acc l).2 ≤ 10
  | [], i, acc => by simp [vgo]
  | x :: r, i, acc => by
    have := vgo_le r (i + 1) (acc + x.toNat % 128 * 128 ^ i)
    rw [vgo]
    simp only [List.length_cons]
    split
    · simp
    · split
      · simp
      · split
        · split <;> simp <;> omega
        · omega
theorem vget_le (l : List UInt8) : (vget l).2 ≤ l.length ∧ (vget l).2 ≤ 10 := by
  have := vgo_le l 0 0
  simpa [vget] using this
theorem vgo_lt : ∀ (l : List UInt8) (i acc : Nat), i ≤ 10 → acc < 128 ^ i → (vgo i acc l).1 < 18446744073709551616
  | [], i, acc, _, _ => by simp [vgo]
  | x :: r, i, acc, hi, ha => by
    rw [vgo]
    by_cases h10 : 10 ≤ i
    · rw [if_pos h10]; decide
    rw [if_neg h10]
    by_cases h9 : i = 9 ∧ 1 < x.toNat
    · rw [if_pos h9]; decide
    rw [if_neg h9]
    by_cases h1 : x.toNat < 128
    · rw [if_pos h1]
      obtain ⟨q1, q2⟩ := pow_le19 (j := i) (by omega) (y := x.toNat) h1 (by omega)
      split
      · decide
      · show acc + x.toNat * 128 ^ i < _
        rcases Nat.lt_or_ge i 9 with h | h
        · have : (acc + x.toNat * 128 ^ i) < 128 ^ (i + 1) := by
            rw [Nat.pow_succ]
            have : x.toNat * 128 ^ i ≤ 127 * 128 ^ i := Nat.mul_le_mul_right _ (by omega)
            omega
          have : 128 ^ (i + 1) ≤ 128 ^ 9 := Nat.pow_le_pow_right (by decide) (by omega)
          omega
        · obtain rfl : i = 9 := by omega
          have : x.toNat * 128 ^ 9 ≤ 1 * 128 ^ 9 := Nat.mul_le_mul_right _ (by omega)
          omega
    · rw [if_neg h1]
      exact vgo_lt r (i + 1) _ (by omega) (by
        rw [Nat.pow_succ]
        have : x.toNat % 128 * 128 ^ i ≤ 127 * 128 ^ i := Nat.mul_le_mul_right _ (by omega)
        omega)
theorem vget_lt (l : List UInt8) : (vget l).1 < 18446744073709551616 := vgo_lt l 0 0 (by decide) (by decide)
set_option maxRecDepth 100000 in
set_option maxHeartbeats 800000 in
theorem c_fget (A : Option Addr) (n c : Nat) (xs : List UInt8) (ok : Nat → Prop) (w : World) (hR : kU8.Row ok w A n c xs) :
    Calls Tryd.prog 149 #[.slice A n c] w fun e w' => Below w.heap.size w w' ∧ e = .returned (fgetV (fget xs)) := by
  have HR := hide hR
  have hlen := hR.1
  have hc : n ≤ c := hR.2.1
  have hm : c ≤ 9223372036854775807 := hR.2.2.1
  clear hR
  cases xs with
  | nil =>
    obtain rfl : n = 0 := by simpa using hlen.symm
    clear hlen
    go_enter Tryd.func149, Tryd.ntmps149
    go_wp2_with fail
    exact bodyPost_ret (v := .tuple #[.agg #[.int .u8 0, .string ByteArray.empty], .int .i64 0, .bool false]) (by simp [results, Tryd.results149, go_sem]; rfl) rfl ⟨by repeat (first | exact Below.refl _ _ | refine Below.alloc ?_ (by simp) _ | refine Below.setCell ?_ (by simp) _), rfl⟩
  | cons k r =>
    obtain ⟨m, rfl⟩ : ∃ m, n = m + 1 := ⟨r.length, by simpa using hlen.symm⟩
    have hrl : r.length = m := by simpa using hlen
    obtain ⟨B, hs1, hB⟩ := HR.out.from (P := Tryd.prog) Tryd.underlying22 (E := 5) (by kernel_rfl) (k := 1) (by omega) .i64 1 rfl
    rw [List.drop_one, List.tail_cons] at hB
    have HB := hide hB
    obtain ⟨g1, g2⟩ := vget_le r
    have hvn : (vget r).1 < 18446744073709551616 := vget_lt r
    obtain ⟨nv, hnv⟩ : ∃ nv, nv = (vget r).1 := ⟨_, rfl⟩
    obtain ⟨kv, hkv⟩ : ∃ kv, kv = (vget r).2 := ⟨_, rfl⟩
    have HNV := hide hnv
    have HKV := hide hkv
    rw [← hnv] at hvn
    rw [← hkv, hrl] at g1
    clear hlen hB hnv hkv hrl g2
    obtain ⟨C, hs2, hC⟩ := HR.out.from (P := Tryd.prog) Tryd.underlying22 (E := 5) (by kernel_rfl) (k := 1 + kv) (by omega) .i64 (1 + kv) (by simp)
    have HC := hide hC
    clear hC
    rw [show m + 1 - (1 + kv) = m - kv by omega] at hs2 HC
    go_enter Tryd.func149, Tryd.ntmps149
    go_wp2_with fail
    refine (c_vget B m (c - 1) r _ _ (HB.out.alloc _)).mono ?_
    rintro e w1 ⟨rfl, rfl⟩
    rw [← HNV.out, ← HKV.out]
    by_cases hk0 : kv = 0
    · have HF : Hid (fget (k :: r) = none) := hide (by rw [fget, if_pos (.inl (by rw [← HKV.out, hk0]))])
      go_wp2_with fail
      exact bodyPost_ret (v := .tuple #[.agg #[.int .u8 0, .string ByteArray.empty], .int .i64 0, .bool false]) (by simp [results, Tryd.results149, go_sem]; rfl) rfl ⟨by repeat (first | exact Below.refl _ _ | refine Below.alloc ?_ (by simp) _ | refine Below.setCell ?_ (by simp) _), by rw [HF.out]; rfl⟩
    by_cases hlong : m - kv < nv
    · have HF : Hid (fget (k :: r) = none) := hide (by
        have hx : (r.drop (vget r).2).length < (vget r).1 := by
          have := HC.out.1
          rw [Nat.add_comm, List.drop_succ_cons] at this
          rw [← HKV.out, ← HNV.out, this]
          exact hlong
        rw [fget, if_pos (.inr hx)])
      go_wp2_with fail
      exact bodyPost_ret (v := .tuple #[.agg #[.int .u8 0, .string ByteArray.empty], .int .i64 0, .bool false]) (by simp [results, Tryd.results149, go_sem]; rfl) rfl ⟨by repeat (first | exact Below.refl _ _ | refine Below.alloc ?_ (by simp) _ | refine Below.setCell ?_ (by simp) _), by rw [HF.out]; rfl⟩
    · have hcc : (k :: r).drop (1 + kv) = r.drop kv := by rw [Nat.add_comm, List.drop_succ_cons]
      have HF : Hid (fget (k :: r) = some (⟨k, txt ((r.drop kv).take nv)⟩, 1 + kv + nv)) := hide (by
        have := HC.out.1
        rw [hcc] at this
        rw [fget, ← HKV.out, ← HNV.out, if_neg (by omega)])
      obtain ⟨b, q, cs, hix, -, hbl, hK, hra⟩ := HR.out.index (P := Tryd.prog) Tryd.underlying22 (E := 5) (by kernel_rfl) (i := 0) (x := k) rfl
      have hKe := hK.1
      subst hKe
      have hc0 := hra 0 _ rfl
      simp only [Nat.add_zero] at hc0
      obtain ⟨hs3, hD⟩ := HC.out.upto (P := Tryd.prog) Tryd.underlying22 (E := 5) (by kernel_rfl) (k := nv) (by omega) .u64 nv rfl
      rw [hcc] at hD
      have hst := row_string (P := Tryd.prog) Tryd.underlying22 Tryd.underlying5 Tryd.underlying9 ((hD.alloc (.cells #[.int .u8 0, .string ⟨#[]⟩] 144)).drewN 1)
      clear hD hK hra hcc
      have hst : (convert 22 9 (.slice C nv (c - (1 + kv)))).run Tryd.prog ((w.alloc (.cells #[.int .u8 0, .string ⟨#[]⟩] 144)).drew) = .ok (.string (txt ((r.drop kv).take nv))) ((w.alloc (.cells #[.int .u8 0, .string ⟨#[]⟩] 144)).drew) := hst
      have hix : ∀ wx : World, (Instr.indexAt 22 (.slice A (m + 1) c) (.int .i64 0)).run Tryd.prog wx = .ok (.pointer (some ⟨b, q, none⟩)) wx := hix
      go_wp2_with fail
      go_region
      go_wp2_with fail
      exact bodyPost_ret (v := .tuple #[.agg #[bv k, .string (txt ((r.drop kv).take nv))], .int .i64 ((1 + kv + nv : Nat) : Int), .bool true]) (by simp [results, Tryd.results149, go_sem]) rfl ⟨by repeat (first | exact Below.refl _ _ | refine Below.drew ?_ | refine Below.alloc ?_ (by simp) _ | refine Below.setCell ?_ (by simp) _), by rw [HF.out]; rfl⟩

end Go.Proofs.YtdkeflhgengblaaDoor
namespace Go.Proofs.YtdkeflhgengblaaDoor
open Go.RowKit

theorem Kd.Els.rowAt {α : Type} {d : Kd α} {ok : Nat → Prop} {w : World} {xs : List α} {css : List (List Value)} {g : Nat} {C : Array Value} {E : TypeId} {fr : Nat × Nat} (h : d.Els ok w xs css) (hg : w.heap[g]? = some (.cells C E fr)) (hC : C.toList = css.flatten) (hok : ok g) (hn : xs.length ≤ maxLen) :
    d.Row ok w (some ⟨g, 0, none⟩) xs.length xs.length xs := by
  refine ⟨rfl, Nat.le_refl _, hn, fun _ => ⟨g, 0, rfl, hok, (Array.getElem?_eq_some_iff.1 hg).1, fun i x hx => ?_⟩⟩
  obtain ⟨cs, hcs⟩ : ∃ cs, css[i]? = some cs := ⟨_, List.getElem?_eq_getElem (by have := h.1; have := (List.getElem?_eq_some_iff.1 hx).1; omega)⟩
  refine ⟨cs, h.2 i x cs hx hcs, fun j v hv => ?_⟩
  rw [cell_of_row w _ _ _ _ _ hg, ← Array.getElem?_toList, hC, Nat.zero_add]
  exact flat_at h.lens hcs hv
theorem flds_els {ok : Nat → Prop} {w : World} : ∀ {l : List Fld}, (∀ f ∈ l, f.value.size ≤ maxLen) → kFld.Els ok w l (l.map Fld.cells)
  | l, h => ⟨by simp, fun i x cs hx hcs => by
    rw [List.getElem?_map, hx] at hcs
    cases hcs
    exact ⟨rfl, h x (List.mem_of_getElem? hx)⟩⟩
/-- A caveat's fields. -/
def cavFlds (c : Cav) : List Fld := if c.third then [⟨4, txt (vput c.party)⟩, ⟨5, c.id⟩, ⟨6, c.vault⟩] else [⟨3, c.text⟩]
theorem fput_len (f : Fld) (h : f.value.size < 18446744073709551616) : (fput f).length ≤ 11 + f.value.size := by
  have := vput_len10 h
  simp [fput]
  omega

set_option maxRecDepth 100000 in
set_option maxHeartbeats 400000 in
theorem c_caveat (x : Cav) (w : World) (ht : x.text.size ≤ 274877906944) (hp : x.party < 18446744073709551616) (hi : x.id.size ≤ 274877906944) (hv : x.vault.size ≤ 274877906944) :
    Calls Tryd.prog 63 #[cavV x] w fun e w' => ∃ v, e = .returned v ∧ kU8.Own (fun _ => True) w.heap.size w' 5 v (fjoin (cavFlds x)) ∧ Below w.heap.size w w' := by
  have HT := hide ht
  have HP := hide hp
  have HI := hide hi
  have HV := hide hv
  clear ht hp hi hv
  unfold cavV
  cases h3 : x.third with
  | false =>
    have HF : Hid (cavFlds x = [⟨3, x.text⟩]) := hide (by rw [cavFlds, h3]; rfl)
    clear h3
    go_enter Tryd.func63, Tryd.ntmps63
    have hsz : (fjoin [⟨3, x.text⟩]).length ≤ 1099511627776 := by
      have := fput_len ⟨3, x.text⟩ (by have := HT.out; simp only; omega)
      have := HT.out
      simp [fjoin]
      simp at *
      omega
    have hv1 : ∀ f ∈ [(⟨3, x.text⟩ : Fld)], f.value.size ≤ 1099511627776 := by
      have := HT.out
      simp
      omega
    have HSZ := hide hsz
    have HV1 := hide hv1
    clear hsz hv1
    go_wp2_with fail
    refine (c_fjoin (some ⟨w.heap.size + 1, 0, none⟩) 1 1 [⟨3, x.text⟩] (fun _ => True) _ ((flds_els (fun f hf => Nat.le_trans (HV1.out f hf) (by decide))).rowAt (C := #[.int .u8 3, .string x.text]) (heap_new2 _ _ _) rfl trivial (by simp [maxLen])) HSZ.out HV1.out).mono ?_
    rintro e w1 ⟨v, rfl, ho, hb⟩
    have HO := hide (ho.lower (base' := w.heap.size) (by simp; omega))
    have HB := hide (bnext (below2 _ _ _) hb)
    clear ho hb
    go_wp2_with fail
    go_ret
    exact ⟨_, rfl, by rw [HF.out]; exact HO.out, HB.out⟩
  | true =>
    have HF : Hid (cavFlds x = [⟨4, txt (vput x.party)⟩, ⟨5, x.id⟩, ⟨6, x.vault⟩]) := hide (by rw [cavFlds, h3]; rfl)
    have hnum : (txt (vput x.party)).size ≤ 10 := by rw [txt_size]; exact vput_len10 HP.out
    have hsz : (fjoin [⟨4, txt (vput x.party)⟩, ⟨5, x.id⟩, ⟨6, x.vault⟩]).length ≤ 1099511627776 := by
      have h1 := fput_len ⟨4, txt (vput x.party)⟩ (by simp only; omega)
      have h2 := fput_len ⟨5, x.id⟩ (by have := HI.out; simp only; omega)
      have h3 := fput_len ⟨6, x.vault⟩ (by have := HV.out; simp only; omega)
      have := HI.out
      have := HV.out
      simp [fjoin]
      simp at *
      omega
    have hv1 : ∀ f ∈ [(⟨4, txt (vput x.party)⟩ : Fld), ⟨5, x.id⟩, ⟨6, x.vault⟩], f.value.size ≤ 1099511627776 := by
      have := HI.out
      have := HV.out
      simp
      omega
    have HSZ := hide hsz
    have HV1 := hide hv1
    clear hsz hv1 h3 hnum
    go_enter Tryd.func63, Tryd.ntmps63
    go_wp2
    refine wp_region_ext mixed 11 (fun i v w' => match i with
      | 0 => v = .pointer (some ⟨w.heap.size, 2, none⟩)
      | 1 => v = .int .u64 (x.party : Int)
      | 2 => v = .string (txt (vput x.party))
      | 3 => v = .agg #[.int .u8 4, .string (txt (vput x.party))]
      | 4 => v = .pointer (some ⟨w.heap.size, 3, none⟩)
      | 5 => v = .string x.id
      | 6 => v = .agg #[.int .u8 5, .string x.id]
      | 7 => v = .pointer (some ⟨w.heap.size, 4, none⟩)
      | 8 => v = .string x.vault
      | 9 => v = .agg #[.int .u8 6, .string x.vault]
      | _ => ∃ g, v = .slice (some ⟨g, 0, none⟩) 3 3 ∧ w'.heap[g]? = some (.cells #[.int .u8 4, .string (txt (vput x.party)), .int .u8 5, .string x.id, .int .u8 6, .string x.vault] 144)
      ) (by kernel_rfl) rfl ?_ ?_ ?_
    · intro i v w1 w2 h1 h2
      split at h2 <;> first | exact h2 | (obtain ⟨g, rfl, hg⟩ := h2; exact ⟨g, rfl, h1.heap hg⟩)
    · refine ⟨fun a w1 hle hd hf hs K hK => ?_, fun a w1 hle hd hf hs K hK => ?_, fun a w1 hle hd hf hs K hK => ?_, fun a w1 hle hd hf hs K hK => ?_, fun a w1 hle hd hf hs K hK => ?_, fun a w1 hle hd hf hs K hK => ?_, fun a w1 hle hd hf hs K hK => ?_, fun a w1 hle hd hf hs K hK => ?_, fun a w1 hle hd hf hs K hK => ?_, fun a w1 hle hd hf hs K hK => ?_, fun a w1 hle hd hf hs K hK => ?_, trivial⟩
      all_goals clear hd
      · have e1 := hf 1 rfl; simp [Act.eval] at e1
        go_simp; exact hK _ _ (Ext.refl _) rfl
      · have e11 := hs 0 11 (by kernel_rfl) rfl; simp [Act.eval] at e11
        have hc := hle.cell (a := ⟨w.heap.size, 2, none⟩) (v := .int .u64 (x.party : Int)) (by go_simp)
        go_simp; exact hK _ _ (Ext.refl _) rfl
      · have e12 := hs 1 12 (by kernel_rfl) rfl; simp [Act.eval] at e12
        go_simp
        refine (c_pnumber x.party _ w1 rfl HP.out).mono ?_
        rintro e w2 ⟨rfl, b⟩
        exact hK _ _ b rfl
      · have e13 := hs 2 13 (by kernel_rfl) rfl; simp [Act.eval] at e13
        go_simp; exact hK _ _ (Ext.refl _) rfl
      · have e1 := hf 1 rfl; simp [Act.eval] at e1
        go_simp; exact hK _ _ (Ext.refl _) rfl
      · have e15 := hs 4 15 (by kernel_rfl) rfl; simp [Act.eval] at e15
        have hc := hle.cell (a := ⟨w.heap.size, 3, none⟩) (v := .string x.id) (by go_simp)
        go_simp; exact hK _ _ (Ext.refl _) rfl
      · have e16 := hs 5 16 (by kernel_rfl) rfl; simp [Act.eval] at e16
        go_simp; exact hK _ _ (Ext.refl _) rfl
      · have e1 := hf 1 rfl; simp [Act.eval] at e1
        go_simp; exact hK _ _ (Ext.refl _) rfl
      · have e18 := hs 7 18 (by kernel_rfl) rfl; simp [Act.eval] at e18
        have hc := hle.cell (a := ⟨w.heap.size, 4, none⟩) (v := .string x.vault) (by go_simp)
        go_simp; exact hK _ _ (Ext.refl _) rfl
      · have e19 := hs 8 19 (by kernel_rfl) rfl; simp [Act.eval] at e19
        go_simp; exact hK _ _ (Ext.refl _) rfl
      · have e14 := hs 3 14 (by kernel_rfl) rfl; have e17 := hs 6 17 (by kernel_rfl) rfl; have e20 := hs 9 20 (by kernel_rfl) rfl; simp [Act.eval] at e14 e17 e20
        go_simp; exact hK _ _ (Ext.alloc _ _) ⟨_, rfl, heap_alloc_new _ _⟩
    · intro vs w1 hle hs
      have v10 := hs 10 (by omega) rfl
      simp only at v10
      clear hs
      obtain ⟨g, v10, hg⟩ := v10
      simp only [putN, dstAt]
      have hle2 := hide ((Ext.alloc w (.cells #[.bool true, .string x.text, .int .u64 (x.party : Int), .string x.id, .string x.vault] 83)).trans hle)
      have HG := hide hg
      clear hle hg
      go_simp
      go_wp2_with fail
      refine (c_fjoin (some ⟨g, 0, none⟩) 3 3 [⟨4, txt (vput x.party)⟩, ⟨5, x.id⟩, ⟨6, x.vault⟩] (fun _ => True) _ ((flds_els (fun f hf => Nat.le_trans (HV1.out f hf) (by decide))).rowAt HG.out rfl trivial (by simp [maxLen])) HSZ.out HV1.out).mono ?_
      rintro e w2 ⟨v, rfl, ho, hb⟩
      have HO := hide (ho.lower (base' := w.heap.size) hle2.out.size)
      have HB := hide (bnext hle2.out hb)
      clear ho hb
      go_wp2_with fail
      go_ret
      exact ⟨_, rfl, by rw [HF.out]; exact HO.out, HB.out⟩
end Go.Proofs.YtdkeflhgengblaaDoor
namespace Go.Proofs.YtdkeflhgengblaaDoor
open Go.RowKit

theorem fget_pos {l : List UInt8} {f : Fld} {k : Nat} (h : fget l = some (f, k)) : 0 < k ∧ k ≤ l.length ∧ f.value.size ≤ l.length := by
  cases l with
  | nil => simp [fget] at h
  | cons a r =>
    rw [fget] at h
    split at h
    · cases h
    · rename_i hc
      simp only [Option.some.injEq, Prod.mk.injEq] at h
      obtain ⟨rfl, rfl⟩ := h
      have := vget_le r
      simp only [List.length_drop] at hc
      refine ⟨by omega, by simp; omega, ?_⟩
      show (txt _).size ≤ _
      rw [txt_size]
      simp
      omega
/-- All fields of bytes. -/
def fall (l : List UInt8) : Option (List Fld) :=
  if l = [] then some [] else
    match _h : fget l with
    | none => none
    | some (f, k) => (fall (l.drop k)).map (f :: ·)
termination_by l.length
decreasing_by
  have := fget_pos _h
  simp only [List.length_drop]
  omega
theorem fall_nil : fall [] = some [] := by rw [fall]; rfl
theorem fall_none {l : List UInt8} (h0 : l ≠ []) (h : fget l = none) : fall l = none := by
  rw [fall, if_neg h0]
  split
  · rfl
  · rename_i f k h'; rw [h] at h'; cases h'
theorem fall_some {l : List UInt8} {f : Fld} {k : Nat} (h0 : l ≠ []) (h : fget l = some (f, k)) : fall l = (fall (l.drop k)).map (f :: ·) := by
  rw [fall, if_neg h0]
  split
  · rename_i h'; rw [h] at h'; cases h'
  · rename_i f' k' h'
    rw [h] at h'
    cases h'
    rfl
def FallPost (base : Nat) (w' : World) (e : Ending) (o : Option (List Fld)) : Prop :=
  ∃ v b, e = .returned (.tuple #[v, .bool b]) ∧ b = o.isSome ∧ kFld.Own (fun _ => True) base w' 144 v (o.getD [])
theorem fld_info : (Tryd.prog.info? 144).map (fun i => (i.zero, i.size, i.bytes)) = some (some (.agg #[.int .u8 0, .string ByteArray.empty]), 2, 24) := by kernel_rfl
theorem src_fld {ok ok' : Nat → Prop} {w : World} {A : Option Addr} {m : Nat} {xs : List Fld} (h : kFld.Src ok w A m xs) : kFld.Src ok' w A m xs := let ⟨h1, css, he, hc⟩ := h; ⟨h1, css, ⟨he.1, fun i x cs hx hcs => he.2 i x cs hx hcs⟩, hc⟩

set_option maxRecDepth 100000 in
set_option maxHeartbeats 800000 in
theorem c_fall (A : Option Addr) (n c : Nat) (xs : List UInt8) (ok : Nat → Prop) (w : World) (hR : kU8.Row ok w A n c xs) (hn : n ≤ 1099511627776) :
    Calls Tryd.prog 145 #[.slice A n c] w fun e w' => Below w.heap.size w w' ∧ FallPost w.heap.size w' e (fall xs) := by
  have HR := hide hR
  have HN := hide hn
  have HL := hide hR.1
  clear hR hn
  go_enter Tryd.func145, Tryd.ntmps145
  go_wp2
  go_loopw [0, 4] (fun b p wr => ∃ (A : Option Addr) (m c : Nat) (ys : List UInt8) (acc : List Fld), b = .slice A m c ∧ m ≤ 1099511627776 ∧ Hid (kU8.Row (· < w.heap.size) wr A m c ys) ∧ Hid (kFld.Own (fun _ => True) w.heap.size wr 144 p acc) ∧ Hid (acc.length + m ≤ n) ∧ Hid (fall xs = (fall ys).map (acc ++ ·)) ∧ Hid (Below w.heap.size w wr)) (fun b _ _ => match b with | .slice _ m _ => m | _ => 0)
  case atStart => exact ⟨A, n, c, xs, [], rfl, HN.out, hide (HR.out.bound.more fun _ h => h.2), hide (.nil _ _ _ _ _), hide (by simp), hide (by simp), hide (Below.refl _ _)⟩
  case round =>
    obtain ⟨A, m, c, ys, acc, rfl, hm, HR, HO, HC, HE, HB⟩ := hrel
    by_cases h0 : m = 0
    · subst h0
      have HY : Hid (ys = []) := hide (List.eq_nil_of_length_eq_zero HR.out.1)
      go_wp2_with fail
      exact bodyPost_ret (v := .tuple #[u4, .bool true]) (by simp [results, Tryd.results145, go_sem]) rfl ⟨HB.out, _, _, rfl, by rw [HE.out, HY.out, fall_nil]; rfl, by rw [HE.out, HY.out, fall_nil]; simpa using HO.out⟩
    · have HY : Hid (ys ≠ []) := hide (fun e => by have := HR.out.1; rw [e] at this; exact h0 this.symm)
      go_wp2_with fail
      refine (c_fget A m c ys _ wr HR.out).mono ?_
      rintro e w1 ⟨b1, rfl⟩
      have HB1 := hide (HB.out.trans (b1.mono HB.out.size))
      have HO1 := hide (HO.out.below b1)
      have HR1 := hide (HR.out.below b1)
      clear b1
      cases hg : fget ys with
      | none =>
        have HF : Hid (fall xs = none) := hide (by rw [HE.out, fall_none HY.out hg]; rfl)
        clear hg
        unfold fgetV
        go_wp2_with fail
        exact bodyPost_ret (v := .tuple #[.slice none 0 0, .bool false]) (by simp [results, Tryd.results145, go_sem]) rfl ⟨HB1.out.alloc HB1.out.size _, _, _, rfl, by rw [HF.out]; rfl, by rw [HF.out]; exact .nil _ _ _ _ _⟩
      | some fk =>
        obtain ⟨f, k⟩ := fk
        have hp := fget_pos hg
        rw [HR.out.1] at hp
        obtain ⟨hk0, hkm, hfs⟩ := hp
        have HFS := hide hfs
        have HE1 : Hid (fall xs = (fall (ys.drop k)).map ((acc ++ [f]) ++ ·)) := hide (by
          rw [HE.out, fall_some HY.out hg, Option.map_map]
          congr 1
          funext x
          simp)
        clear hg hfs
        obtain ⟨B, hs1, hB⟩ := HR1.out.from (P := Tryd.prog) Tryd.underlying22 (E := 5) (by kernel_rfl) (k := k) hkm .i64 k rfl
        have HRB := hide hB
        clear hB
        unfold fgetV
        simp only
        go_wp2_with (at_builtin; go_must (refine wpList_app (d := kFld) (ys := [f]) rfl _ _ _ rfl Tryd.underlying169 fld_info rfl (by decide) 1 rfl rfl (.inl ((HO1.out.below (below1 _ _)).below (below1 _ _))) (src_fld (ok := fun _ => True) (Kd.Src.new (d := kFld) ⟨rfl, ?_⟩ _ rfl _ ?_)) ?_ ?_ ?_ ?_))
        · have := HFS.out; simp only [maxLen]; omega
        · simp
        · have := HB1.out.size; simp; omega
        · have := HC.out; have := HN.out; simp only [maxLen]; omega
        · have := HC.out; have := HN.out; omega
        · intro v1 w2 _ h2 h3 h4 h5
          have H2 := hide h2
          have HB2 := hide (HB1.out.trans (((below2 w1 (.cells #[bv f.kind, .string f.value] 144) (.cells #[bv f.kind, .string f.value] 144)).mono HB1.out.size).trans h3))
          have HR2 := hide (HRB.out.belowB (((below2 w1 (.cells #[bv f.kind, .string f.value] 144) (.cells #[bv f.kind, .string f.value] 144)).mono HB1.out.size).trans h3))
          clear h2 h3 h4 h5
          go_wp2_with fail
          go_roundw
          case rel => exact ⟨B, m - k, c - k, ys.drop k, acc ++ [f], rfl, by omega, HR2, H2, hide (by have := HC.out; simp; omega), HE1, HB2⟩
          case measure => simp; omega
end Go.Proofs.YtdkeflhgengblaaDoor
namespace Go.Proofs.YtdkeflhgengblaaDoor
open Go.RowKit

/-- Only block g may have turned of what there was. -/
def Only (g : Nat) (w w' : World) : Prop := w'.os = w.os ∧ w'.tape = w.tape ∧ w'.output = w.output ∧ w.heap.size ≤ w'.heap.size ∧ ∀ k, k < w.heap.size → k ≠ g → w'.heap[k]? = w.heap[k]?
theorem Only.of {g B : Nat} {w w' : World} (h : Below B w w') (hB : w.heap.size ≤ B) : Only g w w' := ⟨h.os, h.tape, h.output, h.size, fun k hk _ => h.block k (Nat.lt_of_lt_of_le hk hB)⟩
theorem Only.refl (g : Nat) (w : World) : Only g w w := ⟨rfl, rfl, rfl, Nat.le_refl _, fun _ _ _ => rfl⟩
theorem Only.trans {g : Nat} {a b c : World} (h : Only g a b) (k : Only g b c) : Only g a c :=
  ⟨k.1.trans h.1, k.2.1.trans h.2.1, k.2.2.1.trans h.2.2.1, Nat.le_trans h.2.2.2.1 k.2.2.2.1, fun i hi hg => (k.2.2.2.2 i (Nat.lt_of_lt_of_le hi h.2.2.2.1) hg).trans (h.2.2.2.2 i hi hg)⟩
theorem Only.below {g : Nat} {w w' : World} (h : Only g w w') (hg : g < w.heap.size) : Below g w w' := ⟨h.1, h.2.1, h.2.2.1, h.2.2.2.1, fun k hk => h.2.2.2.2 k (by omega) (by omega)⟩
theorem Only.set {g : Nat} {w w' : World} (h : Only g w w') (o : Nat) (v : Value) : Only g w (w'.setCell ⟨g, o, none⟩ v) :=
  ⟨h.1, h.2.1, h.2.2.1, by simpa using h.2.2.2.1, fun k hk hg => (Below.heap_setCell w' ⟨g, o, none⟩ v k hg).trans (h.2.2.2.2 k hk hg)⟩
theorem Only.alloc {g : Nat} {w w' : World} (h : Only g w w') (o : Obj) : Only g w (w'.alloc o) :=
  ⟨h.1, h.2.1, h.2.2.1, by simp; have := h.2.2.2.1; omega, fun k hk hg => (Below.heap_alloc w' o k (Nat.lt_of_lt_of_le hk h.2.2.2.1)).trans (h.2.2.2.2 k hk hg)⟩
theorem Only.size {g : Nat} {w w' : World} (h : Only g w w') : w.heap.size ≤ w'.heap.size := h.2.2.2.1

/-- A reader in block g: what is left; none: one wasn't as it should be. -/
def RdAt (w : World) (g : Nat) (s : Option (List Fld)) : Prop :=
  ∃ A n c l, w.heap[g]? = some (.cells #[.slice A n c, .bool s.isNone] 202) ∧ kFld.Row (· < g) w A n c l ∧ (∀ r, s = some r → l = r)
theorem RdAt.lt {w : World} {g : Nat} {s : Option (List Fld)} (h : RdAt w g s) : g < w.heap.size := by
  obtain ⟨A, n, c, l, h, _⟩ := h
  exact (Array.getElem?_eq_some_iff.1 h).1
theorem RdAt.keep {w w' : World} {g : Nat} {s : Option (List Fld)} (h : RdAt w g s) (hk : ∀ k, k ≤ g → w'.heap[k]? = w.heap[k]?) : RdAt w' g s := by
  obtain ⟨A, n, c, l, h1, h2, h3⟩ := h
  exact ⟨A, n, c, l, (hk g (Nat.le_refl _)).trans h1, h2.keep (fun k h _ => hk k (Nat.le_of_lt h)), h3⟩
theorem RdAt.below {w w' : World} {g : Nat} {s : Option (List Fld)} (h : RdAt w g s) (hb : Below w.heap.size w w') : RdAt w' g s := h.keep fun k hk => hb.block k (Nat.lt_of_le_of_lt hk h.lt)

def ptake (k : UInt8) : List Fld → Option (ByteArray × List Fld)
  | [] => none
  | f :: r => if f.kind = k then some (f.value, r) else none
def pnum (k : UInt8) (l : List Fld) : Option (Nat × List Fld) :=
  (ptake k l).bind fun x => if (vget (byt x.1)).2 = 0 ∨ (vget (byt x.1)).2 ≠ x.1.size then none else some ((vget (byt x.1)).1, x.2)
def pis (k : UInt8) (s : Option (List Fld)) : Bool := match s with | some (f :: _) => decide (f.kind = k) | _ => false

theorem kind_eq (a b : UInt8) : ((a.toNat : Int) == (b.toNat : Int)) = decide (a = b) := by
  rw [Bool.eq_iff_iff]
  simp only [beq_iff_eq, decide_eq_true_eq]
  constructor
  · intro h; exact UInt8.toNat_inj.1 (by omega)
  · rintro rfl; rfl
set_option maxRecDepth 100000 in
theorem c_ris (w : World) (g : Nat) (k : UInt8) (A : Option Addr) (n c : Nat) (l : List Fld) (b : Bool) (ok : Nat → Prop) (i : Int) (hi : i = (k.toNat : Int)) (hg : w.heap[g]? = some (.cells #[.slice A n c, .bool b] 202)) (hr : kFld.Row ok w A n c l) :
    Calls Tryd.prog 151 #[.pointer (some ⟨g, 0, none⟩), .int .u8 i] w fun e w' => e = .returned (.bool (pis k (some l))) ∧ w = w' := by
  subst hi
  have hc0 : w.cell? ⟨g, 0, none⟩ = some (.slice A n c) := (cell_of_row w _ _ _ _ _ hg).trans rfl
  have hlen := hr.1
  have hm : n ≤ 9223372036854775807 := Nat.le_trans hr.2.1 hr.2.2.1
  clear hg
  cases l with
  | nil =>
    obtain rfl : n = 0 := by simpa using hlen.symm
    clear hr hlen
    go_enter Tryd.func151, Tryd.ntmps151
    go_wp2
    go_ret
    exact ⟨rfl, rfl⟩
  | cons f r =>
    obtain ⟨bb, q, cs, hix, -, hbl, hK, hra⟩ := hr.index (P := Tryd.prog) Tryd.underlying169 (E := 144) fld_size (i := 0) (x := f) rfl
    have hKe := hK.1
    subst hKe
    have hc1 := hra 0 _ rfl
    simp only [Nat.add_zero] at hc1
    obtain ⟨m, rfl⟩ : ∃ m, n = m + 1 := ⟨r.length, by simpa using hlen.symm⟩
    have hix : ∀ wx : World, (Instr.indexAt 169 (.slice A (m + 1) c) (.int .i64 0)).run Tryd.prog wx = .ok (.pointer (some ⟨bb, q, none⟩)) wx := hix
    clear hr hlen hK hra
    go_enter Tryd.func151, Tryd.ntmps151
    go_wp2
    go_ret
    exact ⟨congrArg (fun b => Ending.returned (.bool b)) (kind_eq f.kind k), rfl⟩

/-- What a reader's step answers. -/
def Took (w : World) (g : Nat) (o : Option (ByteArray × List Fld)) (e : Ending) (w' : World) : Prop :=
  ∃ v : ByteArray, e = .returned (.string v) ∧ v.size ≤ maxLen ∧ (∀ x r, o = some (x, r) → v = x) ∧ Only g w w' ∧ RdAt w' g (o.map (·.2))
theorem heap_cellAt {w : World} {g o : Nat} {C : Array Value} {t : TypeId} {fr : Nat × Nat} (h : w.heap[g]? = some (.cells C t fr)) (v : Value) : (w.setCell ⟨g, o, none⟩ v).heap[g]? = some (.cells (C.setIfInBounds o v) t fr) := by
  rw [setCell_eq_setRow w g o C t fr v h]
  exact setRow_heap w g C _ t fr h
set_option maxRecDepth 100000 in
theorem c_rtake (w : World) (g : Nat) (k : UInt8) (s : Option (List Fld)) (i : Int) (hi : i = (k.toNat : Int)) (h : RdAt w g s) :
    Calls Tryd.prog 147 #[.pointer (some ⟨g, 0, none⟩), .int .u8 i] w (Took w g (s.bind (ptake k))) := by
  subst hi
  have hlt := h.lt
  obtain ⟨A, n, c, l, hg, hr, hl⟩ := h
  have HG := hide hg
  have HR := hide hr
  have HL := hide hl
  have hc0 : w.cell? ⟨g, 0, none⟩ = some (.slice A n c) := (cell_of_row w _ _ _ _ _ hg).trans rfl
  have hc1 : w.cell? ⟨g, 1, none⟩ = some (.bool s.isNone) := (cell_of_row w _ _ _ _ _ hg).trans rfl
  have hfz : ∀ j, w.frozen? ⟨g, j, none⟩ = false := fun j => frozen_of_row w _ _ _ _ hg
  have hlen := hr.1
  clear hg hr hl
  cases hp : pis k (some l) with
  | false =>
    have HP : Hid (s.bind (ptake k) = none) := hide (by
      cases s with
      | none => rfl
      | some r =>
        have := HL.out r rfl
        subst this
        cases l with
        | nil => rfl
        | cons f r =>
          simp only [pis, decide_eq_false_iff_not] at hp
          simp [ptake, hp])
    rw [HP.out]
    have HPI := hide hp
    clear hp
    go_enter Tryd.func147, Tryd.ntmps147
    go_wp2_with fail
    refine (c_ris w g k A n c l _ _ _ rfl HG.out HR.out).mono ?_
    rintro e w1 ⟨rfl, rfl⟩
    rw [HPI.out]
    go_wp2_with fail
    go_ret
    refine ⟨_, rfl, by decide, (fun x r hx => by cases hx), (Only.refl g w).set 1 _, A, n, c, l, ?_, HR.out.keep (fun k' hk' _ => Below.heap_setCell _ _ _ _ (by show k' ≠ g; omega)), (fun r hr => by cases hr)⟩
    exact heap_cellAt HG.out _
  | true =>
    obtain ⟨f, r, hlf, hfk⟩ : ∃ f r, l = f :: r ∧ f.kind = k := by
      cases l with
      | nil => cases hp
      | cons f r => exact ⟨f, r, rfl, by simpa [pis] using hp⟩
    subst hlf
    have HP : Hid (∀ x r', s.bind (ptake k) = some (x, r') → x = f.value ∧ r' = r) := hide (by
      intro x r' h
      cases s with
      | none => cases h
      | some l' =>
        have := HL.out l' rfl
        subst this
        simp only [Option.bind_some, ptake, if_pos hfk, Option.some.injEq, Prod.mk.injEq] at h
        exact ⟨h.1.symm, h.2.symm⟩)
    have HS : Hid (((s.bind (ptake k)).map (·.2)).isNone = s.isNone) := hide (by
      cases s with
      | none => rfl
      | some l' =>
        have := HL.out l' rfl
        subst this
        simp [ptake, if_pos hfk])
    have HPI := hide hp
    clear hp hfk
    obtain ⟨m, rfl⟩ : ∃ m, n = m + 1 := ⟨r.length, by simpa using hlen.symm⟩
    obtain ⟨bb, q, cs, hix, -, hbl, hK, hra⟩ := HR.out.index (P := Tryd.prog) Tryd.underlying169 (E := 144) fld_size (i := 0) (x := f) rfl
    have hKe := hK.1
    have HFV := hide hK.2
    subst hKe
    have hx1 := hra 1 _ rfl
    have hix : ∀ wx : World, (Instr.indexAt 169 (.slice A (m + 1) c) (.int .i64 0)).run Tryd.prog wx = .ok (.pointer (some ⟨bb, q, none⟩)) wx := hix
    obtain ⟨B, hs1, hB⟩ := HR.out.from (P := Tryd.prog) Tryd.underlying169 (E := 144) fld_size (k := 1) (by omega) .i64 1 rfl
    have HB := hide hB
    clear hK hra hB hlen
    go_enter Tryd.func147, Tryd.ntmps147
    go_wp2_with fail
    refine (c_ris w g k A (m + 1) c (f :: r) _ _ _ rfl HG.out HR.out).mono ?_
    rintro e w1 ⟨rfl, rfl⟩
    rw [HPI.out]
    go_wp2_with fail
    go_ret
    refine ⟨_, rfl, HFV.out, fun x r' hx => (HP.out x r' hx).1.symm, (Only.refl g w).set 0 _, B, m, c - 1, r, ?_, HB.out.keep (fun k' hk' _ => Below.heap_setCell _ _ _ _ (by show k' ≠ g; omega)), fun r' hr => ?_⟩
    · rw [HS.out]
      exact heap_cellAt HG.out _
    · obtain ⟨⟨x, y⟩, h1, h2⟩ := Option.map_eq_some_iff.1 hr
      subst h2
      exact ((HP.out x y h1).2).symm
end Go.Proofs.YtdkeflhgengblaaDoor
namespace Go.Proofs.YtdkeflhgengblaaDoor
open Go.RowKit

def Numbered (w : World) (g : Nat) (o : Option (Nat × List Fld)) (e : Ending) (w' : World) : Prop :=
  ∃ n : Nat, e = .returned (.int .u64 (n : Int)) ∧ n < 18446744073709551616 ∧ (∀ x r, o = some (x, r) → n = x) ∧ Only g w w' ∧ RdAt w' g (o.map (·.2))
theorem pnum_none {k : UInt8} {s : Option (List Fld)} (h : s.bind (ptake k) = none) : s.bind (pnum k) = none := by
  cases s with
  | none => rfl
  | some l =>
    simp only [Option.bind_some] at h ⊢
    simp [pnum, h]
theorem pnum_some {k : UInt8} {s : Option (List Fld)} {x : ByteArray} {r : List Fld} (h : s.bind (ptake k) = some (x, r)) :
    s.bind (pnum k) = if (vget (byt x)).2 = 0 ∨ (vget (byt x)).2 ≠ x.size then none else some ((vget (byt x)).1, r) := by
  cases s with
  | none => cases h
  | some l =>
    simp only [Option.bind_some] at h ⊢
    simp [pnum, h]
theorem RdAt.bad {w : World} {g : Nat} {A : Option Addr} {n c : Nat} {l : List Fld} {b : Bool} (hg : w.heap[g]? = some (.cells #[.slice A n c, .bool b] 202)) (hr : kFld.Row (· < g) w A n c l) : RdAt (w.setCell ⟨g, 1, none⟩ (.bool true)) g none :=
  ⟨A, n, c, l, heap_cellAt hg _, hr.keep fun k hk _ => Below.heap_setCell _ _ _ _ (by show k ≠ g; omega), fun r h => by cases h⟩
theorem RdAt.good {w : World} {g : Nat} {A : Option Addr} {n c : Nat} {l : List Fld} {b : Bool} (hg : w.heap[g]? = some (.cells #[.slice A n c, .bool b] 202)) (hr : kFld.Row (· < g) w A n c l) : RdAt (w.setCell ⟨g, 1, none⟩ (.bool false)) g (some l) :=
  ⟨A, n, c, l, heap_cellAt hg _, hr.keep fun k hk _ => Below.heap_setCell _ _ _ _ (by show k ≠ g; omega), fun r h => by cases h; rfl⟩

set_option maxRecDepth 100000 in
set_option maxHeartbeats 400000 in
theorem c_pknumber (w : World) (g : Nat) (k : UInt8) (s : Option (List Fld)) (i : Int) (hi : i = (k.toNat : Int)) (h : RdAt w g s) :
    Calls Tryd.prog 146 #[.pointer (some ⟨g, 0, none⟩), .int .u8 i] w (Numbered w g (s.bind (pnum k))) := by
  subst hi
  have H := hide h
  clear h
  go_enter Tryd.func146, Tryd.ntmps146
  go_wp2_with fail
  refine (c_rtake w g k s _ rfl H.out).mono ?_
  rintro e w1 ⟨v, rfl, hv, hx, h1, h2⟩
  have HV := hide hv
  have HX := hide hx
  have H1 := hide h1
  have H2 := hide h2
  clear hv hx h1 h2
  go_wp2_with (refine at_tobytes (P := Tryd.prog) 9 22 v rfl Tryd.underlying9 Tryd.underlying22 Tryd.underlying5 HV.out _ rfl ?_)
  intro c w2 hr b2 hl2
  have HR2 := hide hr
  have HB2 := hide b2
  obtain ⟨A, n, cc, l, hg, hrow, hl⟩ := (H2.out).below b2
  have HG := hide hg
  have HROW := hide hrow
  have HL := hide hl
  have hc0 : w2.cell? ⟨g, 0, none⟩ = some (.slice A n cc) := (cell_of_row w2 _ _ _ _ _ hg).trans rfl
  have hc1 : w2.cell? ⟨g, 1, none⟩ = some (.bool ((s.bind (ptake k)).map (·.2)).isNone) := (cell_of_row w2 _ _ _ _ _ hg).trans rfl
  have hfz : ∀ j, w2.frozen? ⟨g, j, none⟩ = false := fun j => frozen_of_row w2 _ _ _ _ hg
  have hO : Hid (Only g w w2) := hide (H1.out.trans (Only.of b2 (Nat.le_refl _)))
  clear hr b2 hl2 hg hrow hl
  go_wp2_with fail
  refine (c_vget _ _ c _ _ _ HR2.out).mono ?_
  rintro e w3 ⟨rfl, rfl⟩
  obtain ⟨nv, hnv⟩ : ∃ nv, nv = (vget (byt v)).1 := ⟨_, rfl⟩
  obtain ⟨kv, hkv⟩ : ∃ kv, kv = (vget (byt v)).2 := ⟨_, rfl⟩
  have hn64 : nv < 18446744073709551616 := by rw [hnv]; exact vget_lt _
  have hk10 : kv ≤ 10 := by rw [hkv]; exact (vget_le _).2
  rw [← hnv, ← hkv]
  have HNV := hide hnv
  have HKV := hide hkv
  clear hnv hkv
  have hsz : v.size ≤ 9223372036854775807 := HV.out
  cases ho : s.bind (ptake k) with
  | none =>
    have HP := hide (pnum_none ho)
    rw [ho] at hc1
    clear ho
    go_wp2_with fail
    go_ret
    refine ⟨nv, rfl, hn64, fun x r h => ?_, hO.out.set 1 _, ?_⟩
    · rw [HP.out] at h; cases h
    · rw [HP.out]
      exact RdAt.bad HG.out HROW.out
  | some xr =>
    obtain ⟨x, r⟩ := xr
    obtain rfl : v = x := HX.out x r ho
    have HLR := hide (HL.out r (by rw [ho]; rfl))
    have HP := hide (pnum_some ho)
    rw [ho] at hc1
    clear ho
    by_cases hb : kv = 0 ∨ kv ≠ v.size
    · have HP' : Hid (s.bind (pnum k) = none) := hide (by rw [HP.out, ← HKV.out, if_pos hb])
      have hRB : Hid (RdAt (w2.setCell ⟨g, 1, none⟩ (.bool true)) g none) := hide (RdAt.bad HG.out HROW.out)
      have hd : ((kv : Int) == 0) = true ∨ ((kv : Int) == 0) = false ∧ ((kv : Int) != (v.size : Int)) = true := by
        rcases Nat.eq_zero_or_pos kv with h | h
        · exact .inl (by simp [h])
        · refine .inr ⟨by simp; omega, ?_⟩
          rcases hb with hb | hb
          · omega
          · simp; omega
      clear hb
      rcases hd with hd | ⟨hd, hd2⟩
      · go_wp2_with fail
        go_ret
        refine ⟨nv, rfl, hn64, fun x r h => ?_, hO.out.set 1 _, ?_⟩
        · rw [HP'.out] at h; cases h
        · rw [HP'.out]; exact hRB.out
      · go_wp2_with fail
        go_ret
        refine ⟨nv, rfl, hn64, fun x r h => ?_, hO.out.set 1 _, ?_⟩
        · rw [HP'.out] at h; cases h
        · rw [HP'.out]; exact hRB.out
    · have HP' : Hid (s.bind (pnum k) = some (nv, r)) := hide (by rw [HP.out, ← HKV.out, ← HNV.out, if_neg hb])
      have hRB : Hid (RdAt (w2.setCell ⟨g, 1, none⟩ (.bool false)) g (some r)) := hide (by rw [← HLR.out]; exact RdAt.good HG.out HROW.out)
      have hd : ((kv : Int) == 0) = false := by simp; omega
      have hd2 : ((kv : Int) != (v.size : Int)) = false := by simp; omega
      clear hb
      go_wp2_with fail
      go_ret
      refine ⟨nv, rfl, hn64, fun x r' h => ?_, hO.out.set 1 _, ?_⟩
      · rw [HP'.out] at h
        cases h
        rfl
      · rw [HP'.out]; exact hRB.out
end Go.Proofs.YtdkeflhgengblaaDoor
