/- The walks of layer 1: words out of bytes and into bytes. No condition. -/
import Derived.Test.YtdkeflhgengblaaDoorArr
namespace Go.Proofs.YtdkeflhgengblaaDoor
open Go.RowKit
attribute [local go_sem ↓] ld8 ld64
attribute [local go_sem] run_ldAgg run_storeAgg agg_alloc_at agg_alloc_past agg_drew agg_setCell row_alloc_at row_alloc_past row_drew setRow_alloc_at setRow_alloc_past setRow_drew agg_setRow_at agg_setRow_far cell_setRow_at cell_setRow_far row_setRow_far size_setRow s8C_size s8C_0 s8C_1 s8C_2 s8C_3 s8C_4 s8C_5 s8C_6 s8C_7 s8C_part s8C_one s8C_splice0 s8C_ne
theorem u8_u32 (b : UInt8) : (b.toNat : Int) % 4294967296 = (b.toUInt32.toNat : Int) := by
  have := b.toNat_lt
  rw [UInt8.toNat_toUInt32]; omega
theorem w_shl24 (x : UInt32) : ((x.toNat : Int) * 16777216) % 4294967296 = ((x <<< (24 : UInt32)).toNat : Int) := w_shl x 24 (by decide)
theorem w_shl16 (x : UInt32) : ((x.toNat : Int) * 65536) % 4294967296 = ((x <<< (16 : UInt32)).toNat : Int) := w_shl x 16 (by decide)
theorem w_shl8 (x : UInt32) : ((x.toNat : Int) * 256) % 4294967296 = ((x <<< (8 : UInt32)).toNat : Int) := w_shl x 8 (by decide)
set_option maxRecDepth 100000 in
theorem c_get (A : Option Addr) (n c : Nat) (x0 x1 x2 x3 : UInt8) (r : List UInt8) (ok : Nat → Prop) (w : World) (hR : kU8.Row ok w A n c (x0 :: x1 :: x2 :: x3 :: r)) :
    Calls Tryd.prog 133 #[.slice A n c] w fun e w' => e = .returned (wv (get4 (x0 :: x1 :: x2 :: x3 :: r))) ∧ Below w.heap.size w w' := by
  have h4 : min n 4 = 4 := by
    have := hR.1
    simp at this
    omega
  have HR := hide hR
  clear hR
  go_enter Tryd.func133, Tryd.ntmps133
  go_wp2_with ((with_reducible show wpList _ _ _ (Oper.mk (some 6) _ _ _ _ _ :: _) _ _); go_loud (refine at_copy8 (P := Tryd.prog) 5 Tryd.underlying22 (by kernel_rfl) w.heap.size 0 4 4 (HR.out.alloc _) rfl rfl _ _ (heap_alloc_new _ _) 4 h4 (by decide) #[bv x0, bv x1, bv x2, bv x3] rfl ?_))
  go_ret
  refine ⟨congrArg (fun z => Ending.returned (.int .u32 z)) (?_ : bits .or .u32 (bits .or .u32 (bits .or .u32 ((x0.toNat : Int) % 4294967296 * 16777216 % 4294967296) ((x1.toNat : Int) % 4294967296 * 65536 % 4294967296)) ((x2.toNat : Int) % 4294967296 * 256 % 4294967296)) ((x3.toNat : Int) % 4294967296) = _), below1 _ _⟩
  rw [u8_u32, u8_u32, u8_u32, u8_u32, w_shl24, w_shl16, w_shl8, w_or, w_or, w_or]
  rfl
set_option maxRecDepth 100000 in
theorem c_wstart (w : World) : Calls Tryd.prog 117 #[] w fun e w' => e = .returned (.agg (s8C S8.start)) ∧ Below w.heap.size w w' := by
  go_enter Tryd.func117, Tryd.ntmps117
  go_wp2
  exact bodyPost_ret (v := .agg (s8C S8.start)) (by simp [results, Tryd.results117, go_sem, show (#[Value.int IntKind.u32 1779033703, Value.int IntKind.u32 3144134277, Value.int IntKind.u32 1013904242, Value.int IntKind.u32 2773480762, Value.int IntKind.u32 1359893119, Value.int IntKind.u32 2600822924, Value.int IntKind.u32 528734635, Value.int IntKind.u32 1541459225] : Array Value) = s8C S8.start from rfl]) rfl ⟨rfl, below1 _ _⟩
theorem w_byte24 (x : UInt32) : ((x.toNat : Int) / 16777216) % 256 = ((x >>> (24 : UInt32)).toUInt8.toNat : Int) := by
  have : (x.toNat : Int) / 16777216 = ((x >>> (24 : UInt32)).toNat : Int) := w_shr x 24 (by decide)
  rw [this]; simp
theorem w_byte16 (x : UInt32) : ((x.toNat : Int) / 65536) % 256 = ((x >>> (16 : UInt32)).toUInt8.toNat : Int) := by
  have : (x.toNat : Int) / 65536 = ((x >>> (16 : UInt32)).toNat : Int) := w_shr x 16 (by decide)
  rw [this]; simp
theorem w_byte8 (x : UInt32) : ((x.toNat : Int) / 256) % 256 = ((x >>> (8 : UInt32)).toUInt8.toNat : Int) := by
  have : (x.toNat : Int) / 256 = ((x >>> (8 : UInt32)).toNat : Int) := w_shr x 8 (by decide)
  rw [this]; simp
theorem w_byte0 (x : UInt32) : (x.toNat : Int) % 256 = (x.toUInt8.toNat : Int) := by simp
set_option maxRecDepth 100000 in
set_option maxHeartbeats 400000 in
theorem c_put (A : Option Addr) (n c : Nat) (xs : List UInt8) (x : UInt32) (ok : Nat → Prop) (w : World) (hR : kU8.Row ok w A n c xs) (hn : n ≤ 1099511627777) :
    Calls Tryd.prog 103 #[.slice A n c, wv x] w fun e w' => ∃ v, e = .returned v ∧ kU8.Own (fun _ => True) w.heap.size w' 5 v (xs ++ put4 x) ∧ Below w.heap.size w w' := by
  have HR := hide hR
  have hc : n ≤ c := hR.2.1
  have hm : c ≤ maxLen := hR.2.2.1
  have HN := hide hn
  clear hR hn
  go_enter Tryd.func103, Tryd.ntmps103
  go_wp2_with fail
  refine (c_clip A n c w hc hm).mono ?_
  rintro e w1 ⟨rfl, rfl⟩
  have happ : kU8.App (fun _ => True) w.heap.size w 5 (.slice A n n) xs := by
    have hR := HR.out
    have hl := hR.1
    subst hl
    exact .inr ⟨A, rfl, hR.1, Nat.le_refl _, by have := HN.out; simp only [maxLen]; omega, fun h => let ⟨b, o, e, hb, hlt, hcc⟩ := hR.2.2.2 h; ⟨b, o, e, ⟨trivial, hlt⟩, hlt, fun i x hx => let ⟨cs, h1, h2⟩ := hcc i x hx; ⟨cs, h1, h2⟩⟩⟩
  have Happ := hide happ
  clear happ
  have hlx : xs.length + 4 ≤ 1099511627781 := by have := HR.out.1; have := HN.out; omega
  have HL := hide hlx
  clear hlx
  have hb4 : w.heap.size ≤ w.heap.size := Nat.le_refl _
  have e4 : (#[.int .u8 ((x.toNat : Int) / 16777216 % 256), .int .u8 ((x.toNat : Int) / 65536 % 256), .int .u8 ((x.toNat : Int) / 256 % 256), .int .u8 ((x.toNat : Int) % 256)] : Array Value) = blC (put4 x) := by
    rw [w_byte24, w_byte16, w_byte8, w_byte0]; rfl
  go_wp2_with (at_builtin; go_loud (refine wpList_app (d := kU8) (ys := put4 x) rfl _ _ _ rfl Tryd.underlying22 u8_info rfl (by decide) 4 rfl rfl (Happ.out.alloc hb4 _) (src8 (row_all (ok := fun _ => True) (l := put4 x) (heap_alloc_new w _) trivial (show 4 ≤ maxLen by decide)).src) ?_ ?_ ?_ ?_))
  · simp
  · have := HL.out; simp only [maxLen]; omega
  · have := HL.out; omega
  · intro v1 w1 _ h2 h3 _ _
    have H2 := hide h2
    have H3 := hide ((below1 w (.cells (blC (put4 x)) 5)).trans h3)
    clear h2 h3
    go_wp2
    go_ret
    exact ⟨_, rfl, H2.out, H3.out⟩
end Go.Proofs.YtdkeflhgengblaaDoor
