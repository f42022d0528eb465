/- The document's answers of layers 1 to 3: words, the walks. No condition. -/
import Derived.Test.YtdkeflhgengblaaDoorDig4
namespace Go.Proofs.YtdkeflhgengblaaDoor
open Go.RowKit
def kW : Kd UInt32 := Kd.cell wv (fun _ => rfl) (fun _ => True)
theorem w_info : (Tryd.prog.info? 155).map (fun i => (i.zero, i.size, i.bytes)) = some (some (.int .u32 0), 1, 4) := by kernel_rfl
theorem w_info1 : (Tryd.prog.info? 155).map (·.size) = some kW.sz := by kernel_rfl
theorem row_word {ok : Nat → Prop} {w : World} {A : Option Addr} {n c : Nat} {l : List UInt32} (h : kW.Row ok w A n c l) {i : Nat} {x : UInt32} (hx : l[i]? = some x) :
    ∃ p o, (∀ wx : World, (Instr.indexAt 161 (.slice A n c) (.int .i64 (i : Int))).run Tryd.prog wx = .ok (.pointer (some ⟨p, o, none⟩)) wx) ∧ w.cell? ⟨p, o, none⟩ = some (wv x) ∧ p < w.heap.size := by
  obtain ⟨b, o, cs, h1, -, hb, hk, hr⟩ := h.index (P := Tryd.prog) Tryd.underlying161 (E := 155) w_info1 hx
  obtain ⟨rfl, -⟩ := hk
  exact ⟨b, o, h1, by simpa using hr 0 _ rfl, hb⟩
theorem row_byte {ok : Nat → Prop} {w : World} {A : Option Addr} {n c : Nat} {l : List UInt8} (h : kU8.Row ok w A n c l) {i : Nat} {x : UInt8} (hx : l[i]? = some x) :
    ∃ p o, (∀ wx : World, (Instr.indexAt 22 (.slice A n c) (.int .i64 (i : Int))).run Tryd.prog wx = .ok (.pointer (some ⟨p, o, none⟩)) wx) ∧ w.cell? ⟨p, o, none⟩ = some (bv x) ∧ p < w.heap.size := by
  obtain ⟨b, o, cs, h1, -, hb, hk, hr⟩ := h.index (P := Tryd.prog) Tryd.underlying22 (E := 5) u8_info1 hx
  obtain ⟨rfl, -⟩ := hk
  exact ⟨b, o, h1, by simpa using hr 0 _ rfl, hb⟩
theorem w_or_comm (x y : UInt32) : x ||| y = y ||| x := by
  apply UInt32.toBitVec_inj.1
  rw [UInt32.toBitVec_or, UInt32.toBitVec_or, BitVec.or_comm]
theorem rot_is2 (x : UInt32) (n s : Nat) (h : n + s = 32) (h1 : 0 < n) (h2 : 0 < s) : bits .or .u32 ((x.toNat : Int) / 2 ^ n) (((x.toNat : Int) * 2 ^ s) % 4294967296) = ((rotr x (UInt32.ofNat n)).toNat : Int) := by
  rw [← rot_is x n s h h1 h2, w_shl x s (by omega), w_shr x n (by omega), w_or, w_or, w_or_comm]
set_option maxRecDepth 100000 in
theorem c_rturn (x : UInt32) (n : Nat) (w : World) (h1 : 0 < n) (h2 : n < 32) : Calls Tryd.prog 126 #[wv x, .int .u64 (n : Int)] w fun e w' => e = .returned (wv (rotr x (UInt32.ofNat n))) ∧ w' = w := by
  have HR := hide (rot_is2 x n (32 - n) (by omega) h1 (by omega))
  have h31 : n ≤ 31 := by omega
  go_enter Tryd.func126, Tryd.ntmps126
  go_wp2
  go_ret
  refine ⟨congrArg (fun z => Ending.returned (.int .u32 z)) (?_ : bits .or .u32 ((x.toNat : Int) / 2 ^ n) (((x.toNat : Int) * 2 ^ (32 - n)) % 4294967296) = _), rfl⟩
  exact HR.out
theorem bytes_els (ok : Nat → Prop) (w : World) (l : List UInt8) : kU8.Els ok w l (l.map fun x => [bv x]) := ⟨by simp, fun i x cs hx hc => by
  rw [List.getElem?_map, hx] at hc
  rw [← Option.some.inj hc]
  exact ⟨rfl, trivial⟩⟩
theorem bytes_flat (l : List UInt8) : (l.map fun x => [bv x]).flatten = l.map bv := by induction l with
  | nil => rfl
  | cons x l ih => simp [ih]
theorem bytes_lit (w : World) (l : List UInt8) (C : Array Value) (hC : C = blC l) (n : Nat) (hn : l.length = n) (hm : n ≤ maxLen) : kU8.Own (fun _ => True) w.heap.size (w.alloc (.cells C 5)) 5 (.slice (some ⟨w.heap.size, 0, none⟩) n n) l :=
  Kd.Own.lit (css := l.map fun x => [bv x]) (bytes_els _ _ _) C (by rw [bytes_flat, hC, blC]) n hn hm _ rfl (Nat.le_refl _)
set_option maxRecDepth 100000 in
theorem c_rbytes (x : UInt32) (w : World) : Calls Tryd.prog 107 #[wv x] w fun e w' => ∃ v, e = .returned v ∧ kU8.Own (fun _ => True) w.heap.size w' 5 v (put4 x) ∧ Below w.heap.size w w' := by
  have HB := hide (w_byte16 x)
  have HC := hide (w_byte8 x)
  have HD := hide (w_byte0 x)
  go_enter Tryd.func107, Tryd.ntmps107
  go_wp2
  go_ret
  refine ⟨_, rfl, ?_, below1 _ _⟩
  rw [w_byte24, HB.out, HC.out, HD.out]
  exact bytes_lit w (put4 x) _ rfl 4 rfl (by decide)
/-- Words out of a literal. -/
theorem words_els (ok : Nat → Prop) (w : World) (l : List UInt32) : kW.Els ok w l (l.map fun x => [wv x]) := ⟨by simp, fun i x cs hx hc => by
  rw [List.getElem?_map, hx] at hc
  rw [← Option.some.inj hc]
  exact ⟨rfl, trivial⟩⟩
theorem words_flat (l : List UInt32) : (l.map fun x => [wv x]).flatten = l.map wv := by induction l with
  | nil => rfl
  | cons x l ih => simp [ih]
theorem words_lit (w : World) (l : List UInt32) (C : Array Value) (hC : C = wlC l) (n : Nat) (hn : l.length = n) (hm : n ≤ maxLen) : kW.Own (fun _ => True) w.heap.size (w.alloc (.cells C 155)) 155 (.slice (some ⟨w.heap.size, 0, none⟩) n n) l :=
  Kd.Own.lit (css := l.map fun x => [wv x]) (words_els _ _ _) C (by rw [words_flat, hC, wlC]) n hn hm _ rfl (Nat.le_refl _)
set_option maxRecDepth 100000 in
theorem c_rstart (w : World) : Calls Tryd.prog 105 #[] w fun e w' => ∃ v, e = .returned v ∧ kW.Own (fun _ => True) w.heap.size w' 155 v S8.start.list ∧ Below w.heap.size w w' := by
  go_enter Tryd.func105, Tryd.ntmps105
  go_wp2
  go_ret
  exact ⟨_, rfl, words_lit w S8.start.list _ rfl 8 rfl (by decide), below1 _ _⟩
set_option maxRecDepth 100000 in
theorem c_rprimes (w : World) : Calls Tryd.prog 125 #[] w fun e w' => ∃ v, e = .returned v ∧ kW.Own (fun _ => True) w.heap.size w' 155 v primesW ∧ Below w.heap.size w w' := by
  go_enter Tryd.func125, Tryd.ntmps125
  go_wp2
  go_ret
  exact ⟨_, rfl, words_lit w primesW _ rfl 64 rfl (by decide), below1 _ _⟩
def accL (l : List UInt8) : Nat → UInt32
  | 0 => 0
  | k + 1 => accL l k * 256 + (l.getD k 0).toUInt32
theorem accL_get (l : List UInt8) : accL l 4 = get4 l := by
  rw [get4, ← get4r_eq]
  rfl
theorem accL_step (l : List UInt8) (k : Nat) (x : UInt8) (hx : l[k]? = some x) : (accL l (k + 1)).toNat = ((accL l k).toNat * 256 + x.toNat) % 4294967296 := by
  rw [accL, List.getD_eq_getElem?_getD, hx, Option.getD_some, UInt32.toNat_add, UInt32.toNat_mul, UInt8.toNat_toUInt32]
  show ((accL l k).toNat * 256 % 4294967296 + x.toNat) % 4294967296 = _
  omega
set_option maxRecDepth 100000 in
set_option maxHeartbeats 400000 in
theorem c_rget (A : Option Addr) (n c : Nat) (l : List UInt8) (ok : Nat → Prop) (w : World) (hR : kU8.Row ok w A n c l) (h : 4 ≤ l.length) :
    Calls Tryd.prog 136 #[.slice A n c] w fun e w' => e = .returned (wv (get4 l)) ∧ w' = w := by
  have HL := hide h
  have hn4 : 4 ≤ n := by have := hR.1; omega
  have HR := hide hR
  clear hR h
  go_enter Tryd.func136, Tryd.ntmps136
  go_wp2_with fail
  go_loopw [3, 4] (fun v i wr => ∃ (k : Nat), k ≤ 4 ∧ i = .int .i64 (k : Int) ∧ v = wv (accL l k) ∧ w = wr) (fun _ i _ => 4 - (intOf i).toNat)
  case atStart => exact ⟨0, Nat.zero_le _, rfl, rfl, rfl⟩
  case round =>
    obtain ⟨k, hk, rfl, rfl, rfl⟩ := hrel
    by_cases hlt : k < 4
    · obtain ⟨x, hx⟩ : ∃ x, l[k]? = some x := ⟨_, List.getElem?_eq_getElem (by have := HL.out; omega)⟩
      obtain ⟨b0, o0, hi0, hc0, -⟩ := row_byte HR.out hx
      have HST := hide (accL_step l k x hx)
      obtain ⟨a, ha⟩ : ∃ a, a = accL l k := ⟨_, rfl⟩
      rw [← ha] at HST ⊢
      clear hx ha
      go_wp2_with fail
      go_roundw
      case rel =>
        refine ⟨k + 1, by omega, by simp, congrArg (Value.int .u32) ?_, trivial⟩
        rw [HST.out]
        try simp only [IntKind.wrap_u32']
        omega
      case measure => simp [intOf]; omega
    · obtain rfl : k = 4 := by omega
      go_wp2_with fail
      go_ret
      exact ⟨by rw [← accL_get]; rfl, rfl⟩
end Go.Proofs.YtdkeflhgengblaaDoor
