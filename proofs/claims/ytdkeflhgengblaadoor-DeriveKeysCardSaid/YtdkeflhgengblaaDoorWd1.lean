/- The walks of layer 1: words. No condition. -/
import Derived.Test.YtdkeflhgengblaaDoorAgg
import Derived.Test.YtdkeflhgengblaaDoorFld
import Derived.Test.YtdkeflhgengblaaDoorShaL
import Derived.Laws.BitsAllLaws
namespace Go.Proofs.YtdkeflhgengblaaDoor
open Go.RowKit
/-- A word. -/
abbrev wv (x : UInt32) : Value := .int .u32 (x.toNat : Int)
theorem u32_lt (x : UInt32) : (x.toNat : Int) < 4294967296 := by have := x.toNat_lt; omega
theorem w_and (x y : UInt32) : bits .and .u32 (x.toNat : Int) (y.toNat : Int) = ((x &&& y).toNat : Int) := u32_and_nat _ _ x.toNat_lt y.toNat_lt
theorem w_or (x y : UInt32) : bits .or .u32 (x.toNat : Int) (y.toNat : Int) = ((x ||| y).toNat : Int) := u32_or_nat _ _ x.toNat_lt y.toNat_lt
theorem w_xor (x y : UInt32) : bits .xor .u32 (x.toNat : Int) (y.toNat : Int) = ((x ^^^ y).toNat : Int) := u32_xor_nat _ _ x.toNat_lt y.toNat_lt
theorem w_not (x : UInt32) : bits .xor .u32 IntKind.u32.max (x.toNat : Int) = ((~~~x).toNat : Int) := by
  rw [show IntKind.u32.max = ((4294967295 : UInt32).toNat : Int) from rfl, w_xor]
  congr 1
theorem w_add (x y : UInt32) : ((x.toNat : Int) + (y.toNat : Int)) % 4294967296 = ((x + y).toNat : Int) := by rw [UInt32.toNat_add]; omega
theorem w_shr (x : UInt32) (n : Nat) (h : n < 32) : (x.toNat : Int) / 2 ^ n = ((x >>> UInt32.ofNat n).toNat : Int) := by
  rw [UInt32.toNat_shiftRight, UInt32.toNat_ofNat_of_lt' (by show n < 4294967296; omega), Nat.mod_eq_of_lt h, Nat.shiftRight_eq_div_pow]
  simp
theorem w_shl (x : UInt32) (n : Nat) (h : n < 32) : ((x.toNat : Int) * 2 ^ n) % 4294967296 = ((x <<< UInt32.ofNat n).toNat : Int) := by
  rw [UInt32.toNat_shiftLeft, UInt32.toNat_ofNat_of_lt' (by show n < 4294967296; omega), Nat.mod_eq_of_lt h, Nat.shiftLeft_eq]
  simp
set_option maxRecDepth 100000 in
theorem c_choose (x y z : UInt32) (w : World) : Calls Tryd.prog 120 #[wv x, wv y, wv z] w fun e w' => e = .returned (wv (chooseW x y z)) ∧ w' = w := by
  go_enter Tryd.func120, Tryd.ntmps120
  go_wp2
  go_ret
  simp only [w_and, w_not, w_xor]
  exact ⟨rfl, trivial⟩
set_option maxRecDepth 100000 in
theorem c_most (x y z : UInt32) (w : World) : Calls Tryd.prog 122 #[wv x, wv y, wv z] w fun e w' => e = .returned (wv (mostW x y z)) ∧ w' = w := by
  go_enter Tryd.func122, Tryd.ntmps122
  go_wp2
  go_ret
  simp only [w_and, w_xor]
  exact ⟨rfl, trivial⟩
theorem rot_is (x : UInt32) (n s : Nat) (h : n + s = 32) (h1 : 0 < n) (h2 : 0 < s) : bits .or .u32 (((x.toNat : Int) * 2 ^ s) % 4294967296) ((x.toNat : Int) / 2 ^ n) = ((rotr x (UInt32.ofNat n)).toNat : Int) := by
  rw [w_shl x s (by omega), w_shr x n (by omega), w_or, rotr]
  congr 4
  apply UInt32.toNat_inj.1
  rw [UInt32.toNat_sub, UInt32.toNat_ofNat_of_lt' (show s < UInt32.size by show s < 4294967296; omega), UInt32.toNat_ofNat_of_lt' (show n < UInt32.size by show n < 4294967296; omega)]
  show s = (4294967296 - n + 32) % 4294967296
  omega
set_option maxRecDepth 100000 in
theorem c_rotl (x : UInt32) (n s : Nat) (k : Int) (w : World) (h : n + s = 32) (h1 : 0 < n) (h2 : 0 < s) (hb : bits .and .u64 (IntKind.u64.wrap k) 31 = (s : Int)) : Calls Tryd.prog 143 #[wv x, .int .i64 k] w fun e w' => e = .returned (wv (rotr x (UInt32.ofNat n))) ∧ w' = w := by
  have hr := rot_is x n s h h1 h2
  have hn : n = 32 - s := by omega
  have hs : s ≤ 31 := by omega
  rw [hn] at hr
  go_enter Tryd.func143, Tryd.ntmps143
  go_wp2
  go_ret
  refine ⟨?_, rfl⟩
  rw [hn]
  rfl
def rotOk (n : Nat) : Bool := decide (0 < n) && decide (n < 32) && decide (bits .and .u64 (IntKind.u64.wrap (-((n : Int) % 32))) 31 = ((32 - n : Nat) : Int))
set_option maxRecDepth 100000 in
theorem c_turn (x : UInt32) (n : Nat) (w : World) (h : rotOk n = true) : Calls Tryd.prog 135 #[wv x, .int .i64 (n : Int)] w fun e w' => e = .returned (wv (rotr x (UInt32.ofNat n))) ∧ w' = w := by
  simp only [rotOk, Bool.and_eq_true, decide_eq_true_eq] at h
  obtain ⟨⟨h1, h2⟩, h3⟩ := h
  have h31 : n ≤ 31 := by omega
  go_enter Tryd.func135, Tryd.ntmps135
  go_wp2_with fail
  refine (c_rotl x n (32 - n) _ w (by omega) h1 (by omega) h3).mono ?_
  rintro e w' ⟨rfl, rfl⟩
  go_wp2
  go_ret
  exact ⟨rfl, rfl⟩
set_option maxRecDepth 100000 in
theorem c_great0 (x : UInt32) (w : World) : Calls Tryd.prog 119 #[.int .i64 0, wv x] w fun e w' => e = .returned (wv (great0 x)) ∧ w' = w := by
  go_enter Tryd.func119, Tryd.ntmps119
  go_wp2_with fail
  refine (c_turn x 2 w (by decide)).mono ?_
  rintro e w' ⟨rfl, rfl⟩
  go_wp2_with fail
  refine (c_turn x 13 w' (by decide)).mono ?_
  rintro e w' ⟨rfl, rfl⟩
  go_wp2_with fail
  refine (c_turn x 22 w' (by decide)).mono ?_
  rintro e w' ⟨rfl, rfl⟩
  go_wp2_with fail
  go_ret
  simp only [w_xor]
  exact ⟨rfl, trivial⟩
set_option maxRecDepth 100000 in
theorem c_great1 (x : UInt32) (w : World) : Calls Tryd.prog 119 #[.int .i64 1, wv x] w fun e w' => e = .returned (wv (great1 x)) ∧ w' = w := by
  go_enter Tryd.func119, Tryd.ntmps119
  go_wp2_with fail
  refine (c_turn x 6 w (by decide)).mono ?_
  rintro e w' ⟨rfl, rfl⟩
  go_wp2_with fail
  refine (c_turn x 11 w' (by decide)).mono ?_
  rintro e w' ⟨rfl, rfl⟩
  go_wp2_with fail
  refine (c_turn x 25 w' (by decide)).mono ?_
  rintro e w' ⟨rfl, rfl⟩
  go_wp2_with fail
  go_ret
  simp only [w_xor]
  exact ⟨rfl, trivial⟩
set_option maxRecDepth 100000 in
theorem c_small0 (x : UInt32) (w : World) : Calls Tryd.prog 134 #[.int .i64 0, wv x] w fun e w' => e = .returned (wv (small0 x)) ∧ w' = w := by
  go_enter Tryd.func134, Tryd.ntmps134
  go_wp2_with fail
  refine (c_turn x 7 w (by decide)).mono ?_
  rintro e w' ⟨rfl, rfl⟩
  go_wp2_with fail
  refine (c_turn x 18 w' (by decide)).mono ?_
  rintro e w' ⟨rfl, rfl⟩
  go_wp2_with fail
  go_ret
  refine ⟨congrArg (fun z => Ending.returned (.int .u32 z)) (?_ : bits .xor .u32 (bits .xor .u32 ((rotr x 7).toNat : Int) ((rotr x 18).toNat : Int)) ((x.toNat : Int) / (8 : Int)) = _), rfl⟩
  have h3 : (x.toNat : Int) / (8 : Int) = ((x >>> 3).toNat : Int) := w_shr x 3 (by decide)
  rw [w_xor, h3, w_xor]
  rfl
set_option maxRecDepth 100000 in
theorem c_small1 (x : UInt32) (w : World) : Calls Tryd.prog 134 #[.int .i64 1, wv x] w fun e w' => e = .returned (wv (small1 x)) ∧ w' = w := by
  go_enter Tryd.func134, Tryd.ntmps134
  go_wp2_with fail
  refine (c_turn x 17 w (by decide)).mono ?_
  rintro e w' ⟨rfl, rfl⟩
  go_wp2_with fail
  refine (c_turn x 19 w' (by decide)).mono ?_
  rintro e w' ⟨rfl, rfl⟩
  go_wp2_with fail
  go_ret
  refine ⟨congrArg (fun z => Ending.returned (.int .u32 z)) (?_ : bits .xor .u32 (bits .xor .u32 ((rotr x 17).toNat : Int) ((rotr x 19).toNat : Int)) ((x.toNat : Int) / (1024 : Int)) = _), rfl⟩
  have h3 : (x.toNat : Int) / (1024 : Int) = ((x >>> 10).toNat : Int) := w_shr x 10 (by decide)
  rw [w_xor, h3, w_xor]
  rfl
/-- The words of cube roots lie where the program's text lays them. -/
def PrimesAt (w : World) : Prop := 0 < w.heap.size ∧ ∀ (i : Nat) (p : UInt32), primesW[i]? = some p → w.cell? ⟨0, i, none⟩ = some (wv p)
theorem PrimesAt.below {B : Nat} {w w' : World} (h : PrimesAt w) (hb : Below B w w') (hB : 0 < B) : PrimesAt w' :=
  ⟨Nat.lt_of_lt_of_le h.1 hb.size, fun i p hi => (World.cell?_of_block (a := ⟨0, i, none⟩) (hb.block 0 hB)).trans (h.2 i p hi)⟩
theorem PrimesAt.ext {w w' : World} (h : PrimesAt w) (hb : Below w.heap.size w w') : PrimesAt w' := h.below hb h.1
set_option maxRecDepth 100000 in
theorem c_prime (i : Nat) (w : World) (hP : PrimesAt w) (hi : i < 64) : Calls Tryd.prog 121 #[.int .i64 (i : Int)] w fun e w' => e = .returned (wv (primesW.getD i 0)) ∧ w' = w := by
  have hc : w.cell? ⟨0, i, none⟩ = some (wv (primesW.getD i 0)) := hP.2 i _ (by
    have : primesW.length = 64 := by decide
    rw [List.getD_eq_getElem?_getD, List.getElem?_eq_getElem (by omega)]; rfl)
  obtain ⟨p, hp⟩ : ∃ p, p = primesW.getD i 0 := ⟨_, rfl⟩
  rw [← hp] at hc ⊢
  clear hp hP
  go_enter Tryd.func121, Tryd.ntmps121
  go_wp2_with fail
  go_ret
  exact ⟨rfl, rfl⟩
end Go.Proofs.YtdkeflhgengblaaDoor
