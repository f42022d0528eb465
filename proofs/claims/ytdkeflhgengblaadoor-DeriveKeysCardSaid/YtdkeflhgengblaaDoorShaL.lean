/- The plain law of layers 1 to 4: SHA-256 and HMAC of bytes; one mac reckoned by the kernel. No condition. -/
import Derived.Below
namespace Go.Proofs.YtdkeflhgengblaaDoor
/-- Bits, round about: n places lower. -/
def rotr (x n : UInt32) : UInt32 := x <<< (32 - n) ||| x >>> n
def great0 (x : UInt32) : UInt32 := rotr x 2 ^^^ rotr x 13 ^^^ rotr x 22
def great1 (x : UInt32) : UInt32 := rotr x 6 ^^^ rotr x 11 ^^^ rotr x 25
def small0 (x : UInt32) : UInt32 := rotr x 7 ^^^ rotr x 18 ^^^ x >>> 3
def small1 (x : UInt32) : UInt32 := rotr x 17 ^^^ rotr x 19 ^^^ x >>> 10
def chooseW (x y z : UInt32) : UInt32 := (x &&& y) ^^^ (~~~x &&& z)
def mostW (x y z : UInt32) : UInt32 := (x &&& y) ^^^ (x &&& z) ^^^ (y &&& z)
def primesW : List UInt32 := [
0x428a2f98, 0x71374491, 0xb5c0fbcf, 0xe9b5dba5, 0x3956c25b, 0x59f111f1, 0x923f82a4, 0xab1c5ed5,
0xd807aa98, 0x12835b01, 0x243185be, 0x550c7dc3, 0x72be5d74, 0x80deb1fe, 0x9bdc06a7, 0xc19bf174,
0xe49b69c1, 0xefbe4786, 0x0fc19dc6, 0x240ca1cc, 0x2de92c6f, 0x4a7484aa, 0x5cb0a9dc, 0x76f988da,
0x983e5152, 0xa831c66d, 0xb00327c8, 0xbf597fc7, 0xc6e00bf3, 0xd5a79147, 0x06ca6351, 0x14292967,
0x27b70a85, 0x2e1b2138, 0x4d2c6dfc, 0x53380d13, 0x650a7354, 0x766a0abb, 0x81c2c92e, 0x92722c85,
0xa2bfe8a1, 0xa81a664b, 0xc24b8b70, 0xc76c51a3, 0xd192e819, 0xd6990624, 0xf40e3585, 0x106aa070,
0x19a4c116, 0x1e376c08, 0x2748774c, 0x34b0bcb5, 0x391c0cb3, 0x4ed8aa4a, 0x5b9cca4f, 0x682e6ff3,
0x748f82ee, 0x78a5636f, 0x84c87814, 0x8cc70208, 0x90befffa, 0xa4506ceb, 0xbef9a3f7, 0xc67178f2]
def get4 (l : List UInt8) : UInt32 := (l.getD 0 0).toUInt32 <<< 24 ||| (l.getD 1 0).toUInt32 <<< 16 ||| (l.getD 2 0).toUInt32 <<< 8 ||| (l.getD 3 0).toUInt32
def put4 (x : UInt32) : List UInt8 := [(x >>> 24).toUInt8, (x >>> 16).toUInt8, (x >>> 8).toUInt8, x.toUInt8]
/-- The next word of a schedule. -/
def nextW (b : List UInt8) (w : List UInt32) : UInt32 :=
  if w.length < 16 then get4 (b.drop (4 * w.length)) else small1 (w.getD (w.length - 2) 0) + w.getD (w.length - 7) 0 + small0 (w.getD (w.length - 15) 0) + w.getD (w.length - 16) 0
def schedN (b : List UInt8) : Nat → List UInt32
  | 0 => []
  | n + 1 => schedN b n ++ [nextW b (schedN b n)]
structure S8 where
  (a b c d e f g h : UInt32)
  deriving DecidableEq
def S8.start : S8 := ⟨0x6a09e667, 0xbb67ae85, 0x3c6ef372, 0xa54ff53a, 0x510e527f, 0x9b05688c, 0x1f83d9ab, 0x5be0cd19⟩
def S8.turn (s : S8) (k w : UInt32) : S8 :=
  let t := s.h + great1 s.e + chooseW s.e s.f s.g + k + w
  let u := great0 s.a + mostW s.a s.b s.c
  ⟨t + u, s.a, s.b, s.c, s.d + t, s.e, s.f, s.g⟩
def S8.add (s h : S8) : S8 := ⟨s.a + h.a, s.b + h.b, s.c + h.c, s.d + h.d, s.e + h.e, s.f + h.f, s.g + h.g, s.h + h.h⟩
def turns (s : S8) (w : List UInt32) : Nat → S8
  | 0 => s
  | n + 1 => (turns s w n).turn (primesW.getD n 0) (w.getD n 0)
def compress (h : S8) (b : List UInt8) : S8 := (turns h (schedN b 64) 64).add h
/-- All whole blocks of bytes. -/
def blocks (h : S8) (xs : List UInt8) : S8 := if 64 ≤ xs.length then blocks (compress h (xs.take 64)) (xs.drop 64) else h
  termination_by xs.length
  decreasing_by simp only [List.length_drop]; omega
theorem blocks_lt {h : S8} {xs : List UInt8} (hx : xs.length < 64) : blocks h xs = h := by rw [blocks, if_neg (by omega)]
theorem blocks_ge {h : S8} {xs : List UInt8} (hx : 64 ≤ xs.length) : blocks h xs = blocks (compress h (xs.take 64)) (xs.drop 64) := by rw [blocks, if_pos hx]
theorem blocks_append : ∀ (n : Nat) (h : S8) (xs ys : List UInt8), xs.length = 64 * n → blocks h (xs ++ ys) = blocks (blocks h xs) ys
  | 0, h, xs, ys, hn => by
    obtain rfl : xs = [] := List.eq_nil_of_length_eq_zero (by omega)
    rw [blocks_lt (h := h) (xs := []) (by decide), List.nil_append]
  | n + 1, h, xs, ys, hn => by
    rw [blocks_ge (xs := xs ++ ys) (by rw [List.length_append]; omega), blocks_ge (xs := xs) (by omega), List.take_append_of_le_length (by omega), List.drop_append_of_le_length (by omega)]
    exact blocks_append n _ _ _ (by rw [List.length_drop]; omega)
theorem blocks_one {h : S8} {xs : List UInt8} (hx : xs.length = 64) : blocks h xs = compress h xs := by
  rw [blocks_ge (by omega), List.take_of_length_le (by omega), List.drop_eq_nil_of_le (by omega), blocks_lt (by decide)]
def blocksF : Nat → S8 → List UInt8 → S8
  | 0, h, _ => h
  | n + 1, h, xs => if 64 ≤ xs.length then blocksF n (compress h (xs.take 64)) (xs.drop 64) else h
theorem blocksF_is : ∀ (n : Nat) (h : S8) (xs : List UInt8), xs.length < 64 * n → blocksF n h xs = blocks h xs
  | 0, h, xs, hn => by omega
  | n + 1, h, xs, hn => by
    rw [blocksF]
    split
    · rename_i hx
      rw [blocks_ge hx]
      exact blocksF_is n _ _ (by rw [List.length_drop]; omega)
    · rename_i hx
      rw [blocks_lt (by omega)]
def padN (n : Nat) : List UInt8 := 128 :: List.replicate ((119 - n % 64) % 64) 0 ++ put4 (UInt32.ofNat (n / 536870912)) ++ put4 (UInt32.ofNat (n * 8))
def S8.list (s : S8) : List UInt32 := [s.a, s.b, s.c, s.d, s.e, s.f, s.g, s.h]
def S8.bytes (s : S8) : List UInt8 := s.list.flatMap put4
def sha (xs : List UInt8) : List UInt8 := (blocksF (xs.length / 64 + 3) S8.start (xs ++ padN xs.length)).bytes
theorem padN_len (n : Nat) : (padN n).length = 9 + (119 - n % 64) % 64 := by
  simp only [padN, List.length_append, List.length_cons, List.length_replicate, put4, List.length_nil]; omega
theorem padN_whole (n : Nat) : (n + (padN n).length) % 64 = 0 := by rw [padN_len]; omega
theorem sha_eq (xs : List UInt8) : sha xs = (blocks S8.start (xs ++ padN xs.length)).bytes := by
  rw [sha, blocksF_is]
  rw [List.length_append, padN_len]; omega
theorem put4_len (x : UInt32) : (put4 x).length = 4 := rfl
theorem bytes_len (s : S8) : s.bytes.length = 32 := rfl
theorem sha_len (xs : List UInt8) : (sha xs).length = 32 := rfl
def keyB (key : List UInt8) : List UInt8 := (if 64 < key.length then sha key else key)
def keyX (key : List UInt8) (by_ : UInt8) : List UInt8 := (keyB key ++ List.replicate (64 - (keyB key).length) 0).map (· ^^^ by_)
def mac (key xs : List UInt8) : List UInt8 := sha (keyX key 0x5c ++ sha (keyX key 0x36 ++ xs))

/-! ### the same, each number forced: for the kernel -/
def forceW {α : Type} (x : UInt32) (k : UInt32 → α) : α := Nat.rec (motive := fun _ => α) (k (UInt32.ofNat 0)) (fun m _ => k (UInt32.ofNat (m + 1))) x.toNat
theorem forceW_eq {α : Type} (x : UInt32) (k : UInt32 → α) : forceW x k = k x := by
  have h : ∀ n : Nat, (Nat.rec (motive := fun _ => α) (k (UInt32.ofNat 0)) (fun m _ => k (UInt32.ofNat (m + 1))) n : α) = k (UInt32.ofNat n) := by
    intro n; cases n <;> rfl
  rw [forceW, h, UInt32.ofNat_toNat]
def forceB {α : Type} (x : UInt8) (k : UInt8 → α) : α := Nat.rec (motive := fun _ => α) (k (UInt8.ofNat 0)) (fun m _ => k (UInt8.ofNat (m + 1))) x.toNat
theorem forceB_eq {α : Type} (x : UInt8) (k : UInt8 → α) : forceB x k = k x := by
  have h : ∀ n : Nat, (Nat.rec (motive := fun _ => α) (k (UInt8.ofNat 0)) (fun m _ => k (UInt8.ofNat (m + 1))) n : α) = k (UInt8.ofNat n) := by
    intro n; cases n <;> rfl
  rw [forceB, h, UInt8.ofNat_toNat]
def forceL {α : Type} : List UInt8 → (List UInt8 → α) → α
  | [], k => k []
  | x :: l, k => forceB x fun y => forceL l fun m => k (y :: m)
theorem forceL_eq {α : Type} (l : List UInt8) (k : List UInt8 → α) : forceL l k = k l := by
  induction l generalizing k with
  | nil => rfl
  | cons x l ih => rw [forceL, forceB_eq, ih]
def schedF {α : Type} (b : List UInt8) (k : List UInt32 → α) : Nat → List UInt32 → α
  | 0, w => k w
  | n + 1, w => forceW (nextW b w) fun x => schedF b k n (w ++ [x])
theorem schedF_eq {α : Type} (b : List UInt8) (k : List UInt32 → α) : ∀ n m, schedF b k n (schedN b m) = k (schedN b (m + n))
  | 0, m => rfl
  | n + 1, m => by
    rw [schedF, forceW_eq, show schedN b m ++ [nextW b (schedN b m)] = schedN b (m + 1) from rfl, schedF_eq b k n (m + 1), Nat.add_right_comm, Nat.add_assoc]
def S8.force {α : Type} (s : S8) (k : S8 → α) : α := forceW s.a fun a => forceW s.b fun b => forceW s.c fun c => forceW s.d fun d => forceW s.e fun e => forceW s.f fun f => forceW s.g fun g => forceW s.h fun h => k ⟨a, b, c, d, e, f, g, h⟩
theorem S8.force_eq {α : Type} (s : S8) (k : S8 → α) : s.force k = k s := by simp [S8.force, forceW_eq]
def turnsF {α : Type} (k : S8 → α) : List UInt32 → List UInt32 → S8 → α
  | p :: ps, w :: ws, s => (s.turn p w).force fun s' => turnsF k ps ws s'
  | _, _, s => k s
theorem turnsF_eq {α : Type} (k : S8 → α) (s0 : S8) (w : List UInt32) (hw : w.length = 64) : ∀ n m, n + m = 64 → turnsF k (primesW.drop m) (w.drop m) (turns s0 w m) = k (turns s0 w 64)
  | 0, m, h => by
    obtain rfl : m = 64 := by omega
    rw [List.drop_eq_nil_of_le (by decide)]
    rfl
  | n + 1, m, h => by
    have hp : primesW.length = 64 := by decide
    rw [List.drop_eq_getElem_cons (show m < primesW.length by omega), List.drop_eq_getElem_cons (show m < w.length by omega), turnsF, S8.force_eq]
    have e : (turns s0 w m).turn primesW[m] w[m] = turns s0 w (m + 1) := by
      rw [turns, List.getD_eq_getElem?_getD, List.getD_eq_getElem?_getD, List.getElem?_eq_getElem (show m < primesW.length by omega), List.getElem?_eq_getElem (show m < w.length by omega)]
      rfl
    rw [e]
    exact turnsF_eq k s0 w hw n (m + 1) (by omega)
theorem schedN_len (b : List UInt8) : ∀ n, (schedN b n).length = n
  | 0 => rfl
  | n + 1 => by rw [schedN, List.length_append, schedN_len b n]; rfl
def compressF {α : Type} (h : S8) (b : List UInt8) (k : S8 → α) : α := forceL b fun b => schedF b (fun w => turnsF (fun s => (s.add h).force k) primesW w h) 64 []
theorem compressF_eq {α : Type} (h : S8) (b : List UInt8) (k : S8 → α) : compressF h b k = k (compress h b) := by
  have h1 := schedF_eq b (fun w => turnsF (fun s => (s.add h).force k) primesW w h) 64 0
  have h2 := turnsF_eq (fun s => (s.add h).force k) h (schedN b 64) (schedN_len b 64) 64 0 rfl
  rw [compressF, forceL_eq]
  rw [show schedN b 0 = [] from rfl] at h1
  rw [h1, Nat.zero_add]
  rw [List.drop_zero, List.drop_zero] at h2
  rw [show turns h (schedN b 64) 0 = h from rfl] at h2
  rw [h2, S8.force_eq]
  rfl
def blocksG {α : Type} (k : S8 → α) : Nat → S8 → List UInt8 → α
  | 0, h, _ => k h
  | n + 1, h, xs => if 64 ≤ xs.length then compressF h (xs.take 64) fun h' => blocksG k n h' (xs.drop 64) else k h
theorem blocksG_eq {α : Type} (k : S8 → α) : ∀ n h xs, blocksG k n h xs = k (blocksF n h xs)
  | 0, _, _ => rfl
  | n + 1, h, xs => by
    rw [blocksG, blocksF]
    split
    · rw [compressF_eq, blocksG_eq k n]
    · rfl
def shaF {α : Type} (xs : List UInt8) (k : List UInt8 → α) : α := forceL (xs ++ padN xs.length) fun ys => blocksG (fun s => forceL s.bytes k) (xs.length / 64 + 3) S8.start ys
theorem shaF_eq {α : Type} (xs : List UInt8) (k : List UInt8 → α) : shaF xs k = k (sha xs) := by
  rw [shaF, forceL_eq, blocksG_eq, forceL_eq]
  rfl
def macF {α : Type} (key xs : List UInt8) (k : List UInt8 → α) : α := shaF (keyX key 0x36 ++ xs) fun s => shaF (keyX key 0x5c ++ s) k
theorem macF_eq {α : Type} (key xs : List UInt8) (k : List UInt8 → α) : macF key xs k = k (mac key xs) := by
  rw [macF, shaF_eq, shaF_eq]
  rfl
theorem mac_len (key xs : List UInt8) : (mac key xs).length = 32 := rfl
theorem keyB_le (key : List UInt8) : (keyB key).length ≤ 64 := by
  unfold keyB
  split
  · rw [sha_len]; decide
  · omega
theorem keyX_len (key : List UInt8) (b : UInt8) : (keyX key b).length = 64 := by
  have := keyB_le key
  simp only [keyX, List.length_map, List.length_append, List.length_replicate]; omega
theorem choose_or (x y z : UInt32) : (x &&& y) ||| ((x ^^^ 4294967295) &&& z) = chooseW x y z := by
  rw [chooseW]
  apply UInt32.toBitVec_inj.1
  apply BitVec.eq_of_getLsbD_eq
  intro i hi
  have h : (4294967295#32) = BitVec.allOnes 32 := by decide
  simp [hi]
  rw [h, BitVec.getElem_allOnes]
  cases x.toBitVec[i] <;> cases y.toBitVec[i] <;> cases z.toBitVec[i] <;> rfl
theorem most_or (x y z : UInt32) : ((x &&& y) ||| (x &&& z)) ||| (y &&& z) = mostW x y z := by
  rw [mostW]
  apply UInt32.toBitVec_inj.1
  apply BitVec.eq_of_getLsbD_eq
  intro i hi
  simp [hi]
  cases x.toBitVec[i] <;> cases y.toBitVec[i] <;> cases z.toBitVec[i] <;> rfl
theorem div8 (x : UInt32) : x / (8 : UInt32) = x >>> (3 : UInt32) := by
  apply UInt32.toNat_inj.1
  simp [Nat.shiftRight_eq_div_pow]
theorem div1024 (x : UInt32) : x / (1024 : UInt32) = x >>> (10 : UInt32) := by
  apply UInt32.toNat_inj.1
  simp [Nat.shiftRight_eq_div_pow]
theorem put4_div (x : UInt32) : [(x / 16777216).toUInt8, (x / 65536 % 256).toUInt8, (x / 256 % 256).toUInt8, (x % 256).toUInt8] = put4 x := by
  unfold put4
  congr 1
  · apply UInt8.toNat_inj.1
    simp [Nat.shiftRight_eq_div_pow]
  congr 1
  · apply UInt8.toNat_inj.1
    simp [Nat.shiftRight_eq_div_pow]
  congr 1
  · apply UInt8.toNat_inj.1
    simp [Nat.shiftRight_eq_div_pow]
  congr 1
  apply UInt8.toNat_inj.1
  simp
theorem or_add8 (x : UInt32) (b : UInt8) (h : x.toNat < 16777216) : (x <<< 8 ||| b.toUInt32) = x * 256 + b.toUInt32 := by
  apply UInt32.toNat_inj.1
  have hb : b.toNat < 2 ^ 8 := b.toNat_lt
  simp only [UInt32.toNat_or, UInt32.toNat_shiftLeft, UInt8.toNat_toUInt32, UInt32.toNat_add, UInt32.toNat_mul, UInt32.reduceToNat, Nat.reduceMod]
  rw [Nat.mod_eq_of_lt (a := x.toNat <<< 8) (by rw [Nat.shiftLeft_eq]; omega), ← Nat.shiftLeft_add_eq_or_of_lt hb, Nat.shiftLeft_eq]
  omega
def get4r (b0 b1 b2 b3 : UInt8) : UInt32 := (((0 * 256 + b0.toUInt32) * 256 + b1.toUInt32) * 256 + b2.toUInt32) * 256 + b3.toUInt32
theorem get4r_eq (b0 b1 b2 b3 : UInt8) : get4r b0 b1 b2 b3 = b0.toUInt32 <<< 24 ||| b1.toUInt32 <<< 16 ||| b2.toUInt32 <<< 8 ||| b3.toUInt32 := by
  have h0 : b0.toNat < 2 ^ 8 := b0.toNat_lt
  have h1 : b1.toNat < 2 ^ 8 := b1.toNat_lt
  have h2 : b2.toNat < 2 ^ 8 := b2.toNat_lt
  have h3 : b3.toNat < 2 ^ 8 := b3.toNat_lt
  apply UInt32.toNat_inj.1
  simp only [get4r, UInt32.toNat_or, UInt32.toNat_shiftLeft, UInt8.toNat_toUInt32, UInt32.toNat_add, UInt32.toNat_mul, UInt32.reduceToNat, Nat.reduceMod, Nat.shiftLeft_eq]
  rw [Nat.mod_eq_of_lt (a := b0.toNat * 2 ^ 24) (by omega), Nat.mod_eq_of_lt (a := b1.toNat * 2 ^ 16) (by omega), Nat.mod_eq_of_lt (a := b2.toNat * 2 ^ 8) (by omega)]
  have e1 : b0.toNat * 2 ^ 24 ||| b1.toNat * 2 ^ 16 = b0.toNat * 2 ^ 24 + b1.toNat * 2 ^ 16 := by
    rw [← Nat.shiftLeft_eq b0.toNat 24, ← Nat.shiftLeft_add_eq_or_of_lt (show b1.toNat * 2 ^ 16 < 2 ^ 24 by omega)]
  have e2 : (b0.toNat * 2 ^ 24 + b1.toNat * 2 ^ 16) ||| b2.toNat * 2 ^ 8 = b0.toNat * 2 ^ 24 + b1.toNat * 2 ^ 16 + b2.toNat * 2 ^ 8 := by
    rw [show b0.toNat * 2 ^ 24 + b1.toNat * 2 ^ 16 = (b0.toNat * 2 ^ 8 + b1.toNat) <<< 16 by rw [Nat.shiftLeft_eq]; omega, ← Nat.shiftLeft_add_eq_or_of_lt (show b2.toNat * 2 ^ 8 < 2 ^ 16 by omega)]
  have e3 : (b0.toNat * 2 ^ 24 + b1.toNat * 2 ^ 16 + b2.toNat * 2 ^ 8) ||| b3.toNat = b0.toNat * 2 ^ 24 + b1.toNat * 2 ^ 16 + b2.toNat * 2 ^ 8 + b3.toNat := by
    rw [show b0.toNat * 2 ^ 24 + b1.toNat * 2 ^ 16 + b2.toNat * 2 ^ 8 = (b0.toNat * 2 ^ 16 + b1.toNat * 2 ^ 8 + b2.toNat) <<< 8 by rw [Nat.shiftLeft_eq]; omega, ← Nat.shiftLeft_add_eq_or_of_lt h3]
  rw [e1, e2, e3]
  omega
/-- The eight bytes of a number of bits. -/
theorem bits_put4 (n : Nat) (h : n < 2305843009213693952) : put4 (UInt32.ofNat (n / 536870912)) ++ put4 (UInt32.ofNat (n * 8)) = [7, 6, 5, 4, 3, 2, 1, 0].map fun i => UInt8.ofNat (n * 8 / 256 ^ i) := by
  simp only [put4, List.map_cons, List.map_nil, List.cons_append, List.nil_append]
  congr 1
  · apply UInt8.toNat_inj.1; simp [Nat.shiftRight_eq_div_pow]; omega
  congr 1
  · apply UInt8.toNat_inj.1; simp [Nat.shiftRight_eq_div_pow]; omega
  congr 1
  · apply UInt8.toNat_inj.1; simp [Nat.shiftRight_eq_div_pow]; omega
  congr 1
  · apply UInt8.toNat_inj.1; simp; omega
  congr 1
  · apply UInt8.toNat_inj.1; simp [Nat.shiftRight_eq_div_pow]; omega
  congr 1
  · apply UInt8.toNat_inj.1; simp [Nat.shiftRight_eq_div_pow]; omega
  congr 1
  · apply UInt8.toNat_inj.1; simp [Nat.shiftRight_eq_div_pow]; omega
  congr 1
  apply UInt8.toNat_inj.1; simp
/-- Bytes written: whole blocks are taken, a tail is kept. -/
def Split (xs : List UInt8) (h : S8) (tail : List UInt8) : Prop := ∃ head k, xs = head ++ tail ∧ head.length = 64 * k ∧ h = blocks S8.start head ∧ tail.length < 64
theorem Split.start : Split [] S8.start [] := ⟨[], 0, rfl, rfl, (blocks_lt (by decide)).symm, by decide⟩
theorem Split.len {xs : List UInt8} {h : S8} {tail : List UInt8} (H : Split xs h tail) : tail.length = xs.length % 64 := by
  obtain ⟨head, k, rfl, hk, -, hl⟩ := H
  rw [List.length_append, hk]; omega
theorem Split.more {xs : List UInt8} {h : S8} {tail : List UInt8} (H : Split xs h tail) {c : List UInt8} (hc : tail.length + c.length < 64) : Split (xs ++ c) h (tail ++ c) := by
  obtain ⟨head, k, rfl, hk, hh, hl⟩ := H
  exact ⟨head, k, List.append_assoc _ _ _, hk, hh, by rw [List.length_append]; exact hc⟩
theorem Split.full {xs : List UInt8} {h : S8} {tail : List UInt8} (H : Split xs h tail) {c : List UInt8} (hc : tail.length + c.length = 64) : Split (xs ++ c) (compress h (tail ++ c)) [] := by
  obtain ⟨head, k, rfl, hk, rfl, hl⟩ := H
  have h1 : (tail ++ c).length = 64 := by rw [List.length_append]; exact hc
  refine ⟨head ++ (tail ++ c), k + 1, by simp, by rw [List.length_append, h1]; omega, ?_, by decide⟩
  rw [blocks_append k _ _ _ hk, blocks_one h1]
theorem Split.sum {xs : List UInt8} {h : S8} {tail : List UInt8} (H : Split (xs ++ padN xs.length) h tail) : h.bytes = sha xs := by
  have h1 := H.len
  rw [List.length_append, padN_whole] at h1
  obtain ⟨head, k, e, hk, rfl, hl⟩ := H
  obtain rfl := List.eq_nil_of_length_eq_zero h1
  rw [List.append_nil] at e
  rw [← e, sha_eq]
set_option maxRecDepth 100000 in
theorem alive_mac : (mac [74, 101, 102, 101] [119, 104, 97, 116, 32, 100, 111, 32, 121, 97, 32, 119, 97, 110, 116, 32, 102, 111, 114, 32, 110, 111, 116, 104, 105, 110, 103, 63]).take 4 = [0x5b, 0xdc, 0xc1, 0x46] := by
  have h := macF_eq [74, 101, 102, 101] [119, 104, 97, 116, 32, 100, 111, 32, 121, 97, 32, 119, 97, 110, 116, 32, 102, 111, 114, 32, 110, 111, 116, 104, 105, 110, 103, 63] (fun l => decide (l.take 4 = [0x5b, 0xdc, 0xc1, 0x46]))
  have h' : macF [74, 101, 102, 101] [119, 104, 97, 116, 32, 100, 111, 32, 121, 97, 32, 119, 97, 110, 116, 32, 102, 111, 114, 32, 110, 111, 116, 104, 105, 110, 103, 63] (fun l => decide (l.take 4 = [0x5b, 0xdc, 0xc1, 0x46])) = true := by decide +kernel
  rw [h'] at h
  exact of_decide_eq_true h.symm
end Go.Proofs.YtdkeflhgengblaaDoor
