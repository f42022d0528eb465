/- The walks of layers 8 and 9: numbers in as few bytes as they need, and fields. No condition. -/
import Derived.Test.YtdkeflhgengblaaDoorProg
import Derived.Test.YtdkeflhgengblaaDoorRepB
namespace Go.Proofs.YtdkeflhgengblaaDoor
open Go.RowKit

theorem u8_info : (Tryd.prog.info? 5).map (fun i => (i.zero, i.size, i.bytes)) = some (some (.int .u8 0), 1, 1) := by kernel_rfl

/-- A number's bytes. -/
def vput (n : Nat) : List UInt8 := if n < 128 then [UInt8.ofNat n] else UInt8.ofNat (n % 128 + 128) :: vput (n / 128)
termination_by n
decreasing_by omega

theorem c_clip (A : Option Addr) (n c : Nat) (w : World) (hc : n ≤ c) (_hm : c ≤ maxLen) :
    Calls Tryd.prog 123 #[.slice A n c] w fun e w' => e = .returned (.slice A n n) ∧ w = w' := by
  go_enter Tryd.func123, Tryd.ntmps123
  go_wp2
  go_ret
  exact ⟨rfl, rfl⟩

theorem vput_lt {n : Nat} (h : n < 128) : vput n = [UInt8.ofNat n] := by rw [vput, if_pos h]
theorem vput_ge {n : Nat} (h : ¬ n < 128) : vput n = UInt8.ofNat (n % 128 + 128) :: vput (n / 128) := by rw [vput, if_neg h]
theorem bv_ofNat {n : Nat} (h : n < 256) : bv (UInt8.ofNat n) = .int .u8 (n : Int) := by
  unfold bv
  simp [Nat.mod_eq_of_lt h]
theorem kU8_ofNat (ok : Nat → Prop) (w : World) {n : Nat} (h : n < 256) {i : Int} (hi : i = n) : kU8.K ok w (UInt8.ofNat n) [.int .u8 i] := by
  subst hi
  exact ⟨by rw [bv_ofNat h], trivial⟩
theorem vput_len : ∀ (k n : Nat), n < 128 ^ (k + 1) → (vput n).length ≤ k + 1
  | 0, n, h => by rw [vput_lt (by omega)]; simp
  | k + 1, n, h => by
    by_cases hn : n < 128
    · rw [vput_lt hn]; simp
    · rw [vput_ge hn]
      have := vput_len k (n / 128) (Nat.div_lt_of_lt_mul (by rw [Nat.pow_succ] at h; omega))
      simp; omega
theorem vput_pos (n : Nat) : 0 < (vput n).length := by
  by_cases h : n < 128
  · rw [vput_lt h]; simp
  · rw [vput_ge h]; simp
theorem or128 : ∀ x : Fin 256, bits .or .u8 (x.val : Int) 128 = ((x.val % 128 + 128 : Nat) : Int) := by decide +kernel
theorem or128_nat (m : Nat) : bits .or .u8 ((m : Int) % 256) 128 = ((m % 128 + 128 : Nat) : Int) := by
  have h := or128 ⟨m % 256, by omega⟩
  simp only at h
  rw [show ((m : Int) % 256) = ((m % 256 : Nat) : Int) from by omega, h]
  congr 1
  omega
theorem vput_len10 {n : Nat} (h : n < 18446744073709551616) : (vput n).length ≤ 10 := vput_len 9 n (by omega)

set_option maxRecDepth 100000 in
set_option maxHeartbeats 400000 in
theorem c_vput (A : Option Addr) (n c : Nat) (xs : List UInt8) (x : Nat) (i : Int) (ok : Nat → Prop) (w : World) (hi : i = (x : Int)) (hR : kU8.Row ok w A n c xs) (hn : n ≤ 1099511627777) (hx : x < 18446744073709551616) :
    Calls Tryd.prog 115 #[.slice A n c, .int .u64 i] w fun e w' => ∃ v, e = .returned v ∧ kU8.Own (fun _ => True) w.heap.size w' 5 v (xs ++ vput x) ∧ Below w.heap.size w w' := by
  subst hi
  have HR := hide hR
  have HX := hide hx
  have hc : n ≤ c := hR.2.1
  have hm : c ≤ maxLen := hR.2.2.1
  have HN := hide hn
  clear hR hx hn
  go_enter Tryd.func115, Tryd.ntmps115
  go_wp2_with (go_at_call 123; refine (c_clip A n c _ hc hm).mono ?_; rintro e w' ⟨rfl, rfl⟩)
  have happ : kU8.App (fun _ => True) w.heap.size w 5 (.slice A n n) xs := by
    have hR := HR.out
    have hl := hR.1
    subst hl
    exact .inr ⟨A, rfl, hR.1, Nat.le_refl _, by have := HN.out; simp only [maxLen]; omega, fun h => let ⟨b, o, e, hb, hlt, hcc⟩ := hR.2.2.2 h; ⟨b, o, e, ⟨trivial, hlt⟩, hlt, fun i x hx => let ⟨cs, h1, h2⟩ := hcc i x hx; ⟨cs, h1, h2⟩⟩⟩
  go_loopw [0, 1] (fun b i wr => ∃ (m : Nat) (pre : List UInt8), i = .int .u64 (m : Int) ∧ Hid (kU8.App (fun _ => True) w.heap.size wr 5 b (xs ++ pre)) ∧ Hid (pre ++ vput m = vput x) ∧ Hid (m < 18446744073709551616) ∧ pre.length ≤ 10 ∧ Below w.heap.size w wr) (fun _ i _ => (intOf i).toNat)
  case atStart => exact ⟨x, [], rfl, hide (by simpa using happ), hide rfl, HX, by simp, Below.refl _ _⟩
  case round =>
    obtain ⟨m, pre, rfl, Happ, Hpre, Hm, hl, hb⟩ := hrel
    have hbs := hb.size
    have hlen : (xs ++ pre).length + 1 ≤ 1099511627788 := by
      have := HR.out.1; have := HN.out; simp only [List.length_append]; omega
    have HL := hide hlen
    clear hlen
    by_cases hlt : m < 128
    · go_wp2_with (at_builtin; go_must (refine wpList_app (d := kU8) (ys := [UInt8.ofNat m]) rfl _ _ _ rfl Tryd.underlying22 u8_info rfl (by decide) 1 rfl rfl (Happ.out.alloc hbs _) (Kd.Src.new ?_ _ rfl _ rfl) ?_ ?_ ?_ ?_))
      · exact kU8_ofNat _ _ (by omega) rfl
      · simp; omega
      · have := HL.out; simp only [maxLen]; omega
      · have := HL.out; omega
      · intro v1 w1 _ h2 h3 _ _
        have H2 := hide h2
        have H3 := hide h3
        clear h2 h3
        go_wp2
        go_ret
        refine ⟨_, rfl, ?_, (hb.alloc hbs _).trans H3.out⟩
        have := H2.out
        rw [← Hpre.out, vput_lt hlt]
        exact this
    · go_wp2_with (at_builtin; go_must (refine wpList_app (d := kU8) (ys := [UInt8.ofNat (m % 128 + 128)]) rfl _ _ _ rfl Tryd.underlying22 u8_info rfl (by decide) 1 rfl rfl (Happ.out.alloc hbs _) (Kd.Src.new ?_ _ rfl _ rfl) ?_ ?_ ?_ ?_))
      · simpa using kU8_ofNat _ _ (n := m % 128 + 128) (by omega) (or128_nat m)
      · simp; omega
      · have := HL.out; simp only [maxLen]; omega
      · have := HL.out; omega
      · intro v1 w1 h1 _ h3 _ _
        have H1 := hide h1
        have H3 := hide h3
        clear h1 h3
        go_wp2
        go_roundw
        case rel =>
          have e := Hpre.out
          rw [vput_ge hlt] at e
          have hl2 := congrArg List.length e
          have hl3 := vput_len10 HX.out
          have hl4 := vput_len10 (show m / 128 < 18446744073709551616 by have := Hm.out; omega)
          have hl5 : 0 < (vput (m / 128)).length := by
            by_cases h : m / 128 < 128
            · rw [vput_lt h]; simp
            · rw [vput_ge h]; simp
          simp only [List.length_append, List.length_cons] at hl2
          refine ⟨m / 128, pre ++ [UInt8.ofNat (m % 128) + 128], by simp, H1, hide ?_, hide (by have := Hm.out; omega), by simp only [List.length_append, List.length_cons, List.length_nil]; omega, (hb.alloc hbs _).trans H3.out⟩
          simpa using e
        case measure => simp [intOf]; omega

/-- The number with which bytes begin, and how many these are; 0: there is none. -/
def vgo (i acc : Nat) : List UInt8 → Nat × Nat
  | [] => (0, 0)
  | c :: r => if 10 ≤ i then (0, 0) else if i = 9 ∧ 1 < c.toNat then (0, 0) else
      if c.toNat < 128 then (if 0 < i ∧ c.toNat = 0 then (0, 0) else (acc + c.toNat * 128 ^ i, i + 1)) else vgo (i + 1) (acc + (c.toNat % 128) * 128 ^ i) r
def vget (l : List UInt8) : Nat × Nat := vgo 0 0 l

theorem vgo_a {j acc : Nat} {x : UInt8} {r : List UInt8} (h9 : j = 9) (h1 : 1 < x.toNat) : vgo j acc (x :: r) = (0, 0) := by
  rw [vgo, if_neg (by omega), if_pos ⟨h9, h1⟩]
theorem vgo_b {j acc : Nat} {x : UInt8} {r : List UInt8} (hj : j < 10) (h9 : ¬ (j = 9 ∧ 1 < x.toNat)) (h1 : x.toNat < 128) (h2 : 0 < j) (h3 : x.toNat = 0) : vgo j acc (x :: r) = (0, 0) := by
  rw [vgo, if_neg (by omega), if_neg h9, if_pos h1, if_pos ⟨h2, h3⟩]
theorem vgo_c {j acc : Nat} {x : UInt8} {r : List UInt8} (hj : j < 10) (h9 : ¬ (j = 9 ∧ 1 < x.toNat)) (h1 : x.toNat < 128) (h2 : ¬ (0 < j ∧ x.toNat = 0)) : vgo j acc (x :: r) = (acc + x.toNat * 128 ^ j, j + 1) := by
  rw [vgo, if_neg (by omega), if_neg h9, if_pos h1, if_neg h2]
theorem vgo_d {j acc : Nat} {x : UInt8} {r : List UInt8} (hj : j < 10) (h9 : ¬ (j = 9 ∧ 1 < x.toNat)) (h1 : ¬ x.toNat < 128) : vgo j acc (x :: r) = vgo (j + 1) (acc + (x.toNat % 128) * 128 ^ j) r := by
  rw [vgo, if_neg (by omega), if_neg h9, if_neg h1]
theorem pow_le19 {j : Nat} (hj : j < 10) {y : Nat} (hy : y < 128) (h9 : j = 9 → y ≤ 1) : y * 128 ^ j < 18446744073709551616 ∧ 128 ^ j ≤ 9223372036854775808 := by
  match j, hj with
  | 0, _ => omega
  | 1, _ => omega
  | 2, _ => omega
  | 3, _ => omega
  | 4, _ => omega
  | 5, _ => omega
  | 6, _ => omega
  | 7, _ => omega
  | 8, _ => omega
  | 9, _ => have := h9 rfl; omega
theorem or_part {j acc y : Nat} (hj : j < 10) (ha : acc < 128 ^ j) (hy : y < 128) (h9 : j = 9 → y ≤ 1) : bits .or .u64 (acc : Int) ((y * 128 ^ j : Nat) : Int) = ((acc + y * 128 ^ j : Nat) : Int) := by
  obtain ⟨h1, h2⟩ := pow_le19 hj hy h9
  rw [u64_or_nat _ _ (by omega) h1]
  congr 1
  have e : 128 ^ j = 2 ^ (7 * j) := by rw [show (128 : Nat) = 2 ^ 7 from rfl, ← Nat.pow_mul]
  rw [e] at ha ⊢
  have := Nat.two_pow_add_eq_or_of_lt ha y
  rw [Nat.mul_comm y, Nat.or_comm, Nat.add_comm]
  exact this.symm
theorem or_wrap {j acc x : Nat} (hj : j < 10) (ha : acc < 128 ^ j) (h9 : j = 9 → x % 128 ≤ 1) :
    bits .or .u64 (acc : Int) (IntKind.u64.wrap ((x : Int) % 128 * 2 ^ (7 * j))) = ((acc + x % 128 * 128 ^ j : Nat) : Int) := by
  have hy : x % 128 < 128 := by omega
  obtain ⟨h1, _⟩ := pow_le19 hj hy h9
  have e : (128 : Nat) ^ j = 2 ^ (7 * j) := by rw [show (128 : Nat) = 2 ^ 7 from rfl, ← Nat.pow_mul]
  have e2 : ((x : Int) % 128 * 2 ^ (7 * j)) = ((x % 128 * 128 ^ j : Nat) : Int) := by rw [e]; simp
  rw [e2, IntKind.wrap_u64, show ((x % 128 * 128 ^ j : Nat) : Int) % 18446744073709551616 = ((x % 128 * 128 ^ j : Nat) : Int) from by omega]
  exact or_part hj ha hy h9
theorem ret2 {k l : IntKind} {a b c d : Int} (h1 : a = c) (h2 : b = d) : Ending.returned (.tuple #[.int k a, .int l b]) = .returned (.tuple #[.int k c, .int l d]) := by rw [h1, h2]
theorem beq0 {n : Nat} (h : ((n : Int) == 0) = true) : n = 0 := by simpa using h
theorem beq0' {n : Nat} (h : ((n : Int) == 0) = false) : n ≠ 0 := by simpa using h

set_option maxRecDepth 100000 in
set_option maxHeartbeats 400000 in
theorem c_vget (A : Option Addr) (n c : Nat) (xs : List UInt8) (ok : Nat → Prop) (w : World) (hR : kU8.Row ok w A n c xs) :
    Calls Tryd.prog 150 #[.slice A n c] w fun e w' => e = .returned (.tuple #[.int .u64 ((vget xs).1 : Int), .int .i64 ((vget xs).2 : Int)]) ∧ w = w' := by
  have HR := hide hR
  have hc : n ≤ c := hR.2.1
  have hm : c ≤ 9223372036854775807 := hR.2.2.1
  clear hR
  obtain ⟨k, hk⟩ : ∃ k, k = min n 10 := ⟨_, rfl⟩
  have hmin : ∀ ty wx, (Builtin.min_ #[3, 3] ty #[.int .i64 (n : Int), .int .i64 10]).run Tryd.prog wx = .ok (.int .i64 (k : Int)) wx := by
    intro ty wx
    subst hk
    by_cases h : n ≤ 10
    · rw [Nat.min_eq_left h]; simp [Builtin.min_, Builtin.min2]; omega
    · rw [Nat.min_eq_right (by omega)]; simp [Builtin.min_, Builtin.min2]; omega
  have h10 : k ≤ 10 := by omega
  have hkn : k ≤ n := by omega
  have HK := hide hk
  clear hk
  go_enter Tryd.func150, Tryd.ntmps150
  go_wp2
  go_loop [2, 12] (fun a i => ∃ (j acc : Nat), j ≤ k ∧ i = .int .i64 (j : Int) ∧ a = .int .u64 (acc : Int) ∧ Hid (acc < 128 ^ j) ∧ Hid (vgo j acc (xs.drop j) = vget xs)) (fun _ i => k - (intOf i).toNat)
  case atStart => exact ⟨0, 0, by omega, rfl, rfl, hide (by decide), hide rfl⟩
  case round =>
    obtain ⟨j, acc, hj, rfl, rfl, HA, HV⟩ := hrel
    by_cases hlt : j < k
    · have hjx : j < xs.length := by have := HR.out.1; omega
      obtain ⟨x, hxs⟩ : ∃ x, xs[j]? = some x := ⟨_, List.getElem?_eq_getElem hjx⟩
      obtain ⟨b, o, cs, hix, -, -, hK, hra⟩ := (HR.out.take hkn).index (P := Tryd.prog) Tryd.underlying22 (E := 5) (by kernel_rfl) (show (xs.take k)[j]? = some x by rw [List.getElem?_take, if_pos hlt]; exact hxs)
      have hKe := hK.1
      subst hKe
      have hcell := hra 0 _ rfl
      simp only [Nat.add_zero] at hcell
      have hx8 := x.toNat_lt
      clear hra hK hc hm
      have HXS := hide hxs
      clear hxs hjx
      have hd : vget xs = vgo j acc (x :: xs.drop (j + 1)) := by
        have hjx := (List.getElem?_eq_some_iff.1 HXS.out).1
        have hxx := (List.getElem?_eq_some_iff.1 HXS.out).2
        rw [← HV.out, List.drop_eq_getElem_cons hjx, hxx]
      have HD := hide hd
      clear hd
      go_wp2
      · go_ret2
        rw [HD.out, vgo_a (by omega) (by omega)]
        exact ⟨rfl, rfl⟩
      · have hz := beq0 (by assumption)
        go_ret2
        rw [HD.out, vgo_b (by omega) (by omega) (by omega) (by omega) hz]
        exact ⟨rfl, rfl⟩
      · have hz := beq0' (n := x.toNat) (by assumption)
        go_ret2
        obtain rfl : j = 9 := by omega
        rw [HD.out, vgo_c (by omega) (by omega) (by omega) (by omega)]
        refine ⟨ret2 ?_ ?_, rfl⟩
        · have := or_part (j := 9) (by omega) HA.out (y := x.toNat) (by omega) (by omega)
          have e : ((x.toNat : Int) % 128 * 9223372036854775808) = ((x.toNat * 128 ^ 9 : Nat) : Int) := by omega
          exact (congrArg (bits .or .u64 (acc : Int)) e).trans this
        · simp
      · have hz := beq0 (by assumption)
        go_ret2
        rw [HD.out, vgo_b (by omega) (by omega) (by omega) (by omega) hz]
        exact ⟨rfl, rfl⟩
      · have hz := beq0' (n := x.toNat) (by assumption)
        go_ret2
        rw [HD.out, vgo_c (by omega) (by omega) (by omega) (by omega)]
        refine ⟨ret2 ?_ ?_, rfl⟩
        · rw [or_wrap (by omega) HA.out (by omega), Nat.mod_eq_of_lt (by omega)]
        · simp
      · go_ret2
        rw [HD.out, vgo_c (by omega) (by omega) (by omega) (by omega)]
        refine ⟨ret2 ?_ ?_, rfl⟩
        · rw [or_wrap (by omega) HA.out (by omega), Nat.mod_eq_of_lt (by omega)]
        · simp
      · go_round
        case rel =>
          refine ⟨j + 1, acc + (x.toNat % 128) * 128 ^ j, by omega, by simp, by rw [or_wrap (by omega) HA.out (by omega)], hide ?_, hide ?_⟩
          · have := HA.out
            rw [Nat.pow_succ]
            have : x.toNat % 128 * 128 ^ j ≤ 127 * 128 ^ j := Nat.mul_le_mul_right _ (by omega)
            omega
          · rw [HD.out, vgo_d (by omega) (by omega) (by omega)]
        case measure => simp [intOf]; omega
    · have hjk : j = k := by omega
      subst hjk
      have hd : vget xs = (0, 0) := by
        have hv := HV.out
        have hk := HK.out
        have hl := HR.out.1
        rw [← hv]
        cases hx : xs.drop j with
        | nil => rfl
        | cons y r =>
          have : j < xs.length := by
            rcases Nat.lt_or_ge j xs.length with h | h
            · exact h
            · rw [List.drop_eq_nil_of_le h] at hx; cases hx
          rw [vgo, if_pos (by omega)]
      have HD := hide hd
      clear hd
      go_wp2
      go_ret2
      rw [HD.out]
      exact ⟨rfl, rfl⟩

set_option maxRecDepth 100000 in
set_option maxHeartbeats 400000 in
theorem c_r8bytes : ∀ (k x : Nat) (i : Int) (w : World), i = (x : Int) → x < 128 ^ (k + 1) → x < 18446744073709551616 →
    Calls Tryd.prog 144 #[.int .u64 i] w fun e w' => ∃ v, e = .returned v ∧ kU8.Own (fun _ => True) w.heap.size w' 5 v (vput x) ∧ Below w.heap.size w w' := by
  intro k
  induction k with
  | zero =>
    rintro x _ w rfl hx h64
    have hlt : x < 128 := by omega
    clear hx h64
    go_enter Tryd.func144, Tryd.ntmps144
    go_wp2
    go_ret
    refine ⟨_, rfl, ?_, (Below.refl _ _).alloc (Nat.le_refl _) _⟩
    rw [vput_lt hlt]
    exact Kd.Own.lit (css := [[.int .u8 (x : Int)]]) (.single (kU8_ofNat _ _ (by omega) rfl)) _ rfl 1 rfl (by decide) _ rfl (Nat.le_refl _)
  | succ k ih =>
    rintro x _ w rfl hx h64
    by_cases hlt : x < 128
    · clear hx h64 ih
      go_enter Tryd.func144, Tryd.ntmps144
      go_wp2
      go_ret
      refine ⟨_, rfl, ?_, (Below.refl _ _).alloc (Nat.le_refl _) _⟩
      rw [vput_lt hlt]
      exact Kd.Own.lit (css := [[.int .u8 (x : Int)]]) (.single (kU8_ofNat _ _ (by omega) rfl)) _ rfl 1 rfl (by decide) _ rfl (Nat.le_refl _)
    · have IH := hide (fun i (hi : i = ((x / 128 : Nat) : Int)) => ih (x / 128) i (w.alloc (.cells #[.int .u8 ((x : Int) % 128 + 128)] 5)) hi (by rw [Nat.pow_succ] at hx; omega) (by omega))
      have HX := hide h64
      have hown := Kd.Own.lit (d := kU8) (ok := fun _ => True) (base := w.heap.size) (w := w) (E := 5) (css := [[.int .u8 ((x : Int) % 128 + 128)]]) (.single (kU8_ofNat _ _ (n := x % 128 + 128) (by omega) (by omega))) #[.int .u8 ((x : Int) % 128 + 128)] rfl 1 rfl (by decide) _ rfl (Nat.le_refl _)
      have HO := hide hown
      clear hx h64 ih hown
      go_enter Tryd.func144, Tryd.ntmps144
      go_wp2_with fail
      refine (IH.out _ (by rw [IntKind.wrap_u64]; have := HX.out; omega)).mono ?_
      rintro e w1 ⟨v, rfl, h1, h2⟩
      obtain ⟨A1, c1, rfl, hr⟩ := h1.row
      have hb1 : Below w.heap.size w w1 := ((Below.refl _ _).alloc (Nat.le_refl _) _).trans (h2.mono (by simp))
      have HR := hide hr
      have HO2 := hide (HO.out.below h2)
      have hbs : w.heap.size + 1 ≤ w1.heap.size := by simpa using h2.size
      have HL := hide (vput_len10 (n := x / 128) (by have := HX.out; omega))
      have Hne := hide h1.base_le
      clear h1 h2 hr
      go_wp2_with (at_builtin; go_must (refine wpList_app (d := kU8) rfl _ _ _ rfl Tryd.underlying22 u8_info rfl (by decide) c1 rfl rfl (.inl HO2.out) (src8 HR.out.src) ?_ ?_ ?_ ?_))
      · omega
      · have := HL.out; simp only [maxLen, List.length_cons, List.length_nil]; omega
      · have := HL.out; simp only [List.length_cons, List.length_nil]; omega
      · intro v1 w2 _ h2 h3 _ _
        have H2 := hide h2
        have H3 := hide h3
        clear h2 h3
        go_wp2
        go_ret
        refine ⟨_, rfl, ?_, hb1.trans H3.out⟩
        rw [vput_ge hlt]
        have := H2.out (.inl (vput_pos _))
        simpa using this
end Go.Proofs.YtdkeflhgengblaaDoor
