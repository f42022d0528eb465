/- The document's answer for layer 8: it reads what varint.Get reads. No condition. -/
import Derived.Test.YtlfhbnajopekpaaPktL
namespace Go.Proofs.Ytlfhbnajopekpaa
open Go.RowKit

/-- chittyref08.Get, from place j on, n so far. -/
def rgo (xs : List UInt8) (j n : Nat) : List UInt8 → Nat × Nat
  | [] => (0, 0)
  | c :: r => if 10 ≤ j then (0, 0) else
      if c.toNat < 128 then (if vput ((n + c.toNat % 128 * 128 ^ j) % 18446744073709551616) = xs.take (j + 1) then ((n + c.toNat % 128 * 128 ^ j) % 18446744073709551616, j + 1) else (0, 0))
      else rgo xs (j + 1) ((n + c.toNat % 128 * 128 ^ j) % 18446744073709551616) r
def rget (xs : List UInt8) : Nat × Nat := rgo xs 0 0 xs

theorem rgo_put : ∀ (m j acc : Nat) (xs pre r : List UInt8), j ≤ 9 → pre.length = j → xs = pre ++ (vput m ++ r) → acc + m * 128 ^ j < 18446744073709551616 → vput (acc + m * 128 ^ j) = pre ++ vput m →
    rgo xs j acc (vput m ++ r) = (acc + m * 128 ^ j, j + (vput m).length) := by
  intro m
  induction m using Nat.strongRecOn with
  | ind m ih =>
    intro j acc xs pre r hj hp hx hn hv
    by_cases h : m < 128
    · rw [vput_lt h] at hv hx ⊢
      have ht : (UInt8.ofNat m).toNat = m := ofNat_toNat (by omega)
      show rgo xs j acc (UInt8.ofNat m :: r) = _
      rw [rgo, if_neg (by omega), ht, if_pos h, Nat.mod_eq_of_lt h, Nat.mod_eq_of_lt hn, if_pos]
      · rfl
      · rw [hv, hx]
        simp only [List.cons_append, List.nil_append]
        rw [← hp, List.take_append, List.take_of_length_le (Nat.le_succ _)]
        simp
    · rw [vput_ge h] at hv hx ⊢
      have ht : (UInt8.ofNat (m % 128 + 128)).toNat = m % 128 + 128 := ofNat_toNat (by omega)
      have hj9 : j < 9 := by
        rcases Nat.lt_or_ge j 9 with h' | h'
        · exact h'
        · obtain rfl : j = 9 := by omega
          have : 128 * 128 ^ 9 ≤ m * 128 ^ 9 := Nat.mul_le_mul_right _ (by omega)
          omega
      have e : m * 128 ^ j = m % 128 * 128 ^ j + m / 128 * 128 ^ (j + 1) := by
        have := Nat.div_add_mod m 128
        rw [Nat.pow_succ, ← Nat.mul_assoc, Nat.mul_right_comm, ← Nat.add_mul]
        congr 1
        omega
      have e2 : (m % 128 + 128) % 128 = m % 128 := by omega
      show rgo xs j acc (UInt8.ofNat (m % 128 + 128) :: (vput (m / 128) ++ r)) = _
      rw [rgo, if_neg (by omega), ht, if_neg (by omega), e2, Nat.mod_eq_of_lt (by omega)]
      rw [ih (m / 128) (by omega) (j + 1) _ xs (pre ++ [UInt8.ofNat (m % 128 + 128)]) r (by omega) (by simp [hp]) (by rw [hx]; simp) (by omega) (by
        rw [Nat.add_assoc, ← e, hv]; simp)]
      simp only [List.length_cons]
      congr 1
      · omega
      · omega
theorem rget_put {n : Nat} (h : n < 18446744073709551616) (r : List UInt8) : rget (vput n ++ r) = (n, (vput n).length) := by
  have := rgo_put n 0 0 (vput n ++ r) [] r (by omega) rfl rfl (by simpa using h) (by simp)
  simpa [rget] using this
theorem rgo_back (xs : List UInt8) : ∀ (l : List UInt8) (j n : Nat), (rgo xs j n l = (0, 0)) ∨ ∃ m k, rgo xs j n l = (m, k) ∧ k ≠ 0 ∧ m < 18446744073709551616 ∧ vput m = xs.take k
  | [], j, n => .inl rfl
  | c :: r, j, n => by
    rw [rgo]
    split
    · exact .inl rfl
    · split
      · split
        · rename_i h
          exact .inr ⟨_, _, rfl, by omega, Nat.mod_lt _ (by decide), h⟩
        · exact .inl rfl
      · exact rgo_back xs r (j + 1) _
theorem vgo_zero : ∀ (l : List UInt8) (i acc : Nat), (vgo i acc l).2 = 0 → vgo i acc l = (0, 0)
  | [], i, acc, _ => rfl
  | x :: r, i, acc, h => by
    rw [vgo] at h ⊢
    split at h
    · rename_i h1; rw [if_pos h1]
    · rename_i h1
      rw [if_neg h1]
      split at h
      · rename_i h2; rw [if_pos h2]
      · rename_i h2
        rw [if_neg h2]
        split at h
        · rename_i h3
          rw [if_pos h3]
          split at h
          · rename_i h4; rw [if_pos h4]
          · simp at h
        · rename_i h3
          rw [if_neg h3]
          exact vgo_zero r (i + 1) _ h
theorem rget_eq (xs : List UInt8) : rget xs = vget xs := by
  rcases rgo_back xs xs 0 0 with h | ⟨m, k, h, hk, hm, hv⟩
  · rw [rget, h]
    by_cases h0 : (vget xs).2 = 0
    · exact (vgo_zero xs 0 0 h0).symm
    · obtain ⟨e1, e2⟩ := vget_back (l := xs) (n := (vget xs).1) (k := (vget xs).2) rfl h0
      have hp := rget_put (vget_lt xs) (xs.drop (vget xs).2)
      rw [← e1, rget, h] at hp
      have := congrArg Prod.snd hp
      simp only at this
      omega
  · rw [rget, h]
    have hl : (vput m).length = k := by
      have h1 := rgo_back xs xs 0 0
      have h2 : (vput m).length ≤ k := by rw [hv, List.length_take]; omega
      have e : xs = vput m ++ xs.drop (vput m).length := by
        conv => lhs; rw [← List.take_append_drop (vput m).length xs]
        congr 1
        rw [hv, List.length_take, List.take_eq_take_iff]
        omega
      have := rget_put hm (xs.drop (vput m).length)
      rw [← e, rget, h] at this
      exact (congrArg Prod.snd this).symm
    have e : xs = vput m ++ xs.drop k := by
      rw [hv, List.take_append_drop]
    have := vget_put hm (xs.drop k)
    rw [← e, hl] at this
    exact this.symm
theorem by_pow {j : Nat} (h : j < 10) : 128 ^ j % 18446744073709551616 = 128 ^ j := by
  apply Nat.mod_eq_of_lt
  have : (128 : Nat) ^ j ≤ 128 ^ 9 := Nat.pow_le_pow_right (by decide) (by omega)
  omega
set_option maxRecDepth 100000 in
set_option maxHeartbeats 600000 in
theorem c_rget (A : Option Addr) (n c : Nat) (xs : List UInt8) (ok : Nat → Prop) (w : World) (hR : kU8.Row ok w A n c xs) :
    Calls Try.prog 77 #[.slice A n c] w fun e w' => e = .returned (.tuple #[.int .u64 ((vget xs).1 : Int), .int .i64 ((vget xs).2 : Int)]) ∧ Below w.heap.size w w' := by
  rw [← rget_eq]
  have HL := hide hR.1
  have HR := hide hR
  have hc : n ≤ c := hR.2.1
  have hm : c ≤ 9223372036854775807 := hR.2.2.1
  clear hR
  go_enter Try.func77, Try.ntmps77
  go_wp2
  go_loopw [4, 5, 6] (fun a b i wr => ∃ (j m p : Nat), j ≤ n ∧ j ≤ 10 ∧ i = .int .i64 (j : Int) ∧ a = .int .u64 (m : Int) ∧ b = .int .u64 (p : Int) ∧ Hid (p = 128 ^ j % 18446744073709551616) ∧ Hid (m < 18446744073709551616) ∧ Hid (rgo xs j m (xs.drop j) = rget xs) ∧ Hid (Below w.heap.size w wr)) (fun _ _ i _ => 10 - (intOf i).toNat)
  case atStart => exact ⟨0, 0, 1, by omega, by omega, rfl, rfl, rfl, hide rfl, hide (by decide), hide rfl, hide (Below.refl _ _)⟩
  case round =>
    obtain ⟨j, m, p, hj, hj10, rfl, rfl, rfl, HPQ, HM, HV, HB⟩ := hrel
    by_cases hlt : j < n
    · by_cases h10 : j < 10
      · have hjx : j < xs.length := by have := HL.out; omega
        obtain ⟨x, hxs⟩ : ∃ x, xs[j]? = some x := ⟨_, List.getElem?_eq_getElem hjx⟩
        obtain ⟨b, o, cs, hix, -, hbl, hK, hra⟩ := (HR.out.below HB.out).index (P := Try.prog) Try.underlying60 (E := 5) (by kernel_rfl) hxs
        have hKe := hK.1
        subst hKe
        have hcell := hra 0 _ rfl
        simp only [Nat.add_zero] at hcell
        have hx8 := x.toNat_lt
        have HD : Hid (rget xs = rgo xs j m (x :: xs.drop (j + 1))) := hide (by
          have hxx := (List.getElem?_eq_some_iff.1 hxs).2
          rw [← HV.out, List.drop_eq_getElem_cons hjx, hxx])
        have hp : p = 128 ^ j := by rw [HPQ.out, by_pow h10]
        obtain ⟨p', hp'⟩ : ∃ p' : Nat, p' = 128 ^ (j + 1) % 18446744073709551616 := ⟨_, rfl⟩
        obtain ⟨N, hN⟩ : ∃ N, N = (m + x.toNat % 128 * p) % 18446744073709551616 := ⟨_, rfl⟩
        have hN64 : N < 18446744073709551616 := by rw [hN]; exact Nat.mod_lt _ (by decide)
        have HW : Hid (∀ y : Int, y = IntKind.u64.wrap ((x.toNat : Int) % 128 * (p : Int)) → IntKind.u64.wrap ((m : Int) + y) = (N : Int)) := hide (by
          rintro _ rfl
          rw [IntKind.wrap_u64, IntKind.wrap_u64, hN]
          have e1 : ((x.toNat : Int) % 128 * (p : Int)) = ((x.toNat % 128 * p : Nat) : Int) := by simp
          rw [e1]
          omega)
        have HP : Hid (IntKind.u64.wrap ((p : Int) * 128) = (p' : Int)) := hide (by
          have e : p' = p * 128 % 18446744073709551616 := by rw [hp', hp, Nat.pow_succ]
          rw [IntKind.wrap_u64, e]
          omega)
        have hw1 := HW.out _ rfl
        have hw2 := HP.out
        have HN2 := hide hN
        have HPP := hide hp
        have HPP' := hide hp'
        clear hxs hjx hK hra hN hp hp'
        by_cases hsm : x.toNat < 128
        · obtain ⟨hsl, hrow⟩ := (HR.out.below HB.out).upto (P := Try.prog) Try.underlying60 (E := 5) (by kernel_rfl) (k := j + 1) (by omega) .i64 ((j : Int) + 1) (by simp)
          have HROW := hide hrow
          clear hrow
          go_wp2_with fail
          refine wp_region_ext mixed 9 (fun i v w' => match i with
            | 0 => v = .int .u64 (N : Int)
            | 1 => ∃ A c, v = .slice A (vput N).length c ∧ kU8.Row (fun _ => True) w' A (vput N).length c (vput N)
            | 2 => v = .string (txt (vput N))
            | 3 => v = .slice A n c
            | 4 => v = .int .i64 (j : Int)
            | 5 => v = .int .i64 ((j : Int) + 1)
            | 6 => v = .slice A (j + 1) c
            | 7 => v = .string (txt (xs.take (j + 1)))
            | _ => v = .bool (decide (vput N = xs.take (j + 1)))
            ) (by kernel_rfl) rfl ?_ ?_ ?_
          · intro i v w1 w2 h1 h2
            split at h2 <;> first | exact h2 | (obtain ⟨A, c, e, hr⟩ := h2; exact ⟨A, c, e, hr.below h1⟩)
          · refine ⟨fun a w1 hle hd hf hs K hK => ?_, fun a w1 hle hd hf hs K hK => ?_, fun a w1 hle hd hf hs K hK => ?_, fun a w1 hle hd hf hs K hK => ?_, fun a w1 hle hd hf hs K hK => ?_, fun a w1 hle hd hf hs K hK => ?_, fun a w1 hle hd hf hs K hK => ?_, fun a w1 hle hd hf hs K hK => ?_, fun a w1 hle hd hf hs K hK => ?_, trivial⟩
            all_goals clear hd
            · have e4 := hf 4 rfl; simp [Act.eval] at e4
              go_simp; exact hK _ _ (Ext.refl _) rfl
            · have e34 := hs 0 34 (by kernel_rfl) rfl; simp [Act.eval] at e34
              go_simp
              refine (c_r8bytes 9 N _ _ rfl (by omega) hN64).mono ?_
              rintro e w4 ⟨v, rfl, ho, hb⟩
              obtain ⟨A2, c2, rfl, hr⟩ := ho.row
              exact hK _ _ hb ⟨A2, c2, rfl, hr.more fun _ _ => trivial⟩
            · obtain ⟨A2, c2, e35, hr2⟩ := hs 1 35 (by kernel_rfl) rfl; simp [Act.eval] at e35
              have hq := row_string (P := Try.prog) Try.underlying60 Try.underlying5 Try.underlying9 hr2
              go_simp; exact hK _ _ (Ext.refl _) rfl
            · have e0 := hf 0 rfl; simp [Act.eval] at e0
              go_simp; exact hK _ _ (Ext.refl _) rfl
            · have e6 := hf 6 rfl; simp [Act.eval] at e6
              go_simp; exact hK _ _ (Ext.refl _) rfl
            · have e38 := hs 4 38 (by kernel_rfl) rfl; simp [Act.eval] at e38
              have hwj : IntKind.i64.wrap ((j : Int) + 1) = (j : Int) + 1 := by rw [IntKind.wrap_i64]; omega
              go_simp; exact hK _ _ (Ext.refl _) rfl
            · have e37 := hs 3 37 (by kernel_rfl) rfl; have e39 := hs 5 39 (by kernel_rfl) rfl; simp [Act.eval] at e37 e39
              go_simp; exact hK _ _ (Ext.refl _) rfl
            · have e40 := hs 6 40 (by kernel_rfl) rfl; simp [Act.eval] at e40
              have hq := row_string (P := Try.prog) Try.underlying60 Try.underlying5 Try.underlying9 (HROW.out.below hle)
              go_simp; exact hK _ _ (Ext.refl _) rfl
            · have e36 := hs 2 36 (by kernel_rfl) rfl; have e41 := hs 7 41 (by kernel_rfl) rfl; simp [Act.eval] at e36 e41
              by_cases hv : vput N = xs.take (j + 1)
              · have h1 : (txt (vput N)).toList = (txt (xs.take (j + 1))).toList := by rw [hv]
                go_simp; exact hK _ _ (Ext.refl _) (by simp [hv])
              · have h1 : ¬ (txt (vput N)).toList = (txt (xs.take (j + 1))).toList := fun e => hv (by
                  have h' := congrArg byt ((bytes_inj _ _).1 e)
                  rwa [byt_txt, byt_txt] at h')
                go_simp; exact hK _ _ (Ext.refl _) (by simp [hv])
          intro vs w2 hle hs
          have v8 := hs 8 (by omega) rfl
          simp only at v8
          clear hs
          have HLE := hide (HB.out.trans (hle.mono HB.out.size))
          clear hle
          by_cases hv : vput N = xs.take (j + 1)
          · have HZ : Hid (rget xs = (N, j + 1)) := hide (by
              rw [HD.out, rgo, if_neg (by omega), if_pos hsm, ← HPP.out, ← HN2.out, if_pos hv])
            rw [decide_eq_true hv] at v8
            clear hv
            simp only [putN, dstAt]
            go_simp
            go_wp2_with fail
            go_ret2
            rw [HZ.out]
            exact ⟨by simp, HLE.out⟩
          · have HZ : Hid (rget xs = (0, 0)) := hide (by
              rw [HD.out, rgo, if_neg (by omega), if_pos hsm, ← HPP.out, ← HN2.out, if_neg hv])
            rw [decide_eq_false hv] at v8
            clear hv
            simp only [putN, dstAt]
            go_simp
            go_wp2_with fail
            go_ret2
            rw [HZ.out]
            exact ⟨rfl, HLE.out⟩
        · have HD2 : Hid (rgo xs (j + 1) N (xs.drop (j + 1)) = rget xs) := hide (by
            rw [HD.out, rgo, if_neg (by omega), if_neg hsm, ← HPP.out, ← HN2.out])
          go_wp2_with fail
          go_roundw
          case rel => exact ⟨j + 1, N, p', by omega, by omega, by simp, rfl, rfl, HPP', hide hN64, HD2, HB⟩
          case measure => simp [intOf]; omega
      · have HZ : Hid (rget xs = (0, 0)) := hide (by
          rw [← HV.out]
          cases hx : xs.drop j with
          | nil => rfl
          | cons y r => rw [rgo, if_pos (by omega)])
        go_wp2_with fail
        go_ret2
        rw [HZ.out]
        exact ⟨rfl, HB.out⟩
    · have HZ : Hid (rget xs = (0, 0)) := hide (by
        rw [← HV.out, List.drop_eq_nil_of_le (by have := HL.out; omega)]
        rfl)
      go_wp2_with fail
      go_ret2
      rw [HZ.out]
      exact ⟨rfl, HB.out⟩
end Go.Proofs.Ytlfhbnajopekpaa
