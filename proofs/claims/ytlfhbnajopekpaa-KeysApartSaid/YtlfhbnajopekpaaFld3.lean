/- The walks of layers 8 and 9, further: many fields; a number as a value. No condition. -/
import Derived.Test.YtlfhbnajopekpaaFld2
import Derived.Test.YtlfhbnajopekpaaAgg
import Derived.Test.YtlfhbnajopekpaaSl
namespace Go.Proofs.Ytlfhbnajopekpaa
open Go.RowKit

set_option maxRecDepth 100000 in
theorem c_number (x : Nat) (i : Int) (w : World) (hi : i = (x : Int)) (hx : x < 18446744073709551616) :
    Calls Try.prog 62 #[.int .u64 i] w fun e w' => e = .returned (.string (txt (vput x))) ∧ Below w.heap.size w w' := by
  subst hi
  have HX := hide hx
  clear hx
  go_enter Try.func62, Try.ntmps62
  go_wp2_with fail
  refine (c_vput none 0 0 [] x _ (fun _ => True) w rfl (.nil _ _ _ _ _ (Nat.zero_le _)) (by decide) HX.out).mono ?_
  rintro e w1 ⟨v, rfl, ho, hb⟩
  rw [List.nil_append] at ho
  obtain ⟨A, c, rfl, hr⟩ := ho.row
  have hs := row_string (P := Try.prog) Try.underlying60 Try.underlying5 Try.underlying9 hr
  have HB := hide hb
  clear ho hr hb
  go_wp2_with fail
  go_ret
  exact ⟨rfl, HB.out⟩

def fjoin (l : List Fld) : List UInt8 := l.flatMap fput
theorem fjoin_app (l r : List Fld) : fjoin (l ++ r) = fjoin l ++ fjoin r := by simp [fjoin]
theorem fjoin_take (l : List Fld) (k : Nat) : (fjoin (l.take k)).length ≤ (fjoin l).length := by
  conv => rhs; rw [← List.take_append_drop k l, fjoin_app]
  simp
theorem fld_size : (Try.prog.info? 117).map (·.size) = some kFld.sz := by kernel_rfl

set_option maxRecDepth 100000 in
set_option maxHeartbeats 400000 in
theorem c_fjoin (A : Option Addr) (n c : Nat) (l : List Fld) (ok : Nat → Prop) (w : World) (hR : kFld.Row ok w A n c l) (hn : (fjoin l).length ≤ 1099511627776) (hv : ∀ f ∈ l, f.value.size ≤ 1099511627776) :
    Calls Try.prog 61 #[.slice A n c] w fun e w' => ∃ v, e = .returned v ∧ kU8.Own (fun _ => True) w.heap.size w' 5 v (fjoin l) ∧ Below w.heap.size w w' := by
  have HL := hide hR.1
  have hcap : n ≤ maxLen := Nat.le_trans hR.2.1 hR.2.2.1
  simp only [maxLen] at hcap
  have HR := hide hR
  have HN := hide hn
  have HV := hide hv
  clear hR hn hv
  go_enter Try.func61, Try.ntmps61
  go_wp2
  go_loopw [8, 3] (fun i p wr => ∃ k : Nat, k ≤ n ∧ i = .int .i64 (k : Int) ∧ Hid (kU8.Own (fun _ => True) w.heap.size wr 5 p (fjoin (l.take k))) ∧ Hid (Below w.heap.size w wr)) (fun i _ _ => n - (intOf i).toNat)
  case atStart => exact ⟨0, Nat.zero_le _, rfl, hide (.nil _ _ _ _ _), hide (Below.refl _ _)⟩
  case round =>
    obtain ⟨k, hk, rfl, HO, HB⟩ := hrel
    by_cases hlt : k < n
    · obtain ⟨f, hf⟩ : ∃ f, l[k]? = some f := ⟨_, List.getElem?_eq_getElem (by have := HL.out; omega)⟩
      obtain ⟨b, q, cs, hix, -, hbl, hK, hra⟩ := (HR.out.below HB.out).index (P := Try.prog) Try.underlying118 (E := 117) fld_size hf
      have hKe := hK.1
      subst hKe
      have hc0 := hra 0 _ rfl
      have hc1 := hra 1 _ rfl
      simp only [Nat.add_zero] at hc0
      have HT : Hid (l.take (k + 1) = l.take k ++ [f]) := hide (by rw [List.take_add_one, hf]; rfl)
      have HFV := hide (HV.out f (List.mem_of_getElem? hf))
      have HF := hide hf
      obtain ⟨A1, c1, rfl, hr1⟩ := HO.out.row
      have HR1 := hide (hr1.alloc (.cells #[bv f.kind, .string f.value] 117))
      clear hf hK hra hr1
      go_wp2_with fail
      refine (c_fput A1 _ c1 _ f.kind f.value _ _ HR1.out (Nat.le_trans (fjoin_take l k) HN.out) HFV.out).mono ?_
      rintro e w1 ⟨v1, rfl, h1, b1⟩
      have H1 := hide (h1.lower (base' := w.heap.size) (by simp; have := HB.out.size; omega))
      have HB1 := hide (HB.out.trans (((below1 wr (.cells #[bv f.kind, .string f.value] 117)).mono HB.out.size).trans (b1.mono (by simp; have := HB.out.size; omega))))
      clear h1 b1
      go_wp2_with fail
      go_roundw
      case rel =>
        refine ⟨k + 1, by omega, by simp, hide ?_, HB1⟩
        rw [HT.out, fjoin_app]
        have := H1.out
        simpa [fjoin] using this
      case measure => simp [intOf]; omega
    · obtain rfl : k = n := by omega
      have HE : Hid (l.take k = l) := hide (List.take_of_length_le (Nat.le_of_eq HL.out))
      go_wp2_with fail
      go_ret
      exact ⟨_, rfl, by rw [← HE.out]; exact HO.out, HB.out⟩

/-- The field with which bytes begin. -/
def fget : List UInt8 → Option (Fld × Nat)
  | [] => none
  | k :: r => if (vget r).2 = 0 ∨ ((r.drop (vget r).2).length < (vget r).1) then none else some (⟨k, txt ((r.drop (vget r).2).take (vget r).1)⟩, 1 + (vget r).2 + (vget r).1)

def fgetV : Option (Fld × Nat) → Value
  | none => .tuple #[.agg #[.int .u8 0, .string ByteArray.empty], .int .i64 0, .bool false]
  | some (f, k) => .tuple #[.agg #[bv f.kind, .string f.value], .int .i64 (k : Int), .bool true]
theorem vgo_le : ∀ (l : List UInt8) (i acc : Nat), (vgo i acc l).2 ≤ i + l.length ∧ (vgo i acc l).2 ≤ 10
  | [], i, acc => by simp [vgo]
  | x :: r, i, acc => by
    have := vgo_le r (i + 1) (acc + x.toNat % 128 * 128 ^ i)
    rw [vgo]
    simp only [List.length_cons]
    split
    · simp
    · split
      · simp
      · split
        · split <;> simp <;> omega
        · omega
theorem vget_le (l : List UInt8) : (vget l).2 ≤ l.length ∧ (vget l).2 ≤ 10 := by
  have := vgo_le l 0 0
  simpa [vget] using this
theorem vgo_lt : ∀ (l : List UInt8) (i acc : Nat), i ≤ 10 → acc < 128 ^ i → (vgo i acc l).1 < 18446744073709551616
  | [], i, acc, _, _ => by simp [vgo]
  | x :: r, i, acc, hi, ha => by
    rw [vgo]
    by_cases h10 : 10 ≤ i
    · rw [if_pos h10]; decide
    rw [if_neg h10]
    by_cases h9 : i = 9 ∧ 1 < x.toNat
    · rw [if_pos h9]; decide
    rw [if_neg h9]
    by_cases h1 : x.toNat < 128
    · rw [if_pos h1]
      obtain ⟨q1, q2⟩ := pow_le19 (j := i) (by omega) (y := x.toNat) h1 (by omega)
      split
      · decide
      · show acc + x.toNat * 128 ^ i < _
        rcases Nat.lt_or_ge i 9 with h | h
        · have : (acc + x.toNat * 128 ^ i) < 128 ^ (i + 1) := by
            rw [Nat.pow_succ]
            have : x.toNat * 128 ^ i ≤ 127 * 128 ^ i := Nat.mul_le_mul_right _ (by omega)
            omega
          have : 128 ^ (i + 1) ≤ 128 ^ 9 := Nat.pow_le_pow_right (by decide) (by omega)
          omega
        · obtain rfl : i = 9 := by omega
          have : x.toNat * 128 ^ 9 ≤ 1 * 128 ^ 9 := Nat.mul_le_mul_right _ (by omega)
          omega
    · rw [if_neg h1]
      exact vgo_lt r (i + 1) _ (by omega) (by
        rw [Nat.pow_succ]
        have : x.toNat % 128 * 128 ^ i ≤ 127 * 128 ^ i := Nat.mul_le_mul_right _ (by omega)
        omega)
theorem vget_lt (l : List UInt8) : (vget l).1 < 18446744073709551616 := vgo_lt l 0 0 (by decide) (by decide)
set_option maxRecDepth 100000 in
set_option maxHeartbeats 800000 in
theorem c_fget (A : Option Addr) (n c : Nat) (xs : List UInt8) (ok : Nat → Prop) (w : World) (hR : kU8.Row ok w A n c xs) :
    Calls Try.prog 85 #[.slice A n c] w fun e w' => Below w.heap.size w w' ∧ e = .returned (fgetV (fget xs)) := by
  have HR := hide hR
  have hlen := hR.1
  have hc : n ≤ c := hR.2.1
  have hm : c ≤ 9223372036854775807 := hR.2.2.1
  clear hR
  cases xs with
  | nil =>
    obtain rfl : n = 0 := by simpa using hlen.symm
    clear hlen
    go_enter Try.func85, Try.ntmps85
    go_wp2_with fail
    exact bodyPost_ret (v := .tuple #[.agg #[.int .u8 0, .string ByteArray.empty], .int .i64 0, .bool false]) (by simp [results, Try.results85, go_sem]; rfl) rfl ⟨by repeat (first | exact Below.refl _ _ | refine Below.alloc ?_ (by simp) _ | refine Below.setCell ?_ (by simp) _), rfl⟩
  | cons k r =>
    obtain ⟨m, rfl⟩ : ∃ m, n = m + 1 := ⟨r.length, by simpa using hlen.symm⟩
    have hrl : r.length = m := by simpa using hlen
    obtain ⟨B, hs1, hB⟩ := HR.out.from (P := Try.prog) Try.underlying60 (E := 5) (by kernel_rfl) (k := 1) (by omega) .i64 1 rfl
    rw [List.drop_one, List.tail_cons] at hB
    have HB := hide hB
    obtain ⟨g1, g2⟩ := vget_le r
    have hvn : (vget r).1 < 18446744073709551616 := vget_lt r
    obtain ⟨nv, hnv⟩ : ∃ nv, nv = (vget r).1 := ⟨_, rfl⟩
    obtain ⟨kv, hkv⟩ : ∃ kv, kv = (vget r).2 := ⟨_, rfl⟩
    have HNV := hide hnv
    have HKV := hide hkv
    rw [← hnv] at hvn
    rw [← hkv, hrl] at g1
    clear hlen hB hnv hkv hrl g2
    obtain ⟨C, hs2, hC⟩ := HR.out.from (P := Try.prog) Try.underlying60 (E := 5) (by kernel_rfl) (k := 1 + kv) (by omega) .i64 (1 + kv) (by simp)
    have HC := hide hC
    clear hC
    rw [show m + 1 - (1 + kv) = m - kv by omega] at hs2 HC
    go_enter Try.func85, Try.ntmps85
    go_wp2_with fail
    refine (c_vget B m (c - 1) r _ _ (HB.out.alloc _)).mono ?_
    rintro e w1 ⟨rfl, rfl⟩
    rw [← HNV.out, ← HKV.out]
    by_cases hk0 : kv = 0
    · have HF : Hid (fget (k :: r) = none) := hide (by rw [fget, if_pos (.inl (by rw [← HKV.out, hk0]))])
      go_wp2_with fail
      exact bodyPost_ret (v := .tuple #[.agg #[.int .u8 0, .string ByteArray.empty], .int .i64 0, .bool false]) (by simp [results, Try.results85, go_sem]; rfl) rfl ⟨by repeat (first | exact Below.refl _ _ | refine Below.alloc ?_ (by simp) _ | refine Below.setCell ?_ (by simp) _), by rw [HF.out]; rfl⟩
    by_cases hlong : m - kv < nv
    · have HF : Hid (fget (k :: r) = none) := hide (by
        have hx : (r.drop (vget r).2).length < (vget r).1 := by
          have := HC.out.1
          rw [Nat.add_comm, List.drop_succ_cons] at this
          rw [← HKV.out, ← HNV.out, this]
          exact hlong
        rw [fget, if_pos (.inr hx)])
      go_wp2_with fail
      exact bodyPost_ret (v := .tuple #[.agg #[.int .u8 0, .string ByteArray.empty], .int .i64 0, .bool false]) (by simp [results, Try.results85, go_sem]; rfl) rfl ⟨by repeat (first | exact Below.refl _ _ | refine Below.alloc ?_ (by simp) _ | refine Below.setCell ?_ (by simp) _), by rw [HF.out]; rfl⟩
    · have hcc : (k :: r).drop (1 + kv) = r.drop kv := by rw [Nat.add_comm, List.drop_succ_cons]
      have HF : Hid (fget (k :: r) = some (⟨k, txt ((r.drop kv).take nv)⟩, 1 + kv + nv)) := hide (by
        have := HC.out.1
        rw [hcc] at this
        rw [fget, ← HKV.out, ← HNV.out, if_neg (by omega)])
      obtain ⟨b, q, cs, hix, -, hbl, hK, hra⟩ := HR.out.index (P := Try.prog) Try.underlying60 (E := 5) (by kernel_rfl) (i := 0) (x := k) rfl
      have hKe := hK.1
      subst hKe
      have hc0 := hra 0 _ rfl
      simp only [Nat.add_zero] at hc0
      obtain ⟨hs3, hD⟩ := HC.out.upto (P := Try.prog) Try.underlying60 (E := 5) (by kernel_rfl) (k := nv) (by omega) .u64 nv rfl
      rw [hcc] at hD
      have hst := row_string (P := Try.prog) Try.underlying60 Try.underlying5 Try.underlying9 ((hD.alloc (.cells #[.int .u8 0, .string ⟨#[]⟩] 117)).drewN 1)
      clear hD hK hra hcc
      have hst : (convert 60 9 (.slice C nv (c - (1 + kv)))).run Try.prog ((w.alloc (.cells #[.int .u8 0, .string ⟨#[]⟩] 117)).drew) = .ok (.string (txt ((r.drop kv).take nv))) ((w.alloc (.cells #[.int .u8 0, .string ⟨#[]⟩] 117)).drew) := hst
      have hix : ∀ wx : World, (Instr.indexAt 60 (.slice A (m + 1) c) (.int .i64 0)).run Try.prog wx = .ok (.pointer (some ⟨b, q, none⟩)) wx := hix
      go_wp2_with fail
      go_region
      go_wp2_with fail
      exact bodyPost_ret (v := .tuple #[.agg #[bv k, .string (txt ((r.drop kv).take nv))], .int .i64 ((1 + kv + nv : Nat) : Int), .bool true]) (by simp [results, Try.results85, go_sem]) rfl ⟨by repeat (first | exact Below.refl _ _ | refine Below.drew ?_ | refine Below.alloc ?_ (by simp) _ | refine Below.setCell ?_ (by simp) _), by rw [HF.out]; rfl⟩

end Go.Proofs.Ytlfhbnajopekpaa
