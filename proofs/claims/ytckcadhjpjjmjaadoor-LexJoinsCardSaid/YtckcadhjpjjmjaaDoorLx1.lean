/- Layer 16: is it a name? No condition. -/
import Derived.Test.YtckcadhjpjjmjaaDoorLxL
import Derived.Test.YtckcadhjpjjmjaaDoorLxS
import Derived.Test.YtckcadhjpjjmjaaDoorRow
import Derived.Test.YtckcadhjpjjmjaaDoorCvt
namespace Go.Proofs.YtckcadhjpjjmjaaDoor
open Go.RowKit
/-- The letters that bar a name. -/
def oddN (c : Nat) : Bool := decide (c < 97) || decide (122 < c)
theorem pred_name (w : World) : PredAt Tryd.prog 65 #[] encR oddN w := fun W r _ => by
  unfold FnGives
  by_cases h1 : r < 97 <;> by_cases h2 : 122 < r
  all_goals
    have z1 : (r : Int) < 97 ↔ r < 97 := by omega
    have z2 : (122 : Int) < (r : Int) ↔ 122 < r := by omega
    go_enter Tryd.func65, Tryd.ntmps65
    go_wp2
    all_goals first | (exfalso; omega) | (go_ret; exact ⟨by simp [oddN, h1, h2], 0, rfl⟩)
theorem c_lname (s : ByteArray) (w : World) : Calls Tryd.prog 38 #[.string s] w fun e w' => e = .returned (.bool (isNm (byt s))) ∧ Below w.heap.size w w' := by
  have hC := Tryd.strings_ContainsFunc 65 #[] (enters_of Tryd.func65 (by kernel_rfl) rfl) oddN s w (pred_name w)
  have hi := idx_out oddN 97 122 (by decide) (fun n => rfl) s s.size 0 (by omega)
  rw [List.drop_zero] at hi
  rw [Lib.idxFunc, hi] at hC
  obtain ⟨b, hb⟩ : ∃ b, (s.data.toList.any fun b => decide (b.toNat < 97) || decide (122 < b.toNat)) = b := ⟨_, rfl⟩
  rw [hb] at hC
  have hl : (byt s).length = s.size := byt_len s
  by_cases h0 : s.toList = []
  · have hn : isNm (byt s) = false := by
      rw [ByteArray.toList_eq] at h0
      show isNm s.data.toList = false
      rw [h0]; rfl
    rw [hn]
    clear hn hi hC
    go_enter Tryd.func38, Tryd.ntmps38
    go_wp2_with fail
    go_ret
    exact ⟨rfl, Below.refl _ _⟩
  · have h1 : 1 ≤ s.size := by
      rw [ByteArray.toList_eq] at h0
      rcases Nat.eq_zero_or_pos s.size with h | h
      · exact absurd (List.length_eq_zero_iff.1 (hl.trans h)) h0
      · exact h
    have hN : isNm (byt s) = (decide (s.size ≤ 16) && !b) := by
      rw [isNm, hl, decide_eq_true h1, Bool.true_and, ← hb]
    by_cases h16 : s.size ≤ 16
    · have h16' : (s.size : Int) ≤ 16 := by omega
      rw [hN, decide_eq_true h16, Bool.true_and]
      clear hN hi hb hl
      go_enter Tryd.func38, Tryd.ntmps38
      go_wp2_with fail
      refine hC.mono ?_
      rintro e w1 ⟨rfl, b1⟩
      cases b with
      | true =>
        go_wp2_with fail
        go_ret
        exact ⟨rfl, b1⟩
      | false =>
        go_wp2_with fail
        go_ret
        exact ⟨by simp [List.isEmpty_iff, h0], b1⟩
    · have h16' : ¬ (s.size : Int) ≤ 16 := by omega
      rw [hN, decide_eq_false h16, Bool.false_and]
      clear hN hi hb hl hC
      go_enter Tryd.func38, Tryd.ntmps38
      go_wp2_with fail
      go_ret
      exact ⟨rfl, Below.refl _ _⟩
/-- A text's byte, at the operation. -/
theorem txt_byte {P : Program} {T : TypeId} (h : P.underlying T = some .string) {s : List UInt8} {k : Nat} {y : UInt8} (hy : s[k]? = some y) (kd : IntKind) : ∀ W : World, (Instr.index T (.string (txt s)) (.int kd (k : Int))).run P W = .ok (bv y) W := fun W => by
  have hl := (List.getElem?_eq_some_iff.1 hy).1
  have hi : 0 ≤ (k : Int) ∧ (k : Int) < ((txt s).size : Int) := by rw [txt_size]; omega
  rw [run_index_string W T (txt s) kd k h, dif_pos hi]
  have h3 : ((txt s)[(k : Int).toNat]'(by rw [txt_size]; omega)) = y := by
    show s.toArray[(k : Int).toNat]'_ = y
    simp only [Int.toNat_natCast, List.getElem_toArray]
    exact (List.getElem?_eq_some_iff.1 hy).2
  exact congrArg (fun z => Result.ok (bv z) W) h3
/-- The document's: byte by byte. -/
theorem c_rname (x : List UInt8) (w : World) (hx : x.length ≤ maxLen) : Calls Tryd.prog 39 #[.string (txt x)] w fun e w' => e = .returned (.bool (isNm x)) ∧ w' = w := by
  have hsz : (txt x).size = x.length := txt_size x
  obtain ⟨n, hn⟩ : ∃ n, x.length = n := ⟨_, rfl⟩
  rw [hn] at hsz hx
  simp only [maxLen] at hx
  by_cases h1 : n < 1
  · have h1' : (n : Int) < 1 := by omega
    have hN : isNm x = false := by rw [isNm, hn, decide_eq_false (by omega)]; rfl
    rw [hN]
    clear hN
    go_enter Tryd.func39, Tryd.ntmps39
    go_wp2_with fail
    go_ret
    exact ⟨rfl, rfl⟩
  · have h1' : ¬ (n : Int) < 1 := by omega
    by_cases h16 : 16 < n
    · have h16' : (16 : Int) < n := by omega
      have hN : isNm x = false := by rw [isNm, hn, decide_eq_true (by omega), decide_eq_false (by omega)]; rfl
      rw [hN]
      clear hN
      go_enter Tryd.func39, Tryd.ntmps39
      go_wp2_with fail
      go_ret
      exact ⟨rfl, rfl⟩
    · have h16' : ¬ (16 : Int) < n := by omega
      have HN : Hid (isNm x = !(x.any fun b => decide (b.toNat < 97) || decide (122 < b.toNat))) := hide (by rw [isNm, hn, decide_eq_true (by omega), decide_eq_true (by omega)]; rfl)
      have HL := hide hn
      clear hn
      go_enter Tryd.func39, Tryd.ntmps39
      go_wp2_with fail
      go_loop [3] (fun i => ∃ k : Nat, k ≤ n ∧ i = .int .i64 (k : Int) ∧ Hid (((x.take k).any fun b => decide (b.toNat < 97) || decide (122 < b.toNat)) = false)) (fun i => n - (intOf i).toNat)
      case atStart => exact ⟨0, Nat.zero_le _, rfl, hide rfl⟩
      case round =>
        obtain ⟨k, hk, rfl, HT⟩ := hrel
        by_cases hlt : k < n
        · obtain ⟨y, hy⟩ : ∃ y, x[k]? = some y := ⟨_, List.getElem?_eq_getElem (by have := HL.out; omega)⟩
          have hix := txt_byte (P := Tryd.prog) Tryd.underlying9 hy .i64
          have hT2 : ((x.take (k + 1)).any fun b => decide (b.toNat < 97) || decide (122 < b.toNat)) = (decide (y.toNat < 97) || decide (122 < y.toNat)) := by
            rw [List.take_add_one, hy, List.any_append, HT.out, Bool.false_or]
            simp
          have hmem : y ∈ x := List.mem_of_getElem? hy
          clear hy
          by_cases ha : y.toNat < 97
          · have HR : Hid (isNm x = false) := hide (by rw [HN.out, List.any_eq_true.2 ⟨y, hmem, by simp; omega⟩]; rfl)
            have ha' : (y.toNat : Int) < 97 := by omega
            clear hT2
            go_wp2_with fail
            go_ret
            exact ⟨by rw [HR.out]; rfl, rfl⟩
          · have ha' : ¬ (y.toNat : Int) < 97 := by omega
            by_cases hz : 122 < y.toNat
            · have HR : Hid (isNm x = false) := hide (by rw [HN.out, List.any_eq_true.2 ⟨y, hmem, by simp; omega⟩]; rfl)
              have hz' : (122 : Int) < (y.toNat : Int) := by omega
              clear hT2
              go_wp2_with fail
              go_ret
              exact ⟨by rw [HR.out]; rfl, rfl⟩
            · have hz' : ¬ (122 : Int) < (y.toNat : Int) := by omega
              have HT2 : Hid (((x.take (k + 1)).any fun b => decide (b.toNat < 97) || decide (122 < b.toNat)) = false) := hide (by rw [hT2, decide_eq_false ha, decide_eq_false hz]; rfl)
              clear hT2
              go_wp2_with fail
              go_round
              case rel => exact ⟨k + 1, by omega, by simp, HT2⟩
              case measure => simp [intOf]; omega
        · obtain rfl : k = n := by omega
          have HR : Hid (isNm x = true) := hide (by
            have := HT.out
            rw [List.take_of_length_le (Nat.le_of_eq HL.out)] at this
            rw [HN.out, this]; rfl)
          go_wp2_with fail
          go_ret
          exact ⟨by rw [HR.out]; rfl, rfl⟩
end Go.Proofs.YtckcadhjpjjmjaaDoor
