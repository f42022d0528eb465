/- The document's answer of layer 4: HMAC. No condition. -/
import Derived.Test.YtdkeflhgengblaaDoorRs5
import Derived.Test.YtdkeflhgengblaaDoorHm3
namespace Go.Proofs.YtdkeflhgengblaaDoor
open Go.RowKit
set_option maxRecDepth 100000 in
set_option maxHeartbeats 1600000 in
theorem c_rturned0 (A2 : Option Addr) (n2 c2 : Nat) (key : List UInt8) (by_ : UInt8) (ok : Nat → Prop) (w : World) (hR : kU8.Row ok w A2 n2 c2 key) (hn : n2 ≤ 64) :
    Calls Tryd.prog 73 #[.slice A2 n2 c2, bv by_] w fun e w' => ∃ v, e = .returned v ∧ kU8.Own (fun _ => True) w.heap.size w' 5 v (keyX key by_) ∧ Below w.heap.size w w' := by
  obtain ⟨KB, hKB⟩ : ∃ KB, KB = key := ⟨_, rfl⟩
  have HKB : Hid (KB = keyB key) := hide (by rw [keyB, if_neg (by rw [hR.1]; omega), hKB])
  have HR2 : Hid (kU8.Row ok w A2 n2 c2 KB) := hide (by rw [hKB]; exact hR)
  have HB0 : Hid (Below w.heap.size w w) := hide (Below.refl _ _)
  clear hKB hR
  go_enter Tryd.func73, Tryd.ntmps73

  obtain ⟨XL, hXL⟩ : ∃ XL, XL = keyX key by_ := ⟨_, rfl⟩
  have hxl : XL.length = 64 := by rw [hXL]; exact keyX_len _ _
  have HXA : Hid (∀ i, i < 64 → XL[i]? = some (KB.getD i 0 ^^^ by_)) := hide (fun i hi => by
    rw [hXL, keyX, ← HKB.out, List.getElem?_map, List.getD_eq_getElem?_getD]
    rcases Nat.lt_or_ge i KB.length with h1 | h1
    · rw [List.getElem?_append_left h1, List.getElem?_eq_getElem h1]; rfl
    · rw [List.getElem?_append_right h1, List.getElem?_replicate, if_pos (by omega), List.getElem?_eq_none h1]; rfl)
  have HXL := hide hXL
  have HLX := hide hxl
  obtain ⟨NB, hNB⟩ : ∃ NB, NB = w.heap.size := ⟨_, rfl⟩
  have HO0 := hide (bytes_lit w [] #[] rfl 0 rfl (Nat.zero_le _))
  have HO : Hid (kU8.Own (fun _ => True) NB (w.alloc (.cells #[] 5)) 5 (.slice (some ⟨w.heap.size, 0, none⟩) 0 0) []) := hide (by rw [hNB]; exact HO0.out)
  have HR3 : Hid (kU8.Row (· < NB) (w.alloc (.cells #[] 5)) A2 n2 c2 KB) := hide ((HR2.out.bound.more (ok' := fun k => k < NB) fun k h => by rw [hNB]; exact h.2).below (below1 w (.cells #[] 5)))
  have hNw : w.heap.size ≤ NB := by rw [hNB]; exact HB0.out.size
  have hNs : NB ≤ (w.alloc (.cells #[] 5)).heap.size := by rw [hNB, World.size_alloc]; exact Nat.le_succ _
  have HB1 := hide (below1 w (.cells #[] 5))
  clear hXL hxl HO0 hNB
  go_wp2_with fail
  go_loopw [5, 6] (fun v i wr => ∃ (k : Nat), k ≤ 64 ∧ i = .int .i64 (k : Int) ∧ Hid (kU8.Own (fun _ => True) NB wr 5 v (XL.take k)) ∧ Hid (kU8.Row (· < NB) wr A2 n2 c2 KB) ∧ NB ≤ wr.heap.size ∧ Hid (Below w.heap.size w wr)) (fun _ i _ => 64 - (intOf i).toNat)
  case atStart => exact ⟨0, Nat.zero_le _, rfl, HO, HR3, hNs, HB1⟩
  case round =>
    clear HO HR3 hNs HB1
    obtain ⟨k, hk, rfl, HV, HR, hN, HB⟩ := hrel
    have hwr := HB.out.size
    by_cases hlt : k < 64
    · obtain ⟨A, c, hvf⟩ := HV.out.form
      have hlk : (XL.take k).length = k := by rw [List.length_take]; have := HLX.out; omega
      rw [hlk] at hvf
      rw [hvf] at HV ⊢
      have HLK := hide hlk
      clear hvf hlk
      by_cases hin : k < n2
      · obtain ⟨x, hx⟩ : ∃ x, KB[k]? = some x := ⟨_, List.getElem?_eq_getElem (by rw [HR.out.1]; exact hin)⟩
        obtain ⟨p, o, hip, hcp, -⟩ := row_byte HR.out hx
        have HTK : Hid (XL.take k ++ [x ^^^ by_] = XL.take (k + 1)) := hide (by
          rw [List.take_add_one, HXA.out k hlt, List.getD_eq_getElem?_getD, hx]; rfl)
        have hxx := b_xor x by_
        clear hx
        go_wp2_with (at_builtin; go_loud (refine wpList_app (d := kU8) (ok := fun _ => True) (base := NB) (ys := [x ^^^ by_]) rfl _ _ _ rfl Tryd.underlying22 u8_info rfl (by decide) 1 rfl rfl (.inl (HV.out.below (below1 _ _))) (Kd.Src.new (d := kU8) (x := x ^^^ by_) (cs := [bv (x ^^^ by_)]) ⟨rfl, trivial⟩ _ rfl _ rfl) ?_ ?_ ?_ ?_))
        · simp; omega
        · simp only [maxLen]; have := HLK.out; omega
        · have := HLK.out; omega
        intro v9 w9 _ h9 b9 _ _
        rw [HTK.out] at h9
        have H9 := hide h9
        have b9' := (below1 wr (.cells #[bv (x ^^^ by_)] 5)).mono hN
        have HB9 := hide (HB.out.trans ((b9'.trans b9).mono hNw))
        have HR9 := hide (HR.out.belowB (b9'.trans b9))
        have hN9 : NB ≤ w9.heap.size := Nat.le_trans hN (b9'.trans b9).size
        clear h9 b9 b9' hip hcp hxx
        go_wp2_with fail
        go_roundw
        case rel => exact ⟨k + 1, by omega, by simp, H9, HR9, hN9, HB9⟩
        case measure => simp [intOf]; omega
      · have HTK : Hid (XL.take k ++ [by_] = XL.take (k + 1)) := hide (by
          rw [List.take_add_one, HXA.out k hlt, List.getD_eq_getElem?_getD, List.getElem?_eq_none (by rw [HR.out.1]; omega)]
          show _ = _ ++ [(0 : UInt8) ^^^ by_]
          rw [UInt8.zero_xor])
        have hxx : bits .xor .u8 0 (by_.toNat : Int) = (by_.toNat : Int) := by
          have := b_xor 0 by_
          rw [UInt8.zero_xor] at this
          exact this
        go_wp2_with (at_builtin; go_loud (refine wpList_app (d := kU8) (ok := fun _ => True) (base := NB) (ys := [by_]) rfl _ _ _ rfl Tryd.underlying22 u8_info rfl (by decide) 1 rfl rfl (.inl (HV.out.below (below1 _ _))) (Kd.Src.new (d := kU8) (x := by_) (cs := [bv by_]) ⟨rfl, trivial⟩ _ rfl _ rfl) ?_ ?_ ?_ ?_))
        · simp; omega
        · simp only [maxLen]; have := HLK.out; omega
        · have := HLK.out; omega
        intro v9 w9 _ h9 b9 _ _
        rw [HTK.out] at h9
        have H9 := hide h9
        have b9' := (below1 wr (.cells #[bv by_] 5)).mono hN
        have HB9 := hide (HB.out.trans ((b9'.trans b9).mono hNw))
        have HR9 := hide (HR.out.belowB (b9'.trans b9))
        have hN9 : NB ≤ w9.heap.size := Nat.le_trans hN (b9'.trans b9).size
        clear h9 b9 b9' hxx
        go_wp2_with fail
        go_roundw
        case rel => exact ⟨k + 1, by omega, by simp, H9, HR9, hN9, HB9⟩
        case measure => simp [intOf]; omega
    · obtain rfl : k = 64 := by omega
      go_wp2_with fail
      go_ret
      refine ⟨_, rfl, ?_, HB.out⟩
      have := HV.out.lower hNw
      rw [List.take_of_length_le (by rw [HLX.out]; exact Nat.le_refl _)] at this
      rw [← HXL.out]
      exact this
set_option maxRecDepth 100000 in
set_option maxHeartbeats 1600000 in
theorem c_rturned1 (A : Option Addr) (n c : Nat) (key : List UInt8) (by_ : UInt8) (ok : Nat → Prop) (w : World) (hR : kU8.Row ok w A n c key) (hn : 64 < n) (hn2 : n < 1099511627776) :
    Calls Tryd.prog 73 #[.slice A n c, bv by_] w fun e w' => ∃ v, e = .returned v ∧ kU8.Own (fun _ => True) w.heap.size w' 5 v (keyX key by_) ∧ Below w.heap.size w w' := by
  have HR := hide hR
  have HN := hide hn2
  clear hR hn2
  go_enter Tryd.func73, Tryd.ntmps73
  go_wp2_with fail
  refine (c_rof key A n c ok w HR.out HN.out).mono ?_
  rintro e W0 ⟨v0, rfl, h0, b0⟩
  obtain ⟨A2, c2, rfl, hr2⟩ := own_row h0
  obtain ⟨KB, hKB⟩ : ∃ KB, KB = sha key := ⟨_, rfl⟩
  have HKB : Hid (KB = keyB key) := hide (by rw [keyB, if_pos (by rw [HR.out.1]; exact hn), hKB])
  rw [sha_len] at hr2 ⊢
  rw [← hKB] at hr2
  obtain ⟨n2, hn2⟩ : ∃ n2, n2 = 32 := ⟨_, rfl⟩
  have HR2 := hide hr2
  have HB0 := hide b0
  clear hKB hr2 h0 b0

  obtain ⟨XL, hXL⟩ : ∃ XL, XL = keyX key by_ := ⟨_, rfl⟩
  have hxl : XL.length = 64 := by rw [hXL]; exact keyX_len _ _
  have HXA : Hid (∀ i, i < 64 → XL[i]? = some (KB.getD i 0 ^^^ by_)) := hide (fun i hi => by
    rw [hXL, keyX, ← HKB.out, List.getElem?_map, List.getD_eq_getElem?_getD]
    rcases Nat.lt_or_ge i KB.length with h1 | h1
    · rw [List.getElem?_append_left h1, List.getElem?_eq_getElem h1]; rfl
    · rw [List.getElem?_append_right h1, List.getElem?_replicate, if_pos (by omega), List.getElem?_eq_none h1]; rfl)
  have HXL := hide hXL
  have HLX := hide hxl
  obtain ⟨NB, hNB⟩ : ∃ NB, NB = W0.heap.size := ⟨_, rfl⟩
  have HO0 := hide (bytes_lit W0 [] #[] rfl 0 rfl (Nat.zero_le _))
  have HO : Hid (kU8.Own (fun _ => True) NB (W0.alloc (.cells #[] 5)) 5 (.slice (some ⟨W0.heap.size, 0, none⟩) 0 0) []) := hide (by rw [hNB]; exact HO0.out)
  have HR3 : Hid (kU8.Row (· < NB) (W0.alloc (.cells #[] 5)) A2 32 c2 KB) := hide ((HR2.out.bound.more (ok' := fun k => k < NB) fun k h => by rw [hNB]; exact h.2).below (below1 W0 (.cells #[] 5)))
  have hNw : w.heap.size ≤ NB := by rw [hNB]; exact HB0.out.size
  have hNs : NB ≤ (W0.alloc (.cells #[] 5)).heap.size := by rw [hNB, World.size_alloc]; exact Nat.le_succ _
  have HB1 := hide (HB0.out.trans ((below1 W0 (.cells #[] 5)).mono HB0.out.size))
  clear hXL hxl HO0 hNB
  go_wp2_with fail
  go_loopw [5, 6] (fun v i wr => ∃ (k : Nat), k ≤ 64 ∧ i = .int .i64 (k : Int) ∧ Hid (kU8.Own (fun _ => True) NB wr 5 v (XL.take k)) ∧ Hid (kU8.Row (· < NB) wr A2 32 c2 KB) ∧ NB ≤ wr.heap.size ∧ Hid (Below w.heap.size w wr)) (fun _ i _ => 64 - (intOf i).toNat)
  case atStart => exact ⟨0, Nat.zero_le _, rfl, HO, HR3, hNs, HB1⟩
  case round =>
    clear HO HR3 hNs HB1
    obtain ⟨k, hk, rfl, HV, HR, hN, HB⟩ := hrel
    have hwr := HB.out.size
    by_cases hlt : k < 64
    · obtain ⟨A, c, hvf⟩ := HV.out.form
      have hlk : (XL.take k).length = k := by rw [List.length_take]; have := HLX.out; omega
      rw [hlk] at hvf
      rw [hvf] at HV ⊢
      have HLK := hide hlk
      clear hvf hlk
      by_cases hin : k < 32
      · obtain ⟨x, hx⟩ : ∃ x, KB[k]? = some x := ⟨_, List.getElem?_eq_getElem (by rw [HR.out.1]; exact hin)⟩
        obtain ⟨p, o, hip, hcp, -⟩ := row_byte HR.out hx
        have HTK : Hid (XL.take k ++ [x ^^^ by_] = XL.take (k + 1)) := hide (by
          rw [List.take_add_one, HXA.out k hlt, List.getD_eq_getElem?_getD, hx]; rfl)
        have hxx := b_xor x by_
        clear hx
        go_wp2_with (at_builtin; go_loud (refine wpList_app (d := kU8) (ok := fun _ => True) (base := NB) (ys := [x ^^^ by_]) rfl _ _ _ rfl Tryd.underlying22 u8_info rfl (by decide) 1 rfl rfl (.inl (HV.out.below (below1 _ _))) (Kd.Src.new (d := kU8) (x := x ^^^ by_) (cs := [bv (x ^^^ by_)]) ⟨rfl, trivial⟩ _ rfl _ rfl) ?_ ?_ ?_ ?_))
        · simp; omega
        · simp only [maxLen]; have := HLK.out; omega
        · have := HLK.out; omega
        intro v9 w9 _ h9 b9 _ _
        rw [HTK.out] at h9
        have H9 := hide h9
        have b9' := (below1 wr (.cells #[bv (x ^^^ by_)] 5)).mono hN
        have HB9 := hide (HB.out.trans ((b9'.trans b9).mono hNw))
        have HR9 := hide (HR.out.belowB (b9'.trans b9))
        have hN9 : NB ≤ w9.heap.size := Nat.le_trans hN (b9'.trans b9).size
        clear h9 b9 b9' hip hcp hxx
        go_wp2_with fail
        go_roundw
        case rel => exact ⟨k + 1, by omega, by simp, H9, HR9, hN9, HB9⟩
        case measure => simp [intOf]; omega
      · have HTK : Hid (XL.take k ++ [by_] = XL.take (k + 1)) := hide (by
          rw [List.take_add_one, HXA.out k hlt, List.getD_eq_getElem?_getD, List.getElem?_eq_none (by rw [HR.out.1]; omega)]
          show _ = _ ++ [(0 : UInt8) ^^^ by_]
          rw [UInt8.zero_xor])
        have hxx : bits .xor .u8 0 (by_.toNat : Int) = (by_.toNat : Int) := by
          have := b_xor 0 by_
          rw [UInt8.zero_xor] at this
          exact this
        go_wp2_with (at_builtin; go_loud (refine wpList_app (d := kU8) (ok := fun _ => True) (base := NB) (ys := [by_]) rfl _ _ _ rfl Tryd.underlying22 u8_info rfl (by decide) 1 rfl rfl (.inl (HV.out.below (below1 _ _))) (Kd.Src.new (d := kU8) (x := by_) (cs := [bv by_]) ⟨rfl, trivial⟩ _ rfl _ rfl) ?_ ?_ ?_ ?_))
        · simp; omega
        · simp only [maxLen]; have := HLK.out; omega
        · have := HLK.out; omega
        intro v9 w9 _ h9 b9 _ _
        rw [HTK.out] at h9
        have H9 := hide h9
        have b9' := (below1 wr (.cells #[bv by_] 5)).mono hN
        have HB9 := hide (HB.out.trans ((b9'.trans b9).mono hNw))
        have HR9 := hide (HR.out.belowB (b9'.trans b9))
        have hN9 : NB ≤ w9.heap.size := Nat.le_trans hN (b9'.trans b9).size
        clear h9 b9 b9' hxx
        go_wp2_with fail
        go_roundw
        case rel => exact ⟨k + 1, by omega, by simp, H9, HR9, hN9, HB9⟩
        case measure => simp [intOf]; omega
    · obtain rfl : k = 64 := by omega
      go_wp2_with fail
      go_ret
      refine ⟨_, rfl, ?_, HB.out⟩
      have := HV.out.lower hNw
      rw [List.take_of_length_le (by rw [HLX.out]; exact Nat.le_refl _)] at this
      rw [← HXL.out]
      exact this
theorem c_rturned (A : Option Addr) (n c : Nat) (key : List UInt8) (by_ : UInt8) (ok : Nat → Prop) (w : World) (hR : kU8.Row ok w A n c key) (hn2 : n < 1099511627776) :
    Calls Tryd.prog 73 #[.slice A n c, bv by_] w fun e w' => ∃ v, e = .returned v ∧ kU8.Own (fun _ => True) w.heap.size w' 5 v (keyX key by_) ∧ Below w.heap.size w w' := by
  by_cases h : n ≤ 64
  · exact c_rturned0 A n c key by_ ok w hR h
  · exact c_rturned1 A n c key by_ ok w hR (by omega) hn2
end Go.Proofs.YtdkeflhgengblaaDoor
