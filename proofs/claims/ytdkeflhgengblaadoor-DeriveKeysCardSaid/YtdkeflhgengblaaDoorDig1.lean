/- The walk of layer 2: what is put behind a message. No condition. -/
import Derived.Test.YtdkeflhgengblaaDoorBlk2
namespace Go.Proofs.YtdkeflhgengblaaDoor
open Go.RowKit
theorem u32_of (n : Nat) : ((n : Int) % 4294967296) = ((UInt32.ofNat n).toNat : Int) := by
  rw [UInt32.toNat_ofNat']; show (n : Int) % 4294967296 = ((n % 2 ^ 32 : Nat) : Int); omega
set_option maxRecDepth 100000 in
set_option maxHeartbeats 400000 in
theorem c_pad (n : Nat) (w : World) (hn : n < 2305843009213693952) : Calls Tryd.prog 102 #[.int .u64 (n : Int)] w fun e w' => ∃ v, e = .returned v ∧ kU8.Own (fun _ => True) w.heap.size w' 5 v (padN n) ∧ Below w.heap.size w w' := by
  have HN := hide hn
  obtain ⟨p, hp⟩ : ∃ p, p = (119 - n % 64) % 64 := ⟨_, rfl⟩
  have hp64 : p < 64 := by omega
  have HP := hide hp
  have HO : Hid (kU8.Own (fun _ => True) w.heap.size (w.alloc (.cells #[.int .u8 128] 5)) 5 (.slice (some ⟨w.heap.size, 0, none⟩) 1 1) [128]) := hide (Kd.Own.lit (css := [[.int .u8 128]]) (.single (kU8_ofNat _ _ (n := 128) (by decide) rfl)) _ rfl 1 rfl (by decide) _ rfl (Nat.le_refl _))
  clear hp hn
  go_enter Tryd.func102, Tryd.ntmps102
  go_wp2_with fail
  go_loopw [3] (fun v wr => ∃ (pre : List UInt8), 1 ≤ pre.length ∧ pre.length ≤ p + 1 ∧ Hid (pre = 128 :: List.replicate (pre.length - 1) 0) ∧ Hid (kU8.Own (fun _ => True) w.heap.size wr 5 v pre) ∧ Hid (Below w.heap.size w wr)) (fun v wr => 100 - (match v with | .slice _ n _ => n | _ => 0))
  case atStart => exact ⟨[128], Nat.le_refl _, Nat.succ_le_succ (Nat.zero_le _), hide rfl, HO, hide (below1 _ _)⟩
  case round =>
    obtain ⟨pre, hl1, hl2, HPRE, HV, HB⟩ := hrel
    obtain ⟨A, c, rfl⟩ := HV.out.form
    have hwr := HB.out.size
    obtain ⟨m, hm⟩ : ∃ m, m = pre.length := ⟨_, rfl⟩
    rw [← hm] at hl1 hl2 HPRE HV ⊢
    have HM := hide hm
    clear hm
    have hwrap : ∀ x : Int, 0 ≤ x → x < 18446744073709551616 → IntKind.u64.wrap x = x := fun x h0 h1 => by rw [IntKind.wrap_u64]; omega
    have hc1 : IntKind.u64.wrap (IntKind.u64.wrap ((n : Int) + (m : Int)) + 8) = ((n + m + 8 : Nat) : Int) := by
      have := HN.out
      rw [hwrap ((n : Int) + (m : Int)) (by omega) (by omega), hwrap _ (by omega) (by omega)]; omega
    have hc2 : ((n + m + 8 : Nat) : Int).tmod 64 = (((n + m + 8) % 64 : Nat) : Int) := by rw [Int.tmod_eq_emod_of_nonneg (by omega)]; omega
    have hc3 : (IntKind.u64.wrap (IntKind.u64.wrap ((n : Int) + (m : Int)) + 8)).tmod 64 = (((n + m + 8) % 64 : Nat) : Int) := by rw [hc1, hc2]
    clear hc1 hc2 hwrap
    by_cases hlt : m < p + 1
    · have hq : ((IntKind.u64.wrap (IntKind.u64.wrap ((n : Int) + (m : Int)) + 8)).tmod 64 != 0) = true := by
        rw [hc3]
        have : ¬ (((n + m + 8) % 64 : Nat) : Int) = 0 := by have := HP.out; omega
        simpa using this
      clear hc3
      go_wp2_with (at_builtin; go_loud (refine wpList_app (d := kU8) (ys := [0]) rfl _ _ _ rfl Tryd.underlying22 u8_info rfl (by decide) 1 rfl rfl (.inl (HV.out.below (below1 _ _))) (Kd.Src.new ?_ _ rfl _ rfl) ?_ ?_ ?_ ?_))
      · exact ⟨rfl, trivial⟩
      · simp; omega
      · have := HM.out; simp only [maxLen]; omega
      · have := HM.out; omega
      · intro v1 w1 _ h2 h3 _ _
        obtain ⟨A1, c1, rfl⟩ := h2.form
        have hl1' : (pre ++ [(0 : UInt8)]).length = m + 1 := by rw [List.length_append, ← HM.out]; rfl
        have H2 := hide h2
        have H3 := hide (HB.out.trans (((below1 wr _).mono hwr).trans h3))
        clear h2 h3 hq
        rw [hl1'] at H2 ⊢
        have HL1 := hide hl1'
        clear hl1'
        go_wp2
        go_roundw
        case rel =>
          refine ⟨pre ++ [0], by rw [HL1.out]; omega, by rw [HL1.out]; omega, ?_, H2, H3⟩
          rw [HL1.out]
          refine hide ?_
          have := HPRE.out
          rw [this, List.cons_append, show m + 1 - 1 = (m - 1) + 1 by omega, List.replicate_succ']
        case measure => simp; omega
    · have hq : ((IntKind.u64.wrap (IntKind.u64.wrap ((n : Int) + (m : Int)) + 8)).tmod 64 != 0) = false := by
        rw [hc3]
        have : (((n + m + 8) % 64 : Nat) : Int) = 0 := by have := HP.out; omega
        simpa using this
      clear hc3
      have hmp : m = p + 1 := by omega
      have HPRE2 : Hid (128 :: List.replicate ((119 - n % 64) % 64) 0 = pre) := hide (by rw [HPRE.out, hmp, ← HP.out]; rfl)
      have hrow := HV.out.row
      obtain ⟨A', c', e, hr⟩ := hrow
      obtain ⟨rfl, hcc⟩ : A = A' ∧ c = c' := by
        simp only [Value.slice.injEq] at e
        exact ⟨e.1, e.2.2⟩
      subst hcc
      have HR := hide hr
      clear hr e hmp
      go_wp2_with fail
      rw [show ((n : Int) / 536870912 % 4294967296) = ((UInt32.ofNat (n / 536870912)).toNat : Int) by rw [← u32_of]; omega]
      have hlm : pre.length = m := HM.out.symm
      rw [hlm] at HR
      refine (c_put A m c pre _ _ wr HR.out (by omega)).mono ?_
      rintro e w1 ⟨v1, rfl, h1, b1⟩
      have hlp : (pre ++ put4 (UInt32.ofNat (n / 536870912))).length = m + 4 := by rw [List.length_append, hlm]; rfl
      have hrow := h1.row
      rw [hlp] at hrow
      obtain ⟨A1, c1, rfl, hr1⟩ := hrow
      have HR1 := hide hr1
      have HB1 := hide (HB.out.trans (b1.mono hwr))
      have hw1 := HB1.out.size
      clear hr1 h1 hlp
      go_wp2_with fail
      rw [show (IntKind.u64.wrap ((n : Int) * 8) % 4294967296) = ((UInt32.ofNat (n * 8)).toNat : Int) by rw [← u32_of, IntKind.wrap_u64]; omega]
      refine (c_put A1 (m + 4) c1 _ _ _ w1 HR1.out (by omega)).mono ?_
      rintro e w2 ⟨v2, rfl, h2, b2⟩
      have H2 := hide (h2.lower (Nat.le_trans hwr b1.size))
      have HB2 := hide (HB1.out.trans (b2.mono hw1))
      clear h2 b2
      go_wp2_with fail
      go_ret
      refine ⟨_, rfl, ?_, HB2.out⟩
      rw [padN, HPRE2.out]
      exact H2.out
end Go.Proofs.YtdkeflhgengblaaDoor
