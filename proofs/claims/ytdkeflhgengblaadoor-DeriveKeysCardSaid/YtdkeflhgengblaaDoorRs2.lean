/- The document's answer of layer 2: what is put behind a message. No condition. -/
import Derived.Test.YtdkeflhgengblaaDoorRs1
namespace Go.Proofs.YtdkeflhgengblaaDoor
open Go.RowKit
theorem append_zeros0 {P : Program} {w : World} {E T TN ty : TypeId} {kn kq : IntKind} (hT : P.underlying T = some (.slice E)) (hTN : P.underlying TN = some (.int kn)) (hinfo : (P.info? E).map (fun i => (i.zero, i.size, i.bytes)) = some (some (.int .u8 0), 1, 1)) (A : Option Addr) (n c : Nat) (hc : n ≤ c) :
    (Builtin.append_ #[T, TN] ty #[.slice A n c, .int kq 0]).run P w = .ok (.slice A n c) w := by
  obtain ⟨i0, hi, hzz⟩ := Option.map_eq_some_iff.1 hinfo
  simp only [Prod.mk.injEq] at hzz
  obtain ⟨hz0, hz1, hz2⟩ := hzz
  have hw : IntKind.i64.wrap 0 = 0 := by decide
  cases A <;> simp [Builtin.append_, run_underlying hT, run_underlying hTN, sizeOf, typeInfo, asInt, asIntOf, hi, hz2, hw, hc, storeCells]
theorem zerosN (k : Nat) : zs k = List.replicate k 0 := rfl
/-- append(v, make([]byte, k)...) onto a row of the call's own. -/
theorem at_app_zeros {P : Program} {E : TypeId} {ok : Nat → Prop} {base : Nat} {w : World} {xs : List UInt8} {ops : Array Oper} {rest : List Oper} {a : Act} {Q : Exit → Act → World → Prop} {dst : Option Tmp} {ty : TypeId} {pos : String} {after : Array Edge} {sl x : Operand} {T TN U : TypeId} {kn kq : IntKind}
    (hT : P.underlying T = some (.slice E)) (hTN : P.underlying TN = some (.int kn)) (hU : P.underlying U = some .string) (hinfo : (P.info? E).map (fun i => (i.zero, i.size, i.bytes)) = some (some (.int .u8 0), 1, 1))
    {A : Option Addr} {n c : Nat} (k : Nat) {z : Int} (hs : a.eval sl = .slice A n c) (hx : a.eval x = .int kq z) (hz : z = (k : Int))
    (h : kU8.Own ok base w E (.slice A n c) xs) (hbase : base ≤ w.heap.size) (hn : xs.length = n) (hlen : n + k ≤ 140737488355328)
    (hk : ∀ v' w', Hid (kU8.Own ok base w' E v' (xs ++ zs k)) → Below base w w' → wpList P ops Q rest (a.put dst v') w') : wpList P ops Q (⟨dst, .call { callee := .builtin .append, args := #[sl, x], argTypes := #[T, TN] }, ty, pos, after, none⟩ :: rest) a w := by
  rcases Nat.eq_zero_or_pos k with h0 | h0
  · subst h0
    subst hz
    obtain ⟨A0, c0, he, hrow⟩ := h.row
    have hc : n ≤ c := by
      cases he
      have := hrow.2.1
      omega
    refine Lib.wpList_append_run w rfl sl x T TN rfl _ _ hs hx _ _ (append_zeros0 hT hTN hinfo A n c hc) (hk _ _ (hide ?_) (Below.refl _ _))
    rw [show xs ++ zs 0 = xs from List.append_nil _]
    exact h
  · exact wpList_app_zeros rfl sl x T TN U rfl hT hTN hU hinfo k hs hx hz h0 h hbase hn hlen fun v' w' h1 _ h3 _ => hk v' w' (hide h1) h3
theorem padN_bits (n : Nat) (h : n < 2305843009213693952) : padN n = 128 :: zs ((119 - n % 64) % 64) ++ [7, 6, 5, 4, 3, 2, 1, 0].map fun i => UInt8.ofNat (n * 8 / 256 ^ i) := by
  rw [padN, List.append_assoc, bits_put4 n h, zerosN]
def bl8 (n : Nat) : List UInt8 := [7, 6, 5, 4, 3, 2, 1, 0].map fun i => UInt8.ofNat (n * 8 / 256 ^ i)
theorem bl8_at (n q : Nat) (h : q < 8) : (bl8 n)[7 - q]? = some (UInt8.ofNat (n * 8 / 256 ^ q)) := by
  match q, h with
  | 0, _ => rfl
  | 1, _ => rfl
  | 2, _ => rfl
  | 3, _ => rfl
  | 4, _ => rfl
  | 5, _ => rfl
  | 6, _ => rfl
  | 7, _ => rfl
theorem pow_bits (q : Nat) : (2 : Nat) ^ (8 * q) = 256 ^ q := by rw [Nat.pow_mul]
set_option maxRecDepth 100000 in
set_option maxHeartbeats 1600000 in
theorem c_rpad (n : Nat) (w : World) (hn : n < 2305843009213693952) : Calls Tryd.prog 104 #[.int .u64 (n : Int)] w fun e w' => ∃ v, e = .returned v ∧ kU8.Own (fun _ => True) w.heap.size w' 5 v (padN n) ∧ Below w.heap.size w w' := by
  obtain ⟨p, hp⟩ : ∃ p, p = (119 - n % 64) % 64 := ⟨_, rfl⟩
  have hpad := padN_bits n hn
  rw [← hp] at hpad
  have HPAD : Hid (padN n = (128 :: zs p) ++ bl8 n) := hide hpad
  have hp64 : p < 64 := by omega
  have HN := hide hn
  have HPI : Hid ((55 - (n : Int)) % 64 = (p : Int)) := hide (by omega)
  have HO := hide (bytes_lit w [128] #[.int .u8 128] rfl 1 rfl (by decide))
  have HW : Hid (IntKind.u64.wrap ((n : Int) * 8) = ((n * 8 : Nat) : Int)) := hide (by rw [IntKind.wrap_u64]; omega)
  have HLZ : Hid ((128 :: zs p).length = p + 1) := hide (by rw [List.length_cons, zs_len])
  clear hp hn hpad
  go_enter Tryd.func104, Tryd.ntmps104
  go_wp2_with ((with_reducible show wpList _ _ _ (Oper.mk (some 15) _ _ _ _ _ :: _) _ _); go_loud (refine at_app_zeros (P := Tryd.prog) (U := 9) Tryd.underlying22 Tryd.underlying3 Tryd.underlying9 u8_info p rfl rfl (by have := HPI.out; omega) HO.out ?_ rfl ?_ ?_))
  · simp
  · omega
  intro v1 w1 H1 b1
  have HB1 := hide ((below1 w (.cells #[.int .u8 128] 5)).trans b1)
  clear b1
  go_wp2_with fail
  rw [HW.out]
  obtain ⟨N8, hN8⟩ : ∃ N8, N8 = n * 8 := ⟨_, rfl⟩
  rw [← hN8]
  have HN8 := hide hN8
  have HN64 : Hid (N8 < 18446744073709551616) := hide (by rw [hN8]; have := HN.out; omega)
  clear hN8
  go_loopw [4, 6] (fun v i wr => ∃ (m : Nat) (z : Int), m ≤ 8 ∧ i = .int .i64 z ∧ Hid (z = (m : Int) - 1) ∧ Hid (kU8.Own (fun _ => True) w.heap.size wr 5 v ((128 :: zs p) ++ (bl8 n).take (8 - m))) ∧ Hid (Below w.heap.size w wr)) (fun _ i _ => (intOf i + 1).toNat)
  case atStart => exact ⟨8, 7, Nat.le_refl _, rfl, hide rfl, hide (by rw [Nat.sub_self, List.take_zero, List.append_nil]; exact H1.out), HB1⟩
  case round =>
    obtain ⟨m, z, hm, rfl, HZ, HV, HB⟩ := hrel
    have hwr := HB.out.size
    by_cases hpos : 0 < m
    · obtain ⟨q, rfl⟩ : ∃ q, m = q + 1 := ⟨m - 1, by omega⟩
      obtain rfl : z = (q : Int) := by have := HZ.out; omega
      have hq8 : q < 8 := by omega
      obtain ⟨A, c, rfl⟩ := HV.out.form
      have hln : ((128 :: zs p) ++ (bl8 n).take (8 - (q + 1))).length = p + 1 + (7 - q) := by
        rw [List.length_append, HLZ.out, List.length_take]
        show p + 1 + min _ 8 = _
        omega
      rw [hln] at HV ⊢
      have HLN := hide hln
      have HTK : Hid (128 :: (zs p ++ ((bl8 n).take (7 - q) ++ [UInt8.ofNat (n * 8 / 256 ^ q)])) = (128 :: zs p) ++ (bl8 n).take (8 - q)) := hide (by
        rw [show 8 - q = (7 - q) + 1 by omega, List.take_add_one, bl8_at n q hq8]
        rfl)
      have HBT : Hid (((N8 : Int) / 2 ^ (8 * q)).tmod 256 % 256 = ((UInt8.ofNat (n * 8 / 256 ^ q)).toNat : Int)) := hide (by
        have e : ((N8 : Int) / 2 ^ (8 * q)) = ((n * 8 / 256 ^ q : Nat) : Int) := by
          rw [HN8.out, ← pow_bits]
          simp
        obtain ⟨B, hB⟩ : ∃ B, B = n * 8 / 256 ^ q := ⟨_, rfl⟩
        rw [e, ← hB, Int.tmod_eq_emod_of_nonneg (Int.natCast_nonneg B), UInt8.toNat_ofNat']
        show _ = ((B % 256 : Nat) : Int)
        omega)
      clear hln
      go_wp2_with (at_builtin; go_loud (refine wpList_app (d := kU8) (ys := [UInt8.ofNat (n * 8 / 256 ^ q)]) rfl _ _ _ rfl Tryd.underlying22 u8_info rfl (by decide) 1 rfl rfl (.inl (HV.out.below (below1 _ _))) (Kd.Src.new ?_ _ rfl _ rfl) ?_ ?_ ?_ ?_))
      · exact ⟨congrArg (fun z => [Value.int .u8 z]) HBT.out, trivial⟩
      · simp; omega
      · rw [HLN.out]; simp only [maxLen]; omega
      · rw [HLN.out]; omega
      · intro v2 w2 _ h2 h3 _ _
        rw [HTK.out] at h2
        have H2 := hide h2
        have H3 := hide (HB.out.trans (((below1 wr _).mono hwr).trans h3))
        clear h2 h3
        go_wp2
        go_roundw
        case rel => exact ⟨q, (q : Int) - 1, by omega, by simp, hide rfl, H2, H3⟩
        case measure => simp [intOf]
    · obtain rfl : m = 0 := by omega
      obtain rfl : z = -1 := by have := HZ.out; omega
      go_wp2_with fail
      go_ret
      refine ⟨_, rfl, ?_, HB.out⟩
      rw [HPAD.out]
      exact HV.out
end Go.Proofs.YtdkeflhgengblaaDoor
