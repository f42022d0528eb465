/- The document's answer of layer 3: the sum of bytes. No condition. -/
import Derived.Test.YtdkeflhgengblaaDoorRs4
namespace Go.Proofs.YtdkeflhgengblaaDoor
open Go.RowKit
theorem row_mid {P : Program} {T E : TypeId} {α : Type} {d : Kd α} {ok : Nat → Prop} {w : World} {A : Option Addr} {n c : Nat} {xs : List α} (h : d.Row ok w A n c xs) (hT : P.underlying T = some (.slice E)) (hE : (P.info? E).map (·.size) = some d.sz) {i j : Nat} (hij : i ≤ j) (hj : j ≤ n) (kd ke : IntKind) (a b : Int) (ha : a = i) (hb : b = j) :
    ∃ B, (∀ wx : World, (Instr.sliceAt T (.slice A n c) (some (.int kd a)) (some (.int ke b)) none).run P wx = .ok (.slice B (j - i) (c - i)) wx) ∧ d.Row ok w B (j - i) (c - i) ((xs.drop i).take (j - i)) := by
  have hc := h.2.1
  refine ⟨_, fun wx => ?_, (h.drop (show i ≤ n by omega)).take (k := j - i) (by omega)⟩
  subst ha hb
  have e : P.elem T = E := by simp [Program.elem, hT]
  rw [run_sliceAt_slice _ _ _ _ _ _ (elem_of hT), run_slice_lh wx T A n c (elem_of hT) kd ke i j (by omega) (by omega) (by omega), e, size_run hE]
  simp [Result.andThen, sliced]
theorem blocks_next {all : List UInt8} {j : Nat} (h : 64 * j + 64 ≤ all.length) : blocks S8.start (all.take (64 * (j + 1))) = compress (blocks S8.start (all.take (64 * j))) ((all.drop (64 * j)).take 64) := by
  have e : all.take (64 * (j + 1)) = all.take (64 * j) ++ (all.drop (64 * j)).take 64 := by
    rw [show 64 * (j + 1) = 64 * j + 64 by omega, List.take_add]
  rw [e, blocks_append j _ _ _ (by rw [List.length_take]; omega), blocks_one (by rw [List.length_take, List.length_drop]; omega)]
theorem wrap_at {j K : Nat} (h : j < K) (hK : K < 1099511627776) : wrap64 (64 * (j : Int) + 64) = 64 * (j : Int) + 64 := by unfold wrap64; omega
theorem meas_at {j K : Nat} (h : j < K) (hK : K < 1099511627776) : 64 * K - (intOf (Value.int IntKind.i64 (wrap64 (64 * (j : Int) + 64)))).toNat < 64 * K - (intOf (Value.int IntKind.i64 ((64 * j : Nat) : Int))).toNat := by
  rw [wrap_at h hK]
  show 64 * K - (64 * (j : Int) + 64).toNat < 64 * K - (((64 * j : Nat) : Int)).toNat
  omega
theorem wrap_next {j K : Nat} (h : j < K) (hK : K < 1099511627776) : wrap64 (64 * (j : Int) + 64) = ((64 * (j + 1) : Nat) : Int) := by rw [wrap_at h hK]; omega
set_option maxRecDepth 100000 in
set_option maxHeartbeats 1600000 in
theorem c_rof (b : List UInt8) (B : Option Addr) (nb cb : Nat) (ok : Nat → Prop) (w : World) (hR : kU8.Row ok w B nb cb b) (hn : nb < 1099511627776) : Calls Tryd.prog 72 #[.slice B nb cb] w fun e w' => ∃ v, e = .returned v ∧ kU8.Own (fun _ => True) w.heap.size w' 5 v (sha b) ∧ Below w.heap.size w w' := by
  have HR := hide hR
  have hl := hR.1
  have HN := hide hn
  have HO := hide (bytes_lit w [] #[] rfl 0 rfl (Nat.zero_le _))
  have HPL := hide (padN_len b.length)
  have HPW := hide (padN_whole b.length)
  have HL := hide hl
  clear hR hn hl
  go_enter Tryd.func72, Tryd.ntmps72
  go_wp2_with (at_builtin; go_loud (refine wpList_app (d := kU8) (ok := fun _ => True) rfl _ _ _ rfl Tryd.underlying22 u8_info rfl (by decide) cb rfl rfl (.inl HO.out) (src8 (HR.out.alloc _).src) ?_ ?_ ?_ ?_))
  · simp
  · have := HN.out; simp only [maxLen, List.length_nil]; omega
  · have := HN.out; simp only [List.length_nil]; omega
  intro v1 w1 _ h1 b1 _ _
  have h1 := h1 (.inr HO.out)
  have HV1 := hide h1
  have HB1 := hide ((below1 w (.cells #[] 5)).trans b1)
  have hws1 := HB1.out.size
  clear h1 b1
  go_wp2_with fail
  rw [show IntKind.u64.wrap (nb : Int) = (nb : Int) by rw [IntKind.wrap_u64]; have := HN.out; omega]
  refine (c_rpad nb w1 (by have := HN.out; omega)).mono ?_
  rintro e w2 ⟨v2, rfl, h2, b2⟩
  rw [← HL.out] at h2
  obtain ⟨pd, hpd⟩ : ∃ pd, pd = padN b.length := ⟨_, rfl⟩
  rw [← hpd] at h2 HPL HPW
  have HPD := hide hpd
  clear hpd
  obtain ⟨A2, c2, rfl, hr2⟩ := own_row h2
  obtain ⟨pl, hpl⟩ : ∃ pl, pl = pd.length := ⟨_, rfl⟩
  rw [← hpl] at hr2 ⊢
  have HR2 := hide hr2
  have HV2 := hide (HV1.out.below b2)
  have HB2 := hide (HB1.out.trans (b2.mono hws1))
  have hws2 := HB2.out.size
  have HPL72 : Hid (pl ≤ 72) := hide (by rw [hpl, HPL.out]; omega)
  have HPP := hide hpl
  clear hr2 h2 b2 hpl
  go_wp2_with (at_builtin; go_loud (refine wpList_app (d := kU8) (ok := fun _ => True) (base := w.heap.size) rfl _ _ _ rfl Tryd.underlying22 u8_info rfl (by decide) c2 rfl rfl (.inl HV2.out) (src8 HR2.out.src) ?_ ?_ ?_ ?_))
  · exact hws2
  · have := HN.out; have := HL.out; have := HPL72.out; simp only [maxLen]; omega
  · have := HN.out; have := HL.out; have := HPL72.out; omega
  intro v3 w3 _ h3 b3 _ _
  have h3 := h3 (.inr HV2.out)
  obtain ⟨all, hall⟩ : ∃ all, all = b ++ pd := ⟨_, rfl⟩
  rw [← hall] at h3
  have HSHA : Hid (sha b = (blocks S8.start all).bytes) := hide (by rw [hall, HPD.out]; exact sha_eq b)
  have hal : all.length = nb + pl := by rw [hall, List.length_append, HL.out, ← HPP.out]
  obtain ⟨K, hK⟩ : ∃ K, all.length = 64 * K := ⟨all.length / 64, by
    have h0 := HPW.out
    rw [← HPP.out, HL.out] at h0
    omega⟩
  have HKS : Hid (K < 1099511627776) := hide (by have := HN.out; have := HPL72.out; omega)
  obtain ⟨A3, c3, rfl, hr3⟩ := own_row h3
  rw [hK] at hr3 ⊢
  have HR3 := hide hr3
  have HB3 := hide (HB2.out.trans b3)
  have hws3 := HB3.out.size
  have HAL := hide hK
  clear hr3 h3 b3 hall hal hK
  go_wp2_with fail
  refine (c_rstart w3).mono ?_
  rintro e w4 ⟨v4, rfl, h4, b4⟩
  have HV4 : Hid (kW.Own (fun _ => True) w3.heap.size w4 155 v4 (blocks S8.start (all.take (64 * 0))).list) := hide (by rw [Nat.mul_zero, List.take_zero, blocks_lt (by decide)]; exact h4)
  have HB4 := hide (HB3.out.trans (b4.mono hws3))
  have HR4 := hide (HR3.out.below b4)
  have hw34 := b4.size
  clear h4 b4
  go_wp2_with fail
  go_loopw [4, 5] (fun v i wr => ∃ (j : Nat), j ≤ K ∧ i = .int .i64 ((64 * j : Nat) : Int) ∧ Hid (kW.Own (fun _ => True) w3.heap.size wr 155 v (blocks S8.start (all.take (64 * j))).list) ∧ Hid (kU8.Row (w.heap.size ≤ ·) wr A3 (64 * K) c3 all) ∧ Hid (Below w.heap.size w wr) ∧ w3.heap.size ≤ wr.heap.size) (fun _ i _ => 64 * K - (intOf i).toNat)
  case atStart => exact ⟨0, Nat.zero_le _, rfl, HV4, HR4, HB4, hw34⟩
  case round =>
    obtain ⟨j, hj, rfl, HV, HRA, HB, hw3⟩ := hrel
    have hwr := HB.out.size
    obtain ⟨h, hh⟩ : ∃ h, h = blocks S8.start (all.take (64 * j)) := ⟨_, rfl⟩
    rw [← hh] at HV
    obtain ⟨A5, c5, e5, hr5⟩ := own_rowW HV.out
    subst e5
    have hl8 : h.list.length = 8 := rfl
    rw [hl8] at hr5 HV ⊢
    have HR5 := hide hr5
    clear hr5 hl8
    by_cases hlt : j < K
    · obtain ⟨D, hs1, hD⟩ := row_mid (P := Tryd.prog) HRA.out Tryd.underlying22 (E := 5) (by kernel_rfl) (i := 64 * j) (j := 64 * j + 64) (by omega) (by omega) .i64 .i64 (64 * (j : Int)) (64 * (j : Int) + 64) (by omega) (by omega)
      rw [show 64 * j + 64 - 64 * j = 64 by omega] at hs1 hD
      have HD := hide hD
      have hwj := wrap_at hlt HKS.out
      have HLD : Hid (((all.drop (64 * j)).take 64).length = 64) := hide (by rw [List.length_take, List.length_drop, HAL.out]; omega)
      have HNX : Hid (compress h ((all.drop (64 * j)).take 64) = blocks S8.start (all.take (64 * (j + 1)))) := hide (by rw [hh]; exact (blocks_next (by rw [HAL.out]; omega)).symm)
      clear hD hh
      go_wp2_with fail
      clear hwj
      refine (c_rcompress h _ A5 D 8 c5 64 _ _ _ wr HR5.out HD.out HLD.out).mono ?_
      rintro e w6 ⟨v6, rfl, h6, b6⟩
      rw [HNX.out] at h6
      have H6 := hide (h6.lower hw3)
      have HB6 := hide (HB.out.trans (b6.mono hwr))
      have HRA6 := hide (HRA.out.below b6)
      have hw6 := Nat.le_trans hw3 b6.size
      clear h6 b6 hs1
      go_wp2_with fail
      go_roundw
      case rel => exact ⟨j + 1, hlt, congrArg (Value.int .i64) (wrap_next hlt HKS.out), H6, HRA6, HB6, hw6⟩
      case measure => exact meas_at hlt HKS.out
    · obtain rfl : j = K := by omega
      have HBY : Hid (sha b = h.bytes) := hide (by rw [HSHA.out, hh, List.take_of_length_le (by rw [HAL.out]; omega)])
      obtain ⟨l, hl⟩ : ∃ l, l = h.list := ⟨_, rfl⟩
      have HLL : Hid (h.bytes = l.flatMap put4) := hide (by rw [hl]; rfl)
      have hl8 : l.length = 8 := by rw [hl]; rfl
      rw [← hl] at HR5
      have HL8 := hide hl8
      obtain ⟨N7, hN7⟩ : ∃ N, N = wr.heap.size := ⟨_, rfl⟩
      have HO7 := hide (bytes_lit wr [] #[] rfl 0 rfl (Nat.zero_le _))
      have HB7 := hide (HB.out.trans ((below1 wr (.cells #[] 5)).mono hwr))
      have HR7 : Hid (kW.Row (· < N7) (wr.alloc (.cells #[] 5)) A5 8 c5 l) := hide ((HR5.out.bound.more (ok' := fun k => k < N7) fun k h => by rw [hN7]; exact h.2).below (below1 wr (.cells #[] 5)))
      have hwN : w.heap.size ≤ N7 := by rw [hN7]; exact hwr
      have HO7' : Hid (kU8.Own (fun _ => True) N7 (wr.alloc (.cells #[] 5)) 5 (.slice (some ⟨wr.heap.size, 0, none⟩) 0 0) []) := hide (by rw [hN7]; exact HO7.out)
      have hN7s : N7 ≤ (wr.alloc (.cells #[] 5)).heap.size := by rw [hN7, World.size_alloc]; exact Nat.le_succ _
      clear hN7 hl hh hl8 HRA HV HO7
      go_wp2_with fail
      go_loopw [6, 34] (fun v i wz => ∃ (k : Nat), k ≤ 8 ∧ i = .int .i64 (k : Int) ∧ Hid (kU8.Own (fun _ => True) N7 wz 5 v ((l.take k).flatMap put4)) ∧ Hid (kW.Row (· < N7) wz A5 8 c5 l) ∧ N7 ≤ wz.heap.size ∧ Hid (Below w.heap.size w wz)) (fun _ i _ => 8 - (intOf i).toNat)
      case atStart => exact ⟨0, Nat.zero_le _, rfl, HO7', HR7, hN7s, HB7⟩
      case round =>
        clear HR7 HB7 HO7' HR5 HB hwr hN7s
        obtain ⟨k, hk, rfl, HV, HR5, hN, HB⟩ := hrel
        have hwr := HB.out.size
        by_cases hlt8 : k < 8
        · obtain ⟨x, hx⟩ : ∃ x, l[k]? = some x := ⟨_, List.getElem?_eq_getElem (by have := HL8.out; omega)⟩
          obtain ⟨p, o, hip, hcp, -⟩ := row_word HR5.out hx
          have HTK : Hid ((l.take k).flatMap put4 ++ put4 x = (l.take (k + 1)).flatMap put4) := hide (by
            rw [List.take_add_one, hx]; simp)
          have HLK : Hid (((l.take k).flatMap put4).length = 4 * k) := hide (by
            have h1 : (l.take k).length = k := by rw [List.length_take]; have := HL8.out; omega
            rw [List.length_flatMap]
            have : ∀ m : List UInt32, (m.map fun a => (put4 a).length).sum = 4 * m.length := by
              intro m
              induction m with
              | nil => rfl
              | cons a m ih => rw [List.map_cons, List.sum_cons, ih, put4_len, List.length_cons]; omega
            rw [this, h1])
          clear hx
          go_wp2_with fail
          refine (c_rbytes x wr).mono ?_
          rintro e w8 ⟨v8, rfl, h8, b8⟩
          obtain ⟨A8, c8, rfl, hr8⟩ := own_row h8
          rw [put4_len] at hr8 ⊢
          have HR8 := hide hr8
          have HV8 := hide (HV.out.below b8)
          have HB8 := hide (HB.out.trans (b8.mono hwr))
          have HR58 := hide (HR5.out.below b8)
          have hw8 : N7 ≤ w8.heap.size := Nat.le_trans hN b8.size
          clear hr8 h8 b8 hip hcp
          go_wp2_with (at_builtin; go_loud (refine wpList_app (d := kU8) (ok := fun _ => True) (base := N7) rfl _ _ _ rfl Tryd.underlying22 u8_info rfl (by decide) c8 rfl rfl (.inl HV8.out) (src8 HR8.out.src) ?_ ?_ ?_ ?_))
          · exact hw8
          · rw [HLK.out]; simp only [maxLen]; omega
          · rw [HLK.out]; omega
          intro v9 w9 _ h9 b9 _ _
          rw [HTK.out] at h9
          have H9 := hide h9
          have HB9 := hide (HB8.out.trans (b9.mono hwN))
          have HR59 := hide (HR58.out.belowB b9)
          have hN9 := Nat.le_trans hw8 b9.size
          clear h9 b9
          go_wp2_with fail
          refine ⟨?_, ?measure⟩
          refine ⟨_, _, _, _, _, _, _, _, _, _, _, ?rel, rfl⟩
          case rel => exact ⟨k + 1, by omega, by simp, H9, HR59, hN9, HB9⟩
          case measure => simp [intOf]; omega
        · obtain rfl : k = 8 := by omega
          go_wp2_with fail
          go_ret
          refine ⟨_, rfl, ?_, HB.out⟩
          rw [HBY.out, HLL.out]
          have := HV.out.lower hwN
          rw [List.take_of_length_le (by have := HL8.out; omega)] at this
          exact this
end Go.Proofs.YtdkeflhgengblaaDoor
