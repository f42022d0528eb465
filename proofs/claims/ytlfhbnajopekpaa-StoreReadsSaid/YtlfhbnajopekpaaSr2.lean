/- The walk of the statement StoreReads. No condition. -/
import Derived.Test.YtlfhbnajopekpaaSr1
namespace Go.Proofs.Ytlfhbnajopekpaa
open Go.RowKit
attribute [local go_sem ↓] ld16 ld17 ld32 ld36 ld37
attribute [local go_sem] run_ldAgg run_storeAgg agg_alloc_at agg_alloc_past agg_drew agg_setCell row_alloc_at row_alloc_past row_drew setRow_alloc_at setRow_alloc_past setRow_drew agg_setRow_at agg_setRow_far cell_setRow_at cell_setRow_far row_setRow_far size_setRow tgC_size tgC_one tgC_part tgC_splice tokC_size tokC_0 tokC_1 tokC_2 tokC_3 tokC_g0 tokC_g1 tokC_g2 tokC_g3 tokC_part tokC_tag tokC_set0 tokC_set1 tokC_set2 tokC_set3 tokC_splice tokC_splice0 tgC_splice_any zero_tg zero_tok tokC_all tokC_ne tgC_ne
attribute [local go_sem] bunC_size bunC_0 bunC_1 bunC_2 bunC_3 bunC_36 bunC_g3 bunC_g36 bunC_part bunC_root bunC_set36 bunC_splice bunC_splice0 zero_bun bunC_all bunC_ne

set_option maxRecDepth 100000 in
set_option maxHeartbeats 1600000 in
theorem c_reads (ok : Nat → Prop) (w : World) (A : Option Addr) (nn cc : Nat) (l : List Out) (n : Int) (hr : kOut.Row ok w A nn cc l) :
    Calls Try.prog 7 #[.slice A nn cc, .int .i64 n] w fun e w' => e = .returned (.bool true) ∧ Below w.heap.size w w' := by
  obtain rfl := hr.1
  have HR := hide hr
  have hcap : l.length ≤ maxLen := Nat.le_trans hr.2.1 hr.2.2.1
  simp only [maxLen] at hcap
  clear hr
  by_cases h50 : 30 < l.length
  · go_enter Try.func7, Try.ntmps7
    go_wp2_with fail
    refine (c_alive w).mono ?_
    rintro e w1 ⟨rfl, b1⟩
    go_wp2
    go_ret
    exact ⟨rfl, b1⟩
  have hl : l.length ≤ 30 := by omega
  clear h50 hcap
  go_enter Try.func7, Try.ntmps7
  go_wp2_with fail
  refine (c_alive w).mono ?_
  rintro e w1 ⟨rfl, b1⟩
  have HB1 := hide b1
  clear b1
  go_wp2_with fail
  refine (c_snew w1).mono ?_
  rintro e w2 ⟨rfl, h2, b2⟩
  have H2 := hide (h2.lower (base' := w.heap.size) HB1.out.size)
  have HB2 := hide (HB1.out.trans (b2.mono HB1.out.size))
  clear h2 b2
  go_wp2_with fail
  go_loopw [31] (fun i wr => ∃ k : Nat, k ≤ l.length ∧ i = .int .i64 (k : Int) ∧ (∃ v, Hid (StoreAt w.heap.size wr w1.heap.size v (l.take k))) ∧ Hid (∀ o ∈ l.take k, o.bytes.size ≤ 70000) ∧ Hid (Below w.heap.size w wr)) (fun i _ => l.length - (intOf i).toNat)
  case atStart => exact ⟨0, Nat.zero_le _, rfl, ⟨_, H2⟩, hide (by simp), HB2⟩
  case round =>
    obtain ⟨k, hk, rfl, ⟨v, HS⟩, HZ, HB⟩ := hrel
    by_cases hlt : k < l.length
    · obtain ⟨o, ho⟩ : ∃ o, l[k]? = some o := ⟨_, List.getElem?_eq_getElem hlt⟩
      obtain ⟨b, q, cs, hix, -, hbl, hK, hra⟩ := (HR.out.below HB.out).index (P := Try.prog) Try.underlying22 (E := 28) out_under ho
      have hKe := hK.1
      subst hKe
      have HOB := hide hK.2
      have hc0 := hra 0 _ rfl
      have hc1 := hra 1 _ rfl
      have hc2 := hra 2 _ rfl
      simp only [Nat.add_zero] at hc0
      have hlk : (l.take k).length = k := by rw [List.length_take]; omega
      have HLK := hide hlk
      have HT : Hid (l.take (k + 1) = l.take k ++ [o]) := hide (by rw [List.take_succ_eq_append_getElem hlt, (List.getElem?_eq_some_iff.1 ho).2])
      have hsb := HB.out.size
      have hob : o.bytes.size ≤ 9223372036854775807 := hK.2
      clear ho hK hra hlk
      by_cases hbig : 70000 < o.bytes.size
      · go_wp2_with fail
        go_ret
        exact ⟨rfl, HB.out.alloc hsb _⟩
      · have HZ2 : Hid (∀ p ∈ l.take (k + 1), p.bytes.size ≤ 70000) := hide (by
          rw [HT.out]
          intro p hp
          simp only [List.mem_append, List.mem_singleton] at hp
          rcases hp with hp | rfl
          · exact HZ.out p hp
          · omega)
        go_wp2_with fail
        refine (c_sput w.heap.size _ _ _ _ o.bytes o.whole o.pub (HS.out.below (below1 _ _)) (by rw [HLK.out]; omega) HOB.out (by simp; omega)).mono ?_
        rintro e w4 ⟨v4, rfl, h4, b4, f4, o4⟩
        have H4 := hide h4
        have HB4 := hide ((HB.out.alloc hsb (.cells #[.string o.bytes, .bool o.whole, .bool o.pub] 28)).trans b4)
        clear h4 b4 f4 o4
        go_wp2_with fail
        go_roundw
        case rel => exact ⟨k + 1, by omega, by simp, ⟨v4, hide (by rw [HT.out]; exact H4.out)⟩, HZ2, HB4⟩
        case measure => simp [intOf]; omega
    · obtain rfl : k = l.length := by omega
      rw [List.take_of_length_le (Nat.le_refl _)] at HS HZ
      have HLN := hide (show l.length ≤ 1099511627776 by omega)
      obtain ⟨G, hG⟩ : ∃ G, G = w1.heap.size := ⟨_, rfl⟩
      rw [← hG] at HS
      have HGG := hide hG
      go_wp2_with fail
      go_loopw [8] (fun i wr => ∃ j : Int, -1 ≤ j ∧ j ≤ (l.length : Int) + 1 ∧ i = .int .i64 j ∧ Hid (StoreAt w.heap.size wr w1.heap.size v l) ∧ Hid (Below w.heap.size w wr)) (fun i _ => ((l.length : Int) + 1 - intOf i).toNat)
      case atStart => exact ⟨-1, by omega, by omega, rfl, hide (by rw [← hG]; exact HS.out), HB⟩
      case round =>
        obtain ⟨j, hj1, hj2, rfl, HS, HB⟩ := hrel
        by_cases hle : j ≤ (l.length : Int)
        · obtain ⟨y, hy⟩ : ∃ y, y = (bVal l j).getD Bun.zero := ⟨_, rfl⟩
          obtain ⟨kb, hkb⟩ : ∃ kb, kb = bCode l j := ⟨_, rfl⟩
          obtain ⟨t, ht⟩ : ∃ t, t = (tVal l j).getD Tok.zero := ⟨_, rfl⟩
          obtain ⟨kt, hkt⟩ : ∃ kt, kt = tCode l j := ⟨_, rfl⟩
          have HY := hide hy
          have HKB := hide hkb
          have HTT := hide ht
          have HKT := hide hkt
          clear hy hkb ht hkt
          go_wp2_with fail
          refine (c_sB w.heap.size _ _ _ l j HS.out HLN.out HZ.out).mono ?_
          rintro e w3 ⟨A3, n3, c3, B3, m3, d3, rfl, hr3, hs3, b3⟩
          rw [← HY.out] at hr3 hs3 ⊢
          rw [← HKB.out]
          have HR3 := hide hr3
          have HS3 := hide hs3
          have HB3 := hide (bnext HB.out b3)
          have HST3 := hide (HS.out.below b3)
          clear hr3 hs3 b3
          go_wp2_with fail
          refine (c_refB ok _ A l.length cc l j ((HR.out.below HB3.out).below (below1 _ _)) HZ.out).mono ?_
          rintro e w4 ⟨A4, n4, c4, B4, m4, d4, rfl, hr4, hs4, b4⟩
          rw [← HY.out] at hr4 hs4 ⊢
          rw [← HKB.out]
          have HR4 := hide hr4
          have HS4 := hide hs4
          have b4' := bnext (below1 w3 _) b4
          have HB4 := hide (bnext HB3.out b4')
          have HST4 := hide (HST3.out.below b4')
          have HR3' := hide (HR3.out.below b4')
          have HS3' := hide (HS3.out.below b4')
          have hx4 : BunIn w4 w3.heap.size y A3 n3 c3 B3 m3 d3 := (b4.block _ (by simp)).trans (heap_alloc_new _ _)
          have HX4 := hide hx4
          clear hr4 hs4 b4 b4' hx4
          go_wp2_with fail
          refine (c_sT w.heap.size _ _ _ l j (HST4.out.below (below1 _ _)) HLN.out HZ.out).mono ?_
          rintro e w5 ⟨A5, n5, c5, rfl, hr5, b5⟩
          rw [← HTT.out] at hr5 ⊢
          rw [← HKT.out]
          have HR5 := hide hr5
          have b5' := bnext (below1 w4 _) b5
          have HB5 := hide (bnext HB4.out b5')
          have HST5 := hide (HST4.out.below b5')
          have HX5 := hide (HX4.out.below b5')
          have hx5 : BunIn w5 w4.heap.size y A4 n4 c4 B4 m4 d4 := (b5.block _ (by simp)).trans (heap_alloc_new _ _)
          have HZ5 := hide hx5
          have HR3'' := hide (HR3'.out.below b5')
          have HS3'' := hide (HS3'.out.below b5')
          have HR4' := hide (HR4.out.below b5')
          have HS4' := hide (HS4.out.below b5')
          clear hr5 b5 b5' hx5
          go_wp2_with fail
          refine (c_refT ok _ A l.length cc l j ((HR.out.below HB5.out).below (below1 _ _)) HZ.out).mono ?_
          rintro e w6 ⟨A6, n6, c6, rfl, hr6, b6⟩
          rw [← HTT.out] at hr6 ⊢
          rw [← HKT.out]
          have HR6 := hide hr6
          have b6' := bnext (below1 w5 _) b6
          have HB6 := hide (bnext HB5.out b6')
          have HST6 := hide (HST5.out.below b6')
          have HX6 := hide (HX5.out.below b6')
          have HZ6 := hide (HZ5.out.below b6')
          have hT6 : TokIn w6 w5.heap.size t A5 n5 c5 := (b6.block _ (by simp)).trans (heap_alloc_new _ _)
          have HT6 := hide hT6
          have HR3a := hide (HR3''.out.below b6')
          have HS3a := hide (HS3''.out.below b6')
          have HR4a := hide (HR4'.out.below b6')
          have HS4a := hide (HS4'.out.below b6')
          have HR5a := hide (HR5.out.below b6')
          have hq1 := HX6.out.agg
          have hq2 := HZ6.out.agg
          have hl1 := HX6.out.lt
          have hl2 := HZ6.out.lt
          clear hr6 b6 b6' hT6
          go_wp2_with fail
          refine (c_rbsame y y A3 B3 A4 B4 n3 c3 m3 d3 n4 c4 m4 d4 _ _ _ _ _ (HR3a.out.below (below1 _ _)) (HS3a.out.below (below1 _ _)) (HR4a.out.below (below1 _ _)) (HS4a.out.below (below1 _ _))).mono ?_
          rintro e w7 ⟨rfl, b7⟩
          have b7' := bnext (below1 w6 _) b7
          have HB7 := hide (bnext HB6.out b7')
          have HST7 := hide (HST6.out.below b7')
          have HT7 := hide (HT6.out.below b7')
          have hT7 : TokIn w7 w6.heap.size t A6 n6 c6 := (b7.block _ (by simp)).trans (heap_alloc_new _ _)
          have HU7 := hide hT7
          have HR5b := hide (HR5a.out.below b7')
          have HR6b := hide (HR6.out.below b7')
          have hq3 := HT7.out.agg
          have hq4 := hT7.agg
          clear b7 b7' hT7 hq1 hq2 hl1 hl2
          simp only [decide_true]
          go_wp2_with fail
          refine (c_rsame t t A5 A6 n5 c5 n6 c6 _ _ _ HR5b.out HR6b.out).mono ?_
          rintro e w8 ⟨rfl, b8⟩
          have HB8 := hide (bnext HB7.out b8)
          have HST8 := hide (HST7.out.below b8)
          clear b8
          simp only [decide_true]
          go_wp2_with fail
          go_roundw
          case rel => exact ⟨j + 1, by omega, by omega, by simp, HST8, HB8⟩
          case measure => simp [intOf]; omega
        · obtain ⟨y, hy⟩ : ∃ y, y = (bVal l n).getD Bun.zero := ⟨_, rfl⟩
          obtain ⟨kb, hkb⟩ : ∃ kb, kb = bCode l n := ⟨_, rfl⟩
          have HY := hide hy
          have HKB := hide hkb
          clear hy hkb
          go_wp2_with fail
          refine (c_sB w.heap.size _ _ _ l n HS.out HLN.out HZ.out).mono ?_
          rintro e w3 ⟨A3, n3, c3, B3, m3, d3, rfl, hr3, hs3, b3⟩
          rw [← HY.out, ← HKB.out]
          have HB3 := hide (bnext HB.out b3)
          clear hr3 hs3 b3
          go_wp2_with fail
          refine (c_refB ok _ A l.length cc l n ((HR.out.below HB3.out).below (below1 _ _)) HZ.out).mono ?_
          rintro e w4 ⟨A4, n4, c4, B4, m4, d4, rfl, hr4, hs4, b4⟩
          rw [← HY.out, ← HKB.out]
          have HB4 := hide (bnext HB3.out (bnext (below1 w3 _) b4))
          clear hr4 hs4 b4
          go_wp2_with fail
          go_ret
          exact ⟨rfl, HB4.out.alloc HB4.out.size _⟩
end Go.Proofs.Ytlfhbnajopekpaa
