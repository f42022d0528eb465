/- The walk of the statement KeysDead. No condition. -/
import Derived.Test.YtlfhbnajopekpaaKey7
namespace Go.Proofs.Ytlfhbnajopekpaa
open Go.RowKit
open Go.Maps (Keyed)
attribute [local go_sem ↓] ld32 ld35 ld38
attribute [local go_sem] run_ldAgg run_storeAgg agg_alloc_at agg_alloc_past agg_drew agg_setCell row_alloc_at row_alloc_past row_drew setRow_alloc_at setRow_alloc_past setRow_drew agg_setRow_at agg_setRow_far cell_setRow_at cell_setRow_far row_setRow_far size_setRow tgC_size tgC_one tgC_part tgC_splice tgC_splice_any zero_tg tgC_ne keyC_size keyC_g0 keyC_g33 keyC_g34 keyC_0 keyC_33 keyC_34 keyC_part keyC_tag keyC_splice0 keyC_set33 keyC_set34 zero_key keyC_all keyC_ne
attribute [local go_sem] actC_size actC_0 actC_1 actC_2 actC_35 actC_36 actC_37 actC_g0 actC_g1 actC_g2 actC_g35 actC_g36 actC_g37 actC_part actC_tag actC_splice0 zero_act actC_all actC_ne
attribute [local go_sem] tg_1 tg_2 tg_7 tg_8
theorem dead0 : Dead ⟨20, 2, up (up (up (fun _ => none) 1 ⟨1, tg1 7, 50, false⟩) 2 ⟨1, tg1 8, 50, false⟩) 1 ⟨1, tg1 7, 50, true⟩, 2⟩ 2 := by
  refine ⟨rfl, by decide, by decide, by decide, fun j hj => ?_, fun x hx => ?_, fun x hx => ?_⟩
  · have hj : 2 < j := hj
    show (if j = 1 then _ else if j = 2 then _ else if j = 1 then _ else _) = _
    rw [if_neg (by omega), if_neg (by omega), if_neg (by omega)]
  · have hx : some (⟨1, tg1 7, 50, true⟩ : Ky) = some x := hx
    rw [← Option.some.inj hx]
  · have hx : some (⟨1, tg1 8, 50, false⟩ : Ky) = some x := hx
    rw [← Option.some.inj hx]
    decide
set_option maxRecDepth 100000 in
set_option maxHeartbeats 1600000 in
theorem c_kdead (A : Option Addr) (m c : Nat) (xs : List Ac) (clock later : Nat) (ok : Nat → Prop) (w : World) (hR : kAct.Row ok w A m c xs) (hcl : clock < 18446744073709551616) (hlt : later < 18446744073709551616) :
    Calls Try.prog 5 #[.slice A m c, .int .u64 (clock : Int), .int .u64 (later : Int)] w fun e w' => e = .returned (.bool true) ∧ Below w.heap.size w w' := by
  have HR := hide hR
  have HL := hide hR.1
  have HCL := hide hcl
  have HLT := hide hlt
  have hm63 : m ≤ 9223372036854775807 := Nat.le_trans hR.2.1 hR.2.2.1
  clear hR hcl hlt
  go_enter Try.func5, Try.ntmps5
  go_wp2_with fail
  refine (c_kalive _).mono ?_
  rintro e w1 ⟨rfl, b1⟩
  have HB1 := hide b1
  clear b1
  by_cases hm : 60 < m
  · go_wp2_with fail
    go_ret
    exact ⟨rfl, HB1.out⟩
  · go_wp2_with fail
    refine (c_knew 20 w1).mono ?_
    rintro e w2 ⟨g, b, rfl, hk2, hg1, hb1, b2⟩
    have hk2 : KeysAt w2 g b (sA 20) := hk2
    have hg : w.heap.size ≤ g := Nat.le_trans HB1.out.size hg1
    have hb : w.heap.size ≤ b := Nat.le_trans HB1.out.size hb1
    have HK2 := hide hk2
    have HB2 := hide (HB1.out.trans (b2.mono HB1.out.size))
    have hws2 := HB2.out.size
    clear hk2 b2 hg1 hb1
    go_wp2_with fail
    refine (c_kmake 1 (tg1 7) 50 w2 HK2.out (by decide) (by decide) (by decide)).mono ?_
    have hm1 : (sA 20).make 1 (tg1 7) 50 = (⟨20, 1, up (fun _ => none) 1 ⟨1, tg1 7, 50, false⟩, 1⟩, 1, 0) := make_root (.inl rfl) (by decide) rfl
    rw [hm1]
    rintro e w3 ⟨rfl, hk3, b3⟩
    have HK3 := hide hk3
    have HB3 := hide (HB2.out.trans ((b3.below (B := w.heap.size) hg hb hws2)))
    have hws3 := HB3.out.size
    clear hk3 b3 hm1
    go_wp2_with fail
    refine (c_kmake 1 (tg1 8) 50 w3 HK3.out (by decide) (by decide) (by decide)).mono ?_
    have hm2 : (⟨20, 1, up (fun _ => none) 1 ⟨1, tg1 7, 50, false⟩, 1⟩ : Ks).make 1 (tg1 8) 50 = (⟨20, 2, up (up (fun _ => none) 1 ⟨1, tg1 7, 50, false⟩) 2 ⟨1, tg1 8, 50, false⟩, 2⟩, 2, 0) := make_root (.inl rfl) (by decide) rfl
    rw [hm2]
    rintro e w4 ⟨rfl, hk4, b4⟩
    have HK4 := hide hk4
    have HB4 := hide (HB3.out.trans ((b4.below (B := w.heap.size) hg hb hws3)))
    have hws4 := HB4.out.size
    clear hk4 b4 hm2
    go_wp2_with fail
    refine (c_krevoke 1 w4 HK4.out (by decide) (by decide)).mono ?_
    have hm3 : (⟨20, 2, up (up (fun _ => none) 1 ⟨1, tg1 7, 50, false⟩) 2 ⟨1, tg1 8, 50, false⟩, 2⟩ : Ks).revoke 1 = (⟨20, 2, up (up (up (fun _ => none) 1 ⟨1, tg1 7, 50, false⟩) 2 ⟨1, tg1 8, 50, false⟩) 1 ⟨1, tg1 7, 50, true⟩, 2⟩, true) := rfl
    rw [hm3]
    rintro e w5 ⟨rfl, hk5, b5⟩
    have HI5 := hide dead0
    obtain ⟨S5, hS5⟩ : ∃ S5 : Ks, S5 = ⟨20, 2, up (up (up (fun _ => none) 1 ⟨1, tg1 7, 50, false⟩) 2 ⟨1, tg1 8, 50, false⟩) 1 ⟨1, tg1 7, 50, true⟩, 2⟩ := ⟨_, rfl⟩
    rw [← hS5] at hk5 HI5
    have HK5 := hide hk5
    have HB5 := hide (HB4.out.trans ((b5.below (B := w.heap.size) hg hb hws4)))
    clear hk5 b5 hm3 hS5
    go_wp2_with fail
    go_loopw [54] (fun i wr => ∃ (k : Nat) (S : Ks), k ≤ m ∧ i = .int .i64 (k : Int) ∧ Hid (Dead S (k + 2)) ∧ Hid (KeysAt wr g b S) ∧ Hid (Below w.heap.size w wr)) (fun i _ => m - (intOf i).toNat)
    case atStart => exact ⟨0, S5, Nat.zero_le _, rfl, HI5, HK5, HB5⟩
    case round =>
      obtain ⟨k, S, hk, rfl, HI, HK, HB⟩ := hrel
      have hwr := HB.out.size
      have hgw := (Array.getElem?_eq_some_iff.1 HK.out.1).1
      have hbw := HK.out.2.lt
      by_cases hlt : k < m
      · obtain ⟨x, hx⟩ : ∃ x, xs[k]? = some x := ⟨_, List.getElem?_eq_getElem (by have := HL.out; omega)⟩
        obtain ⟨q, o, cs, hix, -, hbl, hKx, hra⟩ := (HR.out.below HB.out).index (P := Try.prog) Try.underlying52 (E := 54) act_size hx
        obtain ⟨rfl, hok⟩ := hKx
        have HOK := hide hok
        obtain ⟨kd, ho, nu, tg, tl, gr, ck⟩ := x
        have hag : agg? wr ⟨q, o, none⟩ 38 = some (actC (.int .i64 kd) (.int .i64 ho) (.int .u64 (nu : Int)) (.int .u64 (tl : Int)) (.int .u64 (gr : Int)) (.int .u64 (ck : Int)) tg) := by
          have := agg_range hra 38 (by rw [Array.length_toList, actC_size])
          simpa using this
        have HKE0 := hide (heap_alloc_new wr (.cells (actC (.int .i64 kd) (.int .i64 ho) (.int .u64 (nu : Int)) (.int .u64 (tl : Int)) (.int .u64 (gr : Int)) (.int .u64 (ck : Int)) tg) 54))
        clear hx hra hok
        by_cases hK0 : kd = 0
        · subst hK0
          go_wp2_with fail
          refine (c_kmake ho tg tl _ (HK.out.ext (below1 _ _)) (by have := HI.out.last; omega) (by have := HI.out.few; simp only [maxLen]; omega) HOK.out.2).mono ?_
          rintro e w3 ⟨rfl, hk3, b3⟩
          obtain ⟨S3, hS3⟩ : ∃ S3, S3 = (S.make ho tg tl).1 := ⟨_, rfl⟩
          rw [← hS3] at hk3
          have HK3 := hide hk3
          have HI3 : Hid (Dead S3 (k + 1 + 2)) := hide (by rw [hS3]; exact HI.out.make _ _ _)
          have hb3 := (b3.below (B := w.heap.size) hg hb (by simp; omega))
          have HB3 := hide ((HB.out.trans ((below1 wr _).mono hwr)).trans hb3)
          have HKE := hide ((b3.block wr.heap.size (by simp) (by omega) (by omega)).trans HKE0.out)
          clear b3 hb3 hk3 hS3
          have hws3 := HB3.out.size
          have hg3 : w3.heap[wr.heap.size]? = some (.cells (actC (.int .i64 0) (.int .i64 ho) (.int .u64 (nu : Int)) (.int .u64 (tl : Int)) (.int .u64 (gr : Int)) (.int .u64 (ck : Int)) tg) 54) := HKE.out
          have hc37 : w3.cell? ⟨wr.heap.size, 37, none⟩ = some (.int .u64 (ck : Int)) := (cell_of_row w3 _ _ _ _ _ hg3).trans (actC_37 _ _ _ _ _ _ _)
          have hgs3 := (Array.getElem?_eq_some_iff.1 hg3).1
          clear hg3
          go_wp2_with fail
          refine (c_kfind 1 1 ck w3 HK3.out (by decide)).mono ?_
          have hf1 := HI3.out.find1 ck
          obtain ⟨r1, hr1⟩ : ∃ r1, r1 = (S3.find 1 1 ck).2 := ⟨_, rfl⟩
          obtain ⟨t1, ht1⟩ : ∃ t1, t1 = (S3.find 1 1 ck).1 := ⟨_, rfl⟩
          rw [← hr1, ← ht1]
          rw [← hr1] at hf1
          clear hr1 ht1
          rintro e w4 ⟨rfl, b4⟩
          have HK4 := hide ((HK3.out.ext b4).ext (below1 w4 (.cells (tgC t1) 44)))
          have HB4 := hide ((HB3.out.trans (b4.mono hws3)).trans ((below1 w4 (.cells (tgC t1) 44)).mono (Nat.le_trans hws3 b4.size)))
          have hr' : ¬ (r1 : Int) = 0 := by omega
          have hr2 : ((r1 : Int) == 0) = false := by simpa using hr'
          clear b4 hf1 hc37
          go_wp2_with fail
          go_roundw
          case rel => exact ⟨k + 1, S3, by omega, by simp, HI3, HK4, HB4⟩
          case measure => simp [intOf]; omega
        by_cases hK2 : kd = 2
        · subst hK2
          go_wp2_with fail
          refine (c_krevoke nu _ (HK.out.ext (below1 _ _)) HOK.out.1 (by have := HI.out.few; simp only [maxLen]; omega)).mono ?_
          rintro e w3 ⟨rfl, hk3, b3⟩
          obtain ⟨S3, hS3⟩ : ∃ S3, S3 = (S.revoke nu).1 := ⟨_, rfl⟩
          rw [← hS3] at hk3
          have HK3 := hide hk3
          have HI3 : Hid (Dead S3 (k + 1 + 2)) := hide (by rw [hS3]; exact (HI.out.revoke _).mono (by omega))
          have hb3 := (b3.below (B := w.heap.size) hg hb (by simp; omega))
          have HB3 := hide ((HB.out.trans ((below1 wr _).mono hwr)).trans hb3)
          have HKE := hide ((b3.block wr.heap.size (by simp) (by omega) (by omega)).trans HKE0.out)
          clear b3 hb3 hk3 hS3
          have hws3 := HB3.out.size
          have hg3 : w3.heap[wr.heap.size]? = some (.cells (actC (.int .i64 2) (.int .i64 ho) (.int .u64 (nu : Int)) (.int .u64 (tl : Int)) (.int .u64 (gr : Int)) (.int .u64 (ck : Int)) tg) 54) := HKE.out
          have hc37 : w3.cell? ⟨wr.heap.size, 37, none⟩ = some (.int .u64 (ck : Int)) := (cell_of_row w3 _ _ _ _ _ hg3).trans (actC_37 _ _ _ _ _ _ _)
          have hgs3 := (Array.getElem?_eq_some_iff.1 hg3).1
          clear hg3
          go_wp2_with fail
          refine (c_kfind 1 1 ck w3 HK3.out (by decide)).mono ?_
          have hf1 := HI3.out.find1 ck
          obtain ⟨r1, hr1⟩ : ∃ r1, r1 = (S3.find 1 1 ck).2 := ⟨_, rfl⟩
          obtain ⟨t1, ht1⟩ : ∃ t1, t1 = (S3.find 1 1 ck).1 := ⟨_, rfl⟩
          rw [← hr1, ← ht1]
          rw [← hr1] at hf1
          clear hr1 ht1
          rintro e w4 ⟨rfl, b4⟩
          have HK4 := hide ((HK3.out.ext b4).ext (below1 w4 (.cells (tgC t1) 44)))
          have HB4 := hide ((HB3.out.trans (b4.mono hws3)).trans ((below1 w4 (.cells (tgC t1) 44)).mono (Nat.le_trans hws3 b4.size)))
          have hr' : ¬ (r1 : Int) = 0 := by omega
          have hr2 : ((r1 : Int) == 0) = false := by simpa using hr'
          clear b4 hf1 hc37
          go_wp2_with fail
          go_roundw
          case rel => exact ⟨k + 1, S3, by omega, by simp, HI3, HK4, HB4⟩
          case measure => simp [intOf]; omega
        by_cases hK3 : kd = 3
        · subst hK3
          go_wp2_with fail
          refine (c_krotate nu tg tl gr ck _ (HK.out.ext (below1 _ _)) HOK.out.1 (by have := HI.out.last; omega) (by have := HI.out.few; simp only [maxLen]; omega) HOK.out.2).mono ?_
          rintro e w3 ⟨rfl, hk3, b3⟩
          obtain ⟨S3, hS3⟩ : ∃ S3, S3 = (S.rotate nu tg tl gr ck).1 := ⟨_, rfl⟩
          rw [← hS3] at hk3
          have HK3 := hide hk3
          have HI3 : Hid (Dead S3 (k + 1 + 2)) := hide (by rw [hS3]; exact HI.out.rotate _ _ _ _ _)
          have hb3 := (b3.below (B := w.heap.size) hg hb (by simp; omega))
          have HB3 := hide ((HB.out.trans ((below1 wr _).mono hwr)).trans hb3)
          have HKE := hide ((b3.block wr.heap.size (by simp) (by omega) (by omega)).trans HKE0.out)
          clear b3 hb3 hk3 hS3
          have hws3 := HB3.out.size
          have hg3 : w3.heap[wr.heap.size]? = some (.cells (actC (.int .i64 3) (.int .i64 ho) (.int .u64 (nu : Int)) (.int .u64 (tl : Int)) (.int .u64 (gr : Int)) (.int .u64 (ck : Int)) tg) 54) := HKE.out
          have hc37 : w3.cell? ⟨wr.heap.size, 37, none⟩ = some (.int .u64 (ck : Int)) := (cell_of_row w3 _ _ _ _ _ hg3).trans (actC_37 _ _ _ _ _ _ _)
          have hgs3 := (Array.getElem?_eq_some_iff.1 hg3).1
          clear hg3
          go_wp2_with fail
          refine (c_kfind 1 1 ck w3 HK3.out (by decide)).mono ?_
          have hf1 := HI3.out.find1 ck
          obtain ⟨r1, hr1⟩ : ∃ r1, r1 = (S3.find 1 1 ck).2 := ⟨_, rfl⟩
          obtain ⟨t1, ht1⟩ : ∃ t1, t1 = (S3.find 1 1 ck).1 := ⟨_, rfl⟩
          rw [← hr1, ← ht1]
          rw [← hr1] at hf1
          clear hr1 ht1
          rintro e w4 ⟨rfl, b4⟩
          have HK4 := hide ((HK3.out.ext b4).ext (below1 w4 (.cells (tgC t1) 44)))
          have HB4 := hide ((HB3.out.trans (b4.mono hws3)).trans ((below1 w4 (.cells (tgC t1) 44)).mono (Nat.le_trans hws3 b4.size)))
          have hr' : ¬ (r1 : Int) = 0 := by omega
          have hr2 : ((r1 : Int) == 0) = false := by simpa using hr'
          clear b4 hf1 hc37
          go_wp2_with fail
          go_roundw
          case rel => exact ⟨k + 1, S3, by omega, by simp, HI3, HK4, HB4⟩
          case measure => simp [intOf]; omega
        by_cases hK4 : kd = 4
        · subst hK4
          go_wp2_with fail
          refine (c_kpurge ck _ (HK.out.ext (below1 _ _)) (by have := HI.out.few; omega)).mono ?_
          rintro e w3 ⟨s', rfl, hs', hk3, b3⟩
          obtain ⟨S3, hS3⟩ : ∃ S3, S3 = (⟨S.most, S.last, fun j => (S.F j).filter fun x => x.live ck, s'⟩ : Ks) := ⟨_, rfl⟩
          rw [← hS3] at hk3
          have HK3 := hide hk3
          have HI3 : Hid (Dead S3 (k + 1 + 2)) := hide (by rw [hS3]; exact (HI.out.purge hs').mono (by omega))
          have hb3 := (b3.below (B := w.heap.size) hg hb (by simp; omega))
          have HB3 := hide ((HB.out.trans ((below1 wr _).mono hwr)).trans hb3)
          have HKE := hide ((b3.block wr.heap.size (by simp) (by omega) (by omega)).trans HKE0.out)
          clear b3 hb3 hk3 hS3
          have hws3 := HB3.out.size
          have hg3 : w3.heap[wr.heap.size]? = some (.cells (actC (.int .i64 4) (.int .i64 ho) (.int .u64 (nu : Int)) (.int .u64 (tl : Int)) (.int .u64 (gr : Int)) (.int .u64 (ck : Int)) tg) 54) := HKE.out
          have hc37 : w3.cell? ⟨wr.heap.size, 37, none⟩ = some (.int .u64 (ck : Int)) := (cell_of_row w3 _ _ _ _ _ hg3).trans (actC_37 _ _ _ _ _ _ _)
          have hgs3 := (Array.getElem?_eq_some_iff.1 hg3).1
          clear hg3
          go_wp2_with fail
          refine (c_kfind 1 1 ck w3 HK3.out (by decide)).mono ?_
          have hf1 := HI3.out.find1 ck
          obtain ⟨r1, hr1⟩ : ∃ r1, r1 = (S3.find 1 1 ck).2 := ⟨_, rfl⟩
          obtain ⟨t1, ht1⟩ : ∃ t1, t1 = (S3.find 1 1 ck).1 := ⟨_, rfl⟩
          rw [← hr1, ← ht1]
          rw [← hr1] at hf1
          clear hr1 ht1
          rintro e w4 ⟨rfl, b4⟩
          have HK4 := hide ((HK3.out.ext b4).ext (below1 w4 (.cells (tgC t1) 44)))
          have HB4 := hide ((HB3.out.trans (b4.mono hws3)).trans ((below1 w4 (.cells (tgC t1) 44)).mono (Nat.le_trans hws3 b4.size)))
          have hr' : ¬ (r1 : Int) = 0 := by omega
          have hr2 : ((r1 : Int) == 0) = false := by simpa using hr'
          clear b4 hf1 hc37
          go_wp2_with fail
          go_roundw
          case rel => exact ⟨k + 1, S3, by omega, by simp, HI3, HK4, HB4⟩
          case measure => simp [intOf]; omega
        · have q0 : (kd == 0) = false := by simpa using hK0
          have q2 : (kd == 2) = false := by simpa using hK2
          have q3 : (kd == 3) = false := by simpa using hK3
          have q4 : (kd == 4) = false := by simpa using hK4
          go_wp2_with fail
          refine (c_kfind 1 1 ck _ (HK.out.ext (below1 _ _)) (by decide)).mono ?_
          have hf1 := HI.out.find1 ck
          obtain ⟨r1, hr1⟩ : ∃ r1, r1 = (S.find 1 1 ck).2 := ⟨_, rfl⟩
          obtain ⟨t1, ht1⟩ : ∃ t1, t1 = (S.find 1 1 ck).1 := ⟨_, rfl⟩
          rw [← hr1, ← ht1]
          rw [← hr1] at hf1
          clear hr1 ht1
          rintro e w4 ⟨rfl, b4⟩
          have hs1 := (below1 wr (.cells (actC (.int .i64 kd) (.int .i64 ho) (.int .u64 (nu : Int)) (.int .u64 (tl : Int)) (.int .u64 (gr : Int)) (.int .u64 (ck : Int)) tg) 54)).size
          have hs4 := b4.size
          have HK4 := hide (((HK.out.ext (below1 _ _)).ext b4).ext (below1 w4 (.cells (tgC t1) 44)))
          have HB4 := hide (((HB.out.trans ((below1 wr _).mono hwr)).trans (b4.mono (Nat.le_trans hwr hs1))).trans ((below1 w4 (.cells (tgC t1) 44)).mono (Nat.le_trans hwr (Nat.le_trans hs1 hs4))))
          have hr' : ¬ (r1 : Int) = 0 := by omega
          have hr2 : ((r1 : Int) == 0) = false := by simpa using hr'
          clear b4 hf1 hs1 hs4
          go_wp2_with fail
          go_roundw
          case rel => exact ⟨k + 1, S, by omega, by simp, hide (HI.out.mono (by omega)), HK4, HB4⟩
          case measure => simp [intOf]; omega
      · obtain rfl : m = k := by omega
        go_wp2_with fail
        refine (c_kfind 1 2 clock _ HK.out (by decide)).mono ?_
        have hf2 : (S.find 1 2 clock).2 = 0 → clock < 50 := HI.out.find2
        have hfl : ∀ y, clock ≤ y → (S.find 1 2 y).2 = 0 → (S.find 1 2 clock).2 = 0 := fun y hy => find_later hy
        obtain ⟨r1, hr1⟩ : ∃ r1, r1 = (S.find 1 2 clock).2 := ⟨_, rfl⟩
        obtain ⟨t1, ht1⟩ : ∃ t1, t1 = (S.find 1 2 clock).1 := ⟨_, rfl⟩
        rw [← hr1, ← ht1]
        rw [← hr1] at hf2 hfl
        clear hr1 ht1
        rintro e w4 ⟨rfl, b4⟩
        have HK4 := hide ((HK.out.ext b4).ext (below1 w4 (.cells (tgC t1) 44)))
        have HB4 := hide ((HB.out.trans (b4.mono hwr)).trans ((below1 w4 (.cells (tgC t1) 44)).mono (Nat.le_trans hwr b4.size)))
        have hwr4 := HB4.out.size
        have HF2 := hide hf2
        have HFL := hide hfl
        have HS20 := hide HI.out.few
        clear b4 hf2 hfl
        go_wp2_with fail
        · have hcy : clock ≤ later := by omega
          refine (c_kfind 1 2 later _ HK4.out (by decide)).mono ?_
          have hf3 := HFL.out later hcy
          obtain ⟨r2, hr2⟩ : ∃ r2, r2 = (S.find 1 2 later).2 := ⟨_, rfl⟩
          obtain ⟨t2, ht2⟩ : ∃ t2, t2 = (S.find 1 2 later).1 := ⟨_, rfl⟩
          rw [← hr2, ← ht2]
          rw [← hr2] at hf3
          clear hr2 ht2
          rintro e w5 ⟨rfl, b5⟩
          have HF3 := hide hf3
          have HK5 := hide ((HK4.out.ext b5).ext (below1 w5 (.cells (tgC t2) 44)))
          have HB5 := hide ((HB4.out.trans (b5.mono hwr4)).trans ((below1 w5 (.cells (tgC t2) 44)).mono (Nat.le_trans hwr4 b5.size)))
          have hwr5 := HB5.out.size
          clear b5 hf3 hcy
          by_cases z1 : r1 = 0
          · subst z1
            have z3 := HF2.out rfl
            go_wp2_with fail
            all_goals
              refine (c_klen _ HK5.out).mono ?_
              rintro e w6 ⟨rfl, b6⟩
              have HB6 := hide (HB5.out.trans (b6.mono hwr5))
              have hs21 : ((S.s : Int) ≤ 20) := by have := HS20.out; omega
              clear b6
              go_wp2_with fail
              go_ret
              first
              | exact ⟨rfl, HB6.out⟩
              | refine ⟨?_, HB6.out⟩
                show Ending.returned (.bool (decide ((clock : Int) < 50) || (r1 : Int) != 0)) = _
                have z5 : ((r1 : Int) != 0) = true := by simpa using z1
                rw [z5, Bool.or_true]
          · have z2 : ¬ r2 = 0 := fun h => z1 (HF3.out h)
            have z3 : ((r1 : Int) == 0) = false := by simpa using z1
            have z4 : ((r2 : Int) == 0) = false := by simpa using z2
            go_wp2_with fail
            all_goals
              refine (c_klen _ HK5.out).mono ?_
              rintro e w6 ⟨rfl, b6⟩
              have HB6 := hide (HB5.out.trans (b6.mono hwr5))
              have hs21 : ((S.s : Int) ≤ 20) := by have := HS20.out; omega
              clear b6
              go_wp2_with fail
              go_ret
              first
              | exact ⟨rfl, HB6.out⟩
              | refine ⟨?_, HB6.out⟩
                show Ending.returned (.bool (decide ((clock : Int) < 50) || (r1 : Int) != 0)) = _
                have z5 : ((r1 : Int) != 0) = true := by simpa using z1
                rw [z5, Bool.or_true]
        · have hcy : clock ≤ clock := by omega
          refine (c_kfind 1 2 clock _ HK4.out (by decide)).mono ?_
          have hf3 := HFL.out clock hcy
          obtain ⟨r2, hr2⟩ : ∃ r2, r2 = (S.find 1 2 clock).2 := ⟨_, rfl⟩
          obtain ⟨t2, ht2⟩ : ∃ t2, t2 = (S.find 1 2 clock).1 := ⟨_, rfl⟩
          rw [← hr2, ← ht2]
          rw [← hr2] at hf3
          clear hr2 ht2
          rintro e w5 ⟨rfl, b5⟩
          have HF3 := hide hf3
          have HK5 := hide ((HK4.out.ext b5).ext (below1 w5 (.cells (tgC t2) 44)))
          have HB5 := hide ((HB4.out.trans (b5.mono hwr4)).trans ((below1 w5 (.cells (tgC t2) 44)).mono (Nat.le_trans hwr4 b5.size)))
          have hwr5 := HB5.out.size
          clear b5 hf3 hcy
          by_cases z1 : r1 = 0
          · subst z1
            have z3 := HF2.out rfl
            go_wp2_with fail
            all_goals
              refine (c_klen _ HK5.out).mono ?_
              rintro e w6 ⟨rfl, b6⟩
              have HB6 := hide (HB5.out.trans (b6.mono hwr5))
              have hs21 : ((S.s : Int) ≤ 20) := by have := HS20.out; omega
              clear b6
              go_wp2_with fail
              go_ret
              first
              | exact ⟨rfl, HB6.out⟩
              | refine ⟨?_, HB6.out⟩
                show Ending.returned (.bool (decide ((clock : Int) < 50) || (r1 : Int) != 0)) = _
                have z5 : ((r1 : Int) != 0) = true := by simpa using z1
                rw [z5, Bool.or_true]
          · have z2 : ¬ r2 = 0 := fun h => z1 (HF3.out h)
            have z3 : ((r1 : Int) == 0) = false := by simpa using z1
            have z4 : ((r2 : Int) == 0) = false := by simpa using z2
            go_wp2_with fail
            all_goals
              refine (c_klen _ HK5.out).mono ?_
              rintro e w6 ⟨rfl, b6⟩
              have HB6 := hide (HB5.out.trans (b6.mono hwr5))
              have hs21 : ((S.s : Int) ≤ 20) := by have := HS20.out; omega
              clear b6
              go_wp2_with fail
              go_ret
              first
              | exact ⟨rfl, HB6.out⟩
              | refine ⟨?_, HB6.out⟩
                show Ending.returned (.bool (decide ((clock : Int) < 50) || (r1 : Int) != 0)) = _
                have z5 : ((r1 : Int) != 0) = true := by simpa using z1
                rw [z5, Bool.or_true]
end Go.Proofs.Ytlfhbnajopekpaa
