/- The walk of the statement KeysApart. No condition. -/
import Derived.Test.YtlfhbnajopekpaaKey9
namespace Go.Proofs.Ytlfhbnajopekpaa
open Go.RowKit
open Go.Maps (Keyed)
attribute [local go_sem ↓] ld32 ld35
attribute [local go_sem] run_ldAgg run_storeAgg agg_alloc_at agg_alloc_past agg_drew agg_setCell row_alloc_at row_alloc_past row_drew setRow_alloc_at setRow_alloc_past setRow_drew agg_setRow_at agg_setRow_far cell_setRow_at cell_setRow_far row_setRow_far size_setRow tgC_size tgC_one tgC_part tgC_splice tgC_splice_any zero_tg tgC_ne keyC_size keyC_g0 keyC_g33 keyC_g34 keyC_0 keyC_33 keyC_34 keyC_part keyC_tag keyC_splice0 keyC_set33 keyC_set34 zero_key keyC_all keyC_ne

/-! ### the plain law -/
structure Ap (S : Ks) (n m : Nat) : Prop where
  most : S.most = n
  s : S.s = m
  last : S.last = m
  le : m ≤ n
  none : ∀ j, m < j → S.F j = none
  one : 0 < m → (S.F 1).isSome = true
  all : ∀ j x, S.F j = some x → x.kind = 1 ∧ x.rev = false ∧ x.til = 9
theorem Ap.start (n : Nat) : Ap (sA n) n 0 := ⟨rfl, rfl, rfl, Nat.zero_le _, fun _ _ => rfl, fun h => absurd h (Nat.lt_irrefl _), fun j x h => by cases h⟩
theorem Ap.make {S : Ks} {n m : Nat} (h : Ap S n m) (t : Tg) (hlt : m < n) : ∃ S', S.make 1 t 9 = (S', m + 1, 0) ∧ Ap S' n (m + 1) := by
  have e := make_root (S := S) (t := t) (til := 9) (kind := 1) (.inl rfl) (by rw [h.s, h.most]; exact hlt) (h.none _ (by rw [h.last]; exact Nat.lt_succ_self _))
  rw [h.last, h.s] at e
  refine ⟨_, e, h.most, rfl, rfl, hlt, fun j hj => ?_, fun _ => ?_, fun j x hx => ?_⟩
  · show (if j = m + 1 then _ else S.F j) = _
    rw [if_neg (by omega)]
    exact h.none j (by omega)
  · show (if 1 = m + 1 then some _ else S.F 1).isSome = true
    split
    · rfl
    · exact h.one (by omega)
  · have hx : (if j = m + 1 then some (⟨1, t, 9, false⟩ : Ky) else S.F j) = some x := hx
    split at hx
    · rw [← Option.some.inj hx]
      exact ⟨rfl, rfl, rfl⟩
    · exact h.all j x hx
theorem Ap.full {S : Ks} {n m : Nat} (h : Ap S n m) (t : Tg) (kind : Int) (til : Nat) (hk : kind = 1 ∨ kind = 2) (hlt : n ≤ m) : S.make kind t til = (S, 0, 4) := by
  rw [Ks.make, if_pos hk, if_pos (by rw [h.s, h.most]; exact hlt)]
theorem tg_set (k : Nat) : (tgC Tg.zero).setIfInBounds 0 (.int .u8 ((k : Int) % 256)) = tgC (tg1 (k % 256)) := by
  have e : ((k : Int) % 256) = ((UInt8.ofNat (k % 256)).toNat : Int) := by
    rw [UInt8.toNat_ofNat_of_lt' (by show k % 256 < 256; omega)]; omega
  rw [e]
  rfl
theorem Ap.dead {S : Ks} {n m : Nat} (h : Ap S n m) (j : Nat) : ((S.F j).filter fun x => x.live 10) = Option.none := by
  cases hF : S.F j with
  | none => rfl
  | some x =>
    obtain ⟨-, -, h3⟩ := h.all j x hF
    have : x.live 10 = false := by simp [Ky.live, h3]
    simp [Option.filter, this]
theorem Ap.find {S : Ks} {n m : Nat} (h : Ap S n m) : ((S.revoke 1).1.find 1 1 0).2 = if 0 < m then 5 else 3 := by
  cases hF : S.F 1 with
  | none =>
    have hm : m = 0 := by
      rcases Nat.eq_zero_or_pos m with h0 | h0
      · exact h0
      · have := h.one h0
        rw [hF] at this
        cases this
    subst hm
    have hr : S.revoke 1 = (S, false) := by simp [Ks.revoke, hF]
    rw [hr]
    simp [Ks.find, hF]
  | some x =>
    have hm : 0 < m := by
      rcases Nat.eq_zero_or_pos m with h0 | h0
      · have := h.none 1 (by omega)
        rw [hF] at this
        cases this
      · exact h0
    obtain ⟨h1, h2, h3⟩ := h.all 1 x hF
    have hr : S.revoke 1 = (⟨S.most, S.last, fun j => if j = 1 then some ⟨x.kind, x.tag, x.til, true⟩ else S.F j, S.s⟩, true) := by simp [Ks.revoke, hF, h2]
    rw [hr]
    simp [Ks.find, h1, hm]
set_option maxRecDepth 100000 in
set_option maxHeartbeats 1600000 in
theorem c_kapartA (many : Nat) (most : Int) (w : World) (hmany : many < 65536) (hA : most < 0) : Calls Try.prog 4 #[.int .u16 (many : Int), .int .i64 most] w fun e w' => e = .returned (.bool true) ∧ Below w.heap.size w w' := by
  have hn : (min (max most 0) 1024).toNat = 0 := by omega
  have HN := hide hn
  skip
  obtain ⟨q, hq⟩ : ∃ q : Nat, q = many % 1100 := ⟨_, rfl⟩
  have hq3 : q < 1100 := by omega
  have hmod : Int.tmod (many : Int) 1100 = (q : Int) := by rw [Int.tmod_eq_emod_of_nonneg (by omega)]; omega
  clear hn hq
  go_enter Try.func4, Try.ntmps4
  go_wp2_with fail
  refine (c_kalive _).mono ?_
  rintro e w1 ⟨rfl, b1⟩
  have HB1 := hide b1
  clear b1
  go_wp2_with fail
  refine (c_knew _ w1).mono ?_
  rintro e w2 ⟨g, b, rfl, hk2, hg1, hb1, b2⟩
  rw [HN.out] at hk2
  have hk2 : KeysAt w2 g b (sA 0) := hk2
  have hg : w.heap.size ≤ g := Nat.le_trans HB1.out.size hg1
  have hb : w.heap.size ≤ b := Nat.le_trans HB1.out.size hb1
  have HK2 := hide hk2
  have HB2 := hide (HB1.out.trans (b2.mono HB1.out.size))
  have hws2 := HB2.out.size
  clear hk2 b2 hg1 hb1
  go_wp2_with fail
  go_loopw [26] (fun i wr => ∃ (k : Nat) (S : Ks), k ≤ q ∧ i = .int .i64 (k : Int) ∧ Hid (Ap S 0 (min k 0)) ∧ Hid (KeysAt wr g b S) ∧ Hid (Below w.heap.size w wr)) (fun i _ => q - (intOf i).toNat)
  case atStart => exact ⟨0, sA 0, Nat.zero_le _, rfl, hide (by rw [Nat.zero_min]; exact Ap.start _), HK2, HB2⟩
  case round =>
    obtain ⟨k, S, hk, rfl, HI, HK, HB⟩ := hrel
    have hwr := HB.out.size
    have hgw := (Array.getElem?_eq_some_iff.1 HK.out.1).1
    have hbw := HK.out.2.lt
    by_cases hlt : k < q
    · go_wp2_with fail
      rw [tg_set k]
      refine (c_kmake 1 (tg1 (k % 256)) 9 wr HK.out (by have := HI.out.last; omega) (by have := HI.out.s; simp only [maxLen]; omega) (by decide)).mono ?_
      by_cases hkn : k < 0
      · exact absurd hkn (by omega)
      · have e3 := HI.out.full (tg1 (k % 256)) 1 9 (.inl rfl) (by omega)
        rw [e3]
        rintro e w3 ⟨rfl, hk3, b3⟩
        have HI3 : Hid (Ap S 0 (min (k + 1) 0)) := hide (by rw [show min (k + 1) 0 = min k 0 by omega]; exact HI.out)
        have HK3 := hide hk3
        have HB3 := hide (HB.out.trans (b3.below (B := w.heap.size) hg hb hwr))
        clear hk3 b3 e3
        go_wp2_with fail
        go_roundw
        case rel => exact ⟨k + 1, S, by omega, by simp, HI3, HK3, HB3⟩
        case measure => simp [intOf]; omega
    · obtain rfl : q = k := by omega
      go_wp2_with fail
      refine (c_kclone wr HK.out).mono ?_
      rintro e w3 ⟨g', b', rfl, hk3, hg', hb', b3⟩
      have hgg : g < g' := Nat.lt_of_lt_of_le hgw hg'
      have hgb : g < b' := Nat.lt_of_lt_of_le hgw hb'
      have hbg : b < g' := Nat.lt_of_lt_of_le hbw hg'
      have hbb : b < b' := Nat.lt_of_lt_of_le hbw hb'
      have HC3 := hide hk3
      have HK3 := hide (HK.out.ext b3)
      have HB3 := hide (HB.out.trans (b3.mono hwr))
      have hws3 := HB3.out.size
      have hg2 : w.heap.size ≤ g' := Nat.le_trans hwr hg'
      have hb2 : w.heap.size ≤ b' := Nat.le_trans hwr hb'
      have hsS : S.s = min q 0 := HI.out.s
      clear hk3 b3 hg' hb'
      go_wp2_with fail
      refine (c_klen w3 HC3.out).mono ?_
      rintro e w4 ⟨rfl, b4⟩
      have HC4 := hide (HC3.out.ext b4)
      have HK4 := hide (HK3.out.ext b4)
      have HB4 := hide (HB3.out.trans (b4.mono hws3))
      have hws4 := HB4.out.size
      clear b4
      go_wp2_with fail
      refine (c_klen w4 HK4.out).mono ?_
      rintro e w5 ⟨rfl, b5⟩
      have HC5 := hide (HC4.out.ext b5)
      have HK5 := hide (HK4.out.ext b5)
      have HB5 := hide (HB4.out.trans (b5.mono hws4))
      have hws5 := HB5.out.size
      clear b5
      go_wp2_with fail
      refine (c_klen w5 HK5.out).mono ?_
      rintro e w6 ⟨rfl, b6⟩
      have HC6 := hide (HC5.out.ext b6)
      have HK6 := hide (HK5.out.ext b6)
      have HB6 := hide (HB5.out.trans (b6.mono hws5))
      have hws6 := HB6.out.size
      clear b6
      go_wp2_with fail
      refine (c_kpurge 10 w6 HC6.out (by omega)).mono ?_
      rintro e w7 ⟨s', rfl, -, hk7, b7⟩
      obtain rfl : s' = 0 := hk7.2.zero fun j _ => HI.out.dead j
      have HC7 := hide hk7
      have HK7 := hide (HK6.out.other b7 (by omega) (by omega) (by omega) (by omega))
      have HB7 := hide (HB6.out.trans (b7.below (B := w.heap.size) hg2 hb2 hws6))
      have hws7 := HB7.out.size
      clear hk7 b7
      have hm8 : (⟨S.most, S.last, fun j => (S.F j).filter fun x => x.live 10, 0⟩ : Ks).make 2 Tg.zero 1 = (⟨S.most, S.last, fun j => (S.F j).filter fun x => x.live 10, 0⟩, 0, 4) := by rw [Ks.make, if_pos (.inr rfl), if_pos (by show S.most ≤ 0; have := HI.out.most; omega)]
      go_wp2_with fail
      refine (c_kmake 2 Tg.zero 1 w7 HC7.out (by have := HI.out.last; show S.last + 1 < _; omega) (by show 0 < maxLen; decide) (by decide)).mono ?_
      rw [hm8]
      rintro e w8 ⟨rfl, hk8, b8⟩
      have HC8 := hide hk8
      have HK8 := hide (HK7.out.other b8 (by omega) (by omega) (by omega) (by omega))
      have HB8 := hide (HB7.out.trans (b8.below (B := w.heap.size) hg2 hb2 hws7))
      have hws8 := HB8.out.size
      clear hk8 b8 hm8
      go_wp2_with fail
      refine (c_klen w8 HK8.out).mono ?_
      rintro e w9 ⟨rfl, b9⟩
      have HC9 := hide (HC8.out.ext b9)
      have HK9 := hide (HK8.out.ext b9)
      have HB9 := hide (HB8.out.trans (b9.mono hws8))
      have hws9 := HB9.out.size
      clear b9
      go_wp2_with fail
      refine (c_klen w9 HC9.out).mono ?_
      rintro e wa ⟨rfl, ba⟩
      have HKa := hide (HK9.out.ext ba)
      have HBa := hide (HB9.out.trans (ba.mono hws9))
      have hwsa := HBa.out.size
      clear ba
      go_wp2_with fail
      refine (c_krevoke 1 wa HKa.out (by decide) (by simp only [maxLen]; omega)).mono ?_
      have hfin := HI.out.find
      obtain ⟨rv, hrv⟩ : ∃ rv, rv = (S.revoke 1).2 := ⟨_, rfl⟩
      obtain ⟨Sb, hSb⟩ : ∃ Sb, Sb = (S.revoke 1).1 := ⟨_, rfl⟩
      rw [← hrv, ← hSb]
      rw [← hSb] at hfin
      rintro e wb ⟨rfl, hkb, bb⟩
      have HKb := hide hkb
      have HBb := hide (HBa.out.trans (bb.below (B := w.heap.size) hg hb hwsa))
      have hwsb := HBb.out.size
      clear hkb bb hrv hSb
      have HFIN := hide hfin
      clear hfin
      go_wp2_with fail
      refine (c_kfind 1 1 0 wb HKb.out (by decide)).mono ?_
      rw [HFIN.out]
      obtain ⟨tc, htc⟩ : ∃ tc, tc = (Sb.find 1 1 0).1 := ⟨_, rfl⟩
      rw [← htc]
      clear htc
      by_cases hz : 0 < min q 0
      · rw [if_pos hz]
        exact absurd hz (by omega)
      · rw [if_neg hz]
        have hs0 : S.s = 0 := by omega
        have hz0 : min q 0 = 0 := by omega
        rintro e wc ⟨rfl, bc⟩
        have HBc := hide (HBb.out.trans (bc.mono hwsb))
        have hwsc := HBc.out.size
        have HBd := hide (HBc.out.trans ((below1 wc (.cells (tgC tc) 44)).mono hwsc))
        have hz1 : (((min q 0 : Nat) : Int) == 0) = true := by rw [hz0]; rfl
        clear bc
        go_wp2_with fail
        go_ret
        exact ⟨rfl, HBd.out⟩
set_option maxRecDepth 100000 in
set_option maxHeartbeats 1600000 in
theorem c_kapartZ (many : Nat) (most : Int) (w : World) (hmany : many < 65536) (hA : most = 0) : Calls Try.prog 4 #[.int .u16 (many : Int), .int .i64 most] w fun e w' => e = .returned (.bool true) ∧ Below w.heap.size w w' := by
  have hn : (min (max most 0) 1024).toNat = 0 := by omega
  have HN := hide hn
  subst hA
  obtain ⟨q, hq⟩ : ∃ q : Nat, q = many % 1100 := ⟨_, rfl⟩
  have hq3 : q < 1100 := by omega
  have hmod : Int.tmod (many : Int) 1100 = (q : Int) := by rw [Int.tmod_eq_emod_of_nonneg (by omega)]; omega
  clear hn hq
  go_enter Try.func4, Try.ntmps4
  go_wp2_with fail
  refine (c_kalive _).mono ?_
  rintro e w1 ⟨rfl, b1⟩
  have HB1 := hide b1
  clear b1
  go_wp2_with fail
  refine (c_knew _ w1).mono ?_
  rintro e w2 ⟨g, b, rfl, hk2, hg1, hb1, b2⟩
  rw [HN.out] at hk2
  have hk2 : KeysAt w2 g b (sA 0) := hk2
  have hg : w.heap.size ≤ g := Nat.le_trans HB1.out.size hg1
  have hb : w.heap.size ≤ b := Nat.le_trans HB1.out.size hb1
  have HK2 := hide hk2
  have HB2 := hide (HB1.out.trans (b2.mono HB1.out.size))
  have hws2 := HB2.out.size
  clear hk2 b2 hg1 hb1
  go_wp2_with fail
  go_loopw [26] (fun i wr => ∃ (k : Nat) (S : Ks), k ≤ q ∧ i = .int .i64 (k : Int) ∧ Hid (Ap S 0 (min k 0)) ∧ Hid (KeysAt wr g b S) ∧ Hid (Below w.heap.size w wr)) (fun i _ => q - (intOf i).toNat)
  case atStart => exact ⟨0, sA 0, Nat.zero_le _, rfl, hide (by rw [Nat.zero_min]; exact Ap.start _), HK2, HB2⟩
  case round =>
    obtain ⟨k, S, hk, rfl, HI, HK, HB⟩ := hrel
    have hwr := HB.out.size
    have hgw := (Array.getElem?_eq_some_iff.1 HK.out.1).1
    have hbw := HK.out.2.lt
    by_cases hlt : k < q
    · go_wp2_with fail
      rw [tg_set k]
      refine (c_kmake 1 (tg1 (k % 256)) 9 wr HK.out (by have := HI.out.last; omega) (by have := HI.out.s; simp only [maxLen]; omega) (by decide)).mono ?_
      by_cases hkn : k < 0
      · exact absurd hkn (by omega)
      · have e3 := HI.out.full (tg1 (k % 256)) 1 9 (.inl rfl) (by omega)
        rw [e3]
        rintro e w3 ⟨rfl, hk3, b3⟩
        have HI3 : Hid (Ap S 0 (min (k + 1) 0)) := hide (by rw [show min (k + 1) 0 = min k 0 by omega]; exact HI.out)
        have HK3 := hide hk3
        have HB3 := hide (HB.out.trans (b3.below (B := w.heap.size) hg hb hwr))
        clear hk3 b3 e3
        go_wp2_with fail
        go_roundw
        case rel => exact ⟨k + 1, S, by omega, by simp, HI3, HK3, HB3⟩
        case measure => simp [intOf]; omega
    · obtain rfl : q = k := by omega
      go_wp2_with fail
      refine (c_kclone wr HK.out).mono ?_
      rintro e w3 ⟨g', b', rfl, hk3, hg', hb', b3⟩
      have hgg : g < g' := Nat.lt_of_lt_of_le hgw hg'
      have hgb : g < b' := Nat.lt_of_lt_of_le hgw hb'
      have hbg : b < g' := Nat.lt_of_lt_of_le hbw hg'
      have hbb : b < b' := Nat.lt_of_lt_of_le hbw hb'
      have HC3 := hide hk3
      have HK3 := hide (HK.out.ext b3)
      have HB3 := hide (HB.out.trans (b3.mono hwr))
      have hws3 := HB3.out.size
      have hg2 : w.heap.size ≤ g' := Nat.le_trans hwr hg'
      have hb2 : w.heap.size ≤ b' := Nat.le_trans hwr hb'
      have hsS : S.s = min q 0 := HI.out.s
      clear hk3 b3 hg' hb'
      go_wp2_with fail
      refine (c_klen w3 HC3.out).mono ?_
      rintro e w4 ⟨rfl, b4⟩
      have HC4 := hide (HC3.out.ext b4)
      have HK4 := hide (HK3.out.ext b4)
      have HB4 := hide (HB3.out.trans (b4.mono hws3))
      have hws4 := HB4.out.size
      clear b4
      go_wp2_with fail
      refine (c_klen w4 HK4.out).mono ?_
      rintro e w5 ⟨rfl, b5⟩
      have HC5 := hide (HC4.out.ext b5)
      have HK5 := hide (HK4.out.ext b5)
      have HB5 := hide (HB4.out.trans (b5.mono hws4))
      have hws5 := HB5.out.size
      clear b5
      go_wp2_with fail
      refine (c_klen w5 HK5.out).mono ?_
      rintro e w6 ⟨rfl, b6⟩
      have HC6 := hide (HC5.out.ext b6)
      have HK6 := hide (HK5.out.ext b6)
      have HB6 := hide (HB5.out.trans (b6.mono hws5))
      have hws6 := HB6.out.size
      clear b6
      go_wp2_with fail
      refine (c_kpurge 10 w6 HC6.out (by omega)).mono ?_
      rintro e w7 ⟨s', rfl, -, hk7, b7⟩
      obtain rfl : s' = 0 := hk7.2.zero fun j _ => HI.out.dead j
      have HC7 := hide hk7
      have HK7 := hide (HK6.out.other b7 (by omega) (by omega) (by omega) (by omega))
      have HB7 := hide (HB6.out.trans (b7.below (B := w.heap.size) hg2 hb2 hws6))
      have hws7 := HB7.out.size
      clear hk7 b7
      have hm8 : (⟨S.most, S.last, fun j => (S.F j).filter fun x => x.live 10, 0⟩ : Ks).make 2 Tg.zero 1 = (⟨S.most, S.last, fun j => (S.F j).filter fun x => x.live 10, 0⟩, 0, 4) := by rw [Ks.make, if_pos (.inr rfl), if_pos (by show S.most ≤ 0; have := HI.out.most; omega)]
      go_wp2_with fail
      refine (c_kmake 2 Tg.zero 1 w7 HC7.out (by have := HI.out.last; show S.last + 1 < _; omega) (by show 0 < maxLen; decide) (by decide)).mono ?_
      rw [hm8]
      rintro e w8 ⟨rfl, hk8, b8⟩
      have HC8 := hide hk8
      have HK8 := hide (HK7.out.other b8 (by omega) (by omega) (by omega) (by omega))
      have HB8 := hide (HB7.out.trans (b8.below (B := w.heap.size) hg2 hb2 hws7))
      have hws8 := HB8.out.size
      clear hk8 b8 hm8
      go_wp2_with fail
      refine (c_klen w8 HK8.out).mono ?_
      rintro e w9 ⟨rfl, b9⟩
      have HC9 := hide (HC8.out.ext b9)
      have HK9 := hide (HK8.out.ext b9)
      have HB9 := hide (HB8.out.trans (b9.mono hws8))
      have hws9 := HB9.out.size
      clear b9
      go_wp2_with fail
      refine (c_klen w9 HC9.out).mono ?_
      rintro e wa ⟨rfl, ba⟩
      have HKa := hide (HK9.out.ext ba)
      have HBa := hide (HB9.out.trans (ba.mono hws9))
      have hwsa := HBa.out.size
      clear ba
      go_wp2_with fail
      refine (c_krevoke 1 wa HKa.out (by decide) (by simp only [maxLen]; omega)).mono ?_
      have hfin := HI.out.find
      obtain ⟨rv, hrv⟩ : ∃ rv, rv = (S.revoke 1).2 := ⟨_, rfl⟩
      obtain ⟨Sb, hSb⟩ : ∃ Sb, Sb = (S.revoke 1).1 := ⟨_, rfl⟩
      rw [← hrv, ← hSb]
      rw [← hSb] at hfin
      rintro e wb ⟨rfl, hkb, bb⟩
      have HKb := hide hkb
      have HBb := hide (HBa.out.trans (bb.below (B := w.heap.size) hg hb hwsa))
      have hwsb := HBb.out.size
      clear hkb bb hrv hSb
      have HFIN := hide hfin
      clear hfin
      go_wp2_with fail
      refine (c_kfind 1 1 0 wb HKb.out (by decide)).mono ?_
      rw [HFIN.out]
      obtain ⟨tc, htc⟩ : ∃ tc, tc = (Sb.find 1 1 0).1 := ⟨_, rfl⟩
      rw [← htc]
      clear htc
      by_cases hz : 0 < min q 0
      · rw [if_pos hz]
        exact absurd hz (by omega)
      · rw [if_neg hz]
        have hs0 : S.s = 0 := by omega
        have hz0 : min q 0 = 0 := by omega
        rintro e wc ⟨rfl, bc⟩
        have HBc := hide (HBb.out.trans (bc.mono hwsb))
        have hwsc := HBc.out.size
        have HBd := hide (HBc.out.trans ((below1 wc (.cells (tgC tc) 44)).mono hwsc))
        have hz1 : (((min q 0 : Nat) : Int) == 0) = true := by rw [hz0]; rfl
        clear bc
        go_wp2_with fail
        go_ret
        exact ⟨rfl, HBd.out⟩
set_option maxRecDepth 100000 in
set_option maxHeartbeats 1600000 in
theorem c_kapartB (many : Nat) (most : Int) (n : Nat) (w : World) (hmany : many < 65536) (hA : most = (n : Int)) (hn0 : n ≤ 1024) (hn1 : 0 < n) : Calls Try.prog 4 #[.int .u16 (many : Int), .int .i64 most] w fun e w' => e = .returned (.bool true) ∧ Below w.heap.size w w' := by
  have hn : (min (max most 0) 1024).toNat = n := by omega
  have HN := hide hn
  subst hA
  obtain ⟨q, hq⟩ : ∃ q : Nat, q = many % 1100 := ⟨_, rfl⟩
  have hq3 : q < 1100 := by omega
  have hmod : Int.tmod (many : Int) 1100 = (q : Int) := by rw [Int.tmod_eq_emod_of_nonneg (by omega)]; omega
  clear hn hq
  go_enter Try.func4, Try.ntmps4
  go_wp2_with fail
  refine (c_kalive _).mono ?_
  rintro e w1 ⟨rfl, b1⟩
  have HB1 := hide b1
  clear b1
  go_wp2_with fail
  refine (c_knew _ w1).mono ?_
  rintro e w2 ⟨g, b, rfl, hk2, hg1, hb1, b2⟩
  rw [HN.out] at hk2
  have hk2 : KeysAt w2 g b (sA n) := hk2
  have hg : w.heap.size ≤ g := Nat.le_trans HB1.out.size hg1
  have hb : w.heap.size ≤ b := Nat.le_trans HB1.out.size hb1
  have HK2 := hide hk2
  have HB2 := hide (HB1.out.trans (b2.mono HB1.out.size))
  have hws2 := HB2.out.size
  clear hk2 b2 hg1 hb1
  go_wp2_with fail
  go_loopw [26] (fun i wr => ∃ (k : Nat) (S : Ks), k ≤ q ∧ i = .int .i64 (k : Int) ∧ Hid (Ap S n (min k n)) ∧ Hid (KeysAt wr g b S) ∧ Hid (Below w.heap.size w wr)) (fun i _ => q - (intOf i).toNat)
  case atStart => exact ⟨0, sA n, Nat.zero_le _, rfl, hide (by rw [Nat.zero_min]; exact Ap.start _), HK2, HB2⟩
  case round =>
    obtain ⟨k, S, hk, rfl, HI, HK, HB⟩ := hrel
    have hwr := HB.out.size
    have hgw := (Array.getElem?_eq_some_iff.1 HK.out.1).1
    have hbw := HK.out.2.lt
    by_cases hlt : k < q
    · go_wp2_with fail
      rw [tg_set k]
      refine (c_kmake 1 (tg1 (k % 256)) 9 wr HK.out (by have := HI.out.last; omega) (by have := HI.out.s; simp only [maxLen]; omega) (by decide)).mono ?_
      by_cases hkn : k < n
      · obtain ⟨S3, e3, hI3⟩ := HI.out.make (tg1 (k % 256)) (by omega)
        rw [e3]
        rintro e w3 ⟨rfl, hk3, b3⟩
        have HI3 : Hid (Ap S3 n (min (k + 1) n)) := hide (by rw [show min (k + 1) n = min k n + 1 by omega]; exact hI3)
        have HK3 := hide hk3
        have HB3 := hide (HB.out.trans (b3.below (B := w.heap.size) hg hb hwr))
        have hmk : min k n = k := by omega
        rw [hmk]
        clear hk3 b3 hI3 e3
        go_wp2_with fail
        go_roundw
        case rel => exact ⟨k + 1, S3, by omega, by simp, HI3, HK3, HB3⟩
        case measure => simp [intOf]; omega
      · have e3 := HI.out.full (tg1 (k % 256)) 1 9 (.inl rfl) (by omega)
        rw [e3]
        rintro e w3 ⟨rfl, hk3, b3⟩
        have HI3 : Hid (Ap S n (min (k + 1) n)) := hide (by rw [show min (k + 1) n = min k n by omega]; exact HI.out)
        have HK3 := hide hk3
        have HB3 := hide (HB.out.trans (b3.below (B := w.heap.size) hg hb hwr))
        clear hk3 b3 e3
        go_wp2_with fail
        go_roundw
        case rel => exact ⟨k + 1, S, by omega, by simp, HI3, HK3, HB3⟩
        case measure => simp [intOf]; omega
    · obtain rfl : q = k := by omega
      go_wp2_with fail
      refine (c_kclone wr HK.out).mono ?_
      rintro e w3 ⟨g', b', rfl, hk3, hg', hb', b3⟩
      have hgg : g < g' := Nat.lt_of_lt_of_le hgw hg'
      have hgb : g < b' := Nat.lt_of_lt_of_le hgw hb'
      have hbg : b < g' := Nat.lt_of_lt_of_le hbw hg'
      have hbb : b < b' := Nat.lt_of_lt_of_le hbw hb'
      have HC3 := hide hk3
      have HK3 := hide (HK.out.ext b3)
      have HB3 := hide (HB.out.trans (b3.mono hwr))
      have hws3 := HB3.out.size
      have hg2 : w.heap.size ≤ g' := Nat.le_trans hwr hg'
      have hb2 : w.heap.size ≤ b' := Nat.le_trans hwr hb'
      have hsS : S.s = min q n := HI.out.s
      clear hk3 b3 hg' hb'
      go_wp2_with fail
      refine (c_klen w3 HC3.out).mono ?_
      rintro e w4 ⟨rfl, b4⟩
      have HC4 := hide (HC3.out.ext b4)
      have HK4 := hide (HK3.out.ext b4)
      have HB4 := hide (HB3.out.trans (b4.mono hws3))
      have hws4 := HB4.out.size
      clear b4
      go_wp2_with fail
      refine (c_klen w4 HK4.out).mono ?_
      rintro e w5 ⟨rfl, b5⟩
      have HC5 := hide (HC4.out.ext b5)
      have HK5 := hide (HK4.out.ext b5)
      have HB5 := hide (HB4.out.trans (b5.mono hws4))
      have hws5 := HB5.out.size
      clear b5
      go_wp2_with fail
      refine (c_klen w5 HK5.out).mono ?_
      rintro e w6 ⟨rfl, b6⟩
      have HC6 := hide (HC5.out.ext b6)
      have HK6 := hide (HK5.out.ext b6)
      have HB6 := hide (HB5.out.trans (b6.mono hws5))
      have hws6 := HB6.out.size
      clear b6
      go_wp2_with fail
      refine (c_kpurge 10 w6 HC6.out (by omega)).mono ?_
      rintro e w7 ⟨s', rfl, -, hk7, b7⟩
      obtain rfl : s' = 0 := hk7.2.zero fun j _ => HI.out.dead j
      have HC7 := hide hk7
      have HK7 := hide (HK6.out.other b7 (by omega) (by omega) (by omega) (by omega))
      have HB7 := hide (HB6.out.trans (b7.below (B := w.heap.size) hg2 hb2 hws6))
      have hws7 := HB7.out.size
      clear hk7 b7
      have hm8 : (⟨S.most, S.last, fun j => (S.F j).filter fun x => x.live 10, 0⟩ : Ks).make 2 Tg.zero 1 = (⟨S.most, S.last + 1, up (fun j => (S.F j).filter fun x => x.live 10) (S.last + 1) ⟨2, Tg.zero, 1, false⟩, 0 + 1⟩, S.last + 1, 0) := make_root (.inr rfl) (by show 0 < S.most; have := HI.out.most; omega) (HI.out.dead _)
      go_wp2_with fail
      refine (c_kmake 2 Tg.zero 1 w7 HC7.out (by have := HI.out.last; show S.last + 1 < _; omega) (by show 0 < maxLen; decide) (by decide)).mono ?_
      rw [hm8]
      rintro e w8 ⟨rfl, hk8, b8⟩
      have HC8 := hide hk8
      have HK8 := hide (HK7.out.other b8 (by omega) (by omega) (by omega) (by omega))
      have HB8 := hide (HB7.out.trans (b8.below (B := w.heap.size) hg2 hb2 hws7))
      have hws8 := HB8.out.size
      clear hk8 b8 hm8
      go_wp2_with fail
      refine (c_klen w8 HK8.out).mono ?_
      rintro e w9 ⟨rfl, b9⟩
      have HC9 := hide (HC8.out.ext b9)
      have HK9 := hide (HK8.out.ext b9)
      have HB9 := hide (HB8.out.trans (b9.mono hws8))
      have hws9 := HB9.out.size
      clear b9
      go_wp2_with fail
      refine (c_klen w9 HC9.out).mono ?_
      rintro e wa ⟨rfl, ba⟩
      have HKa := hide (HK9.out.ext ba)
      have HBa := hide (HB9.out.trans (ba.mono hws9))
      have hwsa := HBa.out.size
      clear ba
      go_wp2_with fail
      refine (c_krevoke 1 wa HKa.out (by decide) (by simp only [maxLen]; omega)).mono ?_
      have hfin := HI.out.find
      obtain ⟨rv, hrv⟩ : ∃ rv, rv = (S.revoke 1).2 := ⟨_, rfl⟩
      obtain ⟨Sb, hSb⟩ : ∃ Sb, Sb = (S.revoke 1).1 := ⟨_, rfl⟩
      rw [← hrv, ← hSb]
      rw [← hSb] at hfin
      rintro e wb ⟨rfl, hkb, bb⟩
      have HKb := hide hkb
      have HBb := hide (HBa.out.trans (bb.below (B := w.heap.size) hg hb hwsa))
      have hwsb := HBb.out.size
      clear hkb bb hrv hSb
      have HFIN := hide hfin
      clear hfin
      go_wp2_with fail
      refine (c_kfind 1 1 0 wb HKb.out (by decide)).mono ?_
      rw [HFIN.out]
      obtain ⟨tc, htc⟩ : ∃ tc, tc = (Sb.find 1 1 0).1 := ⟨_, rfl⟩
      rw [← htc]
      clear htc
      by_cases hz : 0 < min q n
      · rw [if_pos hz]
        have hs0 : 0 < S.s := by omega
        rintro e wc ⟨rfl, bc⟩
        have HBc := hide (HBb.out.trans (bc.mono hwsb))
        have hwsc := HBc.out.size
        have HBd := hide (HBc.out.trans ((below1 wc (.cells (tgC tc) 44)).mono hwsc))
        have hz1 : (((min q n : Nat) : Int) == 0) = false := by
          have : ¬ ((min q n : Nat) : Int) = 0 := by omega
          simpa using this
        clear bc
        go_wp2_with fail
        go_ret
        exact ⟨rfl, HBd.out⟩
      · rw [if_neg hz]
        have hs0 : S.s = 0 := by omega
        have hz0 : min q n = 0 := by omega
        rintro e wc ⟨rfl, bc⟩
        have HBc := hide (HBb.out.trans (bc.mono hwsb))
        have hwsc := HBc.out.size
        have HBd := hide (HBc.out.trans ((below1 wc (.cells (tgC tc) 44)).mono hwsc))
        have hz1 : (((min q n : Nat) : Int) == 0) = true := by rw [hz0]; rfl
        clear bc
        go_wp2_with fail
        go_ret
        exact ⟨rfl, HBd.out⟩
set_option maxRecDepth 100000 in
set_option maxHeartbeats 1600000 in
theorem c_kapartC (many : Nat) (most : Int) (w : World) (hmany : many < 65536) (hA : 1024 < most) : Calls Try.prog 4 #[.int .u16 (many : Int), .int .i64 most] w fun e w' => e = .returned (.bool true) ∧ Below w.heap.size w w' := by
  have hn : (min (max most 0) 1024).toNat = 1024 := by omega
  have HN := hide hn
  skip
  obtain ⟨q, hq⟩ : ∃ q : Nat, q = many % 1100 := ⟨_, rfl⟩
  have hq3 : q < 1100 := by omega
  have hmod : Int.tmod (many : Int) 1100 = (q : Int) := by rw [Int.tmod_eq_emod_of_nonneg (by omega)]; omega
  clear hn hq
  go_enter Try.func4, Try.ntmps4
  go_wp2_with fail
  refine (c_kalive _).mono ?_
  rintro e w1 ⟨rfl, b1⟩
  have HB1 := hide b1
  clear b1
  go_wp2_with fail
  refine (c_knew _ w1).mono ?_
  rintro e w2 ⟨g, b, rfl, hk2, hg1, hb1, b2⟩
  rw [HN.out] at hk2
  have hk2 : KeysAt w2 g b (sA 1024) := hk2
  have hg : w.heap.size ≤ g := Nat.le_trans HB1.out.size hg1
  have hb : w.heap.size ≤ b := Nat.le_trans HB1.out.size hb1
  have HK2 := hide hk2
  have HB2 := hide (HB1.out.trans (b2.mono HB1.out.size))
  have hws2 := HB2.out.size
  clear hk2 b2 hg1 hb1
  go_wp2_with fail
  go_loopw [26] (fun i wr => ∃ (k : Nat) (S : Ks), k ≤ q ∧ i = .int .i64 (k : Int) ∧ Hid (Ap S 1024 (min k 1024)) ∧ Hid (KeysAt wr g b S) ∧ Hid (Below w.heap.size w wr)) (fun i _ => q - (intOf i).toNat)
  case atStart => exact ⟨0, sA 1024, Nat.zero_le _, rfl, hide (by rw [Nat.zero_min]; exact Ap.start _), HK2, HB2⟩
  case round =>
    obtain ⟨k, S, hk, rfl, HI, HK, HB⟩ := hrel
    have hwr := HB.out.size
    have hgw := (Array.getElem?_eq_some_iff.1 HK.out.1).1
    have hbw := HK.out.2.lt
    by_cases hlt : k < q
    · go_wp2_with fail
      rw [tg_set k]
      refine (c_kmake 1 (tg1 (k % 256)) 9 wr HK.out (by have := HI.out.last; omega) (by have := HI.out.s; simp only [maxLen]; omega) (by decide)).mono ?_
      by_cases hkn : k < 1024
      · obtain ⟨S3, e3, hI3⟩ := HI.out.make (tg1 (k % 256)) (by omega)
        rw [e3]
        rintro e w3 ⟨rfl, hk3, b3⟩
        have HI3 : Hid (Ap S3 1024 (min (k + 1) 1024)) := hide (by rw [show min (k + 1) 1024 = min k 1024 + 1 by omega]; exact hI3)
        have HK3 := hide hk3
        have HB3 := hide (HB.out.trans (b3.below (B := w.heap.size) hg hb hwr))
        have hmk : min k 1024 = k := by omega
        rw [hmk]
        clear hk3 b3 hI3 e3
        go_wp2_with fail
        go_roundw
        case rel => exact ⟨k + 1, S3, by omega, by simp, HI3, HK3, HB3⟩
        case measure => simp [intOf]; omega
      · have e3 := HI.out.full (tg1 (k % 256)) 1 9 (.inl rfl) (by omega)
        rw [e3]
        rintro e w3 ⟨rfl, hk3, b3⟩
        have HI3 : Hid (Ap S 1024 (min (k + 1) 1024)) := hide (by rw [show min (k + 1) 1024 = min k 1024 by omega]; exact HI.out)
        have HK3 := hide hk3
        have HB3 := hide (HB.out.trans (b3.below (B := w.heap.size) hg hb hwr))
        clear hk3 b3 e3
        go_wp2_with fail
        go_roundw
        case rel => exact ⟨k + 1, S, by omega, by simp, HI3, HK3, HB3⟩
        case measure => simp [intOf]; omega
    · obtain rfl : q = k := by omega
      go_wp2_with fail
      refine (c_kclone wr HK.out).mono ?_
      rintro e w3 ⟨g', b', rfl, hk3, hg', hb', b3⟩
      have hgg : g < g' := Nat.lt_of_lt_of_le hgw hg'
      have hgb : g < b' := Nat.lt_of_lt_of_le hgw hb'
      have hbg : b < g' := Nat.lt_of_lt_of_le hbw hg'
      have hbb : b < b' := Nat.lt_of_lt_of_le hbw hb'
      have HC3 := hide hk3
      have HK3 := hide (HK.out.ext b3)
      have HB3 := hide (HB.out.trans (b3.mono hwr))
      have hws3 := HB3.out.size
      have hg2 : w.heap.size ≤ g' := Nat.le_trans hwr hg'
      have hb2 : w.heap.size ≤ b' := Nat.le_trans hwr hb'
      have hsS : S.s = min q 1024 := HI.out.s
      clear hk3 b3 hg' hb'
      go_wp2_with fail
      refine (c_klen w3 HC3.out).mono ?_
      rintro e w4 ⟨rfl, b4⟩
      have HC4 := hide (HC3.out.ext b4)
      have HK4 := hide (HK3.out.ext b4)
      have HB4 := hide (HB3.out.trans (b4.mono hws3))
      have hws4 := HB4.out.size
      clear b4
      go_wp2_with fail
      refine (c_klen w4 HK4.out).mono ?_
      rintro e w5 ⟨rfl, b5⟩
      have HC5 := hide (HC4.out.ext b5)
      have HK5 := hide (HK4.out.ext b5)
      have HB5 := hide (HB4.out.trans (b5.mono hws4))
      have hws5 := HB5.out.size
      clear b5
      go_wp2_with fail
      refine (c_klen w5 HK5.out).mono ?_
      rintro e w6 ⟨rfl, b6⟩
      have HC6 := hide (HC5.out.ext b6)
      have HK6 := hide (HK5.out.ext b6)
      have HB6 := hide (HB5.out.trans (b6.mono hws5))
      have hws6 := HB6.out.size
      clear b6
      go_wp2_with fail
      refine (c_kpurge 10 w6 HC6.out (by omega)).mono ?_
      rintro e w7 ⟨s', rfl, -, hk7, b7⟩
      obtain rfl : s' = 0 := hk7.2.zero fun j _ => HI.out.dead j
      have HC7 := hide hk7
      have HK7 := hide (HK6.out.other b7 (by omega) (by omega) (by omega) (by omega))
      have HB7 := hide (HB6.out.trans (b7.below (B := w.heap.size) hg2 hb2 hws6))
      have hws7 := HB7.out.size
      clear hk7 b7
      have hm8 : (⟨S.most, S.last, fun j => (S.F j).filter fun x => x.live 10, 0⟩ : Ks).make 2 Tg.zero 1 = (⟨S.most, S.last + 1, up (fun j => (S.F j).filter fun x => x.live 10) (S.last + 1) ⟨2, Tg.zero, 1, false⟩, 0 + 1⟩, S.last + 1, 0) := make_root (.inr rfl) (by show 0 < S.most; have := HI.out.most; omega) (HI.out.dead _)
      go_wp2_with fail
      refine (c_kmake 2 Tg.zero 1 w7 HC7.out (by have := HI.out.last; show S.last + 1 < _; omega) (by show 0 < maxLen; decide) (by decide)).mono ?_
      rw [hm8]
      rintro e w8 ⟨rfl, hk8, b8⟩
      have HC8 := hide hk8
      have HK8 := hide (HK7.out.other b8 (by omega) (by omega) (by omega) (by omega))
      have HB8 := hide (HB7.out.trans (b8.below (B := w.heap.size) hg2 hb2 hws7))
      have hws8 := HB8.out.size
      clear hk8 b8 hm8
      go_wp2_with fail
      refine (c_klen w8 HK8.out).mono ?_
      rintro e w9 ⟨rfl, b9⟩
      have HC9 := hide (HC8.out.ext b9)
      have HK9 := hide (HK8.out.ext b9)
      have HB9 := hide (HB8.out.trans (b9.mono hws8))
      have hws9 := HB9.out.size
      clear b9
      go_wp2_with fail
      refine (c_klen w9 HC9.out).mono ?_
      rintro e wa ⟨rfl, ba⟩
      have HKa := hide (HK9.out.ext ba)
      have HBa := hide (HB9.out.trans (ba.mono hws9))
      have hwsa := HBa.out.size
      clear ba
      go_wp2_with fail
      refine (c_krevoke 1 wa HKa.out (by decide) (by simp only [maxLen]; omega)).mono ?_
      have hfin := HI.out.find
      obtain ⟨rv, hrv⟩ : ∃ rv, rv = (S.revoke 1).2 := ⟨_, rfl⟩
      obtain ⟨Sb, hSb⟩ : ∃ Sb, Sb = (S.revoke 1).1 := ⟨_, rfl⟩
      rw [← hrv, ← hSb]
      rw [← hSb] at hfin
      rintro e wb ⟨rfl, hkb, bb⟩
      have HKb := hide hkb
      have HBb := hide (HBa.out.trans (bb.below (B := w.heap.size) hg hb hwsa))
      have hwsb := HBb.out.size
      clear hkb bb hrv hSb
      have HFIN := hide hfin
      clear hfin
      go_wp2_with fail
      refine (c_kfind 1 1 0 wb HKb.out (by decide)).mono ?_
      rw [HFIN.out]
      obtain ⟨tc, htc⟩ : ∃ tc, tc = (Sb.find 1 1 0).1 := ⟨_, rfl⟩
      rw [← htc]
      clear htc
      by_cases hz : 0 < min q 1024
      · rw [if_pos hz]
        have hs0 : 0 < S.s := by omega
        rintro e wc ⟨rfl, bc⟩
        have HBc := hide (HBb.out.trans (bc.mono hwsb))
        have hwsc := HBc.out.size
        have HBd := hide (HBc.out.trans ((below1 wc (.cells (tgC tc) 44)).mono hwsc))
        have hz1 : (((min q 1024 : Nat) : Int) == 0) = false := by
          have : ¬ ((min q 1024 : Nat) : Int) = 0 := by omega
          simpa using this
        clear bc
        go_wp2_with fail
        go_ret
        exact ⟨rfl, HBd.out⟩
      · rw [if_neg hz]
        have hs0 : S.s = 0 := by omega
        have hz0 : min q 1024 = 0 := by omega
        rintro e wc ⟨rfl, bc⟩
        have HBc := hide (HBb.out.trans (bc.mono hwsb))
        have hwsc := HBc.out.size
        have HBd := hide (HBc.out.trans ((below1 wc (.cells (tgC tc) 44)).mono hwsc))
        have hz1 : (((min q 1024 : Nat) : Int) == 0) = true := by rw [hz0]; rfl
        clear bc
        go_wp2_with fail
        go_ret
        exact ⟨rfl, HBd.out⟩
theorem c_kapart (many : Nat) (most : Int) (w : World) (hmany : many < 65536) : Calls Try.prog 4 #[.int .u16 (many : Int), .int .i64 most] w fun e w' => e = .returned (.bool true) ∧ Below w.heap.size w w' := by
  by_cases h1 : most < 0
  · exact c_kapartA many most w hmany h1
  by_cases h2 : most = 0
  · exact c_kapartZ many most w hmany h2
  by_cases h3 : 1024 < most
  · exact c_kapartC many most w hmany h3
  · exact c_kapartB many most most.toNat w hmany (by omega) (by omega) (by omega)
end Go.Proofs.Ytlfhbnajopekpaa
