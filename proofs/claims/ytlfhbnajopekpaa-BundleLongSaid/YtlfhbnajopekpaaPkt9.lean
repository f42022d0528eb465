/- The walks of layer 10's statements. No condition. -/
import Derived.Test.YtlfhbnajopekpaaPktL
namespace Go.Proofs.Ytlfhbnajopekpaa
open Go.RowKit
attribute [local go_sem ↓] ld16 ld17 ld32 ld36
attribute [local go_sem] run_ldAgg run_storeAgg agg_alloc_at agg_alloc_past agg_drew agg_setCell row_alloc_at row_alloc_past row_drew setRow_alloc_at setRow_alloc_past setRow_drew agg_setRow_at agg_setRow_far cell_setRow_at cell_setRow_far row_setRow_far size_setRow tgC_size tgC_one tgC_part tgC_splice tokC_size tokC_0 tokC_1 tokC_2 tokC_3 tokC_g0 tokC_g1 tokC_g2 tokC_g3 tokC_part tokC_tag tokC_set0 tokC_set1 tokC_set2 tokC_set3 tokC_splice tokC_splice0 tgC_splice_any zero_tg zero_tok tokC_all tokC_ne tgC_ne

def Greated (w : World) (e : Ending) (w' : World) : Prop := ∃ b : Bool, e = .returned (.int .i64 (if b then 1 else 0)) ∧ Below w.heap.size w w'
set_option maxRecDepth 100000 in
set_option maxHeartbeats 400000 in
theorem c_great (t : Tok) (A : Option Addr) (n c : Nat) (ok : Nat → Prop) (w : World) (hR : kCav.Row ok w A n c t.cavs) :
    Calls Try.prog 29 #[tokV t A n c] w (Greated w) := by
  have HL := hide hR.1
  have hm : n ≤ 9223372036854775807 := Nat.le_trans hR.2.1 hR.2.2.1
  have HR := hide hR
  clear hR
  go_enter Try.func29, Try.ntmps29
  go_wp2_with fail
  go_loopw [12, 3] (fun i p wr => ∃ (k : Nat) (m : Int), k ≤ n ∧ i = .int .i64 (k : Int) ∧ p = .int .i64 m ∧ Hid (Below w.heap.size w wr)) (fun i _ _ => n - (intOf i).toNat)
  case atStart => exact ⟨0, _, Nat.zero_le _, rfl, rfl, hide (below1 _ _)⟩
  case round =>
    obtain ⟨k, m, hk, rfl, rfl, HB⟩ := hrel
    by_cases hlt : k < n
    · obtain ⟨x, hx⟩ : ∃ x, t.cavs[k]? = some x := ⟨_, List.getElem?_eq_getElem (by have := HL.out; omega)⟩
      obtain ⟨b, q, csx, hix, -, hbl, hK, hra⟩ := (HR.out.below HB.out).index (P := Try.prog) Try.underlying57 (E := 85) cav_size hx
      have hKe := hK.1
      subst hKe
      have a0 := hra 0 _ rfl
      have a1 := hra 1 _ rfl
      have a2 := hra 2 _ rfl
      have a3 := hra 3 _ rfl
      have a4 := hra 4 _ rfl
      simp only [Nat.add_zero] at a0
      have hsb := HB.out.size
      clear hx hK hra
      go_wp2_with fail
      · go_ret
        exact ⟨true, rfl, HB.out.alloc hsb _⟩
      · go_roundw
        case rel => exact ⟨k + 1, _, by omega, by simp, rfl, hide (HB.out.alloc hsb _)⟩
        case measure => simp [intOf]; omega
    · obtain rfl : k = n := by omega
      by_cases h1 : 10000 < m
      · go_wp2_with fail
        go_ret
        exact ⟨true, rfl, HB.out⟩
      · go_wp2_with fail
        go_ret
        exact ⟨false, rfl, HB.out⟩
theorem enc_zero : (enc Tok.zero).length = 42 := by
  have h0 : vput 0 = [0] := by rw [vput_lt (by decide)]; rfl
  have h1 : vput 1 = [1] := by rw [vput_lt (by decide)]; rfl
  have h32 : vput 32 = [32] := by rw [vput_lt (by decide)]; rfl
  simp [enc, encFlds, Tok.zero, fjoin, fput, h0, h1, h32, flagB, b0, Tg.zero, ByteArray.size]
set_option maxRecDepth 100000 in
set_option maxHeartbeats 400000 in
theorem c_palive (w : World) : Calls Try.prog 28 #[] w fun e w' => e = .returned (.bool true) ∧ Below w.heap.size w w' := by
  go_enter Try.func28, Try.ntmps28
  go_wp2_with fail
  refine (c_encode Tok.zero none 0 0 (fun _ => True) w (.nil _ _ _ _ _ (Nat.zero_le _)) (by decide)).mono ?_
  rintro e w1 ⟨v, rfl, ho, hb⟩
  have hck : checkT Tok.zero = true := by decide
  rw [hck, if_pos rfl] at ho
  rw [hck]
  obtain ⟨A1, c1, rfl, hr⟩ := ho.row
  rw [enc_zero] at hr
  have HR := hide hr
  have HB := hide hb
  clear ho hb hr hck
  simp only [errV, enc_zero]
  go_wp2_with fail
  refine (c_decode A1 42 c1 (enc Tok.zero) _ w1 HR.out (by decide)).mono ?_
  rintro e w2 ⟨A2, n2, c2, rfl, ho, hb⟩
  have hpd : pdec (enc Tok.zero) = some Tok.zero := pdec_enc (by decide) ⟨by decide, by simp [Tok.zero]⟩
  rw [hpd] at ho ⊢
  have HO := hide ho
  have HB2 := hide (HB.out.trans (hb.mono HB.out.size))
  clear ho hb hpd
  simp only [Option.getD_some, Option.isSome_some, if_true]
  go_wp2_with fail
  refine (c_psame Tok.zero Tok.zero A2 none n2 c2 0 0 _ (fun _ => True) _ ((own_row_of HO.out).alloc _) (.nil _ _ _ _ _ (Nat.zero_le _))).mono ?_
  rintro e w3 ⟨rfl, hb⟩
  have HB3 := hide (HB2.out.trans (((below1 w2 _).mono HB2.out.size).trans (hb.mono (by have := HB2.out.size; simp; omega))))
  clear hb
  simp only [decide_true]
  go_wp2_with fail
  go_ret
  exact ⟨rfl, HB3.out⟩
end Go.Proofs.Ytlfhbnajopekpaa
