/- The document's answer for layer 10: whether a token can be, its bytes, whether two are one. No condition. -/
import Derived.Test.YtlfhbnajopekpaaRf2
import Derived.Test.YtlfhbnajopekpaaBun2
namespace Go.Proofs.Ytlfhbnajopekpaa
open Go.RowKit
attribute [local go_sem ↓] ld16 ld17 ld32 ld36
attribute [local go_sem] run_ldAgg run_storeAgg agg_alloc_at agg_alloc_past agg_drew agg_setCell row_alloc_at row_alloc_past row_drew setRow_alloc_at setRow_alloc_past setRow_drew agg_setRow_at agg_setRow_far cell_setRow_at cell_setRow_far row_setRow_far size_setRow tgC_size tgC_one tgC_part tgC_splice tokC_size tokC_0 tokC_1 tokC_2 tokC_3 tokC_g0 tokC_g1 tokC_g2 tokC_g3 tokC_part tokC_tag tokC_set0 tokC_set1 tokC_set2 tokC_set3 tokC_splice tokC_splice0 tgC_splice_any zero_tg zero_tok tokC_all tokC_ne tgC_ne

set_option maxRecDepth 100000 in
theorem c_rcan (x : Cav) (w : World) : Calls Try.prog 71 #[cavV x] w fun e w' => e = .returned (.bool (canC x)) ∧ Below w.heap.size w w' := by
  cases h3 : x.third with
  | true =>
    unfold cavV
    rw [h3]
    have H3 := hide h3
    clear h3
    go_enter Try.func71, Try.ntmps71
    go_wp2_with fail
    all_goals go_ret
    all_goals refine ⟨congrArg (fun b => Ending.returned (.bool b)) (?_ : _ = canC x), below1 _ _⟩
    all_goals simp_all [canC, H3.out, ← nil_iff]
    all_goals first | omega | (rw [Bool.eq_iff_iff]; simp; omega)
  | false =>
    unfold cavV
    rw [h3]
    have H3 := hide h3
    clear h3
    go_enter Try.func71, Try.ntmps71
    go_wp2_with fail
    all_goals go_ret
    all_goals refine ⟨congrArg (fun b => Ending.returned (.bool b)) (?_ : _ = canC x), below1 _ _⟩
    all_goals simp_all [canC, H3.out, ← nil_iff, cav_mk]
    all_goals first | omega | (rw [Bool.eq_iff_iff]; simp; omega)

set_option maxRecDepth 100000 in
set_option maxHeartbeats 400000 in
theorem c_rcheck (t : Tok) (A : Option Addr) (n c : Nat) (ok : Nat → Prop) (w : World) (hR : kCav.Row ok w A n c t.cavs) :
    Calls Try.prog 39 #[tokV t A n c] w fun e w' => e = .returned (.bool (checkT t)) ∧ Below w.heap.size w w' := by
  have HL := hide hR.1
  have hm : n ≤ 9223372036854775807 := Nat.le_trans hR.2.1 hR.2.2.1
  have HR := hide hR
  clear hR
  by_cases h1 : 1024 < t.id.size
  · have HC : Hid (checkT t = false) := hide (by simp [checkT]; omega)
    go_enter Try.func39, Try.ntmps39
    go_wp2_with fail
    go_ret
    exact ⟨by rw [HC.out]; rfl, below1 _ _⟩
  · by_cases h2 : 64 < n
    · have HC : Hid (checkT t = false) := hide (by have := HL.out; simp [checkT]; omega)
      go_enter Try.func39, Try.ntmps39
      go_wp2_with fail
      go_ret
      exact ⟨by rw [HC.out]; rfl, below1 _ _⟩
    · have HC : Hid (checkT t = t.cavs.all canC) := hide (by have := HL.out; simp [checkT]; omega)
      go_enter Try.func39, Try.ntmps39
      go_wp2_with fail
      go_loopw [18] (fun i wr => ∃ k : Nat, k ≤ n ∧ i = .int .i64 (k : Int) ∧ Hid ((t.cavs.take k).all canC = true) ∧ Hid (Below w.heap.size w wr)) (fun i _ => n - (intOf i).toNat)
      case atStart => exact ⟨0, Nat.zero_le _, rfl, hide rfl, hide (below1 _ _)⟩
      case round =>
        obtain ⟨k, hk, rfl, HA, HB⟩ := hrel
        by_cases hlt : k < n
        · obtain ⟨x, hx⟩ : ∃ x, t.cavs[k]? = some x := ⟨_, List.getElem?_eq_getElem (by have := HL.out; omega)⟩
          obtain ⟨b, q, cs, hix, -, hbl, hK, hra⟩ := (HR.out.below HB.out).index (P := Try.prog) Try.underlying57 (E := 85) cav_size hx
          have hKe := hK.1
          subst hKe
          have a0 := hra 0 _ rfl
          have a1 := hra 1 _ rfl
          have a2 := hra 2 _ rfl
          have a3 := hra 3 _ rfl
          have a4 := hra 4 _ rfl
          simp only [Nat.add_zero] at a0
          have HX := hide hx
          have hsb := HB.out.size
          clear hx hK hra
          go_wp2_with fail
          refine (c_rcan x _).mono ?_
          rintro e w1 ⟨rfl, b1⟩
          have HB1 := hide (HB.out.trans ((bnext (below1 wr _) b1).mono hsb))
          clear b1
          cases hc : canC x with
          | true =>
            have HA1 : Hid ((t.cavs.take (k + 1)).all canC = true) := hide (by rw [List.take_add_one, HX.out, List.all_append, HA.out]; simp [hc])
            clear hc
            go_wp2_with fail
            go_roundw
            case rel => exact ⟨k + 1, by omega, by simp, HA1, HB1⟩
            case measure => simp [intOf]; omega
          | false =>
            have HA1 : Hid (t.cavs.all canC = false) := hide (by
              rw [List.all_eq_false]
              exact ⟨x, List.mem_of_getElem? HX.out, by simp [hc]⟩)
            clear hc
            go_wp2_with fail
            go_ret
            exact ⟨by rw [HC.out, HA1.out]; rfl, HB1.out⟩
        · obtain rfl : k = n := by omega
          have HA1 : Hid (t.cavs.all canC = true) := hide (by
            have := HA.out
            rwa [List.take_of_length_le (Nat.le_of_eq HL.out)] at this)
          go_wp2_with fail
          go_ret
          exact ⟨by rw [HC.out, HA1.out]; rfl, HB.out⟩

set_option maxRecDepth 100000 in
theorem c_rnum (x : Nat) (i : Int) (w : World) (hi : i = (x : Int)) (hx : x < 18446744073709551616) :
    Calls Try.prog 75 #[.int .u64 i] w fun e w' => e = .returned (.string (txt (vput x))) ∧ Below w.heap.size w w' := by
  subst hi
  have HX := hide hx
  clear hx
  go_enter Try.func75, Try.ntmps75
  go_wp2_with fail
  refine (c_r8bytes 9 x _ _ rfl (by have := HX.out; omega) HX.out).mono ?_
  rintro e w1 ⟨v, rfl, ho, hb⟩
  obtain ⟨A, c, rfl, hr⟩ := ho.row
  have hs := row_string (P := Try.prog) Try.underlying60 Try.underlying5 Try.underlying9 hr
  have HB := hide hb
  clear ho hr hb
  go_wp2_with fail
  go_ret
  exact ⟨rfl, HB.out⟩

theorem tg_neq (w : World) (t u : Tg) : (binOp .neq 44 (tgV t) (tgV u)).run Try.prog w = .ok (.bool (!decide (t = u))) w := by
  have h := tg_eql w t u
  unfold tgV at h ⊢
  rw [run_eql_struct] at h
  rw [run_neq_struct]
  cases hq : (Op.equalIn 10000 44 (.agg (tgC t)) (.agg (tgC u))).run Try.prog w with
  | ok b w' =>
    rw [hq] at h
    simp only [Result.andThen_ok, Result.ok.injEq, Value.bool.injEq] at h ⊢
    exact ⟨by rw [h.1], h.2⟩
  | _ => rw [hq] at h; cases h
theorem cav_neq_any (x y : Cav) (wx : World) : (binOp .neq 85 (cavV x) (cavV y)).run Try.prog wx = .ok (.bool (!decide (x = y))) wx := by
  have h := cav_eql x y wx
  unfold cavV at h ⊢
  rw [run_eql_struct] at h
  rw [run_neq_struct]
  cases hq : (Op.equalIn 10000 85 (.agg #[.bool x.third, .string x.text, .int .u64 (x.party : Int), .string x.id, .string x.vault]) (.agg #[.bool y.third, .string y.text, .int .u64 (y.party : Int), .string y.id, .string y.vault])).run Try.prog wx with
  | ok b w' =>
    rw [hq] at h
    simp only [Result.andThen_ok, Result.ok.injEq, Value.bool.injEq] at h ⊢
    exact ⟨by rw [h.1], h.2⟩
  | _ => rw [hq] at h; cases h
end Go.Proofs.Ytlfhbnajopekpaa
