/- The walk of the statement PacketTells. No condition. -/
import Derived.Test.YtlfhbnajopekpaaPk11
namespace Go.Proofs.Ytlfhbnajopekpaa
open Go.RowKit
attribute [local go_sem ↓] ld16 ld17 ld32 ld36
attribute [local go_sem] run_ldAgg run_storeAgg agg_alloc_at agg_alloc_past agg_drew agg_setCell row_alloc_at row_alloc_past row_drew setRow_alloc_at setRow_alloc_past setRow_drew agg_setRow_at agg_setRow_far cell_setRow_at cell_setRow_far row_setRow_far size_setRow tgC_size tgC_one tgC_part tgC_splice tokC_size tokC_0 tokC_1 tokC_2 tokC_3 tokC_g0 tokC_g1 tokC_g2 tokC_g3 tokC_part tokC_tag tokC_set0 tokC_set1 tokC_set2 tokC_set3 tokC_splice tokC_splice0 tgC_splice_any zero_tg zero_tok tokC_all tokC_ne tgC_ne

theorem needs_direct {ops : Array Oper} {i j : Nat} (h : ((ops[i]?).map fun o => o.after.toList.any fun e => Region.binds .any e && e.on == j) = some true) : (needs ops ops.size i).contains j = true := by
  cases ho : ops[i]? with
  | none => rw [ho] at h; cases h
  | some o =>
    rw [ho] at h
    simp only [Option.map_some, Option.some.injEq, List.any_eq_true, Bool.and_eq_true, beq_iff_eq] at h
    obtain ⟨e, he, h1, h2⟩ := h
    have hi : i < ops.size := (Array.getElem?_eq_some_iff.1 ho).1
    obtain ⟨f, hf⟩ : ∃ f, ops.size = f + 1 := ⟨ops.size - 1, by omega⟩
    rw [hf, needs, ho]
    simp only [List.contains_iff_mem, List.mem_flatMap, List.mem_filter]
    exact ⟨e, ⟨he, h1⟩, by simp [h2]⟩
theorem opt_undef {o : Option Value} (h : o.getD undef = undef) : o = none ∨ o = some undef := by
  cases o with
  | none => exact .inl rfl
  | some v => exact .inr (by simpa using h)
theorem caveat_len {x : Cav} (h : x.text.size + x.id.size + x.vault.size ≤ 10000) (hp : x.party < 18446744073709551616) : (fjoin (cavFlds x)).length ≤ 1099511627776 ∧ ∀ f ∈ cavFlds x, f.value.size ≤ 1099511627776 := by
  have hv := vput_len10 hp
  unfold cavFlds
  split
  · have e1 := fput_len ⟨4, txt (vput x.party)⟩ (by simp only [txt_size]; omega)
    have e2 := fput_len ⟨5, x.id⟩ (by simp only; omega)
    have e3 := fput_len ⟨6, x.vault⟩ (by simp only; omega)
    simp only [txt_size] at e1
    simp only [fjoin, List.flatMap_cons, List.flatMap_nil, List.length_append, List.length_nil] at *
    refine ⟨by omega, fun f hf => ?_⟩
    simp only [List.mem_cons, List.not_mem_nil, or_false] at hf
    rcases hf with rfl | rfl | rfl
    · simp only [txt_size]; omega
    · simp only; omega
    · simp only; omega
  · have e1 := fput_len ⟨3, x.text⟩ (by simp only; omega)
    simp only [fjoin, List.flatMap_cons, List.flatMap_nil, List.length_append, List.length_nil] at *
    refine ⟨by omega, fun f hf => ?_⟩
    simp only [List.mem_singleton] at hf
    subst hf
    simp only; omega
set_option maxRecDepth 100000 in
set_option maxHeartbeats 2500000 in
theorem c_tells_tt (t u : Tok) (A B C : Option Addr) (n c m d k e : Nat) (xs : List UInt8) (ok : Nat → Prop) (w : World) (hR : kCav.Row ok w A n c t.cavs) (hS : kCav.Row ok w B m d u.cavs) (hX : kU8.Row ok w C k e xs) (ht : t.ok)
    (hti : t.id.size ≤ 140737488355328) (htf : ∀ c ∈ t.cavs, c.fits) (hui : u.id.size ≤ 140737488355328) (huf : ∀ c ∈ u.cavs, c.fits) (hct : checkT t = true) (hsb : (pdec xs).isSome = true) :
    Calls Try.prog 8 #[tokV t A n c, tokV u B m d, .slice C k e] w fun e w' => e = .returned (.bool true) ∧ Below w.heap.size w w' := by
  have HR := hide hR
  have HS := hide hS
  have HX := hide hX
  have HT := hide ht
  have HL := hide hR.1
  have HP := hide (row_party hR)
  have hke : k ≤ 9223372036854775807 := Nat.le_trans hX.2.1 hX.2.2.1
  have HTI := hide hti
  have HTF := hide htf
  have HUI := hide hui
  have HUF := hide huf
  have HCT := hide hct
  have HSB := hide hsb.symm
  clear hct hsb
  clear hR hS hX ht hti htf hui huf
  go_enter Try.func8, Try.ntmps8
  go_wp2_with fail
  refine (c_palive _).mono ?_
  rintro x w1 ⟨rfl, b1⟩
  have HB1 := hide (bnext (below2 _ _ _) b1)
  have hT1 : TokIn w1 w.heap.size t A n c := (b1.block _ (by simp; omega)).trans ((Below.heap_alloc _ _ _ (by simp)).trans (heap_alloc_new _ _))
  have hU1 : TokIn w1 (w.heap.size + 1) u B m d := (b1.block _ (by simp)).trans (heap_new2 _ _ _)
  have HT1 := hide hT1
  have HU1 := hide hU1
  have ha := hT1.agg
  clear b1 hT1 hU1
  go_wp2_with fail
  refine (c_great2 t A n c ok w1 (HR.out.below HB1.out) HTI.out HTF.out).mono ?_
  rintro x w2 ⟨rfl, b2⟩
  have HB2 := hide (bnext HB1.out b2)
  have HT2 := hide (HT1.out.below b2)
  have HU2 := hide (HU1.out.below b2)
  have ha2 := HU2.out.agg
  clear b2 ha
  cases hgt : great t with
  | true =>
    simp only [greatV, if_true]
    go_wp2_with fail
    go_ret
    exact ⟨rfl, HB2.out⟩
  | false =>
    have HGT : Hid (t.id.size + gsum t.cavs ≤ 10000) := hide (by have := of_decide_eq_false hgt; omega)
    have hn5 : n ≤ 10000 := by have := HGT.out; have := gsum_len t.cavs; have := HL.out; omega
    clear hgt
    simp only [greatV, Bool.false_eq_true, if_false]
    go_wp2_with fail
    refine (c_great2 u B m d ok w2 (HS.out.below HB2.out) HUI.out HUF.out).mono ?_
    rintro x w3 ⟨rfl, b3⟩
    have HB3 := hide (bnext HB2.out b3)
    have HT3 := hide (HT2.out.below b3)
    have HU3 := hide (HU2.out.below b3)
    have ha3 := HT3.out.agg
    clear b3 ha2
    cases hgu : great u with
    | true =>
      simp only [greatV, if_true]
      go_wp2_with fail
      go_ret
      exact ⟨rfl, HB3.out⟩
    | false =>
      clear hgu
      simp only [greatV, Bool.false_eq_true, if_false]
      by_cases hk : 10000 < k
      · go_wp2_with fail
        go_ret
        exact ⟨rfl, HB3.out⟩
      · have hk' : k ≤ 10000 := by omega
        clear hk
        go_wp2_with fail
        refine (c_rcheck t A n c ok w3 (HR.out.below HB3.out)).mono ?_
        rintro x w4 ⟨rfl, b4⟩
        have HB4 := hide (bnext HB3.out b4)
        have HT4 := hide (HT3.out.below b4)
        have HU4 := hide (HU3.out.below b4)
        have ha4 := HT4.out.agg
        clear b4 ha3
        go_wp2_with fail
        refine (c_encode t A n c ok w4 (HR.out.below HB4.out) HT.out.1).mono ?_
        rintro x w5 ⟨v5, rfl, ho5, b5⟩
        have HB5 := hide (bnext HB4.out b5)
        have HT5 := hide (HT4.out.below b5)
        have HU5 := hide (HU4.out.below b5)
        clear b5 ha4
        rw [HCT.out, if_pos rfl] at ho5
        rw [HCT.out]
        obtain ⟨A5, c5, rfl, hr5⟩ := ho5.row
        have HX5 := hide hr5
        clear ho5 hr5
        simp only [errV, if_true]
        go_wp2_with fail
        refine wp_region_ext mixed 35 (fun i v w' => match i with
          | 0 => v = tokV t A n c
          | 1 => v = .int .i64 0
          | 2 => v = .bool true
          | 3 => v = .bool true
          | 4 => v = .bool false
          | 5 => v = .bool false
          | 6 => v = tokV t A n c
          | 7 => v = .int .i64 0
          | 8 => v = .int .i64 0
          | 9 => v = .bool false
          | 10 => v = .bool false
          | 11 => v = .bool false
          | 12 => v = .bool true
          | 13 => v = .bool false
          | 14 => v = .bool false
          | 15 => v = undef
          | 16 => v = undef
          | 17 => v = undef
          | 18 => v = undef
          | 19 => v = undef
          | 20 => v = undef
          | 21 => v = undef
          | 22 => v = .bool false
          | 23 => v = .bool false
          | 24 => v = .bool false
          | 25 => v = .bool true
          | 26 => v = .bool true
          | 27 => v = .slice A5 (enc t).length c5
          | 28 => v = .string (txt (enc t))
          | 29 => v = tokV t A n c
          | 30 => ∃ A c, v = .slice A (enc t).length c ∧ kU8.Row (fun _ => True) w' A (enc t).length c (enc t)
          | 31 => v = .string (txt (enc t))
          | 32 => v = .bool false
          | 33 => v = .bool false
          | _ => v = .bool false
          ) (by kernel_rfl) rfl ?_ ?_ ?_
        · intro i v w1 w2 h1 h2
          split at h2 <;> first | exact h2 | (obtain ⟨A, c, e, hr⟩ := h2; exact ⟨A, c, e, hr.below h1⟩)
        · refine ⟨fun a w2 hle hd hf hs K hK => ?_, fun a w2 hle hd hf hs K hK => ?_, fun a w2 hle hd hf hs K hK => ?_, fun a w2 hle hd hf hs K hK => ?_, fun a w2 hle hd hf hs K hK => ?_, fun a w2 hle hd hf hs K hK => ?_, fun a w2 hle hd hf hs K hK => ?_, fun a w2 hle hd hf hs K hK => ?_, fun a w2 hle hd hf hs K hK => ?_, fun a w2 hle hd hf hs K hK => ?_, fun a w2 hle hd hf hs K hK => ?_, fun a w2 hle hd hf hs K hK => ?_, fun a w2 hle hd hf hs K hK => ?_, fun a w2 hle hd hf hs K hK => ?_, fun a w2 hle hd hf hs K hK => ?_, fun a w2 hle hd hf hs K hK => ?_, fun a w2 hle hd hf hs K hK => ?_, fun a w2 hle hd hf hs K hK => ?_, fun a w2 hle hd hf hs K hK => ?_, fun a w2 hle hd hf hs K hK => ?_, fun a w2 hle hd hf hs K hK => ?_, fun a w2 hle hd hf hs K hK => ?_, fun a w2 hle hd hf hs K hK => ?_, fun a w2 hle hd hf hs K hK => ?_, fun a w2 hle hd hf hs K hK => ?_, fun a w2 hle hd hf hs K hK => ?_, fun a w2 hle hd hf hs K hK => ?_, fun a w2 hle hd hf hs K hK => ?_, fun a w2 hle hd hf hs K hK => ?_, fun a w2 hle hd hf hs K hK => ?_, fun a w2 hle hd hf hs K hK => ?_, fun a w2 hle hd hf hs K hK => ?_, fun a w2 hle hd hf hs K hK => ?_, fun a w2 hle hd hf hs K hK => ?_, fun a w2 hle hd hf hs K hK => ?_, trivial⟩
          all_goals clear hd
          · -- 38 := Op.load 59 t3
            have e3 := hf 3 rfl; simp [Act.eval] at e3
            have hq := (HT5.out.below hle).agg
            go_simp; exact hK _ _ (Ext.refl _) rfl
          · -- 39 := Op.call { value (Operand.func 40), args := #[t38], argTypes := #[59] }
            have e38 := hs 0 38 (needs_direct (by kernel_rfl)) rfl; simp [Act.eval] at e38
            go_simp
            refine (c_check t A n c ok w2 ((HR.out.below HB5.out).below hle)).mono ?_
            rintro e w3 ⟨rfl, b3⟩
            exact hK _ _ b3 (show errV (checkT t) = .int .i64 0 by rw [HCT.out]; rfl)
          · -- 40 := Op.binOp BinOp.eql 40 t39 (const (0:i64)) 40
            have e39 := hs 1 39 (needs_direct (by kernel_rfl)) rfl; simp [Act.eval] at e39
            go_simp; exact hK _ _ (Ext.refl _) rfl
          · -- 41 := Op.move t7
            have e7 := hf 7 rfl; simp [Act.eval] at e7
            go_simp; exact hK _ _ (Ext.refl _) rfl
          · -- 42 := Op.binOp BinOp.neq 4 t40 t41 4
            have e40 := hs 2 40 (needs_direct (by kernel_rfl)) rfl; have e41 := hs 3 41 (needs_direct (by kernel_rfl)) rfl; simp [Act.eval] at e40 e41
            go_simp; exact hK _ _ (Ext.refl _) rfl
          · -- 43 := Op.move t42
            have e42 := hs 4 42 (needs_direct (by kernel_rfl)) rfl; simp [Act.eval] at e42
            go_simp; exact hK _ _ (Ext.refl _) rfl
          · -- 44 := Op.load 59 t3
            have e3 := hf 3 rfl; have gg := hs 5 43 (needs_direct (by kernel_rfl)) rfl; simp [Act.eval] at e3 gg; replace gg := opt_bool gg
            have hq := (HT5.out.below hle).agg
            go_simp; exact hK _ _ (Ext.refl _) rfl
          · -- 45 := Op.call { value (Operand.func 40), args := #[t44], argTypes := #[59] }
            have e44 := hs 6 44 (needs_direct (by kernel_rfl)) rfl; have gg := hs 5 43 (needs_direct (by kernel_rfl)) rfl; simp [Act.eval] at e44 gg; replace gg := opt_bool gg
            go_simp
            refine (c_check t A n c ok w2 ((HR.out.below HB5.out).below hle)).mono ?_
            rintro e w3 ⟨rfl, b3⟩
            exact hK _ _ b3 (show errV (checkT t) = .int .i64 0 by rw [HCT.out]; rfl)
          · -- 46 := Op.move t9
            have e9 := hf 9 rfl; have gg := hs 5 43 (needs_direct (by kernel_rfl)) rfl; simp [Act.eval] at e9 gg; replace gg := opt_bool gg
            go_simp; exact hK _ _ (Ext.refl _) rfl
          · -- 47 := Op.binOp BinOp.neq 40 t45 t46 40
            have e45 := hs 7 45 (needs_direct (by kernel_rfl)) rfl; have e46 := hs 8 46 (needs_direct (by kernel_rfl)) rfl; have gg := hs 5 43 (needs_direct (by kernel_rfl)) rfl; simp [Act.eval] at e45 e46 gg; replace gg := opt_bool gg
            go_simp; exact hK _ _ (Ext.refl _) rfl
          · -- 48 := Op.pick t43 (const (Value.bool true)) t47
            have e43 := hs 5 43 (needs_direct (by kernel_rfl)) rfl; have e47 := hs 9 47 (needs_direct (by kernel_rfl)) rfl; simp [Act.eval] at e43 e47
            go_simp; exact hK _ _ (Ext.refl _) rfl
          · -- 49 := Op.move t48
            have e48 := hs 10 48 (needs_direct (by kernel_rfl)) rfl; simp [Act.eval] at e48
            go_simp; exact hK _ _ (Ext.refl _) rfl
          · -- 50 := Op.move t7
            have e7 := hf 7 rfl; have gg := hs 11 49 (needs_direct (by kernel_rfl)) rfl; simp [Act.eval] at e7 gg; replace gg := opt_bool gg
            go_simp; exact hK _ _ (Ext.refl _) rfl
          · -- 51 := Op.unOp UnOp.not 4 t50
            have e50 := hs 12 50 (needs_direct (by kernel_rfl)) rfl; have gg := hs 11 49 (needs_direct (by kernel_rfl)) rfl; simp [Act.eval] at e50 gg; replace gg := opt_bool gg
            go_simp; exact hK _ _ (Ext.refl _) rfl
          · -- 52 := Op.move t51
            have e51 := hs 13 51 (needs_direct (by kernel_rfl)) rfl; have gg := hs 11 49 (needs_direct (by kernel_rfl)) rfl; simp [Act.eval] at e51 gg; replace gg := opt_bool gg
            go_simp; exact hK _ _ (Ext.refl _) rfl
          · -- 53 := Op.move t9
            have gg := hs 14 52 (needs_direct (by kernel_rfl)) rfl; simp [Act.eval] at gg; replace gg := opt_bool gg
            go_simp; exact hK _ _ (Ext.refl _) rfl
          · -- 54 := Op.binOp BinOp.neq 40 t53 (const (1:i64)) 40
            have gg := hs 14 52 (needs_direct (by kernel_rfl)) rfl; simp [Act.eval] at gg; replace gg := opt_bool gg
            go_simp; exact hK _ _ (Ext.refl _) rfl
          · -- 55 := Op.move t54
            have gg := hs 14 52 (needs_direct (by kernel_rfl)) rfl; simp [Act.eval] at gg; replace gg := opt_bool gg
            go_simp; exact hK _ _ (Ext.refl _) rfl
          · -- 56 := Op.move t8
            have gg := hs 17 55 (needs_direct (by kernel_rfl)) rfl; simp [Act.eval] at gg
            rcases opt_undef gg with gg | gg
            all_goals (go_simp; exact hK _ _ (Ext.refl _) rfl)
          · -- 57 := Op.call { builtin len, args := #[t56], argTypes := #[60] }
            have gg := hs 17 55 (needs_direct (by kernel_rfl)) rfl; simp [Act.eval] at gg
            rcases opt_undef gg with gg | gg
            all_goals (go_simp; exact hK _ _ (Ext.refl _) rfl)
          · -- 58 := Op.binOp BinOp.gtr 3 t57 (const (0:i64)) 3
            have gg := hs 17 55 (needs_direct (by kernel_rfl)) rfl; simp [Act.eval] at gg
            rcases opt_undef gg with gg | gg
            all_goals (go_simp; exact hK _ _ (Ext.refl _) rfl)
          · -- 59 := Op.pick t55 (const (Value.bool true)) t58
            have gg := hs 14 52 (needs_direct (by kernel_rfl)) rfl; simp [Act.eval] at gg; replace gg := opt_bool gg
            go_simp; exact hK _ _ (Ext.refl _) rfl
          · -- 60 := Op.pick t52 t59 (const (Value.bool false))
            have e52 := hs 14 52 (needs_direct (by kernel_rfl)) rfl; have e59 := hs 21 59 (needs_direct (by kernel_rfl)) rfl; have gg := hs 11 49 (needs_direct (by kernel_rfl)) rfl; simp [Act.eval] at e52 e59 gg; replace gg := opt_bool gg
            go_simp; exact hK _ _ (Ext.refl _) rfl
          · -- 61 := Op.pick t49 (const (Value.bool true)) t60
            have e49 := hs 11 49 (needs_direct (by kernel_rfl)) rfl; have e60 := hs 22 60 (needs_direct (by kernel_rfl)) rfl; simp [Act.eval] at e49 e60
            go_simp; exact hK _ _ (Ext.refl _) rfl
          · -- 62 := Op.move t61
            have e61 := hs 23 61 (needs_direct (by kernel_rfl)) rfl; simp [Act.eval] at e61
            go_simp; exact hK _ _ (Ext.refl _) rfl
          · -- 63 := Op.move t7
            have e7 := hf 7 rfl; have gg := hs 24 62 (needs_direct (by kernel_rfl)) rfl; simp [Act.eval] at e7 gg; replace gg := opt_bool gg
            go_simp; exact hK _ _ (Ext.refl _) rfl
          · -- 64 := Op.move t63
            have e63 := hs 25 63 (needs_direct (by kernel_rfl)) rfl; have gg := hs 24 62 (needs_direct (by kernel_rfl)) rfl; simp [Act.eval] at e63 gg; replace gg := opt_bool gg
            go_simp; exact hK _ _ (Ext.refl _) rfl
          · -- 65 := Op.move t8
            have e8 := hf 8 rfl; have gg := hs 26 64 (needs_direct (by kernel_rfl)) rfl; simp [Act.eval] at e8 gg; replace gg := opt_bool gg
            go_simp; exact hK _ _ (Ext.refl _) rfl
          · -- 66 := Op.convert 60 9 t65
            have e65 := hs 27 65 (needs_direct (by kernel_rfl)) rfl; have gg := hs 26 64 (needs_direct (by kernel_rfl)) rfl; simp [Act.eval] at e65 gg; replace gg := opt_bool gg
            have hq := row_string (P := Try.prog) Try.underlying60 Try.underlying5 Try.underlying9 (HX5.out.below hle)
            go_simp; exact hK _ _ (Ext.refl _) rfl
          · -- 67 := Op.load 59 t3
            have e3 := hf 3 rfl; have gg := hs 26 64 (needs_direct (by kernel_rfl)) rfl; simp [Act.eval] at e3 gg; replace gg := opt_bool gg
            have hq := (HT5.out.below hle).agg
            go_simp; exact hK _ _ (Ext.refl _) rfl
          · -- 68 := Op.call { value (Operand.func 41), args := #[t67], argTypes := #[59] }
            have e67 := hs 29 67 (needs_direct (by kernel_rfl)) rfl; have gg := hs 26 64 (needs_direct (by kernel_rfl)) rfl; simp [Act.eval] at e67 gg; replace gg := opt_bool gg
            go_simp
            refine (c_rbytes t A n c ok w2 ((HR.out.below HB5.out).below hle) HCT.out HT.out).mono ?_
            rintro e w3 ⟨v, rfl, ho, hb⟩
            obtain ⟨A3, c3, rfl, hr⟩ := ho.row
            exact hK _ _ hb ⟨A3, c3, rfl, hr.more fun _ _ => trivial⟩
          · -- 69 := Op.convert 60 9 t68
            obtain ⟨A68, c68, e68, hr68⟩ := hs 30 68 (needs_direct (by kernel_rfl)) rfl; have gg := hs 26 64 (needs_direct (by kernel_rfl)) rfl; simp [Act.eval] at e68 gg; replace gg := opt_bool gg
            have hq := row_string (P := Try.prog) Try.underlying60 Try.underlying5 Try.underlying9 hr68
            go_simp; exact hK _ _ (Ext.refl _) rfl
          · -- 70 := Op.binOp BinOp.neq 9 t66 t69 9
            have e66 := hs 28 66 (needs_direct (by kernel_rfl)) rfl; have e69 := hs 31 69 (needs_direct (by kernel_rfl)) rfl; have gg := hs 26 64 (needs_direct (by kernel_rfl)) rfl; simp [Act.eval] at e66 e69 gg; replace gg := opt_bool gg
            go_simp; exact hK _ _ (Ext.refl _) rfl
          · -- 71 := Op.pick t64 t70 (const (Value.bool false))
            have e64 := hs 26 64 (needs_direct (by kernel_rfl)) rfl; have e70 := hs 32 70 (needs_direct (by kernel_rfl)) rfl; have gg := hs 24 62 (needs_direct (by kernel_rfl)) rfl; simp [Act.eval] at e64 e70 gg; replace gg := opt_bool gg
            go_simp; exact hK _ _ (Ext.refl _) rfl
          · -- 72 := Op.pick t62 (const (Value.bool true)) t71
            have e62 := hs 24 62 (needs_direct (by kernel_rfl)) rfl; have e71 := hs 33 71 (needs_direct (by kernel_rfl)) rfl; simp [Act.eval] at e62 e71
            go_simp; exact hK _ _ (Ext.refl _) rfl
        intro vs w8 hle hs
        have v34 := hs 34 (by omega) rfl
        simp only at v34
        clear hs
        have HB8 := hide (HB5.out.trans (hle.mono HB5.out.size))
        have HT8 := hide (HT5.out.below hle)
        have HU8 := hide (HU5.out.below hle)
        clear hle
        simp only [putN, dstAt]
        go_simp
        go_wp2_with fail
        refine (c_decode C k e xs ok w8 (HX.out.below HB8.out) (by omega)).mono ?_
        rintro z w20 ⟨A20, n20, c20, rfl, ho20, b20⟩
        have HB20 := hide (bnext HB8.out b20)
        have HT20 := hide (HT8.out.below b20)
        have HU20 := hide (HU8.out.below b20)
        obtain ⟨y, hy⟩ : ∃ y, y = (pdec xs).getD Tok.zero := ⟨_, rfl⟩
        rw [← hy] at ho20 ⊢
        rw [← HSB.out]
        have HR20 := hide (own_row_of ho20)
        have HYE := hide hy
        clear b20 ho20 hy
        simp only [if_true, Bool.false_eq_true, if_false]
        go_wp2_with fail
        refine (c_rdecode C k e xs ok _ ((HX.out.below HB20.out).below (below1 _ _)) (by omega)).mono ?_
        rintro z w21 ⟨A21, n21, c21, rfl, hr21, b21⟩
        rw [rdec_eq, ← HYE.out] at hr21 ⊢
        rw [← HSB.out]
        have b21' := bnext (below1 w20 _) b21
        have HB21 := hide (bnext HB20.out b21')
        have HT21 := hide (HT20.out.below b21')
        have HU21 := hide (HU20.out.below b21')
        have HR21 := hide hr21
        have HR20' := hide (HR20.out.below b21')
        have hY21 : TokIn w21 w20.heap.size y A20 n20 c20 := (b21.block _ (by simp)).trans (heap_alloc_new _ _)
        have hq21 := hY21.agg
        have hl21 := hY21.lt
        have hlt21 := HT21.out.lt
        have hlu21 := HU21.out.lt
        clear b21 b21' hr21 hY21
        go_wp2_with fail
        refine (c_rsame y y A20 A21 n20 c20 n21 c21 _ _ _ (HR20'.out.below (below1 _ _)) (HR21.out.below (below1 _ _))).mono ?_
        rintro z w22 ⟨rfl, b22⟩
        have b22' := bnext (below1 w21 _) b22
        have HB22 := hide (bnext HB21.out b22')
        have HT22 := hide (HT21.out.below b22')
        have HU22 := hide (HU21.out.below b22')
        have hy2 : w22.cell? ⟨w.heap.size, 2, none⟩ = some (.slice A n c) := (cell_of_row w22 _ _ _ _ _ HT22.out).trans (tokC_2 _ _ _ _ _)
        clear b22 b22'
        simp only [decide_true]
        go_wp2_with fail
        go_loopw [108] (fun i wr => ∃ j : Nat, j ≤ n ∧ i = .int .i64 (j : Int) ∧ Hid (Below w.heap.size w wr) ∧ Hid (TokIn wr w.heap.size t A n c) ∧ Hid (TokIn wr (w.heap.size + 1) u B m d)) (fun i _ => n - (intOf i).toNat)
        case atStart => exact ⟨0, Nat.zero_le _, rfl, HB22, HT22, HU22⟩
        case round =>
          obtain ⟨j, hj, rfl, HB, HTR, HUR⟩ := hrel
          have HRR := hide (HR.out.below HB.out)
          have HSR := hide (HS.out.below HB.out)
          by_cases hlt : j < n
          · obtain ⟨x, hx⟩ : ∃ x, t.cavs[j]? = some x := ⟨_, List.getElem?_eq_getElem (by have := HL.out; omega)⟩
            obtain ⟨b, q, csx, hix, -, hbl, hK, hra⟩ := HRR.out.index (P := Try.prog) Try.underlying57 (E := 85) cav_size hx
            have hKe := hK.1
            have HOK := hide hK.2
            subst hKe
            have a0 := hra 0 _ rfl
            have a1 := hra 1 _ rfl
            have a2 := hra 2 _ rfl
            have a3 := hra 3 _ rfl
            have a4 := hra 4 _ rfl
            simp only [Nat.add_zero] at a0
            have HFX : Hid (x.text.size + x.id.size + x.vault.size ≤ 10000) := hide (by have := gsum_mem t.cavs x (List.mem_of_getElem? hx); have := HGT.out; omega)
            have HCL := hide (caveat_len HFX.out HOK.out.2.1)
            have hsb := HB.out.size
            have hcell : (wr.alloc (.cells #[.bool x.third, .string x.text, .int .u64 (x.party : Int), .string x.id, .string x.vault] 85)).heap[wr.heap.size]? = some (.cells #[.bool x.third, .string x.text, .int .u64 (x.party : Int), .string x.id, .string x.vault] 85) := heap_alloc_new _ _
            have a0' : (wr.alloc (.cells #[.bool x.third, .string x.text, .int .u64 (x.party : Int), .string x.id, .string x.vault] 85)).cell? ⟨wr.heap.size, 0, none⟩ = some (.bool x.third) := (cell_of_row _ _ _ _ _ _ hcell).trans rfl
            have a1' : (wr.alloc (.cells #[.bool x.third, .string x.text, .int .u64 (x.party : Int), .string x.id, .string x.vault] 85)).cell? ⟨wr.heap.size, 1, none⟩ = some (.string x.text) := (cell_of_row _ _ _ _ _ _ hcell).trans rfl
            have a2' : (wr.alloc (.cells #[.bool x.third, .string x.text, .int .u64 (x.party : Int), .string x.id, .string x.vault] 85)).cell? ⟨wr.heap.size, 2, none⟩ = some (.int .u64 (x.party : Int)) := (cell_of_row _ _ _ _ _ _ hcell).trans rfl
            have a3' : (wr.alloc (.cells #[.bool x.third, .string x.text, .int .u64 (x.party : Int), .string x.id, .string x.vault] 85)).cell? ⟨wr.heap.size, 3, none⟩ = some (.string x.id) := (cell_of_row _ _ _ _ _ _ hcell).trans rfl
            have a4' : (wr.alloc (.cells #[.bool x.third, .string x.text, .int .u64 (x.party : Int), .string x.id, .string x.vault] 85)).cell? ⟨wr.heap.size, 4, none⟩ = some (.string x.vault) := (cell_of_row _ _ _ _ _ _ hcell).trans rfl
            clear hx hK hra hcell
            go_wp2_with fail
            refine wp_region_ext mixed 8 (fun i v w' => match i with
              | 0 => v = cavV x
              | 1 => ∃ A c, v = .slice A (fjoin (cavFlds x)).length c ∧ kU8.Row (fun _ => True) w' A (fjoin (cavFlds x)).length c (fjoin (cavFlds x))
              | 2 => v = .string (txt (fjoin (cavFlds x)))
              | 3 => v = cavV x
              | 4 => ∃ A c, v = .slice A (cavFlds x).length c ∧ kFld.Row (fun _ => True) w' A (cavFlds x).length c (cavFlds x)
              | 5 => ∃ A c, v = .slice A (fjoin (cavFlds x)).length c ∧ kU8.Row (fun _ => True) w' A (fjoin (cavFlds x)).length c (fjoin (cavFlds x))
              | 6 => v = .string (txt (fjoin (cavFlds x)))
              | _ => v = .bool false
              ) (by kernel_rfl) rfl ?_ ?_ ?_
            · intro i v w1 w2 h1 h2
              split at h2 <;> first | exact h2 | (obtain ⟨A, c, e, hr⟩ := h2; exact ⟨A, c, e, hr.below h1⟩)
            · refine ⟨fun a w2 hle hd hf hs K hK => ?_, fun a w2 hle hd hf hs K hK => ?_, fun a w2 hle hd hf hs K hK => ?_, fun a w2 hle hd hf hs K hK => ?_, fun a w2 hle hd hf hs K hK => ?_, fun a w2 hle hd hf hs K hK => ?_, fun a w2 hle hd hf hs K hK => ?_, fun a w2 hle hd hf hs K hK => ?_, trivial⟩
              all_goals clear hd
              · -- 112 := Op.load 85 t15
                have e15 := hf 15 rfl; simp [Act.eval] at e15
                have q0 := hle.cell a0'
                have q1 := hle.cell a1'
                have q2 := hle.cell a2'
                have q3 := hle.cell a3'
                have q4 := hle.cell a4'
                go_simp; exact hK _ _ (Ext.refl _) rfl
              · -- 113 := Op.call { value (Operand.func 43), args := #[t112], argTypes := #[85] }
                have e112 := hs 0 112 (by kernel_rfl) rfl; simp [Act.eval] at e112
                go_simp
                refine (c_caveat x w2 (by have := HFX.out; omega) HOK.out.2.1 (by have := HFX.out; omega) (by have := HFX.out; omega)).mono ?_
                rintro e w3 ⟨v, rfl, ho, hb⟩
                obtain ⟨A3, c3, rfl, hr⟩ := ho.row
                exact hK _ _ hb ⟨A3, c3, rfl, hr.more fun _ _ => trivial⟩
              · -- 114 := Op.convert 60 9 t113
                obtain ⟨A113, c113, e113, hr113⟩ := hs 1 113 (by kernel_rfl) rfl; simp [Act.eval] at e113
                have hq := row_string (P := Try.prog) Try.underlying60 Try.underlying5 Try.underlying9 hr113
                go_simp; exact hK _ _ (Ext.refl _) rfl
              · -- 115 := Op.load 85 t15
                have e15 := hf 15 rfl; simp [Act.eval] at e15
                have q0 := hle.cell a0'
                have q1 := hle.cell a1'
                have q2 := hle.cell a2'
                have q3 := hle.cell a3'
                have q4 := hle.cell a4'
                go_simp; exact hK _ _ (Ext.refl _) rfl
              · -- 116 := Op.call { value (Operand.func 45), args := #[t115], argTypes := #[85] }
                have e115 := hs 3 115 (by kernel_rfl) rfl; simp [Act.eval] at e115
                go_simp
                refine (c_rcav x w2 HOK.out.2.1 HOK.out.1 HOK.out.2.2.1 HOK.out.2.2.2).mono ?_
                rintro e w3 ⟨⟨A3, n3, c3, rfl, hr⟩, hb⟩
                obtain rfl := hr.1
                exact hK _ _ hb ⟨A3, c3, rfl, hr⟩
              · -- 117 := Op.call { value (Operand.func 44), args := #[t116], argTypes := #[88] }
                obtain ⟨A116, c116, e116, hr116⟩ := hs 4 116 (by kernel_rfl) rfl; simp [Act.eval] at e116
                go_simp
                refine (c_rjoin A116 _ c116 (cavFlds x) _ w2 hr116 HCL.out.1 HCL.out.2).mono ?_
                rintro e w3 ⟨v, rfl, ho, hb⟩
                obtain ⟨A3, c3, rfl, hr⟩ := ho.row
                exact hK _ _ hb ⟨A3, c3, rfl, hr.more fun _ _ => trivial⟩
              · -- 118 := Op.convert 60 9 t117
                obtain ⟨A117, c117, e117, hr117⟩ := hs 5 117 (by kernel_rfl) rfl; simp [Act.eval] at e117
                have hq := row_string (P := Try.prog) Try.underlying60 Try.underlying5 Try.underlying9 hr117
                go_simp; exact hK _ _ (Ext.refl _) rfl
              · -- 119 := Op.binOp BinOp.neq 9 t114 t118 9
                have e114 := hs 2 114 (by kernel_rfl) rfl; have e118 := hs 6 118 (by kernel_rfl) rfl; simp [Act.eval] at e114 e118
                go_simp; exact hK _ _ (Ext.refl _) rfl
            intro vs w8 hle hs
            have v7 := hs 7 (by omega) rfl
            simp only at v7
            clear hs

            have hle2 := bnext (below1 wr _) hle
            have HBN := hide (HB.out.trans (hle2.mono hsb))
            have HTN := hide (HTR.out.below hle2)
            have HUN := hide (HUR.out.below hle2)
            clear hle hle2
            simp only [putN, dstAt]
            go_simp
            go_wp2_with fail
            go_roundw
            case rel => exact ⟨j + 1, by omega, by simp, HBN, HTN, HUN⟩
            case measure => simp [intOf]; omega
          · obtain rfl : n = j := by omega
            go_wp2_with fail
            refine wp_region_ext mixed 12 (fun i v w' => match i with
              | 0 => v = tokV t A n c
              | 1 => v = tokV u B m d
              | 2 => v = .bool (decide (t = u))
              | 3 => v = tokV t A n c
              | 4 => v = tokV u B m d
              | 5 => v = .bool (decide (t = u))
              | 6 => v = .bool true
              | 7 => v = .bool true
              | 8 => v = tokV t A n c
              | 9 => ∃ A c, v = tokV t A n c ∧ kCav.Row (fun _ => True) w' A n c t.cavs
              | 10 => v = tokV t A n c
              | _ => v = .bool true
              ) (by kernel_rfl) rfl ?_ ?_ ?_
            · intro i v w1 w2 h1 h2
              split at h2 <;> first | exact h2 | (obtain ⟨A, c, e, hr⟩ := h2; exact ⟨A, c, e, hr.below h1⟩)
            · refine ⟨fun a w2 hle hd hf hs K hK => ?_, fun a w2 hle hd hf hs K hK => ?_, fun a w2 hle hd hf hs K hK => ?_, fun a w2 hle hd hf hs K hK => ?_, fun a w2 hle hd hf hs K hK => ?_, fun a w2 hle hd hf hs K hK => ?_, fun a w2 hle hd hf hs K hK => ?_, fun a w2 hle hd hf hs K hK => ?_, fun a w2 hle hd hf hs K hK => ?_, fun a w2 hle hd hf hs K hK => ?_, fun a w2 hle hd hf hs K hK => ?_, fun a w2 hle hd hf hs K hK => ?_, trivial⟩
              all_goals clear hd
              · -- 121 := Op.load 59 t3
                have e3 := hf 3 rfl; simp [Act.eval] at e3
                have hq := (HTR.out.below hle).agg
                go_simp; exact hK _ _ (Ext.refl _) rfl
              · -- 122 := Op.load 59 t4
                have e4 := hf 4 rfl; simp [Act.eval] at e4
                have hq := (HUR.out.below hle).agg
                go_simp; exact hK _ _ (Ext.refl _) rfl
              · -- 123 := Op.call { value (Operand.func 32), args := #[t121, t122], argTypes := #[59, 59] }
                have e121 := hs 0 121 (by kernel_rfl) rfl; have e122 := hs 1 122 (by kernel_rfl) rfl; simp [Act.eval] at e121 e122
                go_simp
                refine (c_psame t u A B n c m d ok ok w2 (HRR.out.below hle) (HSR.out.below hle)).mono ?_
                rintro e w3 ⟨rfl, b3⟩
                exact hK _ _ b3 rfl
              · -- 124 := Op.load 59 t3
                have e3 := hf 3 rfl; simp [Act.eval] at e3
                have hq := (HTR.out.below hle).agg
                go_simp; exact hK _ _ (Ext.refl _) rfl
              · -- 125 := Op.load 59 t4
                have e4 := hf 4 rfl; simp [Act.eval] at e4
                have hq := (HUR.out.below hle).agg
                go_simp; exact hK _ _ (Ext.refl _) rfl
              · -- 126 := Op.call { value (Operand.func 38), args := #[t124, t125], argTypes := #[59, 59] }
                have e124 := hs 3 124 (by kernel_rfl) rfl; have e125 := hs 4 125 (by kernel_rfl) rfl; simp [Act.eval] at e124 e125
                go_simp
                refine (c_rsame t u A B n c m d ok ok w2 (HRR.out.below hle) (HSR.out.below hle)).mono ?_
                rintro e w3 ⟨rfl, b3⟩
                exact hK _ _ b3 rfl
              · -- 127 := Op.binOp BinOp.eql 4 t123 t126 4
                have e123 := hs 2 123 (by kernel_rfl) rfl; have e126 := hs 5 126 (by kernel_rfl) rfl; simp [Act.eval] at e123 e126
                go_simp; exact hK _ _ (Ext.refl _) (by simp)
              · -- 128 := Op.move t127
                have e127 := hs 6 127 (by kernel_rfl) rfl; simp [Act.eval] at e127
                go_simp; exact hK _ _ (Ext.refl _) rfl
              · -- 129 := Op.load 59 t3
                have e3 := hf 3 rfl; have gg := hs 7 128 (by kernel_rfl) rfl; simp [Act.eval] at e3 gg; replace gg := opt_bool gg
                have hq := (HTR.out.below hle).agg
                go_simp; exact hK _ _ (Ext.refl _) rfl
              · -- 130 := Op.call { value (Operand.func 46), args := #[t129], argTypes := #[59] }
                have e129 := hs 8 129 (by kernel_rfl) rfl; have gg := hs 7 128 (by kernel_rfl) rfl; simp [Act.eval] at e129 gg; replace gg := opt_bool gg
                go_simp
                refine (c_pclone t A n c ok w2 (HRR.out.below hle) (by omega)).mono ?_
                rintro e w3 ⟨A3, c3, rfl, hr, hb⟩
                exact hK _ _ hb ⟨A3, c3, rfl, hr.more fun _ _ => trivial⟩
              · -- 131 := Op.load 59 t3
                have e3 := hf 3 rfl; have gg := hs 7 128 (by kernel_rfl) rfl; simp [Act.eval] at e3 gg; replace gg := opt_bool gg
                have hq := (HTR.out.below hle).agg
                go_simp; exact hK _ _ (Ext.refl _) rfl
              · -- 132 := Op.call { value (Operand.func 32), args := #[t130, t131], argTypes := #[59, 59] }
                obtain ⟨A130, c130, e130, hr130⟩ := hs 9 130 (by kernel_rfl) rfl; have e131 := hs 10 131 (by kernel_rfl) rfl; have gg := hs 7 128 (by kernel_rfl) rfl; simp [Act.eval] at e130 e131 gg; replace gg := opt_bool gg
                go_simp
                refine (c_psame t t A130 A n c130 n c _ ok w2 hr130 (HRR.out.below hle)).mono ?_
                rintro e w3 ⟨rfl, b3⟩
                exact hK _ _ b3 (by simp)
            intro vs w8 hle hs
            have v7 := hs 7 (by omega) rfl
            have v11 := hs 11 (by omega) rfl
            simp only at v7 v11
            clear hs

            have HBN := hide (HB.out.trans (hle.mono HB.out.size))
            clear hle
            simp only [putN, dstAt]
            go_simp
            go_wp2_with fail
            go_ret
            exact ⟨rfl, HBN.out⟩
end Go.Proofs.Ytlfhbnajopekpaa
