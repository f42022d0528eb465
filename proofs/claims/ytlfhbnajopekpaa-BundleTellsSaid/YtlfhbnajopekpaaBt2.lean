/- The walk of the statement BundleTells. No condition. -/
import Derived.Test.YtlfhbnajopekpaaBt1
import Derived.Test.YtlfhbnajopekpaaPk12
namespace Go.Proofs.Ytlfhbnajopekpaa
open Go.RowKit
attribute [local go_sem ↓] ld16 ld17 ld32 ld36 ld37
attribute [local go_sem] run_ldAgg run_storeAgg agg_alloc_at agg_alloc_past agg_drew agg_setCell row_alloc_at row_alloc_past row_drew setRow_alloc_at setRow_alloc_past setRow_drew agg_setRow_at agg_setRow_far cell_setRow_at cell_setRow_far row_setRow_far size_setRow tgC_size tgC_one tgC_part tgC_splice tokC_size tokC_0 tokC_1 tokC_2 tokC_3 tokC_g0 tokC_g1 tokC_g2 tokC_g3 tokC_part tokC_tag tokC_set0 tokC_set1 tokC_set2 tokC_set3 tokC_splice tokC_splice0 tgC_splice_any zero_tg zero_tok tokC_all tokC_ne tgC_ne
attribute [local go_sem] bunC_size bunC_0 bunC_1 bunC_2 bunC_3 bunC_36 bunC_g3 bunC_g36 bunC_part bunC_root bunC_set36 bunC_splice bunC_splice0 zero_bun bunC_all bunC_ne

theorem dis_ok {ok : Nat → Prop} {w : World} {A : Option Addr} {n c : Nat} {xs : List Tok} (h : kTok.Row ok w A n c xs) : ∀ d ∈ xs, d.ok := by
  intro x hx
  obtain ⟨i, hi, rfl⟩ := List.mem_iff_getElem.1 hx
  obtain ⟨b, o, A1, n1, c1, -, -, -, hr, hk⟩ := tok_at h (List.getElem?_eq_getElem hi)
  exact ⟨hk, cavs_party hr⟩
theorem great_len {t : Tok} (h : great t = false) : t.cavs.length ≤ 10000 := by
  have := of_decide_eq_false h
  have := gsum_len t.cavs
  omega
set_option maxRecDepth 100000 in
set_option maxHeartbeats 2000000 in
theorem c_btells (x u : Bun) (A B C D E : Option Addr) (n c m d n' c' m' d' k e : Nat) (xs : List UInt8) (ok : Nat → Prop) (w : World) (h1 : kCav.Row ok w A n c x.root.cavs) (h2 : kTok.Row ok w B m d x.dis) (h3 : kCav.Row ok w C n' c' u.root.cavs) (h4 : kTok.Row ok w D m' d' u.dis)
    (hX : kU8.Row ok w E k e xs) (hx : x.root.key < 18446744073709551616) (hf1 : x.root.fits) (hf2 : ∀ y ∈ x.dis, y.fits) (hf3 : u.root.fits) (hf4 : ∀ y ∈ u.dis, y.fits) :
    Calls Try.prog 11 #[bunV x A n c B m d, bunV u C n' c' D m' d', .slice E k e] w fun e w' => e = .returned (.bool true) ∧ Below w.heap.size w w' := by
  have HXO := hide (show x.ok from ⟨⟨hx, cavs_party h1⟩, dis_ok h2⟩)
  have HLN := hide h1.1
  have HLM := hide h2.1
  have H1 := hide h1
  have H2 := hide h2
  have H3 := hide h3
  have H4 := hide h4
  have HX := hide hX
  have HF1 := hide hf1
  have HF2 := hide hf2
  have HF3 := hide hf3
  have HF4 := hide hf4
  have hke : k ≤ 9223372036854775807 := Nat.le_trans hX.2.1 hX.2.2.1
  clear h1 h2 h3 h4 hX hx hf1 hf2 hf3 hf4
  go_enter Try.func11, Try.ntmps11
  go_wp2_with fail
  refine (c_balive _).mono ?_
  rintro z w1 ⟨rfl, b1⟩
  have HB1 := hide (bnext (below2 _ _ _) b1)
  have hT1 : BunIn w1 w.heap.size x A n c B m d := (b1.block _ (by simp; omega)).trans ((Below.heap_alloc _ _ _ (by simp)).trans (heap_alloc_new _ _))
  have hU1 : BunIn w1 (w.heap.size + 1) u C n' c' D m' d' := (b1.block _ (by simp)).trans (heap_new2 _ _ _)
  have HT1 := hide hT1
  have HU1 := hide hU1
  have ha := hT1.agg
  clear b1 hT1 hU1
  go_wp2_with fail
  refine (c_large2 x A B n c m d ok ok w1 (H1.out.below HB1.out) (H2.out.below HB1.out) HF1.out HF2.out).mono ?_
  rintro z w2 ⟨rfl, b2⟩
  have HB2 := hide (bnext HB1.out b2)
  have HT2 := hide (HT1.out.below b2)
  have HU2 := hide (HU1.out.below b2)
  have ha2 := HU2.out.agg
  clear b2 ha
  cases hlx : large x with
  | true =>
    clear hlx
    simp only [greatV, if_true]
    go_wp2_with fail
    go_ret
    exact ⟨rfl, HB2.out⟩
  | false =>
    have hlx' : great x.root = false ∧ x.dis.length ≤ 40 ∧ ∀ y ∈ x.dis, great y = false := by
      simp only [large, Bool.or_eq_false_iff, decide_eq_false_iff_not, List.any_eq_false] at hlx
      exact ⟨hlx.1.1, by omega, fun y hy => by have := hlx.2 y hy; simpa using this⟩
    have hn5 : n ≤ 10000 := by have := great_len hlx'.1; have := HLN.out; omega
    have hm5 : m ≤ 40 := by have := hlx'.2.1; have := HLM.out; omega
    have HDL : Hid (∀ y ∈ x.dis, y.cavs.length ≤ 1099511627776) := hide (fun y hy => by have := great_len (hlx'.2.2 y hy); omega)
    clear hlx hlx'
    simp only [greatV, Bool.false_eq_true, if_false]
    go_wp2_with fail
    refine (c_large2 u C D n' c' m' d' ok ok w2 (H3.out.below HB2.out) (H4.out.below HB2.out) HF3.out HF4.out).mono ?_
    rintro z w3 ⟨rfl, b3⟩
    have HB3 := hide (bnext HB2.out b3)
    have HT3 := hide (HT2.out.below b3)
    have HU3 := hide (HU2.out.below b3)
    have ha3 := HT3.out.agg
    clear b3 ha2
    cases hlu : large u with
    | true =>
      clear hlu
      simp only [greatV, if_true]
      go_wp2_with fail
      go_ret
      exact ⟨rfl, HB3.out⟩
    | false =>
      clear hlu
      simp only [greatV, Bool.false_eq_true, if_false]
      by_cases hk : 70000 < k
      · go_wp2_with fail
        go_ret
        exact ⟨rfl, HB3.out⟩
      · have hk' : k ≤ 70000 := by omega
        clear hk
        go_wp2_with fail
        refine (c_bencode x A B n c m d ok ok w3 (H1.out.below HB3.out) (H2.out.below HB3.out) HXO.out.1.1).mono ?_
        rintro z w4 ⟨v4, rfl, ho4, b4⟩
        obtain ⟨kt, hkt⟩ : ∃ kt, kt = bcode x := ⟨_, rfl⟩
        obtain ⟨et, het⟩ : ∃ et, et = (if kt = 0 then benc x else []) := ⟨_, rfl⟩
        rw [← hkt, ← het] at ho4
        rw [← hkt]
        have HKT := hide hkt
        have HET := hide het
        obtain ⟨A4, c4, rfl, hr4⟩ := ho4.row
        have HB4 := hide (bnext HB3.out b4)
        have HT4 := hide (HT3.out.below b4)
        have HU4 := hide (HU3.out.below b4)
        have HX4' := hide (hr4.more (ok' := fun _ => True) fun _ _ => trivial)
        have ha4 := HT4.out.agg
        clear b4 ho4 hr4 ha3 het hkt
        go_wp2_with fail
        refine (c_rbencode x A B n c m d ok ok w4 (H1.out.below HB4.out) (H2.out.below HB4.out) HXO.out).mono ?_
        rintro z w5 ⟨v5, rfl, ho5, b5⟩
        rw [← HKT.out, ← HET.out] at ho5
        rw [← HKT.out]
        obtain ⟨A5, c5, rfl, hr5⟩ := ho5.row
        have HB5 := hide (bnext HB4.out b5)
        have HT5 := hide (HT4.out.below b5)
        have HU5 := hide (HU4.out.below b5)
        have HX4'' := hide (HX4'.out.below b5)
        have HX5' := hide (hr5.more (ok' := fun _ => True) fun _ _ => trivial)
        clear b5 ho5 hr5 ha4
        go_wp2_with fail
        obtain ⟨y, hy⟩ : ∃ y, y = (bvalD xs).getD Bun.zero := ⟨_, rfl⟩
        obtain ⟨kd, hkd⟩ : ∃ kd, kd = bcodeD xs := ⟨_, rfl⟩
        have HYE := hide hy
        have HKD := hide hkd
        clear hy hkd
        refine (c_bdecode E k e xs ok w5 (HX.out.below HB5.out)).mono ?_
        rintro z w6 ⟨A6, n6, c6, B6, m6, d6, rfl, hr6, hs6, b6⟩
        rw [← HYE.out] at hr6 hs6 ⊢
        rw [← HKD.out]
        have HB6 := hide (bnext HB5.out b6)
        have HT6 := hide (HT5.out.below b6)
        have HU6 := hide (HU5.out.below b6)
        have HX4a := hide (HX4''.out.below b6)
        have HX5a := hide (HX5'.out.below b6)
        have HR6' := hide hr6
        have HS6' := hide hs6
        clear b6 hr6 hs6
        go_wp2_with fail
        refine (c_rbdecode E k e xs ok _ ((HX.out.below HB6.out).below (below1 _ _))).mono ?_
        rintro z w7 ⟨A7, n7, c7, B7, m7, d7, rfl, hr7, hs7, b7⟩
        rw [← HYE.out] at hr7 hs7 ⊢
        rw [← HKD.out]
        have b7' := bnext (below1 w6 _) b7
        have HB7 := hide (bnext HB6.out b7')
        have HT7 := hide (HT6.out.below b7')
        have HU7 := hide (HU6.out.below b7')
        have hy6 : BunIn w7 w6.heap.size y A6 n6 c6 B6 m6 d6 := (b7.block _ (by simp)).trans (heap_alloc_new _ _)
        have HY6' := hide hy6
        have HX4b := hide (HX4a.out.below b7')
        have HX5b := hide (HX5a.out.below b7')
        have HR6'' := hide (HR6'.out.below b7')
        have HS6'' := hide (HS6'.out.below b7')
        have HR7' := hide hr7
        have HS7' := hide hs7
        clear b7 b7' hr7 hs7 hy6
        obtain ⟨ce, hce⟩ : ∃ ce : Int, errV (checkB x) = .int .i64 ce ∧ (ce == 0) = checkB x := by
          cases checkB x
          · exact ⟨1, rfl, rfl⟩
          · exact ⟨0, rfl, rfl⟩
        have HCE := hide hce
        clear hce
        go_wp2_with fail
        have b8 := below1 w7 (.cells (bunA y A7 n7 c7 B7 m7 d7) 70)
        have HB8 := hide (bnext HB7.out b8)
        have HT8 := hide (HT7.out.below b8)
        have HU8 := hide (HU7.out.below b8)
        have HY6 := hide (HY6'.out.below b8)
        have hy7 : BunIn (w7.alloc (.cells (bunA y A7 n7 c7 B7 m7 d7) 70)) w7.heap.size y A7 n7 c7 B7 m7 d7 := heap_alloc_new _ _
        have HY7 := hide hy7
        have HX4 := hide (HX4b.out.below b8)
        have HX5 := hide (HX5b.out.below b8)
        have HR6 := hide (HR6''.out.below b8)
        have HS6 := hide (HS6''.out.below b8)
        have HR7 := hide (HR7'.out.below b8)
        have HS7 := hide (HS7'.out.below b8)
        clear b8 hy7
        refine wp_region_ext mixed 53 (fun i v w' => match i with
          | 0 => v = bunV x A n c B m d
          | 1 => v = .int .i64 ce
          | 2 => v = .bool (checkB x)
          | 3 => v = bunV x A n c B m d
          | 4 => v = .bool (checkB x)
          | 5 => v = .bool true
          | 6 => v = .bool true
          | 7 => v = .slice A4 et.length c4
          | 8 => v = .string (txt et)
          | 9 => v = .slice A5 et.length c5
          | 10 => v = .string (txt et)
          | 11 => v = .bool true
          | 12 => v = .bool true
          | 13 => v = .bool true
          | 14 => v = .int .i64 (kt : Int)
          | 15 => v = .int .i64 (kt : Int)
          | 16 => v = .bool true
          | 17 => v = .bool true
          | 18 => v = .bool true
          | 19 => v = bunV y A6 n6 c6 B6 m6 d6
          | 20 => v = bunV y A7 n7 c7 B7 m7 d7
          | 21 => v = .bool true
          | 22 => v = .bool true
          | 23 => v = .bool true
          | 24 => v = .int .i64 (kd : Int)
          | 25 => v = .int .i64 (kd : Int)
          | 26 => v = .bool true
          | 27 => v = .bool true
          | 28 => v = .bool true
          | 29 => v = bunV x A n c B m d
          | 30 => v = bunV u C n' c' D m' d'
          | 31 => v = .bool (decide (x = u))
          | 32 => v = bunV x A n c B m d
          | 33 => v = bunV u C n' c' D m' d'
          | 34 => v = .bool (decide (x = u))
          | 35 => v = .bool true
          | 36 => v = .bool true
          | 37 => v = .bool true
          | 38 => v = bunV x A n c B m d
          | 39 => ∃ A' c' B' d', v = bunV x A' n c' B' m d' ∧ kCav.Row (fun _ => True) w' A' n c' x.root.cavs ∧ kTok.Row (fun _ => True) w' B' m d' x.dis
          | 40 => v = bunV x A n c B m d
          | 41 => v = .bool true
          | 42 => v = .bool true
          | 43 => v = .bool true
          | 44 => v = .pointer (some ⟨w.heap.size, 0, none⟩)
          | 45 => v = tokV x.root A n c
          | 46 => v = .pointer (some ⟨w.heap.size, 36, none⟩)
          | 47 => v = .slice B m d
          | 48 => ∃ A' c' B' d', v = bunV x A' n c' B' m d' ∧ kCav.Row (fun _ => True) w' A' n c' x.root.cavs ∧ kTok.Row (fun _ => True) w' B' m d' x.dis
          | 49 => v = bunV x A n c B m d
          | 50 => v = .bool true
          | 51 => v = .bool true
          | _ => v = .bool true
          ) (by kernel_rfl) rfl ?_ ?_ ?_
        · intro i v w1 w2 h1 h2
          split at h2 <;> first | exact h2 | (obtain ⟨A', c', B', d', e, h5, h6⟩ := h2; exact ⟨A', c', B', d', e, h5.below h1, h6.below h1⟩)
        · refine ⟨fun a w2 hle hd hf hs K hK => ?_, fun a w2 hle hd hf hs K hK => ?_, fun a w2 hle hd hf hs K hK => ?_, fun a w2 hle hd hf hs K hK => ?_, fun a w2 hle hd hf hs K hK => ?_, fun a w2 hle hd hf hs K hK => ?_, fun a w2 hle hd hf hs K hK => ?_, fun a w2 hle hd hf hs K hK => ?_, fun a w2 hle hd hf hs K hK => ?_, fun a w2 hle hd hf hs K hK => ?_, fun a w2 hle hd hf hs K hK => ?_, fun a w2 hle hd hf hs K hK => ?_, fun a w2 hle hd hf hs K hK => ?_, fun a w2 hle hd hf hs K hK => ?_, fun a w2 hle hd hf hs K hK => ?_, fun a w2 hle hd hf hs K hK => ?_, fun a w2 hle hd hf hs K hK => ?_, fun a w2 hle hd hf hs K hK => ?_, fun a w2 hle hd hf hs K hK => ?_, fun a w2 hle hd hf hs K hK => ?_, fun a w2 hle hd hf hs K hK => ?_, fun a w2 hle hd hf hs K hK => ?_, fun a w2 hle hd hf hs K hK => ?_, fun a w2 hle hd hf hs K hK => ?_, fun a w2 hle hd hf hs K hK => ?_, fun a w2 hle hd hf hs K hK => ?_, fun a w2 hle hd hf hs K hK => ?_, fun a w2 hle hd hf hs K hK => ?_, fun a w2 hle hd hf hs K hK => ?_, fun a w2 hle hd hf hs K hK => ?_, fun a w2 hle hd hf hs K hK => ?_, fun a w2 hle hd hf hs K hK => ?_, fun a w2 hle hd hf hs K hK => ?_, fun a w2 hle hd hf hs K hK => ?_, fun a w2 hle hd hf hs K hK => ?_, fun a w2 hle hd hf hs K hK => ?_, fun a w2 hle hd hf hs K hK => ?_, fun a w2 hle hd hf hs K hK => ?_, fun a w2 hle hd hf hs K hK => ?_, fun a w2 hle hd hf hs K hK => ?_, fun a w2 hle hd hf hs K hK => ?_, fun a w2 hle hd hf hs K hK => ?_, fun a w2 hle hd hf hs K hK => ?_, fun a w2 hle hd hf hs K hK => ?_, fun a w2 hle hd hf hs K hK => ?_, fun a w2 hle hd hf hs K hK => ?_, fun a w2 hle hd hf hs K hK => ?_, fun a w2 hle hd hf hs K hK => ?_, fun a w2 hle hd hf hs K hK => ?_, fun a w2 hle hd hf hs K hK => ?_, fun a w2 hle hd hf hs K hK => ?_, fun a w2 hle hd hf hs K hK => ?_, fun a w2 hle hd hf hs K hK => ?_, trivial⟩
          all_goals clear hd
          · -- 50 := Op.load 70 t3
            have e3 := hf 3 rfl; simp [Act.eval] at e3
            have hq := (HT8.out.below hle).agg
            go_simp; exact hK _ _ (Ext.refl _) rfl
          · -- 51 := Op.call { value (Operand.func 54), args := #[t50], argTypes := #[70] }
            have e50 := hs 0 50 (needs_direct (by kernel_rfl)) rfl; simp [Act.eval] at e50
            go_simp
            refine (c_bcheck x A B n c m d ok ok w2 ((H1.out.below HB8.out).below hle) ((H2.out.below HB8.out).below hle)).mono ?_
            rintro z w9 ⟨rfl, b9⟩
            exact hK _ _ b9 HCE.out.1
          · -- 52 := Op.binOp BinOp.eql 40 t51 (const (0:i64)) 40
            have e51 := hs 1 51 (needs_direct (by kernel_rfl)) rfl; simp [Act.eval] at e51
            go_simp; exact hK _ _ (Ext.refl _) (congrArg Value.bool HCE.out.2)
          · -- 53 := Op.load 70 t3
            have e3 := hf 3 rfl; simp [Act.eval] at e3
            have hq := (HT8.out.below hle).agg
            go_simp; exact hK _ _ (Ext.refl _) rfl
          · -- 54 := Op.call { value (Operand.func 55), args := #[t53], argTypes := #[70] }
            have e53 := hs 3 53 (needs_direct (by kernel_rfl)) rfl; simp [Act.eval] at e53
            go_simp
            refine (c_rbcheck x A B n c m d ok ok w2 ((H1.out.below HB8.out).below hle) ((H2.out.below HB8.out).below hle)).mono ?_
            rintro z w9 ⟨rfl, b9⟩
            exact hK _ _ b9 rfl
          · -- 55 := Op.binOp BinOp.eql 4 t52 t54 4
            have e52 := hs 2 52 (needs_direct (by kernel_rfl)) rfl; have e54 := hs 4 54 (needs_direct (by kernel_rfl)) rfl; simp [Act.eval] at e52 e54
            go_simp; exact hK _ _ (Ext.refl _) (by simp)
          · -- 56 := Op.move t55
            have e55 := hs 5 55 (needs_direct (by kernel_rfl)) rfl; simp [Act.eval] at e55
            go_simp; exact hK _ _ (Ext.refl _) rfl
          · -- 57 := Op.move t7
            have e7 := hf 7 rfl; have gg := hs 6 56 (needs_direct (by kernel_rfl)) rfl; simp [Act.eval] at e7 gg; replace gg := opt_bool gg
            go_simp; exact hK _ _ (Ext.refl _) rfl
          · -- 58 := Op.convert 60 9 t57
            have e57 := hs 7 57 (needs_direct (by kernel_rfl)) rfl; have gg := hs 6 56 (needs_direct (by kernel_rfl)) rfl; simp [Act.eval] at e57 gg; replace gg := opt_bool gg
            have hq := row_string (P := Try.prog) Try.underlying60 Try.underlying5 Try.underlying9 (HX4.out.below hle)
            go_simp; exact hK _ _ (Ext.refl _) rfl
          · -- 59 := Op.move t9
            have e9 := hf 9 rfl; have gg := hs 6 56 (needs_direct (by kernel_rfl)) rfl; simp [Act.eval] at e9 gg; replace gg := opt_bool gg
            go_simp; exact hK _ _ (Ext.refl _) rfl
          · -- 60 := Op.convert 60 9 t59
            have e59 := hs 9 59 (needs_direct (by kernel_rfl)) rfl; have gg := hs 6 56 (needs_direct (by kernel_rfl)) rfl; simp [Act.eval] at e59 gg; replace gg := opt_bool gg
            have hq := row_string (P := Try.prog) Try.underlying60 Try.underlying5 Try.underlying9 (HX5.out.below hle)
            go_simp; exact hK _ _ (Ext.refl _) rfl
          · -- 61 := Op.binOp BinOp.eql 9 t58 t60 9
            have e58 := hs 8 58 (needs_direct (by kernel_rfl)) rfl; have e60 := hs 10 60 (needs_direct (by kernel_rfl)) rfl; have gg := hs 6 56 (needs_direct (by kernel_rfl)) rfl; simp [Act.eval] at e58 e60 gg; replace gg := opt_bool gg
            go_simp; exact hK _ _ (Ext.refl _) rfl
          · -- 62 := Op.pick t56 t61 (const (Value.bool false))
            have e56 := hs 6 56 (needs_direct (by kernel_rfl)) rfl; have e61 := hs 11 61 (needs_direct (by kernel_rfl)) rfl; simp [Act.eval] at e56 e61
            go_simp; exact hK _ _ (Ext.refl _) rfl
          · -- 63 := Op.move t62
            have e62 := hs 12 62 (needs_direct (by kernel_rfl)) rfl; simp [Act.eval] at e62
            go_simp; exact hK _ _ (Ext.refl _) rfl
          · -- 64 := Op.move t8
            have e8 := hf 8 rfl; have gg := hs 13 63 (needs_direct (by kernel_rfl)) rfl; simp [Act.eval] at e8 gg; replace gg := opt_bool gg
            go_simp; exact hK _ _ (Ext.refl _) rfl
          · -- 65 := Op.move t10
            have e10 := hf 10 rfl; have gg := hs 13 63 (needs_direct (by kernel_rfl)) rfl; simp [Act.eval] at e10 gg; replace gg := opt_bool gg
            go_simp; exact hK _ _ (Ext.refl _) rfl
          · -- 66 := Op.binOp BinOp.eql 3 t64 t65 3
            have e64 := hs 14 64 (needs_direct (by kernel_rfl)) rfl; have e65 := hs 15 65 (needs_direct (by kernel_rfl)) rfl; have gg := hs 13 63 (needs_direct (by kernel_rfl)) rfl; simp [Act.eval] at e64 e65 gg; replace gg := opt_bool gg
            go_simp; exact hK _ _ (Ext.refl _) rfl
          · -- 67 := Op.pick t63 t66 (const (Value.bool false))
            have e63 := hs 13 63 (needs_direct (by kernel_rfl)) rfl; have e66 := hs 16 66 (needs_direct (by kernel_rfl)) rfl; simp [Act.eval] at e63 e66
            go_simp; exact hK _ _ (Ext.refl _) rfl
          · -- 68 := Op.move t67
            have e67 := hs 17 67 (needs_direct (by kernel_rfl)) rfl; simp [Act.eval] at e67
            go_simp; exact hK _ _ (Ext.refl _) rfl
          · -- 69 := Op.load 70 t11
            have e11 := hf 11 rfl; have gg := hs 18 68 (needs_direct (by kernel_rfl)) rfl; simp [Act.eval] at e11 gg; replace gg := opt_bool gg
            have hq := (HY6.out.below hle).agg
            go_simp; exact hK _ _ (Ext.refl _) rfl
          · -- 70 := Op.load 70 t13
            have e13 := hf 13 rfl; have gg := hs 18 68 (needs_direct (by kernel_rfl)) rfl; simp [Act.eval] at e13 gg; replace gg := opt_bool gg
            have hq := (HY7.out.below hle).agg
            go_simp; exact hK _ _ (Ext.refl _) rfl
          · -- 71 := Op.call { value (Operand.func 37), args := #[t69, t70], argTypes := #[70, 70] }
            have e69 := hs 19 69 (needs_direct (by kernel_rfl)) rfl; have e70 := hs 20 70 (needs_direct (by kernel_rfl)) rfl; have gg := hs 18 68 (needs_direct (by kernel_rfl)) rfl; simp [Act.eval] at e69 e70 gg; replace gg := opt_bool gg
            go_simp
            refine (c_rbsame y y A6 B6 A7 B7 n6 c6 m6 d6 n7 c7 m7 d7 _ _ _ _ w2 (HR6.out.below hle) (HS6.out.below hle) (HR7.out.below hle) (HS7.out.below hle)).mono ?_
            rintro z w9 ⟨rfl, b9⟩
            exact hK _ _ b9 (by simp)
          · -- 72 := Op.pick t68 t71 (const (Value.bool false))
            have e68 := hs 18 68 (needs_direct (by kernel_rfl)) rfl; have e71 := hs 21 71 (needs_direct (by kernel_rfl)) rfl; simp [Act.eval] at e68 e71
            go_simp; exact hK _ _ (Ext.refl _) rfl
          · -- 73 := Op.move t72
            have e72 := hs 22 72 (needs_direct (by kernel_rfl)) rfl; simp [Act.eval] at e72
            go_simp; exact hK _ _ (Ext.refl _) rfl
          · -- 74 := Op.move t12
            have e12 := hf 12 rfl; have gg := hs 23 73 (needs_direct (by kernel_rfl)) rfl; simp [Act.eval] at e12 gg; replace gg := opt_bool gg
            go_simp; exact hK _ _ (Ext.refl _) rfl
          · -- 75 := Op.move t14
            have e14 := hf 14 rfl; have gg := hs 23 73 (needs_direct (by kernel_rfl)) rfl; simp [Act.eval] at e14 gg; replace gg := opt_bool gg
            go_simp; exact hK _ _ (Ext.refl _) rfl
          · -- 76 := Op.binOp BinOp.eql 3 t74 t75 3
            have e74 := hs 24 74 (needs_direct (by kernel_rfl)) rfl; have e75 := hs 25 75 (needs_direct (by kernel_rfl)) rfl; have gg := hs 23 73 (needs_direct (by kernel_rfl)) rfl; simp [Act.eval] at e74 e75 gg; replace gg := opt_bool gg
            go_simp; exact hK _ _ (Ext.refl _) rfl
          · -- 77 := Op.pick t73 t76 (const (Value.bool false))
            have e73 := hs 23 73 (needs_direct (by kernel_rfl)) rfl; have e76 := hs 26 76 (needs_direct (by kernel_rfl)) rfl; simp [Act.eval] at e73 e76
            go_simp; exact hK _ _ (Ext.refl _) rfl
          · -- 78 := Op.move t77
            have e77 := hs 27 77 (needs_direct (by kernel_rfl)) rfl; simp [Act.eval] at e77
            go_simp; exact hK _ _ (Ext.refl _) rfl
          · -- 79 := Op.load 70 t3
            have e3 := hf 3 rfl; have gg := hs 28 78 (needs_direct (by kernel_rfl)) rfl; simp [Act.eval] at e3 gg; replace gg := opt_bool gg
            have hq := (HT8.out.below hle).agg
            go_simp; exact hK _ _ (Ext.refl _) rfl
          · -- 80 := Op.load 70 t4
            have e4 := hf 4 rfl; have gg := hs 28 78 (needs_direct (by kernel_rfl)) rfl; simp [Act.eval] at e4 gg; replace gg := opt_bool gg
            have hq := (HU8.out.below hle).agg
            go_simp; exact hK _ _ (Ext.refl _) rfl
          · -- 81 := Op.call { value (Operand.func 51), args := #[t79, t80], argTypes := #[70, 70] }
            have e79 := hs 29 79 (needs_direct (by kernel_rfl)) rfl; have e80 := hs 30 80 (needs_direct (by kernel_rfl)) rfl; have gg := hs 28 78 (needs_direct (by kernel_rfl)) rfl; simp [Act.eval] at e79 e80 gg; replace gg := opt_bool gg
            go_simp
            refine (c_bsame x u A B C D n c m d n' c' m' d' ok ok ok ok w2 ((H1.out.below HB8.out).below hle) ((H2.out.below HB8.out).below hle) ((H3.out.below HB8.out).below hle) ((H4.out.below HB8.out).below hle)).mono ?_
            rintro z w9 ⟨rfl, b9⟩
            exact hK _ _ b9 rfl
          · -- 82 := Op.load 70 t3
            have e3 := hf 3 rfl; have gg := hs 28 78 (needs_direct (by kernel_rfl)) rfl; simp [Act.eval] at e3 gg; replace gg := opt_bool gg
            have hq := (HT8.out.below hle).agg
            go_simp; exact hK _ _ (Ext.refl _) rfl
          · -- 83 := Op.load 70 t4
            have e4 := hf 4 rfl; have gg := hs 28 78 (needs_direct (by kernel_rfl)) rfl; simp [Act.eval] at e4 gg; replace gg := opt_bool gg
            have hq := (HU8.out.below hle).agg
            go_simp; exact hK _ _ (Ext.refl _) rfl
          · -- 84 := Op.call { value (Operand.func 37), args := #[t82, t83], argTypes := #[70, 70] }
            have e82 := hs 32 82 (needs_direct (by kernel_rfl)) rfl; have e83 := hs 33 83 (needs_direct (by kernel_rfl)) rfl; have gg := hs 28 78 (needs_direct (by kernel_rfl)) rfl; simp [Act.eval] at e82 e83 gg; replace gg := opt_bool gg
            go_simp
            refine (c_rbsame x u A B C D n c m d n' c' m' d' ok ok ok ok w2 ((H1.out.below HB8.out).below hle) ((H2.out.below HB8.out).below hle) ((H3.out.below HB8.out).below hle) ((H4.out.below HB8.out).below hle)).mono ?_
            rintro z w9 ⟨rfl, b9⟩
            exact hK _ _ b9 rfl
          · -- 85 := Op.binOp BinOp.eql 4 t81 t84 4
            have e81 := hs 31 81 (needs_direct (by kernel_rfl)) rfl; have e84 := hs 34 84 (needs_direct (by kernel_rfl)) rfl; have gg := hs 28 78 (needs_direct (by kernel_rfl)) rfl; simp [Act.eval] at e81 e84 gg; replace gg := opt_bool gg
            go_simp; exact hK _ _ (Ext.refl _) (by simp)
          · -- 86 := Op.pick t78 t85 (const (Value.bool false))
            have e78 := hs 28 78 (needs_direct (by kernel_rfl)) rfl; have e85 := hs 35 85 (needs_direct (by kernel_rfl)) rfl; simp [Act.eval] at e78 e85
            go_simp; exact hK _ _ (Ext.refl _) rfl
          · -- 87 := Op.move t86
            have e86 := hs 36 86 (needs_direct (by kernel_rfl)) rfl; simp [Act.eval] at e86
            go_simp; exact hK _ _ (Ext.refl _) rfl
          · -- 88 := Op.load 70 t3
            have e3 := hf 3 rfl; have gg := hs 37 87 (needs_direct (by kernel_rfl)) rfl; simp [Act.eval] at e3 gg; replace gg := opt_bool gg
            have hq := (HT8.out.below hle).agg
            go_simp; exact hK _ _ (Ext.refl _) rfl
          · -- 89 := Op.call { value (Operand.func 56), args := #[t88], argTypes := #[70] }
            have e88 := hs 38 88 (needs_direct (by kernel_rfl)) rfl; have gg := hs 37 87 (needs_direct (by kernel_rfl)) rfl; simp [Act.eval] at e88 gg; replace gg := opt_bool gg
            go_simp
            refine (c_bclone x A B n c m d ok ok w2 ((H1.out.below HB8.out).below hle) ((H2.out.below HB8.out).below hle) (by omega) (by omega) HDL.out).mono ?_
            rintro z w9 ⟨A9, c9, B9, d9, rfl, hr9, hs9, b9⟩
            exact hK _ _ b9 ⟨A9, c9, B9, d9, rfl, hr9.more fun _ _ => trivial, hs9.more fun _ _ => trivial⟩
          · -- 90 := Op.load 70 t3
            have e3 := hf 3 rfl; have gg := hs 37 87 (needs_direct (by kernel_rfl)) rfl; simp [Act.eval] at e3 gg; replace gg := opt_bool gg
            have hq := (HT8.out.below hle).agg
            go_simp; exact hK _ _ (Ext.refl _) rfl
          · -- 91 := Op.call { value (Operand.func 51), args := #[t89, t90], argTypes := #[70, 70] }
            obtain ⟨A89, c89, B89, d89, e89, hr89, hs89⟩ := hs 39 89 (needs_direct (by kernel_rfl)) rfl; have e90 := hs 40 90 (needs_direct (by kernel_rfl)) rfl; have gg := hs 37 87 (needs_direct (by kernel_rfl)) rfl; simp [Act.eval] at e89 e90 gg; replace gg := opt_bool gg
            go_simp
            refine (c_bsame x x A89 B89 A B n c89 m d89 n c m d _ _ ok ok w2 hr89 hs89 ((H1.out.below HB8.out).below hle) ((H2.out.below HB8.out).below hle)).mono ?_
            rintro z w9 ⟨rfl, b9⟩
            exact hK _ _ b9 (by simp)
          · -- 92 := Op.pick t87 t91 (const (Value.bool false))
            have e87 := hs 37 87 (needs_direct (by kernel_rfl)) rfl; have e91 := hs 41 91 (needs_direct (by kernel_rfl)) rfl; simp [Act.eval] at e87 e91
            go_simp; exact hK _ _ (Ext.refl _) rfl
          · -- 93 := Op.move t92
            have e92 := hs 42 92 (needs_direct (by kernel_rfl)) rfl; simp [Act.eval] at e92
            go_simp; exact hK _ _ (Ext.refl _) rfl
          · -- 94 := Op.fieldAddr 70 t3 0
            have e3 := hf 3 rfl; have gg := hs 43 93 (needs_direct (by kernel_rfl)) rfl; simp [Act.eval] at e3 gg; replace gg := opt_bool gg
            go_simp; exact hK _ _ (Ext.refl _) rfl
          · -- 95 := Op.load 59 t94
            have e94 := hs 44 94 (needs_direct (by kernel_rfl)) rfl; have gg := hs 43 93 (needs_direct (by kernel_rfl)) rfl; simp [Act.eval] at e94 gg; replace gg := opt_bool gg
            have hq := (HT8.out.below hle).root
            go_simp; exact hK _ _ (Ext.refl _) rfl
          · -- 96 := Op.fieldAddr 70 t3 1
            have e3 := hf 3 rfl; have gg := hs 43 93 (needs_direct (by kernel_rfl)) rfl; simp [Act.eval] at e3 gg; replace gg := opt_bool gg
            go_simp; exact hK _ _ (Ext.refl _) rfl
          · -- 97 := Op.load 68 t96
            have e96 := hs 46 96 (needs_direct (by kernel_rfl)) rfl; have gg := hs 43 93 (needs_direct (by kernel_rfl)) rfl; simp [Act.eval] at e96 gg; replace gg := opt_bool gg
            have hq := (HT8.out.below hle).dis
            go_simp; exact hK _ _ (Ext.refl _) rfl
          · -- 98 := Op.call { value (Operand.func 57), args := #[t95, t97], argTypes := #[59, 68] }
            have e95 := hs 45 95 (needs_direct (by kernel_rfl)) rfl; have e97 := hs 47 97 (needs_direct (by kernel_rfl)) rfl; have gg := hs 43 93 (needs_direct (by kernel_rfl)) rfl; simp [Act.eval] at e95 e97 gg; replace gg := opt_bool gg
            go_simp
            refine (c_bof x.root x.dis A B n c m d ok ok w2 ((H1.out.below HB8.out).below hle) ((H2.out.below HB8.out).below hle) (by omega) (by omega) HDL.out).mono ?_
            rintro z w9 ⟨A9, c9, B9, d9, rfl, hr9, hs9, b9⟩
            exact hK _ _ b9 ⟨A9, c9, B9, d9, rfl, hr9.more fun _ _ => trivial, hs9.more fun _ _ => trivial⟩
          · -- 99 := Op.load 70 t3
            have e3 := hf 3 rfl; have gg := hs 43 93 (needs_direct (by kernel_rfl)) rfl; simp [Act.eval] at e3 gg; replace gg := opt_bool gg
            have hq := (HT8.out.below hle).agg
            go_simp; exact hK _ _ (Ext.refl _) rfl
          · -- 100 := Op.call { value (Operand.func 51), args := #[t98, t99], argTypes := #[70, 70] }
            obtain ⟨A98, c98, B98, d98, e98, hr98, hs98⟩ := hs 48 98 (needs_direct (by kernel_rfl)) rfl; have e99 := hs 49 99 (needs_direct (by kernel_rfl)) rfl; have gg := hs 43 93 (needs_direct (by kernel_rfl)) rfl; simp [Act.eval] at e98 e99 gg; replace gg := opt_bool gg
            go_simp
            refine (c_bsame x x A98 B98 A B n c98 m d98 n c m d _ _ ok ok w2 hr98 hs98 ((H1.out.below HB8.out).below hle) ((H2.out.below HB8.out).below hle)).mono ?_
            rintro z w9 ⟨rfl, b9⟩
            exact hK _ _ b9 (by simp)
          · -- 101 := Op.pick t93 t100 (const (Value.bool false))
            have e93 := hs 43 93 (needs_direct (by kernel_rfl)) rfl; have e100 := hs 50 100 (needs_direct (by kernel_rfl)) rfl; simp [Act.eval] at e93 e100
            go_simp; exact hK _ _ (Ext.refl _) rfl
          · -- 6 := Op.assign t101
            have e101 := hs 51 101 (needs_direct (by kernel_rfl)) rfl; simp [Act.eval] at e101
            go_simp; exact hK _ _ (Ext.refl _) rfl
        intro vs w8 hle hs
        have v52 := hs 52 (by omega) rfl
        simp only at v52
        clear hs
        have HBN := hide (HB8.out.trans (hle.mono HB8.out.size))
        clear hle
        simp only [putN, dstAt]
        go_simp
        go_wp2_with fail
        go_ret
        exact ⟨rfl, HBN.out⟩
end Go.Proofs.Ytlfhbnajopekpaa
