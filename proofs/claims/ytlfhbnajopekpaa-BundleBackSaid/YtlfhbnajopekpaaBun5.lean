/- The walk of the statement BundleBack. No condition. -/
import Derived.Test.YtlfhbnajopekpaaBun4
namespace Go.Proofs.Ytlfhbnajopekpaa
open Go.RowKit
attribute [local go_sem ↓] ld16 ld17 ld32 ld36 ld37
attribute [local go_sem] run_ldAgg run_storeAgg agg_alloc_at agg_alloc_past agg_drew agg_setCell row_alloc_at row_alloc_past row_drew setRow_alloc_at setRow_alloc_past setRow_drew agg_setRow_at agg_setRow_far cell_setRow_at cell_setRow_far row_setRow_far size_setRow tgC_size tgC_one tgC_part tgC_splice tokC_size tokC_0 tokC_1 tokC_2 tokC_3 tokC_g0 tokC_g1 tokC_g2 tokC_g3 tokC_part tokC_tag tokC_set0 tokC_set1 tokC_set2 tokC_set3 tokC_splice tokC_splice0 tgC_splice_any zero_tg zero_tok tokC_all tokC_ne tgC_ne
attribute [local go_sem] bunC_size bunC_0 bunC_1 bunC_2 bunC_3 bunC_36 bunC_g3 bunC_g36 bunC_part bunC_root bunC_set36 bunC_splice bunC_splice0 zero_bun bunC_all bunC_ne

theorem benc_ne {x y : Bun} (h1 : bcode x = 0) (hx : x.ok) (h2 : bcode y = 0) (hy : y.ok) : (txt (benc x)).toList = (txt (benc y)).toList ↔ x = y := by
  rw [bytes_inj]
  constructor
  · intro h
    have h' := congrArg byt h
    rw [byt_txt, byt_txt] at h'
    have c1 : checkB x = true := by unfold bcode at h1; split at h1 <;> simp_all
    have c2 : checkB y = true := by unfold bcode at h2; split at h2 <;> simp_all
    have p1 := bdec_enc c1 hx
    rw [h', bdec_enc c2 hy] at p1
    exact (Option.some.inj p1).symm
  · rintro rfl; rfl
theorem bcode_parts {x : Bun} (h1 : bcode x = 0) (hx : x.ok) : (benc x).length ≤ 65536 ∧ bvalD (benc x) = some x ∧ bcodeD (benc x) = 0 := by
  have c1 : checkB x = true := by unfold bcode at h1; split at h1 <;> simp_all
  rw [bcode, if_pos c1] at h1
  have hl : ¬ 65536 < (benc x).length := fun h => by rw [if_pos h] at h1; cases h1
  refine ⟨by omega, ?_, ?_⟩
  · rw [bvalD, if_neg hl, bdec_enc c1 hx]
  · rw [bcodeD, if_neg hl, bdec_enc c1 hx]; rfl
theorem bdec_cases (xs : List UInt8) : (bvalD xs = none ∧ bcodeD xs ≠ 0) ∨ ∃ q, bvalD xs = some q ∧ bcodeD xs = 0 ∧ benc q = xs ∧ bcode q = 0 ∧ q.ok := by
  by_cases hl : 65536 < xs.length
  · left
    rw [bvalD, bcodeD, if_pos hl, if_pos hl]
    exact ⟨rfl, by decide⟩
  · rw [bvalD, bcodeD, if_neg hl, if_neg hl]
    cases h : bdec xs with
    | none => left; exact ⟨rfl, by decide⟩
    | some q =>
      right
      obtain ⟨e1, e2, e3⟩ := bdec_back h
      exact ⟨q, rfl, rfl, e1, by rw [bcode, if_pos e2, e1, if_neg hl], e3⟩
theorem dis_keys {ok : Nat → Prop} {w : World} {A : Option Addr} {n c : Nat} {xs : List Tok} (h : kTok.Row ok w A n c xs) : ∀ d ∈ xs, d.ok := by
  intro x hx
  obtain ⟨i, hi, rfl⟩ := List.mem_iff_getElem.1 hx
  obtain ⟨b, o, A1, n1, c1, -, -, -, hr, hk⟩ := tok_at h (List.getElem?_eq_getElem hi)
  exact ⟨hk, cavs_party hr⟩
set_option maxRecDepth 100000 in
set_option maxHeartbeats 1600000 in
theorem c_bback (x y : Bun) (A B C D E : Option Addr) (n c m d n' c' m' d' k e : Nat) (xs : List UInt8) (ok : Nat → Prop) (w : World) (h1 : kCav.Row ok w A n c x.root.cavs) (h2 : kTok.Row ok w B m d x.dis) (h3 : kCav.Row ok w C n' c' y.root.cavs) (h4 : kTok.Row ok w D m' d' y.dis)
    (hX : kU8.Row ok w E k e xs) (hx : x.root.key < 18446744073709551616) (hy : y.root.key < 18446744073709551616) :
    Calls Try.prog 9 #[bunV x A n c B m d, bunV y C n' c' D m' d', .slice E k e] w fun e w' => e = .returned (.bool true) ∧ Below w.heap.size w w' := by
  have HXO := hide (show x.ok from ⟨⟨hx, cavs_party h1⟩, dis_keys h2⟩)
  have HYO := hide (show y.ok from ⟨⟨hy, cavs_party h3⟩, dis_keys h4⟩)
  have H1 := hide h1
  have H2 := hide h2
  have H3 := hide h3
  have H4 := hide h4
  have HX := hide hX
  have hke : k ≤ 9223372036854775807 := Nat.le_trans hX.2.1 hX.2.2.1
  clear h1 h2 h3 h4 hX hx hy
  go_enter Try.func9, Try.ntmps9
  go_wp2_with fail
  refine (c_balive _).mono ?_
  rintro z w1 ⟨rfl, b1⟩
  have HB1 := hide (bnext (below2 _ _ _) b1)
  have hT1 : BunIn w1 w.heap.size x A n c B m d := (b1.block _ (by simp; omega)).trans ((Below.heap_alloc _ _ _ (by simp)).trans (heap_alloc_new _ _))
  have hU1 : BunIn w1 (w.heap.size + 1) y C n' c' D m' d' := (b1.block _ (by simp)).trans (heap_new2 _ _ _)
  have HT1 := hide hT1
  have HU1 := hide hU1
  have ha := hT1.agg
  clear b1 hT1 hU1
  go_wp2_with fail
  refine (c_large x A B n c m d ok ok w1 (H1.out.below HB1.out) (H2.out.below HB1.out)).mono ?_
  rintro z w2 ⟨g1, rfl, b2⟩
  have HB2 := hide (bnext HB1.out b2)
  have HT2 := hide (HT1.out.below b2)
  have HU2 := hide (HU1.out.below b2)
  have ha2 := HU2.out.agg
  clear b2 ha
  cases g1 with
  | true =>
    simp only [if_true]
    go_wp2_with fail
    go_ret
    exact ⟨rfl, HB2.out⟩
  | false =>
    simp only [Bool.false_eq_true, if_false]
    go_wp2_with fail
    refine (c_large y C D n' c' m' d' ok ok w2 (H3.out.below HB2.out) (H4.out.below HB2.out)).mono ?_
    rintro z w3 ⟨g2, rfl, b3⟩
    have HB3 := hide (bnext HB2.out b3)
    have HT3 := hide (HT2.out.below b3)
    have HU3 := hide (HU2.out.below b3)
    have ha3 := HT3.out.agg
    clear b3 ha2
    cases g2 with
    | true =>
      simp only [if_true]
      go_wp2_with fail
      go_ret
      exact ⟨rfl, HB3.out⟩
    | false =>
      simp only [Bool.false_eq_true, if_false]
      by_cases hk : 70000 < k
      · go_wp2_with fail
        go_ret
        exact ⟨rfl, HB3.out⟩
      · have hk' : k ≤ 70000 := by omega
        clear hk
        go_wp2_with fail
        refine (c_bencode x A B n c m d ok ok w3 (H1.out.below HB3.out) (H2.out.below HB3.out) HXO.out.1.1).mono ?_
        rintro z w4 ⟨v4, rfl, ho4, b4⟩
        obtain ⟨kt, hkt⟩ : ∃ kt, kt = bcode x := ⟨_, rfl⟩
        obtain ⟨et, het⟩ : ∃ et, et = (if kt = 0 then benc x else []) := ⟨_, rfl⟩
        rw [← hkt, ← het] at ho4
        rw [← hkt]
        have HKT := hide hkt
        have HET := hide het
        obtain ⟨A4, c4, rfl, hr4⟩ := ho4.row
        have HB4 := hide (bnext HB3.out b4)
        have HT4 := hide (HT3.out.below b4)
        have HU4 := hide (HU3.out.below b4)
        have HX4 := hide (hr4.more (ok' := fun _ => True) fun _ _ => trivial)
        have ha4 := HU4.out.agg
        clear b4 ho4 hr4 ha3 het hkt
        go_wp2_with fail
        refine (c_bencode y C D n' c' m' d' ok ok w4 (H3.out.below HB4.out) (H4.out.below HB4.out) HYO.out.1.1).mono ?_
        rintro z w5 ⟨v5, rfl, ho5, b5⟩
        obtain ⟨ku, hku⟩ : ∃ ku, ku = bcode y := ⟨_, rfl⟩
        obtain ⟨eu, heu⟩ : ∃ eu, eu = (if ku = 0 then benc y else []) := ⟨_, rfl⟩
        rw [← hku, ← heu] at ho5
        rw [← hku]
        have HKU := hide hku
        have HEU := hide heu
        obtain ⟨A5, c5, rfl, hr5⟩ := ho5.row
        have HB5 := hide (bnext HB4.out b5)
        have HT5 := hide (HT4.out.below b5)
        have HU5 := hide (HU4.out.below b5)
        have HX5 := hide (HX4.out.below b5)
        have HY5 := hide (hr5.more (ok' := fun _ => True) fun _ _ => trivial)
        clear b5 ho5 hr5 ha4 heu hku
        by_cases hkt : kt = 0
        · subst hkt
          by_cases hku : ku = 0
          · subst hku
            have hku' : True := trivial
            have HEE : Hid (et = benc x) := hide (by have := HET.out; simpa using this)
            have hpp := bcode_parts HKT.out.symm HXO.out
            rw [← HEE.out] at hpp
            obtain ⟨hel, hpv, hpc⟩ := hpp
            go_wp2_with fail
            refine (c_bdecode A4 et.length c4 et _ w5 HX5.out).mono ?_
            rintro z w6 ⟨A6, n6, c6, B6, m6, d6, rfl, hr1, hr2, b6⟩
            rw [hpv] at hr1 hr2 ⊢
            rw [hpc]
            simp only [Option.getD_some] at hr1 hr2 ⊢
            have HB6 := hide (bnext HB5.out b6)
            have HT6 := hide (HT5.out.below b6)
            have HU6 := hide (HU5.out.below b6)
            have HX6 := hide (HX5.out.below b6)
            have HY6 := hide (HY5.out.below b6)
            have HR1 := hide hr1
            have HR2 := hide hr2
            have ha6 := HT6.out.agg
            have hl6 := HT6.out.lt
            have hm6 := HU6.out.lt
            clear b6 hr1 hr2 hpv hpc
            go_wp2_with fail
            refine (c_bsame x x A6 B6 A B n6 c6 m6 d6 n c m d _ _ ok ok _ (HR1.out.alloc _) (HR2.out.alloc _) ((H1.out.below HB6.out).alloc _) ((H2.out.below HB6.out).alloc _)).mono ?_
            rintro z w7 ⟨rfl, b7⟩
            have b7' := bnext (below1 w6 _) b7
            have HB7 := hide (bnext HB6.out b7')
            have HT7 := hide (HT6.out.below b7')
            have HU7 := hide (HU6.out.below b7')
            have HX7 := hide (HX6.out.below b7')
            have HY7 := hide (HY6.out.below b7')
            have ha7 := HT7.out.agg
            have hb7 := HU7.out.agg
            clear b7 b7' ha6 hl6 hm6
            simp only [decide_true]
            go_wp2_with fail

            have HEE2 : Hid (eu = benc y) := hide (by have := HEU.out; simpa using this)
            have HIFF : Hid (((txt et).toList = (txt eu).toList) ↔ x = y) := hide (by
              rw [HEE.out, HEE2.out]
              exact benc_ne HKT.out.symm HXO.out HKU.out.symm HYO.out)
            refine wp_region_ext mixed 16 (fun i v _ => match i with
              | 0 => v = .int .i64 0
              | 1 => v = .bool true
              | 2 => v = .bool true
              | 3 => v = .int .i64 0
              | 4 => v = .bool true
              | 5 => v = .bool true
              | 6 => v = .bool true
              | 7 => v = .slice A4 et.length c4
              | 8 => v = .string (txt et)
              | 9 => v = .slice A5 eu.length c5
              | 10 => v = .string (txt eu)
              | 11 => v = .bool (decide (x = y))
              | 12 => v = bunV x A n c B m d
              | 13 => v = bunV y C n' c' D m' d'
              | 14 => v = .bool (decide (x = y))
              | _ => v = .bool false
              ) (by kernel_rfl) rfl ?_ ?_ ?_
            · intro i v w1 w2 h1 h2
              split at h2 <;> exact h2
            · refine ⟨fun a w1 hle hd hf hs K hK => ?_, fun a w1 hle hd hf hs K hK => ?_, fun a w1 hle hd hf hs K hK => ?_, fun a w1 hle hd hf hs K hK => ?_, fun a w1 hle hd hf hs K hK => ?_, fun a w1 hle hd hf hs K hK => ?_, fun a w1 hle hd hf hs K hK => ?_, fun a w1 hle hd hf hs K hK => ?_, fun a w1 hle hd hf hs K hK => ?_, fun a w1 hle hd hf hs K hK => ?_, fun a w1 hle hd hf hs K hK => ?_, fun a w1 hle hd hf hs K hK => ?_, fun a w1 hle hd hf hs K hK => ?_, fun a w1 hle hd hf hs K hK => ?_, fun a w1 hle hd hf hs K hK => ?_, fun a w1 hle hd hf hs K hK => ?_, trivial⟩
              all_goals clear hd
              · have e8 := hf 8 rfl; simp [Act.eval] at e8
                go_simp; exact hK _ _ (Ext.refl _) rfl
              · have e62 := hs 0 62 (by kernel_rfl) rfl; simp [Act.eval] at e62
                go_simp; exact hK _ _ (Ext.refl _) rfl
              · have e63 := hs 1 63 (by kernel_rfl) rfl; simp [Act.eval] at e63
                go_simp; exact hK _ _ (Ext.refl _) rfl
              · have e10 := hf 10 rfl; have gg := hs 2 64 (by kernel_rfl) rfl; simp [Act.eval] at e10 gg; replace gg := opt_bool gg
                go_simp; exact hK _ _ (Ext.refl _) rfl
              · have e65 := hs 3 65 (by kernel_rfl) rfl; have gg := hs 2 64 (by kernel_rfl) rfl; simp [Act.eval] at e65 gg; replace gg := opt_bool gg
                go_simp; exact hK _ _ (Ext.refl _) rfl
              · have e64 := hs 2 64 (by kernel_rfl) rfl; have e66 := hs 4 66 (by kernel_rfl) rfl; simp [Act.eval] at e64 e66
                go_simp; exact hK _ _ (Ext.refl _) rfl
              · have e67 := hs 5 67 (by kernel_rfl) rfl; simp [Act.eval] at e67
                go_simp; exact hK _ _ (Ext.refl _) rfl
              · have e7 := hf 7 rfl; have gg := hs 6 68 (by kernel_rfl) rfl; simp [Act.eval] at e7 gg; replace gg := opt_bool gg
                go_simp; exact hK _ _ (Ext.refl _) rfl
              · have e69 := hs 7 69 (by kernel_rfl) rfl; have gg := hs 6 68 (by kernel_rfl) rfl; simp [Act.eval] at e69 gg; replace gg := opt_bool gg
                have hq := row_string (P := Try.prog) Try.underlying60 Try.underlying5 Try.underlying9 (HX7.out.below hle)
                go_simp; exact hK _ _ (Ext.refl _) rfl
              · have e9 := hf 9 rfl; have gg := hs 6 68 (by kernel_rfl) rfl; simp [Act.eval] at e9 gg; replace gg := opt_bool gg
                go_simp; exact hK _ _ (Ext.refl _) rfl
              · have e71 := hs 9 71 (by kernel_rfl) rfl; have gg := hs 6 68 (by kernel_rfl) rfl; simp [Act.eval] at e71 gg; replace gg := opt_bool gg
                have hq := row_string (P := Try.prog) Try.underlying60 Try.underlying5 Try.underlying9 (HY7.out.below hle)
                go_simp; exact hK _ _ (Ext.refl _) rfl
              · have e70 := hs 8 70 (by kernel_rfl) rfl; have e72 := hs 10 72 (by kernel_rfl) rfl; have gg := hs 6 68 (by kernel_rfl) rfl; simp [Act.eval] at e70 e72 gg; replace gg := opt_bool gg
                by_cases htu : x = y
                · have h1 := HIFF.out.2 htu
                  go_simp; exact hK _ _ (Ext.refl _) (by simp [htu])
                · have h1 : ¬ (txt et).toList = (txt eu).toList := fun h => htu (HIFF.out.1 h)
                  go_simp; exact hK _ _ (Ext.refl _) (by simp [htu]; exact fun h => h1 (by rw [h]))
              · have e3 := hf 3 rfl; have gg := hs 6 68 (by kernel_rfl) rfl; simp [Act.eval] at e3 gg; replace gg := opt_bool gg
                have hq := (HT7.out.below hle).agg
                go_simp; exact hK _ _ (Ext.refl _) rfl
              · have e4 := hf 4 rfl; have gg := hs 6 68 (by kernel_rfl) rfl; simp [Act.eval] at e4 gg; replace gg := opt_bool gg
                have hq := (HU7.out.below hle).agg
                go_simp; exact hK _ _ (Ext.refl _) rfl
              · have e74 := hs 12 74 (by kernel_rfl) rfl; have e75 := hs 13 75 (by kernel_rfl) rfl; have gg := hs 6 68 (by kernel_rfl) rfl; simp [Act.eval] at e74 e75 gg; replace gg := opt_bool gg
                go_simp
                refine (c_bsame x y A B C D n c m d n' c' m' d' ok ok ok ok w1 ((H1.out.below HB7.out).below hle) ((H2.out.below HB7.out).below hle) ((H3.out.below HB7.out).below hle) ((H4.out.below HB7.out).below hle)).mono ?_
                rintro z w8 ⟨rfl, b8⟩
                exact hK _ _ b8 rfl
              · have e73 := hs 11 73 (by kernel_rfl) rfl; have e76 := hs 14 76 (by kernel_rfl) rfl; have gg := hs 6 68 (by kernel_rfl) rfl; simp [Act.eval] at e73 e76 gg; replace gg := opt_bool gg
                go_simp; exact hK _ _ (Ext.refl _) rfl
            · intro vs w8 hle hs
              have v5 := hs 5 (by omega) rfl
              have v6 := hs 6 (by omega) rfl
              have v15 := hs 15 (by omega) rfl
              simp only at v5 v6 v15
              clear hs
              have HB8 := hide (bnext HB7.out hle)
              clear hle
              simp only [putN, dstAt]
              go_simp
              have HXX := hide (HX.out.below (HB8.out))
              have HBX := hide (HB8.out)
              go_wp2_with fail
              refine (c_bdecode E k e xs _ w8 HXX.out).mono ?_
              rintro z w20 ⟨A20, n20, c20, B20, m20, d20, rfl, hr1, hr2, b20⟩
              have HB20 := hide (bnext HBX.out b20)
              have HX20 := hide (HXX.out.below b20)
              clear b20
              rcases bdec_cases xs with ⟨q1, q2⟩ | ⟨q, q1, q2, q3, q4, q5⟩
              · rw [q1] at hr1 hr2 ⊢
                obtain ⟨kd, hkd⟩ : ∃ kd, kd = bcodeD xs := ⟨_, rfl⟩
                rw [← hkd] at q2 ⊢
                have HR1 := hide hr1
                have HR2 := hide hr2
                have q2' : ¬ (kd : Int) = 0 := by omega
                clear hr1 hr2 hkd q2 q1
                simp only [Option.getD_none]
                go_wp2_with fail
                refine (c_bencode Bun.zero A20 B20 n20 c20 m20 d20 _ _ _ (HR1.out.alloc _) (HR2.out.alloc _) (by decide)).mono ?_
                rintro z w21 ⟨v21, rfl, ho21, b21⟩
                rw [bcode_zero]
                have b21' := bnext (below1 w20 _) b21
                have HB21 := hide (bnext HB20.out b21')
                have HR1' := hide (HR1.out.below b21')
                have HR2' := hide (HR2.out.below b21')
                have hz : BunIn w21 w20.heap.size Bun.zero A20 n20 c20 B20 m20 d20 := (b21.block _ (by simp)).trans (heap_alloc_new _ _)
                have hza := hz.agg
                have hzl := hz.lt
                clear b21 b21' ho21 hz
                go_wp2_with fail
                refine (c_bsame Bun.zero Bun.zero A20 B20 none none n20 c20 m20 d20 0 0 0 0 _ _ (fun _ => True) (fun _ => True) w21 HR1'.out HR2'.out (.nil _ _ _ _ _ (Nat.zero_le _)) (.nil _ _ _ _ _ (Nat.zero_le _))).mono ?_
                rintro z w22 ⟨rfl, b22⟩
                have HB22 := hide (bnext HB21.out b22)
                clear b22
                simp only [decide_true]
                go_wp2_with fail
                go_ret
                exact ⟨rfl, HB22.out⟩
              · rw [q1] at hr1 hr2 ⊢
                rw [q2]
                simp only [Option.getD_some] at hr1 hr2 ⊢
                have HR1 := hide hr1
                have HR2 := hide hr2
                have HQ3 := hide q3
                have HQ4 := hide q4
                have HQ5 := hide q5
                clear hr1 hr2 q1 q2 q3 q4 q5
                go_wp2_with fail
                refine (c_bencode q A20 B20 n20 c20 m20 d20 _ _ _ (HR1.out.alloc _) (HR2.out.alloc _) HQ5.out.1.1).mono ?_
                rintro z w21 ⟨v21, rfl, ho21, b21⟩
                rw [HQ4.out, if_pos rfl, HQ3.out] at ho21
                rw [HQ4.out]
                obtain ⟨A21, c21, rfl, hr21⟩ := ho21.row
                have b21' := bnext (below1 w20 _) b21
                have HB21 := hide (bnext HB20.out b21')
                have hst1 := row_string (P := Try.prog) Try.underlying60 Try.underlying5 Try.underlying9 hr21
                have hst2 := row_string (P := Try.prog) Try.underlying60 Try.underlying5 Try.underlying9 (HX20.out.below b21')
                clear b21 b21' ho21 hr21
                go_wp2_with fail
                go_ret
                exact ⟨rfl, HB21.out⟩
          · have hku' : ¬ (ku : Int) = 0 := by omega
            have hkub : ((ku : Int) == 0) = false := beq_eq_false_iff_ne.2 hku'
            have hkud : decide ((ku : Int) = 0) = false := decide_eq_false hku'
            have HEE : Hid (et = benc x) := hide (by have := HET.out; simpa using this)
            have hpp := bcode_parts HKT.out.symm HXO.out
            rw [← HEE.out] at hpp
            obtain ⟨hel, hpv, hpc⟩ := hpp
            go_wp2_with fail
            refine (c_bdecode A4 et.length c4 et _ w5 HX5.out).mono ?_
            rintro z w6 ⟨A6, n6, c6, B6, m6, d6, rfl, hr1, hr2, b6⟩
            rw [hpv] at hr1 hr2 ⊢
            rw [hpc]
            simp only [Option.getD_some] at hr1 hr2 ⊢
            have HB6 := hide (bnext HB5.out b6)
            have HT6 := hide (HT5.out.below b6)
            have HU6 := hide (HU5.out.below b6)
            have HX6 := hide (HX5.out.below b6)
            have HY6 := hide (HY5.out.below b6)
            have HR1 := hide hr1
            have HR2 := hide hr2
            have ha6 := HT6.out.agg
            have hl6 := HT6.out.lt
            have hm6 := HU6.out.lt
            clear b6 hr1 hr2 hpv hpc
            go_wp2_with fail
            refine (c_bsame x x A6 B6 A B n6 c6 m6 d6 n c m d _ _ ok ok _ (HR1.out.alloc _) (HR2.out.alloc _) ((H1.out.below HB6.out).alloc _) ((H2.out.below HB6.out).alloc _)).mono ?_
            rintro z w7 ⟨rfl, b7⟩
            have b7' := bnext (below1 w6 _) b7
            have HB7 := hide (bnext HB6.out b7')
            have HT7 := hide (HT6.out.below b7')
            have HU7 := hide (HU6.out.below b7')
            have HX7 := hide (HX6.out.below b7')
            have HY7 := hide (HY6.out.below b7')
            have ha7 := HT7.out.agg
            have hb7 := HU7.out.agg
            clear b7 b7' ha6 hl6 hm6
            simp only [decide_true]
            go_wp2_with fail
            go_region

            have HXX := hide (HX.out.below (HB7.out.drew))
            have HBX := hide (HB7.out.drew)
            go_wp2_with fail
            refine (c_bdecode E k e xs _ w7.drew HXX.out).mono ?_
            rintro z w20 ⟨A20, n20, c20, B20, m20, d20, rfl, hr1, hr2, b20⟩
            have HB20 := hide (bnext HBX.out b20)
            have HX20 := hide (HXX.out.below b20)
            clear b20
            rcases bdec_cases xs with ⟨q1, q2⟩ | ⟨q, q1, q2, q3, q4, q5⟩
            · rw [q1] at hr1 hr2 ⊢
              obtain ⟨kd, hkd⟩ : ∃ kd, kd = bcodeD xs := ⟨_, rfl⟩
              rw [← hkd] at q2 ⊢
              have HR1 := hide hr1
              have HR2 := hide hr2
              have q2' : ¬ (kd : Int) = 0 := by omega
              clear hr1 hr2 hkd q2 q1
              simp only [Option.getD_none]
              go_wp2_with fail
              refine (c_bencode Bun.zero A20 B20 n20 c20 m20 d20 _ _ _ (HR1.out.alloc _) (HR2.out.alloc _) (by decide)).mono ?_
              rintro z w21 ⟨v21, rfl, ho21, b21⟩
              rw [bcode_zero]
              have b21' := bnext (below1 w20 _) b21
              have HB21 := hide (bnext HB20.out b21')
              have HR1' := hide (HR1.out.below b21')
              have HR2' := hide (HR2.out.below b21')
              have hz : BunIn w21 w20.heap.size Bun.zero A20 n20 c20 B20 m20 d20 := (b21.block _ (by simp)).trans (heap_alloc_new _ _)
              have hza := hz.agg
              have hzl := hz.lt
              clear b21 b21' ho21 hz
              go_wp2_with fail
              refine (c_bsame Bun.zero Bun.zero A20 B20 none none n20 c20 m20 d20 0 0 0 0 _ _ (fun _ => True) (fun _ => True) w21 HR1'.out HR2'.out (.nil _ _ _ _ _ (Nat.zero_le _)) (.nil _ _ _ _ _ (Nat.zero_le _))).mono ?_
              rintro z w22 ⟨rfl, b22⟩
              have HB22 := hide (bnext HB21.out b22)
              clear b22
              simp only [decide_true]
              go_wp2_with fail
              go_ret
              exact ⟨rfl, HB22.out⟩
            · rw [q1] at hr1 hr2 ⊢
              rw [q2]
              simp only [Option.getD_some] at hr1 hr2 ⊢
              have HR1 := hide hr1
              have HR2 := hide hr2
              have HQ3 := hide q3
              have HQ4 := hide q4
              have HQ5 := hide q5
              clear hr1 hr2 q1 q2 q3 q4 q5
              go_wp2_with fail
              refine (c_bencode q A20 B20 n20 c20 m20 d20 _ _ _ (HR1.out.alloc _) (HR2.out.alloc _) HQ5.out.1.1).mono ?_
              rintro z w21 ⟨v21, rfl, ho21, b21⟩
              rw [HQ4.out, if_pos rfl, HQ3.out] at ho21
              rw [HQ4.out]
              obtain ⟨A21, c21, rfl, hr21⟩ := ho21.row
              have b21' := bnext (below1 w20 _) b21
              have HB21 := hide (bnext HB20.out b21')
              have hst1 := row_string (P := Try.prog) Try.underlying60 Try.underlying5 Try.underlying9 hr21
              have hst2 := row_string (P := Try.prog) Try.underlying60 Try.underlying5 Try.underlying9 (HX20.out.below b21')
              clear b21 b21' ho21 hr21
              go_wp2_with fail
              go_ret
              exact ⟨rfl, HB21.out⟩
        · have hkt' : ¬ (kt : Int) = 0 := by omega
          have hktb : ((kt : Int) == 0) = false := beq_eq_false_iff_ne.2 hkt'
          have hktd : decide ((kt : Int) = 0) = false := decide_eq_false hkt'
          by_cases hku : ku = 0
          · subst hku
            have hku' : True := trivial
            go_wp2_with fail
            go_region

            have HXX := hide (HX.out.below (HB5.out.drew))
            have HBX := hide (HB5.out.drew)
            go_wp2_with fail
            refine (c_bdecode E k e xs _ w5.drew HXX.out).mono ?_
            rintro z w20 ⟨A20, n20, c20, B20, m20, d20, rfl, hr1, hr2, b20⟩
            have HB20 := hide (bnext HBX.out b20)
            have HX20 := hide (HXX.out.below b20)
            clear b20
            rcases bdec_cases xs with ⟨q1, q2⟩ | ⟨q, q1, q2, q3, q4, q5⟩
            · rw [q1] at hr1 hr2 ⊢
              obtain ⟨kd, hkd⟩ : ∃ kd, kd = bcodeD xs := ⟨_, rfl⟩
              rw [← hkd] at q2 ⊢
              have HR1 := hide hr1
              have HR2 := hide hr2
              have q2' : ¬ (kd : Int) = 0 := by omega
              clear hr1 hr2 hkd q2 q1
              simp only [Option.getD_none]
              go_wp2_with fail
              refine (c_bencode Bun.zero A20 B20 n20 c20 m20 d20 _ _ _ (HR1.out.alloc _) (HR2.out.alloc _) (by decide)).mono ?_
              rintro z w21 ⟨v21, rfl, ho21, b21⟩
              rw [bcode_zero]
              have b21' := bnext (below1 w20 _) b21
              have HB21 := hide (bnext HB20.out b21')
              have HR1' := hide (HR1.out.below b21')
              have HR2' := hide (HR2.out.below b21')
              have hz : BunIn w21 w20.heap.size Bun.zero A20 n20 c20 B20 m20 d20 := (b21.block _ (by simp)).trans (heap_alloc_new _ _)
              have hza := hz.agg
              have hzl := hz.lt
              clear b21 b21' ho21 hz
              go_wp2_with fail
              refine (c_bsame Bun.zero Bun.zero A20 B20 none none n20 c20 m20 d20 0 0 0 0 _ _ (fun _ => True) (fun _ => True) w21 HR1'.out HR2'.out (.nil _ _ _ _ _ (Nat.zero_le _)) (.nil _ _ _ _ _ (Nat.zero_le _))).mono ?_
              rintro z w22 ⟨rfl, b22⟩
              have HB22 := hide (bnext HB21.out b22)
              clear b22
              simp only [decide_true]
              go_wp2_with fail
              go_ret
              exact ⟨rfl, HB22.out⟩
            · rw [q1] at hr1 hr2 ⊢
              rw [q2]
              simp only [Option.getD_some] at hr1 hr2 ⊢
              have HR1 := hide hr1
              have HR2 := hide hr2
              have HQ3 := hide q3
              have HQ4 := hide q4
              have HQ5 := hide q5
              clear hr1 hr2 q1 q2 q3 q4 q5
              go_wp2_with fail
              refine (c_bencode q A20 B20 n20 c20 m20 d20 _ _ _ (HR1.out.alloc _) (HR2.out.alloc _) HQ5.out.1.1).mono ?_
              rintro z w21 ⟨v21, rfl, ho21, b21⟩
              rw [HQ4.out, if_pos rfl, HQ3.out] at ho21
              rw [HQ4.out]
              obtain ⟨A21, c21, rfl, hr21⟩ := ho21.row
              have b21' := bnext (below1 w20 _) b21
              have HB21 := hide (bnext HB20.out b21')
              have hst1 := row_string (P := Try.prog) Try.underlying60 Try.underlying5 Try.underlying9 hr21
              have hst2 := row_string (P := Try.prog) Try.underlying60 Try.underlying5 Try.underlying9 (HX20.out.below b21')
              clear b21 b21' ho21 hr21
              go_wp2_with fail
              go_ret
              exact ⟨rfl, HB21.out⟩
          · have hku' : ¬ (ku : Int) = 0 := by omega
            have hkub : ((ku : Int) == 0) = false := beq_eq_false_iff_ne.2 hku'
            have hkud : decide ((ku : Int) = 0) = false := decide_eq_false hku'
            go_wp2_with fail
            go_region

            have HXX := hide (HX.out.below (HB5.out.drew))
            have HBX := hide (HB5.out.drew)
            go_wp2_with fail
            refine (c_bdecode E k e xs _ w5.drew HXX.out).mono ?_
            rintro z w20 ⟨A20, n20, c20, B20, m20, d20, rfl, hr1, hr2, b20⟩
            have HB20 := hide (bnext HBX.out b20)
            have HX20 := hide (HXX.out.below b20)
            clear b20
            rcases bdec_cases xs with ⟨q1, q2⟩ | ⟨q, q1, q2, q3, q4, q5⟩
            · rw [q1] at hr1 hr2 ⊢
              obtain ⟨kd, hkd⟩ : ∃ kd, kd = bcodeD xs := ⟨_, rfl⟩
              rw [← hkd] at q2 ⊢
              have HR1 := hide hr1
              have HR2 := hide hr2
              have q2' : ¬ (kd : Int) = 0 := by omega
              clear hr1 hr2 hkd q2 q1
              simp only [Option.getD_none]
              go_wp2_with fail
              refine (c_bencode Bun.zero A20 B20 n20 c20 m20 d20 _ _ _ (HR1.out.alloc _) (HR2.out.alloc _) (by decide)).mono ?_
              rintro z w21 ⟨v21, rfl, ho21, b21⟩
              rw [bcode_zero]
              have b21' := bnext (below1 w20 _) b21
              have HB21 := hide (bnext HB20.out b21')
              have HR1' := hide (HR1.out.below b21')
              have HR2' := hide (HR2.out.below b21')
              have hz : BunIn w21 w20.heap.size Bun.zero A20 n20 c20 B20 m20 d20 := (b21.block _ (by simp)).trans (heap_alloc_new _ _)
              have hza := hz.agg
              have hzl := hz.lt
              clear b21 b21' ho21 hz
              go_wp2_with fail
              refine (c_bsame Bun.zero Bun.zero A20 B20 none none n20 c20 m20 d20 0 0 0 0 _ _ (fun _ => True) (fun _ => True) w21 HR1'.out HR2'.out (.nil _ _ _ _ _ (Nat.zero_le _)) (.nil _ _ _ _ _ (Nat.zero_le _))).mono ?_
              rintro z w22 ⟨rfl, b22⟩
              have HB22 := hide (bnext HB21.out b22)
              clear b22
              simp only [decide_true]
              go_wp2_with fail
              go_ret
              exact ⟨rfl, HB22.out⟩
            · rw [q1] at hr1 hr2 ⊢
              rw [q2]
              simp only [Option.getD_some] at hr1 hr2 ⊢
              have HR1 := hide hr1
              have HR2 := hide hr2
              have HQ3 := hide q3
              have HQ4 := hide q4
              have HQ5 := hide q5
              clear hr1 hr2 q1 q2 q3 q4 q5
              go_wp2_with fail
              refine (c_bencode q A20 B20 n20 c20 m20 d20 _ _ _ (HR1.out.alloc _) (HR2.out.alloc _) HQ5.out.1.1).mono ?_
              rintro z w21 ⟨v21, rfl, ho21, b21⟩
              rw [HQ4.out, if_pos rfl, HQ3.out] at ho21
              rw [HQ4.out]
              obtain ⟨A21, c21, rfl, hr21⟩ := ho21.row
              have b21' := bnext (below1 w20 _) b21
              have HB21 := hide (bnext HB20.out b21')
              have hst1 := row_string (P := Try.prog) Try.underlying60 Try.underlying5 Try.underlying9 hr21
              have hst2 := row_string (P := Try.prog) Try.underlying60 Try.underlying5 Try.underlying9 (HX20.out.below b21')
              clear b21 b21' ho21 hr21
              go_wp2_with fail
              go_ret
              exact ⟨rfl, HB21.out⟩
end Go.Proofs.Ytlfhbnajopekpaa
