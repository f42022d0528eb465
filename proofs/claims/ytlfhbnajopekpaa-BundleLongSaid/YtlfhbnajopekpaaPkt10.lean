/- The walk of the statement PacketBack. No condition. -/
import Derived.Test.YtlfhbnajopekpaaPkt9
namespace Go.Proofs.Ytlfhbnajopekpaa
open Go.RowKit
attribute [local go_sem ↓] ld16 ld17 ld32 ld36
attribute [local go_sem] run_ldAgg run_storeAgg agg_alloc_at agg_alloc_past agg_drew agg_setCell row_alloc_at row_alloc_past row_drew setRow_alloc_at setRow_alloc_past setRow_drew agg_setRow_at agg_setRow_far cell_setRow_at cell_setRow_far row_setRow_far size_setRow tgC_size tgC_one tgC_part tgC_splice tokC_size tokC_0 tokC_1 tokC_2 tokC_3 tokC_g0 tokC_g1 tokC_g2 tokC_g3 tokC_part tokC_tag tokC_set0 tokC_set1 tokC_set2 tokC_set3 tokC_splice tokC_splice0 tgC_splice_any zero_tg zero_tok tokC_all tokC_ne tgC_ne

/-- A token in block g. -/
def TokIn (w : World) (g : Nat) (t : Tok) (A : Option Addr) (n c : Nat) : Prop := w.heap[g]? = some (.cells (tokC (.int .u64 (t.key : Int)) (.string t.id) (.slice A n c) (.bool t.bnd) t.tag) 59)
theorem TokIn.agg {w : World} {g : Nat} {t : Tok} {A : Option Addr} {n c : Nat} (h : TokIn w g t A n c) : agg? w ⟨g, 0, none⟩ 36 = some (tokC (.int .u64 (t.key : Int)) (.string t.id) (.slice A n c) (.bool t.bnd) t.tag) := by
  rw [agg_of_row h 0 36 (by decide)]
  exact tokC_part _ _ _ _ _
theorem TokIn.lt {w : World} {g : Nat} {t : Tok} {A : Option Addr} {n c : Nat} (h : TokIn w g t A n c) : g < w.heap.size := (Array.getElem?_eq_some_iff.1 h).1
theorem TokIn.below {w w' : World} {g : Nat} {t : Tok} {A : Option Addr} {n c : Nat} (h : TokIn w g t A n c) (hb : Below w.heap.size w w') : TokIn w' g t A n c := (hb.block g (Array.getElem?_eq_some_iff.1 h).1).trans h
theorem opt_bool {o : Option Value} {b : Bool} (h : o.getD undef = .bool b) : o = some (.bool b) := by
  cases o with
  | none => cases h
  | some v => simpa using h
theorem great_one (b : Bool) : ((if b = true then (1 : Int) else 0) == 1) = b := by cases b <;> rfl

theorem enc_len {t : Tok} (h : checkT t = true) (hk : t.ok) : (enc t).length ≤ 1099511627776 := by
  have hc : t.id.size ≤ 1024 ∧ t.cavs.length ≤ 64 ∧ t.cavs.all canC = true := by
    simp only [checkT, Bool.and_eq_true, decide_eq_true_eq] at h
    exact ⟨h.1.1, h.1.2, h.2⟩
  have hcs : ∀ l : List Cav, (∀ x ∈ l, canC x = true ∧ x.party < 18446744073709551616) → (fjoin (l.flatMap cavFlds)).length ≤ 5000 * l.length := by
    intro l
    induction l with
    | nil => intro _; simp [fjoin]
    | cons x l ih =>
      intro hl
      have h1 := hl x (by simp)
      have h2 := ih (fun y hy => hl y (by simp [hy]))
      have h3 := cav_len h1.1 h1.2
      rw [List.flatMap_cons, fjoin_app, List.length_append, List.length_cons]
      omega
  have h1 := hcs t.cavs (fun x hx => ⟨List.all_eq_true.1 hc.2.2 x hx, hk.2 x hx⟩)
  have e1 := fput_len ⟨1, txt (vput t.key)⟩ (by have := vput_len10 hk.1; simp only [txt_size]; omega)
  have e2 := fput_len ⟨2, t.id⟩ (by simp only; omega)
  have e3 := fput_len ⟨7, flagB t.bnd⟩ (by cases t.bnd <;> decide)
  have e4 := fput_len ⟨8, txt t.tag.l⟩ (by simp only [txt_size, t.tag.len]; decide)
  have hv := vput_len10 hk.1
  have hf : (flagB t.bnd).size = 1 := by cases t.bnd <;> rfl
  simp only [txt_size, t.tag.len, hf] at e1 e2 e3 e4
  rw [enc, encFlds, fjoin_app, fjoin_app, List.length_append, List.length_append]
  simp only [fjoin, List.flatMap_cons, List.flatMap_nil, List.length_append, List.length_nil] at *
  omega
set_option maxRecDepth 100000 in
set_option maxHeartbeats 400000 in
theorem c_back (t u : Tok) (A B C : Option Addr) (n c m d k e : Nat) (xs : List UInt8) (ok : Nat → Prop) (w : World) (hR : kCav.Row ok w A n c t.cavs) (hS : kCav.Row ok w B m d u.cavs) (hX : kU8.Row ok w C k e xs) (ht : t.ok) (hu : u.ok) :
    Calls Try.prog 6 #[tokV t A n c, tokV u B m d, .slice C k e] w fun e w' => e = .returned (.bool true) ∧ Below w.heap.size w w' := by
  have HR := hide hR
  have HS := hide hS
  have HX := hide hX
  have HT := hide ht
  have HU := hide hu
  have hke : k ≤ 9223372036854775807 := Nat.le_trans hX.2.1 hX.2.2.1
  clear hR hS hX ht hu
  go_enter Try.func6, Try.ntmps6
  go_wp2_with fail
  refine (c_palive _).mono ?_
  rintro x w1 ⟨rfl, b1⟩
  have HB1 := hide (bnext (below2 _ _ _) b1)
  have hT1 : TokIn w1 w.heap.size t A n c := (b1.block _ (by simp; omega)).trans ((Below.heap_alloc _ _ _ (by simp)).trans (heap_alloc_new _ _))
  have hU1 : TokIn w1 (w.heap.size + 1) u B m d := (b1.block _ (by simp)).trans (heap_new2 _ _ _)
  have HT1 := hide hT1
  have HU1 := hide hU1
  have ha := hT1.agg
  clear b1 hT1 hU1
  go_wp2_with fail
  refine (c_great t A n c ok w1 (HR.out.below HB1.out)).mono ?_
  rintro x w2 ⟨g1, rfl, b2⟩
  have HB2 := hide (bnext HB1.out b2)
  have HT2 := hide (HT1.out.below b2)
  have HU2 := hide (HU1.out.below b2)
  have ha2 := HU2.out.agg
  clear b2 ha
  cases g1 with
  | true =>
    simp only [if_true]
    go_wp2_with fail
    go_ret
    exact ⟨rfl, HB2.out⟩
  | false =>
    simp only [Bool.false_eq_true, if_false]
    go_wp2_with fail
    refine (c_great u B m d ok w2 (HS.out.below HB2.out)).mono ?_
    rintro x w3 ⟨g2, rfl, b3⟩
    have HB3 := hide (bnext HB2.out b3)
    have HT3 := hide (HT2.out.below b3)
    have HU3 := hide (HU2.out.below b3)
    have ha3 := HT3.out.agg
    clear b3 ha2
    cases g2 with
    | true =>
      simp only [if_true]
      go_wp2_with fail
      go_ret
      exact ⟨rfl, HB3.out⟩
    | false =>
      simp only [Bool.false_eq_true, if_false]
      by_cases hk : 10000 < k
      · go_wp2_with fail
        go_ret
        exact ⟨rfl, HB3.out⟩
      · have hk' : k ≤ 10000 := by omega
        clear hk
        go_wp2_with fail
        refine (c_encode t A n c ok w3 (HR.out.below HB3.out) HT.out.1).mono ?_
        rintro x w4 ⟨v4, rfl, ho4, b4⟩
        obtain ⟨et, het⟩ : ∃ et, et = (if checkT t = true then enc t else []) := ⟨_, rfl⟩
        rw [← het] at ho4
        have HET := hide het
        obtain ⟨A4, c4, rfl, hr4⟩ := ho4.row
        have HB4 := hide (bnext HB3.out b4)
        have HT4 := hide (HT3.out.below b4)
        have HU4 := hide (HU3.out.below b4)
        have HX4 := hide (hr4.more (ok' := fun _ => True) fun _ _ => trivial)
        have ha4 := HU4.out.agg
        clear b4 ho4 hr4 ha3 het
        go_wp2_with fail
        refine (c_encode u B m d ok w4 (HS.out.below HB4.out) HU.out.1).mono ?_
        rintro x w5 ⟨v5, rfl, ho5, b5⟩
        obtain ⟨eu, heu⟩ : ∃ eu, eu = (if checkT u = true then enc u else []) := ⟨_, rfl⟩
        rw [← heu] at ho5
        have HEU := hide heu
        obtain ⟨A5, c5, rfl, hr5⟩ := ho5.row
        have HB5 := hide (bnext HB4.out b5)
        have HT5 := hide (HT4.out.below b5)
        have HU5 := hide (HU4.out.below b5)
        have HX5 := hide (HX4.out.below b5)
        have HY5 := hide (hr5.more (ok' := fun _ => True) fun _ _ => trivial)
        clear b5 ho5 hr5 ha4 heu
        cases hct : checkT t with
        | true =>
          cases hcu : checkT u with
          | true =>
            have HCT := hide hct
            have HCU := hide hcu
            clear hct hcu
            simp only [errV, if_true]
            have HEE : Hid (et = enc t) := hide (by rw [HET.out, HCT.out]; rfl)
            have hel : et.length ≤ 1099511627776 := by rw [HEE.out]; exact enc_len HCT.out HT.out
            have hpe : pdec et = some t := by rw [HEE.out]; exact pdec_enc HCT.out HT.out
            go_wp2_with fail
            refine (c_decode A4 et.length c4 et _ w5 HX5.out hel).mono ?_
            rintro x w6 ⟨A6, n6, c6, rfl, ho6, b6⟩
            rw [hpe] at ho6 ⊢
            have HB6 := hide (bnext HB5.out b6)
            have HT6 := hide (HT5.out.below b6)
            have HU6 := hide (HU5.out.below b6)
            have HX6 := hide (HX5.out.below b6)
            have HY6 := hide (HY5.out.below b6)
            have HO6 := hide ho6
            have ha6 := HT6.out.agg
            have hl6 := HT6.out.lt
            have hm6 := HU6.out.lt
            clear b6 ho6 hpe hel
            simp only [Option.getD_some, Option.isSome_some, if_true]
            go_wp2_with fail
            refine (c_psame t t A6 A n6 c6 n c _ ok _ ((own_row_of HO6.out).alloc _) ((HR.out.below HB6.out).alloc _)).mono ?_
            rintro x w7 ⟨rfl, b7⟩
            have b7' := bnext (below1 w6 _) b7
            have HB7 := hide (bnext HB6.out b7')
            have HT7 := hide (HT6.out.below b7')
            have HU7 := hide (HU6.out.below b7')
            have HX7 := hide (HX6.out.below b7')
            have HY7 := hide (HY6.out.below b7')
            have ha7 := HT7.out.agg
            have hb7 := HU7.out.agg
            clear b7 b7' ha6 hl6 hm6
            simp only [decide_true]
            go_wp2_with fail

            have HEU2 : Hid (eu = enc u) := hide (by rw [HEU.out, HCU.out]; rfl)
            have HIFF : Hid (((txt et).toList = (txt eu).toList) ↔ t = u) := hide (by
              rw [bytes_inj, HEE.out, HEU2.out]
              constructor
              · intro h
                have h' := congrArg byt h
                rw [byt_txt, byt_txt] at h'
                have p1 := pdec_enc HCT.out HT.out
                rw [h', pdec_enc HCU.out HU.out] at p1
                exact (Option.some.inj p1).symm
              · rintro rfl; rfl)
            refine wp_region_ext mixed 16 (fun i v _ => match i with
              | 0 => v = .int .i64 0
              | 1 => v = .bool true
              | 2 => v = .bool true
              | 3 => v = .int .i64 0
              | 4 => v = .bool true
              | 5 => v = .bool true
              | 6 => v = .bool true
              | 7 => v = .slice A4 et.length c4
              | 8 => v = .string (txt et)
              | 9 => v = .slice A5 eu.length c5
              | 10 => v = .string (txt eu)
              | 11 => v = .bool (decide (t = u))
              | 12 => v = tokV t A n c
              | 13 => v = tokV u B m d
              | 14 => v = .bool (decide (t = u))
              | _ => v = .bool false
              ) (by kernel_rfl) rfl ?_ ?_ ?_
            · intro i v w1 w2 h1 h2
              split at h2 <;> exact h2
            · refine ⟨fun a w1 hle hd hf hs K hK => ?_, fun a w1 hle hd hf hs K hK => ?_, fun a w1 hle hd hf hs K hK => ?_, fun a w1 hle hd hf hs K hK => ?_, fun a w1 hle hd hf hs K hK => ?_, fun a w1 hle hd hf hs K hK => ?_, fun a w1 hle hd hf hs K hK => ?_, fun a w1 hle hd hf hs K hK => ?_, fun a w1 hle hd hf hs K hK => ?_, fun a w1 hle hd hf hs K hK => ?_, fun a w1 hle hd hf hs K hK => ?_, fun a w1 hle hd hf hs K hK => ?_, fun a w1 hle hd hf hs K hK => ?_, fun a w1 hle hd hf hs K hK => ?_, fun a w1 hle hd hf hs K hK => ?_, fun a w1 hle hd hf hs K hK => ?_, trivial⟩
              all_goals clear hd
              · have e8 := hf 8 rfl; simp [Act.eval] at e8
                go_simp; exact hK _ _ (Ext.refl _) rfl
              · have e57 := hs 0 57 (by kernel_rfl) rfl; simp [Act.eval] at e57
                go_simp; exact hK _ _ (Ext.refl _) rfl
              · have e58 := hs 1 58 (by kernel_rfl) rfl; simp [Act.eval] at e58
                go_simp; exact hK _ _ (Ext.refl _) rfl
              · have e10 := hf 10 rfl; have gg := hs 2 59 (by kernel_rfl) rfl; simp [Act.eval] at e10 gg; replace gg := opt_bool gg
                go_simp; exact hK _ _ (Ext.refl _) rfl
              · have e60 := hs 3 60 (by kernel_rfl) rfl; have gg := hs 2 59 (by kernel_rfl) rfl; simp [Act.eval] at e60 gg; replace gg := opt_bool gg
                go_simp; exact hK _ _ (Ext.refl _) rfl
              · have e59 := hs 2 59 (by kernel_rfl) rfl; have e61 := hs 4 61 (by kernel_rfl) rfl; simp [Act.eval] at e59 e61
                go_simp; exact hK _ _ (Ext.refl _) rfl
              · have e62 := hs 5 62 (by kernel_rfl) rfl; simp [Act.eval] at e62
                go_simp; exact hK _ _ (Ext.refl _) rfl
              · have e7 := hf 7 rfl; have gg := hs 6 63 (by kernel_rfl) rfl; simp [Act.eval] at e7 gg; replace gg := opt_bool gg
                go_simp; exact hK _ _ (Ext.refl _) rfl
              · have e64 := hs 7 64 (by kernel_rfl) rfl; have gg := hs 6 63 (by kernel_rfl) rfl; simp [Act.eval] at e64 gg; replace gg := opt_bool gg
                have hq := row_string (P := Try.prog) Try.underlying60 Try.underlying5 Try.underlying9 (HX7.out.below hle)
                go_simp; exact hK _ _ (Ext.refl _) rfl
              · have e9 := hf 9 rfl; have gg := hs 6 63 (by kernel_rfl) rfl; simp [Act.eval] at e9 gg; replace gg := opt_bool gg
                go_simp; exact hK _ _ (Ext.refl _) rfl
              · have e66 := hs 9 66 (by kernel_rfl) rfl; have gg := hs 6 63 (by kernel_rfl) rfl; simp [Act.eval] at e66 gg; replace gg := opt_bool gg
                have hq := row_string (P := Try.prog) Try.underlying60 Try.underlying5 Try.underlying9 (HY7.out.below hle)
                go_simp; exact hK _ _ (Ext.refl _) rfl
              · have e65 := hs 8 65 (by kernel_rfl) rfl; have e67 := hs 10 67 (by kernel_rfl) rfl; have gg := hs 6 63 (by kernel_rfl) rfl; simp [Act.eval] at e65 e67 gg; replace gg := opt_bool gg
                by_cases htu : t = u
                · have h1 := HIFF.out.2 htu
                  go_simp; exact hK _ _ (Ext.refl _) (by simp [htu])
                · have h1 : ¬ (txt et).toList = (txt eu).toList := fun h => htu (HIFF.out.1 h)
                  go_simp; exact hK _ _ (Ext.refl _) (by simp [htu]; exact fun h => h1 (by rw [h]))
              · have e3 := hf 3 rfl; have gg := hs 6 63 (by kernel_rfl) rfl; simp [Act.eval] at e3 gg; replace gg := opt_bool gg
                have hq := (HT7.out.below hle).agg
                go_simp; exact hK _ _ (Ext.refl _) rfl
              · have e4 := hf 4 rfl; have gg := hs 6 63 (by kernel_rfl) rfl; simp [Act.eval] at e4 gg; replace gg := opt_bool gg
                have hq := (HU7.out.below hle).agg
                go_simp; exact hK _ _ (Ext.refl _) rfl
              · have e69 := hs 12 69 (by kernel_rfl) rfl; have e70 := hs 13 70 (by kernel_rfl) rfl; have gg := hs 6 63 (by kernel_rfl) rfl; simp [Act.eval] at e69 e70 gg; replace gg := opt_bool gg
                go_simp
                refine (c_psame t u A B n c m d ok ok w1 ((HR.out.below HB7.out).below hle) ((HS.out.below HB7.out).below hle)).mono ?_
                rintro x w8 ⟨rfl, b8⟩
                exact hK _ _ b8 rfl
              · have e68 := hs 11 68 (by kernel_rfl) rfl; have e71 := hs 14 71 (by kernel_rfl) rfl; have gg := hs 6 63 (by kernel_rfl) rfl; simp [Act.eval] at e68 e71 gg; replace gg := opt_bool gg
                go_simp; exact hK _ _ (Ext.refl _) rfl
            · intro vs w8 hle hs
              have v5 := hs 5 (by omega) rfl
              have v6 := hs 6 (by omega) rfl
              have v15 := hs 15 (by omega) rfl
              simp only at v5 v6 v15
              clear hs
              have HB8 := hide (bnext HB7.out hle)
              clear hle
              simp only [putN, dstAt]
              go_simp
              have HXX := hide (HX.out.below (HB8.out))
              have HBX := hide (HB8.out)
              go_wp2_with fail
              refine (c_decode C k e xs _ w8 HXX.out (by omega)).mono ?_
              rintro x w20 ⟨A20, n20, c20, rfl, ho20, b20⟩
              have HB20 := hide (bnext HBX.out b20)
              have HX20 := hide (HXX.out.below b20)
              have HO20 := hide ho20
              clear b20 ho20
              cases hpd : pdec xs with
              | none =>
                have hrz := own_row_of HO20.out
                rw [hpd] at hrz
                have HRZ := hide hrz
                clear hpd hrz
                simp only [Option.getD_none, Option.isSome_none, Bool.false_eq_true, if_false]
                go_wp2_with fail
                refine (c_encode Tok.zero A20 n20 c20 _ _ (HRZ.out.alloc _) (by decide)).mono ?_
                rintro x w21 ⟨v21, rfl, ho21, b21⟩
                have hck : checkT Tok.zero = true := by decide
                rw [hck]
                have b21' := bnext (below1 w20 _) b21
                have HB21 := hide (bnext HB20.out b21')
                have HR21 := hide (HRZ.out.below b21')
                have hz : TokIn w21 w20.heap.size Tok.zero A20 n20 c20 := (b21.block _ (by simp)).trans (heap_alloc_new _ _)
                have hza := hz.agg
                have hzl := hz.lt
                clear b21 b21' ho21 hz hck
                simp only [errV, if_true]
                go_wp2_with fail
                refine (c_psame Tok.zero Tok.zero A20 none n20 c20 0 0 _ (fun _ => True) w21 HR21.out (.nil _ _ _ _ _ (Nat.zero_le _))).mono ?_
                rintro x w22 ⟨rfl, b22⟩
                have HB22 := hide (bnext HB21.out b22)
                clear b22
                simp only [decide_true]
                go_wp2_with fail
                go_ret
                exact ⟨rfl, HB22.out⟩
              | some q =>
                obtain ⟨q1, q2, q3⟩ := pdec_back hpd
                have hrz := own_row_of HO20.out
                rw [hpd] at hrz
                have HRZ := hide hrz
                have HQ1 := hide q1
                have HQ2 := hide q2
                have HQ3 := hide q3
                clear hpd hrz q1 q2 q3
                simp only [Option.getD_some, Option.isSome_some, if_true]
                go_wp2_with fail
                refine (c_encode q A20 n20 c20 _ _ (HRZ.out.alloc _) HQ3.out.1).mono ?_
                rintro x w21 ⟨v21, rfl, ho21, b21⟩
                rw [HQ2.out, if_pos rfl, HQ1.out] at ho21
                rw [HQ2.out]
                obtain ⟨A21, c21, rfl, hr21⟩ := ho21.row
                have b21' := bnext (below1 w20 _) b21
                have HB21 := hide (bnext HB20.out b21')
                have hst1 := row_string (P := Try.prog) Try.underlying60 Try.underlying5 Try.underlying9 hr21
                have hst2 := row_string (P := Try.prog) Try.underlying60 Try.underlying5 Try.underlying9 (HX20.out.below b21')
                clear b21 b21' ho21 hr21
                simp only [errV, if_true]
                go_wp2_with fail
                go_ret
                exact ⟨rfl, HB21.out⟩
          | false =>
            have HCT := hide hct
            have HCU := hide hcu
            clear hct hcu
            simp only [errV, if_true, Bool.false_eq_true, if_false]
            have HEE : Hid (et = enc t) := hide (by rw [HET.out, HCT.out]; rfl)
            have hel : et.length ≤ 1099511627776 := by rw [HEE.out]; exact enc_len HCT.out HT.out
            have hpe : pdec et = some t := by rw [HEE.out]; exact pdec_enc HCT.out HT.out
            go_wp2_with fail
            refine (c_decode A4 et.length c4 et _ w5 HX5.out hel).mono ?_
            rintro x w6 ⟨A6, n6, c6, rfl, ho6, b6⟩
            rw [hpe] at ho6 ⊢
            have HB6 := hide (bnext HB5.out b6)
            have HT6 := hide (HT5.out.below b6)
            have HU6 := hide (HU5.out.below b6)
            have HX6 := hide (HX5.out.below b6)
            have HY6 := hide (HY5.out.below b6)
            have HO6 := hide ho6
            have ha6 := HT6.out.agg
            have hl6 := HT6.out.lt
            have hm6 := HU6.out.lt
            clear b6 ho6 hpe hel
            simp only [Option.getD_some, Option.isSome_some, if_true]
            go_wp2_with fail
            refine (c_psame t t A6 A n6 c6 n c _ ok _ ((own_row_of HO6.out).alloc _) ((HR.out.below HB6.out).alloc _)).mono ?_
            rintro x w7 ⟨rfl, b7⟩
            have b7' := bnext (below1 w6 _) b7
            have HB7 := hide (bnext HB6.out b7')
            have HT7 := hide (HT6.out.below b7')
            have HU7 := hide (HU6.out.below b7')
            have HX7 := hide (HX6.out.below b7')
            have HY7 := hide (HY6.out.below b7')
            have ha7 := HT7.out.agg
            have hb7 := HU7.out.agg
            clear b7 b7' ha6 hl6 hm6
            simp only [decide_true]
            go_wp2_with fail
            go_region

            have HXX := hide (HX.out.below (HB7.out.drew))
            have HBX := hide (HB7.out.drew)
            go_wp2_with fail
            refine (c_decode C k e xs _ w7.drew HXX.out (by omega)).mono ?_
            rintro x w20 ⟨A20, n20, c20, rfl, ho20, b20⟩
            have HB20 := hide (bnext HBX.out b20)
            have HX20 := hide (HXX.out.below b20)
            have HO20 := hide ho20
            clear b20 ho20
            cases hpd : pdec xs with
            | none =>
              have hrz := own_row_of HO20.out
              rw [hpd] at hrz
              have HRZ := hide hrz
              clear hpd hrz
              simp only [Option.getD_none, Option.isSome_none, Bool.false_eq_true, if_false]
              go_wp2_with fail
              refine (c_encode Tok.zero A20 n20 c20 _ _ (HRZ.out.alloc _) (by decide)).mono ?_
              rintro x w21 ⟨v21, rfl, ho21, b21⟩
              have hck : checkT Tok.zero = true := by decide
              rw [hck]
              have b21' := bnext (below1 w20 _) b21
              have HB21 := hide (bnext HB20.out b21')
              have HR21 := hide (HRZ.out.below b21')
              have hz : TokIn w21 w20.heap.size Tok.zero A20 n20 c20 := (b21.block _ (by simp)).trans (heap_alloc_new _ _)
              have hza := hz.agg
              have hzl := hz.lt
              clear b21 b21' ho21 hz hck
              simp only [errV, if_true]
              go_wp2_with fail
              refine (c_psame Tok.zero Tok.zero A20 none n20 c20 0 0 _ (fun _ => True) w21 HR21.out (.nil _ _ _ _ _ (Nat.zero_le _))).mono ?_
              rintro x w22 ⟨rfl, b22⟩
              have HB22 := hide (bnext HB21.out b22)
              clear b22
              simp only [decide_true]
              go_wp2_with fail
              go_ret
              exact ⟨rfl, HB22.out⟩
            | some q =>
              obtain ⟨q1, q2, q3⟩ := pdec_back hpd
              have hrz := own_row_of HO20.out
              rw [hpd] at hrz
              have HRZ := hide hrz
              have HQ1 := hide q1
              have HQ2 := hide q2
              have HQ3 := hide q3
              clear hpd hrz q1 q2 q3
              simp only [Option.getD_some, Option.isSome_some, if_true]
              go_wp2_with fail
              refine (c_encode q A20 n20 c20 _ _ (HRZ.out.alloc _) HQ3.out.1).mono ?_
              rintro x w21 ⟨v21, rfl, ho21, b21⟩
              rw [HQ2.out, if_pos rfl, HQ1.out] at ho21
              rw [HQ2.out]
              obtain ⟨A21, c21, rfl, hr21⟩ := ho21.row
              have b21' := bnext (below1 w20 _) b21
              have HB21 := hide (bnext HB20.out b21')
              have hst1 := row_string (P := Try.prog) Try.underlying60 Try.underlying5 Try.underlying9 hr21
              have hst2 := row_string (P := Try.prog) Try.underlying60 Try.underlying5 Try.underlying9 (HX20.out.below b21')
              clear b21 b21' ho21 hr21
              simp only [errV, if_true]
              go_wp2_with fail
              go_ret
              exact ⟨rfl, HB21.out⟩
        | false =>
          cases hcu : checkT u with
          | true =>
            have HCT := hide hct
            have HCU := hide hcu
            clear hct hcu
            simp only [errV, if_true, Bool.false_eq_true, if_false]
            go_wp2_with fail
            go_region

            have HXX := hide (HX.out.below (HB5.out.drew))
            have HBX := hide (HB5.out.drew)
            go_wp2_with fail
            refine (c_decode C k e xs _ w5.drew HXX.out (by omega)).mono ?_
            rintro x w20 ⟨A20, n20, c20, rfl, ho20, b20⟩
            have HB20 := hide (bnext HBX.out b20)
            have HX20 := hide (HXX.out.below b20)
            have HO20 := hide ho20
            clear b20 ho20
            cases hpd : pdec xs with
            | none =>
              have hrz := own_row_of HO20.out
              rw [hpd] at hrz
              have HRZ := hide hrz
              clear hpd hrz
              simp only [Option.getD_none, Option.isSome_none, Bool.false_eq_true, if_false]
              go_wp2_with fail
              refine (c_encode Tok.zero A20 n20 c20 _ _ (HRZ.out.alloc _) (by decide)).mono ?_
              rintro x w21 ⟨v21, rfl, ho21, b21⟩
              have hck : checkT Tok.zero = true := by decide
              rw [hck]
              have b21' := bnext (below1 w20 _) b21
              have HB21 := hide (bnext HB20.out b21')
              have HR21 := hide (HRZ.out.below b21')
              have hz : TokIn w21 w20.heap.size Tok.zero A20 n20 c20 := (b21.block _ (by simp)).trans (heap_alloc_new _ _)
              have hza := hz.agg
              have hzl := hz.lt
              clear b21 b21' ho21 hz hck
              simp only [errV, if_true]
              go_wp2_with fail
              refine (c_psame Tok.zero Tok.zero A20 none n20 c20 0 0 _ (fun _ => True) w21 HR21.out (.nil _ _ _ _ _ (Nat.zero_le _))).mono ?_
              rintro x w22 ⟨rfl, b22⟩
              have HB22 := hide (bnext HB21.out b22)
              clear b22
              simp only [decide_true]
              go_wp2_with fail
              go_ret
              exact ⟨rfl, HB22.out⟩
            | some q =>
              obtain ⟨q1, q2, q3⟩ := pdec_back hpd
              have hrz := own_row_of HO20.out
              rw [hpd] at hrz
              have HRZ := hide hrz
              have HQ1 := hide q1
              have HQ2 := hide q2
              have HQ3 := hide q3
              clear hpd hrz q1 q2 q3
              simp only [Option.getD_some, Option.isSome_some, if_true]
              go_wp2_with fail
              refine (c_encode q A20 n20 c20 _ _ (HRZ.out.alloc _) HQ3.out.1).mono ?_
              rintro x w21 ⟨v21, rfl, ho21, b21⟩
              rw [HQ2.out, if_pos rfl, HQ1.out] at ho21
              rw [HQ2.out]
              obtain ⟨A21, c21, rfl, hr21⟩ := ho21.row
              have b21' := bnext (below1 w20 _) b21
              have HB21 := hide (bnext HB20.out b21')
              have hst1 := row_string (P := Try.prog) Try.underlying60 Try.underlying5 Try.underlying9 hr21
              have hst2 := row_string (P := Try.prog) Try.underlying60 Try.underlying5 Try.underlying9 (HX20.out.below b21')
              clear b21 b21' ho21 hr21
              simp only [errV, if_true]
              go_wp2_with fail
              go_ret
              exact ⟨rfl, HB21.out⟩
          | false =>
            have HCT := hide hct
            have HCU := hide hcu
            clear hct hcu
            simp only [errV, Bool.false_eq_true, if_false]
            go_wp2_with fail
            go_region

            have HXX := hide (HX.out.below (HB5.out.drew))
            have HBX := hide (HB5.out.drew)
            go_wp2_with fail
            refine (c_decode C k e xs _ w5.drew HXX.out (by omega)).mono ?_
            rintro x w20 ⟨A20, n20, c20, rfl, ho20, b20⟩
            have HB20 := hide (bnext HBX.out b20)
            have HX20 := hide (HXX.out.below b20)
            have HO20 := hide ho20
            clear b20 ho20
            cases hpd : pdec xs with
            | none =>
              have hrz := own_row_of HO20.out
              rw [hpd] at hrz
              have HRZ := hide hrz
              clear hpd hrz
              simp only [Option.getD_none, Option.isSome_none, Bool.false_eq_true, if_false]
              go_wp2_with fail
              refine (c_encode Tok.zero A20 n20 c20 _ _ (HRZ.out.alloc _) (by decide)).mono ?_
              rintro x w21 ⟨v21, rfl, ho21, b21⟩
              have hck : checkT Tok.zero = true := by decide
              rw [hck]
              have b21' := bnext (below1 w20 _) b21
              have HB21 := hide (bnext HB20.out b21')
              have HR21 := hide (HRZ.out.below b21')
              have hz : TokIn w21 w20.heap.size Tok.zero A20 n20 c20 := (b21.block _ (by simp)).trans (heap_alloc_new _ _)
              have hza := hz.agg
              have hzl := hz.lt
              clear b21 b21' ho21 hz hck
              simp only [errV, if_true]
              go_wp2_with fail
              refine (c_psame Tok.zero Tok.zero A20 none n20 c20 0 0 _ (fun _ => True) w21 HR21.out (.nil _ _ _ _ _ (Nat.zero_le _))).mono ?_
              rintro x w22 ⟨rfl, b22⟩
              have HB22 := hide (bnext HB21.out b22)
              clear b22
              simp only [decide_true]
              go_wp2_with fail
              go_ret
              exact ⟨rfl, HB22.out⟩
            | some q =>
              obtain ⟨q1, q2, q3⟩ := pdec_back hpd
              have hrz := own_row_of HO20.out
              rw [hpd] at hrz
              have HRZ := hide hrz
              have HQ1 := hide q1
              have HQ2 := hide q2
              have HQ3 := hide q3
              clear hpd hrz q1 q2 q3
              simp only [Option.getD_some, Option.isSome_some, if_true]
              go_wp2_with fail
              refine (c_encode q A20 n20 c20 _ _ (HRZ.out.alloc _) HQ3.out.1).mono ?_
              rintro x w21 ⟨v21, rfl, ho21, b21⟩
              rw [HQ2.out, if_pos rfl, HQ1.out] at ho21
              rw [HQ2.out]
              obtain ⟨A21, c21, rfl, hr21⟩ := ho21.row
              have b21' := bnext (below1 w20 _) b21
              have HB21 := hide (bnext HB20.out b21')
              have hst1 := row_string (P := Try.prog) Try.underlying60 Try.underlying5 Try.underlying9 hr21
              have hst2 := row_string (P := Try.prog) Try.underlying60 Try.underlying5 Try.underlying9 (HX20.out.below b21')
              clear b21 b21' ho21 hr21
              simp only [errV, if_true]
              go_wp2_with fail
              go_ret
              exact ⟨rfl, HB21.out⟩
end Go.Proofs.Ytlfhbnajopekpaa
