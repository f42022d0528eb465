/- The document's answer for layer 10: a token's bytes, further. No condition. -/
import Derived.Test.YtlfhbnajopekpaaRf3c
namespace Go.Proofs.Ytlfhbnajopekpaa
open Go.RowKit
attribute [local go_sem ↓] ld16 ld17 ld32 ld36
attribute [local go_sem] run_ldAgg run_storeAgg agg_alloc_at agg_alloc_past agg_drew agg_setCell row_alloc_at row_alloc_past row_drew setRow_alloc_at setRow_alloc_past setRow_drew agg_setRow_at agg_setRow_far cell_setRow_at cell_setRow_far row_setRow_far size_setRow tgC_size tgC_one tgC_part tgC_splice tokC_size tokC_0 tokC_1 tokC_2 tokC_3 tokC_g0 tokC_g1 tokC_g2 tokC_g3 tokC_part tokC_tag tokC_set0 tokC_set1 tokC_set2 tokC_set3 tokC_splice tokC_splice0 tgC_splice_any zero_tg zero_tok tokC_all tokC_ne tgC_ne

theorem one_row {ok : Nat → Prop} {w : World} {g : Nat} {b : UInt8} {E : TypeId} {fr : Nat × Nat} (hg : w.heap[g]? = some (.cells #[bv b] E fr)) (hok : ok g) : kU8.Row ok w (some ⟨g, 0, none⟩) 1 1 [b] := by
  have h : kU8.Els ok w [b] [[bv b]] := .single ⟨rfl, trivial⟩
  exact h.rowAt hg rfl hok (by simp [maxLen])
set_option maxRecDepth 100000 in
set_option maxHeartbeats 1600000 in
theorem c_rbytes (t : Tok) (A : Option Addr) (n c : Nat) (ok : Nat → Prop) (w : World) (hR : kCav.Row ok w A n c t.cavs) (hck : checkT t = true) (hk : t.ok) :
    Calls Try.prog 41 #[tokV t A n c] w fun e w' => ∃ v, e = .returned v ∧ kU8.Own (fun _ => True) w.heap.size w' 5 v (enc t) ∧ Below w.heap.size w w' := by
  have HL := hide hR.1
  have hm : n ≤ 9223372036854775807 := Nat.le_trans hR.2.1 hR.2.2.1
  have HR := hide hR
  have HK := hide hk
  have HEV := hide (encFlds_vals hck hk)
  have HES := hide (enc_small hck hk)
  have hsm : t.id.size ≤ 1024 ∧ t.cavs.length ≤ 64 ∧ t.cavs.all canC = true := by
    simp only [checkT, Bool.and_eq_true, decide_eq_true_eq] at hck
    exact ⟨hck.1.1, hck.1.2, hck.2⟩
  have HSM := hide hsm
  have hn64 : n ≤ 64 := by rw [← HL.out]; exact hsm.2.1
  have HV1 := hide (vput_len10 hk.1)
  clear hR hck hk hsm
  go_enter Try.func41, Try.ntmps41
  go_wp2_with fail
  obtain ⟨w0, hw0⟩ : ∃ w0, w0 = w.alloc (.cells (tokA t A n c) 59) := ⟨_, rfl⟩
  have HB0 := hide (show Below w.heap.size w w0 by rw [hw0]; exact below1 _ _)
  have hs0 : w0.heap.size = w.heap.size + 1 := by rw [hw0]; simp
  have hg0 : w0.heap[w.heap.size]? = some (.cells (tokA t A n c) 59) := by rw [hw0]; exact heap_alloc_new _ _
  rw [← hw0]
  have HG0 := hide hg0
  have HS0 := hide hs0
  clear hw0 hg0 hs0
  refine wp_region_ext mixed 8 (fun i v w' => match i with
    | 0 => v = .pointer (some ⟨w.heap.size, 0, none⟩)
    | 1 => v = .int .u64 (t.key : Int)
    | 2 => v = .string (txt (vput t.key))
    | 3 => v = .agg #[.int .u8 1, .string (txt (vput t.key))]
    | 4 => v = .pointer (some ⟨w.heap.size, 1, none⟩)
    | 5 => v = .string t.id
    | 6 => v = .agg #[.int .u8 2, .string t.id]
    | _ => kFld.Own (fun _ => True) w0.heap.size w' 134 v [⟨1, txt (vput t.key)⟩, ⟨2, t.id⟩]
    ) (by kernel_rfl) rfl ?_ ?_ ?_
  · intro i v w1 w2 h1 h2
    split at h2 <;> first | exact h2 | exact h2.below h1
  · refine ⟨fun a w2 hle hd hf hs K hK => ?_, fun a w2 hle hd hf hs K hK => ?_, fun a w2 hle hd hf hs K hK => ?_, fun a w2 hle hd hf hs K hK => ?_, fun a w2 hle hd hf hs K hK => ?_, fun a w2 hle hd hf hs K hK => ?_, fun a w2 hle hd hf hs K hK => ?_, fun a w2 hle hd hf hs K hK => ?_, trivial⟩
    all_goals clear hd
    · have e1 := hf 1 rfl; simp [Act.eval] at e1
      go_simp; exact hK _ _ (Ext.refl _) rfl
    · have e7 := hs 0 7 (by kernel_rfl) rfl; simp [Act.eval] at e7
      have hc : w2.cell? ⟨w.heap.size, 0, none⟩ = some (.int .u64 (t.key : Int)) := (cell_of_row w2 _ _ _ _ _ (hle.heap HG0.out)).trans (tokC_0 _ _ _ _ _)
      go_simp; exact hK _ _ (Ext.refl _) rfl
    · have e8 := hs 1 8 (by kernel_rfl) rfl; simp [Act.eval] at e8
      go_simp
      refine (c_rnum t.key _ w2 rfl HK.out.1).mono ?_
      rintro e w3 ⟨rfl, b⟩
      exact hK _ _ b rfl
    · have e9 := hs 2 9 (by kernel_rfl) rfl; simp [Act.eval] at e9
      go_simp; exact hK _ _ (Ext.refl _) rfl
    · have e1 := hf 1 rfl; simp [Act.eval] at e1
      go_simp; exact hK _ _ (Ext.refl _) rfl
    · have e11 := hs 4 11 (by kernel_rfl) rfl; simp [Act.eval] at e11
      have hc : w2.cell? ⟨w.heap.size, 1, none⟩ = some (.string t.id) := (cell_of_row w2 _ _ _ _ _ (hle.heap HG0.out)).trans (tokC_1 _ _ _ _ _)
      go_simp; exact hK _ _ (Ext.refl _) rfl
    · have e12 := hs 5 12 (by kernel_rfl) rfl; simp [Act.eval] at e12
      go_simp; exact hK _ _ (Ext.refl _) rfl
    · have e10 := hs 3 10 (by kernel_rfl) rfl; have e13 := hs 6 13 (by kernel_rfl) rfl; simp [Act.eval] at e10 e13
      go_simp
      refine hK _ _ (Ext.alloc _ _) (Kd.Own.lit (flds_els (l := [⟨1, txt (vput t.key)⟩, ⟨2, t.id⟩]) fun f hf => ?_) _ rfl 2 rfl (by decide) _ rfl hle.size)
      have h1 := HV1.out
      have h2 := HSM.out.1
      simp only [List.mem_cons, List.not_mem_nil, or_false] at hf
      rcases hf with rfl | rfl
      · simp only [txt_size, maxLen]; omega
      · simp only [maxLen]; omega
  · intro vs w1 hle hs
    have v7 := hs 7 (by omega) rfl
    simp only at v7
    clear hs
    obtain ⟨A1, c1, v7e⟩ := v7.form
    rw [v7e] at v7
    have HO1 := hide v7
    have HLE := hide hle
    clear v7 hle
    simp only [putN, dstAt]
    go_simp
    have hs1 : w0.heap.size ≤ w1.heap.size := HLE.out.size
    have hy2 : w1.cell? ⟨w.heap.size, 2, none⟩ = some (.slice A n c) := (cell_of_row w1 _ _ _ _ _ (HLE.out.heap HG0.out)).trans (tokC_2 _ _ _ _ _)
    go_wp2_with fail
    go_loopw [18, 3] (fun i p wr => ∃ (k : Nat) (lp : List Fld), k ≤ n ∧ i = .int .i64 (k : Int) ∧ Hid (lp = [⟨1, txt (vput t.key)⟩, ⟨2, t.id⟩] ++ (t.cavs.take k).flatMap cavFlds) ∧ Hid (kFld.Own (fun _ => True) w0.heap.size wr 134 p lp) ∧ Hid (lp.length ≤ 2 + 3 * k) ∧ Hid (Below w0.heap.size w0 wr)) (fun i _ _ => n - (intOf i).toNat)
    case atStart => exact ⟨0, _, Nat.zero_le _, rfl, hide rfl, hide (by simpa using HO1.out), hide (by simp), HLE⟩
    case round =>
      obtain ⟨k, lp, hk, rfl, HLP, HO, HLN, HBW⟩ := hrel
      have HWW := hide (HB0.out.trans (HBW.out.mono HB0.out.size))
      by_cases hlt : k < n
      · obtain ⟨x, hx⟩ : ∃ x, t.cavs[k]? = some x := ⟨_, List.getElem?_eq_getElem (by have := HL.out; omega)⟩
        obtain ⟨b, q, csx, hix, -, hbl, hK, hra⟩ := (HR.out.below HWW.out).index (P := Try.prog) Try.underlying57 (E := 85) cav_size hx
        have hKe := hK.1
        have HOK := hide hK.2
        subst hKe
        have a0 := hra 0 _ rfl
        have a1 := hra 1 _ rfl
        have a2 := hra 2 _ rfl
        have a3 := hra 3 _ rfl
        have a4 := hra 4 _ rfl
        simp only [Nat.add_zero] at a0
        have HTK : Hid (t.cavs.take (k + 1) = t.cavs.take k ++ [x]) := hide (by rw [List.take_add_one, hx]; rfl)
        have hsw := HBW.out.size
        clear hx hK hra
        go_wp2_with fail
        refine (c_rcav x _ HOK.out.2.1 HOK.out.1 HOK.out.2.2.1 HOK.out.2.2.2).mono ?_
        rintro e w4 ⟨⟨A4, n4, c4, rfl, hr4⟩, hb⟩
        have hb' := bnext (below1 wr _) hb
        have HB4 := hide (HBW.out.trans (hb'.mono hsw))
        have HOW := hide (HO.out.below hb')
        have HR4 := hide hr4
        have hs4 := HB4.out.size
        have hl4 := hr4.1
        have hl4' := cavFlds_len x
        clear hb hb' hr4
        go_wp2_with (at_builtin; go_must (refine wpList_app (d := kFld) (ys := cavFlds x) rfl _ _ _ rfl Try.underlying88 rfld_info rfl (by decide) c4 rfl rfl (.inl HOW.out) (src_fld2 HR4.out.src) hs4 ?_ ?_ ?_))
        · have := HLN.out; simp only [maxLen]; omega
        · have := HLN.out; omega
        · intro v5 w5 _ h2 h3 _ _
          have HO5 := hide (h2 (.inr HOW.out))
          have HB5 := hide (HB4.out.trans h3)
          clear h2 h3
          go_wp2_with fail
          go_roundw
          case rel =>
            refine ⟨k + 1, _, by omega, by simp, hide ?_, HO5, hide ?_, HB5⟩
            · rw [HTK.out, List.flatMap_append, ← List.append_assoc, ← HLP.out]; simp
            · rw [List.length_append]; have := HLN.out; omega
          case measure => simp [intOf]; omega
      · obtain rfl : k = n := by omega
        have HLP2 : Hid (lp = [⟨1, txt (vput t.key)⟩, ⟨2, t.id⟩] ++ t.cavs.flatMap cavFlds) := hide (by rw [HLP.out, List.take_of_length_le (Nat.le_of_eq HL.out)])
        have hgw := HBW.out.block w.heap.size (by have := HS0.out; omega) |>.trans HG0.out
        have hy3 : wr.cell? ⟨w.heap.size, 3, none⟩ = some (.bool t.bnd) := (cell_of_row wr _ _ _ _ _ hgw).trans (tokC_3 _ _ _ _ _)
        have HGW := hide hgw
        obtain ⟨A6, c6, rfl⟩ := HO.out.form
        have hsw := HBW.out.size
        clear hgw
        cases hbd : t.bnd with
        | true =>
          have HFL : Hid (flagB t.bnd = txt [1]) := hide (by rw [hbd]; rfl)
          rw [hbd] at hy3
          clear hbd
          go_wp2_with fail
          refine wp_region_ext mixed 10 (fun i v w' => match i with
            | 0 => v = .slice A6 lp.length c6
            | 1 => v = .int .u8 1
            | 2 => ∃ g, v = .slice (some ⟨g, 0, none⟩) 1 1 ∧ w'.heap[g]? = some (.cells #[bv 1] 5)
            | 3 => v = .string (txt [1])
            | 4 => v = .agg #[.int .u8 7, .string (txt [1])]
            | 5 => v = .pointer (some ⟨w.heap.size, 4, none⟩)
            | 6 => v = .slice (some ⟨w.heap.size, 4, none⟩) 32 32
            | 7 => v = .string (txt t.tag.l)
            | 8 => v = .agg #[.int .u8 8, .string (txt t.tag.l)]
            | _ => ∃ g, v = .slice (some ⟨g, 0, none⟩) 2 2 ∧ w'.heap[g]? = some (.cells #[.int .u8 7, .string (txt [1]), .int .u8 8, .string (txt t.tag.l)] 134)
            ) (by kernel_rfl) rfl ?_ ?_ ?_
          · intro i v w1 w2 h1 h2
            split at h2 <;> first | exact h2 | (obtain ⟨g, rfl, hg⟩ := h2; exact ⟨g, rfl, h1.heap hg⟩)
          · refine ⟨fun a w2 hle hd hf hs K hK => ?_, fun a w2 hle hd hf hs K hK => ?_, fun a w2 hle hd hf hs K hK => ?_, fun a w2 hle hd hf hs K hK => ?_, fun a w2 hle hd hf hs K hK => ?_, fun a w2 hle hd hf hs K hK => ?_, fun a w2 hle hd hf hs K hK => ?_, fun a w2 hle hd hf hs K hK => ?_, fun a w2 hle hd hf hs K hK => ?_, fun a w2 hle hd hf hs K hK => ?_, trivial⟩
            all_goals clear hd
            · have e3 := hf 3 rfl; simp [Act.eval] at e3
              go_simp; exact hK _ _ (Ext.refl _) rfl
            · have e6 := hf 6 rfl; simp [Act.eval] at e6
              go_simp; exact hK _ _ (Ext.refl _) rfl
            · have e30 := hs 1 30 (by kernel_rfl) rfl; simp [Act.eval] at e30
              go_simp; exact hK _ _ (Ext.alloc _ _) ⟨_, rfl, heap_alloc_new _ _⟩
            · obtain ⟨g, e31, hg⟩ := hs 2 31 (by kernel_rfl) rfl; simp [Act.eval] at e31
              have hq := row_string (P := Try.prog) Try.underlying60 Try.underlying5 Try.underlying9 (one_row (ok := fun _ => True) hg trivial)
              go_simp; exact hK _ _ (Ext.refl _) rfl
            · have e32 := hs 3 32 (by kernel_rfl) rfl; simp [Act.eval] at e32
              go_simp; exact hK _ _ (Ext.refl _) rfl
            · have e1 := hf 1 rfl; simp [Act.eval] at e1
              go_simp; exact hK _ _ (Ext.refl _) rfl
            · have e34 := hs 5 34 (by kernel_rfl) rfl; simp [Act.eval] at e34
              go_simp; exact hK _ _ (Ext.refl _) rfl
            · have e35 := hs 6 35 (by kernel_rfl) rfl; simp [Act.eval] at e35
              have hq := row_string (P := Try.prog) Try.underlying60 Try.underlying5 Try.underlying9 (tok_row (hle.heap HGW.out))
              go_simp; exact hK _ _ (Ext.refl _) rfl
            · have e36 := hs 7 36 (by kernel_rfl) rfl; simp [Act.eval] at e36
              go_simp; exact hK _ _ (Ext.refl _) rfl
            · have e33 := hs 4 33 (by kernel_rfl) rfl; have e37 := hs 8 37 (by kernel_rfl) rfl; simp [Act.eval] at e33 e37
              go_simp; exact hK _ _ (Ext.alloc _ _) ⟨_, rfl, heap_alloc_new _ _⟩
          intro vs w2 hle hs
          have v0 := hs 0 (by omega) rfl
          have v9 := hs 9 (by omega) rfl
          simp only at v0 v9
          clear hs
          obtain ⟨g9, v9, hg9⟩ := v9
          have HO2 := hide (HO.out.below hle)
          have HB2 := hide (HBW.out.trans (hle.mono hsw))
          have HR9 := hide (row_of_cells (ok := fun _ => True) (l := [⟨7, txt [1]⟩, ⟨8, txt t.tag.l⟩]) (by
            intro f hf
            simp only [List.mem_cons, List.not_mem_nil, or_false] at hf
            rcases hf with rfl | rfl
            · simp only [txt_size, maxLen]; decide
            · simp only [txt_size, t.tag.len, maxLen]; decide) hg9 rfl trivial 2 rfl (by decide))
          have hs2 := HB2.out.size
          clear hle hg9
          simp only [putN, dstAt]
          go_simp
          go_wp2_with (at_builtin; go_must (refine wpList_app (d := kFld) (ys := [⟨7, txt [1]⟩, ⟨8, txt t.tag.l⟩]) rfl _ _ _ rfl Try.underlying88 rfld_info rfl (by decide) 2 rfl rfl (.inl HO2.out) (src_fld2 HR9.out.src) hs2 ?_ ?_ ?_))
          · have := HLN.out; simp only [maxLen]; omega
          · have := HLN.out; omega
          · intro v5 w5 _ h2 h3 _ _
            have ho5 := h2
            have hl5 : lp ++ [⟨7, txt [1]⟩, ⟨8, txt t.tag.l⟩] = encFlds t := by
              rw [HLP2.out, encFlds, HFL.out]
            rw [hl5] at ho5
            obtain ⟨A5, c5, rfl, hr5⟩ := ho5.row
            have HR5 := hide hr5
            have HB5 := hide (HB0.out.trans ((HB2.out.trans h3).mono HB0.out.size))
            clear h2 h3 ho5 hl5 hr5
            go_wp2_with fail
            refine (c_rjoin A5 _ c5 (encFlds t) _ _ HR5.out (Nat.le_trans HES.out (by decide)) (fun f hf => Nat.le_trans (HEV.out f hf) (by decide))).mono ?_
            rintro e w6 ⟨v6, rfl, ho6, b6⟩
            have HB6 := hide (HB5.out.trans (b6.mono HB5.out.size))
            have HO6 := hide (ho6.lower (base' := w.heap.size) HB5.out.size)
            clear ho6 b6
            go_wp2_with fail
            go_ret
            exact ⟨_, rfl, HO6.out, HB6.out⟩
        | false =>
          have HFL : Hid (flagB t.bnd = txt [0]) := hide (by rw [hbd]; rfl)
          rw [hbd] at hy3
          clear hbd
          go_wp2_with fail
          refine wp_region_ext mixed 10 (fun i v w' => match i with
            | 0 => v = .slice A6 lp.length c6
            | 1 => v = .int .u8 0
            | 2 => ∃ g, v = .slice (some ⟨g, 0, none⟩) 1 1 ∧ w'.heap[g]? = some (.cells #[bv 0] 5)
            | 3 => v = .string (txt [0])
            | 4 => v = .agg #[.int .u8 7, .string (txt [0])]
            | 5 => v = .pointer (some ⟨w.heap.size, 4, none⟩)
            | 6 => v = .slice (some ⟨w.heap.size, 4, none⟩) 32 32
            | 7 => v = .string (txt t.tag.l)
            | 8 => v = .agg #[.int .u8 8, .string (txt t.tag.l)]
            | _ => ∃ g, v = .slice (some ⟨g, 0, none⟩) 2 2 ∧ w'.heap[g]? = some (.cells #[.int .u8 7, .string (txt [0]), .int .u8 8, .string (txt t.tag.l)] 134)
            ) (by kernel_rfl) rfl ?_ ?_ ?_
          · intro i v w1 w2 h1 h2
            split at h2 <;> first | exact h2 | (obtain ⟨g, rfl, hg⟩ := h2; exact ⟨g, rfl, h1.heap hg⟩)
          · refine ⟨fun a w2 hle hd hf hs K hK => ?_, fun a w2 hle hd hf hs K hK => ?_, fun a w2 hle hd hf hs K hK => ?_, fun a w2 hle hd hf hs K hK => ?_, fun a w2 hle hd hf hs K hK => ?_, fun a w2 hle hd hf hs K hK => ?_, fun a w2 hle hd hf hs K hK => ?_, fun a w2 hle hd hf hs K hK => ?_, fun a w2 hle hd hf hs K hK => ?_, fun a w2 hle hd hf hs K hK => ?_, trivial⟩
            all_goals clear hd
            · have e3 := hf 3 rfl; simp [Act.eval] at e3
              go_simp; exact hK _ _ (Ext.refl _) rfl
            · have e6 := hf 6 rfl; simp [Act.eval] at e6
              go_simp; exact hK _ _ (Ext.refl _) rfl
            · have e30 := hs 1 30 (by kernel_rfl) rfl; simp [Act.eval] at e30
              go_simp; exact hK _ _ (Ext.alloc _ _) ⟨_, rfl, heap_alloc_new _ _⟩
            · obtain ⟨g, e31, hg⟩ := hs 2 31 (by kernel_rfl) rfl; simp [Act.eval] at e31
              have hq := row_string (P := Try.prog) Try.underlying60 Try.underlying5 Try.underlying9 (one_row (ok := fun _ => True) hg trivial)
              go_simp; exact hK _ _ (Ext.refl _) rfl
            · have e32 := hs 3 32 (by kernel_rfl) rfl; simp [Act.eval] at e32
              go_simp; exact hK _ _ (Ext.refl _) rfl
            · have e1 := hf 1 rfl; simp [Act.eval] at e1
              go_simp; exact hK _ _ (Ext.refl _) rfl
            · have e34 := hs 5 34 (by kernel_rfl) rfl; simp [Act.eval] at e34
              go_simp; exact hK _ _ (Ext.refl _) rfl
            · have e35 := hs 6 35 (by kernel_rfl) rfl; simp [Act.eval] at e35
              have hq := row_string (P := Try.prog) Try.underlying60 Try.underlying5 Try.underlying9 (tok_row (hle.heap HGW.out))
              go_simp; exact hK _ _ (Ext.refl _) rfl
            · have e36 := hs 7 36 (by kernel_rfl) rfl; simp [Act.eval] at e36
              go_simp; exact hK _ _ (Ext.refl _) rfl
            · have e33 := hs 4 33 (by kernel_rfl) rfl; have e37 := hs 8 37 (by kernel_rfl) rfl; simp [Act.eval] at e33 e37
              go_simp; exact hK _ _ (Ext.alloc _ _) ⟨_, rfl, heap_alloc_new _ _⟩
          intro vs w2 hle hs
          have v0 := hs 0 (by omega) rfl
          have v9 := hs 9 (by omega) rfl
          simp only at v0 v9
          clear hs
          obtain ⟨g9, v9, hg9⟩ := v9
          have HO2 := hide (HO.out.below hle)
          have HB2 := hide (HBW.out.trans (hle.mono hsw))
          have HR9 := hide (row_of_cells (ok := fun _ => True) (l := [⟨7, txt [0]⟩, ⟨8, txt t.tag.l⟩]) (by
            intro f hf
            simp only [List.mem_cons, List.not_mem_nil, or_false] at hf
            rcases hf with rfl | rfl
            · simp only [txt_size, maxLen]; decide
            · simp only [txt_size, t.tag.len, maxLen]; decide) hg9 rfl trivial 2 rfl (by decide))
          have hs2 := HB2.out.size
          clear hle hg9
          simp only [putN, dstAt]
          go_simp
          go_wp2_with (at_builtin; go_must (refine wpList_app (d := kFld) (ys := [⟨7, txt [0]⟩, ⟨8, txt t.tag.l⟩]) rfl _ _ _ rfl Try.underlying88 rfld_info rfl (by decide) 2 rfl rfl (.inl HO2.out) (src_fld2 HR9.out.src) hs2 ?_ ?_ ?_))
          · have := HLN.out; simp only [maxLen]; omega
          · have := HLN.out; omega
          · intro v5 w5 _ h2 h3 _ _
            have ho5 := h2
            have hl5 : lp ++ [⟨7, txt [0]⟩, ⟨8, txt t.tag.l⟩] = encFlds t := by
              rw [HLP2.out, encFlds, HFL.out]
            rw [hl5] at ho5
            obtain ⟨A5, c5, rfl, hr5⟩ := ho5.row
            have HR5 := hide hr5
            have HB5 := hide (HB0.out.trans ((HB2.out.trans h3).mono HB0.out.size))
            clear h2 h3 ho5 hl5 hr5
            go_wp2_with fail
            refine (c_rjoin A5 _ c5 (encFlds t) _ _ HR5.out (Nat.le_trans HES.out (by decide)) (fun f hf => Nat.le_trans (HEV.out f hf) (by decide))).mono ?_
            rintro e w6 ⟨v6, rfl, ho6, b6⟩
            have HB6 := hide (HB5.out.trans (b6.mono HB5.out.size))
            have HO6 := hide (ho6.lower (base' := w.heap.size) HB5.out.size)
            clear ho6 b6
            go_wp2_with fail
            go_ret
            exact ⟨_, rfl, HO6.out, HB6.out⟩
end Go.Proofs.Ytlfhbnajopekpaa
