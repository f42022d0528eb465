/- The statement RecipeGoesOn, for every input, and its tied card. No condition. -/
import Derived.Test.YtdkeflhgengblaaDoorRge
import Derived.Test.YtdkeflhgengblaaDoorRgb
import Derived.Test.YtdkeflhgengblaaDoorRga
import Derived.Test.YtdkeflhgengblaaDoorRgc
import Derived.SizedLaws
import Derived.Test.YtdkeflhgengblaaDoorRows
import Derived.Test.YtdkeflhgengblaaDoorTie
import Derived.Test.YtdkeflhgengblaaDoorCards
import Derived.SevenTiedAt
namespace Go.Proofs.YtdkeflhgengblaaDoor
open Go.RowKit
attribute [local go_sem ↓] ld8 ld32 ld64 ld73
attribute [local go_sem] run_ldAgg run_storeAgg agg_alloc_at agg_alloc_past agg_drew agg_setCell row_alloc_at row_alloc_past row_drew setRow_alloc_at setRow_alloc_past setRow_drew agg_setRow_at agg_setRow_far cell_setRow_at cell_setRow_far row_setRow_far size_setRow s8C_size s8C_part s8C_one s8C_splice0 s8C_ne dgC_size dgC_72 dgC_part dgC_h dgC_r dgC_splice_h dgC_set dgC_one dgC_splice0 dgC_ne zero_dg
attribute [local go_sem] tgC_size tgC_one tgC_part tgC_splice tgC_splice_any zero_tg tgC_ne

set_option maxRecDepth 100000 in
set_option maxHeartbeats 800000 in
theorem c_rseal (key nonce : Tg) (s : List UInt8) (w : World) (hn : s.length < 1048576) :
    Calls Tryd.prog 37 #[tgV key, tgV nonce, .string (txt s)] w fun e w' => e = .returned (.string (txt (sealB key nonce s))) ∧ Below w.heap.size w w' := by
  obtain ⟨W1, hW1⟩ : ∃ W1, W1 = (w.alloc (.cells (tgC key) 29)).alloc (.cells (tgC nonce) 29) := ⟨_, rfl⟩
  have HB1 : Hid (Below w.heap.size w W1) := hide (by rw [hW1]; exact below2 _ _ _)
  have hs1 : W1.heap.size = w.heap.size + 2 := by rw [hW1]; simp only [World.size_alloc]
  have HK1 : Hid (W1.heap[w.heap.size]? = some (.cells (tgC key) 29)) := hide (by
    rw [hW1, Below.heap_alloc _ _ _ (by simp only [World.size_alloc]; omega)]; exact heap_alloc_new _ _)
  have HN1 : Hid (W1.heap[w.heap.size + 1]? = some (.cells (tgC nonce) 29)) := hide (by
    rw [hW1]
    have := heap_alloc_new (w.alloc (.cells (tgC key) 29)) (.cells (tgC nonce) 29)
    rwa [World.size_alloc] at this)
  have HNR1 := hide (tag_row nonce HN1.out)
  obtain ⟨sc, hsc⟩ : ∃ sc, sc = turnd key nonce s := ⟨_, rfl⟩
  have HSC : Hid (turnd key nonce s = sc) := hide hsc.symm
  have hlc : sc.length < 1048576 := by rw [hsc, turnd_len]; exact hn
  have HLC := hide hlc
  obtain ⟨t, htt⟩ : ∃ t, t = markT key nonce.l sc := ⟨_, rfl⟩
  have HT : Hid (dkey key uSeal [txt nonce.l, txt sc] = t) := hide (by rw [htt]; rfl)
  have HSB : Hid (sealB key nonce s = nonce.l ++ sc ++ t.l) := hide (by rw [htt, hsc]; rfl)
  have HSZ := hide (two_sizes (a := nonce.l) (c := sc) (by rw [nonce.len]; decide) hlc)
  have HFL := hide (mark_len (a := nonce.l) (c := sc) (by rw [nonce.len]; decide) hlc)
  have HSL := hide hn
  clear hsc htt hlc hn
  go_enter Tryd.func37, Tryd.ntmps37
  go_wp2_with fail
  rw [← hW1]
  clear hW1
  have hag1 : agg? W1 ⟨w.heap.size, 0, none⟩ 32 = some (tgC key) := (agg_of_row HK1.out 0 32 (by decide)).trans (tgC_part key)
  have hag2 : agg? W1 ⟨w.heap.size + 1, 0, none⟩ 32 = some (tgC nonce) := (agg_of_row HN1.out 0 32 (by decide)).trans (tgC_part nonce)
  go_wp2_with fail
  refine (c_rsturned key nonce s W1 HSL.out).mono ?_
  rintro e w5 ⟨rfl, b5⟩
  rw [HSC.out]
  have HK5 := hide ((b5.block _ (by omega)).trans HK1.out)
  have HNR := hide (HNR1.out.below b5)
  have HB5 := hide (HB1.out.trans (b5.mono (by omega)))
  clear b5 hag1 hag2 HK1 HN1 HNR1 HB1
  go_wp2_with fail
  refine wp_region_ext mixed 7 (fun i v w' => match i with
    | 0 => v = tgV key
    | 1 => v = .slice (some ⟨w.heap.size + 1, 0, none⟩) 32 32
    | 2 => v = .string (txt nonce.l)
    | 3 => v = .string (txt sc)
    | 4 => ∃ A c, v = .slice A 2 c ∧ kStr.Row (fun _ => True) w' A 2 c [txt nonce.l, txt sc]
    | 5 => v = tgV t
    | _ => ∃ g, v = .pointer (some ⟨g, 0, none⟩) ∧ w5.heap.size ≤ g ∧ w'.heap[g]? = some (.cells (tgC Tg.zero) 29)
    ) (regOk_of (by kernel_rfl)) rfl ?_ ?_ ?_
  · intro i v w1 w2 h1 h2
    split at h2 <;> first | exact h2 | (obtain ⟨g, rfl, hg⟩ := h2; exact ⟨g, rfl, h1.heap hg⟩) | (obtain ⟨g, rfl, hgl, hg⟩ := h2; exact ⟨g, rfl, hgl, h1.heap hg⟩) | (obtain ⟨A, c, e, hr⟩ := h2; exact ⟨A, c, e, hr.below h1⟩)
  · refine ⟨fun a w2 hle hd hf hs K hK => ?_, fun a w2 hle hd hf hs K hK => ?_, fun a w2 hle hd hf hs K hK => ?_, fun a w2 hle hd hf hs K hK => ?_, fun a w2 hle hd hf hs K hK => ?_, fun a w2 hle hd hf hs K hK => ?_, fun a w2 hle hd hf hs K hK => ?_, trivial⟩
    all_goals clear hd
    · -- 13 := Op.load 29 t3
      have e3 := hf 3 rfl; simp [Act.eval] at e3
      have hq : agg? w2 ⟨w.heap.size, 0, none⟩ 32 = some (tgC key) := (agg_of_row (hle.heap HK5.out) 0 32 (by decide)).trans (tgC_part key)
      go_simp; exact hK _ _ (Ext.refl _) rfl
    · -- 14 := Op.slice 29 t4 none none none
      have e4 := hf 4 rfl; simp [Act.eval] at e4
      go_simp; exact hK _ _ (Ext.refl _) rfl
    · -- 15 := Op.convert 22 9 t14
      have e14 := hs 1 14 (needs_direct (by kernel_rfl)) rfl; simp [Act.eval] at e14
      have hq := row_string (P := Tryd.prog) Tryd.underlying22 Tryd.underlying5 Tryd.underlying9 (HNR.out.below hle)
      go_simp; exact hK _ _ (Ext.refl _) rfl
    · -- 16 := Op.move t7
      have e7 := hf 7 rfl; simp [Act.eval] at e7
      go_simp; exact hK _ _ (Ext.refl _) rfl
    · -- 17 := Op.buildSlice 34 2 #[(0, t15), (1, t16)]
      have e15 := hs 2 15 (needs_direct (by kernel_rfl)) rfl; have e16 := hs 3 16 (needs_direct (by kernel_rfl)) rfl; simp [Act.eval] at e15 e16
      go_simp
      exact hK _ _ (Ext.alloc _ _) ⟨_, _, rfl, strs_row [txt nonce.l, txt sc] (heap_alloc_new _ _) rfl HSZ.out (by simp [maxLen])⟩
    · -- 18 := Op.call { value (Operand.func 23), args := #[t13, const (Value.string { data := #[115, 101, 97, 108] }), t17], argTypes := #[29, 9, 34] }
      have e13 := hs 0 13 (needs_direct (by kernel_rfl)) rfl; obtain ⟨A17, c17, e17, hr17⟩ := hs 4 17 (needs_direct (by kernel_rfl)) rfl; simp [Act.eval] at e13 e17
      go_simp
      refine (c_rkey key uSeal A17 2 c17 [txt nonce.l, txt sc] _ w2 hr17 (by decide) HFL.out).mono ?_
      rintro z w9 ⟨rfl, b9⟩
      rw [HT.out]
      exact hK _ _ b9 rfl
    · -- 8 := Op.alloc 29
      go_simp
      exact hK _ _ (Ext.alloc _ _) ⟨_, rfl, by have := hle.size; omega, heap_alloc_new _ _⟩
  intro vs w8 hle hs
  have v5 := hs 5 (by omega) rfl
  have v6 := hs 6 (by omega) rfl
  simp only at v5 v6
  clear hs
  obtain ⟨g, e6, hgl, hg⟩ := v6
  obtain ⟨W9, hW9⟩ : ∃ W9, W9 = w8.setRow g (tgC t) := ⟨_, rfl⟩
  have hrz := row_of hg
  have hb9 : Below w5.heap.size w5 W9 := by rw [hW9]; exact bsetRow hle hgl _
  have HG9 : W9.heap[g]? = some (.cells (tgC t) 29) := by rw [hW9]; exact setRow_heap w8 g (tgC Tg.zero) (tgC t) 29 _ hg
  have HTR9 := hide (tag_row t HG9)
  have HNR9 := hide (HNR.out.below hb9)
  have HB9 := hide (HB5.out.trans (hb9.mono HB5.out.size))
  have hz1 : (txt nonce.l).size = 32 := by rw [txt_size, nonce.len]
  have hz2 : (txt sc).size < 1048576 := by rw [txt_size]; exact HLC.out
  have hz3 : (txt t.l).size = 32 := by rw [txt_size, t.len]
  have hlc3 : ¬ 9223372036854775807 < 32 + sc.length := by have := HLC.out; omega
  have hlc4 : ¬ 9223372036854775807 < 32 + sc.length + 32 := by have := HLC.out; omega
  have hz4 : (txt nonce.l ++ txt sc).size < 2097152 := by rw [txt_add, txt_size, List.length_append, nonce.len]; have := HLC.out; omega
  clear hg hgl hle hb9 HG9 HK5 HB5 HNR
  simp only [putN, dstAt]
  go_simp
  go_wp2_with fail
  rw [← hW9]
  clear hW9
  refine wp_region_ext mixed 7 (fun i v w' => match i with
    | 0 => v = .slice (some ⟨w.heap.size + 1, 0, none⟩) 32 32
    | 1 => v = .string (txt nonce.l)
    | 2 => v = .string (txt sc)
    | 3 => v = .string (txt nonce.l ++ txt sc)
    | 4 => v = .slice (some ⟨g, 0, none⟩) 32 32
    | 5 => v = .string (txt t.l)
    | _ => v = .string (txt nonce.l ++ txt sc ++ txt t.l)
    ) (regOk_of (by kernel_rfl)) rfl ?_ ?_ ?_
  · intro i v w1 w2 h1 h2
    split at h2 <;> exact h2
  · refine ⟨fun a w2 hle hd hf hs K hK => ?_, fun a w2 hle hd hf hs K hK => ?_, fun a w2 hle hd hf hs K hK => ?_, fun a w2 hle hd hf hs K hK => ?_, fun a w2 hle hd hf hs K hK => ?_, fun a w2 hle hd hf hs K hK => ?_, fun a w2 hle hd hf hs K hK => ?_, trivial⟩
    all_goals clear hd
    · -- 19 := Op.slice 29 t4 none none none
      have e4 := hf 4 rfl; simp [Act.eval] at e4
      go_simp; exact hK _ _ (Ext.refl _) rfl
    · -- 20 := Op.convert 22 9 t19
      have e19 := hs 0 19 (needs_direct (by kernel_rfl)) rfl; simp [Act.eval] at e19
      have hq := row_string (P := Tryd.prog) Tryd.underlying22 Tryd.underlying5 Tryd.underlying9 (HNR9.out.below hle)
      go_simp; exact hK _ _ (Ext.refl _) rfl
    · -- 21 := Op.move t7
      have e7 := hf 7 rfl; simp [Act.eval] at e7
      go_simp; exact hK _ _ (Ext.refl _) rfl
    · -- 22 := Op.binOp BinOp.add 9 t20 t21 9
      have e20 := hs 1 20 (needs_direct (by kernel_rfl)) rfl; have e21 := hs 2 21 (needs_direct (by kernel_rfl)) rfl; simp [Act.eval] at e20 e21
      go_simp; exact hK _ _ (Ext.refl _) rfl
    · -- 23 := Op.slice 29 t8 none none none
      have e8 := hf 8 rfl; simp [Act.eval] at e8
      go_simp; exact hK _ _ (Ext.refl _) rfl
    · -- 24 := Op.convert 22 9 t23
      have e23 := hs 4 23 (needs_direct (by kernel_rfl)) rfl; simp [Act.eval] at e23
      have hq := row_string (P := Tryd.prog) Tryd.underlying22 Tryd.underlying5 Tryd.underlying9 (HTR9.out.below hle)
      go_simp; exact hK _ _ (Ext.refl _) rfl
    · -- 25 := Op.binOp BinOp.add 9 t22 t24 9
      have e22 := hs 3 22 (needs_direct (by kernel_rfl)) rfl; have e24 := hs 5 24 (needs_direct (by kernel_rfl)) rfl; simp [Act.eval] at e22 e24
      go_simp; exact hK _ _ (Ext.refl _) rfl
  intro vs w8 hle hs
  have v6 := hs 6 (by omega) rfl
  simp only at v6
  clear hs
  have HBE := hide (HB9.out.trans (hle.mono HB9.out.size))
  clear hle
  simp only [putN, dstAt]
  go_simp
  go_wp2_with fail
  go_ret
  refine ⟨?_, HBE.out⟩
  rw [HSB.out, ← txt_add, ← txt_add]
  rfl
set_option maxRecDepth 100000 in
set_option maxHeartbeats 800000 in
theorem c_ropen (key : Tg) (s : List UInt8) (w : World) (hn : s.length < 1048576) :
    Calls Tryd.prog 35 #[tgV key, .string (txt s)] w fun e w' => e = .returned (openV (openB key s)) ∧ Below w.heap.size w w' := by
  obtain ⟨m, hmm⟩ : ∃ m, m = s.length := ⟨_, rfl⟩
  have hsz : (txt s).size = m := by rw [txt_size, hmm]
  obtain ⟨W1, hW1⟩ : ∃ W1, W1 = w.alloc (.cells (tgC key) 29) := ⟨_, rfl⟩
  have HB1 : Hid (Below w.heap.size w W1) := hide (by rw [hW1]; exact below1 _ _)
  have HK1 : Hid (W1.heap[w.heap.size]? = some (.cells (tgC key) 29)) := hide (by rw [hW1]; exact heap_alloc_new _ _)
  have hs1 : W1.heap.size = w.heap.size + 1 := by rw [hW1]; simp only [World.size_alloc]
  rw [← hmm] at hn
  by_cases h64 : m < 64
  · have HOB : Hid (openB key s = none) := hide (by rw [openB, if_pos (by omega)])
    clear hmm
    go_enter Tryd.func35, Tryd.ntmps35
    go_wp2_with fail
    rw [← hW1]
    exact bodyPost_ret (v := openV none) (by simp [results, Tryd.results35, go_sem, openV]) rfl ⟨by rw [HOB.out], HB1.out⟩
  · obtain ⟨E, hE⟩ : ∃ E, m = E + 32 := ⟨m - 32, by omega⟩
    subst hE
    obtain ⟨nb, hnb⟩ : ∃ nb, (s.drop 0).take (32 - 0) = nb := ⟨_, rfl⟩
    obtain ⟨cb, hcb⟩ : ∃ cb, (s.drop 32).take (E - 32) = cb := ⟨_, rfl⟩
    obtain ⟨tb, htb⟩ : ∃ tb, (s.drop E).take (E + 32 - E) = tb := ⟨_, rfl⟩
    obtain ⟨l1, l2, l3, hob⟩ := openB_parts (key := key) hmm.symm (by omega) hnb hcb htb
    obtain ⟨tn, htn⟩ : ∃ tn, tagL nb = tn := ⟨_, rfl⟩
    obtain ⟨pl, hpl⟩ : ∃ pl, turnd key tn cb = pl := ⟨_, rfl⟩
    obtain ⟨X, hX⟩ : ∃ X, sealB key tn pl = X := ⟨_, rfl⟩
    have hzn : (txt nb).size = 32 := by rw [txt_size, l1]
    have htl : tn.l = nb := by rw [← htn, tagL_l l1]
    have hbq : X = s ↔ (markT key nb cb).l = tb := by
      have := open_seal (key := key) (s := s) (by omega)
      have e1 : s.take 32 = nb := hnb
      have e2 : (s.drop 32).take (s.length - 64) = cb := by rw [← hcb, ← hmm]; congr 1 <;> omega
      have e3 : s.drop (s.length - 32) = tb := by
        rw [← htb, List.take_of_length_le (by rw [List.length_drop]; omega), ← hmm, Nat.add_sub_cancel]
      rw [e1, e2, e3, htn, hpl, hX] at this
      exact this
    rw [htn, hpl] at hob
    have hE1 : (32 : Int) ≤ (E : Int) + 32 := by omega
    have hE2 : (32 : Int) ≤ (E : Int) := by omega
    have hE3 : (E : Int) ≤ (E : Int) + 32 := by omega
    have HNB := hide hnb
    have HCB := hide hcb
    have HPL := hide hpl
    have HXX := hide hX
    have HL32 := hide l1
    have HTL := hide htl
    have HLC : Hid (cb.length < 1048576) := hide (by omega)
    have HLP : Hid (pl.length < 1048576) := hide (by rw [← hpl, turnd_len]; omega)
    have HOB : Hid (openB key s = if X = s then some pl else none) := hide (by rw [hob]; by_cases h : X = s; rw [if_pos h, if_pos (hbq.1 h)]; rw [if_neg h, if_neg (fun e => h (hbq.2 e))])
    have hn63 : (txt nb).size ≤ 9223372036854775807 := by rw [hzn]; decide
    clear hmm hnb hcb htb htn hpl hX l1 l2 l3 hob htl hbq
    go_enter Tryd.func35, Tryd.ntmps35
    go_wp2_with ((with_reducible show wpList _ _ _ (Oper.mk (some 13) _ _ _ _ _ :: _) _ _); rw [← hW1]; go_loud (refine at_tobytes (P := Tryd.prog) 9 22 (txt nb) (ext_is HNB.out rfl rfl) Tryd.underlying9 Tryd.underlying22 Tryd.underlying5 hn63 (w.heap.size + 1) hs1 ?_))
    clear hW1
    intro c13 w13 h13 b13 _
    rw [byt_txt, hzn, ← HTL.out] at h13
    rw [hzn]
    have HR13 := hide h13
    have HB13 : Hid (Below W1.heap.size W1 w13) := hide (by rw [hs1]; exact b13)
    clear h13 b13
    go_wp2_with fail
    refine (c_rtag tn _ c13 _ w13 HR13.out).mono ?_
    rintro e w14 ⟨rfl, b14⟩
    obtain ⟨G, hG⟩ : ∃ G, G = w14.heap.size := ⟨_, rfl⟩
    obtain ⟨W6, hW6⟩ : ∃ W6, W6 = w14.alloc (.cells (tgC tn) 29) := ⟨_, rfl⟩
    have b16 : Below W1.heap.size W1 W6 := by rw [hW6]; exact (HB13.out.trans (b14.mono HB13.out.size)).alloc (Nat.le_trans HB13.out.size b14.size) _
    have HB6 := hide (HB1.out.trans (b16.mono HB1.out.size))
    have HK6 := hide ((b16.block _ (by omega)).trans HK1.out)
    have HG6 : Hid (W6.heap[G]? = some (.cells (tgC tn) 29)) := hide (by rw [hW6, hG]; exact heap_alloc_new _ _)
    clear b14 b16
    go_wp2_with fail
    rw [← hW6, ← hG]
    clear hW6 hG HB1 HK1 HB13 HR13
    refine wp_region_ext mixed 9 (fun i v w' => match i with
      | 0 => v = tgV key
      | 1 => v = tgV tn
      | 2 => v = .string (txt s)
      | 3 => v = .string (txt s)
      | 4 => v = .int .i64 ((E + 32 : Nat) : Int)
      | 5 => v = .int .i64 (E : Int)
      | 6 => v = .string (txt cb)
      | 7 => v = .string (txt pl)
      | _ => v = .string (txt pl)
      ) (regOk_of (by kernel_rfl)) rfl ?_ ?_ ?_
    · intro i v w1 w2 h1 h2
      split at h2 <;> exact h2
    · refine ⟨fun a w2 hle hd hf hs K hK => ?_, fun a w2 hle hd hf hs K hK => ?_, fun a w2 hle hd hf hs K hK => ?_, fun a w2 hle hd hf hs K hK => ?_, fun a w2 hle hd hf hs K hK => ?_, fun a w2 hle hd hf hs K hK => ?_, fun a w2 hle hd hf hs K hK => ?_, fun a w2 hle hd hf hs K hK => ?_, fun a w2 hle hd hf hs K hK => ?_, trivial⟩
      all_goals clear hd
      · -- 15 := Op.load 29 t2
        have e2 := hf 2 rfl; simp [Act.eval] at e2
        have hq : agg? w2 ⟨w.heap.size, 0, none⟩ 32 = some (tgC key) := (agg_of_row (hle.heap HK6.out) 0 32 (by decide)).trans (tgC_part key)
        go_simp; exact hK _ _ (Ext.refl _) rfl
      · -- 16 := Op.load 29 t6
        have e6 := hf 6 rfl; simp [Act.eval] at e6
        have hq : agg? w2 ⟨G, 0, none⟩ 32 = some (tgC tn) := (agg_of_row (hle.heap HG6.out) 0 32 (by decide)).trans (tgC_part tn)
        go_simp; exact hK _ _ (Ext.refl _) rfl
      · -- 17 := Op.move t1
        have e1 := hf 1 rfl; simp [Act.eval] at e1
        go_simp; exact hK _ _ (Ext.refl _) rfl
      · -- 18 := Op.move t1
        have e1 := hf 1 rfl; simp [Act.eval] at e1
        go_simp; exact hK _ _ (Ext.refl _) rfl
      · -- 19 := Op.call { builtin len, args := #[t18], argTypes := #[9] }
        have e18 := hs 3 18 (needs_direct (by kernel_rfl)) rfl; simp [Act.eval] at e18
        go_simp
        exact hK _ _ (Ext.refl _) (by simp)
      · -- 20 := Op.binOp BinOp.sub 3 t19 (const (32:i64)) 3
        have e19 := hs 4 19 (needs_direct (by kernel_rfl)) rfl; simp [Act.eval] at e19
        go_simp
        exact hK _ _ (Ext.refl _) (by simp; exact wrap64s (by omega) (by omega))
      · -- 21 := Op.slice 9 t17 (some (const (32:i64))) (some t20) none
        have e17 := hs 2 17 (needs_direct (by kernel_rfl)) rfl; have e20 := hs 5 20 (needs_direct (by kernel_rfl)) rfl; simp [Act.eval] at e17 e20
        go_simp
        exact hK _ _ (Ext.refl _) (ext_is HCB.out rfl rfl)
      · -- 22 := Op.call { value (Operand.func 81), args := #[t15, t16, t21], argTypes := #[29, 29, 9] }
        have e15 := hs 0 15 (needs_direct (by kernel_rfl)) rfl; have e16 := hs 1 16 (needs_direct (by kernel_rfl)) rfl; have e21 := hs 6 21 (needs_direct (by kernel_rfl)) rfl; simp [Act.eval] at e15 e16 e21
        go_simp
        refine (c_rsturned key tn cb w2 HLC.out).mono ?_
        rintro z w9 ⟨rfl, b9⟩
        rw [HPL.out]
        exact hK _ _ b9 rfl
      · -- 7 := Op.assign t22
        have e22 := hs 7 22 (needs_direct (by kernel_rfl)) rfl; simp [Act.eval] at e22
        go_simp; exact hK _ _ (Ext.refl _) rfl
    intro vs w8 hle hs
    have v8 := hs 8 (by omega) rfl
    simp only at v8
    clear hs
    have HB8 := hide (HB6.out.trans (hle.mono HB6.out.size))
    have HK8 := hide (hle.heap HK6.out)
    have HG8 := hide (hle.heap HG6.out)
    have hag1 : agg? w8 ⟨w.heap.size, 0, none⟩ 32 = some (tgC key) := (agg_of_row HK8.out 0 32 (by decide)).trans (tgC_part key)
    have hag2 : agg? w8 ⟨G, 0, none⟩ 32 = some (tgC tn) := (agg_of_row HG8.out 0 32 (by decide)).trans (tgC_part tn)
    clear hle
    simp only [putN, dstAt]
    go_simp
    go_wp2_with fail
    refine (c_rseal key tn pl w8 HLP.out).mono ?_
    rintro e w9 ⟨rfl, b9⟩
    rw [HXX.out]
    have HB9 := hide (HB8.out.trans (b9.mono HB8.out.size))
    clear b9 hag1 hag2
    by_cases hq : X = s
    · have HOB2 : Hid (openB key s = some pl) := hide (by rw [HOB.out, if_pos hq])
      subst hq
      clear HOB
      go_wp2_with fail
      exact bodyPost_ret (v := openV (some pl)) (by simp [results, Tryd.results35, go_sem, openV]) rfl ⟨by rw [HOB2.out], HB9.out⟩
    · have HOB2 : Hid (openB key s = none) := hide (by rw [HOB.out, if_neg hq])
      have hq2 : (X == s) = false := by simp [hq]
      clear HOB hq
      go_wp2_with fail
      exact bodyPost_ret (v := openV none) (by simp [results, Tryd.results35, go_sem, openV]) rfl ⟨by rw [HOB2.out], HB9.out⟩
end Go.Proofs.YtdkeflhgengblaaDoor
namespace Go.Proofs.YtdkeflhgengblaaDoor
open Go.RowKit
attribute [local go_sem ↓] ld8 ld32 ld64 ld73
attribute [local go_sem] run_ldAgg run_storeAgg agg_alloc_at agg_alloc_past agg_drew agg_setCell row_alloc_at row_alloc_past row_drew setRow_alloc_at setRow_alloc_past setRow_drew agg_setRow_at agg_setRow_far cell_setRow_at cell_setRow_far row_setRow_far size_setRow s8C_size s8C_part s8C_one s8C_splice0 s8C_ne dgC_size dgC_72 dgC_part dgC_h dgC_r dgC_splice_h dgC_set dgC_one dgC_splice0 dgC_ne zero_dg
attribute [local go_sem] tgC_size tgC_one tgC_part tgC_splice tgC_splice_any zero_tg tgC_ne

def uParty : ByteArray := { data := #[112, 97, 114, 116, 121] }
def uVault : ByteArray := { data := #[118, 97, 117, 108, 116] }
def lockB (key nonce root : Tg) (cond : List UInt8) : List UInt8 := sealB (dkey key uParty []) nonce (root.l ++ cond)
def hideB (t nonce root : Tg) : List UInt8 := sealB (dkey t uVault []) nonce root.l
theorem party_len : (frames (uParty :: [])).length < 1073741824 := by
  simp only [frames_cons, frames_nil, List.length_append, frm_len, List.length_nil]
  decide
theorem vault_len : (frames (uVault :: [])).length < 1073741824 := by
  simp only [frames_cons, frames_nil, List.length_append, frm_len, List.length_nil]
  decide
set_option maxRecDepth 100000 in
set_option maxHeartbeats 800000 in
theorem c_tlock (key nonce root : Tg) (cond : List UInt8) (w : World) (hc : cond.length < 1000000) (hP : PrimesAt w) :
    Calls Tryd.prog 51 #[tgV key, tgV nonce, tgV root, .string (txt cond)] w fun e w' => e = .returned (.string (txt (lockB key nonce root cond))) ∧ Below w.heap.size w w' := by
  obtain ⟨W1, hW1⟩ : ∃ W1, W1 = ((w.alloc (.cells (tgC key) 29)).alloc (.cells (tgC nonce) 29)).alloc (.cells (tgC root) 29) := ⟨_, rfl⟩
  obtain ⟨g1, g2, g3⟩ := heap3 w (tgC key) (tgC nonce) (tgC root) 29
  rw [← hW1] at g1 g2 g3
  have HB1 : Hid (Below w.heap.size w W1) := hide (by rw [hW1]; exact below3 _ _ _ _)
  have Hkey := hide g1
  have Hnonce := hide g2
  have HRR := hide (tag_row root g3)
  clear g1 g2 g3
  have HP1 := hide (hP.ext HB1.out)
  have hw0 := hP.1
  clear hP
  obtain ⟨kt, hkt⟩ : ∃ kt, dkey key uParty [] = kt := ⟨_, rfl⟩
  obtain ⟨rc, hrc⟩ : ∃ rc, rc = root.l ++ cond := ⟨_, rfl⟩
  obtain ⟨sx, hsx⟩ : ∃ sx, sealB kt nonce rc = sx := ⟨_, rfl⟩
  have HKT := hide hkt
  have HRC := hide hrc
  have HSX := hide hsx
  have HRES : Hid (lockB key nonce root cond = sx) := hide (by rw [lockB, hkt, ← hrc, hsx])
  have HFL := hide party_len
  have HLR : Hid (rc.length < 1048576) := hide (by rw [hrc, List.length_append, root.len]; omega)
  have hz1 : (txt root.l).size = 32 := by rw [txt_size, root.len]
  have hz2 : (txt cond).size < 1000000 := by rw [txt_size]; exact hc
  have hz3 : ¬ 9223372036854775807 < 32 + cond.length := by omega
  clear hkt hrc hsx
  go_enter Tryd.func51, Tryd.ntmps51
  go_wp2_with fail
  rw [← hW1]
  clear hW1
  refine wp_region_ext mixed 8 (fun i v w' => match i with
    | 0 => v = tgV key
    | 1 => v = tgV kt
    | 2 => v = tgV nonce
    | 3 => v = .slice (some ⟨w.heap.size + 2, 0, none⟩) 32 32
    | 4 => v = .string (txt root.l)
    | 5 => v = .string (txt cond)
    | 6 => v = .string (txt rc)
    | _ => v = .string (txt sx)
    ) (regOk_of (by kernel_rfl)) rfl ?_ ?_ ?_
  · intro i v w1 w2 h1 h2
    split at h2 <;> exact h2
  · refine ⟨fun a w2 hle hd hf hs K hK => ?_, fun a w2 hle hd hf hs K hK => ?_, fun a w2 hle hd hf hs K hK => ?_, fun a w2 hle hd hf hs K hK => ?_, fun a w2 hle hd hf hs K hK => ?_, fun a w2 hle hd hf hs K hK => ?_, fun a w2 hle hd hf hs K hK => ?_, fun a w2 hle hd hf hs K hK => ?_, trivial⟩
    all_goals clear hd
    · -- 9 := Op.load 29 t4
      have e4 := hf 4 rfl; simp [Act.eval] at e4
      have hq : agg? w2 ⟨w.heap.size, 0, none⟩ 32 = some (tgC key) := (agg_of_row (hle.heap Hkey.out) 0 32 (by decide)).trans (tgC_part key)
      go_simp; exact hK _ _ (Ext.refl _) rfl
    · -- 10 := Op.call { value (Operand.func 22), args := #[t9, const (Value.string { data := #[112, 97, 114, 116, 121] }), const (Value.slice none 0 0)], argTypes := #[29, 9, 34] }
      have e9 := hs 0 9 (needs_direct (by kernel_rfl)) rfl; simp [Act.eval] at e9
      go_simp
      refine (c_dkey key uParty none 0 0 [] _ w2 (Kd.Row.nil kStr (fun _ => True) w2 none 0 (Nat.zero_le _)) (by decide) (HP1.out.ext hle) HFL.out).mono ?_
      rintro z w9 ⟨rfl, b9⟩
      rw [HKT.out]
      exact hK _ _ b9 rfl
    · -- 11 := Op.load 29 t5
      have e5 := hf 5 rfl; simp [Act.eval] at e5
      have hq : agg? w2 ⟨w.heap.size + 1, 0, none⟩ 32 = some (tgC nonce) := (agg_of_row (hle.heap Hnonce.out) 0 32 (by decide)).trans (tgC_part nonce)
      go_simp; exact hK _ _ (Ext.refl _) rfl
    · -- 12 := Op.slice 29 t6 none none none
      have e6 := hf 6 rfl; simp [Act.eval] at e6
      go_simp; exact hK _ _ (Ext.refl _) rfl
    · -- 13 := Op.convert 22 9 t12
      have e12 := hs 3 12 (needs_direct (by kernel_rfl)) rfl; simp [Act.eval] at e12
      have hq := row_string (P := Tryd.prog) Tryd.underlying22 Tryd.underlying5 Tryd.underlying9 (HRR.out.below hle)
      go_simp; exact hK _ _ (Ext.refl _) rfl
    · -- 14 := Op.move t3
      have e3 := hf 3 rfl; simp [Act.eval] at e3
      go_simp; exact hK _ _ (Ext.refl _) rfl
    · -- 15 := Op.binOp BinOp.add 9 t13 t14 9
      have e13 := hs 4 13 (needs_direct (by kernel_rfl)) rfl; have e14 := hs 5 14 (needs_direct (by kernel_rfl)) rfl; simp [Act.eval] at e13 e14
      go_simp
      exact hK _ _ (Ext.refl _) (by show Value.string _ = Value.string _; rw [HRC.out, txt_add])
    · -- 16 := Op.call { value (Operand.func 36), args := #[t10, t11, t15], argTypes := #[29, 29, 9] }
      have e10 := hs 1 10 (needs_direct (by kernel_rfl)) rfl; have e11 := hs 2 11 (needs_direct (by kernel_rfl)) rfl; have e15 := hs 6 15 (needs_direct (by kernel_rfl)) rfl; simp [Act.eval] at e10 e11 e15
      go_simp
      refine (c_seal kt nonce rc w2 HLR.out (HP1.out.ext hle)).mono ?_
      rintro z w9 ⟨rfl, b9⟩
      rw [HSX.out]
      exact hK _ _ b9 rfl
  intro vs w8 hle hs
  have v7 := hs 7 (by omega) rfl
  simp only at v7
  clear hs
  have HB9 := hide (HB1.out.trans (hle.mono HB1.out.size))
  clear hle
  simp only [putN, dstAt]
  go_simp
  go_wp2_with fail
  go_ret
  exact ⟨by rw [HRES.out]; rfl, HB9.out⟩
set_option maxRecDepth 100000 in
set_option maxHeartbeats 800000 in
theorem c_rlock (key nonce root : Tg) (cond : List UInt8) (w : World) (hc : cond.length < 1000000) :
    Calls Tryd.prog 52 #[tgV key, tgV nonce, tgV root, .string (txt cond)] w fun e w' => e = .returned (.string (txt (lockB key nonce root cond))) ∧ Below w.heap.size w w' := by
  obtain ⟨W1, hW1⟩ : ∃ W1, W1 = ((w.alloc (.cells (tgC key) 29)).alloc (.cells (tgC nonce) 29)).alloc (.cells (tgC root) 29) := ⟨_, rfl⟩
  obtain ⟨g1, g2, g3⟩ := heap3 w (tgC key) (tgC nonce) (tgC root) 29
  rw [← hW1] at g1 g2 g3
  have HB1 : Hid (Below w.heap.size w W1) := hide (by rw [hW1]; exact below3 _ _ _ _)
  have Hkey := hide g1
  have Hnonce := hide g2
  have HRR := hide (tag_row root g3)
  clear g1 g2 g3
  obtain ⟨kt, hkt⟩ : ∃ kt, dkey key uParty [] = kt := ⟨_, rfl⟩
  obtain ⟨rc, hrc⟩ : ∃ rc, rc = root.l ++ cond := ⟨_, rfl⟩
  obtain ⟨sx, hsx⟩ : ∃ sx, sealB kt nonce rc = sx := ⟨_, rfl⟩
  have HKT := hide hkt
  have HRC := hide hrc
  have HSX := hide hsx
  have HRES : Hid (lockB key nonce root cond = sx) := hide (by rw [lockB, hkt, ← hrc, hsx])
  have HFL := hide party_len
  have HLR : Hid (rc.length < 1048576) := hide (by rw [hrc, List.length_append, root.len]; omega)
  have hz1 : (txt root.l).size = 32 := by rw [txt_size, root.len]
  have hz2 : (txt cond).size < 1000000 := by rw [txt_size]; exact hc
  have hz3 : ¬ 9223372036854775807 < 32 + cond.length := by omega
  clear hkt hrc hsx
  go_enter Tryd.func52, Tryd.ntmps52
  go_wp2_with fail
  rw [← hW1]
  clear hW1
  refine wp_region_ext mixed 8 (fun i v w' => match i with
    | 0 => v = tgV key
    | 1 => v = tgV kt
    | 2 => v = tgV nonce
    | 3 => v = .slice (some ⟨w.heap.size + 2, 0, none⟩) 32 32
    | 4 => v = .string (txt root.l)
    | 5 => v = .string (txt cond)
    | 6 => v = .string (txt rc)
    | _ => v = .string (txt sx)
    ) (regOk_of (by kernel_rfl)) rfl ?_ ?_ ?_
  · intro i v w1 w2 h1 h2
    split at h2 <;> exact h2
  · refine ⟨fun a w2 hle hd hf hs K hK => ?_, fun a w2 hle hd hf hs K hK => ?_, fun a w2 hle hd hf hs K hK => ?_, fun a w2 hle hd hf hs K hK => ?_, fun a w2 hle hd hf hs K hK => ?_, fun a w2 hle hd hf hs K hK => ?_, fun a w2 hle hd hf hs K hK => ?_, fun a w2 hle hd hf hs K hK => ?_, trivial⟩
    all_goals clear hd
    · -- 9 := Op.load 29 t4
      have e4 := hf 4 rfl; simp [Act.eval] at e4
      have hq : agg? w2 ⟨w.heap.size, 0, none⟩ 32 = some (tgC key) := (agg_of_row (hle.heap Hkey.out) 0 32 (by decide)).trans (tgC_part key)
      go_simp; exact hK _ _ (Ext.refl _) rfl
    · -- 10 := Op.call { value (Operand.func 23), args := #[t9, const (Value.string { data := #[112, 97, 114, 116, 121] }), const (Value.slice none 0 0)], argTypes := #[29, 9, 34] }
      have e9 := hs 0 9 (needs_direct (by kernel_rfl)) rfl; simp [Act.eval] at e9
      go_simp
      refine (c_rkey key uParty none 0 0 [] _ w2 (Kd.Row.nil kStr (fun _ => True) w2 none 0 (Nat.zero_le _)) (by decide) HFL.out).mono ?_
      rintro z w9 ⟨rfl, b9⟩
      rw [HKT.out]
      exact hK _ _ b9 rfl
    · -- 11 := Op.load 29 t5
      have e5 := hf 5 rfl; simp [Act.eval] at e5
      have hq : agg? w2 ⟨w.heap.size + 1, 0, none⟩ 32 = some (tgC nonce) := (agg_of_row (hle.heap Hnonce.out) 0 32 (by decide)).trans (tgC_part nonce)
      go_simp; exact hK _ _ (Ext.refl _) rfl
    · -- 12 := Op.slice 29 t6 none none none
      have e6 := hf 6 rfl; simp [Act.eval] at e6
      go_simp; exact hK _ _ (Ext.refl _) rfl
    · -- 13 := Op.convert 22 9 t12
      have e12 := hs 3 12 (needs_direct (by kernel_rfl)) rfl; simp [Act.eval] at e12
      have hq := row_string (P := Tryd.prog) Tryd.underlying22 Tryd.underlying5 Tryd.underlying9 (HRR.out.below hle)
      go_simp; exact hK _ _ (Ext.refl _) rfl
    · -- 14 := Op.move t3
      have e3 := hf 3 rfl; simp [Act.eval] at e3
      go_simp; exact hK _ _ (Ext.refl _) rfl
    · -- 15 := Op.binOp BinOp.add 9 t13 t14 9
      have e13 := hs 4 13 (needs_direct (by kernel_rfl)) rfl; have e14 := hs 5 14 (needs_direct (by kernel_rfl)) rfl; simp [Act.eval] at e13 e14
      go_simp
      exact hK _ _ (Ext.refl _) (by show Value.string _ = Value.string _; rw [HRC.out, txt_add])
    · -- 16 := Op.call { value (Operand.func 37), args := #[t10, t11, t15], argTypes := #[29, 29, 9] }
      have e10 := hs 1 10 (needs_direct (by kernel_rfl)) rfl; have e11 := hs 2 11 (needs_direct (by kernel_rfl)) rfl; have e15 := hs 6 15 (needs_direct (by kernel_rfl)) rfl; simp [Act.eval] at e10 e11 e15
      go_simp
      refine (c_rseal kt nonce rc w2 HLR.out).mono ?_
      rintro z w9 ⟨rfl, b9⟩
      rw [HSX.out]
      exact hK _ _ b9 rfl
  intro vs w8 hle hs
  have v7 := hs 7 (by omega) rfl
  simp only at v7
  clear hs
  have HB9 := hide (HB1.out.trans (hle.mono HB1.out.size))
  clear hle
  simp only [putN, dstAt]
  go_simp
  go_wp2_with fail
  go_ret
  exact ⟨by rw [HRES.out]; rfl, HB9.out⟩
set_option maxRecDepth 100000 in
set_option maxHeartbeats 800000 in
theorem c_thide (key nonce root : Tg) (w : World) (hP : PrimesAt w) :
    Calls Tryd.prog 53 #[tgV key, tgV nonce, tgV root] w fun e w' => e = .returned (.string (txt (hideB key nonce root))) ∧ Below w.heap.size w w' := by
  obtain ⟨W1, hW1⟩ : ∃ W1, W1 = ((w.alloc (.cells (tgC key) 29)).alloc (.cells (tgC nonce) 29)).alloc (.cells (tgC root) 29) := ⟨_, rfl⟩
  obtain ⟨g1, g2, g3⟩ := heap3 w (tgC key) (tgC nonce) (tgC root) 29
  rw [← hW1] at g1 g2 g3
  have HB1 : Hid (Below w.heap.size w W1) := hide (by rw [hW1]; exact below3 _ _ _ _)
  have Hkey := hide g1
  have Hnonce := hide g2
  have HRR := hide (tag_row root g3)
  clear g1 g2 g3
  have HP1 := hide (hP.ext HB1.out)
  have hw0 := hP.1
  clear hP
  obtain ⟨kt, hkt⟩ : ∃ kt, dkey key uVault [] = kt := ⟨_, rfl⟩
  obtain ⟨sx, hsx⟩ : ∃ sx, sealB kt nonce root.l = sx := ⟨_, rfl⟩
  have HKT := hide hkt
  have HSX := hide hsx
  have HRES : Hid (hideB key nonce root = sx) := hide (by rw [hideB, hkt, hsx])
  have HFL := hide vault_len
  have HLR : Hid (root.l.length < 1048576) := hide (by rw [root.len]; decide)
  clear hkt hsx
  go_enter Tryd.func53, Tryd.ntmps53
  go_wp2_with fail
  rw [← hW1]
  clear hW1
  refine wp_region_ext mixed 6 (fun i v w' => match i with
    | 0 => v = tgV key
    | 1 => v = tgV kt
    | 2 => v = tgV nonce
    | 3 => v = .slice (some ⟨w.heap.size + 2, 0, none⟩) 32 32
    | 4 => v = .string (txt root.l)
    | _ => v = .string (txt sx)
    ) (regOk_of (by kernel_rfl)) rfl ?_ ?_ ?_
  · intro i v w1 w2 h1 h2
    split at h2 <;> exact h2
  · refine ⟨fun a w2 hle hd hf hs K hK => ?_, fun a w2 hle hd hf hs K hK => ?_, fun a w2 hle hd hf hs K hK => ?_, fun a w2 hle hd hf hs K hK => ?_, fun a w2 hle hd hf hs K hK => ?_, fun a w2 hle hd hf hs K hK => ?_, trivial⟩
    all_goals clear hd
    · -- 7 := Op.load 29 t3
      have e3 := hf 3 rfl; simp [Act.eval] at e3
      have hq : agg? w2 ⟨w.heap.size, 0, none⟩ 32 = some (tgC key) := (agg_of_row (hle.heap Hkey.out) 0 32 (by decide)).trans (tgC_part key)
      go_simp; exact hK _ _ (Ext.refl _) rfl
    · -- 8 := Op.call { value (Operand.func 22), args := #[t7, const (Value.string { data := #[118, 97, 117, 108, 116] }), const (Value.slice none 0 0)], argTypes := #[29, 9, 34] }
      have e7 := hs 0 7 (needs_direct (by kernel_rfl)) rfl; simp [Act.eval] at e7
      go_simp
      refine (c_dkey key uVault none 0 0 [] _ w2 (Kd.Row.nil kStr (fun _ => True) w2 none 0 (Nat.zero_le _)) (by decide) (HP1.out.ext hle) HFL.out).mono ?_
      rintro z w9 ⟨rfl, b9⟩
      rw [HKT.out]
      exact hK _ _ b9 rfl
    · -- 9 := Op.load 29 t4
      have e4 := hf 4 rfl; simp [Act.eval] at e4
      have hq : agg? w2 ⟨w.heap.size + 1, 0, none⟩ 32 = some (tgC nonce) := (agg_of_row (hle.heap Hnonce.out) 0 32 (by decide)).trans (tgC_part nonce)
      go_simp; exact hK _ _ (Ext.refl _) rfl
    · -- 10 := Op.slice 29 t5 none none none
      have e5 := hf 5 rfl; simp [Act.eval] at e5
      go_simp; exact hK _ _ (Ext.refl _) rfl
    · -- 11 := Op.convert 22 9 t10
      have e10 := hs 3 10 (needs_direct (by kernel_rfl)) rfl; simp [Act.eval] at e10
      have hq := row_string (P := Tryd.prog) Tryd.underlying22 Tryd.underlying5 Tryd.underlying9 (HRR.out.below hle)
      go_simp; exact hK _ _ (Ext.refl _) rfl
    · -- 12 := Op.call { value (Operand.func 36), args := #[t8, t9, t11], argTypes := #[29, 29, 9] }
      have e8 := hs 1 8 (needs_direct (by kernel_rfl)) rfl; have e9 := hs 2 9 (needs_direct (by kernel_rfl)) rfl; have e11 := hs 4 11 (needs_direct (by kernel_rfl)) rfl; simp [Act.eval] at e8 e9 e11
      go_simp
      refine (c_seal kt nonce root.l w2 HLR.out (HP1.out.ext hle)).mono ?_
      rintro z w9 ⟨rfl, b9⟩
      rw [HSX.out]
      exact hK _ _ b9 rfl
  intro vs w8 hle hs
  have v5 := hs 5 (by omega) rfl
  simp only at v5
  clear hs
  have HB9 := hide (HB1.out.trans (hle.mono HB1.out.size))
  clear hle
  simp only [putN, dstAt]
  go_simp
  go_wp2_with fail
  go_ret
  exact ⟨by rw [HRES.out]; rfl, HB9.out⟩
set_option maxRecDepth 100000 in
set_option maxHeartbeats 800000 in
theorem c_rhide (key nonce root : Tg) (w : World) :
    Calls Tryd.prog 54 #[tgV key, tgV nonce, tgV root] w fun e w' => e = .returned (.string (txt (hideB key nonce root))) ∧ Below w.heap.size w w' := by
  obtain ⟨W1, hW1⟩ : ∃ W1, W1 = ((w.alloc (.cells (tgC key) 29)).alloc (.cells (tgC nonce) 29)).alloc (.cells (tgC root) 29) := ⟨_, rfl⟩
  obtain ⟨g1, g2, g3⟩ := heap3 w (tgC key) (tgC nonce) (tgC root) 29
  rw [← hW1] at g1 g2 g3
  have HB1 : Hid (Below w.heap.size w W1) := hide (by rw [hW1]; exact below3 _ _ _ _)
  have Hkey := hide g1
  have Hnonce := hide g2
  have HRR := hide (tag_row root g3)
  clear g1 g2 g3
  obtain ⟨kt, hkt⟩ : ∃ kt, dkey key uVault [] = kt := ⟨_, rfl⟩
  obtain ⟨sx, hsx⟩ : ∃ sx, sealB kt nonce root.l = sx := ⟨_, rfl⟩
  have HKT := hide hkt
  have HSX := hide hsx
  have HRES : Hid (hideB key nonce root = sx) := hide (by rw [hideB, hkt, hsx])
  have HFL := hide vault_len
  have HLR : Hid (root.l.length < 1048576) := hide (by rw [root.len]; decide)
  clear hkt hsx
  go_enter Tryd.func54, Tryd.ntmps54
  go_wp2_with fail
  rw [← hW1]
  clear hW1
  refine wp_region_ext mixed 6 (fun i v w' => match i with
    | 0 => v = tgV key
    | 1 => v = tgV kt
    | 2 => v = tgV nonce
    | 3 => v = .slice (some ⟨w.heap.size + 2, 0, none⟩) 32 32
    | 4 => v = .string (txt root.l)
    | _ => v = .string (txt sx)
    ) (regOk_of (by kernel_rfl)) rfl ?_ ?_ ?_
  · intro i v w1 w2 h1 h2
    split at h2 <;> exact h2
  · refine ⟨fun a w2 hle hd hf hs K hK => ?_, fun a w2 hle hd hf hs K hK => ?_, fun a w2 hle hd hf hs K hK => ?_, fun a w2 hle hd hf hs K hK => ?_, fun a w2 hle hd hf hs K hK => ?_, fun a w2 hle hd hf hs K hK => ?_, trivial⟩
    all_goals clear hd
    · -- 7 := Op.load 29 t3
      have e3 := hf 3 rfl; simp [Act.eval] at e3
      have hq : agg? w2 ⟨w.heap.size, 0, none⟩ 32 = some (tgC key) := (agg_of_row (hle.heap Hkey.out) 0 32 (by decide)).trans (tgC_part key)
      go_simp; exact hK _ _ (Ext.refl _) rfl
    · -- 8 := Op.call { value (Operand.func 23), args := #[t7, const (Value.string { data := #[118, 97, 117, 108, 116] }), const (Value.slice none 0 0)], argTypes := #[29, 9, 34] }
      have e7 := hs 0 7 (needs_direct (by kernel_rfl)) rfl; simp [Act.eval] at e7
      go_simp
      refine (c_rkey key uVault none 0 0 [] _ w2 (Kd.Row.nil kStr (fun _ => True) w2 none 0 (Nat.zero_le _)) (by decide) HFL.out).mono ?_
      rintro z w9 ⟨rfl, b9⟩
      rw [HKT.out]
      exact hK _ _ b9 rfl
    · -- 9 := Op.load 29 t4
      have e4 := hf 4 rfl; simp [Act.eval] at e4
      have hq : agg? w2 ⟨w.heap.size + 1, 0, none⟩ 32 = some (tgC nonce) := (agg_of_row (hle.heap Hnonce.out) 0 32 (by decide)).trans (tgC_part nonce)
      go_simp; exact hK _ _ (Ext.refl _) rfl
    · -- 10 := Op.slice 29 t5 none none none
      have e5 := hf 5 rfl; simp [Act.eval] at e5
      go_simp; exact hK _ _ (Ext.refl _) rfl
    · -- 11 := Op.convert 22 9 t10
      have e10 := hs 3 10 (needs_direct (by kernel_rfl)) rfl; simp [Act.eval] at e10
      have hq := row_string (P := Tryd.prog) Tryd.underlying22 Tryd.underlying5 Tryd.underlying9 (HRR.out.below hle)
      go_simp; exact hK _ _ (Ext.refl _) rfl
    · -- 12 := Op.call { value (Operand.func 37), args := #[t8, t9, t11], argTypes := #[29, 29, 9] }
      have e8 := hs 1 8 (needs_direct (by kernel_rfl)) rfl; have e9 := hs 2 9 (needs_direct (by kernel_rfl)) rfl; have e11 := hs 4 11 (needs_direct (by kernel_rfl)) rfl; simp [Act.eval] at e8 e9 e11
      go_simp
      refine (c_rseal kt nonce root.l w2 HLR.out).mono ?_
      rintro z w9 ⟨rfl, b9⟩
      rw [HSX.out]
      exact hK _ _ b9 rfl
  intro vs w8 hle hs
  have v5 := hs 5 (by omega) rfl
  simp only at v5
  clear hs
  have HB9 := hide (HB1.out.trans (hle.mono HB1.out.size))
  clear hle
  simp only [putN, dstAt]
  go_simp
  go_wp2_with fail
  go_ret
  exact ⟨by rw [HRES.out]; rfl, HB9.out⟩
end Go.Proofs.YtdkeflhgengblaaDoor
namespace Go.Proofs.YtdkeflhgengblaaDoor
open Go.RowKit

section
variable {P : Program} {ops : Array Oper}

/-- THE LAW. S i: what is known of the value that operation i yields, and goes on to hold; Le: how worlds grow. -/
theorem wp_region_two {Q : Exit → Act → World → Prop} {id : Nat} {a0 : Act} {w0 : World} (hm : P.follows .mixedOrders = true) (n : Nat) (hok : regOk ops n = true)
    (hslots : ((List.range n).all fun i => (dstAt ops i).all fun d => decide (d < a0.tmps.size)) = true)
    (Le : World → World → Prop) (hrefl : ∀ w, Le w w) (htrans : ∀ w w' w'', Le w w' → Le w' w'' → Le w w'')
    (e : Nat) (T : World → Prop) (Lt : World → World → Prop) (hlt : ∀ w w', Lt w w' → Le w w') (hT0 : T w0.drew) (hT : ∀ w w', Lt w w' → T w → T w')
    (S : Nat → Value → World → Prop) (hS : ∀ i v w w', i ≠ e → Le w w' → S i v w → S i v w') (hSe : ∀ v w w', Lt w w' → S e v w → S e v w') (U : World → Prop) (hU : ∀ w w', Lt w w' → U w → U w') (hSU : ∀ v w, S e v w → U w) (hen : e < n)
    (hop : ∀ i, i < n → ∀ o, ops[i]? = some o → ∀ (a : Act) (w : World), Le w0.drew w → a.defers = a0.defers → (∀ t, freeSlot ops n t = true → a.tmps.getD t undef = a0.tmps.getD t undef) →
      (∀ j d, (needs ops ops.size i).contains j = true → dstAt ops j = some d → S j (a.tmps.getD d undef) w) →
      (i = e → T w) → ∀ K : Act → World → Prop, (∀ v w', (Lt w w' ∨ i = e ∧ Le w w') → S i v w' → K (a.put o.dst v) w') → if Region.wanted o (yielded ops a.tmps) = true then o.wp P a w K Q else K (a.put o.dst undef) w)
    (hQ : ∀ (vs : Nat → Value) (w : World), Le w0.drew w → (∀ i, i < n → (dstAt ops i).isSome = true → S i (vs i) w) → U w → wpList P ops Q (ops.toList.drop n) (putN ops vs n a0) w) :
    (Code.region id ops true).wp P Q a0 w0 := by
  refine wp_region_any hm ?_
  have hnsz : n ≤ ops.size := by simp only [regOk, Bool.and_eq_true, decide_eq_true_eq] at hok; exact hok.2
  have hslot : ∀ i d, i < n → dstAt ops i = some d → d < a0.tmps.size := by
    intro i d hi hd
    have := List.all_eq_true.1 hslots i (by simpa using hi)
    rw [hd] at this
    simpa using this
  have key : ∀ (fuel : Nat) (l : Array Bool) (a : Act) (w : World), (l.getD e false = false → T w) → (l.getD e false = true → U w) → l.size = ops.size → cnt l ops.size ≤ fuel → Closed ops l → (∀ i, n ≤ i → i < ops.size → l.getD i false = false) → Le w0.drew w → a.defers = a0.defers → a.tmps.size = a0.tmps.size →
      (∀ t, (∀ i, i < n → l.getD i false = true → dstAt ops i ≠ some t) → a.tmps.getD t undef = a0.tmps.getD t undef) →
      (∀ i d, i < n → l.getD i false = true → dstAt ops i = some d → S i (a.tmps.getD d undef) w) → wpAny P .any ops Q fuel l a w := by
    intro fuel
    -- all of the first n are listed: the tail
    have tail : ∀ (fuel : Nat) (l : Array Bool) (a : Act) (w : World), (l.getD e false = true → U w) → l.size = ops.size → cnt l ops.size ≤ fuel → (∀ i, n ≤ i → i < ops.size → l.getD i false = false) → (∀ i, i < n → l.getD i false = true) → Le w0.drew w → a.defers = a0.defers → a.tmps.size = a0.tmps.size →
        (∀ t, (∀ i, i < n → l.getD i false = true → dstAt ops i ≠ some t) → a.tmps.getD t undef = a0.tmps.getD t undef) →
        (∀ i d, i < n → l.getD i false = true → dstAt ops i = some d → S i (a.tmps.getD d undef) w) → wpAny P .any ops Q fuel l a w := by
      intro fuel l a w hUl hs hc ht hall hle hd hsz hfree hSi
      have hcn : ∀ m, m ≤ ops.size → n ≤ m → cnt l m = m - n := by
        intro m
        induction m with
        | zero => intro _ h; rw [cnt]; omega
        | succ m ih =>
          intro h1 h2
          rw [cnt]
          by_cases e : n = m + 1
          · have : ∀ q, q ≤ m + 1 → cnt l q = 0 := by
              intro q
              induction q with
              | zero => intro _; rfl
              | succ q ihq => intro hq; rw [cnt, ihq (by omega), if_pos (hall q (by omega))]
            have h3 := this m (by omega)
            rw [h3, if_pos (hall m (by omega))]; omega
          · rw [ih (by omega) (by omega), ht m (by omega) (by omega)]
            simp; omega
      refine wpAny_tail hok fuel n l a w hs (Nat.le_refl _) hnsz (by have := hcn ops.size (Nat.le_refl _) hnsz; omega) (fun i hi => ⟨fun h => ?_, fun h => hall i h⟩) ?_
      · rcases Nat.lt_or_ge i n with h' | h'
        · exact h'
        · rw [ht i h' hi] at h; cases h
      · have ha : a = putN ops (fun i => ((dstAt ops i).map fun d => a.tmps.getD d undef).getD undef) n a0 := by
          have h1 := putN_size (ops := ops) (fun i => ((dstAt ops i).map fun d => a.tmps.getD d undef).getD undef) a0 n
          have ht : a.tmps = (putN ops (fun i => ((dstAt ops i).map fun d => a.tmps.getD d undef).getD undef) n a0).tmps := by
            apply Array.ext
            · rw [h1.1, hsz]
            · intro t ht1 ht2
              have hg : a.tmps.getD t undef = (putN ops (fun i => ((dstAt ops i).map fun d => a.tmps.getD d undef).getD undef) n a0).tmps.getD t undef := by
                by_cases hex : ∃ i, i < n ∧ dstAt ops i = some t
                · obtain ⟨i, hi, hdi⟩ := hex
                  rw [putN_at _ a0 (hsz ▸ ht1) hdi n hi (fun j hj hne hdj => regOk_dst hok hj hi hne hdj hdi)]
                  simp only [hdi, Option.map_some, Option.getD_some]
                · rw [putN_free _ a0 n (fun i hi hdi => hex ⟨i, hi, hdi⟩)]
                  exact hfree t fun i hi _ hdi => hex ⟨i, hi, hdi⟩
              have e1 : ∀ (A : Array Value) (h : t < A.size), A.getD t undef = A[t] := fun A h => by unfold Array.getD; rw [dif_pos h]; rfl
              rw [e1 _ ht1, e1 _ ht2] at hg
              exact hg
          cases a with
          | mk ta da =>
            cases hp : putN ops (fun i => ((dstAt ops i).map fun d => (Act.mk ta da).tmps.getD d undef).getD undef) n a0 with
            | mk tb db =>
              rw [hp] at ht h1
              simp only at ht h1 hd
              rw [ht, hd, h1.2]
        rw [ha]
        refine hQ _ w hle (fun i hi hsome => ?_) (hUl (hall e hen))
        obtain ⟨d, hdi⟩ := Option.isSome_iff_exists.1 hsome
        simp only [hdi, Option.map_some, Option.getD_some]
        exact hSi i d hi (hall i hi) hdi
    induction fuel with
    | zero =>
      intro l a w hTl hUl hs hc hcl ht hle hd hsz hfree hSi
      have hz := cnt_zero (l := l) (n := ops.size) (by omega)
      exact tail 0 l a w hUl hs hc ht (fun i hi => hz i (by omega)) hle hd hsz hfree hSi
    | succ fuel ih =>
      intro l a w hTl hUl hs hc hcl ht hle hd hsz hfree hSi
      by_cases hall : ∀ i, i < n → l.getD i false = true
      · exact tail _ l a w hUl hs hc ht hall hle hd hsz hfree hSi
      · refine ⟨fun h0 => absurd ?_ hall, fun i hi => ?_⟩
        · -- nothing is ready: all are listed
          intro i
          induction i using Nat.strongRecOn with
          | _ i ihi =>
            intro hi
            by_cases hb : l.getD i false = true
            · exact hb
            · exfalso
              have hi' : i < ops.size := by omega
              have : i ∈ Region.ready .any ops l := mem_ready.2 ⟨by simp [hs, hi'] at hb ⊢; exact hb, _, Array.getElem?_eq_getElem hi', fun e he hbd => by
                have hlt := regOk_edges hok (Array.getElem?_eq_getElem hi') e he hbd
                exact ihi e.on hlt (by omega)⟩
              rw [h0] at this
              simp at this
        · obtain ⟨h0, o, ho, hallo⟩ := mem_ready.1 hi
          have hi' : i < ops.size := (Array.getElem?_eq_some_iff.1 ho).1
          have h0' : l.getD i false = false := by simp [hs, hi'] at h0 ⊢; exact h0
          have hin : i < n := by
            rcases Nat.lt_or_ge i n with h' | h'
            · exact h'
            · exfalso
              refine hall fun j hj => needs_listed hcl ops.size i o ho hallo j (regOk_tail hok hi' h' (by omega))
          have hneeds := needs_listed hcl ops.size i o ho hallo
          have hdst : dstAt ops i = o.dst := by simp [dstAt, ho]
          have hnext : ∀ v w', (Lt w w' ∨ i = e ∧ Le w w') → S i v w' → wpAny P .any ops Q fuel (l.setIfInBounds i true) (a.put o.dst v) w' := by
            intro v w' hlo hSv
            have hlw : Le w w' := hlo.elim (hlt _ _) And.right
            refine ih _ _ _ (fun hfe => ?_) (fun hfe => ?_) (by simpa using hs) (by have := cnt_set (by omega) h0' hi'; omega) ?_ ?_ (htrans _ _ _ hle hlw) (by rw [put_defers']; exact hd) (by rw [put_size]; exact hsz) ?_ ?_
            · have hne : i ≠ e := fun h => by
                subst h
                rw [getD_set_same (by omega)] at hfe
                cases hfe
              rw [getD_set_ne false hne] at hfe
              rcases hlo with h | ⟨h, -⟩
              · exact hT _ _ h (hTl hfe)
              · exact absurd h hne
            · by_cases hne : i = e
              · subst hne
                exact hSU v w' hSv
              · rw [getD_set_ne false hne] at hfe
                rcases hlo with h | ⟨h, -⟩
                · exact hU _ _ h (hUl hfe)
                · exact absurd h hne
            · intro i' o' ho' hl' e he hb
              by_cases e' : i = i'
              · subst e'
                rw [ho] at ho'
                have := Option.some.inj ho'
                subst this
                exact getD_set_true (hallo e he hb)
              · rw [getD_set_ne false e'] at hl'
                exact getD_set_true (hcl i' o' ho' hl' e he hb)
            · intro j hj hj'
              rw [getD_set_ne false (by omega)]
              exact ht j hj hj'
            · intro t hft
              rw [getD_put_ne]
              · exact hfree t fun j hj hlj => hft j hj (getD_set_true hlj)
              · rw [← hdst]
                exact hft i hin (getD_set_same (by omega) _)
            · intro j d hj hlj hdj
              by_cases eij : i = j
              · subst eij
                rw [← hdst, hdj, getD_put_same (by rw [hsz]; exact hslot i d hin hdj)]
                exact hSv
              · rw [getD_set_ne false eij] at hlj
                rw [getD_put_ne]
                · by_cases hje : j = e
                  · subst hje
                    rcases hlo with h | ⟨h, -⟩
                    · exact hSe _ w w' h (hSi j d hj hlj hdj)
                    · exact absurd h eij
                  · exact hS j _ w w' hje hlw (hSi j d hj hlj hdj)
                · rw [← hdst]
                  exact fun h => regOk_dst hok hin hj eij h hdj
          have := hop i hin o ho a w hle hd (fun t hft => hfree t fun j hj _ hdj => by
              simp only [freeSlot, List.all_eq_true, List.mem_range, bne_iff_ne] at hft
              exact hft j hj hdj)
            (fun j d hj hdj => by
              have hjm : j ∈ needs ops ops.size i := by simpa using hj
              have hlj := hneeds j hjm
              have hjn : j < n := by
                rcases Nat.lt_or_ge j n with h' | h'
                · exact h'
                · exfalso
                  rcases Nat.lt_or_ge j ops.size with h'' | h''
                  · rw [ht j h' h''] at hlj; cases hlj
                  · simp [dstAt, Array.getElem?_eq_none h''] at hdj
              exact hSi j d hjn hlj hdj)
            (fun h => hTl (h ▸ h0')) (wpAny P .any ops Q fuel (l.setIfInBounds i true)) hnext
          unfold wpOp
          rw [ho]
          simp only
          split
          · rename_i hw; rw [if_pos hw] at this; exact .inl this
          · rename_i hw; rw [if_neg hw] at this; exact this
  refine key ops.size _ a0 w0.drew (fun _ => hT0) (fun h => by
    have he : e < ops.size := by omega
    simp [he] at h) (by simp) ?_ ?_ ?_ (hrefl _) rfl rfl (fun _ _ => rfl) ?_
  · have : ∀ (l : Array Bool) m, cnt l m ≤ m := by
      intro l m
      induction m with
      | zero => exact Nat.le_refl _
      | succ m ih => rw [cnt]; split <;> omega
    exact this _ _
  · intro i o ho hl
    have hi : i < ops.size := (Array.getElem?_eq_some_iff.1 ho).1
    simp [hi] at hl
  · intro i _ hi
    simp [hi]
  · intro i d hi hl
    have : i < ops.size := by omega
    simp [this] at hl

/-- b: the block that operation e may change; T: what holds until e is done. -/
theorem wp_region_st {Q : Exit → Act → World → Prop} {id : Nat} {a0 : Act} {w0 : World} (hm : P.follows .mixedOrders = true) (n : Nat) (b : Option Nat) (e : Nat) (T : World → Prop) (S : Nat → Value → World → Prop) (hok : regOk ops n = true)
    (hslots : ((List.range n).all fun i => (dstAt ops i).all fun d => decide (d < a0.tmps.size)) = true) (hT0 : T w0) (hT : ∀ w w', Ext w w' → T w → T w')
    (hS : ∀ i v w w', i ≠ e → w.grownBy w' b → S i v w → S i v w') (hSe : ∀ v w w', Ext w w' → S e v w → S e v w') (U : World → Prop) (hU : ∀ w w', Ext w w' → U w → U w') (hSU : ∀ v w, S e v w → U w) (hen : e < n) (hop : Hops1 P ops n a0 w0 b e T S Q (ops.toList.take n) 0)
    (hQ : ∀ (vs : Nat → Value) (w : World), w0.grownBy w b → (∀ i, i < n → (dstAt ops i).isSome = true → S i (vs i) w) → U w → wpList P ops Q (ops.toList.drop n) (putN ops vs n a0) w) :
    (Code.region id ops true).wp P Q a0 w0 := by
  refine wp_region_two hm n hok hslots (fun w w' => w.grownBy w' b) (fun w => grownBy_refl w b) (fun _ _ _ => grownBy_trans) e T Ext (fun _ _ => grownBy_ext) (hT _ _ (Ext.drew _) hT0) hT S hS hSe U hU hSU hen (fun i hi o ho a w hle hd hf hs hTi K hK => ?_) (fun vs w hle => hQ vs w (grownBy_trans (grownBy_ext (Ext.drew _)) hle))
  have h := hops1_at _ 0 i o hop (by rw [List.getElem?_take, if_pos hi]; simpa using ho)
  rw [Nat.zero_add] at h
  have h := h a w (grownBy_trans (grownBy_ext (Ext.drew _)) hle) hd hf hs hTi K hK
  cases hg : o.guard with
  | none =>
    rw [hg] at h
    rw [if_pos (by simp [Region.wanted, hg])]
    exact h
  | some jw =>
    obtain ⟨j, want⟩ := jw
    rw [hg] at h
    simp only at h
    split
    · rename_i hw
      rw [if_pos (by simpa [Region.wanted, hg] using hw)] at h
      exact h
    · rename_i hw
      rw [if_neg (by simpa [Region.wanted, hg] using hw)] at h
      exact h
end
end Go.Proofs.YtdkeflhgengblaaDoor
namespace Go.Proofs.YtdkeflhgengblaaDoor
open Go.RowKit
attribute [local go_sem ↓] ld8 ld32 ld64 ld73
attribute [local go_sem] run_ldAgg run_storeAgg agg_alloc_at agg_alloc_past agg_drew agg_setCell row_alloc_at row_alloc_past row_drew setRow_alloc_at setRow_alloc_past setRow_drew agg_setRow_at agg_setRow_far cell_setRow_at cell_setRow_far row_setRow_far size_setRow s8C_size s8C_part s8C_one s8C_splice0 s8C_ne dgC_size dgC_72 dgC_part dgC_h dgC_r dgC_splice_h dgC_set dgC_one dgC_splice0 dgC_ne zero_dg
attribute [local go_sem] tgC_size tgC_one tgC_part tgC_splice tgC_splice_any zero_tg tgC_ne

/-- What a party finds. -/
def unlockO (key : Tg) (s : List UInt8) : Option (Tg × List UInt8) :=
  match openB (dkey key uParty []) s with
  | none => none
  | some p => if p.length < 32 then none else some (tagL (p.take 32), p.drop 32)
def unlockV : Option (Tg × List UInt8) → Value
  | none => .tuple #[tgV Tg.zero, .string (txt []), .bool false]
  | some (r, c) => .tuple #[tgV r, .string (txt c), .bool true]
theorem openB_len {key : Tg} {s p : List UInt8} (h : openB key s = some p) : p.length ≤ s.length := by
  unfold openB at h
  split at h
  · cases h
  · split at h
    · obtain rfl := Option.some.inj h
      rw [turnd_len, List.length_take, List.length_drop]
      omega
    · cases h
set_option maxRecDepth 100000 in
set_option maxHeartbeats 800000 in
theorem c_unlock (key : Tg) (s : List UInt8) (w : World) (hn : s.length < 1000000) (hP : PrimesAt w) :
    Calls Tryd.prog 47 #[tgV key, .string (txt s)] w fun e w' => e = .returned (unlockV (unlockO key s)) ∧ Below w.heap.size w w' := by
  have HP := hide hP
  have hw0 := hP.1
  clear hP
  obtain ⟨kt, hkt⟩ : ∃ kt, dkey key uParty [] = kt := ⟨_, rfl⟩
  have HKT := hide hkt
  have HFL := hide party_len
  have HL20 : Hid (s.length < 1048576) := hide (by omega)
  have HB2 : Hid (Below w.heap.size w ((w.alloc (.cells (tgC key) 29)).alloc (.cells (tgC Tg.zero) 29))) := hide (below2 _ _ _)
  have HZ2 := hide (heap_alloc_new (w.alloc (.cells (tgC key) 29)) (.cells (tgC Tg.zero) 29))
  go_enter Tryd.func47, Tryd.ntmps47
  go_wp2_with fail
  refine (c_dkey key uParty none 0 0 [] _ _ (Kd.Row.nil kStr (fun _ => True) _ none 0 (Nat.zero_le _)) (by decide) (HP.out.ext HB2.out) HFL.out).mono ?_
  rintro e w3 ⟨rfl, b3⟩
  rw [HKT.out]
  have HB3 := hide (bnext HB2.out b3)
  have HZ3 := hide ((b3.block _ (by simp only [World.size_alloc]; omega)).trans HZ2.out)
  have hs3 := b3.size
  simp only [World.size_alloc] at hs3
  clear b3 HB2 HZ2
  go_wp2_with fail
  refine (c_open kt s w3 HL20.out (HP.out.ext HB3.out)).mono ?_
  rintro e w4 ⟨rfl, b4⟩
  have HB4 := hide (HB3.out.trans (b4.mono (by omega)))
  have HZ4 : Hid (w4.heap[w.heap.size + 1]? = some (.cells (tgC Tg.zero) 29)) := hide ((b4.block _ (by omega)).trans (by have := HZ3.out; simpa only [World.size_alloc] using this))
  have hs4 : w.heap.size + 2 ≤ w4.heap.size := by have := b4.size; omega
  obtain ⟨o, ho⟩ : ∃ o, openB kt s = o := ⟨_, rfl⟩
  rw [ho]
  cases o with
  | none =>
    have HU : Hid (unlockO key s = none) := hide (by rw [unlockO, hkt, ho])
    rw [show openV none = .tuple #[.string (txt []), .bool false] from rfl]
    have hrz := row_of HZ4.out
    have hage : agg? (w4.setRow (w.heap.size + 1) (tgC Tg.zero)) ⟨w.heap.size + 1, 0, none⟩ 32 = some (tgC Tg.zero) := (agg_setRow_at _ _ _ _ _ (by rw [hrz]; rfl) (by decide)).trans (tgC_part Tg.zero)
    have HBE := hide (bsetRow HB4.out (Nat.le_succ w.heap.size) (tgC Tg.zero))
    clear hkt hn ho b4
    go_wp2_with fail
    exact bodyPost_ret (v := unlockV none) (by simp [results, Tryd.results47, go_sem, unlockV, hage]) rfl ⟨by rw [HU.out], HBE.out⟩
  | some p =>
    obtain ⟨L, hL⟩ : ∃ L, L = p.length := ⟨_, rfl⟩
    have hsz : (txt p).size = L := by rw [txt_size, hL]
    rw [show openV (some p) = .tuple #[.string (txt p), .bool true] from rfl]
    by_cases hp : L < 32
    · have HU : Hid (unlockO key s = none) := hide (by rw [unlockO, hkt, ho]; exact if_pos (by omega))
      clear hL
      have hrz := row_of HZ4.out
      have hage : agg? (w4.setRow (w.heap.size + 1) (tgC Tg.zero)) ⟨w.heap.size + 1, 0, none⟩ 32 = some (tgC Tg.zero) := (agg_setRow_at _ _ _ _ _ (by rw [hrz]; rfl) (by decide)).trans (tgC_part Tg.zero)
      have HBE := hide (bsetRow HB4.out (Nat.le_succ w.heap.size) (tgC Tg.zero))
      clear hkt hn ho b4
      go_wp2_with fail
      exact bodyPost_ret (v := unlockV none) (by simp [results, Tryd.results47, go_sem, unlockV, hage]) rfl ⟨by rw [HU.out], HBE.out⟩
    · obtain ⟨nb, hnb⟩ : ∃ nb, (p.drop 0).take (32 - 0) = nb := ⟨_, rfl⟩
      obtain ⟨cb, hcb⟩ : ∃ cb, (p.drop 32).take (L - 32) = cb := ⟨_, rfl⟩
      obtain ⟨rt, hrt⟩ : ∃ rt, tagL nb = rt := ⟨_, rfl⟩
      have l1 : nb.length = 32 := by rw [← hnb]; simp only [List.drop_zero, List.length_take]; omega
      have hzn : (txt nb).size = 32 := by rw [txt_size, l1]
      have HU : Hid (unlockO key s = some (rt, cb)) := hide (by
        rw [unlockO, hkt, ho]
        refine (if_neg (by omega)).trans ?_
        rw [← hrt, ← hnb, ← hcb, List.take_of_length_le (l := p.drop 32) (by rw [List.length_drop]; omega)]
        rfl)
      have HNB := hide hnb
      have HCB := hide hcb
      have HL32 := hide l1
      have HNL : Hid (nb = rt.l) := hide (by rw [← hrt, tagL_l l1])
      have HTN : Hid ((nb.map bv).toArray = tgC rt) := hide (by rw [← hrt, tgC, tagL_l l1])
      have hle1 : (32 : Int) ≤ (L : Int) := by omega
      have hLm : L < 9223372036854775807 := by
        have h1 := openB_len (key := kt) (s := s) (by rw [ho])
        omega
      clear hkt hn ho b4 hnb hcb hrt l1 hL
      go_wp2_with fail
      refine wp_region_st mixed 10 (some (w.heap.size + 1)) 7 (fun w' => w'.heap[w.heap.size + 1]? = some (.cells (tgC Tg.zero) 29)) (fun i v w' => match i with
        | 0 => v = .string (txt p)
        | 1 => v = .string (txt nb)
        | 2 => ∃ A c, v = .slice A 32 c ∧ kU8.Row (fun j => j ≠ w.heap.size + 1) w' A 32 c nb
        | 3 => ∃ A c, v = .pointer A ∧ kU8.Row (fun j => j ≠ w.heap.size + 1) w' A 32 c nb
        | 4 => v = tgV rt
        | 5 => v = .string (txt p)
        | 6 => v = .string (txt cb)
        | 7 => w'.heap[w.heap.size + 1]? = some (.cells (tgC rt) 29)
        | 8 => v = .string (txt cb)
        | _ => v = .bool true
        ) (regOk_of (by kernel_rfl)) rfl ?_ ?_ ?_ ?_ (fun w' => w'.heap[w.heap.size + 1]? = some (.cells (tgC rt) 29)) ?_ (fun _ _ h => h) (by decide) ?_ ?_
      · exact HZ4.out
      · intro w1 w2 h1 h2
        exact (h1.block _ (Array.getElem?_eq_some_iff.1 h2).1).trans h2
      · intro i v w1 w2 hne h1 h2
        split at h2 <;> first | exact h2 | exact absurd rfl hne | (obtain ⟨A, c, e, hr⟩ := h2; exact ⟨A, c, e, hr.keep fun j hj hlt => h1.block j hlt (fun e' => hj (Option.some.inj e'))⟩)
      · intro v w1 w2 h1 h2
        exact (h1.block _ (Array.getElem?_eq_some_iff.1 h2).1).trans h2
      · intro w1 w2 h1 h2
        exact (h1.block _ (Array.getElem?_eq_some_iff.1 h2).1).trans h2
      · refine ⟨fun a w2 hle hd hf hs hT K hK => ?_, fun a w2 hle hd hf hs hT K hK => ?_, fun a w2 hle hd hf hs hT K hK => ?_, fun a w2 hle hd hf hs hT K hK => ?_, fun a w2 hle hd hf hs hT K hK => ?_, fun a w2 hle hd hf hs hT K hK => ?_, fun a w2 hle hd hf hs hT K hK => ?_, fun a w2 hle hd hf hs hT K hK => ?_, fun a w2 hle hd hf hs hT K hK => ?_, fun a w2 hle hd hf hs hT K hK => ?_, trivial⟩
        all_goals clear hd
        · -- 23 := Op.move t7
          have e7 := hf 7 rfl; simp [Act.eval] at e7
          go_simp; exact hK _ _ (.inl (Ext.refl _)) rfl
        · -- 24 := Op.slice 9 t23 none (some (const (32:i64))) none
          have e23 := hs 0 23 (needs_direct (by kernel_rfl)) rfl; simp [Act.eval] at e23
          go_simp
          exact hK _ _ (.inl (Ext.refl _)) (ext_is HNB.out rfl rfl)
        · -- 25 := Op.convert 9 22 t24
          have e24 := hs 1 24 (needs_direct (by kernel_rfl)) rfl; simp [Act.eval] at e24
          have f24 := hs 1 24 (needs_direct (by kernel_rfl)) rfl
          refine wp_tobytes 9 22 _ rfl (txt nb) f24 Tryd.underlying9 Tryd.underlying22 Tryd.underlying5 (by rw [hzn]; decide) ?_
          intro c w' h1 h2
          rw [byt_txt, hzn] at h1
          rw [hzn]
          have hsz2 := hle.size
          exact hK _ _ (.inl h2) ⟨_, c, rfl, h1.more fun j hj => by omega⟩
        · -- 26 := Op.sliceToArrayPointer 29 t25
          obtain ⟨A25, c25, e25, hr25⟩ := hs 2 25 (needs_direct (by kernel_rfl)) rfl; simp [Act.eval] at e25
          obtain ⟨p', o, rfl, -, hb, hc⟩ := row_bytes hr25 (by decide)
          have hap : ∀ wx : World, (Instr.arrayAt 29 (.slice (some ⟨p', o, none⟩) 32 c25)).run Tryd.prog wx = .ok (.pointer (some ⟨p', o, none⟩)) wx := fun wx => by simp [Instr.arrayAt, run_underlying Tryd.underlying29]
          go_simp
          exact hK _ _ (.inl (Ext.refl _)) ⟨_, c25, rfl, hr25⟩
        · -- 27 := Op.load 29 t26
          obtain ⟨A26, c26, e26, hr26⟩ := hs 3 26 (needs_direct (by kernel_rfl)) rfl; simp [Act.eval] at e26
          obtain ⟨p', o, rfl, -, hb, hc⟩ := row_bytes hr26 (by decide)
          have hag : agg? w2 ⟨p', o, none⟩ 32 = some (tgC rt) := by
            have := agg_range (w := w2) (b := p') (o := o) (cs := nb.map bv) (fun j v hv => by
              rw [List.getElem?_map] at hv
              obtain ⟨x, hx, rfl⟩ := Option.map_eq_some_iff.1 hv
              exact hc j x hx) 32 (by rw [List.length_map]; exact HL32.out)
            rw [this, HTN.out]
          go_simp
          exact hK _ _ (.inl (Ext.refl _)) rfl
        · -- 28 := Op.move t7
          have e7 := hf 7 rfl; simp [Act.eval] at e7
          go_simp; exact hK _ _ (.inl (Ext.refl _)) rfl
        · -- 29 := Op.slice 9 t28 (some (const (32:i64))) none none
          have e28 := hs 5 28 (needs_direct (by kernel_rfl)) rfl; simp [Act.eval] at e28
          go_simp
          exact hK _ _ (.inl (Ext.refl _)) (ext_is HCB.out rfl rfl)
        · -- None := Op.store 29 t4 t27
          have e4 := hf 4 rfl; have e27 := hs 4 27 (needs_direct (by kernel_rfl)) rfl; simp [Act.eval] at e4 e27
          have hz := hT rfl
          have hrz := row_of hz
          go_simp
          exact hK undef _ (.inr ⟨rfl, grown_setRow (grownBy_refl _ _) _⟩) (setRow_heap w2 (w.heap.size + 1) (tgC Tg.zero) (tgC rt) 29 _ hz)
        · -- 5 := Op.assign t29
          have e29 := hs 6 29 (needs_direct (by kernel_rfl)) rfl; simp [Act.eval] at e29
          go_simp; exact hK _ _ (.inl (Ext.refl _)) rfl
        · -- 6 := Op.assign (const (Value.bool true))
          go_simp; exact hK _ _ (.inl (Ext.refl _)) rfl
      intro vs w8 hle hs hU8
      have v8 := hs 8 (by omega) rfl
      have v9 := hs 9 (by omega) rfl
      simp only at v8 v9
      clear hs
      have hag8 : agg? w8 ⟨w.heap.size + 1, 0, none⟩ 32 = some (tgC rt) := (agg_of_row hU8 0 32 (by decide)).trans (tgC_part rt)
      have HB8 := hide (HB4.out.grown hle (by omega) (fun q e => by have := Option.some.inj e; omega))
      clear hle hU8
      simp only [putN, dstAt]
      go_simp
      go_wp2_with fail
      exact bodyPost_ret (v := unlockV (some (rt, cb))) (by simp [results, Tryd.results47, go_sem, unlockV, hag8]) rfl ⟨by rw [HU.out], HB8.out⟩
set_option maxRecDepth 100000 in
set_option maxHeartbeats 800000 in
theorem c_runlock (key : Tg) (s : List UInt8) (w : World) (hn : s.length < 1000000) :
    Calls Tryd.prog 48 #[tgV key, .string (txt s)] w fun e w' => e = .returned (unlockV (unlockO key s)) ∧ Below w.heap.size w w' := by
  obtain ⟨kt, hkt⟩ : ∃ kt, dkey key uParty [] = kt := ⟨_, rfl⟩
  have HKT := hide hkt
  have HFL := hide party_len
  have HL20 : Hid (s.length < 1048576) := hide (by omega)
  have HB2 : Hid (Below w.heap.size w ((w.alloc (.cells (tgC key) 29)).alloc (.cells (tgC Tg.zero) 29))) := hide (below2 _ _ _)
  have HZ2 := hide (heap_alloc_new (w.alloc (.cells (tgC key) 29)) (.cells (tgC Tg.zero) 29))
  go_enter Tryd.func48, Tryd.ntmps48
  go_wp2_with fail
  refine (c_rkey key uParty none 0 0 [] _ _ (Kd.Row.nil kStr (fun _ => True) _ none 0 (Nat.zero_le _)) (by decide) HFL.out).mono ?_
  rintro e w3 ⟨rfl, b3⟩
  rw [HKT.out]
  have HB3 := hide (bnext HB2.out b3)
  have HZ3 := hide ((b3.block _ (by simp only [World.size_alloc]; omega)).trans HZ2.out)
  have hs3 := b3.size
  simp only [World.size_alloc] at hs3
  clear b3 HB2 HZ2
  go_wp2_with fail
  refine (c_ropen kt s w3 HL20.out).mono ?_
  rintro e w4 ⟨rfl, b4⟩
  have HB4 := hide (HB3.out.trans (b4.mono (by omega)))
  have HZ4 : Hid (w4.heap[w.heap.size + 1]? = some (.cells (tgC Tg.zero) 29)) := hide ((b4.block _ (by omega)).trans (by have := HZ3.out; simpa only [World.size_alloc] using this))
  have hs4 : w.heap.size + 2 ≤ w4.heap.size := by have := b4.size; omega
  obtain ⟨o, ho⟩ : ∃ o, openB kt s = o := ⟨_, rfl⟩
  rw [ho]
  cases o with
  | none =>
    have HU : Hid (unlockO key s = none) := hide (by rw [unlockO, hkt, ho])
    rw [show openV none = .tuple #[.string (txt []), .bool false] from rfl]
    have hrz := row_of HZ4.out
    have hage : agg? (w4.setRow (w.heap.size + 1) (tgC Tg.zero)) ⟨w.heap.size + 1, 0, none⟩ 32 = some (tgC Tg.zero) := (agg_setRow_at _ _ _ _ _ (by rw [hrz]; rfl) (by decide)).trans (tgC_part Tg.zero)
    have HBE := hide (bsetRow HB4.out (Nat.le_succ w.heap.size) (tgC Tg.zero))
    clear hkt hn ho b4
    go_wp2_with fail
    exact bodyPost_ret (v := unlockV none) (by simp [results, Tryd.results48, go_sem, unlockV, hage]) rfl ⟨by rw [HU.out], HBE.out⟩
  | some p =>
    obtain ⟨L, hL⟩ : ∃ L, L = p.length := ⟨_, rfl⟩
    have hsz : (txt p).size = L := by rw [txt_size, hL]
    rw [show openV (some p) = .tuple #[.string (txt p), .bool true] from rfl]
    by_cases hp : L < 32
    · have HU : Hid (unlockO key s = none) := hide (by rw [unlockO, hkt, ho]; exact if_pos (by omega))
      clear hL
      have hrz := row_of HZ4.out
      have hage : agg? (w4.setRow (w.heap.size + 1) (tgC Tg.zero)) ⟨w.heap.size + 1, 0, none⟩ 32 = some (tgC Tg.zero) := (agg_setRow_at _ _ _ _ _ (by rw [hrz]; rfl) (by decide)).trans (tgC_part Tg.zero)
      have HBE := hide (bsetRow HB4.out (Nat.le_succ w.heap.size) (tgC Tg.zero))
      clear hkt hn ho b4
      go_wp2_with fail
      exact bodyPost_ret (v := unlockV none) (by simp [results, Tryd.results48, go_sem, unlockV, hage]) rfl ⟨by rw [HU.out], HBE.out⟩
    · obtain ⟨nb, hnb⟩ : ∃ nb, (p.drop 0).take (32 - 0) = nb := ⟨_, rfl⟩
      obtain ⟨cb, hcb⟩ : ∃ cb, (p.drop 32).take (L - 32) = cb := ⟨_, rfl⟩
      obtain ⟨rt, hrt⟩ : ∃ rt, tagL nb = rt := ⟨_, rfl⟩
      have l1 : nb.length = 32 := by rw [← hnb]; simp only [List.drop_zero, List.length_take]; omega
      have hzn : (txt nb).size = 32 := by rw [txt_size, l1]
      have HU : Hid (unlockO key s = some (rt, cb)) := hide (by
        rw [unlockO, hkt, ho]
        refine (if_neg (by omega)).trans ?_
        rw [← hrt, ← hnb, ← hcb, List.take_of_length_le (l := p.drop 32) (by rw [List.length_drop]; omega)]
        rfl)
      have HNB := hide hnb
      have HCB := hide hcb
      have HL32 := hide l1
      have HNL : Hid (nb = rt.l) := hide (by rw [← hrt, tagL_l l1])
      have HTN : Hid ((nb.map bv).toArray = tgC rt) := hide (by rw [← hrt, tgC, tagL_l l1])
      have hle1 : (32 : Int) ≤ (L : Int) := by omega
      have hLm : L < 9223372036854775807 := by
        have h1 := openB_len (key := kt) (s := s) (by rw [ho])
        omega
      clear hkt hn ho b4 hnb hcb hrt l1 hL
      go_wp2_with fail
      refine wp_region_st mixed 9 (some (w.heap.size + 1)) 6 (fun w' => w'.heap[w.heap.size + 1]? = some (.cells (tgC Tg.zero) 29)) (fun i v w' => match i with
        | 0 => v = .string (txt p)
        | 1 => v = .string (txt nb)
        | 2 => ∃ A c, v = .slice A 32 c ∧ kU8.Row (fun j => j ≠ w.heap.size + 1) w' A 32 c nb
        | 3 => v = tgV rt
        | 4 => v = .string (txt p)
        | 5 => v = .string (txt cb)
        | 6 => w'.heap[w.heap.size + 1]? = some (.cells (tgC rt) 29)
        | 7 => v = .string (txt cb)
        | _ => v = .bool true
        ) (regOk_of (by kernel_rfl)) rfl ?_ ?_ ?_ ?_ (fun w' => w'.heap[w.heap.size + 1]? = some (.cells (tgC rt) 29)) ?_ (fun _ _ h => h) (by decide) ?_ ?_
      · exact HZ4.out
      · intro w1 w2 h1 h2
        exact (h1.block _ (Array.getElem?_eq_some_iff.1 h2).1).trans h2
      · intro i v w1 w2 hne h1 h2
        split at h2 <;> first | exact h2 | exact absurd rfl hne | (obtain ⟨A, c, e, hr⟩ := h2; exact ⟨A, c, e, hr.keep fun j hj hlt => h1.block j hlt (fun e' => hj (Option.some.inj e'))⟩)
      · intro v w1 w2 h1 h2
        exact (h1.block _ (Array.getElem?_eq_some_iff.1 h2).1).trans h2
      · intro w1 w2 h1 h2
        exact (h1.block _ (Array.getElem?_eq_some_iff.1 h2).1).trans h2
      · refine ⟨fun a w2 hle hd hf hs hT K hK => ?_, fun a w2 hle hd hf hs hT K hK => ?_, fun a w2 hle hd hf hs hT K hK => ?_, fun a w2 hle hd hf hs hT K hK => ?_, fun a w2 hle hd hf hs hT K hK => ?_, fun a w2 hle hd hf hs hT K hK => ?_, fun a w2 hle hd hf hs hT K hK => ?_, fun a w2 hle hd hf hs hT K hK => ?_, fun a w2 hle hd hf hs hT K hK => ?_, trivial⟩
        all_goals clear hd
        · -- 24 := Op.move t7
          have e7 := hf 7 rfl; simp [Act.eval] at e7
          go_simp; exact hK _ _ (.inl (Ext.refl _)) rfl
        · -- 25 := Op.slice 9 t24 none (some (const (32:i64))) none
          have e24 := hs 0 24 (needs_direct (by kernel_rfl)) rfl; simp [Act.eval] at e24
          go_simp
          exact hK _ _ (.inl (Ext.refl _)) (ext_is HNB.out rfl rfl)
        · -- 26 := Op.convert 9 22 t25
          have e25 := hs 1 25 (needs_direct (by kernel_rfl)) rfl; simp [Act.eval] at e25
          have f25 := hs 1 25 (needs_direct (by kernel_rfl)) rfl
          refine wp_tobytes 9 22 _ rfl (txt nb) f25 Tryd.underlying9 Tryd.underlying22 Tryd.underlying5 (by rw [hzn]; decide) ?_
          intro c w' h1 h2
          rw [byt_txt, hzn] at h1
          rw [hzn]
          have hsz2 := hle.size
          exact hK _ _ (.inl h2) ⟨_, c, rfl, h1.more fun j hj => by omega⟩
        · -- 27 := Op.call { value (Operand.func 76), args := #[t26], argTypes := #[22] }
          obtain ⟨A26, c26, e26, hr26⟩ := hs 2 26 (needs_direct (by kernel_rfl)) rfl; simp [Act.eval] at e26
          go_simp
          rw [HNL.out] at hr26
          refine (c_rtag rt _ c26 _ w2 hr26).mono ?_
          rintro z w9 ⟨rfl, b9⟩
          exact hK _ _ (.inl b9) rfl
        · -- 28 := Op.move t7
          have e7 := hf 7 rfl; simp [Act.eval] at e7
          go_simp; exact hK _ _ (.inl (Ext.refl _)) rfl
        · -- 29 := Op.slice 9 t28 (some (const (32:i64))) none none
          have e28 := hs 4 28 (needs_direct (by kernel_rfl)) rfl; simp [Act.eval] at e28
          go_simp
          exact hK _ _ (.inl (Ext.refl _)) (ext_is HCB.out rfl rfl)
        · -- None := Op.store 29 t4 t27
          have e4 := hf 4 rfl; have e27 := hs 3 27 (needs_direct (by kernel_rfl)) rfl; simp [Act.eval] at e4 e27
          have hz := hT rfl
          have hrz := row_of hz
          go_simp
          exact hK undef _ (.inr ⟨rfl, grown_setRow (grownBy_refl _ _) _⟩) (setRow_heap w2 (w.heap.size + 1) (tgC Tg.zero) (tgC rt) 29 _ hz)
        · -- 5 := Op.assign t29
          have e29 := hs 5 29 (needs_direct (by kernel_rfl)) rfl; simp [Act.eval] at e29
          go_simp; exact hK _ _ (.inl (Ext.refl _)) rfl
        · -- 6 := Op.assign (const (Value.bool true))
          go_simp; exact hK _ _ (.inl (Ext.refl _)) rfl
      intro vs w8 hle hs hU8
      have v7 := hs 7 (by omega) rfl
      have v8 := hs 8 (by omega) rfl
      simp only at v7 v8
      clear hs
      have hag8 : agg? w8 ⟨w.heap.size + 1, 0, none⟩ 32 = some (tgC rt) := (agg_of_row hU8 0 32 (by decide)).trans (tgC_part rt)
      have HB8 := hide (HB4.out.grown hle (by omega) (fun q e => by have := Option.some.inj e; omega))
      clear hle hU8
      simp only [putN, dstAt]
      go_simp
      go_wp2_with fail
      exact bodyPost_ret (v := unlockV (some (rt, cb))) (by simp [results, Tryd.results48, go_sem, unlockV, hag8]) rfl ⟨by rw [HU.out], HB8.out⟩
end Go.Proofs.YtdkeflhgengblaaDoor
namespace Go.Proofs.YtdkeflhgengblaaDoor
open Go.RowKit
attribute [local go_sem ↓] ld8 ld32 ld64 ld73
attribute [local go_sem] run_ldAgg run_storeAgg agg_alloc_at agg_alloc_past agg_drew agg_setCell row_alloc_at row_alloc_past row_drew setRow_alloc_at setRow_alloc_past setRow_drew agg_setRow_at agg_setRow_far cell_setRow_at cell_setRow_far row_setRow_far size_setRow s8C_size s8C_part s8C_one s8C_splice0 s8C_ne dgC_size dgC_72 dgC_part dgC_h dgC_r dgC_splice_h dgC_set dgC_one dgC_splice0 dgC_ne zero_dg
attribute [local go_sem] tgC_size tgC_one tgC_part tgC_splice tgC_splice_any zero_tg tgC_ne
attribute [local go_sem ↓] ld36
attribute [local go_sem] tokC_size tokC_0 tokC_1 tokC_2 tokC_3 tokC_g0 tokC_g1 tokC_g2 tokC_g3 tokC_part tokC_tag tokC_set0 tokC_set1 tokC_set2 tokC_set3 tokC_splice tokC_splice0 zero_tok tokC_all tokC_ne

theorem ld38 (a : Addr) : loadCellsFrom a 0 38 #[] = ldAgg a 38 := rfl
attribute [local go_sem ↓] ld38
attribute [local go_sem] atmC_size atmC_0 atmC_33 atmC_34 atmC_35 atmC_36 atmC_37 atmC_part atmC_tag
def valV (o : Option Tg) : Value := .tuple #[tgV (o.getD Tg.zero), .bool o.isSome]
def Val (base : Nat) (l : List Out) (d : Nat) : Prop := ∀ (D : Nat) (z : Int) (a : Atm) (A : Option Addr) (p q : Nat) (B : Option Addr) (m r : Nat) (ok : Nat → Prop) (w : World) (g : Nat) (v : Value), 0 ≤ z → z + d = 17 → StoreAt base w g v l → kStr.Row ok w A p q a.parts → (kAtm D).Row ok w B m r a.sub → smallA d a → PrimesAt w →
    Calls Tryd.prog 94 #[.pointer (some ⟨g, 0, none⟩), atmV a A p q B m r, .int .i64 z] w fun e w' => e = .returned (valV (valT l d a)) ∧ Below w.heap.size w w'
set_option maxRecDepth 100000 in
set_option maxHeartbeats 1600000 in
theorem val_zero (base : Nat) (l : List Out) : Val base l 0 := by
  intro D z a A p q B m r ok w g v hz0 hz h hp hs ha hP
  have hz16 : 16 < z := by omega
  obtain ⟨CA, hCA⟩ : ∃ CA, CA = atmA a A p q B m r := ⟨_, rfl⟩
  have hzA : CA.size = 38 := by rw [hCA]; exact atmC_size _ _ _ _ _ _ _
  have hoA : oneAll CA = true := by rw [hCA]; exact atmC_all _ _ _ _ _ _ _ _ _ _ _
  rw [show atmV a A p q B m r = .agg CA from by rw [hCA]]
  clear hCA h hp hs ha hP
  go_enter Tryd.func94, Tryd.ntmps94
  go_wp2_with fail
  exact bodyPost_ret (v := .tuple #[tgV Tg.zero, .bool false]) (by simp [results, Tryd.results94, go_sem]) rfl ⟨by rw [show valT l 0 a = none from rfl]; rfl, by repeat (first | exact below3 _ _ _ _ | exact below2 _ _ _ | refine Below.alloc ?_ (by first | omega | (simp; omega)) _ | refine bsetRow ?_ (by omega) _)⟩

set_option maxRecDepth 100000 in
set_option maxHeartbeats 1600000 in
theorem val_succ (base : Nat) (l : List Out) (hn : l.length ≤ 1099511627776) (hsz : ∀ o ∈ l, o.bytes.size ≤ 1000000) (d : Nat) (ih : Val base l d) : Val base l (d + 1) := by
  intro D z a A p q B m r ok w g v hz0 hz h hp hs ha hP
  have hz16 : z ≤ 16 := by omega
  have hw0 := hP.1
  obtain ⟨CA, hCA⟩ : ∃ CA, CA = atmA a A p q B m r := ⟨_, rfl⟩
  have hzA : CA.size = 38 := by rw [hCA]; exact atmC_size _ _ _ _ _ _ _
  have hoA : oneAll CA = true := by rw [hCA]; exact atmC_all _ _ _ _ _ _ _ _ _ _ _
  rw [show atmV a A p q B m r = .agg CA from by rw [hCA]]
  obtain ⟨x0, x1, x2⟩ := heap3g w CA (tgC Tg.zero) (tgC Tg.zero) 98 29 29
  have c0 : (((w.alloc (.cells CA 98)).alloc (.cells (tgC Tg.zero) 29)).alloc (.cells (tgC Tg.zero) 29)).cell? ⟨w.heap.size, 0, none⟩ = some (.int .i64 a.kind) := (cell_of_row _ _ _ _ _ _ x0).trans (by rw [hCA]; exact atmC_0 _ _ _ _ _ _ _)
  have c33 : (((w.alloc (.cells CA 98)).alloc (.cells (tgC Tg.zero) 29)).alloc (.cells (tgC Tg.zero) 29)).cell? ⟨w.heap.size, 33, none⟩ = some (.int .i64 a.out) := (cell_of_row _ _ _ _ _ _ x0).trans (by rw [hCA]; exact atmC_33 _ _ _ _ _ _ _)
  have c34 : (((w.alloc (.cells CA 98)).alloc (.cells (tgC Tg.zero) 29)).alloc (.cells (tgC Tg.zero) 29)).cell? ⟨w.heap.size, 34, none⟩ = some (.int .i64 a.tok) := (cell_of_row _ _ _ _ _ _ x0).trans (by rw [hCA]; exact atmC_34 _ _ _ _ _ _ _)
  have c35 : (((w.alloc (.cells CA 98)).alloc (.cells (tgC Tg.zero) 29)).alloc (.cells (tgC Tg.zero) 29)).cell? ⟨w.heap.size, 35, none⟩ = some (.string a.use) := (cell_of_row _ _ _ _ _ _ x0).trans (by rw [hCA]; exact atmC_35 _ _ _ _ _ _ _)
  have c36 : (((w.alloc (.cells CA 98)).alloc (.cells (tgC Tg.zero) 29)).alloc (.cells (tgC Tg.zero) 29)).cell? ⟨w.heap.size, 36, none⟩ = some (.slice A p q) := (cell_of_row _ _ _ _ _ _ x0).trans (by rw [hCA]; exact atmC_36 _ _ _ _ _ _ _)
  have c37 : (((w.alloc (.cells CA 98)).alloc (.cells (tgC Tg.zero) 29)).alloc (.cells (tgC Tg.zero) 29)).cell? ⟨w.heap.size, 37, none⟩ = some (.slice B m r) := (cell_of_row _ _ _ _ _ _ x0).trans (by rw [hCA]; exact atmC_37 _ _ _ _ _ _ _)
  have g0 : CA[0]'(by rw [hzA]; decide) = .int .i64 a.kind := by
    have h3 : CA[0]? = some (.int .i64 a.kind) := by rw [hCA]; exact atmC_0 _ _ _ _ _ _ _
    rw [Array.getElem?_eq_getElem (by rw [hzA]; decide)] at h3
    exact Option.some.inj h3
  have g33 : CA[33]'(by rw [hzA]; decide) = .int .i64 a.out := by
    have h3 : CA[33]? = some (.int .i64 a.out) := by rw [hCA]; exact atmC_33 _ _ _ _ _ _ _
    rw [Array.getElem?_eq_getElem (by rw [hzA]; decide)] at h3
    exact Option.some.inj h3
  have g34 : CA[34]'(by rw [hzA]; decide) = .int .i64 a.tok := by
    have h3 : CA[34]? = some (.int .i64 a.tok) := by rw [hCA]; exact atmC_34 _ _ _ _ _ _ _
    rw [Array.getElem?_eq_getElem (by rw [hzA]; decide)] at h3
    exact Option.some.inj h3
  have g35 : CA[35]'(by rw [hzA]; decide) = .string a.use := by
    have h3 : CA[35]? = some (.string a.use) := by rw [hCA]; exact atmC_35 _ _ _ _ _ _ _
    rw [Array.getElem?_eq_getElem (by rw [hzA]; decide)] at h3
    exact Option.some.inj h3
  have g36 : CA[36]'(by rw [hzA]; decide) = .slice A p q := by
    have h3 : CA[36]? = some (.slice A p q) := by rw [hCA]; exact atmC_36 _ _ _ _ _ _ _
    rw [Array.getElem?_eq_getElem (by rw [hzA]; decide)] at h3
    exact Option.some.inj h3
  have g37 : CA[37]'(by rw [hzA]; decide) = .slice B m r := by
    have h3 : CA[37]? = some (.slice B m r) := by rw [hCA]; exact atmC_37 _ _ _ _ _ _ _
    rw [Array.getElem?_eq_getElem (by rw [hzA]; decide)] at h3
    exact Option.some.inj h3
  have hagt : agg? (((w.alloc (.cells CA 98)).alloc (.cells (tgC Tg.zero) 29)).alloc (.cells (tgC Tg.zero) 29)) ⟨w.heap.size, 1, none⟩ 32 = some (tgC a.tag) := (agg_of_row x0 1 32 (by decide)).trans (by rw [hCA]; exact atmC_tag _ _ _ _ _ _ _)
  obtain ⟨W3, hW3⟩ : ∃ W3, W3 = (((w.alloc (.cells CA 98)).alloc (.cells (tgC Tg.zero) 29)).alloc (.cells (tgC Tg.zero) 29)) := ⟨_, rfl⟩
  have HW3 := hide hW3
  rw [← hW3] at x0 x1 x2
  have X0 := hide x0
  have X1 := hide x1
  have X2 := hide x2
  have hs3 : W3.heap.size = w.heap.size + 3 := by rw [hW3]; simp only [World.size_alloc]
  have HB3 : Hid (Below w.heap.size w W3) := hide (by rw [hW3]; exact below3 _ _ _ _)
  have H3 := hide (h.below HB3.out)
  have HP3 := hide (hP.ext HB3.out)
  have HPR := hide (hp.bound.below HB3.out)
  have HSR := hide (hs.bound.below HB3.out)
  have HA := hide ha
  have HCA := hide hCA
  have HN := hide hn
  have HSZ := hide hsz
  have HZ := hide hz
  clear x0 x1 x2 hW3 h hp hs ha hP hCA hn hsz hz
  by_cases h1 : a.kind = 1
  · have HV : Hid (valT l (d + 1) a = some a.tag) := hide (if_pos h1)
    rw [h1] at c0 g0
    go_enter Tryd.func94, Tryd.ntmps94
    go_wp2_with fail
    exact bodyPost_ret (v := .tuple #[tgV a.tag, .bool true]) (by simp [results, Tryd.results94, go_sem]) rfl ⟨by rw [HV.out]; rfl, by repeat (first | exact below3 _ _ _ _ | exact below2 _ _ _ | refine Below.alloc ?_ (by first | omega | (simp; omega)) _ | refine bsetRow ?_ (by omega) _)⟩

  by_cases h2 : a.kind = 2
  · have HV : Hid (valT l (d + 1) a = if (pubR l a.out a.tok).2 = true then some (pubR l a.out a.tok).1 else none) := hide ((if_neg h1).trans (if_pos h2))
    rw [h2] at c0 g0
    clear h1
    go_enter Tryd.func94, Tryd.ntmps94
    go_wp2_with fail
    rw [← HW3.out]
    refine (c_public base W3 g v l a.out a.tok H3.out HN.out HSZ.out).mono ?_
    rintro e w4 ⟨rfl, b4⟩
    obtain ⟨t, ht⟩ : ∃ t, (pubR l a.out a.tok).1 = t := ⟨_, rfl⟩
    obtain ⟨b, hb⟩ : ∃ b, (pubR l a.out a.tok).2 = b := ⟨_, rfl⟩
    rw [ht, hb] at HV ⊢
    have hs4 := b4.size
    have k1 := (b4.block _ (by omega)).trans X1.out
    have k2 := (b4.block _ (by omega)).trans X2.out
    have hr1 := row_of k1
    have hr2 := row_of k2
    have HB4 := hide (HB3.out.trans (b4.mono (by omega)))
    have hage : ∀ X u, agg? ((w4.setRow (w.heap.size + 1 + 1) X).setRow (w.heap.size + 1) (tgC u)) ⟨w.heap.size + 1, 0, none⟩ 32 = some (tgC u) := fun X u => (agg_setRow_at _ _ _ _ _ (by rw [row_setRow_far _ _ _ _ (by omega), hr1]; rfl) (by decide)).trans (tgC_part _)
    clear ht hb b4 k1 k2 c0 c33 c34 c35 c36 c37 g0 g33 g34 g35 g36 g37 hagt HW3
    cases b with
    | true =>
      have HV' : Hid (valT l (d + 1) a = some t) := hide HV.out
      go_wp2_with fail
      exact bodyPost_ret (v := .tuple #[tgV t, .bool true]) (by simp [results, Tryd.results94, go_sem, hage]) rfl ⟨by rw [HV'.out]; rfl, bsetRow (bsetRow HB4.out (by omega) _) (by omega) _⟩

    | false =>
      have HV' : Hid (valT l (d + 1) a = none) := hide HV.out
      go_wp2_with fail
      exact bodyPost_ret (v := .tuple #[tgV Tg.zero, .bool false]) (by simp [results, Tryd.results94, go_sem, hage]) rfl ⟨by rw [HV'.out]; rfl, bsetRow (bsetRow HB4.out (by omega) _) (by omega) _⟩

  by_cases h34 : a.kind = 3 ∨ a.kind = 4
  · have HV : Hid (valT l (d + 1) a = match a.sub with
        | [x] => match valT l d x with
          | some key => if a.kind = 3 then some (dkey key a.use a.parts) else match a.parts with
            | [y] => openT key (byt y)
            | _ => none
          | none => none
        | _ => none) := hide ((if_neg h1).trans ((if_neg h2).trans (if_pos h34)))
    clear h1 h2
    by_cases hm : m = 1
    · subst hm
      obtain ⟨x, hx⟩ : ∃ x, a.sub = [x] := List.length_eq_one_iff.1 HSR.out.1
      rw [hx] at HV HSR
      have hax : smallA d x := by have := HA.out.2.2 x (by rw [hx]; exact List.mem_singleton.2 rfl); exact this
      obtain ⟨b, o, cs, hix, -, hbl, hK, hra⟩ := (HSR.out.below (below1 W3 (.cells (tgC Tg.zero) 29))).index (P := Tryd.prog) Tryd.underlying96 (E := 98) (atm_size D) (i := 0) (x := x) rfl
      cases D with
      | zero => exact hK.elim
      | succ D =>
      obtain ⟨A', p', q', B', m', r', rfl, hpx, hsx⟩ := hK
      have hix0 : ∀ wx : World, (Instr.indexAt 96 (.slice B 1 r) (.int .i64 0)).run Tryd.prog wx = .ok (.pointer (some ⟨b, o, none⟩)) wx := hix
      have hagx : agg? (W3.alloc (.cells (tgC Tg.zero) 29)) ⟨b, o, none⟩ 38 = some (atmA x A' p' q' B' m' r') := (agg_range hra 38 (by rw [Array.length_toList]; exact atmC_size _ _ _ _ _ _ _)).trans (by rw [Array.toArray_toList])
      obtain ⟨CX, hCX⟩ : ∃ CX, CX = atmA x A' p' q' B' m' r' := ⟨_, rfl⟩
      rw [← hCX] at hagx
      have HPX := hide hpx
      have HSX := hide hsx
      have HAX := hide hax
      have HTX : Hid (Value.agg CX = atmV x A' p' q' B' m' r') := hide (by rw [hCX])
      have HH3 := hide (H3.out.below (below1 W3 (.cells (tgC Tg.zero) 29)))
      have HPP := hide (HP3.out.ext (below1 W3 (.cells (tgC Tg.zero) 29)))
      have HZ1 : Hid (z + 1 + (d : Nat) = 17) := hide (by have := HZ.out; omega)
      rw [HW3.out] at hagx
      clear hx hix hra hpx hsx hax hCX HSR hbl
      rcases h34 with h3 | h4
      · rw [h3] at c0 g0
        have HV3 : Hid (valT l (d + 1) a = match valT l d x with
          | some key => some (dkey key a.use a.parts)
          | none => none) := hide (by have := HV.out; rw [h3] at this; exact this)
        have hkd := h3
        clear HV h3
        go_enter Tryd.func94, Tryd.ntmps94
        go_wp2_with fail
        rw [HTX.out, ← HW3.out]
        refine (ih D (z + 1) x A' p' q' B' m' r' _ _ g v (by omega) HZ1.out HH3.out HPX.out HSX.out HAX.out HPP.out).mono ?_
        rintro e w5 ⟨rfl, b5⟩
        obtain ⟨kt, hkt⟩ : ∃ kt, valT l d x = kt := ⟨_, rfl⟩
        rw [hkt] at HV3 ⊢
        have hs5 := b5.size
        simp only [World.size_alloc] at hs5
        have b35 : Below W3.heap.size W3 w5 := (below1 W3 _).trans (b5.mono (by simp only [World.size_alloc]; omega))
        have k0 := (b35.block _ (by omega)).trans X0.out
        have k1 := (b35.block _ (by omega)).trans X1.out
        have k2 := (b35.block _ (by omega)).trans X2.out
        have k3 : w5.heap[w.heap.size + 3]? = some (.cells (tgC Tg.zero) 29) := (b5.block _ (by simp only [World.size_alloc]; omega)).trans (by rw [← hs3]; exact heap_alloc_new W3 _)
        have hr1 := row_of k1
        have hr2 := row_of k2
        have hr3 := row_of k3
        have B35 := hide b35
        have K0 := hide k0
        have HB5 := hide (HB3.out.trans (b35.mono (by omega)))
        clear hkt b5 b35 k2 k3 c0 c33 c34 c35 c36 c37 g0 g33 g34 g35 g36 g37 hagt hagx
        cases kt with
        | none =>
          have HN' : Hid (valT l (d + 1) a = none) := hide HV3.out
          rw [show valV none = .tuple #[tgV Tg.zero, .bool false] from rfl]
          have hage : ∀ X u, agg? ((w5.setRow (w.heap.size + 1 + 1 + 1) X).setRow (w.heap.size + 1) (tgC u)) ⟨w.heap.size + 1, 0, none⟩ 32 = some (tgC u) := fun X u => (agg_setRow_at _ _ _ _ _ (by rw [row_setRow_far _ _ _ _ (by omega), hr1]; rfl) (by decide)).trans (tgC_part _)
          go_wp2_with fail
          exact bodyPost_ret (v := .tuple #[tgV Tg.zero, .bool false]) (by simp [results, Tryd.results94, go_sem, hage]) rfl ⟨by rw [HN'.out]; rfl, bsetRow (bsetRow HB5.out (by omega) _) (by omega) _⟩

        | some kk =>
          have HN' : Hid (valT l (d + 1) a = some (dkey kk a.use a.parts)) := hide HV3.out
          rw [show valV (some kk) = .tuple #[tgV kk, .bool true] from rfl]
          have k06 : (w5.setRow (w.heap.size + 1 + 1 + 1) (tgC kk)).heap[w.heap.size]? = some (.cells CA 98) := by rw [heap_setRow_far _ _ _ (by omega)]; exact k0
          have c0 : (w5.setRow (w.heap.size + 1 + 1 + 1) (tgC kk)).cell? ⟨w.heap.size, 0, none⟩ = some (.int .i64 3) := (cell_of_row _ _ _ _ _ _ k06).trans (by rw [HCA.out]; exact (atmC_0 _ _ _ _ _ _ _).trans (by rw [hkd]))
          have c33 : (w5.setRow (w.heap.size + 1 + 1 + 1) (tgC kk)).cell? ⟨w.heap.size, 33, none⟩ = some (.int .i64 a.out) := (cell_of_row _ _ _ _ _ _ k06).trans (by rw [HCA.out]; exact atmC_33 _ _ _ _ _ _ _)
          have c34 : (w5.setRow (w.heap.size + 1 + 1 + 1) (tgC kk)).cell? ⟨w.heap.size, 34, none⟩ = some (.int .i64 a.tok) := (cell_of_row _ _ _ _ _ _ k06).trans (by rw [HCA.out]; exact atmC_34 _ _ _ _ _ _ _)
          have c35 : (w5.setRow (w.heap.size + 1 + 1 + 1) (tgC kk)).cell? ⟨w.heap.size, 35, none⟩ = some (.string a.use) := (cell_of_row _ _ _ _ _ _ k06).trans (by rw [HCA.out]; exact atmC_35 _ _ _ _ _ _ _)
          have c36 : (w5.setRow (w.heap.size + 1 + 1 + 1) (tgC kk)).cell? ⟨w.heap.size, 36, none⟩ = some (.slice A p q) := (cell_of_row _ _ _ _ _ _ k06).trans (by rw [HCA.out]; exact atmC_36 _ _ _ _ _ _ _)
          have c37 : (w5.setRow (w.heap.size + 1 + 1 + 1) (tgC kk)).cell? ⟨w.heap.size, 37, none⟩ = some (.slice B 1 r) := (cell_of_row _ _ _ _ _ _ k06).trans (by rw [HCA.out]; exact atmC_37 _ _ _ _ _ _ _)
          clear k0 k06
          have hag3 : agg? (w5.setRow (w.heap.size + 1 + 1 + 1) (tgC kk)) ⟨w.heap.size + 1 + 1 + 1, 0, none⟩ 32 = some (tgC kk) := (agg_setRow_at _ _ _ _ _ (by rw [hr3]; rfl) (by decide)).trans (tgC_part _)
          have B36 : Hid (Below W3.heap.size W3 (w5.setRow (w.heap.size + 1 + 1 + 1) (tgC kk))) := hide (bsetRow B35.out (by omega) _)
          have hz7 : (w5.setRow (w.heap.size + 1 + 1 + 1) (tgC kk)).heap[w.heap.size + 1]? = some (.cells (tgC Tg.zero) 29) := by rw [heap_setRow_far _ _ _ (by omega)]; exact k1
          clear k1
          go_wp2_with fail
          refine (c_dkey kk a.use A p q a.parts _ _ (HPR.out.below B36.out) (by have := HA.out.1; simp only [maxLen]; omega) (HP3.out.ext B36.out) (by have := HA.out.2.1; omega)).mono ?_
          rintro e w7 ⟨rfl, b7⟩
          obtain ⟨t, ht⟩ : ∃ t, dkey kk a.use a.parts = t := ⟨_, rfl⟩
          rw [ht] at HN' ⊢
          have hs7 := b7.size
          simp only [size_setRow] at hs7
          have k7 := (b7.block (w.heap.size + 1) (by rw [size_setRow]; omega)).trans hz7
          have hr7 := row_of k7
          have HB7 := hide (HB3.out.trans ((B36.out.mono (by omega)).trans (b7.mono (by rw [size_setRow]; omega))))
          have hage : agg? (w7.setRow (w.heap.size + 1) (tgC t)) ⟨w.heap.size + 1, 0, none⟩ 32 = some (tgC t) := (agg_setRow_at _ _ _ _ _ (by rw [hr7]; rfl) (by decide)).trans (tgC_part _)
          clear ht b7 k7 hz7 c0 c33 c34 c35 c36 c37
          go_wp2_with fail
          exact bodyPost_ret (v := .tuple #[tgV t, .bool true]) (by simp [results, Tryd.results94, go_sem, hage]) rfl ⟨by rw [HN'.out]; rfl, bsetRow HB7.out (by omega) _⟩

      · rw [h4] at c0 g0
        have HV4 : Hid (valT l (d + 1) a = match valT l d x with
          | some key => (match a.parts with
            | [y] => openT key (byt y)
            | _ => none)
          | none => none) := hide (by have := HV.out; rw [h4] at this; exact this)
        have hkd := h4
        clear HV h4
        go_enter Tryd.func94, Tryd.ntmps94
        go_wp2_with fail
        rw [HTX.out, ← HW3.out]
        refine (ih D (z + 1) x A' p' q' B' m' r' _ _ g v (by omega) HZ1.out HH3.out HPX.out HSX.out HAX.out HPP.out).mono ?_
        rintro e w5 ⟨rfl, b5⟩
        obtain ⟨kt, hkt⟩ : ∃ kt, valT l d x = kt := ⟨_, rfl⟩
        rw [hkt] at HV4 ⊢
        have hs5 := b5.size
        simp only [World.size_alloc] at hs5
        have b35 : Below W3.heap.size W3 w5 := (below1 W3 _).trans (b5.mono (by simp only [World.size_alloc]; omega))
        have k0 := (b35.block _ (by omega)).trans X0.out
        have k1 := (b35.block _ (by omega)).trans X1.out
        have k2 := (b35.block _ (by omega)).trans X2.out
        have k3 : w5.heap[w.heap.size + 3]? = some (.cells (tgC Tg.zero) 29) := (b5.block _ (by simp only [World.size_alloc]; omega)).trans (by rw [← hs3]; exact heap_alloc_new W3 _)
        have hr1 := row_of k1
        have hr2 := row_of k2
        have hr3 := row_of k3
        have B35 := hide b35
        have K0 := hide k0
        have HB5 := hide (HB3.out.trans (b35.mono (by omega)))
        clear hkt b5 b35  c0 c33 c34 c35 c36 c37 g0 g33 g34 g35 g36 g37 hagt hagx
        cases kt with
        | none =>
          have HN' : Hid (valT l (d + 1) a = none) := hide HV4.out
          rw [show valV none = .tuple #[tgV Tg.zero, .bool false] from rfl]
          have hage : ∀ X u, agg? ((w5.setRow (w.heap.size + 1 + 1 + 1) X).setRow (w.heap.size + 1) (tgC u)) ⟨w.heap.size + 1, 0, none⟩ 32 = some (tgC u) := fun X u => (agg_setRow_at _ _ _ _ _ (by rw [row_setRow_far _ _ _ _ (by omega), hr1]; rfl) (by decide)).trans (tgC_part _)
          go_wp2_with fail
          exact bodyPost_ret (v := .tuple #[tgV Tg.zero, .bool false]) (by simp [results, Tryd.results94, go_sem, hage]) rfl ⟨by rw [HN'.out]; rfl, bsetRow (bsetRow HB5.out (by omega) _) (by omega) _⟩

        | some kk =>
          have HV5 : Hid (valT l (d + 1) a = match a.parts with
            | [y] => openT kk (byt y)
            | _ => none) := hide HV4.out
          clear HV4
          rw [show valV (some kk) = .tuple #[tgV kk, .bool true] from rfl]
          obtain ⟨W6, hW6⟩ : ∃ W6, W6 = w5.setRow (w.heap.size + 1 + 1 + 1) (tgC kk) := ⟨_, rfl⟩
          have hs6 : W6.heap.size = w5.heap.size := by rw [hW6, size_setRow]
          have k06 : W6.heap[w.heap.size]? = some (.cells CA 98) := by rw [hW6, heap_setRow_far _ _ _ (by omega)]; exact k0
          have c0 : W6.cell? ⟨w.heap.size, 0, none⟩ = some (.int .i64 4) := (cell_of_row _ _ _ _ _ _ k06).trans (by rw [HCA.out]; exact (atmC_0 _ _ _ _ _ _ _).trans (by rw [hkd]))
          have c33 : W6.cell? ⟨w.heap.size, 33, none⟩ = some (.int .i64 a.out) := (cell_of_row _ _ _ _ _ _ k06).trans (by rw [HCA.out]; exact atmC_33 _ _ _ _ _ _ _)
          have c34 : W6.cell? ⟨w.heap.size, 34, none⟩ = some (.int .i64 a.tok) := (cell_of_row _ _ _ _ _ _ k06).trans (by rw [HCA.out]; exact atmC_34 _ _ _ _ _ _ _)
          have c35 : W6.cell? ⟨w.heap.size, 35, none⟩ = some (.string a.use) := (cell_of_row _ _ _ _ _ _ k06).trans (by rw [HCA.out]; exact atmC_35 _ _ _ _ _ _ _)
          have c36 : W6.cell? ⟨w.heap.size, 36, none⟩ = some (.slice A p q) := (cell_of_row _ _ _ _ _ _ k06).trans (by rw [HCA.out]; exact atmC_36 _ _ _ _ _ _ _)
          have c37 : W6.cell? ⟨w.heap.size, 37, none⟩ = some (.slice B 1 r) := (cell_of_row _ _ _ _ _ _ k06).trans (by rw [HCA.out]; exact atmC_37 _ _ _ _ _ _ _)
          clear k0
          have k61 : W6.heap[w.heap.size + 1]? = some (.cells (tgC Tg.zero) 29) := by rw [hW6, heap_setRow_far _ _ _ (by omega)]; exact k1
          have k62 : W6.heap[w.heap.size + 2]? = some (.cells (tgC Tg.zero) 29) := by rw [hW6, heap_setRow_far _ _ _ (by omega)]; exact k2
          have k63 : W6.heap[w.heap.size + 1 + 1 + 1]? = some (.cells (tgC kk) 29) := by rw [hW6]; exact setRow_heap w5 (w.heap.size + 1 + 1 + 1) (tgC Tg.zero) (tgC kk) 29 _ k3
          have B36 : Hid (Below W3.heap.size W3 W6) := hide (by rw [hW6]; exact bsetRow B35.out (by omega) _)
          have HB6 := hide (HB3.out.trans (B36.out.mono (by omega)))
          have K60 := hide k06
          have K61 := hide k61
          have K62 := hide k62
          have K63 := hide k63
          have hr61 := row_of k61
          have hr62 := row_of k62
          have hr63 := row_of k63
          have HP6 := hide (HP3.out.ext B36.out)
          have hsW := hW6.symm
          clear k1 k2 k3 k06 k61 k62 k63 hW6
          by_cases hp1 : p = 1
          · subst hp1
            obtain ⟨y, hy⟩ : ∃ y, a.parts = [y] := List.length_eq_one_iff.1 HPR.out.1
            obtain ⟨bp, op, hip, hcp, hpb, hsm⟩ := row_str (i := 0) (x := y) (HPR.out.below B36.out) (by rw [hy]; rfl)
            have hip0 : ∀ wx : World, (Instr.indexAt 34 (.slice A 1 q) (.int .i64 0)).run Tryd.prog wx = .ok (.pointer (some ⟨bp, op, none⟩)) wx := hip
            have HV6 : Hid (valT l (d + 1) a = openT kk (byt y)) := hide (by have := HV5.out; rw [hy] at this; exact this)
            have HYL : Hid ((byt y).length < 1048576) := hide (by
              have := HA.out.2.1
              rw [hy] at this
              simp only [frames_cons, frames_nil, List.length_append, frm_len, List.length_nil] at this
              rw [byt_len]; omega)
            obtain ⟨ys, hys⟩ : ∃ ys, byt y = ys := ⟨_, rfl⟩
            have hyt : y = txt ys := by rw [← hys, txt_byt]
            rw [hys] at HV6 HYL
            rw [hyt] at hcp
            have HCP := hide hcp
            have HIP := hide hip0
            clear hy hip hcp hsm hys hyt hip0
            go_wp2_with fail
            obtain ⟨ob, hob⟩ : ∃ o, openB kk ys = o := ⟨_, rfl⟩
            have HOB := hide hob
            clear hob
            refine wp_region_ext mixed 10 (fun i v w' => match i with
              | 0 => v = tgV kk
              | 1 => v = .pointer (some ⟨w.heap.size, 36, none⟩)
              | 2 => v = .slice A 1 q
              | 3 => v = .pointer (some ⟨bp, op, none⟩)
              | 4 => v = .string (txt ys)
              | 5 => v = openV ob
              | 6 => v = openV ob
              | 7 => v = .string (txt (ob.getD []))
              | 8 => v = .bool ob.isSome
              | _ => v = .string (txt (ob.getD []))
              ) (regOk_of (by kernel_rfl)) rfl ?_ ?_ ?_
            · intro i v w1 w2 h1 h2
              split at h2 <;> exact h2
            · refine ⟨fun a w2 hle hd hf hs K hK => ?_, fun a w2 hle hd hf hs K hK => ?_, fun a w2 hle hd hf hs K hK => ?_, fun a w2 hle hd hf hs K hK => ?_, fun a w2 hle hd hf hs K hK => ?_, fun a w2 hle hd hf hs K hK => ?_, fun a w2 hle hd hf hs K hK => ?_, fun a w2 hle hd hf hs K hK => ?_, fun a w2 hle hd hf hs K hK => ?_, fun a w2 hle hd hf hs K hK => ?_, trivial⟩
              all_goals clear hd
              · -- 68 := Op.load 29 t10
                have e10 := hf 10 rfl; simp [Act.eval] at e10
                have hq : agg? w2 ⟨w.heap.size + 1 + 1 + 1, 0, none⟩ 32 = some (tgC kk) := (agg_of_row (hle.heap K63.out) 0 32 (by decide)).trans (tgC_part kk)
                go_simp; exact hK _ _ (Ext.refl _) rfl
              · -- 69 := Op.fieldAddr 98 t4 5
                have e4 := hf 4 rfl; simp [Act.eval] at e4
                go_simp; exact hK _ _ (Ext.refl _) rfl
              · -- 70 := Op.load 34 t69
                have e69 := hs 1 69 (needs_direct (by kernel_rfl)) rfl; simp [Act.eval] at e69
                have hq := hle.cell c36
                go_simp; exact hK _ _ (Ext.refl _) rfl
              · -- 71 := Op.indexAddr 34 t70 (const (0:i64))
                have e70 := hs 2 70 (needs_direct (by kernel_rfl)) rfl; simp [Act.eval] at e70
                have hix := HIP.out
                go_simp; exact hK _ _ (Ext.refl _) rfl
              · -- 72 := Op.load 9 t71
                have e71 := hs 3 71 (needs_direct (by kernel_rfl)) rfl; simp [Act.eval] at e71
                have hq := hle.cell HCP.out
                go_simp; exact hK _ _ (Ext.refl _) rfl
              · -- 73 := Op.call { value (Operand.func 34), args := #[t68, t72], argTypes := #[29, 9] }
                have e68 := hs 0 68 (needs_direct (by kernel_rfl)) rfl; have e72 := hs 4 72 (needs_direct (by kernel_rfl)) rfl; simp [Act.eval] at e68 e72
                go_simp
                refine (c_open kk ys w2 HYL.out (HP6.out.ext hle)).mono ?_
                rintro z w9 ⟨rfl, b9⟩
                rw [HOB.out]
                exact hK _ _ b9 rfl
              · -- 67 := Op.move t73
                have e73 := hs 5 73 (needs_direct (by kernel_rfl)) rfl; simp [Act.eval] at e73
                go_simp; exact hK _ _ (Ext.refl _) rfl
              · -- 74 := Op.extract t67 0
                have e67 := hs 6 67 (needs_direct (by kernel_rfl)) rfl; simp [Act.eval] at e67
                go_simp; exact hK _ _ (Ext.refl _) rfl
              · -- 75 := Op.extract t67 1
                have e67 := hs 6 67 (needs_direct (by kernel_rfl)) rfl; simp [Act.eval] at e67
                go_simp; exact hK _ _ (Ext.refl _) rfl
              · -- 11 := Op.assign t74
                have e74 := hs 7 74 (needs_direct (by kernel_rfl)) rfl; simp [Act.eval] at e74
                go_simp; exact hK _ _ (Ext.refl _) rfl
            intro vs w8 hle hs
            have v8 := hs 8 (by omega) rfl
            have v9 := hs 9 (by omega) rfl
            simp only at v8 v9
            clear hs
            obtain ⟨fn, hfn⟩ : ∃ b : Bool, ob.isSome = b := ⟨_, rfl⟩
            obtain ⟨pl, hpl⟩ : ∃ p : List UInt8, ob.getD [] = p := ⟨_, rfl⟩
            rw [hpl] at v9
            rw [hfn] at v8
            have HPL : Hid (pl.length < 1048576) := hide (by
              rw [← hpl]
              cases hob : ob with
              | none => exact Nat.lt_of_le_of_lt (Nat.zero_le _) HYL.out
              | some u => exact Nat.lt_of_le_of_lt (openB_len (HOB.out.trans hob)) HYL.out)
            have HV7 : Hid (valT l (d + 1) a = match tagOf (pl.take 32) with
              | some t => if fn = true then some t else none
              | none => none) := hide (by rw [HV6.out, openT, HOB.out, hpl, hfn]; rfl)
            obtain ⟨tk, htk⟩ : ∃ t, pl.take 32 = t := ⟨_, rfl⟩
            rw [htk] at HV7
            obtain ⟨M, hM⟩ : ∃ M, tk.length = M := ⟨_, rfl⟩
            have hM2 : M = min 32 pl.length := by rw [← hM, ← htk, List.length_take]
            have HTK : Hid (∀ k, k = M → Value.string ((txt pl).extract 0 k) = .string (txt tk)) := hide (fun k hk => ext_is (a := 0) (b := M) (by rw [List.drop_zero, ← htk, Nat.sub_zero, hM2]; exact List.take_eq_take_min.symm) rfl hk)
            have HMN : Hid ((if (32 : Int) < ((txt pl).size : Int) then (32 : Int) else ((txt pl).size : Int)) = (M : Int)) := hide (by rw [txt_size, hM2]; split <;> omega)
            have hM32 : M ≤ 32 := by omega
            have hMp : M ≤ (txt pl).size := by rw [txt_size]; omega
            have hps : (txt pl).size ≤ 9223372036854775807 := by rw [txt_size]; have := HPL.out; omega
            have hts : (txt tk).size = M := by rw [txt_size, hM]
            have B38 := hide (B36.out.trans (hle.mono B36.out.size))
            have HB8 := hide (HB3.out.trans (B38.out.mono (by omega)))
            have k81 := hide (hle.heap K61.out)
            have k82 := hide (hle.heap K62.out)
            have hs8 := hle.size
            clear hfn hpl htk hM hM2 hle HV6 HOB
            simp only [putN, dstAt]
            go_simp
            go_wp2_with (first
              | ((with_reducible show wpList _ _ _ (Oper.mk (some 80) _ _ _ _ _ :: _) _ _); go_loud (refine at_min .i64 _ 32 (M : Int) rfl rfl HMN.out ?_))
              | ((with_reducible show wpList _ _ _ (Oper.mk (some 82) _ _ _ _ _ :: _) _ _); go_loud (refine at_tobytes (P := Tryd.prog) 9 22 (txt tk) (HTK.out _ (by first | rfl | simp | omega)) Tryd.underlying9 Tryd.underlying22 Tryd.underlying5 (by rw [hts]; omega) w8.heap.size rfl ?_)))
            intro c9 w9 h9 b9 _
            rw [byt_txt] at h9
            rw [hts] at h9 ⊢
            have HR9 := hide h9
            have K91 := hide ((b9.block _ (by omega)).trans k81.out)
            have K92 := hide ((b9.block _ (by omega)).trans k82.out)
            have HB9 := hide (HB8.out.trans (b9.mono (by omega)))
            have hs9 := b9.size
            clear h9 b9 k81 k82 hr61 hr62 hr63 hsW
            go_wp2_with fail
            refine (c_tagof _ M c9 tk _ w9 HR9.out).mono ?_
            rintro e w10 ⟨rfl, b10⟩
            have hs10 := b10.size
            have hr101 := row_of ((b10.block _ (by omega)).trans K91.out)
            have hr102 := row_of ((b10.block _ (by omega)).trans K92.out)
            have HB10 := hide (HB9.out.trans (b10.mono (by omega)))
            clear b10
            cases hto : tagOf tk with
            | none =>
              have HN' : Hid (valT l (d + 1) a = none) := hide (HV7.out.trans (by rw [hto]))
              rw [show tagV none = .tuple #[tgV Tg.zero, .bool false] from rfl]
              clear hto HV7
              have hage : ∀ X u, agg? ((w10.setRow (w.heap.size + 1 + 1) X).setRow (w.heap.size + 1) (tgC u)) ⟨w.heap.size + 1, 0, none⟩ 32 = some (tgC u) := fun X u => (agg_setRow_at _ _ _ _ _ (by rw [row_setRow_far _ _ _ _ (by omega), hr101]; rfl) (by decide)).trans (tgC_part _)
              go_wp2_with fail
              exact bodyPost_ret (v := .tuple #[tgV Tg.zero, .bool false]) (by simp [results, Tryd.results94, go_sem, hage]) rfl ⟨by rw [HN'.out]; rfl, bsetRow (bsetRow HB10.out (by omega) _) (by omega) _⟩

            | some t =>
              rw [show tagV (some t) = .tuple #[tgV t, .bool true] from rfl]
              cases fn with
              | false =>
                have HN' : Hid (valT l (d + 1) a = none) := hide (HV7.out.trans (by rw [hto]; rfl))
                clear hto HV7
                have hage : ∀ X u, agg? ((w10.setRow (w.heap.size + 1 + 1) X).setRow (w.heap.size + 1) (tgC u)) ⟨w.heap.size + 1, 0, none⟩ 32 = some (tgC u) := fun X u => (agg_setRow_at _ _ _ _ _ (by rw [row_setRow_far _ _ _ _ (by omega), hr101]; rfl) (by decide)).trans (tgC_part _)
                go_wp2_with fail
                exact bodyPost_ret (v := .tuple #[tgV Tg.zero, .bool false]) (by simp [results, Tryd.results94, go_sem, hage]) rfl ⟨by rw [HN'.out]; rfl, bsetRow (bsetRow HB10.out (by omega) _) (by omega) _⟩

              | true =>
                have HN' : Hid (valT l (d + 1) a = some t) := hide (HV7.out.trans (by rw [hto]; rfl))
                clear hto HV7
                have hage : ∀ X u, agg? ((w10.setRow (w.heap.size + 1 + 1) X).setRow (w.heap.size + 1) (tgC u)) ⟨w.heap.size + 1, 0, none⟩ 32 = some (tgC u) := fun X u => (agg_setRow_at _ _ _ _ _ (by rw [row_setRow_far _ _ _ _ (by omega), hr101]; rfl) (by decide)).trans (tgC_part _)
                go_wp2_with fail
                exact bodyPost_ret (v := .tuple #[tgV t, .bool true]) (by simp [results, Tryd.results94, go_sem, hage]) rfl ⟨by rw [HN'.out]; rfl, bsetRow (bsetRow HB10.out (by omega) _) (by omega) _⟩

          · have HN' : Hid (valT l (d + 1) a = none) := hide (HV5.out.trans (by
              have hl := HPR.out.1
              cases hsub : a.parts with
              | nil => rfl
              | cons x t =>
                cases t with
                | nil => rw [hsub] at hl; exact absurd hl.symm hp1
                | cons y t => rfl))
            have hp1' : ¬ (p : Int) = 1 := by omega
            have hp63 : p ≤ 9223372036854775807 := Nat.le_trans HPR.out.2.1 HPR.out.2.2.1
            have hage : agg? (W6.setRow (w.heap.size + 1) (tgC Tg.zero)) ⟨w.heap.size + 1, 0, none⟩ 32 = some (tgC Tg.zero) := (agg_setRow_at _ _ _ _ _ (by rw [hr61]; rfl) (by decide)).trans (tgC_part _)
            go_wp2_with fail
            exact bodyPost_ret (v := .tuple #[tgV Tg.zero, .bool false]) (by simp [results, Tryd.results94, go_sem, hage]) rfl ⟨by rw [HN'.out]; rfl, bsetRow HB6.out (by omega) _⟩

    · have hm' : ¬ (m : Int) = 1 := by omega
      have HN' : Hid (valT l (d + 1) a = none) := hide (HV.out.trans (by
        have hl := HSR.out.1
        cases hsub : a.sub with
        | nil => rfl
        | cons x t =>
          cases t with
          | nil => rw [hsub] at hl; exact absurd hl.symm hm
          | cons y t => rfl))
      have hm63 : m ≤ 9223372036854775807 := Nat.le_trans HSR.out.2.1 HSR.out.2.2.1
      clear HV
      rcases h34 with h3 | h4
      · rw [h3] at c0 g0
        go_enter Tryd.func94, Tryd.ntmps94
        go_wp2_with fail
        exact bodyPost_ret (v := .tuple #[tgV Tg.zero, .bool false]) (by simp [results, Tryd.results94, go_sem]) rfl ⟨by rw [HN'.out]; rfl, by repeat (first | exact below3 _ _ _ _ | exact below2 _ _ _ | refine Below.alloc ?_ (by first | omega | (simp; omega)) _ | refine bsetRow ?_ (by omega) _)⟩

      · rw [h4] at c0 g0
        go_enter Tryd.func94, Tryd.ntmps94
        go_wp2_with fail
        exact bodyPost_ret (v := .tuple #[tgV Tg.zero, .bool false]) (by simp [results, Tryd.results94, go_sem]) rfl ⟨by rw [HN'.out]; rfl, by repeat (first | exact below3 _ _ _ _ | exact below2 _ _ _ | refine Below.alloc ?_ (by first | omega | (simp; omega)) _ | refine bsetRow ?_ (by omega) _)⟩

  · have h3 : ¬ a.kind = 3 := fun h => h34 (.inl h)
    have h4 : ¬ a.kind = 4 := fun h => h34 (.inr h)
    have HN' : Hid (valT l (d + 1) a = none) := hide ((if_neg h1).trans ((if_neg h2).trans (if_neg h34)))
    clear h34
    go_enter Tryd.func94, Tryd.ntmps94
    go_wp2_with fail
    exact bodyPost_ret (v := .tuple #[tgV Tg.zero, .bool false]) (by simp [results, Tryd.results94, go_sem]) rfl ⟨by rw [HN'.out]; rfl, by repeat (first | exact below3 _ _ _ _ | exact below2 _ _ _ | refine Below.alloc ?_ (by first | omega | (simp; omega)) _ | refine bsetRow ?_ (by omega) _)⟩

/-- A recipe's value. -/
theorem c_value (base : Nat) (l : List Out) (hn : l.length ≤ 1099511627776) (hsz : ∀ o ∈ l, o.bytes.size ≤ 1000000) : ∀ d, Val base l d
  | 0 => val_zero base l
  | d + 1 => val_succ base l hn hsz d (c_value base l hn hsz d)
end Go.Proofs.YtdkeflhgengblaaDoor
namespace Go.Proofs.YtdkeflhgengblaaDoor
open Go.RowKit
attribute [local go_sem ↓] ld8 ld32 ld64 ld73
attribute [local go_sem] run_ldAgg run_storeAgg agg_alloc_at agg_alloc_past agg_drew agg_setCell row_alloc_at row_alloc_past row_drew setRow_alloc_at setRow_alloc_past setRow_drew agg_setRow_at agg_setRow_far cell_setRow_at cell_setRow_far row_setRow_far size_setRow s8C_size s8C_part s8C_one s8C_splice0 s8C_ne dgC_size dgC_72 dgC_part dgC_h dgC_r dgC_splice_h dgC_set dgC_one dgC_splice0 dgC_ne zero_dg
attribute [local go_sem] tgC_size tgC_one tgC_part tgC_splice tgC_splice_any zero_tg tgC_ne
attribute [local go_sem ↓] ld36
attribute [local go_sem] tokC_size tokC_0 tokC_1 tokC_2 tokC_3 tokC_g0 tokC_g1 tokC_g2 tokC_g3 tokC_part tokC_tag tokC_set0 tokC_set1 tokC_set2 tokC_set3 tokC_splice tokC_splice0 zero_tok tokC_all tokC_ne

attribute [local go_sem ↓] ld38
attribute [local go_sem] atmC_size atmC_part
theorem valV_some (t : Tg) : valV (some t) = .tuple #[tgV t, .bool true] := rfl
theorem valV_none : valV none = .tuple #[tgV Tg.zero, .bool false] := rfl
set_option maxRecDepth 100000 in
set_option maxHeartbeats 1600000 in
theorem c_Value (base : Nat) (l : List Out) (hn : l.length ≤ 1099511627776) (hsz : ∀ o ∈ l, o.bytes.size ≤ 1000000) (D : Nat) (a : Atm) (A : Option Addr) (p q : Nat) (B : Option Addr) (m r : Nat) (ok : Nat → Prop) (w : World) (g : Nat) (v : Value)
    (h : StoreAt base w g v l) (hp : kStr.Row ok w A p q a.parts) (hs : (kAtm D).Row ok w B m r a.sub) (ha : smallA 16 a) (hP : PrimesAt w) :
    Calls Tryd.prog 62 #[.pointer (some ⟨g, 0, none⟩), atmV a A p q B m r] w fun e w' => e = .returned (valV (valT l 16 a)) ∧ Below w.heap.size w w' := by
  have hw0 := hP.1
  obtain ⟨W2, hW2⟩ : ∃ W2, W2 = (w.alloc (.cells (atmA a A p q B m r) 98)).alloc (.cells (tgC Tg.zero) 29) := ⟨_, rfl⟩
  have HB2 : Hid (Below w.heap.size w W2) := hide (by rw [hW2]; exact below2 _ _ _)
  have hs2 : W2.heap.size = w.heap.size + 2 := by rw [hW2]; simp only [World.size_alloc]
  have k1 : W2.heap[w.heap.size + 1]? = some (.cells (tgC Tg.zero) 29) := by rw [hW2]; exact heap_new2 w _ _
  have hag : agg? ((w.alloc (.cells (atmA a A p q B m r) 98)).alloc (.cells (tgC Tg.zero) 29)) ⟨w.heap.size, 0, none⟩ 38 = some (atmA a A p q B m r) := (agg_of_row (by rw [Below.heap_alloc _ _ _ (by simp only [World.size_alloc]; omega)]; exact heap_alloc_new _ _) 0 38 (by decide)).trans (atmC_part _ _ _ _ _ _ _)
  have H2 := hide (h.below HB2.out)
  have HP2 := hide (hP.ext HB2.out)
  have HPR := hide (hp.below HB2.out)
  have HSR := hide (hs.below HB2.out)
  have HA := hide ha
  have hc := c_value base l hn hsz 16 D 1 a A p q B m r ok W2 g v (by omega) (by omega) H2.out HPR.out HSR.out HA.out HP2.out
  obtain ⟨CA, hCA⟩ : ∃ CA, CA = atmA a A p q B m r := ⟨_, rfl⟩
  have hzA : CA.size = 38 := by rw [hCA]; exact atmC_size _ _ _ _ _ _ _
  have hoA : oneAll CA = true := by rw [hCA]; exact atmC_all _ _ _ _ _ _ _ _ _ _ _
  rw [show atmV a A p q B m r = .agg CA from by rw [hCA]] at hc ⊢
  rw [← hCA] at hag
  have HC := hide hc
  have K1 := hide k1
  have HW2 : Hid (W2 = (w.alloc (.cells CA 98)).alloc (.cells (tgC Tg.zero) 29)) := hide (by rw [hCA]; exact hW2)
  obtain ⟨o, ho⟩ : ∃ o, valT l 16 a = o := ⟨_, rfl⟩
  rw [ho] at HC ⊢
  clear h hp hs ha hP hn hsz hc k1 hCA hW2 ho
  go_enter Tryd.func62, Tryd.ntmps62
  go_wp2_with fail
  rw [← HW2.out]
  refine HC.out.mono ?_
  rintro e w3 ⟨rfl, b3⟩
  have hs3 := b3.size
  have k3 := (b3.block _ (by omega)).trans K1.out
  have hr3 := row_of k3
  have HB3 := hide (HB2.out.trans (b3.mono (by omega)))
  have hage : ∀ u, agg? (w3.setRow (w.heap.size + 1) (tgC u)) ⟨w.heap.size + 1, 0, none⟩ 32 = some (tgC u) := fun u => (agg_setRow_at _ _ _ _ _ (by rw [hr3]; rfl) (by decide)).trans (tgC_part _)
  clear b3 k3 hag HC
  cases o with
  | none =>
    rw [valV_none]
    go_wp2_with fail
    exact bodyPost_ret (v := .tuple #[tgV Tg.zero, .bool false]) (by simp [results, Tryd.results62, go_sem, hage]) rfl ⟨rfl, bsetRow HB3.out (by omega) _⟩
  | some t =>
    rw [valV_some]
    go_wp2_with fail
    exact bodyPost_ret (v := .tuple #[tgV t, .bool true]) (by simp [results, Tryd.results62, go_sem, hage]) rfl ⟨rfl, bsetRow HB3.out (by omega) _⟩
end Go.Proofs.YtdkeflhgengblaaDoor
namespace Go.Proofs.YtdkeflhgengblaaDoor
open Go.RowKit
attribute [local go_sem ↓] ld8 ld32 ld64 ld73
attribute [local go_sem] run_ldAgg run_storeAgg agg_alloc_at agg_alloc_past agg_drew agg_setCell row_alloc_at row_alloc_past row_drew setRow_alloc_at setRow_alloc_past setRow_drew agg_setRow_at agg_setRow_far cell_setRow_at cell_setRow_far row_setRow_far size_setRow s8C_size s8C_part s8C_one s8C_splice0 s8C_ne dgC_size dgC_72 dgC_part dgC_h dgC_r dgC_splice_h dgC_set dgC_one dgC_splice0 dgC_ne zero_dg
attribute [local go_sem] tgC_size tgC_one tgC_part tgC_splice tgC_splice_any zero_tg tgC_ne
attribute [local go_sem ↓] ld36
attribute [local go_sem] tokC_size tokC_0 tokC_1 tokC_2 tokC_3 tokC_g0 tokC_g1 tokC_g2 tokC_g3 tokC_part tokC_tag tokC_set0 tokC_set1 tokC_set2 tokC_set3 tokC_splice tokC_splice0 zero_tok tokC_all tokC_ne

/-- A token with one caveat more, and the error's number. -/
def more1 (t : Tok) (x : Cav) : Tok := { t with cavs := t.cavs ++ [x], tag := nextT t.tag x }
def addR (t : Tok) (x : Cav) : Tok := if t.bnd = true then Tok.zero else if checkT (more1 t x) = true then more1 t x else Tok.zero
def addE (t : Tok) (x : Cav) : Int := if t.bnd = true then 6 else if checkT (more1 t x) = true then 0 else 1
def Added (w : World) (r : Tok) (k : Int) (e : Ending) (w' : World) : Prop :=
  ∃ A n c, e = .returned (.tuple #[tokV r A n c, .int .i64 k]) ∧ kCav.Row (fun k => w.heap.size ≤ k) w' A n c r.cavs ∧ Below w.heap.size w w'
set_option maxRecDepth 100000 in
set_option maxHeartbeats 1600000 in
theorem c_cadd (t : Tok) (x : Cav) (A : Option Addr) (n c : Nat) (ok : Nat → Prop) (w : World) (hR : kCav.Row ok w A n c t.cavs) (hn : n ≤ 1000000) (hx : x.small) (hP : PrimesAt w) :
    Calls Tryd.prog 59 #[tokV t A n c, cavV x] w (Added w (addR t x) (addE t x)) := by
  have HP := hide hP
  have hw0 := hP.1
  have HR := hide hR
  have HL := hide hR.1
  have HX := hide hx
  have HN := hide hn
  clear hR hx hP hn
  obtain ⟨CT, hCT⟩ : ∃ CT, CT = tokA t A n c := ⟨_, rfl⟩
  have HCT := hide hCT
  have HTV : Hid (Value.agg CT = tokV t A n c) := hide (by rw [hCT])
  have hzT : CT.size = 36 := by rw [hCT]; exact tokC_size _ _ _ _ _
  have hoT : oneAll CT = true := by rw [hCT]; exact tokC_all _ _ _ _ _ _ _ _
  obtain ⟨W3, hW3⟩ : ∃ W3, W3 = ((w.alloc (.cells CT 44)).alloc (.cells #[.bool x.third, .string x.text, .int .u64 (x.party : Int), .string x.id, .string x.vault] 83)).alloc (.cells tokZ 44) := ⟨_, rfl⟩
  obtain ⟨g0, g1, g2⟩ := heap3g w CT #[.bool x.third, .string x.text, .int .u64 (x.party : Int), .string x.id, .string x.vault] tokZ 44 83 44
  have hag : agg? (((w.alloc (.cells CT 44)).alloc (.cells #[.bool x.third, .string x.text, .int .u64 (x.party : Int), .string x.id, .string x.vault] 83)).alloc (.cells tokZ 44)) ⟨w.heap.size, 0, none⟩ 36 = some CT := (agg_of_row g0 0 36 (by decide)).trans (by rw [hCT]; exact tokC_part _ _ _ _ _)
  have hcb : (((w.alloc (.cells CT 44)).alloc (.cells #[.bool x.third, .string x.text, .int .u64 (x.party : Int), .string x.id, .string x.vault] 83)).alloc (.cells tokZ 44)).cell? ⟨w.heap.size, 3, none⟩ = some (.bool t.bnd) := (cell_of_row _ _ _ _ _ _ g0).trans (by rw [hCT]; exact tokC_3 _ _ _ _ _)
  have hg3 : CT[3]'(by rw [hzT]; decide) = .bool t.bnd := by
    have h3 : CT[3]? = some (.bool t.bnd) := by rw [hCT]; exact tokC_3 _ _ _ _ _
    rw [Array.getElem?_eq_getElem (by rw [hzT]; decide)] at h3
    exact Option.some.inj h3
  rw [← hW3] at g0 g1 g2
  have hs3 : W3.heap.size = w.heap.size + 3 := by rw [hW3]; simp only [World.size_alloc]
  have HB3 : Hid (Below w.heap.size w W3) := hide (by rw [hW3]; exact below3 _ _ _ _)
  have G0 := hide g0
  have G1 := hide g1
  have G2 := hide g2
  have HW3 := hide hW3
  rw [← HTV.out]
  clear g0 g1 g2 hCT hW3
  cases hb : t.bnd with
  | true =>
    have HA1 : Hid (addR t x = Tok.zero) := hide (if_pos hb)
    have HA2 : Hid (addE t x = 6) := hide (if_pos hb)
    rw [hb] at hcb hg3
    have hrz := row_of G2.out
    have hage : agg? (W3.setRow (w.heap.size + 2) tokZ) ⟨w.heap.size + 2, 0, none⟩ 36 = some tokZ := (agg_setRow_at _ _ _ _ _ (by rw [hrz]; rfl) (by decide)).trans (tokC_part _ _ _ _ _)
    clear hb
    go_enter Tryd.func59, Tryd.ntmps59
    go_wp2_with fail
    exact bodyPost_ret (v := .tuple #[.agg tokZ, .int .i64 6]) (by simp [results, Tryd.results59, go_sem]) rfl ⟨none, 0, 0, by rw [HA1.out, HA2.out]; rfl, by rw [HA1.out]; exact .nil _ _ _ _ _ (Nat.zero_le _), below3 _ _ _ _⟩
  | false =>
    have HA1 : Hid (addR t x = if checkT (more1 t x) = true then more1 t x else Tok.zero) := hide (if_neg (by rw [hb]; decide))
    have HA2 : Hid (addE t x = if checkT (more1 t x) = true then 0 else 1) := hide (if_neg (by rw [hb]; decide))
    rw [hb] at hcb hg3
    clear hb
    go_enter Tryd.func59, Tryd.ntmps59
    go_wp2_with fail
    rw [HTV.out, ← HW3.out]
    refine (c_pcloneO t A n c ok W3 (HR.out.below HB3.out) (by have := HN.out; omega)).mono ?_
    rintro e w4 ⟨A1, c1, rfl, ho4, b4⟩
    rw [← HTV.out]
    obtain ⟨C4, hC4⟩ : ∃ C4, C4 = tokA t A1 n c1 := ⟨_, rfl⟩
    rw [show tokV t A1 n c1 = .agg C4 from by rw [hC4]]
    have HC4 := hide hC4
    have hz4 : C4.size = 36 := by rw [hC4]; exact tokC_size _ _ _ _ _
    have ho4' : oneAll C4 = true := by rw [hC4]; exact tokC_all _ _ _ _ _ _ _ _
    have hsp4 : splice tokZ 0 C4 = C4 := by rw [hC4]; exact tokC_splice0 _ _ _ _ _ _ (tokC_size _ _ _ _ _)
    have hs4 := b4.size
    have b5 : Below W3.heap.size W3 (w4.alloc (.cells C4 44)) := b4.alloc hs4 _
    have k5 := heap_alloc_new w4 (.cells C4 44)
    have k51 := (b5.block _ (by omega)).trans G1.out
    have hcx5 : (w4.alloc (.cells C4 44)).cell? ⟨w4.heap.size, 2, none⟩ = some (.slice A1 n c1) := (cell_of_row _ _ _ _ _ _ k5).trans (by rw [hC4]; exact tokC_2 _ _ _ _ _)
    have hg2 : C4[2]'(by rw [hz4]; decide) = .slice A1 n c1 := by
      have h3 : C4[2]? = some (.slice A1 n c1) := by rw [hC4]; exact tokC_2 _ _ _ _ _
      rw [Array.getElem?_eq_getElem (by rw [hz4]; decide)] at h3
      exact Option.some.inj h3
    have cf0 : (w4.alloc (.cells C4 44)).cell? ⟨w.heap.size + 1, 0, none⟩ = some (.bool x.third) := (cell_of_row _ _ _ _ _ _ k51).trans rfl
    have cf1 : (w4.alloc (.cells C4 44)).cell? ⟨w.heap.size + 1, 1, none⟩ = some (.string x.text) := (cell_of_row _ _ _ _ _ _ k51).trans rfl
    have cf2 : (w4.alloc (.cells C4 44)).cell? ⟨w.heap.size + 1, 2, none⟩ = some (.int .u64 (x.party : Int)) := (cell_of_row _ _ _ _ _ _ k51).trans rfl
    have cf3 : (w4.alloc (.cells C4 44)).cell? ⟨w.heap.size + 1, 3, none⟩ = some (.string x.id) := (cell_of_row _ _ _ _ _ _ k51).trans rfl
    have cf4 : (w4.alloc (.cells C4 44)).cell? ⟨w.heap.size + 1, 4, none⟩ = some (.string x.vault) := (cell_of_row _ _ _ _ _ _ k51).trans rfl
    have HO5 := hide ((ho4.below (below1 w4 (.cells C4 44))).below (below1 _ (.cells #[.bool x.third, .string x.text, .int .u64 (x.party : Int), .string x.id, .string x.vault] 83)))
    have HOL := hide (own_block_lt ho4)
    have HKX : Hid (kCav.K (fun k => False ∧ some k ≠ (Value.slice A1 n c1).ownBlock) ((w4.alloc (.cells C4 44)).alloc (.cells #[.bool x.third, .string x.text, .int .u64 (x.party : Int), .string x.id, .string x.vault] 83)) x x.cells) := hide ⟨rfl, by have := HX.out.1; simp only [maxLen]; omega, HX.out.2.1, by have := HX.out.2.2.1; simp only [maxLen]; omega, by have := HX.out.2.2.2; simp only [maxLen]; omega⟩
    have K5 := hide k5
    have B5 := hide b5
    clear hC4 ho4 b4 k5 k51 b5
    go_wp2_with (at_builtin; go_loud (refine wpList_app (d := kCav) (ok := fun _ => False) (base := W3.heap.size) (ys := [x]) rfl _ _ _ rfl Tryd.underlying42 cav_info rfl (by decide) 1 rfl rfl (.inl HO5.out) (Kd.Src.blk (d := kCav) (heap_new2 _ _ _) HKX.out rfl) ?_ ?_ ?_ ?_))
    · simp only [World.size_alloc]; omega
    · have := HL.out; have := HN.out; simp only [maxLen]; omega
    · have := HL.out; have := HN.out; omega
    intro v1 w6 _ h2 b6 f6 o6
    have hst : (.slice A1 n c1 : Value).ownBlock ≠ some w4.heap.size := fun e => by have := HOL.out _ e; omega
    obtain ⟨A2, c2, hvf⟩ := h2.form
    obtain ⟨n2, hn2⟩ : ∃ n2, (t.cavs ++ [x]).length = n2 := ⟨_, rfl⟩
    rw [hn2] at hvf
    subst hvf
    obtain ⟨G, hG⟩ : ∃ G, G = w4.heap.size := ⟨_, rfl⟩
    have hne : (.slice A2 n2 c2 : Value).ownBlock ≠ some G := by
      rcases o6 with e | ⟨j, e, hj⟩
      · rw [e, hG]; exact hst
      · rw [e]; intro e'; have := Option.some.inj e'; first | omega | (simp only [World.size_alloc] at hj; omega)
    have hs6 := b6.size
    (try simp only [World.size_alloc] at hs6)
    have k6 : w6.heap[G]? = some (.cells C4 44) := by
      rw [hG]
      exact (f6 _ (by first | omega | (simp only [World.size_alloc]; omega)) (fun e => hst e.symm)).trans ((Below.heap_alloc _ _ _ (by simp only [World.size_alloc]; omega)).trans K5.out)
    rw [← hs3] at b6 h2
    have ka : ∀ j, j < W3.heap.size → w6.heap[j]? = W3.heap[j]? := fun j hj => (b6.block j hj).trans ((Below.heap_alloc _ _ _ (by simp only [World.size_alloc]; omega)).trans (B5.out.block j hj))
    have k60 := (ka _ (by omega)).trans G0.out
    have k61 := (ka _ (by omega)).trans G1.out
    have k62 := (ka _ (by omega)).trans G2.out
    have hB6 : Below w.heap.size w w6 := HB3.out.trans (((B5.out.alloc (by simp only [World.size_alloc]; omega) _).trans b6).mono (by omega))
    obtain ⟨C6, hC6⟩ : ∃ C6, C6 = tokC (.int .u64 (t.key : Int)) (.string t.id) (.slice A2 n2 c2) (.bool t.bnd) t.tag := ⟨_, rfl⟩
    obtain ⟨W7, hW7⟩ : ∃ W7, W7 = w6.setRow G C6 := ⟨_, rfl⟩
    have hsc : w6.setCell ⟨G, 2, none⟩ (.slice A2 n2 c2) = W7 := by rw [setCell_eq_setRow w6 G 2 C4 _ _ _ k6, hW7, HC4.out, tokC_set2, hC6]
    have hcx : w6.cell? ⟨G, 2, none⟩ = some (.slice A1 n c1) := (cell_of_row w6 _ _ _ _ _ k6).trans (by rw [HC4.out]; exact tokC_2 _ _ _ _ _)
    have hfz := frozen_of_row w6 G 2 _ _ k6
    have hGw : w.heap.size + 3 ≤ G := by omega
    have k7 : W7.heap[G]? = some (.cells C6 44) := by rw [hW7]; exact setRow_heap w6 G C4 C6 44 _ k6
    have k70 : W7.heap[w.heap.size]? = some (.cells CT 44) := by rw [hW7, heap_setRow_far _ _ _ (by omega)]; exact k60
    have k71 : W7.heap[w.heap.size + 1]? = some (.cells #[.bool x.third, .string x.text, .int .u64 (x.party : Int), .string x.id, .string x.vault] 83) := by rw [hW7, heap_setRow_far _ _ _ (by omega)]; exact k61
    have k72 : W7.heap[w.heap.size + 2]? = some (.cells tokZ 44) := by rw [hW7, heap_setRow_far _ _ _ (by omega)]; exact k62
    have hagt : agg? W7 ⟨w.heap.size, 4, none⟩ 32 = some (tgC t.tag) := (agg_of_row k70 4 32 (by decide)).trans (by rw [HCT.out]; exact tokC_tag _ _ _ _ _)
    have d0 : (W7).cell? ⟨w.heap.size + 1, 0, none⟩ = some (.bool x.third) := (cell_of_row _ _ _ _ _ _ k71).trans rfl
    have d1 : (W7).cell? ⟨w.heap.size + 1, 1, none⟩ = some (.string x.text) := (cell_of_row _ _ _ _ _ _ k71).trans rfl
    have d2 : (W7).cell? ⟨w.heap.size + 1, 2, none⟩ = some (.int .u64 (x.party : Int)) := (cell_of_row _ _ _ _ _ _ k71).trans rfl
    have d3 : (W7).cell? ⟨w.heap.size + 1, 3, none⟩ = some (.string x.id) := (cell_of_row _ _ _ _ _ _ k71).trans rfl
    have d4 : (W7).cell? ⟨w.heap.size + 1, 4, none⟩ = some (.string x.vault) := (cell_of_row _ _ _ _ _ _ k71).trans rfl
    have HB7 : Hid (Below w.heap.size w W7) := hide (by rw [hW7]; exact bsetRow hB6 (by omega) _)
    have HR7 : Hid (kCav.Row (fun k => k ≠ G ∧ W3.heap.size ≤ k) W7 A2 n2 c2 (t.cavs ++ [x])) := hide (by
      obtain ⟨A', c', e, hr⟩ := h2.row
      rw [hn2] at e hr
      injection e with e1 _ e3
      subst e1 e3
      have hbl := h2.base_le
      exact (hr.keep (w' := W7) fun j hj _ => by
        rw [hW7, heap_setRow_far _ _ _ (fun e => by
          rcases hj with hj | hj
          · exact hj
          · exact hne (by rw [← hj, e]))]).more fun j hj => by
        rcases hj with hj | hj
        · exact hj.elim
        · exact ⟨fun e => hne (by rw [← hj, e]), (hbl j hj.symm).1⟩)
    have hs7 : W7.heap.size = w6.heap.size := by rw [hW7, size_setRow]
    have K7 := hide k7
    have K72 := hide k72
    have HG := hide hG
    have HC6 := hide hC6
    rw [hG] at hsc hcx hfz
    clear h2 b6 f6 o6 hst hne k6 ka k60 k61 k62 hB6 hW7 k7 k70 k71 k72 hG hC6 hcb hg3 hg2 hcx5 hag cf0 cf1 cf2 cf3 cf4
    go_wp2_with fail
    rw [← HG.out]
    refine (c_next t.tag x W7 HX.out (HP.out.ext HB7.out)).mono ?_
    rintro e w8 ⟨rfl, b8⟩
    obtain ⟨nt, hnt⟩ : ∃ nt, nextT t.tag x = nt := ⟨_, rfl⟩
    rw [hnt]
    have hs8 := b8.size
    have hl7 := (Array.getElem?_eq_some_iff.1 K7.out).1
    have j8 := (b8.block _ hl7).trans K7.out
    have j82 := (b8.block _ (by omega)).trans K72.out
    obtain ⟨C8, hC8⟩ : ∃ C8, C8 = tokA (more1 t x) A2 n2 c2 := ⟨_, rfl⟩
    obtain ⟨W9, hW9⟩ : ∃ W9, W9 = w8.setRow G C8 := ⟨_, rfl⟩
    have hr8 := row_of j8
    have hz6 : C6.size = 36 := by rw [HC6.out]; exact tokC_size _ _ _ _ _
    have hsp : splice C6 4 (tgC nt) = C8 := by rw [HC6.out, hC8, ← hnt]; exact tokC_splice _ _ _ _ _ _
    have hs9 := hW9.symm
    have k9 : W9.heap[G]? = some (.cells C8 44) := by rw [hW9]; exact setRow_heap w8 G C6 C8 44 _ j8
    have k92 : W9.heap[w.heap.size + 2]? = some (.cells tokZ 44) := by rw [hW9, heap_setRow_far _ _ _ (by omega)]; exact j82
    have hag9 : agg? W9 ⟨G, 0, none⟩ 36 = some C8 := (agg_of_row k9 0 36 (by decide)).trans (by rw [hC8]; exact tokC_part _ _ _ _ _)
    have HB9 : Hid (Below w.heap.size w W9) := hide (by rw [hW9]; exact bsetRow (HB7.out.trans (b8.mono (by omega))) (by omega) _)
    have HR9 : Hid (kCav.Row (fun k => k ≠ G ∧ W3.heap.size ≤ k) W9 A2 n2 c2 (more1 t x).cavs) := hide ((HR7.out.below b8).keep fun j hj _ => by rw [hW9, heap_setRow_far _ _ _ hj.1])
    have hsz9 : W9.heap.size = w8.heap.size := by rw [hW9, size_setRow]
    have K9 := hide k9
    have K92 := hide k92
    have HC8 := hide hC8
    clear hnt b8 j8 j82 hC8 hW9 k9 k92 hsc hcx hfz hagt d0 d1 d2 d3 d4 HG
    go_wp2_with fail
    rw [show Value.agg C8 = tokV (more1 t x) A2 n2 c2 from by rw [HC8.out]]
    refine (c_check (more1 t x) A2 n2 c2 _ W9 HR9.out).mono ?_
    rintro e w10 ⟨rfl, b10⟩
    rw [show tokV (more1 t x) A2 n2 c2 = .agg C8 from by rw [HC8.out]]
    have hl9 := (Array.getElem?_eq_some_iff.1 K9.out).1
    have hs10 := b10.size
    have m10 := (b10.block _ hl9).trans K9.out
    have m12 := (b10.block _ (by omega)).trans K92.out
    have hr10 := row_of m12
    have hag10 : agg? w10 ⟨G, 0, none⟩ 36 = some C8 := (agg_of_row m10 0 36 (by decide)).trans (by rw [HC8.out]; exact tokC_part _ _ _ _ _)
    have hz8 : C8.size = 36 := by rw [HC8.out]; exact tokC_size _ _ _ _ _
    have ho8 : oneAll C8 = true := by rw [HC8.out]; exact tokC_all _ _ _ _ _ _ _ _
    have hsp8 : splice tokZ 0 C8 = C8 := by rw [HC8.out]; exact tokC_splice0 _ _ _ _ _ _ (tokC_size _ _ _ _ _)
    have HB10 := hide (HB9.out.trans (b10.mono (by omega)))
    cases hck : checkT (more1 t x) with
    | true =>
      have HE1 : Hid (addR t x = more1 t x) := hide (by rw [HA1.out, if_pos hck])
      have HE2 : Hid (addE t x = 0) := hide (by rw [HA2.out, if_pos hck])
      obtain ⟨W11, hW11⟩ : ∃ W11, W11 = w10.setRow (w.heap.size + 2) C8 := ⟨_, rfl⟩
      have k11 : W11.heap[w.heap.size + 2]? = some (.cells C8 44) := by rw [hW11]; exact setRow_heap w10 (w.heap.size + 2) tokZ C8 44 _ m12
      have hag11 : agg? W11 ⟨w.heap.size + 2, 0, none⟩ 36 = some C8 := (agg_of_row k11 0 36 (by decide)).trans (by rw [HC8.out]; exact tokC_part _ _ _ _ _)
      have HB11 : Hid (Below w.heap.size w W11) := hide (by rw [hW11]; exact bsetRow HB10.out (Nat.le_add_right _ 2) _)
      have HR11 : Hid (kCav.Row (fun k => w.heap.size ≤ k) W11 A2 n2 c2 (more1 t x).cavs) := hide (((HR9.out.below b10).keep (w' := W11) fun j hj _ => by rw [hW11, heap_setRow_far _ _ _ (by have := hj.2; omega)]).more fun j hj => by have := hj.2; omega)
      have hs11 := hW11.symm
      clear hck b10 m10 m12 hW11 k11
      simp only [errV, if_true]
      go_wp2_with fail
      exact bodyPost_ret (v := .tuple #[.agg C8, .int .i64 0]) (by simp [results, Tryd.results59, go_sem, hag11]) rfl ⟨A2, n2, c2, by rw [HE1.out, HE2.out, HC8.out], by rw [HE1.out]; exact HR11.out, HB11.out⟩
    | false =>
      have HE1 : Hid (addR t x = Tok.zero) := hide (by rw [HA1.out, if_neg (by rw [hck]; decide)])
      have HE2 : Hid (addE t x = 1) := hide (by rw [HA2.out, if_neg (by rw [hck]; decide)])
      have hage : agg? (w10.setRow (w.heap.size + 2) tokZ) ⟨w.heap.size + 2, 0, none⟩ 36 = some tokZ := (agg_setRow_at _ _ _ _ _ (by rw [hr10]; rfl) (by decide)).trans (tokC_part _ _ _ _ _)
      have HBE := hide (bsetRow HB10.out (Nat.le_add_right w.heap.size 2) tokZ)
      clear hck b10 m10 m12
      simp only [errV, Bool.false_eq_true, if_false]
      go_wp2_with fail
      exact bodyPost_ret (v := .tuple #[.agg tokZ, .int .i64 1]) (by simp [results, Tryd.results59, go_sem, hage]) rfl ⟨none, 0, 0, by rw [HE1.out, HE2.out]; rfl, by rw [HE1.out]; exact .nil _ _ _ _ _ (Nat.zero_le _), HBE.out⟩
end Go.Proofs.YtdkeflhgengblaaDoor
namespace Go.Proofs.YtdkeflhgengblaaDoor
open Go.RowKit
attribute [local go_sem ↓] ld8 ld32 ld64 ld73
attribute [local go_sem] run_ldAgg run_storeAgg agg_alloc_at agg_alloc_past agg_drew agg_setCell row_alloc_at row_alloc_past row_drew setRow_alloc_at setRow_alloc_past setRow_drew agg_setRow_at agg_setRow_far cell_setRow_at cell_setRow_far row_setRow_far size_setRow s8C_size s8C_part s8C_one s8C_splice0 s8C_ne dgC_size dgC_72 dgC_part dgC_h dgC_r dgC_splice_h dgC_set dgC_one dgC_splice0 dgC_ne zero_dg
attribute [local go_sem] tgC_size tgC_one tgC_part tgC_splice tgC_splice_any zero_tg tgC_ne
attribute [local go_sem ↓] ld36
attribute [local go_sem] tokC_size tokC_0 tokC_1 tokC_2 tokC_3 tokC_g0 tokC_g1 tokC_g2 tokC_g3 tokC_part tokC_tag tokC_set0 tokC_set1 tokC_set2 tokC_set3 tokC_splice tokC_splice0 zero_tok tokC_all tokC_ne

def tg1 : Tg := ⟨1 :: List.replicate 31 0, rfl⟩
def uD : ByteArray := { data := #[100] }
def cvA : Cav := ⟨false, { data := #[111, 112, 32, 97] }, 0, { data := #[] }, { data := #[] }⟩
/-- The tag of the token of the first out. -/
def atmI : Atm := .mk 2 Tg.zero 0 0 ByteArray.empty [] []
/-- What goes on from it. -/
def atmO (p : List UInt8) : Atm := .mk 3 Tg.zero 0 0 uCav [txt p] [atmI]
theorem pub_enc {t : Tok} (h : checkT t = true) (hk : t.ok) : pubR [⟨txt (enc t), false, true⟩] 0 0 = (t.tag, true) := by
  have h0 : ostr [⟨txt (enc t), false, true⟩] 0 = some ⟨txt (enc t), false, true⟩ := rfl
  have h1 : tCode [⟨txt (enc t), false, true⟩] 0 = 0 := by
    rw [tCode, h0]
    show (if (pdec (byt (txt (enc t)))).isSome then 0 else 2) = 0
    rw [byt_txt, pdec_enc h hk]
    rfl
  have h2 : tVal [⟨txt (enc t), false, true⟩] 0 = some t := by
    rw [tVal, h0]
    show pdec (byt (txt (enc t))) = some t
    rw [byt_txt, pdec_enc h hk]
  rw [pubR, h0]
  show (if true = false then _ else if tCode _ 0 = 0 then _ else _) = _
  rw [if_neg (by decide), if_pos h1, h2]
  rfl
theorem val_lit {t : Tok} (h : checkT t = true) (hk : t.ok) (p : List UInt8) : valT [⟨txt (enc t), false, true⟩] 16 (atmO p) = some (dkey t.tag uCav [txt p]) := by
  have h1 : valT [⟨txt (enc t), false, true⟩] 15 atmI = some t.tag := by
    show (if (2 : Int) = 1 then _ else if (2 : Int) = 2 then (if (pubR [⟨txt (enc t), false, true⟩] 0 0).2 = true then some (pubR [⟨txt (enc t), false, true⟩] 0 0).1 else none) else _) = _
    rw [if_neg (by decide), if_pos rfl, pub_enc h hk]
    rfl
  show (if (3 : Int) = 1 then _ else if (3 : Int) = 2 then _ else if (3 : Int) = 3 ∨ (3 : Int) = 4 then
      (match valT [⟨txt (enc t), false, true⟩] 15 atmI with
        | some key => if (3 : Int) = 3 then some (dkey key uCav [txt p]) else _
        | none => none) else none) = _
  rw [if_neg (by decide), if_neg (by decide), if_pos (.inl rfl), h1]
  rfl
theorem small_lit {p : List UInt8} (hp : p.length < 900000) : smallA 16 (atmO p) := by
  refine ⟨by show (6 : Nat) ≤ _; decide, ?_, fun x hx => ?_⟩
  · show (frames (uCav :: [txt p])).length < _
    simp only [frames_cons, frames_nil, List.length_append, frm_len, txt_size, List.length_nil]
    rw [show uCav.size = 6 from rfl]; omega
  · obtain rfl : x = atmI := by simpa [atmO, Atm.sub] using hx
    exact ⟨by show (0 : Nat) ≤ _; decide, by decide +kernel, fun y hy => absurd hy (by simp [atmI, Atm.sub])⟩
theorem atmI_row {w : World} {g : Nat} {t : TypeId} {fr : Nat × Nat} (hg : w.heap[g]? = some (.cells (atmA atmI none 0 0 none 0 0) t fr)) : (kAtm 1).Row (fun _ => True) w (some ⟨g, 0, none⟩) 1 1 [atmI] := by
  refine ⟨rfl, Nat.le_refl _, by decide, fun _ => ⟨g, 0, rfl, trivial, (Array.getElem?_eq_some_iff.1 hg).1, fun i y hy => ?_⟩⟩
  have hi : i = 0 := by have := (List.getElem?_eq_some_iff.1 hy).1; simp at this; omega
  subst hi
  obtain rfl : atmI = y := by simpa using hy
  refine ⟨_, ⟨none, 0, 0, none, 0, 0, rfl, .nil _ _ _ _ _ (Nat.zero_le _), .nil _ _ _ _ _ (Nat.zero_le _)⟩, fun j u hu => ?_⟩
  rw [cell_of_row _ _ _ _ _ _ hg, ← Array.getElem?_toList]
  simpa using hu
set_option maxRecDepth 100000 in
theorem atmI_c : (#[.int .i64 2, .int .u8 0, .int .u8 0, .int .u8 0, .int .u8 0, .int .u8 0, .int .u8 0, .int .u8 0, .int .u8 0, .int .u8 0, .int .u8 0, .int .u8 0, .int .u8 0, .int .u8 0, .int .u8 0, .int .u8 0, .int .u8 0, .int .u8 0, .int .u8 0, .int .u8 0, .int .u8 0, .int .u8 0, .int .u8 0, .int .u8 0, .int .u8 0, .int .u8 0, .int .u8 0, .int .u8 0, .int .u8 0, .int .u8 0, .int .u8 0, .int .u8 0, .int .u8 0, .int .i64 0, .int .i64 0, .string { data := #[] }, .slice none 0 0, .slice none 0 0] : Array Value) = atmA atmI none 0 0 none 0 0 := by with_unfolding_all rfl
set_option maxRecDepth 100000 in
theorem tg_lit : tgC Tg.zero = (#[.int .u8 0, .int .u8 0, .int .u8 0, .int .u8 0, .int .u8 0, .int .u8 0, .int .u8 0, .int .u8 0, .int .u8 0, .int .u8 0, .int .u8 0, .int .u8 0, .int .u8 0, .int .u8 0, .int .u8 0, .int .u8 0, .int .u8 0, .int .u8 0, .int .u8 0, .int .u8 0, .int .u8 0, .int .u8 0, .int .u8 0, .int .u8 0, .int .u8 0, .int .u8 0, .int .u8 0, .int .u8 0, .int .u8 0, .int .u8 0, .int .u8 0, .int .u8 0] : Array Value) := by with_unfolding_all rfl
theorem atm_lit (k o n u p s : Value) : (#[k, .int .u8 0, .int .u8 0, .int .u8 0, .int .u8 0, .int .u8 0, .int .u8 0, .int .u8 0, .int .u8 0, .int .u8 0, .int .u8 0, .int .u8 0, .int .u8 0, .int .u8 0, .int .u8 0, .int .u8 0, .int .u8 0, .int .u8 0, .int .u8 0, .int .u8 0, .int .u8 0, .int .u8 0, .int .u8 0, .int .u8 0, .int .u8 0, .int .u8 0, .int .u8 0, .int .u8 0, .int .u8 0, .int .u8 0, .int .u8 0, .int .u8 0, .int .u8 0, o, n, u, p, s] : Array Value) = atmC k Tg.zero o n u p s := by
  unfold atmC
  rw [tg_lit]
  simp
theorem atmO_v (ps : List UInt8) (a b : Option Addr) : Value.agg #[.int .i64 3, .int .u8 0, .int .u8 0, .int .u8 0, .int .u8 0, .int .u8 0, .int .u8 0, .int .u8 0, .int .u8 0, .int .u8 0, .int .u8 0, .int .u8 0, .int .u8 0, .int .u8 0, .int .u8 0, .int .u8 0, .int .u8 0, .int .u8 0, .int .u8 0, .int .u8 0, .int .u8 0, .int .u8 0, .int .u8 0, .int .u8 0, .int .u8 0, .int .u8 0, .int .u8 0, .int .u8 0, .int .u8 0, .int .u8 0, .int .u8 0, .int .u8 0, .int .u8 0, .int .i64 0, .int .i64 0, .string { data := #[99, 97, 118, 101, 97, 116] }, .slice a 1 1, .slice b 1 1] = atmV (atmO ps) a 1 1 b 1 1 := congrArg Value.agg (atm_lit _ _ _ _ _ _)
theorem mint_ok : checkT (mintT tg1 0 uD) = true := by
  have h : checkT (mintT tg1 0 uD) = (decide ((1 : Nat) ≤ 1024) && decide ((0 : Nat) ≤ 64) && ([] : List Cav).all canC) := rfl
  rw [h]; rfl
set_option maxRecDepth 100000 in
set_option maxHeartbeats 1600000 in
theorem c_ralive (w : World) (hP : PrimesAt w) : Calls Tryd.prog 55 #[] w fun e w' => e = .returned (.bool true) ∧ Below w.heap.size w w' := by
  have HP := hide hP
  have hw0 := hP.1
  clear hP
  go_enter Tryd.func55, Tryd.ntmps55
  go_wp2_with fail
  refine (c_snew w).mono ?_
  rintro e w1 ⟨rfl, h1, b1⟩
  have H1 := hide h1
  have HB1 := hide b1
  have hs1 := b1.size
  clear h1 b1
  go_wp2_with fail
  rw [show Value.agg ((tgC Tg.zero).setIfInBounds 0 (.int .u8 1)) = tgV tg1 from by kernel_rfl, show ({ data := #[100] } : ByteArray) = uD from rfl]
  refine (c_cmint tg1 0 uD w1 (by decide) (by decide) (HP.out.ext HB1.out)).mono ?_
  rintro e w2 ⟨rfl, b2⟩
  rw [show mintE tg1 0 uD = 0 from if_pos mint_ok, show mintR tg1 0 uD = mintT tg1 0 uD from if_pos mint_ok]
  have hok := mint_ok
  obtain ⟨t, ht⟩ : ∃ t, mintT tg1 0 uD = t := ⟨_, rfl⟩
  rw [ht] at hok ⊢
  have hk : t.ok := by rw [← ht]; exact ⟨by show (0 : Nat) < _; decide, fun x hx => absurd hx (by show ¬ x ∈ ([] : List Cav); simp)⟩
  have HCV : Hid (t.cavs = []) := hide (by rw [← ht]; rfl)
  have HOK := hide hok
  have HK := hide hk
  clear ht hok hk
  obtain ⟨CT, hCT⟩ : ∃ CT, CT = tokA t none 0 0 := ⟨_, rfl⟩
  have hzT : CT.size = 36 := by rw [hCT]; exact tokC_size _ _ _ _ _
  have hoT : oneAll CT = true := by rw [hCT]; exact tokC_all _ _ _ _ _ _ _ _
  have hspT : splice tokZ 0 CT = CT := by rw [hCT]; exact tokC_splice0 _ _ _ _ _ _ (tokC_size _ _ _ _ _)
  have HCT := hide hCT
  have HTV : Hid (Value.agg CT = tokV t none 0 0) := hide (by rw [hCT])
  rw [← HTV.out]
  have H2 := hide (H1.out.below (b2.mono (by omega)))
  have HB2 := hide (HB1.out.trans (b2.mono (by omega)))
  have hs2 := b2.size
  have hlt := H1.out.lt
  have k3 : (w2.alloc (.cells CT 44)).heap[w2.heap.size]? = some (.cells CT 44) := heap_alloc_new _ _
  have hag3 : agg? (w2.alloc (.cells CT 44)) ⟨w2.heap.size, 0, none⟩ 36 = some CT := (agg_of_row k3 0 36 (by decide)).trans (by rw [hCT]; exact tokC_part _ _ _ _ _)
  clear b2 hCT
  go_wp2_with fail
  rw [HTV.out]
  refine (c_encode t none 0 0 (fun _ => True) _ (by rw [HCV.out]; exact .nil _ _ _ _ _ (Nat.zero_le _)) HK.out.1).mono ?_
  rintro e w4 ⟨v, rfl, hv, b4⟩
  rw [HOK.out, if_pos rfl] at hv
  rw [HOK.out, show errV true = .int .i64 0 from rfl]
  obtain ⟨A4, c4, rfl, hr4⟩ := own_row hv
  obtain ⟨bs, hbs⟩ : ∃ bs, enc t = bs := ⟨_, rfl⟩
  have HBL : Hid (bs.length ≤ 400000) := hide (by rw [← hbs]; exact enc_small HOK.out HK.out)
  have HBS := hide hbs
  rw [hbs] at hr4 ⊢
  have hs4 := b4.size
  simp only [World.size_alloc] at hs4
  have q4 : Below w2.heap.size w2 w4 := (below1 _ _).trans (b4.mono (by simp only [World.size_alloc]; omega))
  have K4 := hide ((b4.block _ (by simp only [World.size_alloc]; omega)).trans k3)
  have H4 := hide (H2.out.below (q4.mono (by omega)))
  have HB4 := hide (HB2.out.trans (q4.mono (by omega)))
  have hq4 := row_string (P := Tryd.prog) Tryd.underlying22 Tryd.underlying5 Tryd.underlying9 hr4
  clear hv b4 q4 k3 hag3 hbs hr4
  go_wp2_with fail
  refine (c_sput w.heap.size w4 w.heap.size (.slice none 0 0) [] (txt bs) false true H4.out (by decide) (by have := HBL.out; rw [txt_size]; simp only [maxLen]; omega) HB4.out.size).mono ?_
  rintro e w5 ⟨v5, rfl, h5, b5, f5, -⟩
  have H5 := hide h5
  have HB5 := hide (HB4.out.trans b5)
  have hs5 := b5.size
  have K5 := hide ((f5 w2.heap.size (by omega) (by omega) (by intro h; cases h)).trans K4.out)
  clear h5 b5 f5 hq4
  go_wp2_with fail
  rw [show Value.agg #[.bool false, .string { data := #[111, 112, 32, 97] }, .int .u64 0, .string { data := #[] }, .string { data := #[] }] = cavV cvA from rfl]
  obtain ⟨W6, hW6⟩ : ∃ W6, W6 = w5.alloc (.cells #[.bool false, .string { data := #[111, 112, 32, 97] }, .int .u64 0, .string { data := #[] }, .string { data := #[] }] 83) := ⟨_, rfl⟩
  have k6 : W6.heap[w5.heap.size]? = some (.cells #[.bool false, .string cvA.text, .int .u64 (cvA.party : Int), .string cvA.id, .string cvA.vault] 83) := by rw [hW6]; exact heap_alloc_new _ _
  have b6 : Below w5.heap.size w5 W6 := by rw [hW6]; exact below1 _ _
  rw [← hW6]
  have hs6 : W6.heap.size = w5.heap.size + 1 := by rw [hW6]; simp only [World.size_alloc]
  have H6 := hide (H5.out.below (b6.mono (by omega)))
  have HB6 := hide (HB5.out.trans (b6.mono (by omega)))
  have K6 := hide k6
  have K6t := hide ((b6.block _ (by omega)).trans K5.out)
  clear hW6 k6 b6
  refine (c_caveat cvA W6 (by decide) (by decide) (by decide) (by decide)).mono ?_
  rintro e w7 ⟨v7, rfl, hv7, b7⟩
  obtain ⟨A7, c7, rfl, hr7⟩ := own_row hv7
  obtain ⟨ps, hps⟩ : ∃ ps, fjoin (cavFlds cvA) = ps := ⟨_, rfl⟩
  have HPL : Hid (ps.length < 900000) := hide (by rw [← hps]; have := cav_len (x := cvA) (by decide) (by decide); omega)
  have HPS := hide hps
  rw [hps] at hr7 ⊢
  have hs7 := b7.size
  have HB7 := hide (HB6.out.trans (b7.mono (by omega)))
  have H7 := hide (H6.out.below (b7.mono (by omega)))
  have K7 := hide ((b7.block _ (by omega)).trans K6.out)
  have K7t := hide ((b7.block _ (by omega)).trans K6t.out)
  have hq7 := row_string (P := Tryd.prog) Tryd.underlying22 Tryd.underlying5 Tryd.underlying9 hr7
  clear hv7 b7 hps hr7
  go_wp2_with fail
  rw [atmO_v, atmI_c]
  obtain ⟨W8, hW8⟩ : ∃ W8, W8 = (w7.alloc (.cells #[.string (txt ps)] 9)).alloc (.cells (atmA atmI none 0 0 none 0 0) 98) := ⟨_, rfl⟩
  have b8 : Below w7.heap.size w7 W8 := by rw [hW8]; exact below2 _ _ _
  have hs8 : W8.heap.size = w7.heap.size + 2 := by rw [hW8]; simp only [World.size_alloc]
  have HR8 : Hid (kStr.Row (fun _ => True) W8 (some ⟨w7.heap.size, 0, none⟩) 1 1 [txt ps]) := hide ((strs_row [txt ps] (w := W8) (g := w7.heap.size) (C := #[.string (txt ps)]) (by rw [hW8, Below.heap_alloc _ _ _ (by simp only [World.size_alloc]; omega)]; exact heap_alloc_new _ _) rfl (fun s hs => by rw [List.mem_singleton.1 hs, txt_size]; have := HPL.out; simp only [maxLen]; omega) (by simp [maxLen])))
  have HS8 : Hid ((kAtm 1).Row (fun _ => True) W8 (some ⟨w7.heap.size + 1, 0, none⟩) 1 1 [atmI]) := hide (atmI_row (by rw [hW8]; exact heap_new2 w7 _ _))
  have H8 := hide (H7.out.below (b8.mono (by omega)))
  have HB8 := hide (HB7.out.trans (b8.mono (by omega)))
  have K8 := hide ((b8.block _ (by omega)).trans K7.out)
  have K8t := hide ((b8.block _ (by omega)).trans K7t.out)
  rw [← hW8]
  clear hW8 b8
  refine (c_Value w.heap.size [⟨txt bs, false, true⟩] (by show 1 ≤ 1099511627776; omega) (fun o ho => by obtain rfl : o = _ := List.mem_singleton.1 ho; show (txt bs).size ≤ _; rw [txt_size]; have := HBL.out; omega) 1 (atmO ps) _ 1 1 _ 1 1 (fun _ => True) W8 w.heap.size v5 H8.out HR8.out HS8.out (small_lit HPL.out) (HP.out.ext HB8.out)).mono ?_
  rintro e w9 ⟨rfl, b9⟩
  obtain ⟨nt, hnt⟩ : ∃ nt, dkey t.tag uCav [txt ps] = nt := ⟨_, rfl⟩
  rw [show valT [⟨txt bs, false, true⟩] 16 (atmO ps) = some nt from by rw [← HBS.out, val_lit HOK.out HK.out, hnt], valV_some]
  have HNT : Hid (nextT t.tag cvA = nt) := hide (by rw [nextT, HPS.out, hnt])
  have hs9 := b9.size
  have HB9 := hide (HB8.out.trans (b9.mono (by omega)))
  have K9 := hide ((b9.block _ (by omega)).trans K8.out)
  have K9t := hide ((b9.block _ (by omega)).trans K8t.out)
  clear b9 hnt
  go_wp2_with fail
  obtain ⟨W10, hW10⟩ : ∃ W10, W10 = w9.alloc (.cells (tgC nt) 29) := ⟨_, rfl⟩
  have b10 : Below w9.heap.size w9 W10 := by rw [hW10]; exact below1 _ _
  have hs10 : W10.heap.size = w9.heap.size + 1 := by rw [hW10]; simp only [World.size_alloc]
  have K10n : Hid (W10.heap[w9.heap.size]? = some (.cells (tgC nt) 29)) := hide (by rw [hW10]; exact heap_alloc_new _ _)
  have K10 := hide ((b10.block _ (by omega)).trans K9.out)
  have K10t := hide ((b10.block _ (by omega)).trans K9t.out)
  have HB10 := hide (HB9.out.trans (b10.mono (by omega)))
  have HP10 := hide (HP.out.ext HB10.out)
  have smallA0 : cvA.small := ⟨by decide, by decide, by decide, by decide⟩
  rw [← hW10]
  clear hW10 b10
  refine wp_region_ext mixed 9 (fun i v w' => match i with
    | 0 => v = .bool true
    | 1 => v = .bool true
    | 2 => v = tgV nt
    | 3 => v = .pointer (some ⟨w2.heap.size, 4, none⟩)
    | 4 => v = tgV t.tag
    | 5 => v = cavV cvA
    | 6 => v = tgV nt
    | 7 => v = .bool true
    | _ => v = .bool true
    ) (regOk_of (by kernel_rfl)) rfl ?_ ?_ ?_
  · intro i v w1 w2 h1 h2
    split at h2 <;> exact h2
  · refine ⟨fun a wx hle hd hf hs K hK => ?_, fun a wx hle hd hf hs K hK => ?_, fun a wx hle hd hf hs K hK => ?_, fun a wx hle hd hf hs K hK => ?_, fun a wx hle hd hf hs K hK => ?_, fun a wx hle hd hf hs K hK => ?_, fun a wx hle hd hf hs K hK => ?_, fun a wx hle hd hf hs K hK => ?_, fun a wx hle hd hf hs K hK => ?_, trivial⟩
    all_goals clear hd
    · -- 48 := Op.move t8
      have e8 := hf 8 rfl; simp [Act.eval] at e8
      go_simp; exact hK _ _ (Ext.refl _) rfl
    · -- 49 := Op.move t48
      have e48 := hs 0 48 (needs_direct (by kernel_rfl)) rfl; simp [Act.eval] at e48
      go_simp; exact hK _ _ (Ext.refl _) rfl
    · -- 50 := Op.load 29 t7
      have e7 := hf 7 rfl; have gg := hs 1 49 (needs_direct (by kernel_rfl)) rfl; simp [Act.eval] at e7 gg; replace gg := opt_bool gg
      have hq : agg? wx ⟨w9.heap.size, 0, none⟩ 32 = some (tgC nt) := (agg_of_row (hle.heap K10n.out) 0 32 (by decide)).trans (tgC_part nt)
      go_simp; exact hK _ _ (Ext.refl _) rfl
    · -- 51 := Op.fieldAddr 44 t2 4
      have e2 := hf 2 rfl; have gg := hs 1 49 (needs_direct (by kernel_rfl)) rfl; simp [Act.eval] at e2 gg; replace gg := opt_bool gg
      go_simp; exact hK _ _ (Ext.refl _) rfl
    · -- 52 := Op.load 29 t51
      have e51 := hs 3 51 (needs_direct (by kernel_rfl)) rfl; have gg := hs 1 49 (needs_direct (by kernel_rfl)) rfl; simp [Act.eval] at e51 gg; replace gg := opt_bool gg
      have hq : agg? wx ⟨w2.heap.size, 4, none⟩ 32 = some (tgC t.tag) := (agg_of_row (hle.heap K10t.out) 4 32 (by decide)).trans (by rw [HCT.out]; exact tokC_tag _ _ _ _ _)
      go_simp; exact hK _ _ (Ext.refl _) rfl
    · -- 53 := Op.load 83 t6
      have e6 := hf 6 rfl; have gg := hs 1 49 (needs_direct (by kernel_rfl)) rfl; simp [Act.eval] at e6 gg; replace gg := opt_bool gg
      have c0 : wx.cell? ⟨w5.heap.size, 0, none⟩ = some (.bool cvA.third) := (cell_of_row wx _ _ _ _ _ (hle.heap K10.out)).trans rfl
      have c1 : wx.cell? ⟨w5.heap.size, 1, none⟩ = some (.string cvA.text) := (cell_of_row wx _ _ _ _ _ (hle.heap K10.out)).trans rfl
      have c2 : wx.cell? ⟨w5.heap.size, 2, none⟩ = some (.int .u64 (cvA.party : Int)) := (cell_of_row wx _ _ _ _ _ (hle.heap K10.out)).trans rfl
      have c3 : wx.cell? ⟨w5.heap.size, 3, none⟩ = some (.string cvA.id) := (cell_of_row wx _ _ _ _ _ (hle.heap K10.out)).trans rfl
      have c4 : wx.cell? ⟨w5.heap.size, 4, none⟩ = some (.string cvA.vault) := (cell_of_row wx _ _ _ _ _ (hle.heap K10.out)).trans rfl
      go_simp; exact hK _ _ (Ext.refl _) rfl
    · -- 54 := Op.call { value (Operand.func 90), args := #[t52, t53], argTypes := #[29, 83] }
      have e52 := hs 4 52 (needs_direct (by kernel_rfl)) rfl; have e53 := hs 5 53 (needs_direct (by kernel_rfl)) rfl; have gg := hs 1 49 (needs_direct (by kernel_rfl)) rfl; simp [Act.eval] at e52 e53 gg; replace gg := opt_bool gg
      go_simp
      refine (c_next t.tag cvA wx smallA0 (HP10.out.ext hle)).mono ?_
      rintro z wz ⟨rfl, bz⟩
      rw [HNT.out]
      exact hK _ _ bz rfl
    · -- 55 := Op.binOp BinOp.eql 29 t50 t54 29
      have e50 := hs 2 50 (needs_direct (by kernel_rfl)) rfl; have e54 := hs 6 54 (needs_direct (by kernel_rfl)) rfl; have gg := hs 1 49 (needs_direct (by kernel_rfl)) rfl; simp [Act.eval] at e50 e54 gg; replace gg := opt_bool gg
      have hq := tg_in wx nt nt
      rw [decide_eq_true rfl] at hq
      go_simp; exact hK _ _ (Ext.refl _) rfl
    · -- 56 := Op.pick t49 t55 (const (Value.bool false))
      have e49 := hs 1 49 (needs_direct (by kernel_rfl)) rfl; have e55 := hs 7 55 (needs_direct (by kernel_rfl)) rfl; simp [Act.eval] at e49 e55
      go_simp; exact hK _ _ (Ext.refl _) rfl
  intro vs w8 hle hs
  have v8 := hs 8 (by omega) rfl
  simp only at v8
  clear hs
  simp only [putN, dstAt]
  go_simp
  go_wp2_with fail
  exact bodyPost_ret (v := .bool true) (by simp [results, Tryd.results55, go_sem]) rfl ⟨rfl, HB10.out.trans (hle.mono HB10.out.size)⟩
end Go.Proofs.YtdkeflhgengblaaDoor
namespace Go.Proofs.YtdkeflhgengblaaDoor
open Go.ChangeShapes Go.WideShapes Go.ChangeAt Go.RowKit
theorem len5 {cs : List Value} (h : cs.length = 5) : ∃ a b c d e, cs = [a, b, c, d, e] := by
  match cs, h with
  | [a, b, c, d, e], _ => exact ⟨a, b, c, d, e, rfl⟩
theorem open_cav {H : Type} {enc : TypeId × Value → H} {w : World} {spare : Nat → Bool} {held : Bool} (n : Nat) (cs : List Value) (x : DataW H × List MemPlace) (h : DataW.trod enc Tryd.prog w 0 spare held n 83 cs = some x) :
    ∃ y, kCav.K (· < w.heap.size) w y cs := by
  obtain ⟨xs, m, rfl, -, hl, hx, hf⟩ := DataW.trod_struct Tryd.underlying83 h
  have c5 : Tryd.prog.cellsOf 83 = 5 := by kernel_rfl
  rw [c5] at hl
  obtain ⟨v0, v1, v2, v3, v4, rfl⟩ := len5 hl
  have hxs : xs.length = 5 := hx
  have c9 : Tryd.prog.cellsOf 9 = 1 := by kernel_rfl
  have c4 : Tryd.prog.cellsOf 4 = 1 := by kernel_rfl
  have c39 : Tryd.prog.cellsOf 41 = 1 := by kernel_rfl
  have h0 := hf 0 _ rfl
  have h1 := hf 1 _ rfl
  have h2 := hf 2 _ rfl
  have h3 := hf 3 _ rfl
  have h4 := hf 4 _ rfl
  rw [List.getElem?_eq_getElem (by omega)] at h0 h1 h2 h3 h4
  obtain ⟨b, e0, -⟩ := DataW.trod_bool Tryd.underlying4 h0
  obtain ⟨s1, e1, -, hs1⟩ := DataW.trod_string Tryd.underlying9 h1
  obtain ⟨k, e2, -, hk⟩ := DataW.trod_int Tryd.underlying41 h2
  obtain ⟨s3, e3, -, hs3⟩ := DataW.trod_string Tryd.underlying9 h3
  obtain ⟨s4, e4, -, hs4⟩ := DataW.trod_string Tryd.underlying9 h4
  simp [c4] at e0
  simp [c9] at e1 e3 e4
  simp [c39] at e2
  subst e0 e1 e2 e3 e4
  simp [Lit.wf, IntKind.min, IntKind.max, IntKind.signed, IntKind.bits] at hk
  obtain ⟨m, rfl⟩ : ∃ m : Nat, k = m := ⟨k.toNat, by omega⟩
  exact ⟨⟨b, s1, m, s3, s4⟩, rfl, hs1, by show m < _; omega, hs3, hs4⟩
theorem split4 {cs : List Value} (h : 4 ≤ cs.length) : ∃ a b c d r, cs = a :: b :: c :: d :: r := by
  match cs, h with
  | a :: b :: c :: d :: r, _ => exact ⟨a, b, c, d, r, rfl⟩
theorem open_tok {H : Type} {enc : TypeId × Value → H} {w : World} {spare : Nat → Bool} {held : Bool} (n : Nat) (cs : List Value) (x : DataW H × List MemPlace) (h : DataW.trod enc Tryd.prog w 0 spare held n 44 cs = some x) :
    ∃ (t : Tok) (A : Option Addr) (l c : Nat), cs = (tokC (.int .u64 (t.key : Int)) (.string t.id) (.slice A l c) (.bool t.bnd) t.tag).toList ∧ kCav.Row (· < w.heap.size) w A l c t.cavs ∧ t.key < 18446744073709551616 ∧ t.id.size ≤ maxLen := by
  obtain ⟨xs, m, rfl, -, hl, hx, hf⟩ := DataW.trod_struct Tryd.underlying44 h
  have c36 : Tryd.prog.cellsOf 44 = 36 := by kernel_rfl
  rw [c36] at hl
  have hxs : xs.length = 5 := hx
  have c9 : Tryd.prog.cellsOf 9 = 1 := by kernel_rfl
  have c4 : Tryd.prog.cellsOf 4 = 1 := by kernel_rfl
  have c39 : Tryd.prog.cellsOf 41 = 1 := by kernel_rfl
  have c57 : Tryd.prog.cellsOf 42 = 1 := by kernel_rfl
  have c32 : Tryd.prog.cellsOf 29 = 32 := by kernel_rfl
  have h0 := hf 0 _ rfl
  have h1 := hf 1 _ rfl
  have h2 := hf 2 _ rfl
  have h3 := hf 3 _ rfl
  have h4 := hf 4 _ rfl
  rw [List.getElem?_eq_getElem (by omega)] at h0 h1 h2 h3 h4
  obtain ⟨k, e0, -, hk⟩ := DataW.trod_int Tryd.underlying41 h0
  obtain ⟨s1, e1, -, hs1⟩ := DataW.trod_string Tryd.underlying9 h1
  obtain ⟨A, l, c, cv, e2, hr⟩ := trod_row (d := kCav) Tryd.underlying42 (by kernel_rfl) (by decide) open_cav h2
  obtain ⟨b, e3, -⟩ := DataW.trod_bool Tryd.underlying4 h3
  obtain ⟨tg, e4⟩ := open_tag _ _ _ h4
  simp [Lit.wf, IntKind.min, IntKind.max, IntKind.signed, IntKind.bits] at hk
  obtain ⟨m, rfl⟩ : ∃ m : Nat, k = m := ⟨k.toNat, by omega⟩
  refine ⟨⟨m, s1, cv, b, tg⟩, A, l, c, ?_, hr, by show m < _; omega, hs1⟩
  obtain ⟨a0, a1, a2, a3, r, rfl⟩ := split4 (cs := cs) (by omega)
  have hlr : r.length = 32 := by simpa using hl
  simp [c39] at e0
  simp [c9] at e1
  simp [c57] at e2
  simp [c4] at e3
  have e4' : r = (tgC tg).toList := by
    rw [← e4]
    simp [c32]
    rw [List.take_of_length_le (Nat.le_of_eq hlr)]
  subst e0 e1 e2 e3 e4'
  simp [tokC]
theorem row_cavs {ok : Nat → Prop} {w : World} {A : Option Addr} {n c : Nat} {xs : List Cav} (h : kCav.Row ok w A n c xs) : ∀ x ∈ xs, x.party < 18446744073709551616 := by
  intro x hx
  obtain ⟨i, hi, rfl⟩ := List.mem_iff_getElem.1 hx
  obtain ⟨b, o, _, _, _, hc⟩ := h.2.2.2 (by have := h.1; omega)
  obtain ⟨cs, hk, _⟩ := hc i _ (List.getElem?_eq_getElem hi)
  exact hk.2.2.1
end Go.Proofs.YtdkeflhgengblaaDoor
namespace Go.Proofs.YtdkeflhgengblaaDoor
open Go.RowKit
attribute [local go_sem ↓] ld16 ld17 ld32 ld36
attribute [local go_sem] run_ldAgg run_storeAgg agg_alloc_at agg_alloc_past agg_drew agg_setCell row_alloc_at row_alloc_past row_drew setRow_alloc_at setRow_alloc_past setRow_drew agg_setRow_at agg_setRow_far cell_setRow_at cell_setRow_far row_setRow_far size_setRow tgC_size tgC_one tgC_part tgC_splice tokC_size tokC_0 tokC_1 tokC_2 tokC_3 tokC_g0 tokC_g1 tokC_g2 tokC_g3 tokC_part tokC_tag tokC_set0 tokC_set1 tokC_set2 tokC_set3 tokC_splice tokC_splice0 tgC_splice_any zero_tg zero_tok tokC_all tokC_ne tgC_ne
set_option maxRecDepth 100000 in
theorem c_rcan (x : Cav) (w : World) : Calls Tryd.prog 57 #[cavV x] w fun e w' => e = .returned (.bool (canC x)) ∧ Below w.heap.size w w' := by
  cases h3 : x.third with
  | true =>
    unfold cavV
    rw [h3]
    have H3 := hide h3
    clear h3
    go_enter Tryd.func57, Tryd.ntmps57
    go_wp2_with fail
    all_goals go_ret
    all_goals refine ⟨congrArg (fun b => Ending.returned (.bool b)) (?_ : _ = canC x), below1 _ _⟩
    all_goals simp_all [canC, H3.out, ← nil_iff]
    all_goals first | omega | (rw [Bool.eq_iff_iff]; simp; omega)
  | false =>
    unfold cavV
    rw [h3]
    have H3 := hide h3
    clear h3
    go_enter Tryd.func57, Tryd.ntmps57
    go_wp2_with fail
    all_goals go_ret
    all_goals refine ⟨congrArg (fun b => Ending.returned (.bool b)) (?_ : _ = canC x), below1 _ _⟩
    all_goals simp_all [canC, H3.out, ← nil_iff, cav_mk]
    all_goals first | omega | (rw [Bool.eq_iff_iff]; simp; omega)

set_option maxRecDepth 100000 in
set_option maxHeartbeats 400000 in
theorem c_rcheck (t : Tok) (A : Option Addr) (n c : Nat) (ok : Nat → Prop) (w : World) (hR : kCav.Row ok w A n c t.cavs) :
    Calls Tryd.prog 56 #[tokV t A n c] w fun e w' => e = .returned (.bool (checkT t)) ∧ Below w.heap.size w w' := by
  have HL := hide hR.1
  have hm : n ≤ 9223372036854775807 := Nat.le_trans hR.2.1 hR.2.2.1
  have HR := hide hR
  clear hR
  by_cases h1 : 1024 < t.id.size
  · have HC : Hid (checkT t = false) := hide (by simp [checkT]; omega)
    go_enter Tryd.func56, Tryd.ntmps56
    go_wp2_with fail
    go_ret
    exact ⟨by rw [HC.out]; rfl, below1 _ _⟩
  · by_cases h2 : 64 < n
    · have HC : Hid (checkT t = false) := hide (by have := HL.out; simp [checkT]; omega)
      go_enter Tryd.func56, Tryd.ntmps56
      go_wp2_with fail
      go_ret
      exact ⟨by rw [HC.out]; rfl, below1 _ _⟩
    · have HC : Hid (checkT t = t.cavs.all canC) := hide (by have := HL.out; simp [checkT]; omega)
      go_enter Tryd.func56, Tryd.ntmps56
      go_wp2_with fail
      go_loopw [18] (fun i wr => ∃ k : Nat, k ≤ n ∧ i = .int .i64 (k : Int) ∧ Hid ((t.cavs.take k).all canC = true) ∧ Hid (Below w.heap.size w wr)) (fun i _ => n - (intOf i).toNat)
      case atStart => exact ⟨0, Nat.zero_le _, rfl, hide rfl, hide (below1 _ _)⟩
      case round =>
        obtain ⟨k, hk, rfl, HA, HB⟩ := hrel
        by_cases hlt : k < n
        · obtain ⟨x, hx⟩ : ∃ x, t.cavs[k]? = some x := ⟨_, List.getElem?_eq_getElem (by have := HL.out; omega)⟩
          obtain ⟨b, q, cs, hix, -, hbl, hK, hra⟩ := (HR.out.below HB.out).index (P := Tryd.prog) Tryd.underlying42 (E := 83) cav_size hx
          have hKe := hK.1
          subst hKe
          have a0 := hra 0 _ rfl
          have a1 := hra 1 _ rfl
          have a2 := hra 2 _ rfl
          have a3 := hra 3 _ rfl
          have a4 := hra 4 _ rfl
          simp only [Nat.add_zero] at a0
          have HX := hide hx
          have hsb := HB.out.size
          clear hx hK hra
          go_wp2_with fail
          refine (c_rcan x _).mono ?_
          rintro e w1 ⟨rfl, b1⟩
          have HB1 := hide (HB.out.trans ((bnext (below1 wr _) b1).mono hsb))
          clear b1
          cases hc : canC x with
          | true =>
            have HA1 : Hid ((t.cavs.take (k + 1)).all canC = true) := hide (by rw [List.take_add_one, HX.out, List.all_append, HA.out]; simp [hc])
            clear hc
            go_wp2_with fail
            go_roundw
            case rel => exact ⟨k + 1, by omega, by simp, HA1, HB1⟩
            case measure => simp [intOf]; omega
          | false =>
            have HA1 : Hid (t.cavs.all canC = false) := hide (by
              rw [List.all_eq_false]
              exact ⟨x, List.mem_of_getElem? HX.out, by simp [hc]⟩)
            clear hc
            go_wp2_with fail
            go_ret
            exact ⟨by rw [HC.out, HA1.out]; rfl, HB1.out⟩
        · obtain rfl : k = n := by omega
          have HA1 : Hid (t.cavs.all canC = true) := hide (by
            have := HA.out
            rwa [List.take_of_length_le (Nat.le_of_eq HL.out)] at this)
          go_wp2_with fail
          go_ret
          exact ⟨by rw [HC.out, HA1.out]; rfl, HB.out⟩

end Go.Proofs.YtdkeflhgengblaaDoor
namespace Go.Proofs.YtdkeflhgengblaaDoor
open Go.RowKit
attribute [local go_sem ↓] ld8 ld32 ld64 ld73
attribute [local go_sem] run_ldAgg run_storeAgg agg_alloc_at agg_alloc_past agg_drew agg_setCell row_alloc_at row_alloc_past row_drew setRow_alloc_at setRow_alloc_past setRow_drew agg_setRow_at agg_setRow_far cell_setRow_at cell_setRow_far row_setRow_far size_setRow s8C_size s8C_part s8C_one s8C_splice0 s8C_ne dgC_size dgC_72 dgC_part dgC_h dgC_r dgC_splice_h dgC_set dgC_one dgC_splice0 dgC_ne zero_dg
attribute [local go_sem] tgC_size tgC_one tgC_part tgC_splice tgC_splice_any zero_tg tgC_ne
attribute [local go_sem ↓] ld36
attribute [local go_sem] tokC_size tokC_0 tokC_1 tokC_2 tokC_3 tokC_g0 tokC_g1 tokC_g2 tokC_g3 tokC_part tokC_tag tokC_set0 tokC_set1 tokC_set2 tokC_set3 tokC_splice tokC_splice0 zero_tok tokC_all tokC_ne

theorem more_ok {t : Tok} {x : Cav} (h : checkT t = true) (hn : t.cavs.length ≤ 63) (hx : canC x = true) : checkT (more1 t x) = true := by
  simp only [checkT, Bool.and_eq_true, decide_eq_true_eq] at h ⊢
  refine ⟨⟨h.1.1, ?_⟩, ?_⟩
  · show (t.cavs ++ [x]).length ≤ 64
    rw [List.length_append, List.length_singleton]; omega
  · show (t.cavs ++ [x]).all canC = true
    rw [List.all_append, h.2]
    simp [hx]
set_option maxRecDepth 100000 in
set_option maxHeartbeats 3200000 in
theorem c_goeson (t : Tok) (x : Cav) (A : Option Addr) (n c : Nat) (ok : Nat → Prop) (w : World) (hR : kCav.Row ok w A n c t.cavs) (hk : t.key < 18446744073709551616) (hx : x.party < 18446744073709551616) (hP : PrimesAt w) :
    Calls Tryd.prog 10 #[tokV t A n c, cavV x] w fun e w' => e = .returned (.bool true) ∧ Below w.heap.size w w' := by
  have hw0 := hP.1
  obtain ⟨CT, hCT⟩ : ∃ CT, CT = tokA t A n c := ⟨_, rfl⟩
  have hzT : CT.size = 36 := by rw [hCT]; exact tokC_size _ _ _ _ _
  have hoT : oneAll CT = true := by rw [hCT]; exact tokC_all _ _ _ _ _ _ _ _
  have HCT := hide hCT
  have HTV : Hid (Value.agg CT = tokV t A n c) := hide (by rw [hCT])
  obtain ⟨CC, hCC⟩ : ∃ CC, CC = (#[.bool x.third, .string x.text, .int .u64 (x.party : Int), .string x.id, .string x.vault] : Array Value) := ⟨_, rfl⟩
  have hzC : CC.size = 5 := by rw [hCC]; rfl
  have hoC : oneAll CC = true := by rw [hCC]; simp [oneAll, one_bool, one_int, one_str]
  have HCV : Hid (Value.agg CC = cavV x) := hide (by rw [hCC])
  obtain ⟨W2, hW2⟩ : ∃ W2, W2 = (w.alloc (.cells CT 44)).alloc (.cells CC 83) := ⟨_, rfl⟩
  have b2 : Below w.heap.size w W2 := by rw [hW2]; exact below2 _ _ _
  have hs2 : W2.heap.size = w.heap.size + 2 := by rw [hW2]; simp only [World.size_alloc]
  have k2 : W2.heap[w.heap.size]? = some (.cells CT 44) := by rw [hW2, Below.heap_alloc _ _ _ (by simp only [World.size_alloc]; omega)]; exact heap_alloc_new _ _
  have k2c : W2.heap[w.heap.size + 1]? = some (.cells #[.bool x.third, .string x.text, .int .u64 (x.party : Int), .string x.id, .string x.vault] 83) := by rw [hW2, ← hCC]; exact heap_new2 w _ _
  have HR2 := hide (hR.below b2)
  have hn63 : n ≤ 9223372036854775807 := Nat.le_trans hR.2.1 hR.2.2.1
  have HL : Hid (t.cavs.length = n) := hide hR.1
  have HOK : Hid t.ok := hide ⟨hk, row_cavs hR⟩
  have HPX := hide hx
  have HP := hide hP
  have HB2 := hide b2
  have K2 := hide k2
  have K2c := hide k2c
  have HW2 := hide hW2
  rw [← HTV.out, ← HCV.out]
  clear hR hk hx hP b2 k2 k2c hW2 hCT hCC
  go_enter Tryd.func10, Tryd.ntmps10
  go_wp2_with fail
  rw [← HW2.out]
  refine (c_ralive W2 (HP.out.ext HB2.out)).mono ?_
  rintro e w3 ⟨rfl, b3⟩
  have hs3 := b3.size
  have HB3 := hide (HB2.out.trans (b3.mono (by omega)))
  have HR3 := hide (HR2.out.below b3)
  have K3 := hide ((b3.block _ (by omega)).trans K2.out)
  have K3c := hide ((b3.block _ (by omega)).trans K2c.out)
  have hag3 : agg? w3 ⟨w.heap.size, 0, none⟩ 36 = some CT := (agg_of_row K3.out 0 36 (by decide)).trans (by rw [HCT.out]; exact tokC_part _ _ _ _ _)
  clear b3 HW2
  go_wp2_with fail
  rw [HTV.out]
  refine (c_rcheck t A n c ok w3 HR3.out).mono ?_
  rintro e w4 ⟨rfl, b4⟩
  have hs4 := b4.size
  have HB4 := hide (HB3.out.trans (b4.mono (by omega)))
  have HR4 := hide (HR3.out.below b4)
  have K4 := hide ((b4.block _ (by omega)).trans K3.out)
  have K4c := hide ((b4.block _ (by omega)).trans K3c.out)
  clear b4 hag3
  cases hck : checkT t with
  | false =>
    go_wp2_with fail
    exact bodyPost_ret (v := .bool true) (by simp [results, Tryd.results10, go_sem]) rfl ⟨rfl, HB4.out⟩
  | true =>
    have HCK := hide hck
    have hb4 : w4.cell? ⟨w.heap.size, 3, none⟩ = some (.bool t.bnd) := (cell_of_row w4 _ _ _ _ _ K4.out).trans (by rw [HCT.out]; exact tokC_3 _ _ _ _ _)
    clear hck
    cases hbn : t.bnd with
    | true =>
      rw [hbn] at hb4
      go_wp2_with fail
      exact bodyPost_ret (v := .bool true) (by simp [results, Tryd.results10, go_sem]) rfl ⟨rfl, HB4.out⟩
    | false =>
      rw [hbn] at hb4
      have HBN := hide hbn
      have d0 : w4.cell? ⟨w.heap.size + 1, 0, none⟩ = some (.bool x.third) := (cell_of_row w4 _ _ _ _ _ K4c.out).trans rfl
      have d1 : w4.cell? ⟨w.heap.size + 1, 1, none⟩ = some (.string x.text) := (cell_of_row w4 _ _ _ _ _ K4c.out).trans rfl
      have d2 : w4.cell? ⟨w.heap.size + 1, 2, none⟩ = some (.int .u64 (x.party : Int)) := (cell_of_row w4 _ _ _ _ _ K4c.out).trans rfl
      have d3 : w4.cell? ⟨w.heap.size + 1, 3, none⟩ = some (.string x.id) := (cell_of_row w4 _ _ _ _ _ K4c.out).trans rfl
      have d4 : w4.cell? ⟨w.heap.size + 1, 4, none⟩ = some (.string x.vault) := (cell_of_row w4 _ _ _ _ _ K4c.out).trans rfl
      clear hbn
      go_wp2_with fail
      refine (c_rcan x w4).mono ?_
      rintro e w5 ⟨rfl, b5⟩
      have hs5 := b5.size
      have HB5 := hide (HB4.out.trans (b5.mono (by omega)))
      have HR5 := hide (HR4.out.below b5)
      have K5 := hide ((b5.block _ (by omega)).trans K4.out)
      have K5c := hide ((b5.block _ (by omega)).trans K4c.out)
      clear b5 hb4 d0 d1 d2 d3 d4
      cases hcn : canC x with
      | false =>
        go_wp2_with fail
        exact bodyPost_ret (v := .bool true) (by simp [results, Tryd.results10, go_sem]) rfl ⟨rfl, HB5.out⟩
      | true =>
        have HCN := hide hcn
        have hc5 : w5.cell? ⟨w.heap.size, 2, none⟩ = some (.slice A n c) := (cell_of_row w5 _ _ _ _ _ K5.out).trans (by rw [HCT.out]; exact tokC_2 _ _ _ _ _)
        clear hcn
        by_cases h63 : 63 < n
        · have h63' : (63 : Int) < (n : Int) := by omega
          go_wp2_with fail
          exact bodyPost_ret (v := .bool true) (by simp [results, Tryd.results10, go_sem]) rfl ⟨rfl, HB5.out⟩
        · have h63' : ¬ (63 : Int) < (n : Int) := by omega
          have hag5 : agg? w5 ⟨w.heap.size, 0, none⟩ 36 = some CT := (agg_of_row K5.out 0 36 (by decide)).trans (by rw [HCT.out]; exact tokC_part _ _ _ _ _)
          go_wp2_with fail
          rw [HTV.out]
          refine (c_encode t A n c ok w5 HR5.out HOK.out.1).mono ?_
          rintro e w6 ⟨v, rfl, hv, b6⟩
          rw [HCK.out, if_pos rfl] at hv
          rw [HCK.out, show errV true = .int .i64 0 from rfl]
          obtain ⟨A6, c6, rfl, hr6⟩ := own_row hv
          obtain ⟨bs, hbs⟩ : ∃ bs, enc t = bs := ⟨_, rfl⟩
          have HBL : Hid (bs.length ≤ 400000) := hide (by rw [← hbs]; exact enc_small HCK.out HOK.out)
          have HBS := hide hbs
          rw [hbs] at hr6 ⊢
          have hs6 := b6.size
          have HB6 := hide (HB5.out.trans (b6.mono (by omega)))
          have HR6 := hide (HR5.out.below b6)
          have K6 := hide ((b6.block _ (by omega)).trans K5.out)
          have K6c := hide ((b6.block _ (by omega)).trans K5c.out)
          have HE6 := hide hr6
          have hag6 : agg? w6 ⟨w.heap.size, 0, none⟩ 36 = some CT := (agg_of_row K6.out 0 36 (by decide)).trans (by rw [HCT.out]; exact tokC_part _ _ _ _ _)
          have d0 : w6.cell? ⟨w.heap.size + 1, 0, none⟩ = some (.bool x.third) := (cell_of_row w6 _ _ _ _ _ K6c.out).trans rfl
          have d1 : w6.cell? ⟨w.heap.size + 1, 1, none⟩ = some (.string x.text) := (cell_of_row w6 _ _ _ _ _ K6c.out).trans rfl
          have d2 : w6.cell? ⟨w.heap.size + 1, 2, none⟩ = some (.int .u64 (x.party : Int)) := (cell_of_row w6 _ _ _ _ _ K6c.out).trans rfl
          have d3 : w6.cell? ⟨w.heap.size + 1, 3, none⟩ = some (.string x.id) := (cell_of_row w6 _ _ _ _ _ K6c.out).trans rfl
          have d4 : w6.cell? ⟨w.heap.size + 1, 4, none⟩ = some (.string x.vault) := (cell_of_row w6 _ _ _ _ _ K6c.out).trans rfl
          clear hv b6 hbs hr6 hag5 hc5
          go_wp2_with fail
          rw [HTV.out, show Value.agg #[.bool x.third, .string x.text, .int .u64 (x.party : Int), .string x.id, .string x.vault] = cavV x from rfl]
          refine (c_cadd t x A n c ok w6 HR6.out (by omega) ⟨by have := (can_small HCN.out).1; omega, HPX.out, by have := (can_small HCN.out).2.1; omega, by have := (can_small HCN.out).2.2; omega⟩ (HP.out.ext HB6.out)).mono ?_
          rintro e w7 ⟨A7, n7, c7, rfl, -, b7⟩
          have hmo := more_ok HCK.out (by rw [HL.out]; omega) HCN.out
          rw [show addE t x = 0 from by rw [addE, HBN.out, if_neg (by decide), if_pos hmo], show addR t x = more1 t x from by rw [addR, HBN.out, if_neg (by decide), if_pos hmo]]
          obtain ⟨u, hu⟩ : ∃ u, more1 t x = u := ⟨_, rfl⟩
          have HUT : Hid (u.tag = nextT t.tag x) := hide (by rw [← hu]; rfl)
          rw [hu]
          obtain ⟨CU, hCU⟩ : ∃ CU, CU = tokA u A7 n7 c7 := ⟨_, rfl⟩
          have hzU : CU.size = 36 := by rw [hCU]; exact tokC_size _ _ _ _ _
          have hoU : oneAll CU = true := by rw [hCU]; exact tokC_all _ _ _ _ _ _ _ _
          have hspU : splice tokZ 0 CU = CU := by rw [hCU]; exact tokC_splice0 _ _ _ _ _ _ (tokC_size _ _ _ _ _)
          have HCU := hide hCU
          rw [show tokV u A7 n7 c7 = .agg CU from by rw [hCU]]
          have hs7 := b7.size
          have HB7 := hide (HB6.out.trans (b7.mono (by omega)))
          have HE7 := hide (HE6.out.below b7)
          have K7c := hide ((b7.block _ (by omega)).trans K6c.out)
          clear b7 hmo hu hCU hag6 d0 d1 d2 d3 d4
          go_wp2_with fail
          obtain ⟨WA, hWA⟩ : ∃ WA, WA = w7.alloc (.cells CU 44) := ⟨_, rfl⟩
          have bA : Below w7.heap.size w7 WA := by rw [hWA]; exact below1 _ _
          have hsA : w7.heap.size < WA.heap.size := by rw [hWA]; simp only [World.size_alloc]; omega
          have KU := hide (show WA.heap[w7.heap.size]? = some (.cells CU 44) from by rw [hWA]; exact heap_alloc_new _ _)
          have HBA := hide (HB7.out.trans (bA.mono (by omega)))
          have HEA := hide (HE7.out.below bA)
          have KAc := hide ((bA.block _ (by omega)).trans K7c.out)
          rw [← hWA]
          clear hWA bA
          refine (c_snew WA).mono ?_
          rintro e w8 ⟨rfl, h8, b8⟩
          have H8 := hide h8
          have hs8 := b8.size
          have hlt8 := h8.lt
          have HB8 := hide (HBA.out.trans (b8.mono (by omega)))
          have HE8 := hide (HEA.out.below b8)
          have K8c := hide ((b8.block _ (by omega)).trans KAc.out)
          have K8U := hide ((b8.block _ (by omega)).trans KU.out)
          have hq8 := row_string (P := Tryd.prog) Tryd.underlying22 Tryd.underlying5 Tryd.underlying9 HE8.out
          clear h8 b8
          go_wp2_with fail
          refine (c_sput WA.heap.size w8 WA.heap.size (.slice none 0 0) [] (txt bs) false true H8.out (by show 0 ≤ 1099511627776; omega) (by have := HBL.out; rw [txt_size]; simp only [maxLen]; omega) hs8).mono ?_
          rintro e w9 ⟨v9, rfl, h9, b9, -, -⟩
          have H9 := hide h9
          have hs9 := b9.size
          have HB9 := hide (HB8.out.trans (b9.mono (by omega)))
          have K9c := hide ((b9.block _ (by omega)).trans K8c.out)
          have K9U := hide ((b9.block _ (by omega)).trans K8U.out)
          have d0 : w9.cell? ⟨w.heap.size + 1, 0, none⟩ = some (.bool x.third) := (cell_of_row w9 _ _ _ _ _ K9c.out).trans rfl
          have d1 : w9.cell? ⟨w.heap.size + 1, 1, none⟩ = some (.string x.text) := (cell_of_row w9 _ _ _ _ _ K9c.out).trans rfl
          have d2 : w9.cell? ⟨w.heap.size + 1, 2, none⟩ = some (.int .u64 (x.party : Int)) := (cell_of_row w9 _ _ _ _ _ K9c.out).trans rfl
          have d3 : w9.cell? ⟨w.heap.size + 1, 3, none⟩ = some (.string x.id) := (cell_of_row w9 _ _ _ _ _ K9c.out).trans rfl
          have d4 : w9.cell? ⟨w.heap.size + 1, 4, none⟩ = some (.string x.vault) := (cell_of_row w9 _ _ _ _ _ K9c.out).trans rfl
          clear h9 b9 hq8
          go_wp2_with fail
          rw [show Value.agg #[.bool x.third, .string x.text, .int .u64 (x.party : Int), .string x.id, .string x.vault] = cavV x from rfl]
          refine (c_caveat x w9 (by have := (can_small HCN.out).1; omega) HPX.out (by have := (can_small HCN.out).2.1; omega) (by have := (can_small HCN.out).2.2; omega)).mono ?_
          rintro e wa ⟨va, rfl, hva, ba⟩
          obtain ⟨Aa, ca, rfl, hra⟩ := own_row hva
          obtain ⟨ps, hps⟩ : ∃ ps, fjoin (cavFlds x) = ps := ⟨_, rfl⟩
          have HPL : Hid (ps.length < 900000) := hide (by rw [← hps]; have := cav_len (x := x) HCN.out HPX.out; omega)
          have HPS := hide hps
          rw [hps] at hra ⊢
          have hsa := ba.size
          have HBa := hide (HB9.out.trans (ba.mono (by omega)))
          have Ha := hide (H9.out.below (ba.mono (by omega)))
          have Ka := hide ((ba.block _ (by omega)).trans K9c.out)
          have Kat := hide ((ba.block _ (by omega)).trans K9U.out)
          have hqa := row_string (P := Tryd.prog) Tryd.underlying22 Tryd.underlying5 Tryd.underlying9 hra
          clear hva ba hps hra d0 d1 d2 d3 d4
          go_wp2_with fail
          rw [atmO_v, atmI_c]
          obtain ⟨WL, hWL⟩ : ∃ WL, WL = (wa.alloc (.cells #[.string (txt ps)] 9)).alloc (.cells (atmA atmI none 0 0 none 0 0) 98) := ⟨_, rfl⟩
          have bl : Below wa.heap.size wa WL := by rw [hWL]; exact below2 _ _ _
          have hsl : WL.heap.size = wa.heap.size + 2 := by rw [hWL]; simp only [World.size_alloc]
          have HRl : Hid (kStr.Row (fun _ => True) WL (some ⟨wa.heap.size, 0, none⟩) 1 1 [txt ps]) := hide ((strs_row [txt ps] (w := WL) (g := wa.heap.size) (C := #[.string (txt ps)]) (by rw [hWL, Below.heap_alloc _ _ _ (by simp only [World.size_alloc]; omega)]; exact heap_alloc_new _ _) rfl (fun s hs => by rw [List.mem_singleton.1 hs, txt_size]; have := HPL.out; simp only [maxLen]; omega) (by simp [maxLen])))
          have HSl : Hid ((kAtm 1).Row (fun _ => True) WL (some ⟨wa.heap.size + 1, 0, none⟩) 1 1 [atmI]) := hide (atmI_row (by rw [hWL]; exact heap_new2 wa _ _))
          have Hl := hide (Ha.out.below (bl.mono (by omega)))
          have HBl := hide (HBa.out.trans (bl.mono (by omega)))
          have Kl := hide ((bl.block _ (by omega)).trans Ka.out)
          have Klt := hide ((bl.block _ (by omega)).trans Kat.out)
          rw [← hWL]
          clear hWL bl
          refine (c_Value WA.heap.size [⟨txt bs, false, true⟩] (by show 1 ≤ 1099511627776; omega) (fun o ho => by obtain rfl : o = _ := List.mem_singleton.1 ho; show (txt bs).size ≤ _; rw [txt_size]; have := HBL.out; omega) 1 (atmO ps) _ 1 1 _ 1 1 (fun _ => True) WL WA.heap.size v9 Hl.out HRl.out HSl.out (small_lit HPL.out) (HP.out.ext HBl.out)).mono ?_
          rintro e wb ⟨rfl, bb⟩
          obtain ⟨nt, hnt⟩ : ∃ nt, dkey t.tag uCav [txt ps] = nt := ⟨_, rfl⟩
          rw [show valT [⟨txt bs, false, true⟩] 16 (atmO ps) = some nt from by rw [← HBS.out, val_lit HCK.out HOK.out, hnt], valV_some]
          have HNT : Hid (u.tag = nt) := hide (by rw [HUT.out, nextT, HPS.out, hnt])
          have hsb := bb.size
          have HBb := hide (HBl.out.trans (bb.mono (by omega)))
          have Kbt := hide (((below1 wb (.cells (tgC nt) 29)).block _ (by omega)).trans ((bb.block _ (by omega)).trans Klt.out))
          have hagb : agg? (wb.alloc (.cells (tgC nt) 29)) ⟨w7.heap.size, 4, none⟩ 32 = some (tgC nt) := (agg_of_row Kbt.out 4 32 (by decide)).trans (by rw [HCU.out, ← HNT.out]; exact tokC_tag _ _ _ _ _)
          have hagn : agg? (wb.alloc (.cells (tgC nt) 29)) ⟨wb.heap.size, 0, none⟩ 32 = some (tgC nt) := (agg_of_row (heap_alloc_new _ _) 0 32 (by decide)).trans (tgC_part nt)
          have hte : ∀ wx, (Op.equalIn 10000 29 (.agg (tgC nt)) (.agg (tgC nt))).run Tryd.prog wx = .ok true wx := fun wx => by have hq := tg_in wx nt nt; rw [decide_eq_true rfl] at hq; exact hq
          clear bb hnt
          go_wp2_with fail
          exact bodyPost_ret (v := .bool true) (by simp [results, Tryd.results10, go_sem]) rfl ⟨rfl, HBb.out.trans (below1 _ _ |>.mono (by omega))⟩

end Go.Proofs.YtdkeflhgengblaaDoor
namespace Go.Proofs.YtdkeflhgengblaaDoor
open Go.ChangeShapes Go.WideShapes Go.ChangeAt Go.RowKit

def inReach {H : Type} (d : DataW H) (t : TypeId) : Prop := (d.weights Tryd.prog t).all (· ≤ reachBytes) = true
theorem each_part {H : Type} : ∀ {ts : List TypeId} {ds : List (DataW H)} {j : Nat} {t : TypeId} {d : DataW H}, (DataW.weightsEach Tryd.prog ts ds).all (· ≤ reachBytes) = true → ts[j]? = some t → ds[j]? = some d → inReach d t := by
  intro ts ds j t d h ht hd
  unfold inReach
  rw [List.all_eq_true] at h ⊢
  intro n hn
  exact h n (DataW.weights_mem_each ht hd n hn)
theorem all_mem {H : Type} : ∀ {e : TypeId} {ds : List (DataW H)} {d : DataW H}, (DataW.weightsAll Tryd.prog e ds).all (· ≤ reachBytes) = true → d ∈ ds → inReach d e
  | e, [], d, _, hd => by simp at hd
  | e, x :: r, d, h, hd => by
    simp only [DataW.weightsAll, List.all_append, Bool.and_eq_true] at h
    simp only [List.mem_cons] at hd
    rcases hd with rfl | hd
    · exact h.1
    · exact all_mem h.2 hd
theorem reach_str {H : Type} {s : ByteArray} {t : TypeId} (h : inReach (H := H) (.lit (.string s.data.toList)) t) : s.size ≤ 140737488355328 := by
  unfold inReach at h
  simp only [DataW.weights, List.all_cons, List.all_nil, Bool.and_true, decide_eq_true_eq] at h
  have e : s.data.toList.length = s.size := by rw [Array.length_toList]; rfl
  have := reachBytes_lt
  omega
theorem reach_struct {H : Type} {t : TypeId} {fs : Array Field} {parts : List (DataW H)} (hu : Tryd.prog.underlying t = some (.struct fs)) (h : inReach (.agg parts) t) : (DataW.weightsEach Tryd.prog (fs.toList.map (·.type)) parts).all (· ≤ reachBytes) = true := by
  unfold inReach at h
  simpa [DataW.weights, hu] using h
theorem reach_slice {H : Type} {t e : TypeId} {el sp : List (DataW H)} (hu : Tryd.prog.underlying t = some (.slice e)) (h : inReach (.slice el sp) t) : (DataW.weightsAll Tryd.prog e el).all (· ≤ reachBytes) = true := by
  unfold inReach at h
  simp only [DataW.weights, hu, List.all_cons, List.all_append, Bool.and_eq_true] at h
  exact h.2.1
variable {H : Type} {enc : TypeId × Value → H} {w : World} {spare : Nat → Bool} {held : Bool}
/-- As 'trod_row', of elements of which more is known. -/
theorem trod_row_s {α : Type} {d : Kd α} {Q : α → Prop} {t e : TypeId} {fuel : Nat} {cs : List Value} {x : DataW H × List MemPlace} (hT : Tryd.prog.underlying t = some (.slice e)) (hsz : Tryd.prog.cellsOf e = d.sz) (h0 : 0 < d.sz)
    (hel : ∀ n cs x, DataW.trod enc Tryd.prog w 0 spare held n e cs = some x → inReach x.1 e → ∃ y, d.K (· < w.heap.size) w y cs ∧ Q y) (h : DataW.trod enc Tryd.prog w 0 spare held fuel t cs = some x) (hw : inReach x.1 t) :
    ∃ A n c xs, cs = [.slice A n c] ∧ d.Row (· < w.heap.size) w A n c xs ∧ ∀ y ∈ xs, Q y := by
  rcases Go.Deep.open_slice hT h with ⟨rfl, _⟩ | ⟨a, len, cap, m, n, D, Pl, rfl, _, hl, hm, hmm, rfl, hi⟩
  · exact ⟨_, _, _, [], rfl, .nil _ _ _ _ _ (Nat.zero_le _), by simp⟩
  · have hlm : len ≤ m := by rw [hmm]; split <;> omega
    have hE := reach_slice hT hw
    rcases Nat.eq_zero_or_pos len with hz | hpos
    · subst hz
      exact ⟨_, _, _, [], rfl, .nil _ _ _ _ _ hm, by simp⟩
    have hc0 : ∀ i, i < len → ∃ y, ∃ cs', Tryd.prog.cellsOf e = cs'.length ∧ w.cells? 0 (a.add (i * Tryd.prog.cellsOf e)) (Tryd.prog.cellsOf e) = some cs' ∧ d.K (· < w.heap.size) w y cs' ∧ Q y := fun i hil => by
      obtain ⟨cs', hcs, htr⟩ := hi i (by omega)
      obtain ⟨y, hy, hq⟩ := hel _ _ _ htr (all_mem hE (List.mem_map.2 ⟨i, by simpa using hil, rfl⟩))
      obtain ⟨_, hcl, _⟩ := World.cells?_some hcs
      exact ⟨y, cs', hcl.symm, hcs, hy, hq⟩
    have hsp : a.spot = none ∧ a.block < w.heap.size := by
      obtain ⟨y, cs', hcl0, hcs, hy, _⟩ := hc0 0 hpos
      obtain ⟨_, hcl, hat⟩ := World.cells?_some hcs
      have hp : 0 < cs'.length := by rw [hcl, hsz]; exact h0
      have hg : w.cell? a = some (cs'[0]'(by omega)) := by
        have := (hat 0 (by omega)).trans (List.getElem?_eq_getElem (by omega))
        simpa [Addr.add] using this
      exact ⟨World.cell?_spot hg, World.block_lt_of_cell? w _ hg⟩
    obtain ⟨b, o, sp⟩ := a
    obtain ⟨rfl, hlt⟩ := hsp
    have hc : ∀ i, i < len → ∃ y, ∃ cs, (d.K (· < w.heap.size) w y cs ∧ w.rangeAt b (o + i * d.sz) cs) ∧ Q y := fun i hil => by
      obtain ⟨y, cs', _, hcs, hy, hq⟩ := hc0 i hil
      obtain ⟨_, hcl, hat⟩ := World.cells?_some hcs
      rw [hsz] at hcl hat
      refine ⟨y, cs', ⟨hy, fun j v hv => ?_⟩, hq⟩
      have := hat j (by rw [← hcl]; exact (List.getElem?_eq_some_iff.1 hv).1)
      rw [hv, Addr.add_none, Addr.add_none] at this
      exact this
    obtain ⟨xs, hxl, hx⟩ := list_of len hc
    exact ⟨_, _, _, xs, rfl, ⟨hxl, hl, hm, fun hn => ⟨b, o, rfl, hlt, hlt, fun i x hix => let ⟨cs, hq, _⟩ := hx i x hix; ⟨cs, hq⟩⟩⟩, fun y hy => by
      obtain ⟨i, hi', rfl⟩ := List.mem_iff_getElem.1 hy
      obtain ⟨cs, _, hq⟩ := hx i _ (List.getElem?_eq_getElem hi')
      exact hq⟩
theorem str_open_s (n : Nat) (cs : List Value) (x : DataW H × List MemPlace) (h : DataW.trod enc Tryd.prog w 0 spare held n 9 cs = some x) (hw : inReach x.1 9) :
    ∃ y : ByteArray, kStr.K (· < w.heap.size) w y cs ∧ y.size ≤ 140737488355328 := by
  obtain ⟨s, rfl, e, hm⟩ := DataW.trod_string Tryd.underlying9 h
  rw [e] at hw
  exact ⟨s, ⟨rfl, hm⟩, reach_str hw⟩
end Go.Proofs.YtdkeflhgengblaaDoor
namespace Go.Proofs.YtdkeflhgengblaaDoor
open Go.ChangeShapes Go.WideShapes Go.ChangeAt Go.RowKit

theorem open_cav_s {H : Type} {enc : TypeId × Value → H} {w : World} {spare : Nat → Bool} {held : Bool} (n : Nat) (cs : List Value) (x : DataW H × List MemPlace) (h : DataW.trod enc Tryd.prog w 0 spare held n 83 cs = some x) (hw : inReach x.1 83) :
    ∃ y, kCav.K (· < w.heap.size) w y cs ∧ y.fits := by
  obtain ⟨y, hy⟩ := open_cav n cs x h
  refine ⟨y, hy, ?_⟩
  obtain ⟨xs, m, rfl, rfl, hl, hx, hf⟩ := DataW.trod_struct Tryd.underlying83 h
  have hxs : xs.length = 5 := hx
  have hE := reach_struct Tryd.underlying83 hw
  have hcs := hy.1
  have c9 : Tryd.prog.cellsOf 9 = 1 := by kernel_rfl
  have h1 := hf 1 _ rfl
  have h3 := hf 3 _ rfl
  have h4 := hf 4 _ rfl
  rw [List.getElem?_eq_getElem (by omega)] at h1 h3 h4
  obtain ⟨s1, e1, x1, -⟩ := DataW.trod_string Tryd.underlying9 h1
  obtain ⟨s3, e3, x3, -⟩ := DataW.trod_string Tryd.underlying9 h3
  obtain ⟨s4, e4, x4, -⟩ := DataW.trod_string Tryd.underlying9 h4
  simp [c9, hcs, Cav.cells] at e1 e3 e4
  have g1 := each_part (j := 1) (t := 9) (d := xs[1].1) hE rfl (by rw [List.getElem?_map, List.getElem?_eq_getElem (by omega)]; rfl)
  have g3 := each_part (j := 3) (t := 9) (d := xs[3].1) hE rfl (by rw [List.getElem?_map, List.getElem?_eq_getElem (by omega)]; rfl)
  have g4 := each_part (j := 4) (t := 9) (d := xs[4].1) hE rfl (by rw [List.getElem?_map, List.getElem?_eq_getElem (by omega)]; rfl)
  rw [x1] at g1
  rw [x3] at g3
  rw [x4] at g4
  exact ⟨by rw [e1]; exact reach_str g1, by rw [e3]; exact reach_str g3, by rw [e4]; exact reach_str g4⟩
variable {H : Type} {enc : TypeId × Value → H} {w : World} {spare : Nat → Bool} {held : Bool}
theorem open_tok_s (n : Nat) (cs : List Value) (x : DataW H × List MemPlace) (h : DataW.trod enc Tryd.prog w 0 spare held n 44 cs = some x) (hw : inReach x.1 44) :
    ∃ (t : Tok) (A : Option Addr) (l c : Nat), cs = (tokC (.int .u64 (t.key : Int)) (.string t.id) (.slice A l c) (.bool t.bnd) t.tag).toList ∧ kCav.Row (· < w.heap.size) w A l c t.cavs ∧ t.key < 18446744073709551616 ∧ t.id.size ≤ 140737488355328 ∧ ∀ c ∈ t.cavs, c.fits := by
  obtain ⟨t, A, l, c, e, hr, hk, -⟩ := open_tok n cs x h
  obtain ⟨xs, m, rfl, rfl, hl, hx, hf⟩ := DataW.trod_struct Tryd.underlying44 h
  have hxs : xs.length = 5 := hx
  have hE := reach_struct Tryd.underlying44 hw
  have c9 : Tryd.prog.cellsOf 9 = 1 := by kernel_rfl
  have c57 : Tryd.prog.cellsOf 42 = 1 := by kernel_rfl
  have h1 := hf 1 _ rfl
  have h2 := hf 2 _ rfl
  rw [List.getElem?_eq_getElem (by omega)] at h1 h2
  obtain ⟨s1, e1, x1, -⟩ := DataW.trod_string Tryd.underlying9 h1
  have g1 := each_part (j := 1) (t := 9) (d := xs[1].1) hE rfl (by rw [List.getElem?_map, List.getElem?_eq_getElem (by omega)]; rfl)
  have g2 := each_part (j := 2) (t := 42) (d := xs[2].1) hE rfl (by rw [List.getElem?_map, List.getElem?_eq_getElem (by omega)]; rfl)
  rw [x1] at g1
  obtain ⟨A2, l2, c2, cv, e2, hr2, hq2⟩ := trod_row_s (d := kCav) (Q := Cav.fits) Tryd.underlying42 (by kernel_rfl) (by decide) open_cav_s h2 g2
  simp [c9, e, tokC] at e1
  simp [c57, e, tokC] at e2
  obtain ⟨rfl, rfl, rfl⟩ := e2
  refine ⟨⟨t.key, t.id, cv, t.bnd, t.tag⟩, A, l, c, e, hr2, hk, ?_, hq2⟩
  show t.id.size ≤ _
  rw [e1]
  exact reach_str g1
end Go.Proofs.YtdkeflhgengblaaDoor
namespace Go.Proofs.YtdkeflhgengblaaDoor
open Go.ChangeShapes Go.WideShapes Go.ChangeAt Go.RowKit

set_option maxRecDepth 100000 in
set_option maxHeartbeats 2000000 in
theorem recipeGoesOn_lifted (os : Os) (started : os.Started) (H : Type) (enc : TypeId × Value → H) :
    ReturnsInHanded {} Tryd.checked os 10 .any (fun w args => (Rows.recipeGoesOnSpec.pre enc Tryd.prog Tryd.f10 [] false w args ∧ laidMetH Tryd.prog laidD w) ∧ sizedMet enc Tryd.prog Tryd.f10 (OpenSpec.ofChange Rows.recipeGoesOnSpec) false w args)
      (Rows.recipeGoesOnSpec.post enc Tryd.prog Tryd.f10 false true false false) := by
  refine returnsInHanded_of_change_and (C := Tryd.checked) (X := fun w _ => laidMetH Tryd.prog laidD w) (fun _ _ _ hh h => h.of_heap hh) ownKnobD started (by kernel_rfl) Tryd.func10
    (ChangeSpec.witness_shaped (enc := enc) (C := Tryd.checked) (os := os) (X := fun w _ => laidMetH Tryd.prog laidD w) false (World.doorLaid Tryd.prog 400 os) #[.agg #[.int .u64 0, .string ByteArray.empty, .slice none 0 0, .bool false, .int .u8 0, .int .u8 0, .int .u8 0, .int .u8 0, .int .u8 0, .int .u8 0, .int .u8 0, .int .u8 0, .int .u8 0, .int .u8 0, .int .u8 0, .int .u8 0, .int .u8 0, .int .u8 0, .int .u8 0, .int .u8 0, .int .u8 0, .int .u8 0, .int .u8 0, .int .u8 0, .int .u8 0, .int .u8 0, .int .u8 0, .int .u8 0, .int .u8 0, .int .u8 0, .int .u8 0, .int .u8 0, .int .u8 0, .int .u8 0, .int .u8 0, .int .u8 0], .agg #[.bool false, .string ByteArray.empty, .int .u64 0, .string ByteArray.empty, .string ByteArray.empty]] 8 rfl (World.shaped_of_RefB (by kernel_rfl) (by kernel_rfl)) (by kernel_rfl) (by kernel_rfl) (by kernel_rfl) (door_met os _)) ?_
  intro W base args ds gs before hval0 hW _ hwt hL _
  have hval : ∀ (j : Nat) t v, Tryd.f10.params[j]? = some t → args[j]? = some v → Value.okWide Tryd.prog W .any base t v := hval0
  have hW' := hW
  obtain ⟨p, q, hA0, hV, rfl, hfz, hnd⟩ := hW
  have hA : DataW.TrodAll enc Tryd.prog W 0 (fun _ => true) true Tryd.f10.params.toList args.toList ds p := hA0
  have hw2 : (DataW.weightsEach Tryd.prog (Tryd.f10.params.toList ++ Rows.recipeGoesOnSpec.plain.varTypes Tryd.prog) (ds ++ gs)).all (· ≤ reachBytes) = true := hwt
  rw [Tryd.params10] at hA hval hw2
  obtain ⟨v0, v1, d0, d1, p0, p1, rfl, rfl, rfl, ⟨n0, h0⟩, ⟨n1, h1⟩⟩ := trodAll_two hA
  obtain ⟨rfl, rfl⟩ := trodVars_none hV
  have g0 := each_part (j := 0) (t := 44) (d := d0) hw2 rfl rfl
  have g1 := each_part (j := 1) (t := 83) (d := d1) hw2 rfl rfl
  obtain ⟨C0, rfl, -⟩ := okWide_struct Tryd.underlying44 (hval 0 44 v0 rfl rfl)
  obtain ⟨t, A0, l0, c0, e0, hr0, hk0, hi0, hf0⟩ := open_tok_s _ _ _ h0 g0
  obtain rfl := Array.toList_inj.1 (show C0.toList = _ from e0)
  obtain ⟨C1, rfl, -⟩ := okWide_struct Tryd.underlying83 (hval 1 83 v1 rfl rfl)
  obtain ⟨x, ⟨e1, -, hp1, -, -⟩, -⟩ := open_cav_s _ _ _ h1 g1
  obtain rfl := Array.toList_inj.1 (show C1.toList = (#[.bool x.third, .string x.text, .int .u64 (x.party : Int), .string x.id, .string x.vault] : Array Value).toList from e1)
  have hP := primes_of hL
  clear hA0 hval0 h0 h1
  refine (c_goeson t x A0 l0 c0 _ W hr0 hk0 hp1 hP).mono fun e W' ⟨he, hg⟩ => ?_
  subst he
  exact ⟨_, rfl, post_true laidOutD (by kernel_rfl) (by kernel_rfl) Tryd.underlying4 rfl hW' rfl hg⟩

theorem recipeGoesOn_row : Rows.RecipeGoesOnSaid :=
  OpenClaim.holds_of_wide 10 Tryd.f10 rfl rfl rfl rfl rfl rfl rfl ⟨rfl, rfl, rfl, rfl, rfl⟩ rfl rfl rfl rfl rfl (by kernel_rfl) Tryd.func10 (by kernel_rfl)
    (of_decide_eq_true (by kernel_rfl)) (by unfold Func.isWrapper; first | (rw [if_pos (by decide +kernel)]; kernel_rfl) | (rw [if_neg (by decide +kernel)]; exact ⟨rfl, rfl⟩))
    (fun os started H enc _ => recipeGoesOn_lifted os started H enc)
theorem recipeGoesOn_proved : Rows.RecipeGoesOnCardSaid :=
  Claim7.holds_tied_plain_at .later [] [.data] true (true, "d317ab1675fa3a16e363678a6185963307d92010002b8084dbffbaf3b4b18b17") false
    recipeGoesOn_row (fun _ h => by cases h) (by kernel_rfl) (fun _ h => by cases h) recipeGoesOn_row_tie rfl ⟨rfl, rfl⟩ (by kernel_rfl) rfl
    (fun f fn hf hfn => by
      obtain rfl : f = 10 := Option.some.inj ((show Tryd.prog.funcNamed "chitty/chittylaw26.RecipeGoesOn" = some 10 by kernel_rfl).symm.trans hf) |>.symm
      obtain rfl : fn = Tryd.f10 := (Option.some.inj (Tryd.func10.symm.trans hfn)).symm
      exact ⟨by kernel_rfl, fun j t ht => by
        rw [Tryd.params10] at ht
        have hm : t ∈ [44, 83] := by simpa using Array.mem_of_getElem? ht
        have hall : ([44, 83].all fun u => !Tryd.prog.wantsStandIn u) = true := by kernel_rfl
        exact (show Tryd.prog.wantsStandIn t = false by simpa using List.all_eq_true.1 hall t hm)⟩)
    (by kernel_rfl)
end Go.Proofs.YtdkeflhgengblaaDoor
