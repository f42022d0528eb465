/- The statement BindTells, for every input, and its tied card. No condition. -/
import Derived.Test.YtdkeflhgengblaaDoorBnc
import Derived.Test.YtdkeflhgengblaaDoorBnb
import Derived.Test.YtdkeflhgengblaaDoorBna
import Derived.SizedLaws
import Derived.Test.YtdkeflhgengblaaDoorRows
import Derived.Test.YtdkeflhgengblaaDoorTie
import Derived.Test.YtdkeflhgengblaaDoorCards
import Derived.SevenTiedAt
namespace Go.Proofs.YtdkeflhgengblaaDoor
open Go.RowKit
attribute [local go_sem ↓] ld8 ld32 ld64 ld73
attribute [local go_sem] run_ldAgg run_storeAgg agg_alloc_at agg_alloc_past agg_drew agg_setCell row_alloc_at row_alloc_past row_drew setRow_alloc_at setRow_alloc_past setRow_drew agg_setRow_at agg_setRow_far cell_setRow_at cell_setRow_far row_setRow_far size_setRow s8C_size s8C_part s8C_one s8C_splice0 s8C_ne dgC_size dgC_72 dgC_part dgC_h dgC_r dgC_splice_h dgC_set dgC_one dgC_splice0 dgC_ne zero_dg
attribute [local go_sem] tgC_size tgC_one tgC_part tgC_splice tgC_splice_any zero_tg tgC_ne
attribute [local go_sem ↓] ld36
attribute [local go_sem] tokC_size tokC_0 tokC_1 tokC_2 tokC_3 tokC_g0 tokC_g1 tokC_g2 tokC_g3 tokC_part tokC_tag tokC_set0 tokC_set1 tokC_set2 tokC_set3 tokC_splice tokC_splice0 zero_tok tokC_all tokC_ne

/-- Does a discharge fit? -/
def fitsB (root en : Tg) (d : Tok) : Bool := if d.bnd = true then decide (d.tag = bindT root en) else decide (d.tag = en)
theorem tg_l {t u : Tg} : decide (t.l = u.l) = decide (u = t) := by
  have : t.l = u.l ↔ u = t := by
    constructor
    · intro h; cases t; cases u; simp_all
    · rintro rfl; rfl
  simp only [this]
set_option maxRecDepth 100000 in
set_option maxHeartbeats 800000 in
theorem c_fits (root en : Tg) (d : Tok) (A : Option Addr) (n c : Nat) (w : World) (hP : PrimesAt w) :
    Calls Tryd.prog 31 #[tgV root, tgV en, tokV d A n c] w fun e w' => e = .returned (.bool (fitsB root en d)) ∧ Below w.heap.size w w' := by
  obtain ⟨key, id, cavs, bnd, tag⟩ := d
  have hw0 := hP.1
  have HP := hide hP
  clear hP
  obtain ⟨q, hq⟩ : ∃ q, fitsB root en ⟨key, id, cavs, bnd, tag⟩ = q := ⟨_, rfl⟩
  have HF := hide hq
  cases bnd with
  | false =>
    have HQ : Hid (decide (en.l = tag.l) = q) := hide (by rw [← hq, tg_l]; rfl)
    clear hq
    obtain ⟨W3, hW3⟩ : ∃ W3, W3 = ((w.alloc (.cells (tgC root) 29)).alloc (.cells (tgC en) 29)).alloc (.cells (tokC (.int .u64 (key : Int)) (.string id) (.slice A n c) (.bool false) tag) 44) := ⟨_, rfl⟩
    obtain ⟨g0, g1, g2⟩ := heap3g w (tgC root) (tgC en) (tokC (.int .u64 (key : Int)) (.string id) (.slice A n c) (.bool false) tag) 29 29 44
    rw [← hW3] at g0 g1 g2
    have hs3 : W3.heap.size = w.heap.size + 3 := by rw [hW3]; simp only [World.size_alloc]
    have HB3 : Hid (Below w.heap.size w W3) := hide (by rw [hW3]; exact below3 _ _ _ _)
    have hb1 : W3.cell? ⟨w.heap.size + 2, 3, none⟩ = some (.bool false) := (cell_of_row W3 _ _ _ _ _ g2).trans (tokC_3 _ _ _ _ _)
    have G0 := hide g0
    have G1 := hide g1
    have G2 := hide g2
    clear g0 g1 g2
    have HE := hide (tag_row en G1.out)
    have HTR := hide (tok_row G2.out)
    go_enter Tryd.func31, Tryd.ntmps31
    go_wp2_with ((with_reducible show wpList _ _ _ (Oper.mk (some 7) _ _ _ _ _ :: _) _ _); rw [← hW3]; clear hW3)
    try rw [← hW3]
    try clear hW3
    refine wp_region_ext mixed 4 (fun i v w' => match i with
      | 0 => v = .slice (some ⟨w.heap.size + 1, 0, none⟩) 32 32
      | 1 => v = .pointer (some ⟨w.heap.size + 2, 4, none⟩)
      | 2 => v = .slice (some ⟨w.heap.size + 2, 4, none⟩) 32 32
      | _ => v = .bool q
      ) (regOk_of (by kernel_rfl)) rfl ?_ ?_ ?_
    · intro i v w1 w2 h1 h2
      split at h2 <;> exact h2
    · refine ⟨fun a w2 hle hd hf hs K hK => ?_, fun a w2 hle hd hf hs K hK => ?_, fun a w2 hle hd hf hs K hK => ?_, fun a w2 hle hd hf hs K hK => ?_, trivial⟩
      all_goals clear hd
      · -- 12 := Op.slice 29 t4 none none none
        have e4 := hf 4 rfl; simp [Act.eval] at e4
        go_simp; exact hK _ _ (Ext.refl _) rfl
      · -- 13 := Op.fieldAddr 44 t5 4
        have e5 := hf 5 rfl; simp [Act.eval] at e5
        go_simp; exact hK _ _ (Ext.refl _) rfl
      · -- 14 := Op.slice 29 t13 none none none
        have e13 := hs 1 13 (needs_direct (by kernel_rfl)) rfl; simp [Act.eval] at e13
        go_simp; exact hK _ _ (Ext.refl _) rfl
      · -- 15 := Op.call { value (Operand.func 78), args := #[t12, t14], argTypes := #[22, 22] }
        have e12 := hs 0 12 (needs_direct (by kernel_rfl)) rfl; have e14 := hs 2 14 (needs_direct (by kernel_rfl)) rfl; simp [Act.eval] at e12 e14
        go_simp
        refine (c_tagequal _ _ 32 32 32 32 _ _ _ _ w2 (HE.out.below hle) (HTR.out.below hle)).mono ?_
        rintro z w9 ⟨rfl, b9⟩
        rw [HQ.out]
        exact hK _ _ b9 rfl
    intro vs w8 hle hs
    have v3 := hs 3 (by omega) rfl
    simp only at v3
    clear hs
    have HB9 := hide (HB3.out.trans (hle.mono (by omega)))
    clear hle
    simp only [putN, dstAt]
    go_simp
    go_wp2_with fail
    go_ret
    exact ⟨by rw [HF.out]; rfl, HB9.out⟩
  | true =>
    obtain ⟨t, ht⟩ : ∃ t, bindT root en = t := ⟨_, rfl⟩
    have HT := hide ht
    have HQ : Hid (decide (t.l = tag.l) = q) := hide (by rw [← hq, tg_l, ← ht]; rfl)
    clear hq ht
    obtain ⟨W3, hW3⟩ : ∃ W3, W3 = ((w.alloc (.cells (tgC root) 29)).alloc (.cells (tgC en) 29)).alloc (.cells (tokC (.int .u64 (key : Int)) (.string id) (.slice A n c) (.bool true) tag) 44) := ⟨_, rfl⟩
    obtain ⟨g0, g1, g2⟩ := heap3g w (tgC root) (tgC en) (tokC (.int .u64 (key : Int)) (.string id) (.slice A n c) (.bool true) tag) 29 29 44
    rw [← hW3] at g0 g1 g2
    have hs3 : W3.heap.size = w.heap.size + 3 := by rw [hW3]; simp only [World.size_alloc]
    have HB3 : Hid (Below w.heap.size w W3) := hide (by rw [hW3]; exact below3 _ _ _ _)
    have hb1 : W3.cell? ⟨w.heap.size + 2, 3, none⟩ = some (.bool true) := (cell_of_row W3 _ _ _ _ _ g2).trans (tokC_3 _ _ _ _ _)
    have G0 := hide g0
    have G1 := hide g1
    have G2 := hide g2
    clear g0 g1 g2
    have hag1 : agg? W3 ⟨w.heap.size, 0, none⟩ 32 = some (tgC root) := (agg_of_row G0.out 0 32 (by decide)).trans (tgC_part root)
    have hag2 : agg? W3 ⟨w.heap.size + 1, 0, none⟩ 32 = some (tgC en) := (agg_of_row G1.out 0 32 (by decide)).trans (tgC_part en)
    have HP3 := hide (HP.out.ext HB3.out)
    go_enter Tryd.func31, Tryd.ntmps31
    go_wp2_with ((with_reducible show wpList _ _ _ (Oper.mk (some 7) _ _ _ _ _ :: _) _ _); rw [← hW3]; clear hW3)
    try rw [← hW3]
    try clear hW3
    refine (c_btag root en W3 HP3.out).mono ?_
    rintro e w5 ⟨rfl, b5⟩
    rw [HT.out]
    obtain ⟨W6, hW6⟩ : ∃ W6, W6 = w5.setRow (w.heap.size + 1) (tgC t) := ⟨_, rfl⟩
    have k1 := (b5.block _ (by omega)).trans G1.out
    have k2 := (b5.block _ (by omega)).trans G2.out
    have hrz := row_of k1
    have hs5 := b5.size
    have HE : Hid (kU8.Row (fun _ => True) W6 (some ⟨w.heap.size + 1, 0, none⟩) 32 32 t.l) := hide (tag_row t (T := 29) (by rw [hW6]; exact setRow_heap w5 (w.heap.size + 1) (tgC en) (tgC t) 29 _ k1))
    have HTR : Hid (kU8.Row (fun _ => True) W6 (some ⟨w.heap.size + 2, 4, none⟩) 32 32 tag.l) := hide (tok_row (T := 44) (fr := (0, 0)) (by rw [hW6, heap_setRow_far _ _ _ (by omega)]; exact k2))
    have HB6 : Hid (Below w.heap.size w W6) := hide (by rw [hW6]; exact bsetRow (HB3.out.trans (b5.mono (by omega))) (Nat.le_succ _) _)
    have hs6 : W6.heap.size = w5.heap.size := by rw [hW6, size_setRow]
    clear k1 k2 b5 hag1 hag2
    go_wp2_with fail
    rw [← hW6]
    clear hW6
    refine wp_region_ext mixed 4 (fun i v w' => match i with
      | 0 => v = .slice (some ⟨w.heap.size + 1, 0, none⟩) 32 32
      | 1 => v = .pointer (some ⟨w.heap.size + 2, 4, none⟩)
      | 2 => v = .slice (some ⟨w.heap.size + 2, 4, none⟩) 32 32
      | _ => v = .bool q
      ) (regOk_of (by kernel_rfl)) rfl ?_ ?_ ?_
    · intro i v w1 w2 h1 h2
      split at h2 <;> exact h2
    · refine ⟨fun a w2 hle hd hf hs K hK => ?_, fun a w2 hle hd hf hs K hK => ?_, fun a w2 hle hd hf hs K hK => ?_, fun a w2 hle hd hf hs K hK => ?_, trivial⟩
      all_goals clear hd
      · -- 12 := Op.slice 29 t4 none none none
        have e4 := hf 4 rfl; simp [Act.eval] at e4
        go_simp; exact hK _ _ (Ext.refl _) rfl
      · -- 13 := Op.fieldAddr 44 t5 4
        have e5 := hf 5 rfl; simp [Act.eval] at e5
        go_simp; exact hK _ _ (Ext.refl _) rfl
      · -- 14 := Op.slice 29 t13 none none none
        have e13 := hs 1 13 (needs_direct (by kernel_rfl)) rfl; simp [Act.eval] at e13
        go_simp; exact hK _ _ (Ext.refl _) rfl
      · -- 15 := Op.call { value (Operand.func 78), args := #[t12, t14], argTypes := #[22, 22] }
        have e12 := hs 0 12 (needs_direct (by kernel_rfl)) rfl; have e14 := hs 2 14 (needs_direct (by kernel_rfl)) rfl; simp [Act.eval] at e12 e14
        go_simp
        refine (c_tagequal _ _ 32 32 32 32 _ _ _ _ w2 (HE.out.below hle) (HTR.out.below hle)).mono ?_
        rintro z w9 ⟨rfl, b9⟩
        rw [HQ.out]
        exact hK _ _ b9 rfl
    intro vs w8 hle hs
    have v3 := hs 3 (by omega) rfl
    simp only at v3
    clear hs
    have HB9 := hide (HB6.out.trans (hle.mono (by omega)))
    clear hle
    simp only [putN, dstAt]
    go_simp
    go_wp2_with fail
    go_ret
    exact ⟨by rw [HF.out]; rfl, HB9.out⟩
set_option maxRecDepth 100000 in
set_option maxHeartbeats 800000 in
theorem c_rfits (root en : Tg) (d : Tok) (A : Option Addr) (n c : Nat) (w : World) :
    Calls Tryd.prog 32 #[tgV root, tgV en, tokV d A n c] w fun e w' => e = .returned (.bool (fitsB root en d)) ∧ Below w.heap.size w w' := by
  obtain ⟨key, id, cavs, bnd, tag⟩ := d
  obtain ⟨q, hq⟩ : ∃ q, fitsB root en ⟨key, id, cavs, bnd, tag⟩ = q := ⟨_, rfl⟩
  have HF := hide hq
  cases bnd with
  | false =>
    have HQ : Hid (decide (tag = en) = q) := hide (by rw [← hq]; rfl)
    clear hq
    obtain ⟨W3, hW3⟩ : ∃ W3, W3 = ((w.alloc (.cells (tgC root) 29)).alloc (.cells (tgC en) 29)).alloc (.cells (tokC (.int .u64 (key : Int)) (.string id) (.slice A n c) (.bool false) tag) 44) := ⟨_, rfl⟩
    obtain ⟨g0, g1, g2⟩ := heap3g w (tgC root) (tgC en) (tokC (.int .u64 (key : Int)) (.string id) (.slice A n c) (.bool false) tag) 29 29 44
    rw [← hW3] at g0 g1 g2
    have hs3 : W3.heap.size = w.heap.size + 3 := by rw [hW3]; simp only [World.size_alloc]
    have HB3 : Hid (Below w.heap.size w W3) := hide (by rw [hW3]; exact below3 _ _ _ _)
    have hb1 : W3.cell? ⟨w.heap.size + 2, 3, none⟩ = some (.bool false) := (cell_of_row W3 _ _ _ _ _ g2).trans (tokC_3 _ _ _ _ _)
    have G0 := hide g0
    have G1 := hide g1
    have G2 := hide g2
    clear g0 g1 g2
    go_enter Tryd.func32, Tryd.ntmps32
    go_wp2_with ((with_reducible show wpList _ _ _ (Oper.mk (some 7) _ _ _ _ _ :: _) _ _); rw [← hW3]; clear hW3)
    try rw [← hW3]
    try clear hW3
    cases q with
    | true =>
      refine wp_region_ext mixed 21 (fun i v w' => match i with
        | 0 => v = .pointer (some ⟨w.heap.size + 2, 3, none⟩)
        | 1 => v = .bool false
        | 2 => v = .bool true
        | 3 => v = .bool true
        | 4 => v = .pointer (some ⟨w.heap.size + 2, 4, none⟩)
        | 5 => v = tgV tag
        | 6 => v = tgV en
        | 7 => v = .bool true
        | 8 => v = .bool true
        | 9 => v = .bool true
        | 10 => v = undef
        | 11 => v = undef
        | 12 => v = undef
        | 13 => v = undef
        | 14 => v = undef
        | 15 => v = undef
        | 16 => v = undef
        | 17 => v = undef
        | 18 => v = undef
        | 19 => v = undef
        | _ => v = .bool true
        ) (regOk_of (by kernel_rfl)) rfl ?_ ?_ ?_
      · intro i v w1 w2 h1 h2
        split at h2 <;> exact h2
      · refine ⟨fun a w2 hle hd hf hs K hK => ?_, fun a w2 hle hd hf hs K hK => ?_, fun a w2 hle hd hf hs K hK => ?_, fun a w2 hle hd hf hs K hK => ?_, fun a w2 hle hd hf hs K hK => ?_, fun a w2 hle hd hf hs K hK => ?_, fun a w2 hle hd hf hs K hK => ?_, fun a w2 hle hd hf hs K hK => ?_, fun a w2 hle hd hf hs K hK => ?_, fun a w2 hle hd hf hs K hK => ?_, fun a w2 hle hd hf hs K hK => ?_, fun a w2 hle hd hf hs K hK => ?_, fun a w2 hle hd hf hs K hK => ?_, fun a w2 hle hd hf hs K hK => ?_, fun a w2 hle hd hf hs K hK => ?_, fun a w2 hle hd hf hs K hK => ?_, fun a w2 hle hd hf hs K hK => ?_, fun a w2 hle hd hf hs K hK => ?_, fun a w2 hle hd hf hs K hK => ?_, fun a w2 hle hd hf hs K hK => ?_, fun a w2 hle hd hf hs K hK => ?_, trivial⟩
        all_goals clear hd
        · -- 7 := Op.fieldAddr 44 t5 3
          have e5 := hf 5 rfl; simp [Act.eval] at e5
          go_simp; exact hK _ _ (Ext.refl _) rfl
        · -- 8 := Op.load 4 t7
          have e7 := hs 0 7 (needs_direct (by kernel_rfl)) rfl; simp [Act.eval] at e7
          have hq : w2.cell? ⟨w.heap.size + 2, 3, none⟩ = some (.bool false) := (cell_of_row w2 _ _ _ _ _ (hle.heap G2.out)).trans (tokC_3 _ _ _ _ _)
          go_simp; exact hK _ _ (Ext.refl _) rfl
        · -- 9 := Op.unOp UnOp.not 4 t8
          have e8 := hs 1 8 (needs_direct (by kernel_rfl)) rfl; simp [Act.eval] at e8
          go_simp; exact hK _ _ (Ext.refl _) rfl
        · -- 10 := Op.move t9
          have e9 := hs 2 9 (needs_direct (by kernel_rfl)) rfl; simp [Act.eval] at e9
          go_simp; exact hK _ _ (Ext.refl _) rfl
        · -- 11 := Op.fieldAddr 44 t5 4
          have e5 := hf 5 rfl; have gg := hs 3 10 (needs_direct (by kernel_rfl)) rfl; simp [Act.eval] at e5 gg; replace gg := opt_bool gg
          go_simp; exact hK _ _ (Ext.refl _) rfl
        · -- 12 := Op.load 29 t11
          have e11 := hs 4 11 (needs_direct (by kernel_rfl)) rfl; have gg := hs 3 10 (needs_direct (by kernel_rfl)) rfl; simp [Act.eval] at e11 gg; replace gg := opt_bool gg
          have hq : agg? w2 ⟨w.heap.size + 2, 4, none⟩ 32 = some (tgC tag) := (agg_of_row (hle.heap G2.out) 4 32 (by decide)).trans (tokC_tag _ _ _ _ _)
          go_simp; exact hK _ _ (Ext.refl _) rfl
        · -- 13 := Op.load 29 t4
          have e4 := hf 4 rfl; have gg := hs 3 10 (needs_direct (by kernel_rfl)) rfl; simp [Act.eval] at e4 gg; replace gg := opt_bool gg
          have hq : agg? w2 ⟨w.heap.size + 1, 0, none⟩ 32 = some (tgC en) := (agg_of_row (hle.heap G1.out) 0 32 (by decide)).trans (tgC_part en)
          go_simp; exact hK _ _ (Ext.refl _) rfl
        · -- 14 := Op.binOp BinOp.eql 29 t12 t13 29
          have e12 := hs 5 12 (needs_direct (by kernel_rfl)) rfl; have e13 := hs 6 13 (needs_direct (by kernel_rfl)) rfl; have gg := hs 3 10 (needs_direct (by kernel_rfl)) rfl; simp [Act.eval] at e12 e13 gg; replace gg := opt_bool gg
          have hq := tg_in w2 tag en
          rw [HQ.out] at hq
          go_simp; exact hK _ _ (Ext.refl _) rfl
        · -- 15 := Op.pick t10 t14 (const (Value.bool false))
          have e10 := hs 3 10 (needs_direct (by kernel_rfl)) rfl; have e14 := hs 7 14 (needs_direct (by kernel_rfl)) rfl; simp [Act.eval] at e10 e14
          go_simp; exact hK _ _ (Ext.refl _) rfl
        · -- 16 := Op.move t15
          have e15 := hs 8 15 (needs_direct (by kernel_rfl)) rfl; simp [Act.eval] at e15
          go_simp; exact hK _ _ (Ext.refl _) rfl
        · -- 17 := Op.fieldAddr 44 t5 3
          have gg := hs 9 16 (needs_direct (by kernel_rfl)) rfl; simp [Act.eval] at gg; replace gg := opt_bool gg
          go_simp; exact hK _ _ (Ext.refl _) rfl
        · -- 18 := Op.load 4 t17
          have gg := hs 9 16 (needs_direct (by kernel_rfl)) rfl; simp [Act.eval] at gg; replace gg := opt_bool gg
          go_simp; exact hK _ _ (Ext.refl _) rfl
        · -- 19 := Op.move t18
          have gg := hs 9 16 (needs_direct (by kernel_rfl)) rfl; simp [Act.eval] at gg; replace gg := opt_bool gg
          go_simp; exact hK _ _ (Ext.refl _) rfl
        · -- 20 := Op.fieldAddr 44 t5 4
          have gg := hs 12 19 (needs_direct (by kernel_rfl)) rfl; simp [Act.eval] at gg
          rcases opt_undef gg with gg | gg
          all_goals (go_simp; exact hK _ _ (Ext.refl _) rfl)
        · -- 21 := Op.load 29 t20
          have gg := hs 12 19 (needs_direct (by kernel_rfl)) rfl; simp [Act.eval] at gg
          rcases opt_undef gg with gg | gg
          all_goals (go_simp; exact hK _ _ (Ext.refl _) rfl)
        · -- 22 := Op.load 29 t3
          have gg := hs 12 19 (needs_direct (by kernel_rfl)) rfl; simp [Act.eval] at gg
          rcases opt_undef gg with gg | gg
          all_goals (go_simp; exact hK _ _ (Ext.refl _) rfl)
        · -- 23 := Op.load 29 t4
          have gg := hs 12 19 (needs_direct (by kernel_rfl)) rfl; simp [Act.eval] at gg
          rcases opt_undef gg with gg | gg
          all_goals (go_simp; exact hK _ _ (Ext.refl _) rfl)
        · -- 24 := Op.call { value (Operand.func 30), args := #[t22, t23], argTypes := #[29, 29] }
          have gg := hs 12 19 (needs_direct (by kernel_rfl)) rfl; simp [Act.eval] at gg
          rcases opt_undef gg with gg | gg
          all_goals (go_simp; exact hK _ _ (Ext.refl _) rfl)
        · -- 25 := Op.binOp BinOp.eql 29 t21 t24 29
          have gg := hs 12 19 (needs_direct (by kernel_rfl)) rfl; simp [Act.eval] at gg
          rcases opt_undef gg with gg | gg
          all_goals (go_simp; exact hK _ _ (Ext.refl _) rfl)
        · -- 26 := Op.pick t19 t25 (const (Value.bool false))
          have gg := hs 9 16 (needs_direct (by kernel_rfl)) rfl; simp [Act.eval] at gg; replace gg := opt_bool gg
          go_simp; exact hK _ _ (Ext.refl _) rfl
        · -- 27 := Op.pick t16 (const (Value.bool true)) t26
          have e16 := hs 9 16 (needs_direct (by kernel_rfl)) rfl; have e26 := hs 19 26 (needs_direct (by kernel_rfl)) rfl; simp [Act.eval] at e16 e26
          go_simp; exact hK _ _ (Ext.refl _) rfl
      intro vs w8 hle hs
      have v20 := hs 20 (by omega) rfl
      simp only at v20
      clear hs
      have HB9 := hide (HB3.out.trans (hle.mono (by omega)))
      clear hle
      simp only [putN, dstAt]
      go_simp
      go_wp2_with fail
      go_ret
      exact ⟨by rw [HF.out]; rfl, HB9.out⟩
    | false =>
      refine wp_region_ext mixed 21 (fun i v w' => match i with
        | 0 => v = .pointer (some ⟨w.heap.size + 2, 3, none⟩)
        | 1 => v = .bool false
        | 2 => v = .bool true
        | 3 => v = .bool true
        | 4 => v = .pointer (some ⟨w.heap.size + 2, 4, none⟩)
        | 5 => v = tgV tag
        | 6 => v = tgV en
        | 7 => v = .bool false
        | 8 => v = .bool false
        | 9 => v = .bool false
        | 10 => v = .pointer (some ⟨w.heap.size + 2, 3, none⟩)
        | 11 => v = .bool false
        | 12 => v = .bool false
        | 13 => v = undef
        | 14 => v = undef
        | 15 => v = undef
        | 16 => v = undef
        | 17 => v = undef
        | 18 => v = undef
        | 19 => v = .bool false
        | _ => v = .bool false
        ) (regOk_of (by kernel_rfl)) rfl ?_ ?_ ?_
      · intro i v w1 w2 h1 h2
        split at h2 <;> exact h2
      · refine ⟨fun a w2 hle hd hf hs K hK => ?_, fun a w2 hle hd hf hs K hK => ?_, fun a w2 hle hd hf hs K hK => ?_, fun a w2 hle hd hf hs K hK => ?_, fun a w2 hle hd hf hs K hK => ?_, fun a w2 hle hd hf hs K hK => ?_, fun a w2 hle hd hf hs K hK => ?_, fun a w2 hle hd hf hs K hK => ?_, fun a w2 hle hd hf hs K hK => ?_, fun a w2 hle hd hf hs K hK => ?_, fun a w2 hle hd hf hs K hK => ?_, fun a w2 hle hd hf hs K hK => ?_, fun a w2 hle hd hf hs K hK => ?_, fun a w2 hle hd hf hs K hK => ?_, fun a w2 hle hd hf hs K hK => ?_, fun a w2 hle hd hf hs K hK => ?_, fun a w2 hle hd hf hs K hK => ?_, fun a w2 hle hd hf hs K hK => ?_, fun a w2 hle hd hf hs K hK => ?_, fun a w2 hle hd hf hs K hK => ?_, fun a w2 hle hd hf hs K hK => ?_, trivial⟩
        all_goals clear hd
        · -- 7 := Op.fieldAddr 44 t5 3
          have e5 := hf 5 rfl; simp [Act.eval] at e5
          go_simp; exact hK _ _ (Ext.refl _) rfl
        · -- 8 := Op.load 4 t7
          have e7 := hs 0 7 (needs_direct (by kernel_rfl)) rfl; simp [Act.eval] at e7
          have hq : w2.cell? ⟨w.heap.size + 2, 3, none⟩ = some (.bool false) := (cell_of_row w2 _ _ _ _ _ (hle.heap G2.out)).trans (tokC_3 _ _ _ _ _)
          go_simp; exact hK _ _ (Ext.refl _) rfl
        · -- 9 := Op.unOp UnOp.not 4 t8
          have e8 := hs 1 8 (needs_direct (by kernel_rfl)) rfl; simp [Act.eval] at e8
          go_simp; exact hK _ _ (Ext.refl _) rfl
        · -- 10 := Op.move t9
          have e9 := hs 2 9 (needs_direct (by kernel_rfl)) rfl; simp [Act.eval] at e9
          go_simp; exact hK _ _ (Ext.refl _) rfl
        · -- 11 := Op.fieldAddr 44 t5 4
          have e5 := hf 5 rfl; have gg := hs 3 10 (needs_direct (by kernel_rfl)) rfl; simp [Act.eval] at e5 gg; replace gg := opt_bool gg
          go_simp; exact hK _ _ (Ext.refl _) rfl
        · -- 12 := Op.load 29 t11
          have e11 := hs 4 11 (needs_direct (by kernel_rfl)) rfl; have gg := hs 3 10 (needs_direct (by kernel_rfl)) rfl; simp [Act.eval] at e11 gg; replace gg := opt_bool gg
          have hq : agg? w2 ⟨w.heap.size + 2, 4, none⟩ 32 = some (tgC tag) := (agg_of_row (hle.heap G2.out) 4 32 (by decide)).trans (tokC_tag _ _ _ _ _)
          go_simp; exact hK _ _ (Ext.refl _) rfl
        · -- 13 := Op.load 29 t4
          have e4 := hf 4 rfl; have gg := hs 3 10 (needs_direct (by kernel_rfl)) rfl; simp [Act.eval] at e4 gg; replace gg := opt_bool gg
          have hq : agg? w2 ⟨w.heap.size + 1, 0, none⟩ 32 = some (tgC en) := (agg_of_row (hle.heap G1.out) 0 32 (by decide)).trans (tgC_part en)
          go_simp; exact hK _ _ (Ext.refl _) rfl
        · -- 14 := Op.binOp BinOp.eql 29 t12 t13 29
          have e12 := hs 5 12 (needs_direct (by kernel_rfl)) rfl; have e13 := hs 6 13 (needs_direct (by kernel_rfl)) rfl; have gg := hs 3 10 (needs_direct (by kernel_rfl)) rfl; simp [Act.eval] at e12 e13 gg; replace gg := opt_bool gg
          have hq := tg_in w2 tag en
          rw [HQ.out] at hq
          go_simp; exact hK _ _ (Ext.refl _) rfl
        · -- 15 := Op.pick t10 t14 (const (Value.bool false))
          have e10 := hs 3 10 (needs_direct (by kernel_rfl)) rfl; have e14 := hs 7 14 (needs_direct (by kernel_rfl)) rfl; simp [Act.eval] at e10 e14
          go_simp; exact hK _ _ (Ext.refl _) rfl
        · -- 16 := Op.move t15
          have e15 := hs 8 15 (needs_direct (by kernel_rfl)) rfl; simp [Act.eval] at e15
          go_simp; exact hK _ _ (Ext.refl _) rfl
        · -- 17 := Op.fieldAddr 44 t5 3
          have e5 := hf 5 rfl; have gg := hs 9 16 (needs_direct (by kernel_rfl)) rfl; simp [Act.eval] at e5 gg; replace gg := opt_bool gg
          go_simp; exact hK _ _ (Ext.refl _) rfl
        · -- 18 := Op.load 4 t17
          have e17 := hs 10 17 (needs_direct (by kernel_rfl)) rfl; have gg := hs 9 16 (needs_direct (by kernel_rfl)) rfl; simp [Act.eval] at e17 gg; replace gg := opt_bool gg
          have hq : w2.cell? ⟨w.heap.size + 2, 3, none⟩ = some (.bool false) := (cell_of_row w2 _ _ _ _ _ (hle.heap G2.out)).trans (tokC_3 _ _ _ _ _)
          go_simp; exact hK _ _ (Ext.refl _) rfl
        · -- 19 := Op.move t18
          have e18 := hs 11 18 (needs_direct (by kernel_rfl)) rfl; have gg := hs 9 16 (needs_direct (by kernel_rfl)) rfl; simp [Act.eval] at e18 gg; replace gg := opt_bool gg
          go_simp; exact hK _ _ (Ext.refl _) rfl
        · -- 20 := Op.fieldAddr 44 t5 4
          have gg := hs 12 19 (needs_direct (by kernel_rfl)) rfl; simp [Act.eval] at gg; replace gg := opt_bool gg
          go_simp; exact hK _ _ (Ext.refl _) rfl
        · -- 21 := Op.load 29 t20
          have gg := hs 12 19 (needs_direct (by kernel_rfl)) rfl; simp [Act.eval] at gg; replace gg := opt_bool gg
          go_simp; exact hK _ _ (Ext.refl _) rfl
        · -- 22 := Op.load 29 t3
          have gg := hs 12 19 (needs_direct (by kernel_rfl)) rfl; simp [Act.eval] at gg; replace gg := opt_bool gg
          go_simp; exact hK _ _ (Ext.refl _) rfl
        · -- 23 := Op.load 29 t4
          have gg := hs 12 19 (needs_direct (by kernel_rfl)) rfl; simp [Act.eval] at gg; replace gg := opt_bool gg
          go_simp; exact hK _ _ (Ext.refl _) rfl
        · -- 24 := Op.call { value (Operand.func 30), args := #[t22, t23], argTypes := #[29, 29] }
          have gg := hs 12 19 (needs_direct (by kernel_rfl)) rfl; simp [Act.eval] at gg; replace gg := opt_bool gg
          go_simp; exact hK _ _ (Ext.refl _) rfl
        · -- 25 := Op.binOp BinOp.eql 29 t21 t24 29
          have gg := hs 12 19 (needs_direct (by kernel_rfl)) rfl; simp [Act.eval] at gg; replace gg := opt_bool gg
          go_simp; exact hK _ _ (Ext.refl _) rfl
        · -- 26 := Op.pick t19 t25 (const (Value.bool false))
          have e19 := hs 12 19 (needs_direct (by kernel_rfl)) rfl; have e25 := hs 18 25 (needs_direct (by kernel_rfl)) rfl; have gg := hs 9 16 (needs_direct (by kernel_rfl)) rfl; simp [Act.eval] at e19 e25 gg; replace gg := opt_bool gg
          go_simp; exact hK _ _ (Ext.refl _) rfl
        · -- 27 := Op.pick t16 (const (Value.bool true)) t26
          have e16 := hs 9 16 (needs_direct (by kernel_rfl)) rfl; have e26 := hs 19 26 (needs_direct (by kernel_rfl)) rfl; simp [Act.eval] at e16 e26
          go_simp; exact hK _ _ (Ext.refl _) rfl
      intro vs w8 hle hs
      have v20 := hs 20 (by omega) rfl
      simp only at v20
      clear hs
      have HB9 := hide (HB3.out.trans (hle.mono (by omega)))
      clear hle
      simp only [putN, dstAt]
      go_simp
      go_wp2_with fail
      go_ret
      exact ⟨by rw [HF.out]; rfl, HB9.out⟩
  | true =>
    obtain ⟨t, ht⟩ : ∃ t, bindT root en = t := ⟨_, rfl⟩
    have HT := hide ht
    have HQ : Hid (decide (tag = t) = q) := hide (by rw [← hq, ← ht]; rfl)
    clear hq ht
    obtain ⟨W3, hW3⟩ : ∃ W3, W3 = ((w.alloc (.cells (tgC root) 29)).alloc (.cells (tgC en) 29)).alloc (.cells (tokC (.int .u64 (key : Int)) (.string id) (.slice A n c) (.bool true) tag) 44) := ⟨_, rfl⟩
    obtain ⟨g0, g1, g2⟩ := heap3g w (tgC root) (tgC en) (tokC (.int .u64 (key : Int)) (.string id) (.slice A n c) (.bool true) tag) 29 29 44
    rw [← hW3] at g0 g1 g2
    have hs3 : W3.heap.size = w.heap.size + 3 := by rw [hW3]; simp only [World.size_alloc]
    have HB3 : Hid (Below w.heap.size w W3) := hide (by rw [hW3]; exact below3 _ _ _ _)
    have hb1 : W3.cell? ⟨w.heap.size + 2, 3, none⟩ = some (.bool true) := (cell_of_row W3 _ _ _ _ _ g2).trans (tokC_3 _ _ _ _ _)
    have G0 := hide g0
    have G1 := hide g1
    have G2 := hide g2
    clear g0 g1 g2
    go_enter Tryd.func32, Tryd.ntmps32
    go_wp2_with ((with_reducible show wpList _ _ _ (Oper.mk (some 7) _ _ _ _ _ :: _) _ _); rw [← hW3]; clear hW3)
    try rw [← hW3]
    try clear hW3
    refine wp_region_ext mixed 21 (fun i v w' => match i with
      | 0 => v = .pointer (some ⟨w.heap.size + 2, 3, none⟩)
      | 1 => v = .bool true
      | 2 => v = .bool false
      | 3 => v = .bool false
      | 4 => v = undef
      | 5 => v = undef
      | 6 => v = undef
      | 7 => v = undef
      | 8 => v = .bool false
      | 9 => v = .bool false
      | 10 => v = .pointer (some ⟨w.heap.size + 2, 3, none⟩)
      | 11 => v = .bool true
      | 12 => v = .bool true
      | 13 => v = .pointer (some ⟨w.heap.size + 2, 4, none⟩)
      | 14 => v = tgV tag
      | 15 => v = tgV root
      | 16 => v = tgV en
      | 17 => v = tgV t
      | 18 => v = .bool q
      | 19 => v = .bool q
      | _ => v = .bool q
      ) (regOk_of (by kernel_rfl)) rfl ?_ ?_ ?_
    · intro i v w1 w2 h1 h2
      split at h2 <;> exact h2
    · refine ⟨fun a w2 hle hd hf hs K hK => ?_, fun a w2 hle hd hf hs K hK => ?_, fun a w2 hle hd hf hs K hK => ?_, fun a w2 hle hd hf hs K hK => ?_, fun a w2 hle hd hf hs K hK => ?_, fun a w2 hle hd hf hs K hK => ?_, fun a w2 hle hd hf hs K hK => ?_, fun a w2 hle hd hf hs K hK => ?_, fun a w2 hle hd hf hs K hK => ?_, fun a w2 hle hd hf hs K hK => ?_, fun a w2 hle hd hf hs K hK => ?_, fun a w2 hle hd hf hs K hK => ?_, fun a w2 hle hd hf hs K hK => ?_, fun a w2 hle hd hf hs K hK => ?_, fun a w2 hle hd hf hs K hK => ?_, fun a w2 hle hd hf hs K hK => ?_, fun a w2 hle hd hf hs K hK => ?_, fun a w2 hle hd hf hs K hK => ?_, fun a w2 hle hd hf hs K hK => ?_, fun a w2 hle hd hf hs K hK => ?_, fun a w2 hle hd hf hs K hK => ?_, trivial⟩
      all_goals clear hd
      · -- 7 := Op.fieldAddr 44 t5 3
        have e5 := hf 5 rfl; simp [Act.eval] at e5
        go_simp; exact hK _ _ (Ext.refl _) rfl
      · -- 8 := Op.load 4 t7
        have e7 := hs 0 7 (needs_direct (by kernel_rfl)) rfl; simp [Act.eval] at e7
        have hq : w2.cell? ⟨w.heap.size + 2, 3, none⟩ = some (.bool true) := (cell_of_row w2 _ _ _ _ _ (hle.heap G2.out)).trans (tokC_3 _ _ _ _ _)
        go_simp; exact hK _ _ (Ext.refl _) rfl
      · -- 9 := Op.unOp UnOp.not 4 t8
        have e8 := hs 1 8 (needs_direct (by kernel_rfl)) rfl; simp [Act.eval] at e8
        go_simp; exact hK _ _ (Ext.refl _) rfl
      · -- 10 := Op.move t9
        have e9 := hs 2 9 (needs_direct (by kernel_rfl)) rfl; simp [Act.eval] at e9
        go_simp; exact hK _ _ (Ext.refl _) rfl
      · -- 11 := Op.fieldAddr 44 t5 4
        have gg := hs 3 10 (needs_direct (by kernel_rfl)) rfl; simp [Act.eval] at gg; replace gg := opt_bool gg
        go_simp; exact hK _ _ (Ext.refl _) rfl
      · -- 12 := Op.load 29 t11
        have gg := hs 3 10 (needs_direct (by kernel_rfl)) rfl; simp [Act.eval] at gg; replace gg := opt_bool gg
        go_simp; exact hK _ _ (Ext.refl _) rfl
      · -- 13 := Op.load 29 t4
        have gg := hs 3 10 (needs_direct (by kernel_rfl)) rfl; simp [Act.eval] at gg; replace gg := opt_bool gg
        go_simp; exact hK _ _ (Ext.refl _) rfl
      · -- 14 := Op.binOp BinOp.eql 29 t12 t13 29
        have gg := hs 3 10 (needs_direct (by kernel_rfl)) rfl; simp [Act.eval] at gg; replace gg := opt_bool gg
        go_simp; exact hK _ _ (Ext.refl _) rfl
      · -- 15 := Op.pick t10 t14 (const (Value.bool false))
        have e10 := hs 3 10 (needs_direct (by kernel_rfl)) rfl; have e14 := hs 7 14 (needs_direct (by kernel_rfl)) rfl; simp [Act.eval] at e10 e14
        go_simp; exact hK _ _ (Ext.refl _) rfl
      · -- 16 := Op.move t15
        have e15 := hs 8 15 (needs_direct (by kernel_rfl)) rfl; simp [Act.eval] at e15
        go_simp; exact hK _ _ (Ext.refl _) rfl
      · -- 17 := Op.fieldAddr 44 t5 3
        have e5 := hf 5 rfl; have gg := hs 9 16 (needs_direct (by kernel_rfl)) rfl; simp [Act.eval] at e5 gg; replace gg := opt_bool gg
        go_simp; exact hK _ _ (Ext.refl _) rfl
      · -- 18 := Op.load 4 t17
        have e17 := hs 10 17 (needs_direct (by kernel_rfl)) rfl; have gg := hs 9 16 (needs_direct (by kernel_rfl)) rfl; simp [Act.eval] at e17 gg; replace gg := opt_bool gg
        have hq : w2.cell? ⟨w.heap.size + 2, 3, none⟩ = some (.bool true) := (cell_of_row w2 _ _ _ _ _ (hle.heap G2.out)).trans (tokC_3 _ _ _ _ _)
        go_simp; exact hK _ _ (Ext.refl _) rfl
      · -- 19 := Op.move t18
        have e18 := hs 11 18 (needs_direct (by kernel_rfl)) rfl; have gg := hs 9 16 (needs_direct (by kernel_rfl)) rfl; simp [Act.eval] at e18 gg; replace gg := opt_bool gg
        go_simp; exact hK _ _ (Ext.refl _) rfl
      · -- 20 := Op.fieldAddr 44 t5 4
        have e5 := hf 5 rfl; have gg := hs 12 19 (needs_direct (by kernel_rfl)) rfl; simp [Act.eval] at e5 gg; replace gg := opt_bool gg
        go_simp; exact hK _ _ (Ext.refl _) rfl
      · -- 21 := Op.load 29 t20
        have e20 := hs 13 20 (needs_direct (by kernel_rfl)) rfl; have gg := hs 12 19 (needs_direct (by kernel_rfl)) rfl; simp [Act.eval] at e20 gg; replace gg := opt_bool gg
        have hq : agg? w2 ⟨w.heap.size + 2, 4, none⟩ 32 = some (tgC tag) := (agg_of_row (hle.heap G2.out) 4 32 (by decide)).trans (tokC_tag _ _ _ _ _)
        go_simp; exact hK _ _ (Ext.refl _) rfl
      · -- 22 := Op.load 29 t3
        have e3 := hf 3 rfl; have gg := hs 12 19 (needs_direct (by kernel_rfl)) rfl; simp [Act.eval] at e3 gg; replace gg := opt_bool gg
        have hq : agg? w2 ⟨w.heap.size, 0, none⟩ 32 = some (tgC root) := (agg_of_row (hle.heap G0.out) 0 32 (by decide)).trans (tgC_part root)
        go_simp; exact hK _ _ (Ext.refl _) rfl
      · -- 23 := Op.load 29 t4
        have e4 := hf 4 rfl; have gg := hs 12 19 (needs_direct (by kernel_rfl)) rfl; simp [Act.eval] at e4 gg; replace gg := opt_bool gg
        have hq : agg? w2 ⟨w.heap.size + 1, 0, none⟩ 32 = some (tgC en) := (agg_of_row (hle.heap G1.out) 0 32 (by decide)).trans (tgC_part en)
        go_simp; exact hK _ _ (Ext.refl _) rfl
      · -- 24 := Op.call { value (Operand.func 30), args := #[t22, t23], argTypes := #[29, 29] }
        have e22 := hs 15 22 (needs_direct (by kernel_rfl)) rfl; have e23 := hs 16 23 (needs_direct (by kernel_rfl)) rfl; have gg := hs 12 19 (needs_direct (by kernel_rfl)) rfl; simp [Act.eval] at e22 e23 gg; replace gg := opt_bool gg
        go_simp
        refine (c_r21tag root en w2).mono ?_
        rintro z w9 ⟨rfl, b9⟩
        rw [HT.out]
        exact hK _ _ b9 rfl
      · -- 25 := Op.binOp BinOp.eql 29 t21 t24 29
        have e21 := hs 14 21 (needs_direct (by kernel_rfl)) rfl; have e24 := hs 17 24 (needs_direct (by kernel_rfl)) rfl; have gg := hs 12 19 (needs_direct (by kernel_rfl)) rfl; simp [Act.eval] at e21 e24 gg; replace gg := opt_bool gg
        have hq := tg_in w2 tag t
        rw [HQ.out] at hq
        go_simp; exact hK _ _ (Ext.refl _) rfl
      · -- 26 := Op.pick t19 t25 (const (Value.bool false))
        have e19 := hs 12 19 (needs_direct (by kernel_rfl)) rfl; have e25 := hs 18 25 (needs_direct (by kernel_rfl)) rfl; have gg := hs 9 16 (needs_direct (by kernel_rfl)) rfl; simp [Act.eval] at e19 e25 gg; replace gg := opt_bool gg
        go_simp; exact hK _ _ (Ext.refl _) rfl
      · -- 27 := Op.pick t16 (const (Value.bool true)) t26
        have e16 := hs 9 16 (needs_direct (by kernel_rfl)) rfl; have e26 := hs 19 26 (needs_direct (by kernel_rfl)) rfl; simp [Act.eval] at e16 e26
        go_simp; exact hK _ _ (Ext.refl _) rfl
    intro vs w8 hle hs
    have v20 := hs 20 (by omega) rfl
    simp only at v20
    clear hs
    have HB9 := hide (HB3.out.trans (hle.mono (by omega)))
    clear hle
    simp only [putN, dstAt]
    go_simp
    go_wp2_with fail
    go_ret
    exact ⟨by rw [HF.out]; rfl, HB9.out⟩
end Go.Proofs.YtdkeflhgengblaaDoor
namespace Go.Proofs.YtdkeflhgengblaaDoor
open Go.RowKit
attribute [local go_sem ↓] ld8 ld32 ld64 ld73
attribute [local go_sem] run_ldAgg run_storeAgg agg_alloc_at agg_alloc_past agg_drew agg_setCell row_alloc_at row_alloc_past row_drew setRow_alloc_at setRow_alloc_past setRow_drew agg_setRow_at agg_setRow_far cell_setRow_at cell_setRow_far row_setRow_far size_setRow s8C_size s8C_part s8C_one s8C_splice0 s8C_ne dgC_size dgC_72 dgC_part dgC_h dgC_r dgC_splice_h dgC_set dgC_one dgC_splice0 dgC_ne zero_dg
attribute [local go_sem] tgC_size tgC_one tgC_part tgC_splice tgC_splice_any zero_tg tgC_ne

theorem heap4 (w : World) (a b c d : Array Value) (T E : TypeId) : (((((w.alloc (.cells a T)).alloc (.cells b T)).alloc (.cells c E)).alloc (.cells d T)).heap[w.heap.size]? = some (.cells a T)) ∧ (((((w.alloc (.cells a T)).alloc (.cells b T)).alloc (.cells c E)).alloc (.cells d T)).heap[w.heap.size + 1]? = some (.cells b T)) ∧ (((((w.alloc (.cells a T)).alloc (.cells b T)).alloc (.cells c E)).alloc (.cells d T)).heap[w.heap.size + 3]? = some (.cells d T)) := by
  refine ⟨?_, ?_, ?_⟩
  · rw [Below.heap_alloc _ _ _ (by simp only [World.size_alloc]; omega), Below.heap_alloc _ _ _ (by simp only [World.size_alloc]; omega), Below.heap_alloc _ _ _ (by simp only [World.size_alloc]; omega)]; exact heap_alloc_new _ _
  · rw [Below.heap_alloc _ _ _ (by simp only [World.size_alloc]; omega), Below.heap_alloc _ _ _ (by simp only [World.size_alloc]; omega)]
    have := heap_alloc_new (w.alloc (.cells a T)) (.cells b T)
    rwa [World.size_alloc] at this
  · have := heap_alloc_new (((w.alloc (.cells a T)).alloc (.cells b T)).alloc (.cells c E)) (.cells d T)
    rwa [World.size_alloc, World.size_alloc, World.size_alloc] at this
/-- What the loop of the document's stream keeps. -/
def RsAt (w wr : World) (G : Nat) (key nonce : Tg) (i : Nat) (v : Value) : Prop :=
  kU8.Own (fun _ => False) (w.heap.size + 2) wr 5 v (strm key nonce i) ∧ v.ownBlock ≠ some G ∧ (∃ u : Tg, wr.heap[G]? = some (.cells (tgC u) 29) ∧ (i % 32 ≠ 0 → u = sKey key nonce (i / 32))) ∧
  wr.heap[w.heap.size]? = some (.cells (tgC key) 29) ∧ wr.heap[w.heap.size + 1]? = some (.cells (tgC nonce) 29) ∧ w.heap.size + 4 ≤ wr.heap.size ∧ Below w.heap.size w wr
theorem rs_next {w W6 w11 : World} {G : Nat} {key nonce t : Tg} {k : Nat} {v v11 c : Value} {T : TypeId} (hgs : w.heap.size + 3 = G) (htt : sKey key nonce (k / 32) = t)
    (hk : W6.heap[w.heap.size]? = some (.cells (tgC key) 29)) (hn : W6.heap[w.heap.size + 1]? = some (.cells (tgC nonce) 29)) (hg : W6.heap[G]? = some (.cells (tgC t) 29)) (hs : w.heap.size + 4 ≤ W6.heap.size) (hB : Below w.heap.size w W6)
    (hv : v.ownBlock ≠ some G) (ho : kU8.Own (fun _ => True) (w.heap.size + 2) w11 5 v11 (strm key nonce (k + 1))) (b11 : Below (w.heap.size + 2) (W6.alloc (.cells #[c] T)) w11)
    (f11 : ∀ j, j < W6.heap.size + 1 → ¬ some j = v.ownBlock → w11.heap[j]? = (W6.alloc (.cells #[c] T)).heap[j]?) (o11 : v11.ownBlock = v.ownBlock ∨ ∃ j, v11.ownBlock = some j ∧ W6.heap.size + 1 ≤ j) : RsAt w w11 G key nonce (k + 1) v11 := by
  have h7 : (W6.alloc (.cells #[c] T)).heap.size = W6.heap.size + 1 := World.size_alloc _ _
  have hb : ∀ j, j < w.heap.size + 2 → w11.heap[j]? = W6.heap[j]? := fun j hj => (b11.block j hj).trans (Below.heap_alloc _ _ _ (by omega))
  refine ⟨own8 ho, ?_, ⟨t, ?_, fun h => ?_⟩, (hb _ (by omega)).trans hk, (hb _ (by omega)).trans hn, ?_, ?_⟩
  · rcases o11 with e | ⟨j, e, hj⟩
    · rw [e]; exact hv
    · rw [e]; intro e'; have := Option.some.inj e'; omega
  · exact ((f11 G (by omega) (fun e => hv e.symm)).trans (Below.heap_alloc _ _ _ (by omega))).trans hg
  · rw [← htt]; congr 1; omega
  · have := b11.size; omega
  · exact (hB.alloc (by omega) _).trans (b11.mono (by omega))
set_option maxRecDepth 100000 in
set_option maxHeartbeats 800000 in
theorem c_rstream (key nonce : Tg) (z : Int) (n : Nat) (w : World) (hz : z.toNat = n) (hn : n < 1048576) :
    Calls Tryd.prog 39 #[tgV key, tgV nonce, .int .i64 z] w fun e w' => ∃ v, e = .returned v ∧ kU8.Own (fun _ => True) w.heap.size w' 5 v (strm key nonce n) ∧ Below w.heap.size w w' := by
  have HZ := hide hz
  clear hz
  obtain ⟨W1, hW1⟩ : ∃ W1, W1 = (((w.alloc (.cells (tgC key) 29)).alloc (.cells (tgC nonce) 29)).alloc (.cells #[] 5)).alloc (.cells (tgC Tg.zero) 29) := ⟨_, rfl⟩
  obtain ⟨g1, g2, g3⟩ := heap4 w (tgC key) (tgC nonce) #[] (tgC Tg.zero) 29 5
  rw [← hW1] at g1 g2 g3
  have hs1 : W1.heap.size = w.heap.size + 4 := by rw [hW1]; simp only [World.size_alloc]
  have hO : kU8.Own (fun _ => True) (w.heap.size + 2) W1 5 (.slice (some ⟨w.heap.size + 2, 0, none⟩) 0 0) [] := by
    have := bytes_lit ((w.alloc (.cells (tgC key) 29)).alloc (.cells (tgC nonce) 29)) [] #[] rfl 0 rfl (Nat.zero_le _)
    rw [World.size_alloc, World.size_alloc] at this
    rw [hW1]
    exact this.below (below1 _ _)
  have HR0 : Hid (RsAt w W1 (w.heap.size + 3) key nonce 0 (.slice (some ⟨w.heap.size + 2, 0, none⟩) 0 0)) := hide ⟨own8 hO, (fun e => by have := Option.some.inj (show some (w.heap.size + 2) = some (w.heap.size + 3) from e); omega), ⟨Tg.zero, g3, fun h => absurd rfl h⟩, g1, g2, by omega, by rw [hW1]; exact (below3 _ _ _ _).alloc (by simp only [World.size_alloc]; omega) _⟩
  clear g1 g2 g3 hO hs1
  go_enter Tryd.func39, Tryd.ntmps39
  go_wp2_with fail
  rw [← hW1]
  clear hW1
  obtain ⟨G, hG⟩ : ∃ G, G = w.heap.size + 1 + 1 + 1 := ⟨_, rfl⟩
  rw [← hG]
  rw [show w.heap.size + 3 = G from hG.symm] at HR0
  have hGs : w.heap.size + 3 = G := hG.symm
  have HGS := hide hGs
  clear hG hGs
  go_loopw [7, 9] (fun v i wr => ∃ (k : Nat), k ≤ n ∧ i = .int .i64 (k : Int) ∧ Hid (RsAt w wr G key nonce k v)) (fun _ i _ => n - (intOf i).toNat)
  case atStart => exact ⟨0, Nat.zero_le _, rfl, HR0⟩
  case round =>
    clear HR0
    obtain ⟨k, hk, rfl, HR⟩ := hrel
    obtain ⟨hO, hown, ⟨u, hu, hu2⟩, hkc, hnc, hsz, hB⟩ := HR.out
    obtain ⟨AV, cV, hvf⟩ := hO.form
    rw [strm_len] at hvf
    rw [hvf] at hO hown ⊢
    clear HR hvf
    by_cases hlt : k < n
    · have hzn : z = (n : Int) := by have := HZ.out; omega
      subst hzn
      have hrm : (k : Int).tmod 32 = ((k % 32 : Nat) : Int) := by rw [Int.tmod_eq_emod_of_nonneg (by omega)]; omega
      have hk63 : k < 1048576 := by omega
      obtain ⟨t, htt⟩ : ∃ t, t = sKey key nonce (k / 32) := ⟨_, rfl⟩
      obtain ⟨r, hr⟩ : ∃ r, r = k % 32 := ⟨_, rfl⟩
      have hr32 : r < 32 := by omega
      obtain ⟨x, hx⟩ : ∃ x, t.l[r]? = some x := ⟨_, List.getElem?_eq_getElem (by rw [t.len]; exact hr32)⟩
      have HX : Hid (strm key nonce k ++ [x] = strm key nonce (k + 1)) := hide (strm_next key nonce (by rw [← htt, ← hr]; exact hx))
      have HTT : Hid (sKey key nonce (k / 32) = t) := hide htt.symm
      have HXX := hide hx
      rw [← hr] at hrm
      have HO := hide hO
      have HOW := hide hown
      have HB := hide hB
      by_cases h0 : r = 0
      · subst h0
        have hq0 : ((k : Int).tmod 32 == 0) = true := by rw [hrm]; rfl
        have hqd : (k : Int).tdiv 32 = ((k / 32 : Nat) : Int) := by rw [Int.tdiv_eq_ediv_of_nonneg (by omega)]; omega
        have hag1 : agg? wr ⟨w.heap.size, 0, none⟩ 32 = some (tgC key) := (agg_of_row hkc 0 32 (by decide)).trans (tgC_part key)
        have hag2 : agg? wr ⟨w.heap.size + 1, 0, none⟩ 32 = some (tgC nonce) := (agg_of_row hnc 0 32 (by decide)).trans (tgC_part nonce)
        have HU := hide hu
        have HKC := hide hkc
        have HNC := hide hnc
        clear htt hr hx hO hown hB hu2 hu hkc hnc
        go_wp2_with fail
        rw [show ((k : Int) / 32) = ((k / 32 : Nat) : Int) by omega]
        refine (c_rblock key nonce (k / 32) wr (by omega)).mono ?_
        rintro e w5 ⟨rfl, b5⟩
        rw [HTT.out]
        have hu5 := (b5.block G (by have := HGS.out; omega)).trans HU.out
        have hrz := row_of hu5
        obtain ⟨W6, hW6⟩ : ∃ W6, W6 = w5.setRow G (tgC t) := ⟨_, rfl⟩
        have hgx : (tgC t)[0]? = some (bv x) := by rw [tgC_bl]; exact blC_at _ HXX.out
        have hgz : (tgC t)[0]'(by rw [tgC_size]; decide) = bv x := by
          rw [Array.getElem?_eq_getElem (by rw [tgC_size]; decide)] at hgx
          exact Option.some.inj hgx
        have HG6 : Hid (W6.heap[G]? = some (.cells (tgC t) 29)) := hide (by rw [hW6]; exact setRow_heap w5 G (tgC u) (tgC t) 29 _ hu5)
        have hs65 : W6.heap.size = w5.heap.size := by rw [hW6, size_setRow]
        have h56 : Below G w5 W6 := by rw [hW6]; exact bsetRow (Below.refl _ _) (Nat.le_refl _) _
        have h06 : Below w.heap.size w W6 := (HB.out.trans (b5.mono (by omega))).trans (h56.mono (by have := HGS.out; omega))
        have HS6 : Hid (w.heap.size + 4 ≤ W6.heap.size) := hide (by have := b5.size; have := h56.size; omega)
        have HK6 : Hid (W6.heap[w.heap.size]? = some (.cells (tgC key) 29)) := hide ((h56.block _ (by have := HGS.out; omega)).trans ((b5.block _ (by omega)).trans HKC.out))
        have HN6 : Hid (W6.heap[w.heap.size + 1]? = some (.cells (tgC nonce) 29)) := hide ((h56.block _ (by have := HGS.out; omega)).trans ((b5.block _ (by omega)).trans HNC.out))
        have HO6 : Hid (kU8.Own (fun _ => True) (w.heap.size + 2) W6 5 (.slice AV k cV) (strm key nonce k)) := hide (own8 (HO.out.keep fun j hj hj' => by
          by_cases hjg : j = G
          · subst hjg; exact absurd (hj'.resolve_left id).symm HOW.out
          · rw [hW6, heap_setRow_far _ _ _ hjg]; exact b5.block j hj))
        have HB6 := hide h06
        clear hu5 b5 hag1 hag2 h56 h06
        have HO8 : Hid (kU8.Own (fun _ => True) (w.heap.size + 2) (W6.alloc (.cells #[bv x] 5)) 5 (.slice AV k cV) (strm key nonce k)) := hide ((own8 HO6.out).below (below1 _ _))
        go_wp2_with (at_builtin; (try rw [← hW6, ← hs65]); go_loud (refine wpList_app (d := kU8) (ok := fun _ => True) (base := w.heap.size + 2) (ys := [x]) rfl _ _ _ rfl Tryd.underlying22 u8_info rfl (by decide) 1 rfl rfl (.inl HO8.out) (Kd.Src.new (d := kU8) (x := x) (cs := [bv x]) ⟨rfl, trivial⟩ _ rfl _ rfl) ?_ ?_ ?_ ?_))
        · have := HS6.out; simp only [World.size_alloc]; omega
        · rw [strm_len]; simp only [maxLen]; omega
        · rw [strm_len]; omega
        intro v11 w11 _ h11 b11 f11 o11
        rw [← hW6] at b11 f11
        rw [← hs65] at f11 o11
        rw [HX.out] at h11
        have HR11 := hide (rs_next HGS.out HTT.out HK6.out HN6.out HG6.out HS6.out HB6.out HOW.out h11 b11 f11 o11)
        clear h11 b11 f11 o11
        go_wp2_with fail
        go_roundw
        case rel => exact ⟨k + 1, hlt, by simp, HR11⟩
        case measure => simp [intOf]; omega
      · obtain rfl : u = t := by rw [htt]; exact hu2 (by rw [← hr]; exact h0)
        have hq0 : (((r : Nat) : Int) == 0) = false := by simp [h0]
        have HK6 := hide hkc
        have HN6 := hide hnc
        have HG6 := hide hu
        have HS6 := hide hsz
        have HB6 := hide hB
        have HO6 := HO
        have hgx : (tgC u)[r]? = some (bv x) := by rw [tgC_bl]; exact blC_at _ hx
        have hcx := (cell_of_row wr _ r _ _ _ hu).trans hgx
        clear htt hr hx hO hown hB hu2 hkc hnc
        have HO8 : Hid (kU8.Own (fun _ => True) (w.heap.size + 2) (wr.alloc (.cells #[bv x] 5)) 5 (.slice AV k cV) (strm key nonce k)) := hide ((own8 HO6.out).below (below1 _ _))
        go_wp2_with (at_builtin; go_loud (refine wpList_app (d := kU8) (ok := fun _ => True) (base := w.heap.size + 2) (ys := [x]) rfl _ _ _ rfl Tryd.underlying22 u8_info rfl (by decide) 1 rfl rfl (.inl HO8.out) (Kd.Src.new (d := kU8) (x := x) (cs := [bv x]) ⟨rfl, trivial⟩ _ rfl _ rfl) ?_ ?_ ?_ ?_))
        · have := HS6.out; simp only [World.size_alloc]; omega
        · rw [strm_len]; simp only [maxLen]; omega
        · rw [strm_len]; omega
        intro v11 w11 _ h11 b11 f11 o11
        rw [HX.out] at h11
        have HR11 := hide (rs_next HGS.out HTT.out HK6.out HN6.out HG6.out HS6.out HB6.out HOW.out h11 b11 f11 o11)
        clear h11 b11 f11 o11
        go_wp2_with fail
        go_roundw
        case rel => exact ⟨k + 1, hlt, by simp, HR11⟩
        case measure => simp [intOf]; omega
    · obtain rfl : k = n := by omega
      have hnl : ¬ (k : Int) < z := by have := HZ.out; omega
      have HV1 := hide ((own8 (ok' := fun _ => True) hO).lower (base' := w.heap.size) (by omega))
      have HB0 := hide hB
      clear hO hown hB hu2 hu hkc hnc
      go_wp2_with fail
      go_ret
      exact ⟨_, rfl, HV1.out, HB0.out⟩
end Go.Proofs.YtdkeflhgengblaaDoor
namespace Go.Proofs.YtdkeflhgengblaaDoor
open Go.RowKit
variable {base g n cap i : Nat} {w : World} {E : TypeId} {v : Value} {xs : List UInt8} {ok : Nat → Prop}
theorem own8_open (h : kU8.Own ok base w E v xs) (hn : 0 < xs.length) : ∃ g cap cur, v = .slice (some ⟨g, 0, none⟩) xs.length cap ∧ base ≤ g ∧ w.heap[g]? = some (.cells cur E (0, 0)) ∧ xs.length ≤ cap ∧ cap ≤ maxLen ∧ ∀ (i : Nat) (x : UInt8), xs[i]? = some x → cur[i]? = some (bv x) := by
  obtain ⟨css, he, ho⟩ := h
  rw [els8 he] at ho
  rcases ho.2 with ⟨_, h0⟩ | ⟨g, cap, cur, e, hb, hg, hnc, hm, hs, ht⟩
  · omega
  · refine ⟨g, cap, cur, e, hb, hg, hnc, hm, fun i x hx => ?_⟩
    have hi : i < xs.length := (List.getElem?_eq_some_iff.1 hx).1
    have h1 : (cur.toList.take (xs.length * kU8.sz))[i]? = some (bv x) := by rw [ht, List.getElem?_map, hx]; rfl
    rw [List.getElem?_take] at h1
    split at h1
    · rwa [Array.getElem?_toList] at h1
    · cases h1
theorem flat_bv (l : List UInt8) : (l.map fun x => [bv x]).flatten = l.map bv := by
  induction l <;> simp_all
theorem own8_set (h : kU8.Own ok base w E (.slice (some ⟨g, 0, none⟩) n cap) xs) (y : UInt8) : kU8.Own ok base (w.setCell ⟨g, i, none⟩ (bv y)) E (.slice (some ⟨g, 0, none⟩) n cap) (xs.set i y) := by
  obtain ⟨css, he, ho⟩ := h
  rw [els8 he] at ho
  rcases ho.2 with ⟨e, _⟩ | ⟨g', cap', cur, e, hb, hg, hnc, hm, hs, ht⟩
  · cases e
  · cases e
    refine ⟨(xs.set i y).map fun x => [bv x], ⟨by simp, fun j x cs hx hc => ?_⟩, ?_⟩
    · rw [List.getElem?_map, hx] at hc
      exact ⟨(Option.some.inj hc).symm, trivial⟩
    · rw [flat_bv]
      refine ⟨by simp [kU8, Kd.cell], .inr ⟨g, cap, cur.setIfInBounds i (bv y), by rw [List.length_set], hb, heap_setCell_at _ hg, by rw [List.length_set]; exact hnc, hm, by rw [Array.size_setIfInBounds]; exact hs, ?_⟩⟩
      rw [List.length_set, Array.toList_setIfInBounds, List.take_set, ht, List.map_set]
/-- The first k of one list, the others of another one. -/
def mix (A B : List UInt8) (k : Nat) : List UInt8 := A.take k ++ B.drop k
section
variable {A B : List UInt8} {k : Nat} {a : UInt8}
theorem mix_start : mix A B 0 = B := rfl
theorem mix_end (h : A.length = B.length) (hk : k = A.length) : mix A B k = A := by
  rw [mix, List.drop_eq_nil_of_le (by omega), List.append_nil, List.take_of_length_le (by omega)]
theorem mix_len (h : A.length = B.length) : (mix A B k).length = A.length := by
  simp only [mix, List.length_append, List.length_take, List.length_drop]; omega
theorem mix_at (h : A.length = B.length) (hk : k ≤ A.length) : (mix A B k)[k]? = B[k]? := by
  rw [mix, List.getElem?_append_right (by rw [List.length_take]; omega), List.getElem?_drop]
  congr 1
  rw [List.length_take]; omega
theorem mix_set (h : A.length = B.length) (ha : A[k]? = some a) : (mix A B k).set k a = mix A B (k + 1) := by
  have hk : k < A.length := (List.getElem?_eq_some_iff.1 ha).1
  apply List.ext_getElem?
  intro j
  rw [List.getElem?_set, mix_len h]
  by_cases hj : k = j
  · subst hj
    rw [if_pos rfl, if_pos hk, mix, List.getElem?_append_left (by rw [List.length_take]; omega), List.getElem?_take, if_pos (Nat.lt_succ_self _), ha]
  · rw [if_neg hj, mix, mix]
    rcases Nat.lt_or_ge j k with h2 | h2
    · rw [List.getElem?_append_left (by rw [List.length_take]; omega), List.getElem?_append_left (by rw [List.length_take]; omega), List.getElem?_take, List.getElem?_take, if_pos h2, if_pos (by omega)]
    · rw [List.getElem?_append_right (by rw [List.length_take]; omega), List.getElem?_append_right (by rw [List.length_take]; omega), List.getElem?_drop, List.getElem?_drop]
      congr 1
      simp only [List.length_take]; omega
end
end Go.Proofs.YtdkeflhgengblaaDoor
namespace Go.Proofs.YtdkeflhgengblaaDoor
open Go.RowKit
attribute [local go_sem ↓] ld8 ld32 ld64 ld73
attribute [local go_sem] run_ldAgg run_storeAgg agg_alloc_at agg_alloc_past agg_drew agg_setCell row_alloc_at row_alloc_past row_drew setRow_alloc_at setRow_alloc_past setRow_drew agg_setRow_at agg_setRow_far cell_setRow_at cell_setRow_far row_setRow_far size_setRow s8C_size s8C_part s8C_one s8C_splice0 s8C_ne dgC_size dgC_72 dgC_part dgC_h dgC_r dgC_splice_h dgC_set dgC_one dgC_splice0 dgC_ne zero_dg
attribute [local go_sem] tgC_size tgC_one tgC_part tgC_splice tgC_splice_any zero_tg tgC_ne

theorem str_byte {P : Program} {T : TypeId} (h : P.underlying T = some .string) {s : List UInt8} {k : Nat} {y : UInt8} (hy : s[k]? = some y) (kd : IntKind) : ∀ W : World, (Instr.index T (.string (txt s)) (.int kd (k : Int))).run P W = .ok (bv y) W := fun W => by
  have hk : k < s.length := (List.getElem?_eq_some_iff.1 hy).1
  have hi : 0 ≤ (k : Int) ∧ (k : Int) < ((txt s).size : Int) := by rw [txt_size]; omega
  rw [run_index_string W T (txt s) kd k h, dif_pos hi]
  have : (txt s)[(k : Int).toNat]'(by rw [txt_size]; omega) = y := by
    rw [List.getElem?_eq_getElem hk] at hy
    exact Option.some.inj hy
  rw [this]
theorem idx_k {P : Program} {T E : TypeId} (hT : P.underlying T = some (.slice E)) (hE : (P.info? E).map (·.size) = some 1) (g n c k : Nat) (hk : k < n) : ∀ wx : World, (Instr.indexAt T (.slice (some ⟨g, 0, none⟩) n c) (.int .i64 (k : Int))).run P wx = .ok (.pointer (some ⟨g, k, none⟩)) wx := fun wx => by
  cases hq : P.info? E with
  | none => rw [hq] at hE; cases hE
  | some x =>
    rw [hq] at hE
    have : x.size = 1 := by simpa using hE
    simp [Instr.indexAt, asIntOf, run_underlying hT, sizeOf, typeInfo, hq, this, hk, Addr.add]
    omega
set_option maxRecDepth 100000 in
set_option maxHeartbeats 800000 in
theorem c_sturned (key nonce : Tg) (s : List UInt8) (w : World) (hn : s.length < 1048576) (hP : PrimesAt w) :
    Calls Tryd.prog 80 #[tgV key, tgV nonce, .string (txt s)] w fun e w' => e = .returned (.string (txt (turnd key nonce s))) ∧ Below w.heap.size w w' := by
  have HP := hide hP
  have hw0 := hP.1
  obtain ⟨n, hnn⟩ : ∃ n, n = s.length := ⟨_, rfl⟩
  have hsz : (txt s).size = n := by rw [txt_size, hnn]
  have HN : Hid (s.length = n) := hide hnn.symm
  have HB1 : Hid (Below w.heap.size w ((w.alloc (.cells (tgC key) 29)).alloc (.cells (tgC nonce) 29))) := hide (below2 _ _ _)
  rw [← hnn] at hn
  clear hP hnn
  go_enter Tryd.func80, Tryd.ntmps80
  go_wp2_with fail
  refine (c_stream key nonce _ n _ (by simp) hn (HP.out.ext HB1.out)).mono ?_
  rintro e w5 ⟨v5, rfl, h5, b5⟩
  obtain ⟨A, hA⟩ : ∃ A, A = turnd key nonce s := ⟨_, rfl⟩
  obtain ⟨B, hBB⟩ : ∃ B, B = strm key nonce n := ⟨_, rfl⟩
  have hlA : A.length = n := by rw [hA, turnd_len, HN.out]
  have hlB : B.length = n := by rw [hBB, strm_len]
  have HAZ : Hid (A = List.zipWith (· ^^^ ·) B s) := hide (by rw [hA, hBB, turnd, HN.out])
  obtain ⟨AV, cV, hvf⟩ := h5.form
  rw [strm_len] at hvf
  rw [hvf] at h5 ⊢
  have HV0 : Hid (kU8.Own (fun _ => True) (w.heap.size + 2) w5 5 (.slice AV n cV) (mix A B 0)) := hide (by
    rw [mix_start, hBB]; simp only [World.size_alloc] at h5; exact h5)
  have HB5 : Hid (Below (w.heap.size + 2) w5 w5) := hide (Below.refl _ _)
  have HB0 : Hid (Below w.heap.size w w5) := hide (bnext HB1.out b5)
  have hw5 : w.heap.size + 2 ≤ w5.heap.size := by have := b5.size; simpa only [World.size_alloc] using this
  have HA := hide hA
  have HLA := hide hlA
  have HLB := hide hlB
  clear hA hBB hlA hlB hvf h5 b5
  go_wp2_with fail
  go_loopw [16] (fun i wr => ∃ (k : Nat), k ≤ n ∧ i = .int .i64 (k : Int) ∧ Hid (kU8.Own (fun _ => True) (w.heap.size + 2) wr 5 (.slice AV n cV) (mix A B k)) ∧ Hid (Below (w.heap.size + 2) w5 wr)) (fun i _ => n - (intOf i).toNat)
  case atStart => exact ⟨0, Nat.zero_le _, rfl, HV0, HB5⟩
  case round =>
    clear HV0 HB5
    obtain ⟨k, hk, rfl, HV, HB⟩ := hrel
    by_cases hlt : k < n
    · obtain ⟨b, hb⟩ : ∃ b, B[k]? = some b := ⟨_, List.getElem?_eq_getElem (by rw [HLB.out]; exact hlt)⟩
      obtain ⟨y, hy⟩ : ∃ y, s[k]? = some y := ⟨_, List.getElem?_eq_getElem (by rw [HN.out]; exact hlt)⟩
      obtain ⟨a, ha⟩ : ∃ a, a = b ^^^ y := ⟨_, rfl⟩
      have hAa : A[k]? = some a := by rw [HAZ.out, List.getElem?_zipWith, hb, hy, ha]
      have hml : (mix A B k).length = n := by rw [mix_len (HLA.out.trans HLB.out.symm), HLA.out]
      obtain ⟨g, cap, cur, e, hbg, hg, hnc, hm, hcu⟩ := own8_open HV.out (by omega)
      rw [hml] at e hnc
      injection e with e1 _ e3
      subst e1 e3
      have HSX := hide (str_byte (P := Tryd.prog) Tryd.underlying9 hy .i64)
      have HCB : Hid (cur[k]? = some (bv b)) := hide (hcu k b ((mix_at (HLA.out.trans HLB.out.symm) (by rw [HLA.out]; exact hk)).trans hb))
      have HIX := hide (idx_k (P := Tryd.prog) Tryd.underlying22 u8_info1 g n cV k hlt)
      have HXY : Hid (bits .xor .u8 (b.toNat : Int) (y.toNat : Int) = (a.toNat : Int)) := hide (by rw [ha]; exact b_xor b y)
      have HG := hide hg
      have HV1 : Hid (∀ w8, Below wr.heap.size wr w8 → kU8.Own (fun _ => True) (w.heap.size + 2) (w8.setCell ⟨g, k, none⟩ (bv a)) 5 (.slice (some ⟨g, 0, none⟩) n cV) (mix A B (k + 1))) := hide (fun w8 h8 => by
        rw [← mix_set (HLA.out.trans HLB.out.symm) hAa]
        exact own8_set (HV.out.below h8) a)
      have HBG : Hid (w.heap.size + 2 ≤ g) := hide hbg
      have HWR := hide (Nat.le_trans hw5 HB.out.size)
      clear hb hy ha hAa hml hcu hg hbg hm hnc
      go_wp2_with fail
      refine wp_region_ext mixed 9 (fun i v w' => match i with
        | 0 => v = .slice (some ⟨g, 0, none⟩) n cV
        | 1 => v = .int .i64 (k : Int)
        | 2 => v = .pointer (some ⟨g, k, none⟩)
        | 3 => v = bv b
        | 4 => v = .string (txt s)
        | 5 => v = .int .i64 (k : Int)
        | 6 => v = bv y
        | 7 => v = bv a
        | _ => v = .pointer (some ⟨g, k, none⟩)
        ) (regOk_of (by kernel_rfl)) rfl ?_ ?_ ?_
      · intro i v w1 w2 h1 h2
        split at h2 <;> exact h2
      · refine ⟨fun a w2 hle hd hf hs K hK => ?_, fun a w2 hle hd hf hs K hK => ?_, fun a w2 hle hd hf hs K hK => ?_, fun a w2 hle hd hf hs K hK => ?_, fun a w2 hle hd hf hs K hK => ?_, fun a w2 hle hd hf hs K hK => ?_, fun a w2 hle hd hf hs K hK => ?_, fun a w2 hle hd hf hs K hK => ?_, fun a w2 hle hd hf hs K hK => ?_, trivial⟩
        all_goals clear hd
        · -- 19 := Op.move t7
          have e7 := hf 7 rfl; simp [Act.eval] at e7
          go_simp; exact hK _ _ (Ext.refl _) rfl
        · -- 20 := Op.move t8
          have e8 := hf 8 rfl; simp [Act.eval] at e8
          go_simp; exact hK _ _ (Ext.refl _) rfl
        · -- 21 := Op.indexAddr 22 t19 t20
          have e19 := hs 0 19 (needs_direct (by kernel_rfl)) rfl; have e20 := hs 1 20 (needs_direct (by kernel_rfl)) rfl; simp [Act.eval] at e19 e20
          have hix := HIX.out
          go_simp; exact hK _ _ (Ext.refl _) rfl
        · -- 22 := Op.load 5 t21
          have e21 := hs 2 21 (needs_direct (by kernel_rfl)) rfl; simp [Act.eval] at e21
          have hcx := (cell_of_row w2 g k _ _ _ (hle.heap HG.out)).trans HCB.out
          go_simp; exact hK _ _ (Ext.refl _) rfl
        · -- 23 := Op.move t2
          have e2 := hf 2 rfl; simp [Act.eval] at e2
          go_simp; exact hK _ _ (Ext.refl _) rfl
        · -- 24 := Op.move t8
          have e8 := hf 8 rfl; simp [Act.eval] at e8
          go_simp; exact hK _ _ (Ext.refl _) rfl
        · -- 25 := Op.index 9 t23 t24
          have e23 := hs 4 23 (needs_direct (by kernel_rfl)) rfl; have e24 := hs 5 24 (needs_direct (by kernel_rfl)) rfl; simp [Act.eval] at e23 e24
          have hsx := HSX.out
          go_simp; exact hK _ _ (Ext.refl _) rfl
        · -- 26 := Op.binOp BinOp.xor 5 t22 t25 5
          have e22 := hs 3 22 (needs_direct (by kernel_rfl)) rfl; have e25 := hs 6 25 (needs_direct (by kernel_rfl)) rfl; simp [Act.eval] at e22 e25
          have hxx := HXY.out
          go_simp; exact hK _ _ (Ext.refl _) rfl
        · -- 27 := Op.indexAddr 22 t19 t20
          have e19 := hs 0 19 (needs_direct (by kernel_rfl)) rfl; have e20 := hs 1 20 (needs_direct (by kernel_rfl)) rfl; simp [Act.eval] at e19 e20
          have hix := HIX.out
          go_simp; exact hK _ _ (Ext.refl _) rfl
      intro vs w8 hle hs
      have v7 := hs 7 (by omega) rfl
      have v8 := hs 8 (by omega) rfl
      simp only at v7 v8
      clear hs
      have hg8 := hle.heap HG.out
      have hfz := frozen_of_row w8 g k _ _ hg8
      have hcx := (cell_of_row w8 g k _ _ _ hg8).trans HCB.out
      have HV2 := hide (HV1.out w8 hle)
      have HB2 := hide (bsetCell (HB.out.trans (hle.mono HWR.out)) HBG.out k (bv a))
      clear hg8 hle
      simp only [putN, dstAt]
      go_simp
      go_wp2_with fail
      go_roundw
      case rel => exact ⟨k + 1, hlt, by simp, HV2, HB2⟩
      case measure => simp [intOf]; omega
    · obtain rfl : k = n := by omega
      obtain ⟨A2, c2, e2, hr2⟩ := own_row HV.out
      have hme := mix_end (A := A) (B := B) (k := k) (HLA.out.trans HLB.out.symm) HLA.out.symm
      rw [hme, HA.out] at hr2
      rw [mix_len (HLA.out.trans HLB.out.symm), HLA.out] at e2
      rw [turnd_len, HN.out] at hr2
      injection e2 with e1 _ e3
      subst e1 e3
      have hst := row_string (P := Tryd.prog) Tryd.underlying22 Tryd.underlying5 Tryd.underlying9 hr2
      have HBE := hide (HB0.out.trans (HB.out.mono (by omega)))
      clear hr2 hme
      go_wp2_with fail
      go_ret
      exact ⟨rfl, HBE.out⟩
end Go.Proofs.YtdkeflhgengblaaDoor
namespace Go.Proofs.YtdkeflhgengblaaDoor
open Go.RowKit
attribute [local go_sem ↓] ld8 ld32 ld64 ld73
attribute [local go_sem] run_ldAgg run_storeAgg agg_alloc_at agg_alloc_past agg_drew agg_setCell row_alloc_at row_alloc_past row_drew setRow_alloc_at setRow_alloc_past setRow_drew agg_setRow_at agg_setRow_far cell_setRow_at cell_setRow_far row_setRow_far size_setRow s8C_size s8C_part s8C_one s8C_splice0 s8C_ne dgC_size dgC_72 dgC_part dgC_h dgC_r dgC_splice_h dgC_set dgC_one dgC_splice0 dgC_ne zero_dg
attribute [local go_sem] tgC_size tgC_one tgC_part tgC_splice tgC_splice_any zero_tg tgC_ne

theorem turnd_at {key nonce : Tg} {s : List UInt8} {k : Nat} {b y : UInt8} (hb : (strm key nonce s.length)[k]? = some b) (hy : s[k]? = some y) : (turnd key nonce s).take k ++ [y ^^^ b] = (turnd key nonce s).take (k + 1) := by
  rw [List.take_add_one, turnd, List.getElem?_zipWith, hb, hy]
  simp only [Option.toList, UInt8.xor_comm]
set_option maxRecDepth 100000 in
set_option maxHeartbeats 800000 in
theorem c_rsturned (key nonce : Tg) (s : List UInt8) (w : World) (hn : s.length < 1048576) :
    Calls Tryd.prog 81 #[tgV key, tgV nonce, .string (txt s)] w fun e w' => e = .returned (.string (txt (turnd key nonce s))) ∧ Below w.heap.size w w' := by
  obtain ⟨n, hnn⟩ : ∃ n, n = s.length := ⟨_, rfl⟩
  have hsz : (txt s).size = n := by rw [txt_size, hnn]
  have HN : Hid (s.length = n) := hide hnn.symm
  have HB1 : Hid (Below w.heap.size w ((w.alloc (.cells (tgC key) 29)).alloc (.cells (tgC nonce) 29))) := hide (below2 _ _ _)
  rw [← hnn] at hn
  clear hnn
  go_enter Tryd.func81, Tryd.ntmps81
  go_wp2_with fail
  refine (c_rstream key nonce _ n _ (by simp) hn).mono ?_
  rintro e w5 ⟨v5, rfl, h5, b5⟩
  obtain ⟨AV, cV, e5, hr5⟩ := own_row h5
  rw [strm_len] at e5 hr5
  rw [e5]
  have HR5 := hide hr5
  have HV0 : Hid (kU8.Own (fun _ => True) w5.heap.size (w5.alloc (.cells #[] 5)) 5 (.slice (some ⟨w5.heap.size, 0, none⟩) 0 0) ((turnd key nonce s).take 0)) := hide (bytes_lit w5 [] #[] rfl 0 rfl (Nat.zero_le _))
  have HB5 : Hid (Below w5.heap.size w5 (w5.alloc (.cells #[] 5))) := hide (below1 _ _)
  have HB0 : Hid (Below w.heap.size w w5) := hide (bnext HB1.out b5)
  have hw5 : w.heap.size ≤ w5.heap.size := HB0.out.size
  clear e5 h5 b5 hr5
  go_wp2_with fail
  go_loopw [8, 9] (fun v i wr => ∃ (k : Nat), k ≤ n ∧ i = .int .i64 (k : Int) ∧ Hid (kU8.Own (fun _ => True) w5.heap.size wr 5 v ((turnd key nonce s).take k)) ∧ Hid (Below w5.heap.size w5 wr)) (fun _ i _ => n - (intOf i).toNat)
  case atStart => exact ⟨0, Nat.zero_le _, rfl, HV0, HB5⟩
  case round =>
    clear HV0 HB5
    obtain ⟨k, hk, rfl, HV, HB⟩ := hrel
    have hlk : ((turnd key nonce s).take k).length = k := by rw [List.length_take, turnd_len, HN.out]; omega
    obtain ⟨AO, cO, hvf⟩ := HV.out.form
    rw [hlk] at hvf
    rw [hvf] at HV ⊢
    have HLK := hide hlk
    clear hvf hlk
    by_cases hlt : k < n
    · obtain ⟨b, hb⟩ : ∃ b, (strm key nonce n)[k]? = some b := ⟨_, List.getElem?_eq_getElem (by rw [strm_len]; exact hlt)⟩
      obtain ⟨y, hy⟩ : ∃ y, s[k]? = some y := ⟨_, List.getElem?_eq_getElem (by rw [HN.out]; exact hlt)⟩
      obtain ⟨x1, ha⟩ : ∃ a, a = y ^^^ b := ⟨_, rfl⟩
      have HST : Hid ((turnd key nonce s).take k ++ [x1] = (turnd key nonce s).take (k + 1)) := hide (by rw [ha]; exact turnd_at (by rw [HN.out]; exact hb) hy)
      have HSX := hide (str_byte (P := Tryd.prog) Tryd.underlying9 hy .i64)
      obtain ⟨p, o, hip, hcp, hpb⟩ := row_byte (HR5.out.below HB.out) hb
      have HIX := hide hip
      have HCB := hide hcp
      have HPB := hide hpb
      have HXY : Hid (bits .xor .u8 (y.toNat : Int) (b.toNat : Int) = (x1.toNat : Int)) := hide (by rw [ha]; exact b_xor y b)
      have HWR := hide HB.out.size
      clear hb hy ha hip hcp hpb
      go_wp2_with fail
      refine wp_region_ext mixed 10 (fun i v w' => match i with
        | 0 => v = .slice AO k cO
        | 1 => v = .string (txt s)
        | 2 => v = .int .i64 (k : Int)
        | 3 => v = bv y
        | 4 => v = .slice AV n cV
        | 5 => v = .int .i64 (k : Int)
        | 6 => v = .pointer (some ⟨p, o, none⟩)
        | 7 => v = bv b
        | 8 => v = bv x1
        | _ => ∃ A c, v = .slice A 1 c ∧ kU8.Row (fun _ => True) w' A 1 c [x1]
        ) (regOk_of (by kernel_rfl)) rfl ?_ ?_ ?_
      · intro i v w1 w2 h1 h2
        split at h2 <;> first | exact h2 | (obtain ⟨A, c, e, hr⟩ := h2; exact ⟨A, c, e, hr.below h1⟩)
      · refine ⟨fun a w2 hle hd hf hs K hK => ?_, fun a w2 hle hd hf hs K hK => ?_, fun a w2 hle hd hf hs K hK => ?_, fun a w2 hle hd hf hs K hK => ?_, fun a w2 hle hd hf hs K hK => ?_, fun a w2 hle hd hf hs K hK => ?_, fun a w2 hle hd hf hs K hK => ?_, fun a w2 hle hd hf hs K hK => ?_, fun a w2 hle hd hf hs K hK => ?_, fun a w2 hle hd hf hs K hK => ?_, trivial⟩
        all_goals clear hd
        · -- 22 := Op.move t8
          have e8 := hf 8 rfl; simp [Act.eval] at e8
          go_simp; exact hK _ _ (Ext.refl _) rfl
        · -- 23 := Op.move t2
          have e2 := hf 2 rfl; simp [Act.eval] at e2
          go_simp; exact hK _ _ (Ext.refl _) rfl
        · -- 24 := Op.move t9
          have e9 := hf 9 rfl; simp [Act.eval] at e9
          go_simp; exact hK _ _ (Ext.refl _) rfl
        · -- 25 := Op.index 9 t23 t24
          have e23 := hs 1 23 (needs_direct (by kernel_rfl)) rfl; have e24 := hs 2 24 (needs_direct (by kernel_rfl)) rfl; simp [Act.eval] at e23 e24
          have hsx := HSX.out
          go_simp; exact hK _ _ (Ext.refl _) rfl
        · -- 26 := Op.move t7
          have e7 := hf 7 rfl; simp [Act.eval] at e7
          go_simp; exact hK _ _ (Ext.refl _) rfl
        · -- 27 := Op.move t9
          have e9 := hf 9 rfl; simp [Act.eval] at e9
          go_simp; exact hK _ _ (Ext.refl _) rfl
        · -- 28 := Op.indexAddr 22 t26 t27
          have e26 := hs 4 26 (needs_direct (by kernel_rfl)) rfl; have e27 := hs 5 27 (needs_direct (by kernel_rfl)) rfl; simp [Act.eval] at e26 e27
          have hix := HIX.out
          go_simp; exact hK _ _ (Ext.refl _) rfl
        · -- 29 := Op.load 5 t28
          have e28 := hs 6 28 (needs_direct (by kernel_rfl)) rfl; simp [Act.eval] at e28
          have hcx := (World.cell?_of_block (a := ⟨p, o, none⟩) (hle.block _ HPB.out)).trans HCB.out
          go_simp; exact hK _ _ (Ext.refl _) rfl
        · -- 30 := Op.binOp BinOp.xor 5 t25 t29 5
          have e25 := hs 3 25 (needs_direct (by kernel_rfl)) rfl; have e29 := hs 7 29 (needs_direct (by kernel_rfl)) rfl; simp [Act.eval] at e25 e29
          have hxx := HXY.out
          go_simp; exact hK _ _ (Ext.refl _) rfl
        · -- 31 := Op.buildSlice 22 1 #[(0, t30)]
          have e30 := hs 8 30 (needs_direct (by kernel_rfl)) rfl; simp [Act.eval] at e30
          go_simp
          exact hK _ _ (Ext.alloc _ _) (by
            obtain ⟨A1, c1, e1, hr1⟩ := own_row (bytes_lit w2 [x1] #[bv x1] rfl 1 rfl (by decide))
            exact ⟨A1, c1, e1, hr1.more fun _ _ => trivial⟩)
      intro vs w8 hle hs
      have v0 := hs 0 (by omega) rfl
      have v9 := hs 9 (by omega) rfl
      simp only at v0 v9
      clear hs
      obtain ⟨A9, c9, e9, hr9⟩ := v9
      have HV8 := hide (HV.out.below hle)
      have HR9 := hide hr9
      have HB8 := hide (HB.out.trans (hle.mono HWR.out))
      have hw8 : w5.heap.size ≤ w8.heap.size := HB8.out.size
      clear hr9 hle
      simp only [putN, dstAt]
      go_simp
      go_wp2_with (at_builtin; go_loud (refine wpList_app (d := kU8) (ok := fun _ => True) (base := w5.heap.size) (ys := [x1]) rfl _ _ _ rfl Tryd.underlying22 u8_info rfl (by decide) c9 rfl rfl (.inl HV8.out) (src8 HR9.out.src) ?_ ?_ ?_ ?_))
      · exact hw8
      · rw [HLK.out]; simp only [maxLen]; omega
      · rw [HLK.out]; omega
      intro v11 w11 _ h11 b11 _ _
      rw [HST.out] at h11
      have HV11 := hide h11
      have HB11 := hide (HB8.out.trans b11)
      clear h11 b11
      go_wp2_with fail
      go_roundw
      case rel => exact ⟨k + 1, hlt, by simp, HV11, HB11⟩
      case measure => simp [intOf]; omega
    · obtain rfl : k = n := by omega
      obtain ⟨A2, c2, e2, hr2⟩ := own_row HV.out
      rw [HLK.out] at e2 hr2
      injection e2 with e1 _ e3
      subst e1 e3
      rw [List.take_of_length_le (by rw [turnd_len, HN.out]; exact Nat.le_refl _)] at hr2
      have hst := row_string (P := Tryd.prog) Tryd.underlying22 Tryd.underlying5 Tryd.underlying9 hr2
      have HBE := hide (HB0.out.trans (HB.out.mono (by omega)))
      clear hr2
      go_wp2_with fail
      go_ret
      exact ⟨rfl, HBE.out⟩
end Go.Proofs.YtdkeflhgengblaaDoor
namespace Go.Proofs.YtdkeflhgengblaaDoor
open Go.RowKit
attribute [local go_sem ↓] ld8 ld32 ld64 ld73
attribute [local go_sem] run_ldAgg run_storeAgg agg_alloc_at agg_alloc_past agg_drew agg_setCell row_alloc_at row_alloc_past row_drew setRow_alloc_at setRow_alloc_past setRow_drew agg_setRow_at agg_setRow_far cell_setRow_at cell_setRow_far row_setRow_far size_setRow s8C_size s8C_part s8C_one s8C_splice0 s8C_ne dgC_size dgC_72 dgC_part dgC_h dgC_r dgC_splice_h dgC_set dgC_one dgC_splice0 dgC_ne zero_dg
attribute [local go_sem] tgC_size tgC_one tgC_part tgC_splice tgC_splice_any zero_tg tgC_ne

theorem two_sizes {a c : List UInt8} (ha : a.length < 1048576) (hc : c.length < 1048576) : ∀ s ∈ [txt a, txt c], s.size ≤ maxLen := by
  intro s hs
  simp only [List.mem_cons, List.not_mem_nil, or_false] at hs
  rcases hs with rfl | rfl <;> (rw [txt_size]; simp only [maxLen]; omega)
theorem mark_len {a c : List UInt8} (ha : a.length < 1048576) (hc : c.length < 1048576) : (frames (uSeal :: [txt a, txt c])).length < 1073741824 := by
  simp only [frames_cons, frames_nil, List.length_append, frm_len, txt_size, List.length_nil]
  rw [show uSeal.size = 4 from rfl]
  omega
theorem txt_add (a b : List UInt8) : txt a ++ txt b = txt (a ++ b) := by
  apply ByteArray.ext
  rw [ByteArray.data_append]
  simp
set_option maxRecDepth 100000 in
set_option maxHeartbeats 800000 in
theorem c_smark (key : Tg) (a c : List UInt8) (w : World) (ha : a.length < 1048576) (hc : c.length < 1048576) (hP : PrimesAt w) :
    Calls Tryd.prog 79 #[tgV key, .string (txt a), .string (txt c)] w fun e w' => e = .returned (.string (txt (markT key a c).l)) ∧ Below w.heap.size w w' := by
  have HP := hide hP
  have hw0 := hP.1
  have HSZ := hide (two_sizes ha hc)
  have HFL := hide (mark_len ha hc)
  obtain ⟨t, htt⟩ : ∃ t, t = markT key a c := ⟨_, rfl⟩
  have HT : Hid (dkey key uSeal [txt a, txt c] = t) := hide (by rw [htt]; rfl)
  have HTT := hide htt
  obtain ⟨W2, hW2⟩ : ∃ W2, W2 = (w.alloc (.cells (tgC key) 29)).alloc (.cells #[.string (txt a), .string (txt c)] 9) := ⟨_, rfl⟩
  have HB2 : Hid (Below w.heap.size w W2) := hide (by rw [hW2]; exact below2 _ _ _)
  have HS2 : Hid (kStr.Row (fun _ => True) W2 (some ⟨w.heap.size + 1, 0, none⟩) 2 2 [txt a, txt c]) := hide (by
    rw [hW2]
    have := strs_row (w := (w.alloc (.cells (tgC key) 29)).alloc (.cells #[.string (txt a), .string (txt c)] 9)) (g := w.heap.size + 1) [txt a, txt c] (by have := heap_alloc_new (w.alloc (.cells (tgC key) 29)) (.cells #[.string (txt a), .string (txt c)] 9); rwa [World.size_alloc] at this) rfl HSZ.out (by simp [maxLen])
    exact this)
  clear hP ha hc htt
  go_enter Tryd.func79, Tryd.ntmps79
  go_wp2_with fail
  rw [← hW2]
  clear hW2
  refine (c_dkey key uSeal _ 2 2 [txt a, txt c] _ W2 HS2.out (by decide) (HP.out.ext HB2.out) HFL.out).mono ?_
  rintro e w5 ⟨rfl, b5⟩
  rw [HT.out]
  have hst := row_string (P := Tryd.prog) Tryd.underlying22 Tryd.underlying5 Tryd.underlying9 (tag_row t (heap_alloc_new w5 (.cells (tgC t) 29)))
  have HB5 := hide (bnext HB2.out b5)
  have HBE : Hid (Below w.heap.size w (w5.alloc (.cells (tgC t) 29))) := hide (HB5.out.alloc HB5.out.size _)
  clear b5
  go_wp2_with fail
  go_ret
  exact ⟨by rw [HTT.out]; rfl, HBE.out⟩
set_option maxRecDepth 100000 in
set_option maxHeartbeats 800000 in
theorem c_seal (key nonce : Tg) (s : List UInt8) (w : World) (hn : s.length < 1048576) (hP : PrimesAt w) :
    Calls Tryd.prog 36 #[tgV key, tgV nonce, .string (txt s)] w fun e w' => e = .returned (.string (txt (sealB key nonce s))) ∧ Below w.heap.size w w' := by
  have HPR : Hid (PrimesAt ((w.alloc (.cells (tgC key) 29)).alloc (.cells (tgC nonce) 29))) := hide (hP.ext (below2 _ _ _))
  have hw0 := hP.1
  have HSL := hide hn
  obtain ⟨W1, hW1⟩ : ∃ W1, W1 = (w.alloc (.cells (tgC key) 29)).alloc (.cells (tgC nonce) 29) := ⟨_, rfl⟩
  rw [← hW1] at HPR
  have HB1 : Hid (Below w.heap.size w W1) := hide (by rw [hW1]; exact below2 _ _ _)
  have HK1 : Hid (W1.heap[w.heap.size]? = some (.cells (tgC key) 29)) := hide (by
    rw [hW1, Below.heap_alloc _ _ _ (by simp only [World.size_alloc]; omega)]; exact heap_alloc_new _ _)
  have HN1 : Hid (W1.heap[w.heap.size + 1]? = some (.cells (tgC nonce) 29)) := hide (by
    rw [hW1]
    have := heap_alloc_new (w.alloc (.cells (tgC key) 29)) (.cells (tgC nonce) 29)
    rwa [World.size_alloc] at this)
  have HNR := hide (tag_row nonce HN1.out)
  obtain ⟨sc, hsc⟩ : ∃ sc, sc = turnd key nonce s := ⟨_, rfl⟩
  have HSC : Hid (turnd key nonce s = sc) := hide hsc.symm
  have HLC : Hid (sc.length < 1048576) := hide (by rw [hsc, turnd_len]; exact hn)
  have HSB : Hid (sealB key nonce s = nonce.l ++ sc ++ (markT key nonce.l sc).l) := hide (by rw [hsc]; rfl)
  clear hP hsc hn
  go_enter Tryd.func36, Tryd.ntmps36
  go_wp2_with fail
  rw [← hW1]
  clear hW1
  refine wp_region_ext mixed 6 (fun i v w' => match i with
    | 0 => v = .slice (some ⟨w.heap.size + 1, 0, none⟩) 32 32
    | 1 => v = .string (txt nonce.l)
    | 2 => v = tgV key
    | 3 => v = tgV nonce
    | 4 => v = .string (txt s)
    | _ => v = .string (txt sc)
    ) (regOk_of (by kernel_rfl)) rfl ?_ ?_ ?_
  · intro i v w1 w2 h1 h2
    split at h2 <;> exact h2
  · refine ⟨fun a w2 hle hd hf hs K hK => ?_, fun a w2 hle hd hf hs K hK => ?_, fun a w2 hle hd hf hs K hK => ?_, fun a w2 hle hd hf hs K hK => ?_, fun a w2 hle hd hf hs K hK => ?_, fun a w2 hle hd hf hs K hK => ?_, trivial⟩
    all_goals clear hd
    · -- 9 := Op.slice 29 t4 none none none
      have e4 := hf 4 rfl; simp [Act.eval] at e4
      go_simp; exact hK _ _ (Ext.refl _) rfl
    · -- 10 := Op.convert 22 9 t9
      have e9 := hs 0 9 (needs_direct (by kernel_rfl)) rfl; simp [Act.eval] at e9
      have hq := row_string (P := Tryd.prog) Tryd.underlying22 Tryd.underlying5 Tryd.underlying9 (HNR.out.below hle)
      go_simp; exact hK _ _ (Ext.refl _) rfl
    · -- 11 := Op.load 29 t3
      have e3 := hf 3 rfl; simp [Act.eval] at e3
      have hq : agg? w2 ⟨w.heap.size, 0, none⟩ 32 = some (tgC key) := (agg_of_row (hle.heap HK1.out) 0 32 (by decide)).trans (tgC_part key)
      go_simp; exact hK _ _ (Ext.refl _) rfl
    · -- 12 := Op.load 29 t4
      have e4 := hf 4 rfl; simp [Act.eval] at e4
      have hq : agg? w2 ⟨w.heap.size + 1, 0, none⟩ 32 = some (tgC nonce) := (agg_of_row (hle.heap HN1.out) 0 32 (by decide)).trans (tgC_part nonce)
      go_simp; exact hK _ _ (Ext.refl _) rfl
    · -- 13 := Op.move t2
      have e2 := hf 2 rfl; simp [Act.eval] at e2
      go_simp; exact hK _ _ (Ext.refl _) rfl
    · -- 14 := Op.call { value (Operand.func 80), args := #[t11, t12, t13], argTypes := #[29, 29, 9] }
      have e11 := hs 2 11 (needs_direct (by kernel_rfl)) rfl; have e12 := hs 3 12 (needs_direct (by kernel_rfl)) rfl; have e13 := hs 4 13 (needs_direct (by kernel_rfl)) rfl; simp [Act.eval] at e11 e12 e13
      go_simp
      refine (c_sturned key nonce s w2 HSL.out (HPR.out.ext hle)).mono ?_
      rintro z w9 ⟨rfl, b9⟩
      rw [HSC.out]
      exact hK _ _ b9 rfl
  intro vs w8 hle hs
  have v1 := hs 1 (by omega) rfl
  have v5 := hs 5 (by omega) rfl
  simp only at v1 v5
  clear hs
  have hag := (agg_of_row (hle.heap HK1.out) 0 32 (by decide)).trans (tgC_part key)
  have HP8 := hide (HPR.out.ext hle)
  have HB8 := hide (HB1.out.trans (hle.mono HB1.out.size))
  clear hle
  have hz1 : (txt nonce.l).size = 32 := by rw [txt_size, nonce.len]
  have hz2 : (txt sc).size < 1048576 := by rw [txt_size]; exact HLC.out
  have hz3 : (txt (markT key nonce.l sc).l).size = 32 := by rw [txt_size, (markT key nonce.l sc).len]
  simp only [putN, dstAt]
  go_simp
  go_wp2_with fail
  refine (c_smark key nonce.l sc w8 (by rw [nonce.len]; decide) HLC.out HP8.out).mono ?_
  rintro e w9 ⟨rfl, b9⟩
  have HB9 := hide (HB8.out.trans (b9.mono HB8.out.size))
  clear b9
  have hz4 : (txt nonce.l ++ txt sc).size < 2097152 := by rw [txt_add, txt_size, List.length_append, nonce.len]; have := HLC.out; omega
  go_wp2_with fail
  go_ret
  refine ⟨?_, HB9.out⟩
  rw [HSB.out, ← txt_add, ← txt_add]
  rfl
end Go.Proofs.YtdkeflhgengblaaDoor
namespace Go.Proofs.YtdkeflhgengblaaDoor
open Go.RowKit
/-- []byte(text), at the operation. -/
theorem wp_tobytes {P : Program} {E : TypeId} {w : World} {op : Oper} {a : Act} {K : Act → World → Prop} {Q : Exit → Act → World → Prop} (S D : TypeId) (x : Operand) (ho : op.op = .convert S D x) (s : ByteArray) (hx : a.eval x = .string s)
    (hS : P.underlying S = some .string) (hD : P.underlying D = some (.slice E)) (hE : P.underlying E = some (.int .u8)) (hs : s.size ≤ 9223372036854775807)
    (k : ∀ c w', kU8.Row (fun k => k = w.heap.size) w' (some ⟨w.heap.size, 0, none⟩) s.size c (byt s) → Below w.heap.size w w' → K (a.put op.dst (.slice (some ⟨w.heap.size, 0, none⟩) s.size c)) w') : op.wp P a w K Q := by
  unfold Oper.wp execOp
  simp only [ho, hx, Sem.run_bind, Sem.run_pure, Result.andThen_ok, Lib.run_convert_string_bytes w S D E s hS hD hE]
  exact k _ _ (bytes_new w E s hs) (bytesWorld_below w E s)

/-- A part of a text. -/
theorem ext_txt (s : List UInt8) (i j : Nat) : (txt s).extract i j = txt ((s.drop i).take (j - i)) := by
  apply ByteArray.ext
  rw [ByteArray.data_extract]
  apply Array.toList_inj.1
  simp [List.extract_eq_take_drop]
theorem ext_is {s l : List UInt8} {i j a b : Nat} (h : (s.drop a).take (b - a) = l) (hi : i = a) (hj : j = b) : Value.string ((txt s).extract i j) = .string (txt l) := by
  subst hi hj
  rw [ext_txt, h]
end Go.Proofs.YtdkeflhgengblaaDoor
namespace Go.Proofs.YtdkeflhgengblaaDoor
open Go.RowKit
attribute [local go_sem ↓] ld8 ld32 ld64 ld73
attribute [local go_sem] run_ldAgg run_storeAgg agg_alloc_at agg_alloc_past agg_drew agg_setCell row_alloc_at row_alloc_past row_drew setRow_alloc_at setRow_alloc_past setRow_drew agg_setRow_at agg_setRow_far cell_setRow_at cell_setRow_far row_setRow_far size_setRow s8C_size s8C_part s8C_one s8C_splice0 s8C_ne dgC_size dgC_72 dgC_part dgC_h dgC_r dgC_splice_h dgC_set dgC_one dgC_splice0 dgC_ne zero_dg
attribute [local go_sem] tgC_size tgC_one tgC_part tgC_splice tgC_splice_any zero_tg tgC_ne

/-- What is opened, as a value. -/
def openV (o : Option (List UInt8)) : Value := .tuple #[.string (txt (o.getD [])), .bool o.isSome]
theorem openB_parts {key : Tg} {s nb cb tb : List UInt8} {E : Nat} (hm : s.length = E + 32) (hE : 32 ≤ E) (h1 : (s.drop 0).take (32 - 0) = nb) (h2 : (s.drop 32).take (E - 32) = cb) (h3 : (s.drop E).take (E + 32 - E) = tb) :
    nb.length = 32 ∧ cb.length = E - 32 ∧ tb.length = 32 ∧ openB key s = if (markT key nb cb).l = tb then some (turnd key (tagL nb) cb) else none := by
  have e1 : s.take 32 = nb := h1
  have e3 : s.drop (s.length - 32) = tb := by
    rw [← h3, List.take_of_length_le (by rw [List.length_drop]; omega), hm, Nat.add_sub_cancel]
  refine ⟨by rw [← e1, List.length_take]; omega, by rw [← h2, List.length_take, List.length_drop]; omega, by rw [← e3, List.length_drop]; omega, ?_⟩
  rw [openB, if_neg (by omega), e1, e3, hm, show E + 32 - 64 = E - 32 by omega, h2]
set_option maxRecDepth 100000 in
set_option maxHeartbeats 1600000 in
theorem c_open (key : Tg) (s : List UInt8) (w : World) (hn : s.length < 1048576) (hP : PrimesAt w) :
    Calls Tryd.prog 34 #[tgV key, .string (txt s)] w fun e w' => e = .returned (openV (openB key s)) ∧ Below w.heap.size w w' := by
  have hw0 := hP.1
  obtain ⟨m, hmm⟩ : ∃ m, m = s.length := ⟨_, rfl⟩
  have hsz : (txt s).size = m := by rw [txt_size, hmm]
  obtain ⟨W1, hW1⟩ : ∃ W1, W1 = w.alloc (.cells (tgC key) 29) := ⟨_, rfl⟩
  have HB1 : Hid (Below w.heap.size w W1) := hide (by rw [hW1]; exact below1 _ _)
  have HK1 : Hid (W1.heap[w.heap.size]? = some (.cells (tgC key) 29)) := hide (by rw [hW1]; exact heap_alloc_new _ _)
  have HP1 : Hid (PrimesAt W1) := hide (hP.ext HB1.out)
  rw [← hmm] at hn
  by_cases h64 : m < 64
  · have HOB : Hid (openB key s = none) := hide (by rw [openB, if_pos (by omega)])
    clear hP hmm
    go_enter Tryd.func34, Tryd.ntmps34
    go_wp2_with fail
    rw [← hW1]
    exact bodyPost_ret (v := openV none) (by simp [results, Tryd.results34, go_sem, openV]) rfl ⟨by rw [HOB.out], HB1.out⟩
  · obtain ⟨E, hE⟩ : ∃ E, m = E + 32 := ⟨m - 32, by omega⟩
    subst hE
    obtain ⟨nb, hnb⟩ : ∃ nb, (s.drop 0).take (32 - 0) = nb := ⟨_, rfl⟩
    obtain ⟨cb, hcb⟩ : ∃ cb, (s.drop 32).take (E - 32) = cb := ⟨_, rfl⟩
    obtain ⟨tb, htb⟩ : ∃ tb, (s.drop E).take (E + 32 - E) = tb := ⟨_, rfl⟩
    obtain ⟨l1, l2, l3, hob⟩ := openB_parts (key := key) hmm.symm (by omega) hnb hcb htb
    obtain ⟨mk, hmk⟩ : ∃ mk, (markT key nb cb).l = mk := ⟨_, rfl⟩
    obtain ⟨tn, htn⟩ : ∃ tn, tagL nb = tn := ⟨_, rfl⟩
    obtain ⟨pl, hpl⟩ : ∃ pl, turnd key tn cb = pl := ⟨_, rfl⟩
    obtain ⟨bq, hbq⟩ : ∃ bq, decide (mk = tb) = bq := ⟨_, rfl⟩
    have hzm : (txt mk).size = 32 := by rw [txt_size, ← hmk, (markT key nb cb).len]
    have hzt : (txt tb).size = 32 := by rw [txt_size, l3]
    have hzn : (txt nb).size = 32 := by rw [txt_size, l1]
    rw [hmk, htn, hpl] at hob
    have hE1 : (32 : Int) ≤ (E : Int) + 32 := by omega
    have hE2 : (32 : Int) ≤ (E : Int) := by omega
    have hE3 : (E : Int) ≤ (E : Int) + 32 := by omega
    have HOB : Hid (openB key s = if bq = true then some pl else none) := hide (by rw [hob, ← hbq]; simp only [decide_eq_true_eq])
    have HNB := hide hnb
    have HCB := hide hcb
    have HTB := hide htb
    have HMK := hide hmk
    have HPL := hide hpl
    have HBQ := hide hbq
    have HL32 := hide l1
    have HTN : Hid ((nb.map bv).toArray = tgC tn) := hide (by rw [← htn, tgC, tagL_l l1])
    have HLN : Hid (nb.length < 1048576) := hide (by omega)
    have HLC : Hid (cb.length < 1048576) := hide (by omega)
    clear hP hmm hnb hcb htb hmk htn hpl hbq l1 l2 l3 hob
    go_enter Tryd.func34, Tryd.ntmps34
    go_wp2_with fail
    rw [← hW1]
    clear hW1
    refine wp_region_ext mixed 7 (fun i v w' => match i with
      | 0 => v = .string (txt s)
      | 1 => v = .string (txt nb)
      | 2 => v = .string (txt s)
      | 3 => v = .int .i64 (E : Int)
      | 4 => v = .string (txt cb)
      | 5 => v = .string (txt nb)
      | _ => v = .string (txt cb)
      ) (regOk_of (by kernel_rfl)) rfl ?_ ?_ ?_
    · intro i v w1 w2 h1 h2
      split at h2 <;> exact h2
    · refine ⟨fun a w2 hle hd hf hs K hK => ?_, fun a w2 hle hd hf hs K hK => ?_, fun a w2 hle hd hf hs K hK => ?_, fun a w2 hle hd hf hs K hK => ?_, fun a w2 hle hd hf hs K hK => ?_, fun a w2 hle hd hf hs K hK => ?_, fun a w2 hle hd hf hs K hK => ?_, trivial⟩
      all_goals clear hd
      · -- 15 := Op.move t1
        have e1 := hf 1 rfl; simp [Act.eval] at e1
        go_simp; exact hK _ _ (Ext.refl _) rfl
      · -- 16 := Op.slice 9 t15 none (some (const (32:i64))) none
        have e15 := hs 0 15 (needs_direct (by kernel_rfl)) rfl; simp [Act.eval] at e15
        go_simp
        exact hK _ _ (Ext.refl _) (ext_is HNB.out rfl rfl)
      · -- 17 := Op.move t1
        have e1 := hf 1 rfl; simp [Act.eval] at e1
        go_simp; exact hK _ _ (Ext.refl _) rfl
      · -- 18 := Op.move t6
        have e6 := hf 6 rfl; simp [Act.eval] at e6
        go_simp; exact hK _ _ (Ext.refl _) rfl
      · -- 19 := Op.slice 9 t17 (some (const (32:i64))) (some t18) none
        have e17 := hs 2 17 (needs_direct (by kernel_rfl)) rfl; have e18 := hs 3 18 (needs_direct (by kernel_rfl)) rfl; simp [Act.eval] at e17 e18
        go_simp
        exact hK _ _ (Ext.refl _) (ext_is HCB.out rfl rfl)
      · -- 7 := Op.assign t16
        have e16 := hs 1 16 (needs_direct (by kernel_rfl)) rfl; simp [Act.eval] at e16
        go_simp; exact hK _ _ (Ext.refl _) rfl
      · -- 8 := Op.assign t19
        have e19 := hs 4 19 (needs_direct (by kernel_rfl)) rfl; simp [Act.eval] at e19
        go_simp; exact hK _ _ (Ext.refl _) rfl
    intro vs w8 hle hs
    have v5 := hs 5 (by omega) rfl
    have v6 := hs 6 (by omega) rfl
    simp only at v5 v6
    clear hs
    have HB2 := hide (HB1.out.trans (hle.mono HB1.out.size))
    have HK2 := hide (hle.heap HK1.out)
    have HP2 := hide (HP1.out.ext hle)
    obtain ⟨W2, hW2⟩ : ∃ W2, W2 = w8 := ⟨_, rfl⟩
    rw [← hW2] at HB2 HK2 HP2 ⊢
    clear hW2 hle HB1 HK1 HP1
    simp only [putN, dstAt]
    go_simp
    go_wp2_with fail
    refine wp_region_ext mixed 11 (fun i v w' => match i with
      | 0 => v = tgV key
      | 1 => v = .string (txt nb)
      | 2 => v = .string (txt cb)
      | 3 => v = .string (txt mk)
      | 4 => ∃ A c, v = .slice A 32 c ∧ kU8.Row (fun _ => True) w' A 32 c mk
      | 5 => v = .string (txt s)
      | 6 => v = .int .i64 (E : Int)
      | 7 => v = .string (txt tb)
      | 8 => ∃ A c, v = .slice A 32 c ∧ kU8.Row (fun _ => True) w' A 32 c tb
      | 9 => v = .bool bq
      | _ => v = .bool (!bq)
      ) (regOk_of (by kernel_rfl)) rfl ?_ ?_ ?_
    · intro i v w1 w2 h1 h2
      split at h2 <;> first | exact h2 | (obtain ⟨A, c, e, hr⟩ := h2; exact ⟨A, c, e, hr.below h1⟩)
    · refine ⟨fun a w2 hle hd hf hs K hK => ?_, fun a w2 hle hd hf hs K hK => ?_, fun a w2 hle hd hf hs K hK => ?_, fun a w2 hle hd hf hs K hK => ?_, fun a w2 hle hd hf hs K hK => ?_, fun a w2 hle hd hf hs K hK => ?_, fun a w2 hle hd hf hs K hK => ?_, fun a w2 hle hd hf hs K hK => ?_, fun a w2 hle hd hf hs K hK => ?_, fun a w2 hle hd hf hs K hK => ?_, fun a w2 hle hd hf hs K hK => ?_, trivial⟩
      all_goals clear hd
      · -- 20 := Op.load 29 t2
        have e2 := hf 2 rfl; simp [Act.eval] at e2
        have hq : agg? w2 ⟨w.heap.size, 0, none⟩ 32 = some (tgC key) := (agg_of_row (hle.heap HK2.out) 0 32 (by decide)).trans (tgC_part key)
        go_simp; exact hK _ _ (Ext.refl _) rfl
      · -- 21 := Op.move t7
        have e7 := hf 7 rfl; simp [Act.eval] at e7
        go_simp; exact hK _ _ (Ext.refl _) rfl
      · -- 22 := Op.move t8
        have e8 := hf 8 rfl; simp [Act.eval] at e8
        go_simp; exact hK _ _ (Ext.refl _) rfl
      · -- 23 := Op.call { value (Operand.func 79), args := #[t20, t21, t22], argTypes := #[29, 9, 9] }
        have e20 := hs 0 20 (needs_direct (by kernel_rfl)) rfl; have e21 := hs 1 21 (needs_direct (by kernel_rfl)) rfl; have e22 := hs 2 22 (needs_direct (by kernel_rfl)) rfl; simp [Act.eval] at e20 e21 e22
        go_simp
        refine (c_smark key nb cb w2 HLN.out HLC.out (HP2.out.ext hle)).mono ?_
        rintro z w9 ⟨rfl, b9⟩
        rw [HMK.out]
        exact hK _ _ b9 rfl
      · -- 24 := Op.convert 9 22 t23
        have e23 := hs 3 23 (needs_direct (by kernel_rfl)) rfl; simp [Act.eval] at e23
        have f23 := hs 3 23 (needs_direct (by kernel_rfl)) rfl
        refine wp_tobytes 9 22 _ rfl (txt mk) f23 Tryd.underlying9 Tryd.underlying22 Tryd.underlying5 (by rw [hzm]; decide) ?_
        intro c w' h1 h2
        rw [byt_txt, hzm] at h1
        rw [hzm]
        exact hK _ _ h2 ⟨_, c, rfl, h1.more fun _ _ => trivial⟩
      · -- 25 := Op.move t1
        have e1 := hf 1 rfl; simp [Act.eval] at e1
        go_simp; exact hK _ _ (Ext.refl _) rfl
      · -- 26 := Op.move t6
        have e6 := hf 6 rfl; simp [Act.eval] at e6
        go_simp; exact hK _ _ (Ext.refl _) rfl
      · -- 27 := Op.slice 9 t25 (some t26) none none
        have e25 := hs 5 25 (needs_direct (by kernel_rfl)) rfl; have e26 := hs 6 26 (needs_direct (by kernel_rfl)) rfl; simp [Act.eval] at e25 e26
        go_simp
        exact hK _ _ (Ext.refl _) (ext_is HTB.out rfl rfl)
      · -- 28 := Op.convert 9 22 t27
        have e27 := hs 7 27 (needs_direct (by kernel_rfl)) rfl; simp [Act.eval] at e27
        have f27 := hs 7 27 (needs_direct (by kernel_rfl)) rfl
        refine wp_tobytes 9 22 _ rfl (txt tb) f27 Tryd.underlying9 Tryd.underlying22 Tryd.underlying5 (by rw [hzt]; decide) ?_
        intro c w' h1 h2
        rw [byt_txt, hzt] at h1
        rw [hzt]
        exact hK _ _ h2 ⟨_, c, rfl, h1.more fun _ _ => trivial⟩
      · -- 29 := Op.call { value (Operand.func 78), args := #[t24, t28], argTypes := #[22, 22] }
        obtain ⟨A24, c24, e24, hr24⟩ := hs 4 24 (needs_direct (by kernel_rfl)) rfl; obtain ⟨A28, c28, e28, hr28⟩ := hs 8 28 (needs_direct (by kernel_rfl)) rfl; simp [Act.eval] at e24 e28
        go_simp
        refine (c_tagequal _ _ 32 c24 32 c28 mk tb _ _ w2 hr24 hr28).mono ?_
        rintro z w9 ⟨rfl, b9⟩
        rw [HBQ.out]
        exact hK _ _ b9 rfl
      · -- 30 := Op.unOp UnOp.not 4 t29
        have e29 := hs 9 29 (needs_direct (by kernel_rfl)) rfl; simp [Act.eval] at e29
        go_simp; exact hK _ _ (Ext.refl _) rfl
    intro vs w8 hle hs
    have v10 := hs 10 (by omega) rfl
    simp only at v10
    clear hs
    have HB3 := hide (HB2.out.trans (hle.mono HB2.out.size))
    have HK3 := hide (hle.heap HK2.out)
    have HP3 := hide (HP2.out.ext hle)
    obtain ⟨W3, hW3⟩ : ∃ W3, W3 = w8 := ⟨_, rfl⟩
    rw [← hW3] at HB3 HK3 HP3 ⊢
    clear hW3 hle HB2 HK2 HP2
    simp only [putN, dstAt]
    go_simp
    cases bq with
    | false =>
      go_wp2_with fail
      exact bodyPost_ret (v := openV none) (by simp [results, Tryd.results34, go_sem, openV]) rfl ⟨by rw [HOB.out]; rfl, HB3.out⟩
    | true =>
      go_wp2_with fail
      refine wp_region_ext mixed 9 (fun i v w' => match i with
        | 0 => v = tgV key
        | 1 => v = .string (txt nb)
        | 2 => ∃ A c, v = .slice A 32 c ∧ kU8.Row (fun _ => True) w' A 32 c nb
        | 3 => ∃ A c, v = .pointer A ∧ kU8.Row (fun _ => True) w' A 32 c nb
        | 4 => v = tgV tn
        | 5 => v = .string (txt cb)
        | 6 => v = .string (txt pl)
        | 7 => v = .string (txt pl)
        | _ => v = .bool true
        ) (regOk_of (by kernel_rfl)) rfl ?_ ?_ ?_
      · intro i v w1 w2 h1 h2
        split at h2 <;> first | exact h2 | (obtain ⟨A, c, e, hr⟩ := h2; exact ⟨A, c, e, hr.below h1⟩)
      · refine ⟨fun a w2 hle hd hf hs K hK => ?_, fun a w2 hle hd hf hs K hK => ?_, fun a w2 hle hd hf hs K hK => ?_, fun a w2 hle hd hf hs K hK => ?_, fun a w2 hle hd hf hs K hK => ?_, fun a w2 hle hd hf hs K hK => ?_, fun a w2 hle hd hf hs K hK => ?_, fun a w2 hle hd hf hs K hK => ?_, fun a w2 hle hd hf hs K hK => ?_, trivial⟩
        all_goals clear hd
        · -- 31 := Op.load 29 t2
          have e2 := hf 2 rfl; simp [Act.eval] at e2
          have hq : agg? w2 ⟨w.heap.size, 0, none⟩ 32 = some (tgC key) := (agg_of_row (hle.heap HK3.out) 0 32 (by decide)).trans (tgC_part key)
          go_simp; exact hK _ _ (Ext.refl _) rfl
        · -- 32 := Op.move t7
          have e7 := hf 7 rfl; simp [Act.eval] at e7
          go_simp; exact hK _ _ (Ext.refl _) rfl
        · -- 33 := Op.convert 9 22 t32
          have e32 := hs 1 32 (needs_direct (by kernel_rfl)) rfl; simp [Act.eval] at e32
          have f32 := hs 1 32 (needs_direct (by kernel_rfl)) rfl
          refine wp_tobytes 9 22 _ rfl (txt nb) f32 Tryd.underlying9 Tryd.underlying22 Tryd.underlying5 (by rw [hzn]; decide) ?_
          intro c w' h1 h2
          rw [byt_txt, hzn] at h1
          rw [hzn]
          exact hK _ _ h2 ⟨_, c, rfl, h1.more fun _ _ => trivial⟩
        · -- 34 := Op.sliceToArrayPointer 29 t33
          obtain ⟨A33, c33, e33, hr33⟩ := hs 2 33 (needs_direct (by kernel_rfl)) rfl; simp [Act.eval] at e33
          obtain ⟨p, o, rfl, -, hb, hc⟩ := row_bytes hr33 (by decide)
          have hap : ∀ wx : World, (Instr.arrayAt 29 (.slice (some ⟨p, o, none⟩) 32 c33)).run Tryd.prog wx = .ok (.pointer (some ⟨p, o, none⟩)) wx := fun wx => by simp [Instr.arrayAt, run_underlying Tryd.underlying29]
          go_simp
          exact hK _ _ (Ext.refl _) ⟨_, c33, rfl, hr33⟩
        · -- 35 := Op.load 29 t34
          obtain ⟨A34, c34, e34, hr34⟩ := hs 3 34 (needs_direct (by kernel_rfl)) rfl; simp [Act.eval] at e34
          obtain ⟨p, o, rfl, -, hb, hc⟩ := row_bytes hr34 (by decide)
          have hag : agg? w2 ⟨p, o, none⟩ 32 = some (tgC tn) := by
            have := agg_range (w := w2) (b := p) (o := o) (cs := nb.map bv) (fun j v hv => by
              rw [List.getElem?_map] at hv
              obtain ⟨x, hx, rfl⟩ := Option.map_eq_some_iff.1 hv
              exact hc j x hx) 32 (by rw [List.length_map]; exact HL32.out)
            rw [this, HTN.out]
          go_simp
          exact hK _ _ (Ext.refl _) rfl
        · -- 36 := Op.move t8
          have e8 := hf 8 rfl; simp [Act.eval] at e8
          go_simp; exact hK _ _ (Ext.refl _) rfl
        · -- 37 := Op.call { value (Operand.func 80), args := #[t31, t35, t36], argTypes := #[29, 29, 9] }
          have e31 := hs 0 31 (needs_direct (by kernel_rfl)) rfl; have e35 := hs 4 35 (needs_direct (by kernel_rfl)) rfl; have e36 := hs 5 36 (needs_direct (by kernel_rfl)) rfl; simp [Act.eval] at e31 e35 e36
          go_simp
          refine (c_sturned key tn cb w2 HLC.out (HP3.out.ext hle)).mono ?_
          rintro z w9 ⟨rfl, b9⟩
          rw [HPL.out]
          exact hK _ _ b9 rfl
        · -- 4 := Op.assign t37
          have e37 := hs 6 37 (needs_direct (by kernel_rfl)) rfl; simp [Act.eval] at e37
          go_simp; exact hK _ _ (Ext.refl _) rfl
        · -- 5 := Op.assign (const (Value.bool true))
          go_simp; exact hK _ _ (Ext.refl _) rfl
      intro vs w8 hle hs
      have v7 := hs 7 (by omega) rfl
      have v8 := hs 8 (by omega) rfl
      simp only at v7 v8
      clear hs
      have HB4 := hide (HB3.out.trans (hle.mono HB3.out.size))
      clear hle
      simp only [putN, dstAt]
      go_simp
      go_wp2_with fail
      exact bodyPost_ret (v := openV (some pl)) (by simp [results, Tryd.results34, go_sem, openV]) rfl ⟨by rw [HOB.out]; rfl, HB4.out⟩
end Go.Proofs.YtdkeflhgengblaaDoor
namespace Go.Proofs.YtdkeflhgengblaaDoor
open Go.RowKit
attribute [local go_sem ↓] ld8 ld32 ld64 ld73
attribute [local go_sem] run_ldAgg run_storeAgg agg_alloc_at agg_alloc_past agg_drew agg_setCell row_alloc_at row_alloc_past row_drew setRow_alloc_at setRow_alloc_past setRow_drew agg_setRow_at agg_setRow_far cell_setRow_at cell_setRow_far row_setRow_far size_setRow s8C_size s8C_part s8C_one s8C_splice0 s8C_ne dgC_size dgC_72 dgC_part dgC_h dgC_r dgC_splice_h dgC_set dgC_one dgC_splice0 dgC_ne zero_dg
attribute [local go_sem] tgC_size tgC_one tgC_part tgC_splice tgC_splice_any zero_tg tgC_ne

set_option maxRecDepth 100000 in
set_option maxHeartbeats 800000 in
theorem c_rseal (key nonce : Tg) (s : List UInt8) (w : World) (hn : s.length < 1048576) :
    Calls Tryd.prog 37 #[tgV key, tgV nonce, .string (txt s)] w fun e w' => e = .returned (.string (txt (sealB key nonce s))) ∧ Below w.heap.size w w' := by
  obtain ⟨W1, hW1⟩ : ∃ W1, W1 = (w.alloc (.cells (tgC key) 29)).alloc (.cells (tgC nonce) 29) := ⟨_, rfl⟩
  have HB1 : Hid (Below w.heap.size w W1) := hide (by rw [hW1]; exact below2 _ _ _)
  have hs1 : W1.heap.size = w.heap.size + 2 := by rw [hW1]; simp only [World.size_alloc]
  have HK1 : Hid (W1.heap[w.heap.size]? = some (.cells (tgC key) 29)) := hide (by
    rw [hW1, Below.heap_alloc _ _ _ (by simp only [World.size_alloc]; omega)]; exact heap_alloc_new _ _)
  have HN1 : Hid (W1.heap[w.heap.size + 1]? = some (.cells (tgC nonce) 29)) := hide (by
    rw [hW1]
    have := heap_alloc_new (w.alloc (.cells (tgC key) 29)) (.cells (tgC nonce) 29)
    rwa [World.size_alloc] at this)
  have HNR1 := hide (tag_row nonce HN1.out)
  obtain ⟨sc, hsc⟩ : ∃ sc, sc = turnd key nonce s := ⟨_, rfl⟩
  have HSC : Hid (turnd key nonce s = sc) := hide hsc.symm
  have hlc : sc.length < 1048576 := by rw [hsc, turnd_len]; exact hn
  have HLC := hide hlc
  obtain ⟨t, htt⟩ : ∃ t, t = markT key nonce.l sc := ⟨_, rfl⟩
  have HT : Hid (dkey key uSeal [txt nonce.l, txt sc] = t) := hide (by rw [htt]; rfl)
  have HSB : Hid (sealB key nonce s = nonce.l ++ sc ++ t.l) := hide (by rw [htt, hsc]; rfl)
  have HSZ := hide (two_sizes (a := nonce.l) (c := sc) (by rw [nonce.len]; decide) hlc)
  have HFL := hide (mark_len (a := nonce.l) (c := sc) (by rw [nonce.len]; decide) hlc)
  have HSL := hide hn
  clear hsc htt hlc hn
  go_enter Tryd.func37, Tryd.ntmps37
  go_wp2_with fail
  rw [← hW1]
  clear hW1
  have hag1 : agg? W1 ⟨w.heap.size, 0, none⟩ 32 = some (tgC key) := (agg_of_row HK1.out 0 32 (by decide)).trans (tgC_part key)
  have hag2 : agg? W1 ⟨w.heap.size + 1, 0, none⟩ 32 = some (tgC nonce) := (agg_of_row HN1.out 0 32 (by decide)).trans (tgC_part nonce)
  go_wp2_with fail
  refine (c_rsturned key nonce s W1 HSL.out).mono ?_
  rintro e w5 ⟨rfl, b5⟩
  rw [HSC.out]
  have HK5 := hide ((b5.block _ (by omega)).trans HK1.out)
  have HNR := hide (HNR1.out.below b5)
  have HB5 := hide (HB1.out.trans (b5.mono (by omega)))
  clear b5 hag1 hag2 HK1 HN1 HNR1 HB1
  go_wp2_with fail
  refine wp_region_ext mixed 7 (fun i v w' => match i with
    | 0 => v = tgV key
    | 1 => v = .slice (some ⟨w.heap.size + 1, 0, none⟩) 32 32
    | 2 => v = .string (txt nonce.l)
    | 3 => v = .string (txt sc)
    | 4 => ∃ A c, v = .slice A 2 c ∧ kStr.Row (fun _ => True) w' A 2 c [txt nonce.l, txt sc]
    | 5 => v = tgV t
    | _ => ∃ g, v = .pointer (some ⟨g, 0, none⟩) ∧ w5.heap.size ≤ g ∧ w'.heap[g]? = some (.cells (tgC Tg.zero) 29)
    ) (regOk_of (by kernel_rfl)) rfl ?_ ?_ ?_
  · intro i v w1 w2 h1 h2
    split at h2 <;> first | exact h2 | (obtain ⟨g, rfl, hg⟩ := h2; exact ⟨g, rfl, h1.heap hg⟩) | (obtain ⟨g, rfl, hgl, hg⟩ := h2; exact ⟨g, rfl, hgl, h1.heap hg⟩) | (obtain ⟨A, c, e, hr⟩ := h2; exact ⟨A, c, e, hr.below h1⟩)
  · refine ⟨fun a w2 hle hd hf hs K hK => ?_, fun a w2 hle hd hf hs K hK => ?_, fun a w2 hle hd hf hs K hK => ?_, fun a w2 hle hd hf hs K hK => ?_, fun a w2 hle hd hf hs K hK => ?_, fun a w2 hle hd hf hs K hK => ?_, fun a w2 hle hd hf hs K hK => ?_, trivial⟩
    all_goals clear hd
    · -- 13 := Op.load 29 t3
      have e3 := hf 3 rfl; simp [Act.eval] at e3
      have hq : agg? w2 ⟨w.heap.size, 0, none⟩ 32 = some (tgC key) := (agg_of_row (hle.heap HK5.out) 0 32 (by decide)).trans (tgC_part key)
      go_simp; exact hK _ _ (Ext.refl _) rfl
    · -- 14 := Op.slice 29 t4 none none none
      have e4 := hf 4 rfl; simp [Act.eval] at e4
      go_simp; exact hK _ _ (Ext.refl _) rfl
    · -- 15 := Op.convert 22 9 t14
      have e14 := hs 1 14 (needs_direct (by kernel_rfl)) rfl; simp [Act.eval] at e14
      have hq := row_string (P := Tryd.prog) Tryd.underlying22 Tryd.underlying5 Tryd.underlying9 (HNR.out.below hle)
      go_simp; exact hK _ _ (Ext.refl _) rfl
    · -- 16 := Op.move t7
      have e7 := hf 7 rfl; simp [Act.eval] at e7
      go_simp; exact hK _ _ (Ext.refl _) rfl
    · -- 17 := Op.buildSlice 34 2 #[(0, t15), (1, t16)]
      have e15 := hs 2 15 (needs_direct (by kernel_rfl)) rfl; have e16 := hs 3 16 (needs_direct (by kernel_rfl)) rfl; simp [Act.eval] at e15 e16
      go_simp
      exact hK _ _ (Ext.alloc _ _) ⟨_, _, rfl, strs_row [txt nonce.l, txt sc] (heap_alloc_new _ _) rfl HSZ.out (by simp [maxLen])⟩
    · -- 18 := Op.call { value (Operand.func 23), args := #[t13, const (Value.string { data := #[115, 101, 97, 108] }), t17], argTypes := #[29, 9, 34] }
      have e13 := hs 0 13 (needs_direct (by kernel_rfl)) rfl; obtain ⟨A17, c17, e17, hr17⟩ := hs 4 17 (needs_direct (by kernel_rfl)) rfl; simp [Act.eval] at e13 e17
      go_simp
      refine (c_rkey key uSeal A17 2 c17 [txt nonce.l, txt sc] _ w2 hr17 (by decide) HFL.out).mono ?_
      rintro z w9 ⟨rfl, b9⟩
      rw [HT.out]
      exact hK _ _ b9 rfl
    · -- 8 := Op.alloc 29
      go_simp
      exact hK _ _ (Ext.alloc _ _) ⟨_, rfl, by have := hle.size; omega, heap_alloc_new _ _⟩
  intro vs w8 hle hs
  have v5 := hs 5 (by omega) rfl
  have v6 := hs 6 (by omega) rfl
  simp only at v5 v6
  clear hs
  obtain ⟨g, e6, hgl, hg⟩ := v6
  obtain ⟨W9, hW9⟩ : ∃ W9, W9 = w8.setRow g (tgC t) := ⟨_, rfl⟩
  have hrz := row_of hg
  have hb9 : Below w5.heap.size w5 W9 := by rw [hW9]; exact bsetRow hle hgl _
  have HG9 : W9.heap[g]? = some (.cells (tgC t) 29) := by rw [hW9]; exact setRow_heap w8 g (tgC Tg.zero) (tgC t) 29 _ hg
  have HTR9 := hide (tag_row t HG9)
  have HNR9 := hide (HNR.out.below hb9)
  have HB9 := hide (HB5.out.trans (hb9.mono HB5.out.size))
  have hz1 : (txt nonce.l).size = 32 := by rw [txt_size, nonce.len]
  have hz2 : (txt sc).size < 1048576 := by rw [txt_size]; exact HLC.out
  have hz3 : (txt t.l).size = 32 := by rw [txt_size, t.len]
  have hlc3 : ¬ 9223372036854775807 < 32 + sc.length := by have := HLC.out; omega
  have hlc4 : ¬ 9223372036854775807 < 32 + sc.length + 32 := by have := HLC.out; omega
  have hz4 : (txt nonce.l ++ txt sc).size < 2097152 := by rw [txt_add, txt_size, List.length_append, nonce.len]; have := HLC.out; omega
  clear hg hgl hle hb9 HG9 HK5 HB5 HNR
  simp only [putN, dstAt]
  go_simp
  go_wp2_with fail
  rw [← hW9]
  clear hW9
  refine wp_region_ext mixed 7 (fun i v w' => match i with
    | 0 => v = .slice (some ⟨w.heap.size + 1, 0, none⟩) 32 32
    | 1 => v = .string (txt nonce.l)
    | 2 => v = .string (txt sc)
    | 3 => v = .string (txt nonce.l ++ txt sc)
    | 4 => v = .slice (some ⟨g, 0, none⟩) 32 32
    | 5 => v = .string (txt t.l)
    | _ => v = .string (txt nonce.l ++ txt sc ++ txt t.l)
    ) (regOk_of (by kernel_rfl)) rfl ?_ ?_ ?_
  · intro i v w1 w2 h1 h2
    split at h2 <;> exact h2
  · refine ⟨fun a w2 hle hd hf hs K hK => ?_, fun a w2 hle hd hf hs K hK => ?_, fun a w2 hle hd hf hs K hK => ?_, fun a w2 hle hd hf hs K hK => ?_, fun a w2 hle hd hf hs K hK => ?_, fun a w2 hle hd hf hs K hK => ?_, fun a w2 hle hd hf hs K hK => ?_, trivial⟩
    all_goals clear hd
    · -- 19 := Op.slice 29 t4 none none none
      have e4 := hf 4 rfl; simp [Act.eval] at e4
      go_simp; exact hK _ _ (Ext.refl _) rfl
    · -- 20 := Op.convert 22 9 t19
      have e19 := hs 0 19 (needs_direct (by kernel_rfl)) rfl; simp [Act.eval] at e19
      have hq := row_string (P := Tryd.prog) Tryd.underlying22 Tryd.underlying5 Tryd.underlying9 (HNR9.out.below hle)
      go_simp; exact hK _ _ (Ext.refl _) rfl
    · -- 21 := Op.move t7
      have e7 := hf 7 rfl; simp [Act.eval] at e7
      go_simp; exact hK _ _ (Ext.refl _) rfl
    · -- 22 := Op.binOp BinOp.add 9 t20 t21 9
      have e20 := hs 1 20 (needs_direct (by kernel_rfl)) rfl; have e21 := hs 2 21 (needs_direct (by kernel_rfl)) rfl; simp [Act.eval] at e20 e21
      go_simp; exact hK _ _ (Ext.refl _) rfl
    · -- 23 := Op.slice 29 t8 none none none
      have e8 := hf 8 rfl; simp [Act.eval] at e8
      go_simp; exact hK _ _ (Ext.refl _) rfl
    · -- 24 := Op.convert 22 9 t23
      have e23 := hs 4 23 (needs_direct (by kernel_rfl)) rfl; simp [Act.eval] at e23
      have hq := row_string (P := Tryd.prog) Tryd.underlying22 Tryd.underlying5 Tryd.underlying9 (HTR9.out.below hle)
      go_simp; exact hK _ _ (Ext.refl _) rfl
    · -- 25 := Op.binOp BinOp.add 9 t22 t24 9
      have e22 := hs 3 22 (needs_direct (by kernel_rfl)) rfl; have e24 := hs 5 24 (needs_direct (by kernel_rfl)) rfl; simp [Act.eval] at e22 e24
      go_simp; exact hK _ _ (Ext.refl _) rfl
  intro vs w8 hle hs
  have v6 := hs 6 (by omega) rfl
  simp only at v6
  clear hs
  have HBE := hide (HB9.out.trans (hle.mono HB9.out.size))
  clear hle
  simp only [putN, dstAt]
  go_simp
  go_wp2_with fail
  go_ret
  refine ⟨?_, HBE.out⟩
  rw [HSB.out, ← txt_add, ← txt_add]
  rfl
set_option maxRecDepth 100000 in
set_option maxHeartbeats 800000 in
theorem c_ropen (key : Tg) (s : List UInt8) (w : World) (hn : s.length < 1048576) :
    Calls Tryd.prog 35 #[tgV key, .string (txt s)] w fun e w' => e = .returned (openV (openB key s)) ∧ Below w.heap.size w w' := by
  obtain ⟨m, hmm⟩ : ∃ m, m = s.length := ⟨_, rfl⟩
  have hsz : (txt s).size = m := by rw [txt_size, hmm]
  obtain ⟨W1, hW1⟩ : ∃ W1, W1 = w.alloc (.cells (tgC key) 29) := ⟨_, rfl⟩
  have HB1 : Hid (Below w.heap.size w W1) := hide (by rw [hW1]; exact below1 _ _)
  have HK1 : Hid (W1.heap[w.heap.size]? = some (.cells (tgC key) 29)) := hide (by rw [hW1]; exact heap_alloc_new _ _)
  have hs1 : W1.heap.size = w.heap.size + 1 := by rw [hW1]; simp only [World.size_alloc]
  rw [← hmm] at hn
  by_cases h64 : m < 64
  · have HOB : Hid (openB key s = none) := hide (by rw [openB, if_pos (by omega)])
    clear hmm
    go_enter Tryd.func35, Tryd.ntmps35
    go_wp2_with fail
    rw [← hW1]
    exact bodyPost_ret (v := openV none) (by simp [results, Tryd.results35, go_sem, openV]) rfl ⟨by rw [HOB.out], HB1.out⟩
  · obtain ⟨E, hE⟩ : ∃ E, m = E + 32 := ⟨m - 32, by omega⟩
    subst hE
    obtain ⟨nb, hnb⟩ : ∃ nb, (s.drop 0).take (32 - 0) = nb := ⟨_, rfl⟩
    obtain ⟨cb, hcb⟩ : ∃ cb, (s.drop 32).take (E - 32) = cb := ⟨_, rfl⟩
    obtain ⟨tb, htb⟩ : ∃ tb, (s.drop E).take (E + 32 - E) = tb := ⟨_, rfl⟩
    obtain ⟨l1, l2, l3, hob⟩ := openB_parts (key := key) hmm.symm (by omega) hnb hcb htb
    obtain ⟨tn, htn⟩ : ∃ tn, tagL nb = tn := ⟨_, rfl⟩
    obtain ⟨pl, hpl⟩ : ∃ pl, turnd key tn cb = pl := ⟨_, rfl⟩
    obtain ⟨X, hX⟩ : ∃ X, sealB key tn pl = X := ⟨_, rfl⟩
    have hzn : (txt nb).size = 32 := by rw [txt_size, l1]
    have htl : tn.l = nb := by rw [← htn, tagL_l l1]
    have hbq : X = s ↔ (markT key nb cb).l = tb := by
      have := open_seal (key := key) (s := s) (by omega)
      have e1 : s.take 32 = nb := hnb
      have e2 : (s.drop 32).take (s.length - 64) = cb := by rw [← hcb, ← hmm]; congr 1 <;> omega
      have e3 : s.drop (s.length - 32) = tb := by
        rw [← htb, List.take_of_length_le (by rw [List.length_drop]; omega), ← hmm, Nat.add_sub_cancel]
      rw [e1, e2, e3, htn, hpl, hX] at this
      exact this
    rw [htn, hpl] at hob
    have hE1 : (32 : Int) ≤ (E : Int) + 32 := by omega
    have hE2 : (32 : Int) ≤ (E : Int) := by omega
    have hE3 : (E : Int) ≤ (E : Int) + 32 := by omega
    have HNB := hide hnb
    have HCB := hide hcb
    have HPL := hide hpl
    have HXX := hide hX
    have HL32 := hide l1
    have HTL := hide htl
    have HLC : Hid (cb.length < 1048576) := hide (by omega)
    have HLP : Hid (pl.length < 1048576) := hide (by rw [← hpl, turnd_len]; omega)
    have HOB : Hid (openB key s = if X = s then some pl else none) := hide (by rw [hob]; by_cases h : X = s; rw [if_pos h, if_pos (hbq.1 h)]; rw [if_neg h, if_neg (fun e => h (hbq.2 e))])
    have hn63 : (txt nb).size ≤ 9223372036854775807 := by rw [hzn]; decide
    clear hmm hnb hcb htb htn hpl hX l1 l2 l3 hob htl hbq
    go_enter Tryd.func35, Tryd.ntmps35
    go_wp2_with ((with_reducible show wpList _ _ _ (Oper.mk (some 13) _ _ _ _ _ :: _) _ _); rw [← hW1]; go_loud (refine at_tobytes (P := Tryd.prog) 9 22 (txt nb) (ext_is HNB.out rfl rfl) Tryd.underlying9 Tryd.underlying22 Tryd.underlying5 hn63 (w.heap.size + 1) hs1 ?_))
    clear hW1
    intro c13 w13 h13 b13 _
    rw [byt_txt, hzn, ← HTL.out] at h13
    rw [hzn]
    have HR13 := hide h13
    have HB13 : Hid (Below W1.heap.size W1 w13) := hide (by rw [hs1]; exact b13)
    clear h13 b13
    go_wp2_with fail
    refine (c_rtag tn _ c13 _ w13 HR13.out).mono ?_
    rintro e w14 ⟨rfl, b14⟩
    obtain ⟨G, hG⟩ : ∃ G, G = w14.heap.size := ⟨_, rfl⟩
    obtain ⟨W6, hW6⟩ : ∃ W6, W6 = w14.alloc (.cells (tgC tn) 29) := ⟨_, rfl⟩
    have b16 : Below W1.heap.size W1 W6 := by rw [hW6]; exact (HB13.out.trans (b14.mono HB13.out.size)).alloc (Nat.le_trans HB13.out.size b14.size) _
    have HB6 := hide (HB1.out.trans (b16.mono HB1.out.size))
    have HK6 := hide ((b16.block _ (by omega)).trans HK1.out)
    have HG6 : Hid (W6.heap[G]? = some (.cells (tgC tn) 29)) := hide (by rw [hW6, hG]; exact heap_alloc_new _ _)
    clear b14 b16
    go_wp2_with fail
    rw [← hW6, ← hG]
    clear hW6 hG HB1 HK1 HB13 HR13
    refine wp_region_ext mixed 9 (fun i v w' => match i with
      | 0 => v = tgV key
      | 1 => v = tgV tn
      | 2 => v = .string (txt s)
      | 3 => v = .string (txt s)
      | 4 => v = .int .i64 ((E + 32 : Nat) : Int)
      | 5 => v = .int .i64 (E : Int)
      | 6 => v = .string (txt cb)
      | 7 => v = .string (txt pl)
      | _ => v = .string (txt pl)
      ) (regOk_of (by kernel_rfl)) rfl ?_ ?_ ?_
    · intro i v w1 w2 h1 h2
      split at h2 <;> exact h2
    · refine ⟨fun a w2 hle hd hf hs K hK => ?_, fun a w2 hle hd hf hs K hK => ?_, fun a w2 hle hd hf hs K hK => ?_, fun a w2 hle hd hf hs K hK => ?_, fun a w2 hle hd hf hs K hK => ?_, fun a w2 hle hd hf hs K hK => ?_, fun a w2 hle hd hf hs K hK => ?_, fun a w2 hle hd hf hs K hK => ?_, fun a w2 hle hd hf hs K hK => ?_, trivial⟩
      all_goals clear hd
      · -- 15 := Op.load 29 t2
        have e2 := hf 2 rfl; simp [Act.eval] at e2
        have hq : agg? w2 ⟨w.heap.size, 0, none⟩ 32 = some (tgC key) := (agg_of_row (hle.heap HK6.out) 0 32 (by decide)).trans (tgC_part key)
        go_simp; exact hK _ _ (Ext.refl _) rfl
      · -- 16 := Op.load 29 t6
        have e6 := hf 6 rfl; simp [Act.eval] at e6
        have hq : agg? w2 ⟨G, 0, none⟩ 32 = some (tgC tn) := (agg_of_row (hle.heap HG6.out) 0 32 (by decide)).trans (tgC_part tn)
        go_simp; exact hK _ _ (Ext.refl _) rfl
      · -- 17 := Op.move t1
        have e1 := hf 1 rfl; simp [Act.eval] at e1
        go_simp; exact hK _ _ (Ext.refl _) rfl
      · -- 18 := Op.move t1
        have e1 := hf 1 rfl; simp [Act.eval] at e1
        go_simp; exact hK _ _ (Ext.refl _) rfl
      · -- 19 := Op.call { builtin len, args := #[t18], argTypes := #[9] }
        have e18 := hs 3 18 (needs_direct (by kernel_rfl)) rfl; simp [Act.eval] at e18
        go_simp
        exact hK _ _ (Ext.refl _) (by simp)
      · -- 20 := Op.binOp BinOp.sub 3 t19 (const (32:i64)) 3
        have e19 := hs 4 19 (needs_direct (by kernel_rfl)) rfl; simp [Act.eval] at e19
        go_simp
        exact hK _ _ (Ext.refl _) (by simp; exact wrap64s (by omega) (by omega))
      · -- 21 := Op.slice 9 t17 (some (const (32:i64))) (some t20) none
        have e17 := hs 2 17 (needs_direct (by kernel_rfl)) rfl; have e20 := hs 5 20 (needs_direct (by kernel_rfl)) rfl; simp [Act.eval] at e17 e20
        go_simp
        exact hK _ _ (Ext.refl _) (ext_is HCB.out rfl rfl)
      · -- 22 := Op.call { value (Operand.func 81), args := #[t15, t16, t21], argTypes := #[29, 29, 9] }
        have e15 := hs 0 15 (needs_direct (by kernel_rfl)) rfl; have e16 := hs 1 16 (needs_direct (by kernel_rfl)) rfl; have e21 := hs 6 21 (needs_direct (by kernel_rfl)) rfl; simp [Act.eval] at e15 e16 e21
        go_simp
        refine (c_rsturned key tn cb w2 HLC.out).mono ?_
        rintro z w9 ⟨rfl, b9⟩
        rw [HPL.out]
        exact hK _ _ b9 rfl
      · -- 7 := Op.assign t22
        have e22 := hs 7 22 (needs_direct (by kernel_rfl)) rfl; simp [Act.eval] at e22
        go_simp; exact hK _ _ (Ext.refl _) rfl
    intro vs w8 hle hs
    have v8 := hs 8 (by omega) rfl
    simp only at v8
    clear hs
    have HB8 := hide (HB6.out.trans (hle.mono HB6.out.size))
    have HK8 := hide (hle.heap HK6.out)
    have HG8 := hide (hle.heap HG6.out)
    have hag1 : agg? w8 ⟨w.heap.size, 0, none⟩ 32 = some (tgC key) := (agg_of_row HK8.out 0 32 (by decide)).trans (tgC_part key)
    have hag2 : agg? w8 ⟨G, 0, none⟩ 32 = some (tgC tn) := (agg_of_row HG8.out 0 32 (by decide)).trans (tgC_part tn)
    clear hle
    simp only [putN, dstAt]
    go_simp
    go_wp2_with fail
    refine (c_rseal key tn pl w8 HLP.out).mono ?_
    rintro e w9 ⟨rfl, b9⟩
    rw [HXX.out]
    have HB9 := hide (HB8.out.trans (b9.mono HB8.out.size))
    clear b9 hag1 hag2
    by_cases hq : X = s
    · have HOB2 : Hid (openB key s = some pl) := hide (by rw [HOB.out, if_pos hq])
      subst hq
      clear HOB
      go_wp2_with fail
      exact bodyPost_ret (v := openV (some pl)) (by simp [results, Tryd.results35, go_sem, openV]) rfl ⟨by rw [HOB2.out], HB9.out⟩
    · have HOB2 : Hid (openB key s = none) := hide (by rw [HOB.out, if_neg hq])
      have hq2 : (X == s) = false := by simp [hq]
      clear HOB hq
      go_wp2_with fail
      exact bodyPost_ret (v := openV none) (by simp [results, Tryd.results35, go_sem, openV]) rfl ⟨by rw [HOB2.out], HB9.out⟩
end Go.Proofs.YtdkeflhgengblaaDoor
namespace Go.Proofs.YtdkeflhgengblaaDoor
open Go.RowKit
attribute [local go_sem ↓] ld8 ld32 ld64 ld73
attribute [local go_sem] run_ldAgg run_storeAgg agg_alloc_at agg_alloc_past agg_drew agg_setCell row_alloc_at row_alloc_past row_drew setRow_alloc_at setRow_alloc_past setRow_drew agg_setRow_at agg_setRow_far cell_setRow_at cell_setRow_far row_setRow_far size_setRow s8C_size s8C_part s8C_one s8C_splice0 s8C_ne dgC_size dgC_72 dgC_part dgC_h dgC_r dgC_splice_h dgC_set dgC_one dgC_splice0 dgC_ne zero_dg
attribute [local go_sem] tgC_size tgC_one tgC_part tgC_splice tgC_splice_any zero_tg tgC_ne

def tgN (x : UInt8) : Tg := ⟨x :: List.replicate 31 0, by rw [List.length_cons, List.length_replicate]⟩
theorem tg1 : (#[.int .u8 1, .int .u8 0, .int .u8 0, .int .u8 0, .int .u8 0, .int .u8 0, .int .u8 0, .int .u8 0, .int .u8 0, .int .u8 0, .int .u8 0, .int .u8 0, .int .u8 0, .int .u8 0, .int .u8 0, .int .u8 0, .int .u8 0, .int .u8 0, .int .u8 0, .int .u8 0, .int .u8 0, .int .u8 0, .int .u8 0, .int .u8 0, .int .u8 0, .int .u8 0, .int .u8 0, .int .u8 0, .int .u8 0, .int .u8 0, .int .u8 0, .int .u8 0] : Array Value) = tgC (tgN 1) := rfl
theorem tg2 : (#[.int .u8 2, .int .u8 0, .int .u8 0, .int .u8 0, .int .u8 0, .int .u8 0, .int .u8 0, .int .u8 0, .int .u8 0, .int .u8 0, .int .u8 0, .int .u8 0, .int .u8 0, .int .u8 0, .int .u8 0, .int .u8 0, .int .u8 0, .int .u8 0, .int .u8 0, .int .u8 0, .int .u8 0, .int .u8 0, .int .u8 0, .int .u8 0, .int .u8 0, .int .u8 0, .int .u8 0, .int .u8 0, .int .u8 0, .int .u8 0, .int .u8 0, .int .u8 0] : Array Value) = tgC (tgN 2) := rfl
theorem tg3 : (#[.int .u8 3, .int .u8 0, .int .u8 0, .int .u8 0, .int .u8 0, .int .u8 0, .int .u8 0, .int .u8 0, .int .u8 0, .int .u8 0, .int .u8 0, .int .u8 0, .int .u8 0, .int .u8 0, .int .u8 0, .int .u8 0, .int .u8 0, .int .u8 0, .int .u8 0, .int .u8 0, .int .u8 0, .int .u8 0, .int .u8 0, .int .u8 0, .int .u8 0, .int .u8 0, .int .u8 0, .int .u8 0, .int .u8 0, .int .u8 0, .int .u8 0, .int .u8 0] : Array Value) = tgC (tgN 3) := rfl
attribute [local go_sem] tg1 tg2 tg3
def abc : List UInt8 := [97, 98, 99]
set_option maxRecDepth 100000 in
set_option maxHeartbeats 800000 in
theorem c_sealalive (w : World) (hP : PrimesAt w) : Calls Tryd.prog 33 #[] w fun e w' => e = .returned (.bool true) ∧ Below w.heap.size w w' := by
  have HP := hide hP
  have hw0 := hP.1
  obtain ⟨X, hX⟩ : ∃ X, sealB (tgN 1) (tgN 2) abc = X := ⟨_, rfl⟩
  have HXX := hide hX
  have hXs : (txt X).size = 67 := by rw [txt_size, ← hX, sealB_len]; rfl
  have HXL : Hid (X.length < 1048576) := hide (by rw [← hX, sealB_len]; decide)
  have HOB : Hid (openB (tgN 1) X = some abc) := hide (by rw [← hX, open_sealed])
  clear hP hX
  go_enter Tryd.func33, Tryd.ntmps33
  go_wp2_with fail
  refine (c_seal (tgN 1) (tgN 2) abc w (by decide) HP.out).mono ?_
  rintro e w1 ⟨rfl, b1⟩
  rw [HXX.out]
  have HB1 := hide b1
  clear b1
  go_wp2_with fail
  refine (c_open (tgN 1) X w1 HXL.out (HP.out.ext HB1.out)).mono ?_
  rintro e w2 ⟨rfl, b2⟩
  rw [HOB.out, show openV (some abc) = .tuple #[.string (txt abc), .bool true] from rfl]
  have HB2 := hide (HB1.out.trans (b2.mono HB1.out.size))
  clear b2
  go_wp2_with fail
  go_ret
  exact ⟨rfl, HB2.out⟩
set_option maxRecDepth 100000 in
set_option maxHeartbeats 1600000 in
theorem c_sealtells (key nonce : Tg) (s : List UInt8) (w : World) (hm : s.length ≤ maxLen) (hP : PrimesAt w) :
    Calls Tryd.prog 6 #[tgV key, tgV nonce, .string (txt s)] w fun e w' => e = .returned (.bool true) ∧ Below w.heap.size w w' := by
  have HP := hide hP
  have hw0 := hP.1
  obtain ⟨n, hnn⟩ : ∃ n, n = s.length := ⟨_, rfl⟩
  have hsz : (txt s).size = n := by rw [txt_size, hnn]
  obtain ⟨W1, hW1⟩ : ∃ W1, W1 = (w.alloc (.cells (tgC key) 29)).alloc (.cells (tgC nonce) 29) := ⟨_, rfl⟩
  have HB1 : Hid (Below w.heap.size w W1) := hide (by rw [hW1]; exact below2 _ _ _)
  have hs1 : W1.heap.size = w.heap.size + 2 := by rw [hW1]; simp only [World.size_alloc]
  have HK1 : Hid (W1.heap[w.heap.size]? = some (.cells (tgC key) 29)) := hide (by
    rw [hW1, Below.heap_alloc _ _ _ (by simp only [World.size_alloc]; omega)]; exact heap_alloc_new _ _)
  have HN1 : Hid (W1.heap[w.heap.size + 1]? = some (.cells (tgC nonce) 29)) := hide (by
    rw [hW1]
    have := heap_alloc_new (w.alloc (.cells (tgC key) 29)) (.cells (tgC nonce) 29)
    rwa [World.size_alloc] at this)
  have HP1 := hide (HP.out.ext HB1.out)
  have hn63 : n ≤ 9223372036854775807 := by rw [hnn]; exact hm
  have HNN := hide hnn
  clear hP hnn hm
  go_enter Tryd.func6, Tryd.ntmps6
  go_wp2_with fail
  rw [← hW1]
  clear hW1
  refine (c_sealalive W1 HP1.out).mono ?_
  rintro e w2 ⟨rfl, b2⟩
  have HB2 := hide (HB1.out.trans (b2.mono (by omega)))
  have HK2 := hide ((b2.block _ (by omega)).trans HK1.out)
  have HN2 := hide ((b2.block _ (by omega)).trans HN1.out)
  have HP2 := hide (HP1.out.ext b2)
  clear b2 HB1 HK1 HN1 HP1 HP
  by_cases h200 : 200 < n
  · go_wp2_with fail
    go_ret
    exact ⟨rfl, HB2.out⟩
  obtain ⟨o, ho⟩ : ∃ o, openB key s = o := ⟨_, rfl⟩
  have HO := hide ho
  obtain ⟨pq, hpq⟩ : ∃ pq, o.getD [] = pq := ⟨_, rfl⟩
  obtain ⟨kq, hkq⟩ : ∃ kq, o.isSome = kq := ⟨_, rfl⟩
  have HOV : Hid (openV o = .tuple #[.string (txt pq), .bool kq]) := hide (by rw [openV, hpq, hkq])
  obtain ⟨X, hX⟩ : ∃ X, sealB key nonce s = X := ⟨_, rfl⟩
  have HX := hide hX
  obtain ⟨st, hst⟩ : ∃ st, strm key nonce n = st := ⟨_, rfl⟩
  have HST := hide hst
  have HSL : Hid (st.length = n) := hide (by rw [← hst, strm_len])
  have HL : Hid (s.length < 1048576) := hide (by have := HNN.out; omega)
  have hn20 : n < 1048576 := by omega
  have hag2 : agg? w2 ⟨w.heap.size, 0, none⟩ 32 = some (tgC key) := (agg_of_row HK2.out 0 32 (by decide)).trans (tgC_part key)
  clear ho hpq hkq hX hst
  go_wp2_with fail
  refine (c_open key s w2 HL.out HP2.out).mono ?_
  rintro e w3 ⟨rfl, b3⟩
  have hw2 : w.heap.size + 2 ≤ w2.heap.size := by have := HB2.out.size; have h := (Array.getElem?_eq_some_iff.1 HN2.out).1; omega
  have HB3 := hide (HB2.out.trans (b3.mono (by omega)))
  have HK3 := hide ((b3.block _ (by omega)).trans HK2.out)
  have HN3 := hide ((b3.block _ (by omega)).trans HN2.out)
  have HP3 := hide (HP2.out.ext b3)
  have hw3 := Nat.le_trans hw2 b3.size
  rw [HO.out, HOV.out]
  clear b3 HB2 HK2 HN2 HP2 hag2 hw2
  have hag3 : agg? w3 ⟨w.heap.size, 0, none⟩ 32 = some (tgC key) := (agg_of_row HK3.out 0 32 (by decide)).trans (tgC_part key)
  go_wp2_with fail
  refine (c_ropen key s w3 HL.out).mono ?_
  rintro e w4 ⟨rfl, b4⟩
  have HB4 := hide (HB3.out.trans (b4.mono (by omega)))
  have HK4 := hide ((b4.block _ (by omega)).trans HK3.out)
  have HN4 := hide ((b4.block _ (by omega)).trans HN3.out)
  have HP4 := hide (HP3.out.ext b4)
  rw [HO.out, HOV.out]
  clear b4 HB3 HK3 HN3 HP3 hag3 hw3
  go_wp2_with fail
  refine wp_region_ext mixed 43 (fun i v w' => match i with
    | 0 => v = tgV key
    | 1 => v = tgV nonce
    | 2 => v = .string (txt s)
    | 3 => v = .string (txt X)
    | 4 => v = tgV key
    | 5 => v = tgV nonce
    | 6 => v = .string (txt s)
    | 7 => v = .string (txt X)
    | 8 => v = .bool true
    | 9 => v = .bool true
    | 10 => v = tgV key
    | 11 => v = tgV nonce
    | 12 => v = .string (txt s)
    | 13 => v = .int .i64 (n : Int)
    | 14 => ∃ A c, v = .slice A n c ∧ kU8.Row (fun _ => True) w' A n c st
    | 15 => v = .string (txt st)
    | 16 => v = tgV key
    | 17 => v = tgV nonce
    | 18 => v = .string (txt s)
    | 19 => v = .int .i64 (n : Int)
    | 20 => ∃ A c, v = .slice A n c ∧ kU8.Row (fun _ => True) w' A n c st
    | 21 => v = .string (txt st)
    | 22 => v = .bool true
    | 23 => v = .bool true
    | 24 => v = .bool true
    | 25 => v = tgV key
    | 26 => v = tgV nonce
    | 27 => ∃ A c, v = .slice A 0 c ∧ kU8.Row (fun _ => True) w' A 0 c []
    | 28 => v = .int .i64 0
    | 29 => v = .bool true
    | 30 => v = .bool true
    | 31 => v = .bool true
    | 32 => v = .string (txt pq)
    | 33 => v = .string (txt pq)
    | 34 => v = .bool true
    | 35 => v = .bool true
    | 36 => v = .bool true
    | 37 => v = .bool kq
    | 38 => v = .bool kq
    | 39 => v = .bool true
    | 40 => v = .bool true
    | 41 => v = .bool true
    | _ => v = .bool true
    ) (regOk_of (by kernel_rfl)) rfl ?_ ?_ ?_
  · intro i v w1 w2 h1 h2
    split at h2 <;> first | exact h2 | (obtain ⟨A, c, e, hr⟩ := h2; exact ⟨A, c, e, hr.below h1⟩)
  · refine ⟨fun a w2 hle hd hf hs K hK => ?_, fun a w2 hle hd hf hs K hK => ?_, fun a w2 hle hd hf hs K hK => ?_, fun a w2 hle hd hf hs K hK => ?_, fun a w2 hle hd hf hs K hK => ?_, fun a w2 hle hd hf hs K hK => ?_, fun a w2 hle hd hf hs K hK => ?_, fun a w2 hle hd hf hs K hK => ?_, fun a w2 hle hd hf hs K hK => ?_, fun a w2 hle hd hf hs K hK => ?_, fun a w2 hle hd hf hs K hK => ?_, fun a w2 hle hd hf hs K hK => ?_, fun a w2 hle hd hf hs K hK => ?_, fun a w2 hle hd hf hs K hK => ?_, fun a w2 hle hd hf hs K hK => ?_, fun a w2 hle hd hf hs K hK => ?_, fun a w2 hle hd hf hs K hK => ?_, fun a w2 hle hd hf hs K hK => ?_, fun a w2 hle hd hf hs K hK => ?_, fun a w2 hle hd hf hs K hK => ?_, fun a w2 hle hd hf hs K hK => ?_, fun a w2 hle hd hf hs K hK => ?_, fun a w2 hle hd hf hs K hK => ?_, fun a w2 hle hd hf hs K hK => ?_, fun a w2 hle hd hf hs K hK => ?_, fun a w2 hle hd hf hs K hK => ?_, fun a w2 hle hd hf hs K hK => ?_, fun a w2 hle hd hf hs K hK => ?_, fun a w2 hle hd hf hs K hK => ?_, fun a w2 hle hd hf hs K hK => ?_, fun a w2 hle hd hf hs K hK => ?_, fun a w2 hle hd hf hs K hK => ?_, fun a w2 hle hd hf hs K hK => ?_, fun a w2 hle hd hf hs K hK => ?_, fun a w2 hle hd hf hs K hK => ?_, fun a w2 hle hd hf hs K hK => ?_, fun a w2 hle hd hf hs K hK => ?_, fun a w2 hle hd hf hs K hK => ?_, fun a w2 hle hd hf hs K hK => ?_, fun a w2 hle hd hf hs K hK => ?_, fun a w2 hle hd hf hs K hK => ?_, fun a w2 hle hd hf hs K hK => ?_, fun a w2 hle hd hf hs K hK => ?_, trivial⟩
    all_goals clear hd
    · -- 28 := Op.load 29 t3
      have e3 := hf 3 rfl; simp [Act.eval] at e3
      have hq : agg? w2 ⟨w.heap.size, 0, none⟩ 32 = some (tgC key) := (agg_of_row (hle.heap HK4.out) 0 32 (by decide)).trans (tgC_part key)
      go_simp; exact hK _ _ (Ext.refl _) rfl
    · -- 29 := Op.load 29 t4
      have e4 := hf 4 rfl; simp [Act.eval] at e4
      have hq : agg? w2 ⟨w.heap.size + 1, 0, none⟩ 32 = some (tgC nonce) := (agg_of_row (hle.heap HN4.out) 0 32 (by decide)).trans (tgC_part nonce)
      go_simp; exact hK _ _ (Ext.refl _) rfl
    · -- 30 := Op.move t2
      have e2 := hf 2 rfl; simp [Act.eval] at e2
      go_simp; exact hK _ _ (Ext.refl _) rfl
    · -- 31 := Op.call { value (Operand.func 36), args := #[t28, t29, t30], argTypes := #[29, 29, 9] }
      have e28 := hs 0 28 (needs_direct (by kernel_rfl)) rfl; have e29 := hs 1 29 (needs_direct (by kernel_rfl)) rfl; have e30 := hs 2 30 (needs_direct (by kernel_rfl)) rfl; simp [Act.eval] at e28 e29 e30
      go_simp
      refine (c_seal key nonce s w2 HL.out (HP4.out.ext hle)).mono ?_
      rintro z w9 ⟨rfl, b9⟩
      rw [HX.out]
      exact hK _ _ b9 rfl
    · -- 32 := Op.load 29 t3
      have e3 := hf 3 rfl; simp [Act.eval] at e3
      have hq : agg? w2 ⟨w.heap.size, 0, none⟩ 32 = some (tgC key) := (agg_of_row (hle.heap HK4.out) 0 32 (by decide)).trans (tgC_part key)
      go_simp; exact hK _ _ (Ext.refl _) rfl
    · -- 33 := Op.load 29 t4
      have e4 := hf 4 rfl; simp [Act.eval] at e4
      have hq : agg? w2 ⟨w.heap.size + 1, 0, none⟩ 32 = some (tgC nonce) := (agg_of_row (hle.heap HN4.out) 0 32 (by decide)).trans (tgC_part nonce)
      go_simp; exact hK _ _ (Ext.refl _) rfl
    · -- 34 := Op.move t2
      have e2 := hf 2 rfl; simp [Act.eval] at e2
      go_simp; exact hK _ _ (Ext.refl _) rfl
    · -- 35 := Op.call { value (Operand.func 37), args := #[t32, t33, t34], argTypes := #[29, 29, 9] }
      have e32 := hs 4 32 (needs_direct (by kernel_rfl)) rfl; have e33 := hs 5 33 (needs_direct (by kernel_rfl)) rfl; have e34 := hs 6 34 (needs_direct (by kernel_rfl)) rfl; simp [Act.eval] at e32 e33 e34
      go_simp
      refine (c_rseal key nonce s w2 HL.out).mono ?_
      rintro z w9 ⟨rfl, b9⟩
      rw [HX.out]
      exact hK _ _ b9 rfl
    · -- 36 := Op.binOp BinOp.eql 9 t31 t35 9
      have e31 := hs 3 31 (needs_direct (by kernel_rfl)) rfl; have e35 := hs 7 35 (needs_direct (by kernel_rfl)) rfl; simp [Act.eval] at e31 e35
      go_simp; exact hK _ _ (Ext.refl _) rfl
    · -- 37 := Op.move t36
      have e36 := hs 8 36 (needs_direct (by kernel_rfl)) rfl; simp [Act.eval] at e36
      go_simp; exact hK _ _ (Ext.refl _) rfl
    · -- 38 := Op.load 29 t3
      have e3 := hf 3 rfl; have gg := hs 9 37 (needs_direct (by kernel_rfl)) rfl; simp [Act.eval] at e3 gg; replace gg := opt_bool gg
      have hq : agg? w2 ⟨w.heap.size, 0, none⟩ 32 = some (tgC key) := (agg_of_row (hle.heap HK4.out) 0 32 (by decide)).trans (tgC_part key)
      go_simp; exact hK _ _ (Ext.refl _) rfl
    · -- 39 := Op.load 29 t4
      have e4 := hf 4 rfl; have gg := hs 9 37 (needs_direct (by kernel_rfl)) rfl; simp [Act.eval] at e4 gg; replace gg := opt_bool gg
      have hq : agg? w2 ⟨w.heap.size + 1, 0, none⟩ 32 = some (tgC nonce) := (agg_of_row (hle.heap HN4.out) 0 32 (by decide)).trans (tgC_part nonce)
      go_simp; exact hK _ _ (Ext.refl _) rfl
    · -- 40 := Op.move t2
      have e2 := hf 2 rfl; have gg := hs 9 37 (needs_direct (by kernel_rfl)) rfl; simp [Act.eval] at e2 gg; replace gg := opt_bool gg
      go_simp; exact hK _ _ (Ext.refl _) rfl
    · -- 41 := Op.call { builtin len, args := #[t40], argTypes := #[9] }
      have e40 := hs 12 40 (needs_direct (by kernel_rfl)) rfl; have gg := hs 9 37 (needs_direct (by kernel_rfl)) rfl; simp [Act.eval] at e40 gg; replace gg := opt_bool gg
      go_simp; exact hK _ _ (Ext.refl _) rfl
    · -- 42 := Op.call { value (Operand.func 38), args := #[t38, t39, t41], argTypes := #[29, 29, 3] }
      have e38 := hs 10 38 (needs_direct (by kernel_rfl)) rfl; have e39 := hs 11 39 (needs_direct (by kernel_rfl)) rfl; have e41 := hs 13 41 (needs_direct (by kernel_rfl)) rfl; have gg := hs 9 37 (needs_direct (by kernel_rfl)) rfl; simp [Act.eval] at e38 e39 e41 gg; replace gg := opt_bool gg
      go_simp
      refine (c_stream key nonce _ n w2 (by simp) hn20 (HP4.out.ext hle)).mono ?_
      rintro z w9 ⟨v9, rfl, h9, b9⟩
      obtain ⟨A8, c8, rfl, hr8⟩ := own_row h9
      rw [HST.out, HSL.out] at hr8
      rw [HST.out, HSL.out]
      exact hK _ _ b9 ⟨A8, c8, rfl, hr8.more fun _ _ => trivial⟩
    · -- 43 := Op.convert 22 9 t42
      obtain ⟨A42, c42, e42, hr42⟩ := hs 14 42 (needs_direct (by kernel_rfl)) rfl; have gg := hs 9 37 (needs_direct (by kernel_rfl)) rfl; simp [Act.eval] at e42 gg; replace gg := opt_bool gg
      have hq := row_string (P := Tryd.prog) Tryd.underlying22 Tryd.underlying5 Tryd.underlying9 hr42
      go_simp; exact hK _ _ (Ext.refl _) rfl
    · -- 44 := Op.load 29 t3
      have e3 := hf 3 rfl; have gg := hs 9 37 (needs_direct (by kernel_rfl)) rfl; simp [Act.eval] at e3 gg; replace gg := opt_bool gg
      have hq : agg? w2 ⟨w.heap.size, 0, none⟩ 32 = some (tgC key) := (agg_of_row (hle.heap HK4.out) 0 32 (by decide)).trans (tgC_part key)
      go_simp; exact hK _ _ (Ext.refl _) rfl
    · -- 45 := Op.load 29 t4
      have e4 := hf 4 rfl; have gg := hs 9 37 (needs_direct (by kernel_rfl)) rfl; simp [Act.eval] at e4 gg; replace gg := opt_bool gg
      have hq : agg? w2 ⟨w.heap.size + 1, 0, none⟩ 32 = some (tgC nonce) := (agg_of_row (hle.heap HN4.out) 0 32 (by decide)).trans (tgC_part nonce)
      go_simp; exact hK _ _ (Ext.refl _) rfl
    · -- 46 := Op.move t2
      have e2 := hf 2 rfl; have gg := hs 9 37 (needs_direct (by kernel_rfl)) rfl; simp [Act.eval] at e2 gg; replace gg := opt_bool gg
      go_simp; exact hK _ _ (Ext.refl _) rfl
    · -- 47 := Op.call { builtin len, args := #[t46], argTypes := #[9] }
      have e46 := hs 18 46 (needs_direct (by kernel_rfl)) rfl; have gg := hs 9 37 (needs_direct (by kernel_rfl)) rfl; simp [Act.eval] at e46 gg; replace gg := opt_bool gg
      go_simp; exact hK _ _ (Ext.refl _) rfl
    · -- 48 := Op.call { value (Operand.func 39), args := #[t44, t45, t47], argTypes := #[29, 29, 3] }
      have e44 := hs 16 44 (needs_direct (by kernel_rfl)) rfl; have e45 := hs 17 45 (needs_direct (by kernel_rfl)) rfl; have e47 := hs 19 47 (needs_direct (by kernel_rfl)) rfl; have gg := hs 9 37 (needs_direct (by kernel_rfl)) rfl; simp [Act.eval] at e44 e45 e47 gg; replace gg := opt_bool gg
      go_simp
      refine (c_rstream key nonce _ n w2 (by simp) hn20).mono ?_
      rintro z w9 ⟨v9, rfl, h9, b9⟩
      obtain ⟨A8, c8, rfl, hr8⟩ := own_row h9
      rw [HST.out, HSL.out] at hr8
      rw [HST.out, HSL.out]
      exact hK _ _ b9 ⟨A8, c8, rfl, hr8.more fun _ _ => trivial⟩
    · -- 49 := Op.convert 22 9 t48
      obtain ⟨A48, c48, e48, hr48⟩ := hs 20 48 (needs_direct (by kernel_rfl)) rfl; have gg := hs 9 37 (needs_direct (by kernel_rfl)) rfl; simp [Act.eval] at e48 gg; replace gg := opt_bool gg
      have hq := row_string (P := Tryd.prog) Tryd.underlying22 Tryd.underlying5 Tryd.underlying9 hr48
      go_simp; exact hK _ _ (Ext.refl _) rfl
    · -- 50 := Op.binOp BinOp.eql 9 t43 t49 9
      have e43 := hs 15 43 (needs_direct (by kernel_rfl)) rfl; have e49 := hs 21 49 (needs_direct (by kernel_rfl)) rfl; have gg := hs 9 37 (needs_direct (by kernel_rfl)) rfl; simp [Act.eval] at e43 e49 gg; replace gg := opt_bool gg
      go_simp; exact hK _ _ (Ext.refl _) rfl
    · -- 51 := Op.pick t37 t50 (const (Value.bool false))
      have e37 := hs 9 37 (needs_direct (by kernel_rfl)) rfl; have e50 := hs 22 50 (needs_direct (by kernel_rfl)) rfl; simp [Act.eval] at e37 e50
      go_simp; exact hK _ _ (Ext.refl _) rfl
    · -- 52 := Op.move t51
      have e51 := hs 23 51 (needs_direct (by kernel_rfl)) rfl; simp [Act.eval] at e51
      go_simp; exact hK _ _ (Ext.refl _) rfl
    · -- 53 := Op.load 29 t3
      have e3 := hf 3 rfl; have gg := hs 24 52 (needs_direct (by kernel_rfl)) rfl; simp [Act.eval] at e3 gg; replace gg := opt_bool gg
      have hq : agg? w2 ⟨w.heap.size, 0, none⟩ 32 = some (tgC key) := (agg_of_row (hle.heap HK4.out) 0 32 (by decide)).trans (tgC_part key)
      go_simp; exact hK _ _ (Ext.refl _) rfl
    · -- 54 := Op.load 29 t4
      have e4 := hf 4 rfl; have gg := hs 24 52 (needs_direct (by kernel_rfl)) rfl; simp [Act.eval] at e4 gg; replace gg := opt_bool gg
      have hq : agg? w2 ⟨w.heap.size + 1, 0, none⟩ 32 = some (tgC nonce) := (agg_of_row (hle.heap HN4.out) 0 32 (by decide)).trans (tgC_part nonce)
      go_simp; exact hK _ _ (Ext.refl _) rfl
    · -- 55 := Op.call { value (Operand.func 38), args := #[t53, t54, const (Value.int IntKind.i64 (-1))], argTypes := #[29, 29, 3] }
      have e53 := hs 25 53 (needs_direct (by kernel_rfl)) rfl; have e54 := hs 26 54 (needs_direct (by kernel_rfl)) rfl; have gg := hs 24 52 (needs_direct (by kernel_rfl)) rfl; simp [Act.eval] at e53 e54 gg; replace gg := opt_bool gg
      go_simp
      refine (c_stream key nonce _ 0 w2 (by decide) (by decide) (HP4.out.ext hle)).mono ?_
      rintro z w9 ⟨v9, rfl, h9, b9⟩
      obtain ⟨A8, c8, rfl, hr8⟩ := own_row h9
      have e0 : strm key nonce 0 = [] := rfl
      rw [e0] at hr8 ⊢
      exact hK _ _ b9 ⟨A8, c8, rfl, hr8.more fun _ _ => trivial⟩
    · -- 56 := Op.call { builtin len, args := #[t55], argTypes := #[22] }
      obtain ⟨A55, c55, e55, hr55⟩ := hs 27 55 (needs_direct (by kernel_rfl)) rfl; have gg := hs 24 52 (needs_direct (by kernel_rfl)) rfl; simp [Act.eval] at e55 gg; replace gg := opt_bool gg
      go_simp; exact hK _ _ (Ext.refl _) rfl
    · -- 57 := Op.binOp BinOp.eql 3 t56 (const (0:i64)) 3
      have e56 := hs 28 56 (needs_direct (by kernel_rfl)) rfl; have gg := hs 24 52 (needs_direct (by kernel_rfl)) rfl; simp [Act.eval] at e56 gg; replace gg := opt_bool gg
      go_simp; exact hK _ _ (Ext.refl _) rfl
    · -- 58 := Op.pick t52 t57 (const (Value.bool false))
      have e52 := hs 24 52 (needs_direct (by kernel_rfl)) rfl; have e57 := hs 29 57 (needs_direct (by kernel_rfl)) rfl; simp [Act.eval] at e52 e57
      go_simp; exact hK _ _ (Ext.refl _) rfl
    · -- 59 := Op.move t58
      have e58 := hs 30 58 (needs_direct (by kernel_rfl)) rfl; simp [Act.eval] at e58
      go_simp; exact hK _ _ (Ext.refl _) rfl
    · -- 60 := Op.move t7
      have e7 := hf 7 rfl; have gg := hs 31 59 (needs_direct (by kernel_rfl)) rfl; simp [Act.eval] at e7 gg; replace gg := opt_bool gg
      go_simp; exact hK _ _ (Ext.refl _) rfl
    · -- 61 := Op.move t9
      have e9 := hf 9 rfl; have gg := hs 31 59 (needs_direct (by kernel_rfl)) rfl; simp [Act.eval] at e9 gg; replace gg := opt_bool gg
      go_simp; exact hK _ _ (Ext.refl _) rfl
    · -- 62 := Op.binOp BinOp.eql 9 t60 t61 9
      have e60 := hs 32 60 (needs_direct (by kernel_rfl)) rfl; have e61 := hs 33 61 (needs_direct (by kernel_rfl)) rfl; have gg := hs 31 59 (needs_direct (by kernel_rfl)) rfl; simp [Act.eval] at e60 e61 gg; replace gg := opt_bool gg
      go_simp; exact hK _ _ (Ext.refl _) rfl
    · -- 63 := Op.pick t59 t62 (const (Value.bool false))
      have e59 := hs 31 59 (needs_direct (by kernel_rfl)) rfl; have e62 := hs 34 62 (needs_direct (by kernel_rfl)) rfl; simp [Act.eval] at e59 e62
      go_simp; exact hK _ _ (Ext.refl _) rfl
    · -- 64 := Op.move t63
      have e63 := hs 35 63 (needs_direct (by kernel_rfl)) rfl; simp [Act.eval] at e63
      go_simp; exact hK _ _ (Ext.refl _) rfl
    · -- 65 := Op.move t8
      have e8 := hf 8 rfl; have gg := hs 36 64 (needs_direct (by kernel_rfl)) rfl; simp [Act.eval] at e8 gg; replace gg := opt_bool gg
      go_simp; exact hK _ _ (Ext.refl _) rfl
    · -- 66 := Op.move t10
      have e10 := hf 10 rfl; have gg := hs 36 64 (needs_direct (by kernel_rfl)) rfl; simp [Act.eval] at e10 gg; replace gg := opt_bool gg
      go_simp; exact hK _ _ (Ext.refl _) rfl
    · -- 67 := Op.binOp BinOp.eql 4 t65 t66 4
      have e65 := hs 37 65 (needs_direct (by kernel_rfl)) rfl; have e66 := hs 38 66 (needs_direct (by kernel_rfl)) rfl; have gg := hs 36 64 (needs_direct (by kernel_rfl)) rfl; simp [Act.eval] at e65 e66 gg; replace gg := opt_bool gg
      go_simp; exact hK _ _ (Ext.refl _) rfl
    · -- 68 := Op.pick t64 t67 (const (Value.bool false))
      have e64 := hs 36 64 (needs_direct (by kernel_rfl)) rfl; have e67 := hs 39 67 (needs_direct (by kernel_rfl)) rfl; simp [Act.eval] at e64 e67
      go_simp; exact hK _ _ (Ext.refl _) rfl
    · -- 69 := Op.move t68
      have e68 := hs 40 68 (needs_direct (by kernel_rfl)) rfl; simp [Act.eval] at e68
      go_simp; exact hK _ _ (Ext.refl _) rfl
    · -- 70 := Op.pick t69 (const (Value.bool true)) (const (Value.bool false))
      have e69 := hs 41 69 (needs_direct (by kernel_rfl)) rfl; simp [Act.eval] at e69
      go_simp; exact hK _ _ (Ext.refl _) rfl
  intro vs w8 hle hs
  have v42 := hs 42 (by omega) rfl
  simp only at v42
  clear hs
  have HB9 := hide (HB4.out.trans (hle.mono HB4.out.size))
  clear hle
  simp only [putN, dstAt]
  go_simp
  go_wp2_with fail
  go_ret
  exact ⟨rfl, HB9.out⟩
end Go.Proofs.YtdkeflhgengblaaDoor
namespace Go.Proofs.YtdkeflhgengblaaDoor
open Go.RowKit
attribute [local go_sem ↓] ld16 ld17 ld32 ld36
attribute [local go_sem] run_ldAgg run_storeAgg agg_alloc_at agg_alloc_past agg_drew agg_setCell row_alloc_at row_alloc_past row_drew setRow_alloc_at setRow_alloc_past setRow_drew agg_setRow_at agg_setRow_far cell_setRow_at cell_setRow_far row_setRow_far size_setRow tgC_size tgC_one tgC_part tgC_splice tokC_size tokC_0 tokC_1 tokC_2 tokC_3 tokC_g0 tokC_g1 tokC_g2 tokC_g3 tokC_part tokC_tag tokC_set0 tokC_set1 tokC_set2 tokC_set3 tokC_splice tokC_splice0 tgC_splice_any zero_tg zero_tok tokC_all tokC_ne tgC_ne
theorem row_party {ok : Nat → Prop} {w : World} {A : Option Addr} {n c : Nat} {xs : List Cav} (h : kCav.Row ok w A n c xs) : ∀ x ∈ xs, x.party < 18446744073709551616 := by
  intro x hx
  obtain ⟨i, hi, rfl⟩ := List.mem_iff_getElem.1 hx
  obtain ⟨b, o, _, _, _, hc⟩ := h.2.2.2 (by have := h.1; omega)
  obtain ⟨cs, hk, _⟩ := hc i _ (List.getElem?_eq_getElem hi)
  exact hk.2.2.1
def gsum (l : List Cav) : Nat := (l.map fun c => c.text.size + c.id.size + c.vault.size + 1).sum
/-- Is a token more than is looked at? -/
def great (t : Tok) : Bool := decide (10000 < t.id.size + gsum t.cavs)
def greatV (b : Bool) : Value := .int .i64 (if b then 1 else 0)
theorem gsum_app (l r : List Cav) : gsum (l ++ r) = gsum l + gsum r := by simp [gsum]
theorem gsum_take (l : List Cav) (k : Nat) : gsum (l.take k) ≤ gsum l := by
  conv => rhs; rw [← List.take_append_drop k l, gsum_app]
  omega
theorem gsum_mem : ∀ (l : List Cav) (c : Cav), c ∈ l → c.text.size + c.id.size + c.vault.size + 1 ≤ gsum l
  | [], c, h => by simp at h
  | x :: r, c, h => by
    have e : gsum (x :: r) = x.text.size + x.id.size + x.vault.size + 1 + gsum r := by simp [gsum]
    rw [e]
    simp only [List.mem_cons] at h
    rcases h with rfl | h
    · omega
    · have := gsum_mem r c h; omega
theorem gsum_len : ∀ (l : List Cav), l.length ≤ gsum l
  | [] => by simp [gsum]
  | x :: r => by
    have e : gsum (x :: r) = x.text.size + x.id.size + x.vault.size + 1 + gsum r := by simp [gsum]
    have := gsum_len r
    rw [e, List.length_cons]
    omega
set_option maxRecDepth 100000 in
set_option maxHeartbeats 400000 in
theorem c_great2 (t : Tok) (A : Option Addr) (n c : Nat) (ok : Nat → Prop) (w : World) (hR : kCav.Row ok w A n c t.cavs) (hi : t.id.size ≤ 140737488355328) (hf : ∀ c ∈ t.cavs, c.fits) :
    Calls Tryd.prog 25 #[tokV t A n c] w fun e w' => e = .returned (greatV (great t)) ∧ Below w.heap.size w w' := by
  have HL := hide hR.1
  have hm : n ≤ 9223372036854775807 := Nat.le_trans hR.2.1 hR.2.2.1
  have HR := hide hR
  have HF := hide hf
  clear hR hf
  go_enter Tryd.func25, Tryd.ntmps25
  go_wp2_with fail
  go_loopw [12, 3] (fun i p wr => ∃ (k m : Nat), k ≤ n ∧ i = .int .i64 (k : Int) ∧ p = .int .i64 (m : Int) ∧ Hid (m = t.id.size + gsum (t.cavs.take k)) ∧ Hid (0 < k → m ≤ 10000) ∧ Hid (Below w.heap.size w wr)) (fun i _ _ => n - (intOf i).toNat)
  case atStart => exact ⟨0, t.id.size, Nat.zero_le _, rfl, rfl, hide (by simp [gsum]), hide (fun h => absurd h (by omega)), hide (below1 _ _)⟩
  case round =>
    obtain ⟨k, m, hk, rfl, rfl, HM, HK, HB⟩ := hrel
    have hm47 : m ≤ 140737488355328 := by
      by_cases h0 : 0 < k
      · have := HK.out h0; omega
      · have h1 := HM.out
        have : k = 0 := by omega
        subst this
        simp [gsum] at h1
        omega
    by_cases hlt : k < n
    · obtain ⟨x, hx⟩ : ∃ x, t.cavs[k]? = some x := ⟨_, List.getElem?_eq_getElem (by have := HL.out; omega)⟩
      obtain ⟨b, q, csx, hix, -, hbl, hK, hra⟩ := (HR.out.below HB.out).index (P := Tryd.prog) Tryd.underlying42 (E := 83) cav_size hx
      have hKe := hK.1
      subst hKe
      have a0 := hra 0 _ rfl
      have a1 := hra 1 _ rfl
      have a2 := hra 2 _ rfl
      have a3 := hra 3 _ rfl
      have a4 := hra 4 _ rfl
      simp only [Nat.add_zero] at a0
      have hsb := HB.out.size
      obtain ⟨f1, f2, f3⟩ := HF.out x (List.mem_of_getElem? hx)
      have HM2 : Hid (m + (x.text.size + x.id.size + x.vault.size + 1) = t.id.size + gsum (t.cavs.take (k + 1))) := hide (by
        rw [List.take_add_one, hx, gsum_app, HM.out]
        simp [gsum]
        omega)
      clear hx hK hra
      obtain ⟨m', hm'⟩ : ∃ m', m' = m + (x.text.size + x.id.size + x.vault.size + 1) := ⟨_, rfl⟩
      by_cases hbig : 10000 < m'
      · have HG : Hid (great t = true) := hide (decide_eq_true (by have := HM2.out; have := gsum_take t.cavs (k + 1); omega))
        go_wp2_with fail
        go_ret
        exact ⟨by rw [HG.out]; rfl, HB.out.alloc hsb _⟩
      · go_wp2_with fail
        go_roundw
        case rel =>
          refine ⟨k + 1, m', by omega, by simp, ?_, hide (by rw [hm']; exact HM2.out), hide (fun _ => by omega), hide (HB.out.alloc hsb _)⟩
          congr 1
          omega
        case measure => simp [intOf]; omega
    · obtain rfl : k = n := by omega
      have HM2 : Hid (m = t.id.size + gsum t.cavs) := hide (by rw [HM.out, List.take_of_length_le (Nat.le_of_eq HL.out)])
      by_cases h1 : 10000 < m
      · have HG : Hid (great t = true) := hide (decide_eq_true (by have := HM2.out; omega))
        go_wp2_with fail
        go_ret
        exact ⟨by rw [HG.out]; rfl, HB.out⟩
      · have HG : Hid (great t = false) := hide (decide_eq_false (by have := HM2.out; omega))
        go_wp2_with fail
        go_ret
        exact ⟨by rw [HG.out]; rfl, HB.out⟩

end Go.Proofs.YtdkeflhgengblaaDoor
namespace Go.Proofs.YtdkeflhgengblaaDoor
open Go.RowKit
attribute [local go_sem ↓] ld16 ld17 ld32 ld36
attribute [local go_sem] run_ldAgg run_storeAgg agg_alloc_at agg_alloc_past agg_drew agg_setCell row_alloc_at row_alloc_past row_drew setRow_alloc_at setRow_alloc_past setRow_drew agg_setRow_at agg_setRow_far cell_setRow_at cell_setRow_far row_setRow_far size_setRow tgC_size tgC_one tgC_part tgC_splice tokC_size tokC_0 tokC_1 tokC_2 tokC_3 tokC_g0 tokC_g1 tokC_g2 tokC_g3 tokC_part tokC_tag tokC_set0 tokC_set1 tokC_set2 tokC_set3 tokC_splice tokC_splice0 tgC_splice_any zero_tg zero_tok tokC_all tokC_ne tgC_ne

set_option maxRecDepth 100000 in
set_option maxHeartbeats 1600000 in
theorem c_rsame (t u : Tok) (A B : Option Addr) (n c m d : Nat) (ok ok' : Nat → Prop) (w : World) (hR : kCav.Row ok w A n c t.cavs) (hS : kCav.Row ok' w B m d u.cavs) :
    Calls Tryd.prog 28 #[tokV t A n c, tokV u B m d] w fun e w' => e = .returned (.bool (decide (t = u))) ∧ Below w.heap.size w w' := by
  have HLX := hide hR.1
  have HLY := hide hS.1
  have HR := hide hR
  have HS := hide hS
  have hbx : n ≤ maxLen := Nat.le_trans hR.2.1 hR.2.2.1
  simp only [maxLen] at hbx
  have htag := fun wx => tg_neq wx t.tag u.tag
  clear hR hS
  by_cases h1 : t.key = u.key
  · have h1' : (t.key : Int) = u.key := by rw [h1]
    by_cases h2 : t.id = u.id
    · have h2' := (bytes_inj _ _).2 h2
      by_cases h3 : t.bnd = u.bnd
      · by_cases h4 : t.tag = u.tag
        · rw [decide_eq_true h4] at htag
          have HE : Hid (decide (t = u) = decide (t.cavs = u.cavs)) := hide (by
            rw [Bool.eq_iff_iff]; simp only [decide_eq_true_eq, tok_eq, h1, h2, h3, h4, true_and])
          by_cases hl : n = m
          · subst hl
            clear h1 h2 h4
            go_enter Tryd.func28, Tryd.ntmps28
            go_wp2_with fail
            go_loopw [44] (fun i wr => ∃ k : Nat, k ≤ n ∧ i = .int .i64 (k : Int) ∧ Hid (t.cavs.take k = u.cavs.take k) ∧ Hid (Below w.heap.size w wr) ∧ Hid (wr.cell? ⟨w.heap.size, 2, none⟩ = some (.slice A n c)) ∧ Hid (wr.cell? ⟨w.heap.size + 1, 2, none⟩ = some (.slice B n d))) (fun i _ => n - (intOf i).toNat)
            case atStart => exact ⟨0, Nat.zero_le _, rfl, hide rfl, hide (below2 _ _ _), hide ((cell_of_row _ _ _ _ _ _ ((Below.heap_alloc _ _ _ (by simp)).trans (heap_alloc_new _ _))).trans (tokC_2 _ _ _ _ _)), hide ((cell_of_row _ _ _ _ _ _ (heap_new2 _ _ _)).trans (tokC_2 _ _ _ _ _))⟩
            case round =>
              obtain ⟨k, hk, rfl, HE1, HB, HB2, HB3⟩ := hrel
              have hy0 := HB2.out
              have hy1 := HB3.out
              by_cases hlt : k < n
              · obtain ⟨x, hx⟩ : ∃ x, t.cavs[k]? = some x := ⟨_, List.getElem?_eq_getElem (by have := HLX.out; omega)⟩
                obtain ⟨y, hy⟩ : ∃ y, u.cavs[k]? = some y := ⟨_, List.getElem?_eq_getElem (by have := HLY.out; omega)⟩
                obtain ⟨b1, q1, cs1, hix1, -, hbl1, hK1, hra1⟩ := (HR.out.below HB.out).index (P := Tryd.prog) Tryd.underlying42 (E := 83) cav_size hx
                obtain ⟨b2, q2, cs2, hix2, -, hbl2, hK2, hra2⟩ := (HS.out.below HB.out).index (P := Tryd.prog) Tryd.underlying42 (E := 83) cav_size hy
                have hKe1 := hK1.1
                have hKe2 := hK2.1
                subst hKe1
                subst hKe2
                have a0 := hra1 0 _ rfl
                have a1 := hra1 1 _ rfl
                have a2 := hra1 2 _ rfl
                have a3 := hra1 3 _ rfl
                have a4 := hra1 4 _ rfl
                have b0 := hra2 0 _ rfl
                have b1 := hra2 1 _ rfl
                have b2 := hra2 2 _ rfl
                have b3 := hra2 3 _ rfl
                have b4 := hra2 4 _ rfl
                simp only [Nat.add_zero] at a0 b0
                have HX := hide hx
                have HY := hide hy
                have hne := cav_neq_any x y
                clear hx hy hK1 hK2 hra1 hra2
                by_cases hxy : x = y
                · subst hxy
                  have HE2 : Hid (t.cavs.take (k + 1) = u.cavs.take (k + 1)) := hide (by
                    rw [List.take_add_one, List.take_add_one, HX.out, HY.out, HE1.out])
                  go_wp2_with fail
                  go_region
                  all_goals go_wp2_with fail
                  all_goals go_roundw
                  all_goals first
                    | (case rel => exact ⟨k + 1, by omega, by simp, HE2, hide HB.out.drew, hide HB2.out, hide HB3.out⟩)
                    | (simp [intOf]; omega)
                · have HNE := hide hxy
                  have HF : Hid (decide (t.cavs = u.cavs) = false) := hide (decide_eq_false fun e => by
                    have h1 := HX.out
                    rw [e, HY.out] at h1
                    exact HNE.out (Option.some.inj h1).symm)
                  rw [decide_eq_false hxy] at hne
                  clear hxy
                  go_wp2_with fail
                  go_region
                  all_goals go_wp2_with fail
                  all_goals go_ret
                  all_goals exact ⟨by rw [HE.out, HF.out]; rfl, HB.out.drew⟩
              · obtain rfl : k = n := by omega
                have HF : Hid (decide (t.cavs = u.cavs) = true) := hide (decide_eq_true (by
                  have := HE1.out
                  rwa [List.take_of_length_le (Nat.le_of_eq HLX.out), List.take_of_length_le (Nat.le_of_eq HLY.out)] at this))
                go_wp2_with fail
                go_ret
                exact ⟨by rw [HE.out, HF.out]; rfl, HB.out⟩
          · have HF : Hid (decide (t = u) = false) := hide (decide_eq_false fun e => hl (by rw [← HLX.out, ← HLY.out, e]))
            clear h1 h2 h4
            go_enter Tryd.func28, Tryd.ntmps28
            go_wp2_with fail
            go_ret
            exact ⟨by rw [HF.out]; rfl, below2 _ _ _⟩
        · have HE : Hid (decide (t = u) = false) := hide (decide_eq_false fun e => h4 (by rw [e]))
          rw [decide_eq_false h4] at htag
          clear h1 h2 h4
          go_enter Tryd.func28, Tryd.ntmps28
          go_wp2_with fail
          go_ret
          exact ⟨by rw [HE.out]; rfl, below2 _ _ _⟩
      · have HE : Hid (decide (t = u) = false) := hide (decide_eq_false fun e => h3 (by rw [e]))
        clear h1 h2
        go_enter Tryd.func28, Tryd.ntmps28
        go_wp2_with fail
        go_ret
        exact ⟨by rw [HE.out]; rfl, below2 _ _ _⟩
    · have HE : Hid (decide (t = u) = false) := hide (decide_eq_false fun e => h2 (by rw [e]))
      have h2' : ¬ t.id.toList = u.id.toList := fun e => h2 ((bytes_inj _ _).1 e)
      clear h1 h2
      go_enter Tryd.func28, Tryd.ntmps28
      go_wp2_with fail
      go_ret
      exact ⟨by rw [HE.out]; rfl, below2 _ _ _⟩
  · have HE : Hid (decide (t = u) = false) := hide (decide_eq_false fun e => h1 (by rw [e]))
    have h1' : ¬ (t.key : Int) = u.key := fun e => h1 (by omega)
    clear h1
    go_enter Tryd.func28, Tryd.ntmps28
    go_wp2_with fail
    go_ret
    exact ⟨by rw [HE.out]; rfl, below2 _ _ _⟩
end Go.Proofs.YtdkeflhgengblaaDoor
namespace Go.Proofs.YtdkeflhgengblaaDoor
open Go.RowKit
attribute [local go_sem ↓] ld8 ld32 ld64 ld73
attribute [local go_sem] run_ldAgg run_storeAgg agg_alloc_at agg_alloc_past agg_drew agg_setCell row_alloc_at row_alloc_past row_drew setRow_alloc_at setRow_alloc_past setRow_drew agg_setRow_at agg_setRow_far cell_setRow_at cell_setRow_far row_setRow_far size_setRow s8C_size s8C_part s8C_one s8C_splice0 s8C_ne dgC_size dgC_72 dgC_part dgC_h dgC_r dgC_splice_h dgC_set dgC_one dgC_splice0 dgC_ne zero_dg
attribute [local go_sem] tgC_size tgC_one tgC_part tgC_splice tgC_splice_any zero_tg tgC_ne
attribute [local go_sem ↓] ld36
attribute [local go_sem] tokC_size tokC_0 tokC_1 tokC_2 tokC_3 tokC_g0 tokC_g1 tokC_g2 tokC_g3 tokC_part tokC_tag tokC_set0 tokC_set1 tokC_set2 tokC_set3 tokC_splice tokC_splice0 zero_tok tokC_all tokC_ne

set_option maxRecDepth 100000 in
theorem built_tok (t : Tg) : Tryd.prog.built 44 [(4, .agg (tgC t))] = some (tokC (.int .u64 0) (.string ⟨#[]⟩) (.slice none 0 0) (.bool false) t) := by
  have hz : (Tryd.prog.info? 44).map (fun i => (i.zero, i.size)) = some (some (.agg #[.int .u64 0, .string ⟨#[]⟩, .slice none 0 0, .bool false, .int .u8 0, .int .u8 0, .int .u8 0, .int .u8 0, .int .u8 0, .int .u8 0, .int .u8 0, .int .u8 0, .int .u8 0, .int .u8 0, .int .u8 0, .int .u8 0, .int .u8 0, .int .u8 0, .int .u8 0, .int .u8 0, .int .u8 0, .int .u8 0, .int .u8 0, .int .u8 0, .int .u8 0, .int .u8 0, .int .u8 0, .int .u8 0, .int .u8 0, .int .u8 0, .int .u8 0, .int .u8 0, .int .u8 0, .int .u8 0, .int .u8 0, .int .u8 0]), 36) := by kernel_rfl
  obtain ⟨i0, hi, hzz⟩ := Option.map_eq_some_iff.1 hz
  simp only [Prod.mk.injEq] at hzz
  obtain ⟨hz0, hz1⟩ := hzz
  rw [zero_tok] at hz0
  have hp : #[(⟨"Key", 41, 0, false, "", "", 0⟩ : Field), (⟨"ID", 9, 1, false, "", "", 8⟩ : Field), (⟨"Caveats", 42, 2, false, "", "", 24⟩ : Field), (⟨"Bound", 4, 3, false, "", "", 48⟩ : Field), (⟨"Tag", 29, 4, false, "", "", 49⟩ : Field)].toList.mapM (fun f => (Tryd.prog.info? f.type).map fun i => (f.offset, i.size)) = some [(0, 1), (1, 1), (2, 1), (3, 1), (4, 32)] := by kernel_rfl
  unfold Program.built
  rw [hi, Tryd.underlying44]
  simp only [hz0]
  rw [hp]
  simp only [Value.cells]
  rw [fill_cons (o := 4) (n := 32) rfl (tgC_size _) (by rw [tokC_size]; decide), tokC_splice]
  rfl
set_option maxRecDepth 100000 in
theorem at_buildTT {ops : Array Oper} {rest : List Oper} {a0 : Act} {w : World} {Q : Exit → Act → World → Prop} {dst : Option Tmp} {ty : TypeId} {pos : String} {after : Array Edge} {x : Operand} (t : Tg) (hx : a0.eval x = .agg (tgC t))
    (h : wpList Tryd.prog ops Q rest (a0.put dst (.agg (tokC (.int .u64 0) (.string ⟨#[]⟩) (.slice none 0 0) (.bool false) t))) w) : wpList Tryd.prog ops Q (⟨dst, .build 44 #[(4, x)], ty, pos, after, none⟩ :: rest) a0 w := by
  refine wpList_plain rfl fun _ hK => ?_
  have e : (Array.map (fun x => (x.fst, a0.eval x.snd)) #[(4, x)]).toList = [(4, .agg (tgC t))] := by simp [hx]
  have hb := (congrArg (Tryd.prog.built 44) e).trans (built_tok t)
  refine wp_build 44 #[(4, x)] rfl (by rw [hb]; rfl) ?_
  rw [hb]
  exact hK _ _ h
set_option maxRecDepth 100000 in
theorem bind_unlike : bindT (tgN 1) (tgN 2) ≠ bindT (tgN 3) (tgN 2) := by
  have h1 := macF_eq (tgN 1).l (frames [uBind, txt (tgN 2).l]) (fun l => decide (l.take 1 = [211]))
  have h1' : macF (tgN 1).l (frames [uBind, txt (tgN 2).l]) (fun l => decide (l.take 1 = [211])) = true := by decide +kernel
  have h3 := macF_eq (tgN 3).l (frames [uBind, txt (tgN 2).l]) (fun l => decide (l.take 1 = [239]))
  have h3' : macF (tgN 3).l (frames [uBind, txt (tgN 2).l]) (fun l => decide (l.take 1 = [239])) = true := by decide +kernel
  rw [h1'] at h1
  rw [h3'] at h3
  have e1 := of_decide_eq_true h1.symm
  have e3 := of_decide_eq_true h3.symm
  intro e
  have e' : (bindT (tgN 1) (tgN 2)).l = (bindT (tgN 3) (tgN 2)).l := by rw [e]
  change mac (tgN 1).l (frames [uBind, txt (tgN 2).l]) = mac (tgN 3).l (frames [uBind, txt (tgN 2).l]) at e'
  rw [e', e3] at e1
  exact absurd e1 (by decide)
theorem tset (x : UInt8) : (tgC Tg.zero).setIfInBounds 0 (.int .u8 (x.toNat : Int)) = tgC (tgN x) := rfl
set_option maxRecDepth 100000 in
set_option maxHeartbeats 1600000 in
theorem c_bindalive (w : World) (hP : PrimesAt w) : Calls Tryd.prog 24 #[] w fun e w' => e = .returned (.bool true) ∧ Below w.heap.size w w' := by
  have HP := hide hP
  have hw0 := hP.1
  clear hP
  obtain ⟨T1, hT1⟩ : ∃ T1, tgN 1 = T1 := ⟨_, rfl⟩
  obtain ⟨T2, hT2⟩ : ∃ T2, tgN 2 = T2 := ⟨_, rfl⟩
  obtain ⟨T3, hT3⟩ : ∃ T3, tgN 3 = T3 := ⟨_, rfl⟩
  have ht1 : (tgC Tg.zero).setIfInBounds 0 (.int .u8 1) = tgC T1 := by rw [← hT1]; rfl
  have ht2 : (tgC Tg.zero).setIfInBounds 0 (.int .u8 2) = tgC T2 := by rw [← hT2]; rfl
  have ht3 : (tgC Tg.zero).setIfInBounds 0 (.int .u8 3) = tgC T3 := by rw [← hT3]; rfl
  have hun := bind_unlike
  rw [hT1, hT2, hT3] at hun
  have HUN := hide hun
  clear hT1 hT2 hT3 hun
  obtain ⟨C2, hC2⟩ : ∃ C2, C2 = tokC (.int .u64 0) (.string ⟨#[]⟩) (.slice none 0 0) (.bool false) T2 := ⟨_, rfl⟩
  have HC2 := hide hC2
  obtain ⟨W1, hW1⟩ : ∃ W1, W1 = (w.alloc (.cells (tgC T1) 29)).alloc (.cells C2 44) := ⟨_, rfl⟩
  have HB1 : Hid (Below w.heap.size w W1) := hide (by rw [hW1]; exact below2 _ _ _)
  have hs1 : W1.heap.size = w.heap.size + 2 := by rw [hW1]; simp only [World.size_alloc]
  have HA1 : Hid (W1.heap[w.heap.size]? = some (.cells (tgC T1) 29)) := hide (by
    rw [hW1, Below.heap_alloc _ _ _ (by simp only [World.size_alloc]; omega)]; exact heap_alloc_new _ _)
  have HD1 : Hid (W1.heap[w.heap.size + 1]? = some (.cells C2 44)) := hide (by
    rw [hW1]
    have := heap_alloc_new (w.alloc (.cells (tgC T1) 29)) (.cells C2 44)
    rwa [World.size_alloc] at this)
  go_enter Tryd.func24, Tryd.ntmps24
  go_wp2_with ((with_reducible show wpList _ _ _ (Oper.mk (some 7) _ _ _ _ _ :: _) _ _); go_loud (refine at_buildTT T2 rfl ?_))
  rw [← hC2, ← hW1]
  clear hC2 hW1
  obtain ⟨T4, hT4⟩ : ∃ T4, bindT T1 T2 = T4 := ⟨_, rfl⟩
  rw [show Value.agg C2 = tokV ⟨0, ByteArray.empty, [], false, T2⟩ none 0 0 from by rw [HC2.out]; rfl]
  refine (c_bind T1 ⟨0, ByteArray.empty, [], false, T2⟩ none 0 0 (fun _ => True) W1 (.nil _ _ _ _ _ (Nat.zero_le _)) (by decide) (HP.out.ext HB1.out)).mono ?_
  rintro e w2 ⟨A, n, c, rfl, hr, b2⟩
  rw [show bindR T1 ⟨0, ByteArray.empty, [], false, T2⟩ = ⟨0, ByteArray.empty, [], true, T4⟩ from by rw [← hT4]; rfl, show bindE ⟨0, ByteArray.empty, [], false, T2⟩ = 0 from rfl]
  obtain ⟨X, hX⟩ : ∃ X : Tok, X = ⟨0, ByteArray.empty, [], true, T4⟩ := ⟨_, rfl⟩
  rw [← hX]
  obtain ⟨C3, hC3⟩ : ∃ C3, C3 = tokA X A n c := ⟨_, rfl⟩
  have HC3 := hide hC3
  obtain ⟨G, hG⟩ : ∃ G, G = w2.heap.size := ⟨_, rfl⟩
  obtain ⟨W3, hW3⟩ : ∃ W3, W3 = w2.alloc (.cells C3 44) := ⟨_, rfl⟩
  have b3 : Below w2.heap.size w2 W3 := by rw [hW3]; exact below1 _ _
  have hs2 := b2.size
  have k0 := (b3.block _ (by omega)).trans ((b2.block _ (by omega)).trans HA1.out)
  have k1 := (b3.block _ (by omega)).trans ((b2.block _ (by omega)).trans HD1.out)
  have k3 : W3.heap[G]? = some (.cells C3 44) := by rw [hW3, hG]; exact heap_alloc_new _ _
  have hgg : w.heap.size + 2 ≤ G := by omega
  have HB3 := hide (HB1.out.trans ((b2.trans (b3.mono hs2)).mono (by omega)))
  have hag0 : agg? W3 ⟨w.heap.size, 0, none⟩ 32 = some (tgC T1) := (agg_of_row k0 0 32 (by decide)).trans (tgC_part T1)
  have hag1 : agg? W3 ⟨w.heap.size + 1, 4, none⟩ 32 = some (tgC T2) := (agg_of_row k1 4 32 (by decide)).trans (by rw [HC2.out]; exact tokC_tag _ _ _ _ _)
  have hag3 : agg? W3 ⟨G, 0, none⟩ 36 = some C3 := (agg_of_row k3 0 36 (by decide)).trans (by rw [hC3]; exact tokC_part _ _ _ _ _)
  have hcx3 : W3.cell? ⟨G, 3, none⟩ = some (.bool true) := (cell_of_row W3 _ _ _ _ _ k3).trans (by rw [hC3, tokC_3, hX])
  have K1 := hide k1
  have K3 := hide k3
  have HP3 := hide (HP.out.ext HB3.out)
  have hz3 : C3.size = 36 := by rw [hC3]; exact tokC_size _ _ _ _ _
  have ho3 : oneAll C3 = true := by rw [hC3]; exact tokC_all _ _ _ _ _ _ _ _
  have hsp3 : splice tokZ 0 C3 = C3 := by rw [hC3]; exact tokC_splice0 _ _ _ _ _ _ (tokC_size _ _ _ _ _)
  have HF1 : Hid (fitsB T1 T2 X = true) := hide (by rw [hX]; exact decide_eq_true hT4.symm)
  have HF3 : Hid (fitsB T3 T2 X = false) := hide (by rw [hX]; exact decide_eq_false (fun e => HUN.out (by rw [hT4]; exact e)))
  have hC3' : (.agg C3 : Value) = tokV X A n c := by rw [hC3]
  have HC3V := hide hC3'
  have hg3 : C3[3]'(by rw [hz3]; decide) = .bool true := by
    have h3 : C3[3]? = some (.bool true) := by rw [hC3, tokC_3, hX]
    rw [Array.getElem?_eq_getElem (by rw [hz3]; decide)] at h3
    exact Option.some.inj h3
  rw [hW3] at hag0 hag1 hag3 hcx3
  rw [hG] at hag3 hcx3
  have HGE := hide hG
  have HWE := hide hW3
  clear hX hT4 hr b2 b3 k0 k1 k3 HA1 HD1 HB1 hC3' hW3 hG
  rw [show tokV X A n c = .agg C3 from HC3V.out.symm]
  clear hC3
  go_wp2_with fail
  rw [← HWE.out, ← HGE.out]
  rw [HC3V.out]
  refine (c_fits T1 T2 X A n c W3 HP3.out).mono ?_
  rintro e w4 ⟨rfl, b4⟩
  rw [HF1.out]
  have hs4 := b4.size
  have hl3 := (Array.getElem?_eq_some_iff.1 K3.out).1
  have k14 := (b4.block _ (by omega)).trans K1.out
  have k34 := (b4.block _ (by omega)).trans K3.out
  have hag14 : agg? w4 ⟨w.heap.size + 1, 4, none⟩ 32 = some (tgC T2) := (agg_of_row k14 4 32 (by decide)).trans (by rw [HC2.out]; exact tokC_tag _ _ _ _ _)
  have hag34 : agg? w4 ⟨G, 0, none⟩ 36 = some C3 := (agg_of_row k34 0 36 (by decide)).trans (by rw [HC3.out]; exact tokC_part _ _ _ _ _)
  have HB4 := hide (HB3.out.trans (b4.mono HB3.out.size))
  have HP4 := hide (HP.out.ext HB4.out)
  clear b4 k14 k34 hag0 hag1 hag3 hcx3
  go_wp2_with fail
  rw [HC3V.out]
  refine (c_fits T3 T2 X A n c w4 HP4.out).mono ?_
  rintro e w5 ⟨rfl, b5⟩
  rw [HF3.out]
  have HB5 := hide (HB4.out.trans (b5.mono HB4.out.size))
  clear b5
  go_wp2_with fail
  go_ret
  exact ⟨rfl, HB5.out⟩
set_option maxRecDepth 100000 in
set_option maxHeartbeats 3200000 in
theorem c_bindtells (root en : Tg) (d : Tok) (A : Option Addr) (n c : Nat) (w : World) (hR : kCav.Row (· < w.heap.size) w A n c d.cavs) (hi : d.id.size ≤ 140737488355328) (hf : ∀ c ∈ d.cavs, c.fits) (hP : PrimesAt w) :
    Calls Tryd.prog 5 #[tgV root, tgV en, tokV d A n c] w fun e w' => e = .returned (.bool true) ∧ Below w.heap.size w w' := by
  have HP0 := hide hP
  have hw0 := hP.1
  have HR0 := hide hR
  have HI := hide hi
  have HFT := hide hf
  obtain ⟨CD, hCD⟩ : ∃ CD, CD = tokA d A n c := ⟨_, rfl⟩
  have HCD : Hid (Value.agg CD = tokV d A n c) := hide (by rw [hCD])
  obtain ⟨W1, hW1⟩ : ∃ W1, W1 = ((w.alloc (.cells (tgC root) 29)).alloc (.cells (tgC en) 29)).alloc (.cells CD 44) := ⟨_, rfl⟩
  obtain ⟨g0, g1, g2⟩ := heap3g w (tgC root) (tgC en) CD 29 29 44
  rw [← hW1] at g0 g1 g2
  have hs1 : W1.heap.size = w.heap.size + 3 := by rw [hW1]; simp only [World.size_alloc]
  have HB1 : Hid (Below w.heap.size w W1) := hide (by rw [hW1]; exact below3 _ _ _ _)
  have hzD : CD.size = 36 := by rw [hCD]; exact tokC_size _ _ _ _ _
  have hoD : oneAll CD = true := by rw [hCD]; exact tokC_all _ _ _ _ _ _ _ _
  have G0 := hide g0
  have G1 := hide g1
  have G2 := hide g2
  have HCC := hide hCD
  rw [← HCD.out]
  clear g0 g1 g2 hP hR hi hf hCD
  go_enter Tryd.func5, Tryd.ntmps5
  go_wp2_with fail
  rw [← hW1]
  clear hW1
  refine (c_bindalive W1 (HP0.out.ext HB1.out)).mono ?_
  rintro e w2 ⟨rfl, b2⟩
  have hs2 := b2.size
  have HA2 := hide ((b2.block _ (by omega)).trans G0.out)
  have HE2 := hide ((b2.block _ (by omega)).trans G1.out)
  have HD2 := hide ((b2.block _ (by omega)).trans G2.out)
  have HB2 := hide (HB1.out.trans (b2.mono (by omega)))
  have hsw2 : w.heap.size + 3 ≤ w2.heap.size := by omega
  have hagD : agg? w2 ⟨w.heap.size + 2, 0, none⟩ 36 = some CD := (agg_of_row HD2.out 0 36 (by decide)).trans (by rw [HCC.out]; exact tokC_part _ _ _ _ _)
  have hagR : agg? w2 ⟨w.heap.size, 0, none⟩ 32 = some (tgC root) := (agg_of_row HA2.out 0 32 (by decide)).trans (tgC_part root)
  clear b2 HB1 G0 G1 G2
  go_wp2_with fail
  rw [HCD.out]
  refine (c_great2 d A n c _ w2 (HR0.out.belowB HB2.out) HI.out HFT.out).mono ?_
  rintro e w3 ⟨rfl, b3⟩
  have hs3 := b3.size
  have HA3 := hide ((b3.block _ (by omega)).trans HA2.out)
  have HE3 := hide ((b3.block _ (by omega)).trans HE2.out)
  have HD3 := hide ((b3.block _ (by omega)).trans HD2.out)
  have HB3 := hide (HB2.out.trans (b3.mono (by omega)))
  have hsw3 : w.heap.size + 3 ≤ w3.heap.size := by omega
  clear b3 HB2 HA2 HE2 HD2 hagD hagR
  by_cases hg : great d = true
  · rw [hg, show greatV true = .int .i64 1 from rfl]
    go_wp2_with fail
    go_ret
    exact ⟨rfl, HB3.out⟩
  rw [Bool.eq_false_iff.2 hg, show greatV false = .int .i64 0 from rfl]
  have hn : n ≤ 10000 := by
    have h1 : ¬ (10000 < d.id.size + gsum d.cavs) := fun h => hg (decide_eq_true h)
    have h2 := gsum_len d.cavs
    have h3 := HR0.out.1
    omega
  have HP3 := hide (HP0.out.ext HB3.out)
  have HRD := hide (HR0.out.belowB HB3.out)
  have hagD : agg? w3 ⟨w.heap.size + 2, 0, none⟩ 36 = some CD := (agg_of_row HD3.out 0 36 (by decide)).trans (by rw [HCC.out]; exact tokC_part _ _ _ _ _)
  have hagR : agg? w3 ⟨w.heap.size, 0, none⟩ 32 = some (tgC root) := (agg_of_row HA3.out 0 32 (by decide)).trans (tgC_part root)
  obtain ⟨X, hX⟩ : ∃ X, bindR root d = X := ⟨_, rfl⟩
  obtain ⟨e0, he0⟩ : ∃ e0, bindE d = e0 := ⟨_, rfl⟩
  have HXX := hide hX
  have HEE := hide he0
  clear hg hX he0
  go_wp2_with fail
  rw [HCD.out]
  refine (c_bind root d A n c _ w3 HRD.out (by omega) HP3.out).mono ?_
  rintro e w4 ⟨A1, n1, c1, rfl, hr1, b4⟩
  rw [HXX.out] at hr1
  rw [HXX.out, HEE.out]
  obtain ⟨CX1, hCX1⟩ : ∃ CX1, CX1 = tokA X A1 n1 c1 := ⟨_, rfl⟩
  have HV1 : Hid (Value.agg CX1 = tokV X A1 n1 c1) := hide (by rw [hCX1])
  rw [← HV1.out]
  have hs4 := b4.size
  have b41 : Below w3.heap.size w3 (w4.alloc (.cells CX1 44)) := b4.alloc hs4 _
  have HA4 := hide ((b41.block _ (by omega)).trans HA3.out)
  have HE4 := hide ((b41.block _ (by omega)).trans HE3.out)
  have HD4 := hide ((b41.block _ (by omega)).trans HD3.out)
  have HX4 := hide (heap_alloc_new w4 (.cells CX1 44))
  have HB4 := hide (HB3.out.trans (b41.mono (by omega)))
  have HR1 := hide (hr1.alloc (.cells CX1 44))
  have hz1 : CX1.size = 36 := by rw [hCX1]; exact tokC_size _ _ _ _ _
  have ho1 : oneAll CX1 = true := by rw [hCX1]; exact tokC_all _ _ _ _ _ _ _ _
  have hsp1 : splice tokZ 0 CX1 = CX1 := by rw [hCX1]; exact tokC_splice0 _ _ _ _ _ _ (tokC_size _ _ _ _ _)
  have hagD4 : agg? (w4.alloc (.cells CX1 44)) ⟨w.heap.size + 2, 0, none⟩ 36 = some CD := (agg_of_row HD4.out 0 36 (by decide)).trans (by rw [HCC.out]; exact tokC_part _ _ _ _ _)
  have hagR4 : agg? (w4.alloc (.cells CX1 44)) ⟨w.heap.size, 0, none⟩ 32 = some (tgC root) := (agg_of_row HA4.out 0 32 (by decide)).trans (tgC_part root)
  have HRD4 := hide (HR0.out.belowB HB4.out)
  have HCX1 := hide hCX1
  clear b4 b41 hr1 HA3 HE3 HD3 HB3 HP3 HRD hagD hagR hCX1
  go_wp2_with fail
  rw [HCD.out]
  refine (c_rbind root d A n c _ _ HRD4.out (by omega)).mono ?_
  rintro e w5 ⟨A2, n2, c2, rfl, hr2, b5⟩
  rw [HXX.out] at hr2
  rw [HXX.out, HEE.out]
  obtain ⟨CX2, hCX2⟩ : ∃ CX2, CX2 = tokA X A2 n2 c2 := ⟨_, rfl⟩
  have HV2 : Hid (Value.agg CX2 = tokV X A2 n2 c2) := hide (by rw [hCX2])
  rw [← HV2.out]
  obtain ⟨G1, hG1⟩ : ∃ G1, G1 = w4.heap.size := ⟨_, rfl⟩
  obtain ⟨G2, hG2⟩ : ∃ G2, G2 = w5.heap.size := ⟨_, rfl⟩
  obtain ⟨W6, hW6⟩ : ∃ W6, W6 = w5.alloc (.cells CX2 44) := ⟨_, rfl⟩
  have hs5 := b5.size
  simp only [World.size_alloc] at hs5
  have b56 : Below (w4.heap.size + 1) (w4.alloc (.cells CX1 44)) W6 := by rw [hW6]; simp only [World.size_alloc] at b5; exact b5.alloc hs5 _
  have HA := hide ((b56.block _ (by omega)).trans HA4.out)
  have HB := hide ((b56.block _ (by omega)).trans HE4.out)
  have HD : Hid (W6.heap[w.heap.size + 2]? = some (.cells (tokA d A n c) 44)) := hide (((b56.block _ (by omega)).trans HD4.out).trans (by rw [HCC.out]))
  have HX1 : Hid (W6.heap[G1]? = some (.cells (tokA X A1 n1 c1) 44)) := hide (by rw [hG1]; exact ((b56.block _ (by omega)).trans HX4.out).trans (by rw [HCX1.out]))
  have HX2 : Hid (W6.heap[G2]? = some (.cells (tokA X A2 n2 c2) 44)) := hide (by rw [hW6, hG2, ← hCX2]; exact heap_alloc_new _ _)
  have HR1' := hide (HR1.out.below (w' := W6) (by rw [World.size_alloc]; exact b56))
  have HR2 : Hid (kCav.Row (fun _ => True) W6 A2 n2 c2 X.cavs) := hide (by rw [hW6]; exact hr2.alloc _)
  have HB6 := hide (HB4.out.trans (b56.mono (by omega)))
  have HP := hide (HP0.out.ext HB6.out)
  have hz2 : CX2.size = 36 := by rw [hCX2]; exact tokC_size _ _ _ _ _
  have ho2 : oneAll CX2 = true := by rw [hCX2]; exact tokC_all _ _ _ _ _ _ _ _
  have hsp2 : splice tokZ 0 CX2 = CX2 := by rw [hCX2]; exact tokC_splice0 _ _ _ _ _ _ (tokC_size _ _ _ _ _)
  obtain ⟨t1, ht1⟩ : ∃ t1, bindT root en = t1 := ⟨_, rfl⟩
  obtain ⟨q, hq⟩ : ∃ q, fitsB root en d = q := ⟨_, rfl⟩
  obtain ⟨r, hr⟩ : ∃ r, fitsB root d.tag d = r := ⟨_, rfl⟩
  have HT1 := hide ht1
  have HQ := hide hq
  have HRR := hide hr
  have HW6 := hide hW6
  have HG1 := hide hG1
  have HG2 := hide hG2
  clear b5 b56 hr2 hagD4 hagR4 HA4 HE4 HD4 HX4 HB4 HR1 HRD4 hW6 hG1 hG2 hCX2 ht1 hq hr
  go_wp2_with fail
  rw [← HW6.out, ← HG1.out, ← HG2.out]
  clear HW6 HG1 HG2 hz1 hz2 ho1 ho2 hsp1 hsp2
  refine wp_region_ext mixed 41 (fun i v w' => match i with
    | 0 => v = .int .i64 e0
    | 1 => v = .int .i64 e0
    | 2 => v = .bool true
    | 3 => v = .bool true
    | 4 => v = tokV X A1 n1 c1
    | 5 => v = tokV X A2 n2 c2
    | 6 => v = .bool true
    | 7 => v = .bool true
    | 8 => v = .bool true
    | 9 => v = tgV root
    | 10 => v = tgV en
    | 11 => v = tgV t1
    | 12 => v = tgV root
    | 13 => v = tgV en
    | 14 => v = tgV t1
    | 15 => v = .bool true
    | 16 => v = .bool true
    | 17 => v = .bool true
    | 18 => v = tgV root
    | 19 => v = tgV en
    | 20 => v = tokV d A n c
    | 21 => v = .bool q
    | 22 => v = tgV root
    | 23 => v = tgV en
    | 24 => v = tokV d A n c
    | 25 => v = .bool q
    | 26 => v = .bool true
    | 27 => v = .bool true
    | 28 => v = .bool true
    | 29 => v = tgV root
    | 30 => v = .pointer (some ⟨w.heap.size + 2, 4, none⟩)
    | 31 => v = tgV d.tag
    | 32 => v = tokV d A n c
    | 33 => v = .bool r
    | 34 => v = tgV root
    | 35 => v = .pointer (some ⟨w.heap.size + 2, 4, none⟩)
    | 36 => v = tgV d.tag
    | 37 => v = tokV d A n c
    | 38 => v = .bool r
    | 39 => v = .bool true
    | _ => v = .bool true
    ) (regOk_of (by kernel_rfl)) rfl ?_ ?_ ?_
  · intro i v w1 w2 h1 h2
    split at h2 <;> exact h2
  · refine ⟨fun a w2 hle hd hf hs K hK => ?_, fun a w2 hle hd hf hs K hK => ?_, fun a w2 hle hd hf hs K hK => ?_, fun a w2 hle hd hf hs K hK => ?_, fun a w2 hle hd hf hs K hK => ?_, fun a w2 hle hd hf hs K hK => ?_, fun a w2 hle hd hf hs K hK => ?_, fun a w2 hle hd hf hs K hK => ?_, fun a w2 hle hd hf hs K hK => ?_, fun a w2 hle hd hf hs K hK => ?_, fun a w2 hle hd hf hs K hK => ?_, fun a w2 hle hd hf hs K hK => ?_, fun a w2 hle hd hf hs K hK => ?_, fun a w2 hle hd hf hs K hK => ?_, fun a w2 hle hd hf hs K hK => ?_, fun a w2 hle hd hf hs K hK => ?_, fun a w2 hle hd hf hs K hK => ?_, fun a w2 hle hd hf hs K hK => ?_, fun a w2 hle hd hf hs K hK => ?_, fun a w2 hle hd hf hs K hK => ?_, fun a w2 hle hd hf hs K hK => ?_, fun a w2 hle hd hf hs K hK => ?_, fun a w2 hle hd hf hs K hK => ?_, fun a w2 hle hd hf hs K hK => ?_, fun a w2 hle hd hf hs K hK => ?_, fun a w2 hle hd hf hs K hK => ?_, fun a w2 hle hd hf hs K hK => ?_, fun a w2 hle hd hf hs K hK => ?_, fun a w2 hle hd hf hs K hK => ?_, fun a w2 hle hd hf hs K hK => ?_, fun a w2 hle hd hf hs K hK => ?_, fun a w2 hle hd hf hs K hK => ?_, fun a w2 hle hd hf hs K hK => ?_, fun a w2 hle hd hf hs K hK => ?_, fun a w2 hle hd hf hs K hK => ?_, fun a w2 hle hd hf hs K hK => ?_, fun a w2 hle hd hf hs K hK => ?_, fun a w2 hle hd hf hs K hK => ?_, fun a w2 hle hd hf hs K hK => ?_, fun a w2 hle hd hf hs K hK => ?_, fun a w2 hle hd hf hs K hK => ?_, trivial⟩
    all_goals clear hd
    · -- 28 := Op.move t8
      have e8 := hf 8 rfl; simp [Act.eval] at e8
      go_simp; exact hK _ _ (Ext.refl _) rfl
    · -- 29 := Op.move t10
      have e10 := hf 10 rfl; simp [Act.eval] at e10
      go_simp; exact hK _ _ (Ext.refl _) rfl
    · -- 30 := Op.binOp BinOp.eql 3 t28 t29 3
      have e28 := hs 0 28 (needs_direct (by kernel_rfl)) rfl; have e29 := hs 1 29 (needs_direct (by kernel_rfl)) rfl; simp [Act.eval] at e28 e29
      go_simp; exact hK _ _ (Ext.refl _) rfl
    · -- 31 := Op.move t30
      have e30 := hs 2 30 (needs_direct (by kernel_rfl)) rfl; simp [Act.eval] at e30
      go_simp; exact hK _ _ (Ext.refl _) rfl
    · -- 32 := Op.load 44 t7
      have e7 := hf 7 rfl; have gg := hs 3 31 (needs_direct (by kernel_rfl)) rfl; simp [Act.eval] at e7 gg; replace gg := opt_bool gg
      have hq : agg? w2 ⟨G1, 0, none⟩ 36 = some (tokA X A1 n1 c1) := (agg_of_row (hle.heap HX1.out) 0 36 (by decide)).trans (tokC_part _ _ _ _ _)
      go_simp; exact hK _ _ (Ext.refl _) rfl
    · -- 33 := Op.load 44 t9
      have e9 := hf 9 rfl; have gg := hs 3 31 (needs_direct (by kernel_rfl)) rfl; simp [Act.eval] at e9 gg; replace gg := opt_bool gg
      have hq : agg? w2 ⟨G2, 0, none⟩ 36 = some (tokA X A2 n2 c2) := (agg_of_row (hle.heap HX2.out) 0 36 (by decide)).trans (tokC_part _ _ _ _ _)
      go_simp; exact hK _ _ (Ext.refl _) rfl
    · -- 34 := Op.call { value (Operand.func 28), args := #[t32, t33], argTypes := #[44, 44] }
      have e32 := hs 4 32 (needs_direct (by kernel_rfl)) rfl; have e33 := hs 5 33 (needs_direct (by kernel_rfl)) rfl; have gg := hs 3 31 (needs_direct (by kernel_rfl)) rfl; simp [Act.eval] at e32 e33 gg; replace gg := opt_bool gg
      go_simp
      refine (c_rsame X X A1 A2 n1 c1 n2 c2 _ _ w2 (HR1'.out.below hle) (HR2.out.below hle)).mono ?_
      rintro z w9 ⟨rfl, b9⟩
      rw [decide_eq_true rfl]
      exact hK _ _ b9 rfl
    · -- 35 := Op.pick t31 t34 (const (Value.bool false))
      have e31 := hs 3 31 (needs_direct (by kernel_rfl)) rfl; have e34 := hs 6 34 (needs_direct (by kernel_rfl)) rfl; simp [Act.eval] at e31 e34
      go_simp; exact hK _ _ (Ext.refl _) rfl
    · -- 36 := Op.move t35
      have e35 := hs 7 35 (needs_direct (by kernel_rfl)) rfl; simp [Act.eval] at e35
      go_simp; exact hK _ _ (Ext.refl _) rfl
    · -- 37 := Op.load 29 t3
      have e3 := hf 3 rfl; have gg := hs 8 36 (needs_direct (by kernel_rfl)) rfl; simp [Act.eval] at e3 gg; replace gg := opt_bool gg
      have hq : agg? w2 ⟨w.heap.size, 0, none⟩ 32 = some (tgC root) := (agg_of_row (hle.heap HA.out) 0 32 (by decide)).trans (tgC_part root)
      go_simp; exact hK _ _ (Ext.refl _) rfl
    · -- 38 := Op.load 29 t4
      have e4 := hf 4 rfl; have gg := hs 8 36 (needs_direct (by kernel_rfl)) rfl; simp [Act.eval] at e4 gg; replace gg := opt_bool gg
      have hq : agg? w2 ⟨w.heap.size + 1, 0, none⟩ 32 = some (tgC en) := (agg_of_row (hle.heap HB.out) 0 32 (by decide)).trans (tgC_part en)
      go_simp; exact hK _ _ (Ext.refl _) rfl
    · -- 39 := Op.call { value (Operand.func 29), args := #[t37, t38], argTypes := #[29, 29] }
      have e37 := hs 9 37 (needs_direct (by kernel_rfl)) rfl; have e38 := hs 10 38 (needs_direct (by kernel_rfl)) rfl; have gg := hs 8 36 (needs_direct (by kernel_rfl)) rfl; simp [Act.eval] at e37 e38 gg; replace gg := opt_bool gg
      go_simp
      refine (c_btag root en w2 (HP.out.ext hle)).mono ?_
      rintro z w9 ⟨rfl, b9⟩
      rw [HT1.out]
      exact hK _ _ b9 rfl
    · -- 40 := Op.load 29 t3
      have e3 := hf 3 rfl; have gg := hs 8 36 (needs_direct (by kernel_rfl)) rfl; simp [Act.eval] at e3 gg; replace gg := opt_bool gg
      have hq : agg? w2 ⟨w.heap.size, 0, none⟩ 32 = some (tgC root) := (agg_of_row (hle.heap HA.out) 0 32 (by decide)).trans (tgC_part root)
      go_simp; exact hK _ _ (Ext.refl _) rfl
    · -- 41 := Op.load 29 t4
      have e4 := hf 4 rfl; have gg := hs 8 36 (needs_direct (by kernel_rfl)) rfl; simp [Act.eval] at e4 gg; replace gg := opt_bool gg
      have hq : agg? w2 ⟨w.heap.size + 1, 0, none⟩ 32 = some (tgC en) := (agg_of_row (hle.heap HB.out) 0 32 (by decide)).trans (tgC_part en)
      go_simp; exact hK _ _ (Ext.refl _) rfl
    · -- 42 := Op.call { value (Operand.func 30), args := #[t40, t41], argTypes := #[29, 29] }
      have e40 := hs 12 40 (needs_direct (by kernel_rfl)) rfl; have e41 := hs 13 41 (needs_direct (by kernel_rfl)) rfl; have gg := hs 8 36 (needs_direct (by kernel_rfl)) rfl; simp [Act.eval] at e40 e41 gg; replace gg := opt_bool gg
      go_simp
      refine (c_r21tag root en w2).mono ?_
      rintro z w9 ⟨rfl, b9⟩
      rw [HT1.out]
      exact hK _ _ b9 rfl
    · -- 43 := Op.binOp BinOp.eql 29 t39 t42 29
      have e39 := hs 11 39 (needs_direct (by kernel_rfl)) rfl; have e42 := hs 14 42 (needs_direct (by kernel_rfl)) rfl; have gg := hs 8 36 (needs_direct (by kernel_rfl)) rfl; simp [Act.eval] at e39 e42 gg; replace gg := opt_bool gg
      have hq := tg_in w2 t1 t1
      rw [decide_eq_true rfl] at hq
      go_simp; exact hK _ _ (Ext.refl _) rfl
    · -- 44 := Op.pick t36 t43 (const (Value.bool false))
      have e36 := hs 8 36 (needs_direct (by kernel_rfl)) rfl; have e43 := hs 15 43 (needs_direct (by kernel_rfl)) rfl; simp [Act.eval] at e36 e43
      go_simp; exact hK _ _ (Ext.refl _) rfl
    · -- 45 := Op.move t44
      have e44 := hs 16 44 (needs_direct (by kernel_rfl)) rfl; simp [Act.eval] at e44
      go_simp; exact hK _ _ (Ext.refl _) rfl
    · -- 46 := Op.load 29 t3
      have e3 := hf 3 rfl; have gg := hs 17 45 (needs_direct (by kernel_rfl)) rfl; simp [Act.eval] at e3 gg; replace gg := opt_bool gg
      have hq : agg? w2 ⟨w.heap.size, 0, none⟩ 32 = some (tgC root) := (agg_of_row (hle.heap HA.out) 0 32 (by decide)).trans (tgC_part root)
      go_simp; exact hK _ _ (Ext.refl _) rfl
    · -- 47 := Op.load 29 t4
      have e4 := hf 4 rfl; have gg := hs 17 45 (needs_direct (by kernel_rfl)) rfl; simp [Act.eval] at e4 gg; replace gg := opt_bool gg
      have hq : agg? w2 ⟨w.heap.size + 1, 0, none⟩ 32 = some (tgC en) := (agg_of_row (hle.heap HB.out) 0 32 (by decide)).trans (tgC_part en)
      go_simp; exact hK _ _ (Ext.refl _) rfl
    · -- 48 := Op.load 44 t5
      have e5 := hf 5 rfl; have gg := hs 17 45 (needs_direct (by kernel_rfl)) rfl; simp [Act.eval] at e5 gg; replace gg := opt_bool gg
      have hq : agg? w2 ⟨w.heap.size + 2, 0, none⟩ 36 = some (tokA d A n c) := (agg_of_row (hle.heap HD.out) 0 36 (by decide)).trans (tokC_part _ _ _ _ _)
      go_simp; exact hK _ _ (Ext.refl _) rfl
    · -- 49 := Op.call { value (Operand.func 31), args := #[t46, t47, t48], argTypes := #[29, 29, 44] }
      have e46 := hs 18 46 (needs_direct (by kernel_rfl)) rfl; have e47 := hs 19 47 (needs_direct (by kernel_rfl)) rfl; have e48 := hs 20 48 (needs_direct (by kernel_rfl)) rfl; have gg := hs 17 45 (needs_direct (by kernel_rfl)) rfl; simp [Act.eval] at e46 e47 e48 gg; replace gg := opt_bool gg
      go_simp
      refine (c_fits root en d A n c w2 (HP.out.ext hle)).mono ?_
      rintro z w9 ⟨rfl, b9⟩
      rw [HQ.out]
      exact hK _ _ b9 rfl
    · -- 50 := Op.load 29 t3
      have e3 := hf 3 rfl; have gg := hs 17 45 (needs_direct (by kernel_rfl)) rfl; simp [Act.eval] at e3 gg; replace gg := opt_bool gg
      have hq : agg? w2 ⟨w.heap.size, 0, none⟩ 32 = some (tgC root) := (agg_of_row (hle.heap HA.out) 0 32 (by decide)).trans (tgC_part root)
      go_simp; exact hK _ _ (Ext.refl _) rfl
    · -- 51 := Op.load 29 t4
      have e4 := hf 4 rfl; have gg := hs 17 45 (needs_direct (by kernel_rfl)) rfl; simp [Act.eval] at e4 gg; replace gg := opt_bool gg
      have hq : agg? w2 ⟨w.heap.size + 1, 0, none⟩ 32 = some (tgC en) := (agg_of_row (hle.heap HB.out) 0 32 (by decide)).trans (tgC_part en)
      go_simp; exact hK _ _ (Ext.refl _) rfl
    · -- 52 := Op.load 44 t5
      have e5 := hf 5 rfl; have gg := hs 17 45 (needs_direct (by kernel_rfl)) rfl; simp [Act.eval] at e5 gg; replace gg := opt_bool gg
      have hq : agg? w2 ⟨w.heap.size + 2, 0, none⟩ 36 = some (tokA d A n c) := (agg_of_row (hle.heap HD.out) 0 36 (by decide)).trans (tokC_part _ _ _ _ _)
      go_simp; exact hK _ _ (Ext.refl _) rfl
    · -- 53 := Op.call { value (Operand.func 32), args := #[t50, t51, t52], argTypes := #[29, 29, 44] }
      have e50 := hs 22 50 (needs_direct (by kernel_rfl)) rfl; have e51 := hs 23 51 (needs_direct (by kernel_rfl)) rfl; have e52 := hs 24 52 (needs_direct (by kernel_rfl)) rfl; have gg := hs 17 45 (needs_direct (by kernel_rfl)) rfl; simp [Act.eval] at e50 e51 e52 gg; replace gg := opt_bool gg
      go_simp
      refine (c_rfits root en d A n c w2).mono ?_
      rintro z w9 ⟨rfl, b9⟩
      rw [HQ.out]
      exact hK _ _ b9 rfl
    · -- 54 := Op.binOp BinOp.eql 4 t49 t53 4
      have e49 := hs 21 49 (needs_direct (by kernel_rfl)) rfl; have e53 := hs 25 53 (needs_direct (by kernel_rfl)) rfl; have gg := hs 17 45 (needs_direct (by kernel_rfl)) rfl; simp [Act.eval] at e49 e53 gg; replace gg := opt_bool gg
      go_simp; exact hK _ _ (Ext.refl _) rfl
    · -- 55 := Op.pick t45 t54 (const (Value.bool false))
      have e45 := hs 17 45 (needs_direct (by kernel_rfl)) rfl; have e54 := hs 26 54 (needs_direct (by kernel_rfl)) rfl; simp [Act.eval] at e45 e54
      go_simp; exact hK _ _ (Ext.refl _) rfl
    · -- 56 := Op.move t55
      have e55 := hs 27 55 (needs_direct (by kernel_rfl)) rfl; simp [Act.eval] at e55
      go_simp; exact hK _ _ (Ext.refl _) rfl
    · -- 57 := Op.load 29 t3
      have e3 := hf 3 rfl; have gg := hs 28 56 (needs_direct (by kernel_rfl)) rfl; simp [Act.eval] at e3 gg; replace gg := opt_bool gg
      have hq : agg? w2 ⟨w.heap.size, 0, none⟩ 32 = some (tgC root) := (agg_of_row (hle.heap HA.out) 0 32 (by decide)).trans (tgC_part root)
      go_simp; exact hK _ _ (Ext.refl _) rfl
    · -- 58 := Op.fieldAddr 44 t5 4
      have e5 := hf 5 rfl; have gg := hs 28 56 (needs_direct (by kernel_rfl)) rfl; simp [Act.eval] at e5 gg; replace gg := opt_bool gg
      go_simp; exact hK _ _ (Ext.refl _) rfl
    · -- 59 := Op.load 29 t58
      have e58 := hs 30 58 (needs_direct (by kernel_rfl)) rfl; have gg := hs 28 56 (needs_direct (by kernel_rfl)) rfl; simp [Act.eval] at e58 gg; replace gg := opt_bool gg
      have hq : agg? w2 ⟨w.heap.size + 2, 4, none⟩ 32 = some (tgC d.tag) := (agg_of_row (hle.heap HD.out) 4 32 (by decide)).trans (tokC_tag _ _ _ _ _)
      go_simp; exact hK _ _ (Ext.refl _) rfl
    · -- 60 := Op.load 44 t5
      have e5 := hf 5 rfl; have gg := hs 28 56 (needs_direct (by kernel_rfl)) rfl; simp [Act.eval] at e5 gg; replace gg := opt_bool gg
      have hq : agg? w2 ⟨w.heap.size + 2, 0, none⟩ 36 = some (tokA d A n c) := (agg_of_row (hle.heap HD.out) 0 36 (by decide)).trans (tokC_part _ _ _ _ _)
      go_simp; exact hK _ _ (Ext.refl _) rfl
    · -- 61 := Op.call { value (Operand.func 31), args := #[t57, t59, t60], argTypes := #[29, 29, 44] }
      have e57 := hs 29 57 (needs_direct (by kernel_rfl)) rfl; have e59 := hs 31 59 (needs_direct (by kernel_rfl)) rfl; have e60 := hs 32 60 (needs_direct (by kernel_rfl)) rfl; have gg := hs 28 56 (needs_direct (by kernel_rfl)) rfl; simp [Act.eval] at e57 e59 e60 gg; replace gg := opt_bool gg
      go_simp
      refine (c_fits root d.tag d A n c w2 (HP.out.ext hle)).mono ?_
      rintro z w9 ⟨rfl, b9⟩
      rw [HRR.out]
      exact hK _ _ b9 rfl
    · -- 62 := Op.load 29 t3
      have e3 := hf 3 rfl; have gg := hs 28 56 (needs_direct (by kernel_rfl)) rfl; simp [Act.eval] at e3 gg; replace gg := opt_bool gg
      have hq : agg? w2 ⟨w.heap.size, 0, none⟩ 32 = some (tgC root) := (agg_of_row (hle.heap HA.out) 0 32 (by decide)).trans (tgC_part root)
      go_simp; exact hK _ _ (Ext.refl _) rfl
    · -- 63 := Op.fieldAddr 44 t5 4
      have e5 := hf 5 rfl; have gg := hs 28 56 (needs_direct (by kernel_rfl)) rfl; simp [Act.eval] at e5 gg; replace gg := opt_bool gg
      go_simp; exact hK _ _ (Ext.refl _) rfl
    · -- 64 := Op.load 29 t63
      have e63 := hs 35 63 (needs_direct (by kernel_rfl)) rfl; have gg := hs 28 56 (needs_direct (by kernel_rfl)) rfl; simp [Act.eval] at e63 gg; replace gg := opt_bool gg
      have hq : agg? w2 ⟨w.heap.size + 2, 4, none⟩ 32 = some (tgC d.tag) := (agg_of_row (hle.heap HD.out) 4 32 (by decide)).trans (tokC_tag _ _ _ _ _)
      go_simp; exact hK _ _ (Ext.refl _) rfl
    · -- 65 := Op.load 44 t5
      have e5 := hf 5 rfl; have gg := hs 28 56 (needs_direct (by kernel_rfl)) rfl; simp [Act.eval] at e5 gg; replace gg := opt_bool gg
      have hq : agg? w2 ⟨w.heap.size + 2, 0, none⟩ 36 = some (tokA d A n c) := (agg_of_row (hle.heap HD.out) 0 36 (by decide)).trans (tokC_part _ _ _ _ _)
      go_simp; exact hK _ _ (Ext.refl _) rfl
    · -- 66 := Op.call { value (Operand.func 32), args := #[t62, t64, t65], argTypes := #[29, 29, 44] }
      have e62 := hs 34 62 (needs_direct (by kernel_rfl)) rfl; have e64 := hs 36 64 (needs_direct (by kernel_rfl)) rfl; have e65 := hs 37 65 (needs_direct (by kernel_rfl)) rfl; have gg := hs 28 56 (needs_direct (by kernel_rfl)) rfl; simp [Act.eval] at e62 e64 e65 gg; replace gg := opt_bool gg
      go_simp
      refine (c_rfits root d.tag d A n c w2).mono ?_
      rintro z w9 ⟨rfl, b9⟩
      rw [HRR.out]
      exact hK _ _ b9 rfl
    · -- 67 := Op.binOp BinOp.eql 4 t61 t66 4
      have e61 := hs 33 61 (needs_direct (by kernel_rfl)) rfl; have e66 := hs 38 66 (needs_direct (by kernel_rfl)) rfl; have gg := hs 28 56 (needs_direct (by kernel_rfl)) rfl; simp [Act.eval] at e61 e66 gg; replace gg := opt_bool gg
      go_simp; exact hK _ _ (Ext.refl _) rfl
    · -- 68 := Op.pick t56 t67 (const (Value.bool false))
      have e56 := hs 28 56 (needs_direct (by kernel_rfl)) rfl; have e67 := hs 39 67 (needs_direct (by kernel_rfl)) rfl; simp [Act.eval] at e56 e67
      go_simp; exact hK _ _ (Ext.refl _) rfl
  intro vs w8 hle hs
  have v40 := hs 40 (by omega) rfl
  simp only at v40
  clear hs
  have HB9 := hide (HB6.out.trans (hle.mono HB6.out.size))
  clear hle
  simp only [putN, dstAt]
  go_simp
  go_wp2_with fail
  go_ret
  exact ⟨rfl, HB9.out⟩
end Go.Proofs.YtdkeflhgengblaaDoor
namespace Go.Proofs.YtdkeflhgengblaaDoor
open Go.ChangeShapes Go.WideShapes Go.ChangeAt Go.RowKit
theorem len5 {cs : List Value} (h : cs.length = 5) : ∃ a b c d e, cs = [a, b, c, d, e] := by
  match cs, h with
  | [a, b, c, d, e], _ => exact ⟨a, b, c, d, e, rfl⟩
theorem open_cav {H : Type} {enc : TypeId × Value → H} {w : World} {spare : Nat → Bool} {held : Bool} (n : Nat) (cs : List Value) (x : DataW H × List MemPlace) (h : DataW.trod enc Tryd.prog w 0 spare held n 83 cs = some x) :
    ∃ y, kCav.K (· < w.heap.size) w y cs := by
  obtain ⟨xs, m, rfl, -, hl, hx, hf⟩ := DataW.trod_struct Tryd.underlying83 h
  have c5 : Tryd.prog.cellsOf 83 = 5 := by kernel_rfl
  rw [c5] at hl
  obtain ⟨v0, v1, v2, v3, v4, rfl⟩ := len5 hl
  have hxs : xs.length = 5 := hx
  have c9 : Tryd.prog.cellsOf 9 = 1 := by kernel_rfl
  have c4 : Tryd.prog.cellsOf 4 = 1 := by kernel_rfl
  have c39 : Tryd.prog.cellsOf 41 = 1 := by kernel_rfl
  have h0 := hf 0 _ rfl
  have h1 := hf 1 _ rfl
  have h2 := hf 2 _ rfl
  have h3 := hf 3 _ rfl
  have h4 := hf 4 _ rfl
  rw [List.getElem?_eq_getElem (by omega)] at h0 h1 h2 h3 h4
  obtain ⟨b, e0, -⟩ := DataW.trod_bool Tryd.underlying4 h0
  obtain ⟨s1, e1, -, hs1⟩ := DataW.trod_string Tryd.underlying9 h1
  obtain ⟨k, e2, -, hk⟩ := DataW.trod_int Tryd.underlying41 h2
  obtain ⟨s3, e3, -, hs3⟩ := DataW.trod_string Tryd.underlying9 h3
  obtain ⟨s4, e4, -, hs4⟩ := DataW.trod_string Tryd.underlying9 h4
  simp [c4] at e0
  simp [c9] at e1 e3 e4
  simp [c39] at e2
  subst e0 e1 e2 e3 e4
  simp [Lit.wf, IntKind.min, IntKind.max, IntKind.signed, IntKind.bits] at hk
  obtain ⟨m, rfl⟩ : ∃ m : Nat, k = m := ⟨k.toNat, by omega⟩
  exact ⟨⟨b, s1, m, s3, s4⟩, rfl, hs1, by show m < _; omega, hs3, hs4⟩
theorem split4 {cs : List Value} (h : 4 ≤ cs.length) : ∃ a b c d r, cs = a :: b :: c :: d :: r := by
  match cs, h with
  | a :: b :: c :: d :: r, _ => exact ⟨a, b, c, d, r, rfl⟩
theorem open_tok {H : Type} {enc : TypeId × Value → H} {w : World} {spare : Nat → Bool} {held : Bool} (n : Nat) (cs : List Value) (x : DataW H × List MemPlace) (h : DataW.trod enc Tryd.prog w 0 spare held n 44 cs = some x) :
    ∃ (t : Tok) (A : Option Addr) (l c : Nat), cs = (tokC (.int .u64 (t.key : Int)) (.string t.id) (.slice A l c) (.bool t.bnd) t.tag).toList ∧ kCav.Row (· < w.heap.size) w A l c t.cavs ∧ t.key < 18446744073709551616 ∧ t.id.size ≤ maxLen := by
  obtain ⟨xs, m, rfl, -, hl, hx, hf⟩ := DataW.trod_struct Tryd.underlying44 h
  have c36 : Tryd.prog.cellsOf 44 = 36 := by kernel_rfl
  rw [c36] at hl
  have hxs : xs.length = 5 := hx
  have c9 : Tryd.prog.cellsOf 9 = 1 := by kernel_rfl
  have c4 : Tryd.prog.cellsOf 4 = 1 := by kernel_rfl
  have c39 : Tryd.prog.cellsOf 41 = 1 := by kernel_rfl
  have c57 : Tryd.prog.cellsOf 42 = 1 := by kernel_rfl
  have c32 : Tryd.prog.cellsOf 29 = 32 := by kernel_rfl
  have h0 := hf 0 _ rfl
  have h1 := hf 1 _ rfl
  have h2 := hf 2 _ rfl
  have h3 := hf 3 _ rfl
  have h4 := hf 4 _ rfl
  rw [List.getElem?_eq_getElem (by omega)] at h0 h1 h2 h3 h4
  obtain ⟨k, e0, -, hk⟩ := DataW.trod_int Tryd.underlying41 h0
  obtain ⟨s1, e1, -, hs1⟩ := DataW.trod_string Tryd.underlying9 h1
  obtain ⟨A, l, c, cv, e2, hr⟩ := trod_row (d := kCav) Tryd.underlying42 (by kernel_rfl) (by decide) open_cav h2
  obtain ⟨b, e3, -⟩ := DataW.trod_bool Tryd.underlying4 h3
  obtain ⟨tg, e4⟩ := open_tag _ _ _ h4
  simp [Lit.wf, IntKind.min, IntKind.max, IntKind.signed, IntKind.bits] at hk
  obtain ⟨m, rfl⟩ : ∃ m : Nat, k = m := ⟨k.toNat, by omega⟩
  refine ⟨⟨m, s1, cv, b, tg⟩, A, l, c, ?_, hr, by show m < _; omega, hs1⟩
  obtain ⟨a0, a1, a2, a3, r, rfl⟩ := split4 (cs := cs) (by omega)
  have hlr : r.length = 32 := by simpa using hl
  simp [c39] at e0
  simp [c9] at e1
  simp [c57] at e2
  simp [c4] at e3
  have e4' : r = (tgC tg).toList := by
    rw [← e4]
    simp [c32]
    rw [List.take_of_length_le (Nat.le_of_eq hlr)]
  subst e0 e1 e2 e3 e4'
  simp [tokC]
theorem row_cavs {ok : Nat → Prop} {w : World} {A : Option Addr} {n c : Nat} {xs : List Cav} (h : kCav.Row ok w A n c xs) : ∀ x ∈ xs, x.party < 18446744073709551616 := by
  intro x hx
  obtain ⟨i, hi, rfl⟩ := List.mem_iff_getElem.1 hx
  obtain ⟨b, o, _, _, _, hc⟩ := h.2.2.2 (by have := h.1; omega)
  obtain ⟨cs, hk, _⟩ := hc i _ (List.getElem?_eq_getElem hi)
  exact hk.2.2.1
end Go.Proofs.YtdkeflhgengblaaDoor
namespace Go.Proofs.YtdkeflhgengblaaDoor
open Go.ChangeShapes Go.WideShapes Go.ChangeAt Go.RowKit

def inReach {H : Type} (d : DataW H) (t : TypeId) : Prop := (d.weights Tryd.prog t).all (· ≤ reachBytes) = true
theorem each_part {H : Type} : ∀ {ts : List TypeId} {ds : List (DataW H)} {j : Nat} {t : TypeId} {d : DataW H}, (DataW.weightsEach Tryd.prog ts ds).all (· ≤ reachBytes) = true → ts[j]? = some t → ds[j]? = some d → inReach d t := by
  intro ts ds j t d h ht hd
  unfold inReach
  rw [List.all_eq_true] at h ⊢
  intro n hn
  exact h n (DataW.weights_mem_each ht hd n hn)
theorem all_mem {H : Type} : ∀ {e : TypeId} {ds : List (DataW H)} {d : DataW H}, (DataW.weightsAll Tryd.prog e ds).all (· ≤ reachBytes) = true → d ∈ ds → inReach d e
  | e, [], d, _, hd => by simp at hd
  | e, x :: r, d, h, hd => by
    simp only [DataW.weightsAll, List.all_append, Bool.and_eq_true] at h
    simp only [List.mem_cons] at hd
    rcases hd with rfl | hd
    · exact h.1
    · exact all_mem h.2 hd
theorem reach_str {H : Type} {s : ByteArray} {t : TypeId} (h : inReach (H := H) (.lit (.string s.data.toList)) t) : s.size ≤ 140737488355328 := by
  unfold inReach at h
  simp only [DataW.weights, List.all_cons, List.all_nil, Bool.and_true, decide_eq_true_eq] at h
  have e : s.data.toList.length = s.size := by rw [Array.length_toList]; rfl
  have := reachBytes_lt
  omega
theorem reach_struct {H : Type} {t : TypeId} {fs : Array Field} {parts : List (DataW H)} (hu : Tryd.prog.underlying t = some (.struct fs)) (h : inReach (.agg parts) t) : (DataW.weightsEach Tryd.prog (fs.toList.map (·.type)) parts).all (· ≤ reachBytes) = true := by
  unfold inReach at h
  simpa [DataW.weights, hu] using h
theorem reach_slice {H : Type} {t e : TypeId} {el sp : List (DataW H)} (hu : Tryd.prog.underlying t = some (.slice e)) (h : inReach (.slice el sp) t) : (DataW.weightsAll Tryd.prog e el).all (· ≤ reachBytes) = true := by
  unfold inReach at h
  simp only [DataW.weights, hu, List.all_cons, List.all_append, Bool.and_eq_true] at h
  exact h.2.1
variable {H : Type} {enc : TypeId × Value → H} {w : World} {spare : Nat → Bool} {held : Bool}
/-- As 'trod_row', of elements of which more is known. -/
theorem trod_row_s {α : Type} {d : Kd α} {Q : α → Prop} {t e : TypeId} {fuel : Nat} {cs : List Value} {x : DataW H × List MemPlace} (hT : Tryd.prog.underlying t = some (.slice e)) (hsz : Tryd.prog.cellsOf e = d.sz) (h0 : 0 < d.sz)
    (hel : ∀ n cs x, DataW.trod enc Tryd.prog w 0 spare held n e cs = some x → inReach x.1 e → ∃ y, d.K (· < w.heap.size) w y cs ∧ Q y) (h : DataW.trod enc Tryd.prog w 0 spare held fuel t cs = some x) (hw : inReach x.1 t) :
    ∃ A n c xs, cs = [.slice A n c] ∧ d.Row (· < w.heap.size) w A n c xs ∧ ∀ y ∈ xs, Q y := by
  rcases Go.Deep.open_slice hT h with ⟨rfl, _⟩ | ⟨a, len, cap, m, n, D, Pl, rfl, _, hl, hm, hmm, rfl, hi⟩
  · exact ⟨_, _, _, [], rfl, .nil _ _ _ _ _ (Nat.zero_le _), by simp⟩
  · have hlm : len ≤ m := by rw [hmm]; split <;> omega
    have hE := reach_slice hT hw
    rcases Nat.eq_zero_or_pos len with hz | hpos
    · subst hz
      exact ⟨_, _, _, [], rfl, .nil _ _ _ _ _ hm, by simp⟩
    have hc0 : ∀ i, i < len → ∃ y, ∃ cs', Tryd.prog.cellsOf e = cs'.length ∧ w.cells? 0 (a.add (i * Tryd.prog.cellsOf e)) (Tryd.prog.cellsOf e) = some cs' ∧ d.K (· < w.heap.size) w y cs' ∧ Q y := fun i hil => by
      obtain ⟨cs', hcs, htr⟩ := hi i (by omega)
      obtain ⟨y, hy, hq⟩ := hel _ _ _ htr (all_mem hE (List.mem_map.2 ⟨i, by simpa using hil, rfl⟩))
      obtain ⟨_, hcl, _⟩ := World.cells?_some hcs
      exact ⟨y, cs', hcl.symm, hcs, hy, hq⟩
    have hsp : a.spot = none ∧ a.block < w.heap.size := by
      obtain ⟨y, cs', hcl0, hcs, hy, _⟩ := hc0 0 hpos
      obtain ⟨_, hcl, hat⟩ := World.cells?_some hcs
      have hp : 0 < cs'.length := by rw [hcl, hsz]; exact h0
      have hg : w.cell? a = some (cs'[0]'(by omega)) := by
        have := (hat 0 (by omega)).trans (List.getElem?_eq_getElem (by omega))
        simpa [Addr.add] using this
      exact ⟨World.cell?_spot hg, World.block_lt_of_cell? w _ hg⟩
    obtain ⟨b, o, sp⟩ := a
    obtain ⟨rfl, hlt⟩ := hsp
    have hc : ∀ i, i < len → ∃ y, ∃ cs, (d.K (· < w.heap.size) w y cs ∧ w.rangeAt b (o + i * d.sz) cs) ∧ Q y := fun i hil => by
      obtain ⟨y, cs', _, hcs, hy, hq⟩ := hc0 i hil
      obtain ⟨_, hcl, hat⟩ := World.cells?_some hcs
      rw [hsz] at hcl hat
      refine ⟨y, cs', ⟨hy, fun j v hv => ?_⟩, hq⟩
      have := hat j (by rw [← hcl]; exact (List.getElem?_eq_some_iff.1 hv).1)
      rw [hv, Addr.add_none, Addr.add_none] at this
      exact this
    obtain ⟨xs, hxl, hx⟩ := list_of len hc
    exact ⟨_, _, _, xs, rfl, ⟨hxl, hl, hm, fun hn => ⟨b, o, rfl, hlt, hlt, fun i x hix => let ⟨cs, hq, _⟩ := hx i x hix; ⟨cs, hq⟩⟩⟩, fun y hy => by
      obtain ⟨i, hi', rfl⟩ := List.mem_iff_getElem.1 hy
      obtain ⟨cs, _, hq⟩ := hx i _ (List.getElem?_eq_getElem hi')
      exact hq⟩
theorem str_open_s (n : Nat) (cs : List Value) (x : DataW H × List MemPlace) (h : DataW.trod enc Tryd.prog w 0 spare held n 9 cs = some x) (hw : inReach x.1 9) :
    ∃ y : ByteArray, kStr.K (· < w.heap.size) w y cs ∧ y.size ≤ 140737488355328 := by
  obtain ⟨s, rfl, e, hm⟩ := DataW.trod_string Tryd.underlying9 h
  rw [e] at hw
  exact ⟨s, ⟨rfl, hm⟩, reach_str hw⟩
end Go.Proofs.YtdkeflhgengblaaDoor
namespace Go.Proofs.YtdkeflhgengblaaDoor
open Go.ChangeShapes Go.WideShapes Go.ChangeAt Go.RowKit

theorem open_cav_s {H : Type} {enc : TypeId × Value → H} {w : World} {spare : Nat → Bool} {held : Bool} (n : Nat) (cs : List Value) (x : DataW H × List MemPlace) (h : DataW.trod enc Tryd.prog w 0 spare held n 83 cs = some x) (hw : inReach x.1 83) :
    ∃ y, kCav.K (· < w.heap.size) w y cs ∧ y.fits := by
  obtain ⟨y, hy⟩ := open_cav n cs x h
  refine ⟨y, hy, ?_⟩
  obtain ⟨xs, m, rfl, rfl, hl, hx, hf⟩ := DataW.trod_struct Tryd.underlying83 h
  have hxs : xs.length = 5 := hx
  have hE := reach_struct Tryd.underlying83 hw
  have hcs := hy.1
  have c9 : Tryd.prog.cellsOf 9 = 1 := by kernel_rfl
  have h1 := hf 1 _ rfl
  have h3 := hf 3 _ rfl
  have h4 := hf 4 _ rfl
  rw [List.getElem?_eq_getElem (by omega)] at h1 h3 h4
  obtain ⟨s1, e1, x1, -⟩ := DataW.trod_string Tryd.underlying9 h1
  obtain ⟨s3, e3, x3, -⟩ := DataW.trod_string Tryd.underlying9 h3
  obtain ⟨s4, e4, x4, -⟩ := DataW.trod_string Tryd.underlying9 h4
  simp [c9, hcs, Cav.cells] at e1 e3 e4
  have g1 := each_part (j := 1) (t := 9) (d := xs[1].1) hE rfl (by rw [List.getElem?_map, List.getElem?_eq_getElem (by omega)]; rfl)
  have g3 := each_part (j := 3) (t := 9) (d := xs[3].1) hE rfl (by rw [List.getElem?_map, List.getElem?_eq_getElem (by omega)]; rfl)
  have g4 := each_part (j := 4) (t := 9) (d := xs[4].1) hE rfl (by rw [List.getElem?_map, List.getElem?_eq_getElem (by omega)]; rfl)
  rw [x1] at g1
  rw [x3] at g3
  rw [x4] at g4
  exact ⟨by rw [e1]; exact reach_str g1, by rw [e3]; exact reach_str g3, by rw [e4]; exact reach_str g4⟩
variable {H : Type} {enc : TypeId × Value → H} {w : World} {spare : Nat → Bool} {held : Bool}
theorem open_tok_s (n : Nat) (cs : List Value) (x : DataW H × List MemPlace) (h : DataW.trod enc Tryd.prog w 0 spare held n 44 cs = some x) (hw : inReach x.1 44) :
    ∃ (t : Tok) (A : Option Addr) (l c : Nat), cs = (tokC (.int .u64 (t.key : Int)) (.string t.id) (.slice A l c) (.bool t.bnd) t.tag).toList ∧ kCav.Row (· < w.heap.size) w A l c t.cavs ∧ t.key < 18446744073709551616 ∧ t.id.size ≤ 140737488355328 ∧ ∀ c ∈ t.cavs, c.fits := by
  obtain ⟨t, A, l, c, e, hr, hk, -⟩ := open_tok n cs x h
  obtain ⟨xs, m, rfl, rfl, hl, hx, hf⟩ := DataW.trod_struct Tryd.underlying44 h
  have hxs : xs.length = 5 := hx
  have hE := reach_struct Tryd.underlying44 hw
  have c9 : Tryd.prog.cellsOf 9 = 1 := by kernel_rfl
  have c57 : Tryd.prog.cellsOf 42 = 1 := by kernel_rfl
  have h1 := hf 1 _ rfl
  have h2 := hf 2 _ rfl
  rw [List.getElem?_eq_getElem (by omega)] at h1 h2
  obtain ⟨s1, e1, x1, -⟩ := DataW.trod_string Tryd.underlying9 h1
  have g1 := each_part (j := 1) (t := 9) (d := xs[1].1) hE rfl (by rw [List.getElem?_map, List.getElem?_eq_getElem (by omega)]; rfl)
  have g2 := each_part (j := 2) (t := 42) (d := xs[2].1) hE rfl (by rw [List.getElem?_map, List.getElem?_eq_getElem (by omega)]; rfl)
  rw [x1] at g1
  obtain ⟨A2, l2, c2, cv, e2, hr2, hq2⟩ := trod_row_s (d := kCav) (Q := Cav.fits) Tryd.underlying42 (by kernel_rfl) (by decide) open_cav_s h2 g2
  simp [c9, e, tokC] at e1
  simp [c57, e, tokC] at e2
  obtain ⟨rfl, rfl, rfl⟩ := e2
  refine ⟨⟨t.key, t.id, cv, t.bnd, t.tag⟩, A, l, c, e, hr2, hk, ?_, hq2⟩
  show t.id.size ≤ _
  rw [e1]
  exact reach_str g1
end Go.Proofs.YtdkeflhgengblaaDoor
namespace Go.Proofs.YtdkeflhgengblaaDoor
open Go.ChangeShapes Go.WideShapes Go.ChangeAt Go.RowKit

set_option maxRecDepth 100000 in
set_option maxHeartbeats 2000000 in
theorem bindTells_lifted (os : Os) (started : os.Started) (H : Type) (enc : TypeId × Value → H) :
    ReturnsInHanded {} Tryd.checked os 5 .any (fun w args => (Rows.bindTellsSpec.pre enc Tryd.prog Tryd.f5 [] false w args ∧ laidMetH Tryd.prog laidD w) ∧ sizedMet enc Tryd.prog Tryd.f5 (OpenSpec.ofChange Rows.bindTellsSpec) false w args)
      (Rows.bindTellsSpec.post enc Tryd.prog Tryd.f5 false true false false) := by
  refine returnsInHanded_of_change_and (C := Tryd.checked) (X := fun w _ => laidMetH Tryd.prog laidD w) (fun _ _ _ hh h => h.of_heap hh) ownKnobD started (by kernel_rfl) Tryd.func5
    (ChangeSpec.witness_shaped (enc := enc) (C := Tryd.checked) (os := os) (X := fun w _ => laidMetH Tryd.prog laidD w) false (World.doorLaid Tryd.prog 400 os) #[.agg #[.int .u8 0, .int .u8 0, .int .u8 0, .int .u8 0, .int .u8 0, .int .u8 0, .int .u8 0, .int .u8 0, .int .u8 0, .int .u8 0, .int .u8 0, .int .u8 0, .int .u8 0, .int .u8 0, .int .u8 0, .int .u8 0, .int .u8 0, .int .u8 0, .int .u8 0, .int .u8 0, .int .u8 0, .int .u8 0, .int .u8 0, .int .u8 0, .int .u8 0, .int .u8 0, .int .u8 0, .int .u8 0, .int .u8 0, .int .u8 0, .int .u8 0, .int .u8 0], .agg #[.int .u8 0, .int .u8 0, .int .u8 0, .int .u8 0, .int .u8 0, .int .u8 0, .int .u8 0, .int .u8 0, .int .u8 0, .int .u8 0, .int .u8 0, .int .u8 0, .int .u8 0, .int .u8 0, .int .u8 0, .int .u8 0, .int .u8 0, .int .u8 0, .int .u8 0, .int .u8 0, .int .u8 0, .int .u8 0, .int .u8 0, .int .u8 0, .int .u8 0, .int .u8 0, .int .u8 0, .int .u8 0, .int .u8 0, .int .u8 0, .int .u8 0, .int .u8 0], .agg #[.int .u64 0, .string ByteArray.empty, .slice none 0 0, .bool false, .int .u8 0, .int .u8 0, .int .u8 0, .int .u8 0, .int .u8 0, .int .u8 0, .int .u8 0, .int .u8 0, .int .u8 0, .int .u8 0, .int .u8 0, .int .u8 0, .int .u8 0, .int .u8 0, .int .u8 0, .int .u8 0, .int .u8 0, .int .u8 0, .int .u8 0, .int .u8 0, .int .u8 0, .int .u8 0, .int .u8 0, .int .u8 0, .int .u8 0, .int .u8 0, .int .u8 0, .int .u8 0, .int .u8 0, .int .u8 0, .int .u8 0, .int .u8 0]] 8 rfl (World.shaped_of_RefB (by kernel_rfl) (by kernel_rfl)) (by kernel_rfl) (by kernel_rfl) (by kernel_rfl) (door_met os _)) ?_
  intro W base args ds gs before hval0 hW _ hwt hL _
  have hval : ∀ (j : Nat) t v, Tryd.f5.params[j]? = some t → args[j]? = some v → Value.okWide Tryd.prog W .any base t v := hval0
  have hW' := hW
  obtain ⟨p, q, hA0, hV, rfl, hfz, hnd⟩ := hW
  have hA : DataW.TrodAll enc Tryd.prog W 0 (fun _ => true) true Tryd.f5.params.toList args.toList ds p := hA0
  have hw2 : (DataW.weightsEach Tryd.prog (Tryd.f5.params.toList ++ Rows.bindTellsSpec.plain.varTypes Tryd.prog) (ds ++ gs)).all (· ≤ reachBytes) = true := hwt
  rw [Tryd.params5] at hA hval hw2
  obtain ⟨v0, v1, v2, d0, d1, d2, p0, p1, p2, rfl, rfl, rfl, ⟨n0, h0⟩, ⟨n1, h1⟩, ⟨n2, h2⟩⟩ := trodAll_three hA
  obtain ⟨rfl, rfl⟩ := trodVars_none hV
  have g0 := each_part (j := 0) (t := 29) (d := d0) hw2 rfl rfl
  have g1 := each_part (j := 1) (t := 29) (d := d1) hw2 rfl rfl
  have g2 := each_part (j := 2) (t := 44) (d := d2) hw2 rfl rfl
  obtain ⟨C0, rfl⟩ := okWide_tag (hval 0 29 v0 rfl rfl)
  obtain ⟨root, e0⟩ := open_tag _ _ _ h0
  obtain rfl := Array.toList_inj.1 (show C0.toList = _ from e0)
  obtain ⟨C1, rfl⟩ := okWide_tag (hval 1 29 v1 rfl rfl)
  obtain ⟨en, e1⟩ := open_tag _ _ _ h1
  obtain rfl := Array.toList_inj.1 (show C1.toList = _ from e1)
  obtain ⟨C2, rfl, -⟩ := okWide_struct Tryd.underlying44 (hval 2 44 v2 rfl rfl)
  obtain ⟨d, A2, l2, c2, e2, hr2, hk2, hi2, hf2⟩ := open_tok_s _ _ _ h2 g2
  obtain rfl := Array.toList_inj.1 (show C2.toList = _ from e2)
  have hP := primes_of hL
  clear hA0 hval0 h0 h1 h2
  refine (c_bindtells root en d A2 l2 c2 W hr2 hi2 hf2 hP).mono fun e W' ⟨he, hg⟩ => ?_
  subst he
  exact ⟨_, rfl, post_true laidOutD (by kernel_rfl) (by kernel_rfl) Tryd.underlying4 rfl hW' rfl hg⟩

theorem bindTells_row : Rows.BindTellsSaid :=
  OpenClaim.holds_of_wide 5 Tryd.f5 rfl rfl rfl rfl rfl rfl rfl ⟨rfl, rfl, rfl, rfl, rfl⟩ rfl rfl rfl rfl rfl (by kernel_rfl) Tryd.func5 (by kernel_rfl)
    (of_decide_eq_true (by kernel_rfl)) (by unfold Func.isWrapper; first | (rw [if_pos (by decide +kernel)]; kernel_rfl) | (rw [if_neg (by decide +kernel)]; exact ⟨rfl, rfl⟩))
    (fun os started H enc _ => bindTells_lifted os started H enc)
theorem bindTells_proved : Rows.BindTellsCardSaid :=
  Claim7.holds_tied_plain_at .later [] [.data] true (true, "d317ab1675fa3a16e363678a6185963307d92010002b8084dbffbaf3b4b18b17") false
    bindTells_row (fun _ h => by cases h) (by kernel_rfl) (fun _ h => by cases h) bindTells_row_tie rfl ⟨rfl, rfl⟩ (by kernel_rfl) rfl
    (fun f fn hf hfn => by
      obtain rfl : f = 5 := Option.some.inj ((show Tryd.prog.funcNamed "chitty/chittylaw21.BindTells" = some 5 by kernel_rfl).symm.trans hf) |>.symm
      obtain rfl : fn = Tryd.f5 := (Option.some.inj (Tryd.func5.symm.trans hfn)).symm
      exact ⟨by kernel_rfl, fun j t ht => by
        rw [Tryd.params5] at ht
        have hm : t ∈ [29, 29, 44] := by simpa using Array.mem_of_getElem? ht
        have hall : ([29, 29, 44].all fun u => !Tryd.prog.wantsStandIn u) = true := by kernel_rfl
        exact (show Tryd.prog.wantsStandIn t = false by simpa using List.all_eq_true.1 hall t hm)⟩)
    (by kernel_rfl)
end Go.Proofs.YtdkeflhgengblaaDoor
