/- Texts of one proof, one behind the other: Th4, Th6, Rc, Reg5, Ch3, Th7, Th2, Th3, Th5, Gr, Rf3b, Th8, OpT, Siz. No condition. -/
import Derived.Test.YtdkeflhgengblaaDoorAdd
import Derived.Test.YtdkeflhgengblaaDoorAdc
import Derived.Test.YtdkeflhgengblaaDoorAda
import Derived.Test.YtdkeflhgengblaaDoorAdb
import Derived.SizedLaws
namespace Go.Proofs.YtdkeflhgengblaaDoor
open Go.RowKit
attribute [local go_sem ↓] ld8 ld32 ld64 ld73
attribute [local go_sem] run_ldAgg run_storeAgg agg_alloc_at agg_alloc_past agg_drew agg_setCell row_alloc_at row_alloc_past row_drew setRow_alloc_at setRow_alloc_past setRow_drew agg_setRow_at agg_setRow_far cell_setRow_at cell_setRow_far row_setRow_far size_setRow s8C_size s8C_part s8C_one s8C_splice0 s8C_ne dgC_size dgC_72 dgC_part dgC_h dgC_r dgC_splice_h dgC_set dgC_one dgC_splice0 dgC_ne zero_dg
attribute [local go_sem] tgC_size tgC_one tgC_part tgC_splice tgC_splice_any zero_tg tgC_ne
attribute [local go_sem ↓] ld36
attribute [local go_sem] tokC_size tokC_0 tokC_1 tokC_2 tokC_3 tokC_g0 tokC_g1 tokC_g2 tokC_g3 tokC_part tokC_tag tokC_set0 tokC_set1 tokC_set2 tokC_set3 tokC_splice tokC_splice0 zero_tok tokC_all tokC_ne

/-- A deal's caveat; a token with it, and the error's number. -/
def dealCav (tag : Tg) (d : Deal) : Cav := ⟨true, ByteArray.empty, d.party, txt (lockB d.key d.ask d.root d.cond), txt (hideB tag d.vault d.root)⟩
def tAddR (t : Tok) (d : Deal) : Tok := if 512 < d.cond.length ∧ t.bnd = false then Tok.zero else addR t (dealCav t.tag d)
def tAddE (t : Tok) (d : Deal) : Int := if 512 < d.cond.length ∧ t.bnd = false then 1 else addE t (dealCav t.tag d)
set_option maxRecDepth 100000 in
set_option maxHeartbeats 1600000 in
theorem c_tadd (t : Tok) (d : Deal) (A : Option Addr) (n c : Nat) (ok : Nat → Prop) (w : World) (hR : kCav.Row ok w A n c t.cavs) (hn : n ≤ 1000000) (hc : d.cond.length ≤ 600) (hp : d.party < 18446744073709551616) (hP : PrimesAt w) :
    Calls Tryd.prog 45 #[tokV t A n c, .agg (dealA d)] w fun e w' => ∃ A' n' c', e = .returned (.tuple #[tokV (tAddR t d) A' n' c', .int .i64 (tAddE t d)]) ∧ kCav.Row (fun _ => True) w' A' n' c' (tAddR t d).cavs ∧ Below w.heap.size w w' := by
  have hw0 := hP.1
  have HR := hide (hR.bound.more (ok' := fun j => j < w.heap.size) fun j hj => hj.2)
  have HN := hide hn
  obtain ⟨CT, hCT⟩ : ∃ CT, CT = tokA t A n c := ⟨_, rfl⟩
  have HTV : Hid (Value.agg CT = tokV t A n c) := hide (by rw [hCT])
  have hzT : CT.size = 36 := by rw [hCT]; exact tokC_size _ _ _ _ _
  obtain ⟨pn, hpn⟩ : ∃ pn, d.party = pn := ⟨_, rfl⟩
  obtain ⟨dk, hdk⟩ : ∃ x, d.key = x := ⟨_, rfl⟩
  obtain ⟨dr, hdr⟩ : ∃ x, d.root = x := ⟨_, rfl⟩
  obtain ⟨cd, hcd⟩ : ∃ x, d.cond = x := ⟨_, rfl⟩
  obtain ⟨da, hda⟩ : ∃ x, d.ask = x := ⟨_, rfl⟩
  obtain ⟨dv, hdv⟩ : ∃ x, d.vault = x := ⟨_, rfl⟩
  obtain ⟨lk, hlk⟩ : ∃ lk, lockB dk da dr cd = lk := ⟨_, rfl⟩
  obtain ⟨hd, hhd⟩ : ∃ hd, hideB t.tag dv dr = hd := ⟨_, rfl⟩
  have hDC : dealCav t.tag d = ⟨true, ByteArray.empty, pn, txt lk, txt hd⟩ := by rw [dealCav, hpn, hdk, hdr, hcd, hda, hdv, hlk, hhd]
  obtain ⟨CD, hCD⟩ : ∃ CD, CD = dealC (.int .u64 (pn : Int)) dk dr (.string (txt cd)) da dv := ⟨_, rfl⟩
  have hDA : dealA d = CD := by rw [hCD, ← hpn, ← hdk, ← hdr, ← hcd, ← hda, ← hdv]
  obtain ⟨L, hL⟩ : ∃ L, cd.length = L := ⟨_, rfl⟩
  have hsz : (txt cd).size = L := by rw [txt_size, hL]
  rw [hcd, hL] at hc
  have hLT : tAddR t d = if 512 < L ∧ t.bnd = false then Tok.zero else addR t ⟨true, ByteArray.empty, pn, txt lk, txt hd⟩ := by rw [tAddR, hcd, hL, hDC]
  have hLE : tAddE t d = if 512 < L ∧ t.bnd = false then 1 else addE t ⟨true, ByteArray.empty, pn, txt lk, txt hd⟩ := by rw [tAddE, hcd, hL, hDC]
  have HX : Hid (Cav.small ⟨true, ByteArray.empty, pn, txt lk, txt hd⟩) := hide (by
    refine ⟨Nat.zero_le _, by rw [← hpn]; exact hp, ?_, ?_⟩
    · show (txt lk).size ≤ _
      rw [txt_size, ← hlk, lockB, sealB_len, List.length_append, dr.len, hL]; omega
    · show (txt hd).size ≤ _
      rw [txt_size, ← hhd, hideB, sealB_len, dr.len]; decide)
  obtain ⟨W3, hW3⟩ : ∃ W3, W3 = ((w.alloc (.cells CT 44)).alloc (.cells CD 72)).alloc (.cells tokZ 44) := ⟨_, rfl⟩
  obtain ⟨g0, g1, g2⟩ := heap3g w CT CD tokZ 44 72 44
  have hcc : (((w.alloc (.cells CT 44)).alloc (.cells CD 72)).alloc (.cells tokZ 44)).cell? ⟨w.heap.size + 1, 65, none⟩ = some (.string (txt cd)) := (cell_of_row _ _ _ _ _ _ g1).trans (by rw [hCD]; exact dealC_65 _ _ _ _ _ _)
  have hcb : (((w.alloc (.cells CT 44)).alloc (.cells CD 72)).alloc (.cells tokZ 44)).cell? ⟨w.heap.size, 3, none⟩ = some (.bool t.bnd) := (cell_of_row _ _ _ _ _ _ g0).trans (by rw [hCT]; exact tokC_3 _ _ _ _ _)
  have hzD : CD.size = 130 := by rw [hCD]; exact dealC_size _ _ _ _ _ _
  have hg65 : CD[65]'(by rw [hzD]; decide) = .string (txt cd) := by
    have h3 : CD[65]? = some (.string (txt cd)) := by rw [hCD]; exact dealC_65 _ _ _ _ _ _
    rw [Array.getElem?_eq_getElem (by rw [hzD]; decide)] at h3
    exact Option.some.inj h3
  have hg3 : CT[3]'(by rw [hzT]; decide) = .bool t.bnd := by
    have h3 : CT[3]? = some (.bool t.bnd) := by rw [hCT]; exact tokC_3 _ _ _ _ _
    rw [Array.getElem?_eq_getElem (by rw [hzT]; decide)] at h3
    exact Option.some.inj h3
  rw [← hW3] at g0 g1 g2
  have hs3 : W3.heap.size = w.heap.size + 3 := by rw [hW3]; simp only [World.size_alloc]
  have HB3 : Hid (Below w.heap.size w W3) := hide (by rw [hW3]; exact below3 _ _ _ _)
  have HP3 := hide (hP.ext HB3.out)
  have G2 := hide g2
  have HG0 : Hid (∀ w2, W3.grownBy w2 (some (w.heap.size + 2)) → w2.heap[w.heap.size]? = some (.cells (tokA t A n c) 44)) := hide (fun w2 h => (h.block _ (by omega) (fun e => by have := Option.some.inj e; omega)).trans (by rw [g0, hCT]))
  have HG1 : Hid (∀ w2, W3.grownBy w2 (some (w.heap.size + 2)) → w2.heap[w.heap.size + 1]? = some (.cells (dealC (.int .u64 (pn : Int)) dk dr (.string (txt cd)) da dv) 72)) := hide (fun w2 h => (h.block _ (by omega) (fun e => by have := Option.some.inj e; omega)).trans (by rw [g1, hCD]))
  have HRT := hide (HR.out.belowB HB3.out)
  have HCD : Hid (cd.length < 1000000) := hide (by omega)
  have HLK := hide hlk
  have HHD := hide hhd
  have HW3 := hide hW3
  rw [← HTV.out, hDA]
  clear g0 g1 g2 hCT hCD hW3 hpn hdk hdr hcd hda hdv hlk hhd hDC hDA hR hP hp hn HR hL
  by_cases hbig : 512 < L ∧ t.bnd = false
  · have HA1 : Hid (tAddR t d = Tok.zero) := hide (by rw [hLT, if_pos hbig])
    have HA2 : Hid (tAddE t d = 1) := hide (by rw [hLE, if_pos hbig])
    obtain ⟨h5, hb⟩ := hbig
    rw [hb] at hcb hg3
    clear hLT hLE hb
    go_enter Tryd.func45, Tryd.ntmps45
    go_wp2_with fail
    exact bodyPost_ret (v := .tuple #[.agg tokZ, .int .i64 1]) (by simp [results, Tryd.results45, go_sem]) rfl ⟨none, 0, 0, by rw [HA1.out, HA2.out]; rfl, by rw [HA1.out]; exact .nil _ _ _ _ _ (Nat.zero_le _), below3 _ _ _ _⟩
  · obtain ⟨R, hRr⟩ : ∃ R, addR t ⟨true, ByteArray.empty, pn, txt lk, txt hd⟩ = R := ⟨_, rfl⟩
    obtain ⟨E0, hEe⟩ : ∃ E0, addE t ⟨true, ByteArray.empty, pn, txt lk, txt hd⟩ = E0 := ⟨_, rfl⟩
    have HRR := hide hRr
    have HEE := hide hEe
    have HA1 : Hid (tAddR t d = R) := hide (by rw [hLT, if_neg hbig, hRr])
    have HA2 : Hid (tAddE t d = E0) := hide (by rw [hLE, if_neg hbig, hEe])
    have hor : ¬ 512 < L ∨ t.bnd = true := by
      by_cases h : 512 < L
      · exact .inr (by cases hb : t.bnd; exact absurd ⟨h, hb⟩ hbig; rfl)
      · exact .inl h
    clear hLT hLE hRr hEe hbig
    go_enter Tryd.func45, Tryd.ntmps45
    have hstop : True := trivial
    rcases hor with h5 | hb
    · go_wp2_with fail
      rw [HTV.out, ← HW3.out]
      clear HW3 hcc hcb hg65 hg3
      refine wp_region_st mixed 25 (some (w.heap.size + 2)) 23 (fun w' => w'.heap[w.heap.size + 2]? = some (.cells tokZ 44)) (fun i v w' => match i with
        | 0 => v = tokV t A n c
        | 1 => v = .pointer (some ⟨w.heap.size + 1, 0, none⟩)
        | 2 => v = .int .u64 (pn : Int)
        | 3 => v = .pointer (some ⟨w.heap.size + 1, 1, none⟩)
        | 4 => v = tgV dk
        | 5 => v = .pointer (some ⟨w.heap.size + 1, 66, none⟩)
        | 6 => v = tgV da
        | 7 => v = .pointer (some ⟨w.heap.size + 1, 33, none⟩)
        | 8 => v = tgV dr
        | 9 => v = .pointer (some ⟨w.heap.size + 1, 65, none⟩)
        | 10 => v = .string (txt cd)
        | 11 => v = .string (txt lk)
        | 12 => v = .pointer (some ⟨w.heap.size, 4, none⟩)
        | 13 => v = tgV t.tag
        | 14 => v = .pointer (some ⟨w.heap.size + 1, 98, none⟩)
        | 15 => v = tgV dv
        | 16 => v = .pointer (some ⟨w.heap.size + 1, 33, none⟩)
        | 17 => v = tgV dr
        | 18 => v = .string (txt hd)
        | 19 => v = .agg #[.bool true, .string ⟨#[]⟩, .int .u64 (pn : Int), .string (txt lk), .string (txt hd)]
        | 20 => ∃ A' n' c', v = .tuple #[tokV R A' n' c', .int .i64 E0] ∧ kCav.Row (fun j => j ≠ w.heap.size + 2) w' A' n' c' R.cavs
        | 21 => ∃ A' n' c', v = tokV R A' n' c' ∧ kCav.Row (fun j => j ≠ w.heap.size + 2) w' A' n' c' R.cavs
        | 22 => v = .int .i64 E0
        | 23 => ∃ A' n' c', w'.heap[w.heap.size + 2]? = some (.cells (tokA R A' n' c') 44) ∧ kCav.Row (fun j => j ≠ w.heap.size + 2) w' A' n' c' R.cavs
        | _ => v = .int .i64 E0
        ) (regOk_of (by kernel_rfl)) rfl ?_ ?_ ?_ ?_ (fun w' => ∃ A' n' c', w'.heap[w.heap.size + 2]? = some (.cells (tokA R A' n' c') 44) ∧ kCav.Row (fun j => j ≠ w.heap.size + 2) w' A' n' c' R.cavs) ?_ (fun _ _ h => h) (by decide) ?_ ?_
      · exact G2.out
      · intro w1 w2 h1 h2
        exact (h1.block _ (Array.getElem?_eq_some_iff.1 h2).1).trans h2
      · intro i v w1 w2 hne h1 h2
        split at h2 <;> first | exact h2 | exact absurd rfl hne | (obtain ⟨A', n', c', e, hr⟩ := h2; exact ⟨A', n', c', e, hr.keep fun j hj hlt => h1.block j hlt (fun e' => hj (Option.some.inj e'))⟩)
      · intro v w1 w2 h1 h2
        obtain ⟨A', n', c', e, hr⟩ := h2; exact ⟨A', n', c', (h1.block _ (Array.getElem?_eq_some_iff.1 e).1).trans e, hr.below h1⟩
      · intro w1 w2 h1 h2
        exact by obtain ⟨A', n', c', e, hr⟩ := h2; exact ⟨A', n', c', (h1.block _ (Array.getElem?_eq_some_iff.1 e).1).trans e, hr.below h1⟩
      · refine ⟨fun a w2 hle hd hf hs hT K hK => ?_, fun a w2 hle hd hf hs hT K hK => ?_, fun a w2 hle hd hf hs hT K hK => ?_, fun a w2 hle hd hf hs hT K hK => ?_, fun a w2 hle hd hf hs hT K hK => ?_, fun a w2 hle hd hf hs hT K hK => ?_, fun a w2 hle hd hf hs hT K hK => ?_, fun a w2 hle hd hf hs hT K hK => ?_, fun a w2 hle hd hf hs hT K hK => ?_, fun a w2 hle hd hf hs hT K hK => ?_, fun a w2 hle hd hf hs hT K hK => ?_, fun a w2 hle hd hf hs hT K hK => ?_, fun a w2 hle hd hf hs hT K hK => ?_, fun a w2 hle hd hf hs hT K hK => ?_, fun a w2 hle hd hf hs hT K hK => ?_, fun a w2 hle hd hf hs hT K hK => ?_, fun a w2 hle hd hf hs hT K hK => ?_, fun a w2 hle hd hf hs hT K hK => ?_, fun a w2 hle hd hf hs hT K hK => ?_, fun a w2 hle hd hf hs hT K hK => ?_, fun a w2 hle hd hf hs hT K hK => ?_, fun a w2 hle hd hf hs hT K hK => ?_, fun a w2 hle hd hf hs hT K hK => ?_, fun a w2 hle hd hf hs hT K hK => ?_, fun a w2 hle hd hf hs hT K hK => ?_, trivial⟩
        all_goals clear hd
        · -- 16 := Op.load 44 t2
          have e2 := hf 2 rfl; simp [Act.eval] at e2
          have hq : agg? w2 ⟨w.heap.size, 0, none⟩ 36 = some (tokA t A n c) := (agg_of_row (HG0.out w2 hle) 0 36 (by decide)).trans (tokC_part _ _ _ _ _)
          go_simp; exact hK _ _ (.inl (Ext.refl _)) rfl
        · -- 17 := Op.fieldAddr 72 t3 0
          have e3 := hf 3 rfl; simp [Act.eval] at e3
          go_simp; exact hK _ _ (.inl (Ext.refl _)) rfl
        · -- 18 := Op.load 41 t17
          have e17 := hs 1 17 (needs_direct (by kernel_rfl)) rfl; simp [Act.eval] at e17
          have hq : w2.cell? ⟨w.heap.size + 1, 0, none⟩ = some (.int .u64 (pn : Int)) := (cell_of_row w2 _ _ _ _ _ (HG1.out w2 hle)).trans (dealC_0 _ _ _ _ _ _)
          go_simp; exact hK _ _ (.inl (Ext.refl _)) rfl
        · -- 19 := Op.fieldAddr 72 t3 1
          have e3 := hf 3 rfl; simp [Act.eval] at e3
          go_simp; exact hK _ _ (.inl (Ext.refl _)) rfl
        · -- 20 := Op.load 29 t19
          have e19 := hs 3 19 (needs_direct (by kernel_rfl)) rfl; simp [Act.eval] at e19
          have hq : agg? w2 ⟨w.heap.size + 1, 1, none⟩ 32 = some (tgC dk) := (agg_of_row (HG1.out w2 hle) 1 32 (by decide)).trans (dealC_key _ _ _ _ _ _)
          go_simp; exact hK _ _ (.inl (Ext.refl _)) rfl
        · -- 21 := Op.fieldAddr 72 t3 4
          have e3 := hf 3 rfl; simp [Act.eval] at e3
          go_simp; exact hK _ _ (.inl (Ext.refl _)) rfl
        · -- 22 := Op.load 29 t21
          have e21 := hs 5 21 (needs_direct (by kernel_rfl)) rfl; simp [Act.eval] at e21
          have hq : agg? w2 ⟨w.heap.size + 1, 66, none⟩ 32 = some (tgC da) := (agg_of_row (HG1.out w2 hle) 66 32 (by decide)).trans (dealC_ask _ _ _ _ _ _)
          go_simp; exact hK _ _ (.inl (Ext.refl _)) rfl
        · -- 23 := Op.fieldAddr 72 t3 2
          have e3 := hf 3 rfl; simp [Act.eval] at e3
          go_simp; exact hK _ _ (.inl (Ext.refl _)) rfl
        · -- 24 := Op.load 29 t23
          have e23 := hs 7 23 (needs_direct (by kernel_rfl)) rfl; simp [Act.eval] at e23
          have hq : agg? w2 ⟨w.heap.size + 1, 33, none⟩ 32 = some (tgC dr) := (agg_of_row (HG1.out w2 hle) 33 32 (by decide)).trans (dealC_root _ _ _ _ _ _)
          go_simp; exact hK _ _ (.inl (Ext.refl _)) rfl
        · -- 25 := Op.fieldAddr 72 t3 3
          have e3 := hf 3 rfl; simp [Act.eval] at e3
          go_simp; exact hK _ _ (.inl (Ext.refl _)) rfl
        · -- 26 := Op.load 9 t25
          have e25 := hs 9 25 (needs_direct (by kernel_rfl)) rfl; simp [Act.eval] at e25
          have hq : w2.cell? ⟨w.heap.size + 1, 65, none⟩ = some (.string (txt cd)) := (cell_of_row w2 _ _ _ _ _ (HG1.out w2 hle)).trans (dealC_65 _ _ _ _ _ _)
          go_simp; exact hK _ _ (.inl (Ext.refl _)) rfl
        · -- 27 := Op.call { value (Operand.func 51), args := #[t20, t22, t24, t26], argTypes := #[29, 29, 29, 9] }
          have e20 := hs 4 20 (needs_direct (by kernel_rfl)) rfl; have e22 := hs 6 22 (needs_direct (by kernel_rfl)) rfl; have e24 := hs 8 24 (needs_direct (by kernel_rfl)) rfl; have e26 := hs 10 26 (needs_direct (by kernel_rfl)) rfl; simp [Act.eval] at e20 e22 e24 e26
          go_simp
          refine (c_tlock dk da dr cd w2 HCD.out (HP3.out.grown hle (by omega))).mono ?_
          rintro z w9 ⟨rfl, b9⟩
          rw [HLK.out]
          exact hK _ _ (.inl b9) rfl
        · -- 28 := Op.fieldAddr 44 t2 4
          have e2 := hf 2 rfl; simp [Act.eval] at e2
          go_simp; exact hK _ _ (.inl (Ext.refl _)) rfl
        · -- 29 := Op.load 29 t28
          have e28 := hs 12 28 (needs_direct (by kernel_rfl)) rfl; simp [Act.eval] at e28
          have hq : agg? w2 ⟨w.heap.size, 4, none⟩ 32 = some (tgC t.tag) := (agg_of_row (HG0.out w2 hle) 4 32 (by decide)).trans (tokC_tag _ _ _ _ _)
          go_simp; exact hK _ _ (.inl (Ext.refl _)) rfl
        · -- 30 := Op.fieldAddr 72 t3 5
          have e3 := hf 3 rfl; simp [Act.eval] at e3
          go_simp; exact hK _ _ (.inl (Ext.refl _)) rfl
        · -- 31 := Op.load 29 t30
          have e30 := hs 14 30 (needs_direct (by kernel_rfl)) rfl; simp [Act.eval] at e30
          have hq : agg? w2 ⟨w.heap.size + 1, 98, none⟩ 32 = some (tgC dv) := (agg_of_row (HG1.out w2 hle) 98 32 (by decide)).trans (dealC_vault _ _ _ _ _ _)
          go_simp; exact hK _ _ (.inl (Ext.refl _)) rfl
        · -- 32 := Op.fieldAddr 72 t3 2
          have e3 := hf 3 rfl; simp [Act.eval] at e3
          go_simp; exact hK _ _ (.inl (Ext.refl _)) rfl
        · -- 33 := Op.load 29 t32
          have e32 := hs 16 32 (needs_direct (by kernel_rfl)) rfl; simp [Act.eval] at e32
          have hq : agg? w2 ⟨w.heap.size + 1, 33, none⟩ 32 = some (tgC dr) := (agg_of_row (HG1.out w2 hle) 33 32 (by decide)).trans (dealC_root _ _ _ _ _ _)
          go_simp; exact hK _ _ (.inl (Ext.refl _)) rfl
        · -- 34 := Op.call { value (Operand.func 53), args := #[t29, t31, t33], argTypes := #[29, 29, 29] }
          have e29 := hs 13 29 (needs_direct (by kernel_rfl)) rfl; have e31 := hs 15 31 (needs_direct (by kernel_rfl)) rfl; have e33 := hs 17 33 (needs_direct (by kernel_rfl)) rfl; simp [Act.eval] at e29 e31 e33
          go_simp
          refine (c_thide t.tag dv dr w2 (HP3.out.grown hle (by omega))).mono ?_
          rintro z w9 ⟨rfl, b9⟩
          rw [HHD.out]
          exact hK _ _ (.inl b9) rfl
        · -- 35 := Op.build 83 #[(0, const (Value.bool true)), (2, t18), (3, t27), (4, t34)]
          have e18 := hs 2 18 (needs_direct (by kernel_rfl)) rfl; have e27 := hs 11 27 (needs_direct (by kernel_rfl)) rfl; have e34 := hs 18 34 (needs_direct (by kernel_rfl)) rfl; simp [Act.eval] at e18 e27 e34
          go_simp; exact hK _ _ (.inl (Ext.refl _)) rfl
        · -- 36 := Op.call { value (Operand.func 59), args := #[t16, t35], argTypes := #[44, 83] }
          have e16 := hs 0 16 (needs_direct (by kernel_rfl)) rfl; have e35 := hs 19 35 (needs_direct (by kernel_rfl)) rfl; simp [Act.eval] at e16 e35
          go_simp
          refine (c_cadd t ⟨true, ByteArray.empty, pn, txt lk, txt hd⟩ A n c _ w2 (HRT.out.keep fun j hj hlt => hle.block j (by omega) (fun e' => by have := Option.some.inj e'; omega)) HN.out HX.out (HP3.out.grown hle (by omega))).mono ?_
          rintro z w9 ⟨A', n', c', rfl, hr, b9⟩
          rw [HRR.out] at hr
          rw [HRR.out, HEE.out]
          have hsz2 := hle.size
          exact hK _ _ (.inl b9) ⟨A', n', c', rfl, hr.more fun j hj => by omega⟩
        · -- 37 := Op.extract t36 0
          have e36 := hs 20 36 (needs_direct (by kernel_rfl)) rfl; simp [Act.eval] at e36
          obtain ⟨A', n', c', e36, hr⟩ := e36
          go_simp
          exact hK _ _ (.inl (Ext.refl _)) ⟨A', n', c', rfl, hr⟩
        · -- 38 := Op.extract t36 1
          have e36 := hs 20 36 (needs_direct (by kernel_rfl)) rfl; simp [Act.eval] at e36
          obtain ⟨A', n', c', e36, hr⟩ := e36
          go_simp
          exact hK _ _ (.inl (Ext.refl _)) rfl
        · -- None := Op.store 44 t4 t37
          have e4 := hf 4 rfl; have e37 := hs 21 37 (needs_direct (by kernel_rfl)) rfl; simp [Act.eval] at e4 e37
          obtain ⟨A', n', c', e37, hr⟩ := e37
          have hz := hT rfl
          have hrz := row_of hz
          obtain ⟨C, hC⟩ : ∃ C, C = tokA R A' n' c' := ⟨_, rfl⟩
          have hzC : C.size = 36 := by rw [hC]; exact tokC_size _ _ _ _ _
          have hoC : oneAll C = true := by rw [hC]; exact tokC_all _ _ _ _ _ _ _ _
          have hspC : splice tokZ 0 C = C := by rw [hC]; exact tokC_splice0 _ _ _ _ _ _ (tokC_size _ _ _ _ _)
          rw [show tokV R A' n' c' = .agg C from by rw [hC]] at e37
          have HC := hide hC
          clear hC
          go_simp
          exact hK undef _ (.inr ⟨rfl, grown_setRow (grownBy_refl _ _) _⟩) ⟨A', n', c', (setRow_heap w2 (w.heap.size + 2) tokZ C 44 _ hz).trans (by rw [HC.out]), hr.keep fun j hj _ => heap_setRow_far _ _ _ hj⟩
        · -- 5 := Op.assign t38
          have e38 := hs 22 38 (needs_direct (by kernel_rfl)) rfl; simp [Act.eval] at e38
          go_simp; exact hK _ _ (.inl (Ext.refl _)) rfl
      intro vs w8 hle hs hU8
      have v24 := hs 24 (by omega) rfl
      simp only at v24
      clear hs
      obtain ⟨A', n', c', hk8, hr8⟩ := hU8
      have hag8 : agg? w8 ⟨w.heap.size + 2, 0, none⟩ 36 = some (tokA R A' n' c') := (agg_of_row hk8 0 36 (by decide)).trans (tokC_part _ _ _ _ _)
      have HB8 := hide (HB3.out.grown hle (by omega) (fun q e => by have := Option.some.inj e; omega))
      clear hle hk8
      simp only [putN, dstAt]
      go_simp
      go_wp2_with fail
      exact bodyPost_ret (v := .tuple #[tokV R A' n' c', .int .i64 E0]) (by simp [results, Tryd.results45, go_sem, hag8]) rfl ⟨A', n', c', by rw [HA1.out, HA2.out], by rw [HA1.out]; exact hr8.more fun _ _ => trivial, HB8.out⟩
    · rw [hb] at hcb hg3
      by_cases h5 : 512 < L
      · go_wp2_with fail
        rw [HTV.out, ← HW3.out]
        clear HW3 hcc hcb hg65 hg3
        refine wp_region_st mixed 25 (some (w.heap.size + 2)) 23 (fun w' => w'.heap[w.heap.size + 2]? = some (.cells tokZ 44)) (fun i v w' => match i with
          | 0 => v = tokV t A n c
          | 1 => v = .pointer (some ⟨w.heap.size + 1, 0, none⟩)
          | 2 => v = .int .u64 (pn : Int)
          | 3 => v = .pointer (some ⟨w.heap.size + 1, 1, none⟩)
          | 4 => v = tgV dk
          | 5 => v = .pointer (some ⟨w.heap.size + 1, 66, none⟩)
          | 6 => v = tgV da
          | 7 => v = .pointer (some ⟨w.heap.size + 1, 33, none⟩)
          | 8 => v = tgV dr
          | 9 => v = .pointer (some ⟨w.heap.size + 1, 65, none⟩)
          | 10 => v = .string (txt cd)
          | 11 => v = .string (txt lk)
          | 12 => v = .pointer (some ⟨w.heap.size, 4, none⟩)
          | 13 => v = tgV t.tag
          | 14 => v = .pointer (some ⟨w.heap.size + 1, 98, none⟩)
          | 15 => v = tgV dv
          | 16 => v = .pointer (some ⟨w.heap.size + 1, 33, none⟩)
          | 17 => v = tgV dr
          | 18 => v = .string (txt hd)
          | 19 => v = .agg #[.bool true, .string ⟨#[]⟩, .int .u64 (pn : Int), .string (txt lk), .string (txt hd)]
          | 20 => ∃ A' n' c', v = .tuple #[tokV R A' n' c', .int .i64 E0] ∧ kCav.Row (fun j => j ≠ w.heap.size + 2) w' A' n' c' R.cavs
          | 21 => ∃ A' n' c', v = tokV R A' n' c' ∧ kCav.Row (fun j => j ≠ w.heap.size + 2) w' A' n' c' R.cavs
          | 22 => v = .int .i64 E0
          | 23 => ∃ A' n' c', w'.heap[w.heap.size + 2]? = some (.cells (tokA R A' n' c') 44) ∧ kCav.Row (fun j => j ≠ w.heap.size + 2) w' A' n' c' R.cavs
          | _ => v = .int .i64 E0
          ) (regOk_of (by kernel_rfl)) rfl ?_ ?_ ?_ ?_ (fun w' => ∃ A' n' c', w'.heap[w.heap.size + 2]? = some (.cells (tokA R A' n' c') 44) ∧ kCav.Row (fun j => j ≠ w.heap.size + 2) w' A' n' c' R.cavs) ?_ (fun _ _ h => h) (by decide) ?_ ?_
        · exact G2.out
        · intro w1 w2 h1 h2
          exact (h1.block _ (Array.getElem?_eq_some_iff.1 h2).1).trans h2
        · intro i v w1 w2 hne h1 h2
          split at h2 <;> first | exact h2 | exact absurd rfl hne | (obtain ⟨A', n', c', e, hr⟩ := h2; exact ⟨A', n', c', e, hr.keep fun j hj hlt => h1.block j hlt (fun e' => hj (Option.some.inj e'))⟩)
        · intro v w1 w2 h1 h2
          obtain ⟨A', n', c', e, hr⟩ := h2; exact ⟨A', n', c', (h1.block _ (Array.getElem?_eq_some_iff.1 e).1).trans e, hr.below h1⟩
        · intro w1 w2 h1 h2
          exact by obtain ⟨A', n', c', e, hr⟩ := h2; exact ⟨A', n', c', (h1.block _ (Array.getElem?_eq_some_iff.1 e).1).trans e, hr.below h1⟩
        · refine ⟨fun a w2 hle hd hf hs hT K hK => ?_, fun a w2 hle hd hf hs hT K hK => ?_, fun a w2 hle hd hf hs hT K hK => ?_, fun a w2 hle hd hf hs hT K hK => ?_, fun a w2 hle hd hf hs hT K hK => ?_, fun a w2 hle hd hf hs hT K hK => ?_, fun a w2 hle hd hf hs hT K hK => ?_, fun a w2 hle hd hf hs hT K hK => ?_, fun a w2 hle hd hf hs hT K hK => ?_, fun a w2 hle hd hf hs hT K hK => ?_, fun a w2 hle hd hf hs hT K hK => ?_, fun a w2 hle hd hf hs hT K hK => ?_, fun a w2 hle hd hf hs hT K hK => ?_, fun a w2 hle hd hf hs hT K hK => ?_, fun a w2 hle hd hf hs hT K hK => ?_, fun a w2 hle hd hf hs hT K hK => ?_, fun a w2 hle hd hf hs hT K hK => ?_, fun a w2 hle hd hf hs hT K hK => ?_, fun a w2 hle hd hf hs hT K hK => ?_, fun a w2 hle hd hf hs hT K hK => ?_, fun a w2 hle hd hf hs hT K hK => ?_, fun a w2 hle hd hf hs hT K hK => ?_, fun a w2 hle hd hf hs hT K hK => ?_, fun a w2 hle hd hf hs hT K hK => ?_, fun a w2 hle hd hf hs hT K hK => ?_, trivial⟩
          all_goals clear hd
          · -- 16 := Op.load 44 t2
            have e2 := hf 2 rfl; simp [Act.eval] at e2
            have hq : agg? w2 ⟨w.heap.size, 0, none⟩ 36 = some (tokA t A n c) := (agg_of_row (HG0.out w2 hle) 0 36 (by decide)).trans (tokC_part _ _ _ _ _)
            go_simp; exact hK _ _ (.inl (Ext.refl _)) rfl
          · -- 17 := Op.fieldAddr 72 t3 0
            have e3 := hf 3 rfl; simp [Act.eval] at e3
            go_simp; exact hK _ _ (.inl (Ext.refl _)) rfl
          · -- 18 := Op.load 41 t17
            have e17 := hs 1 17 (needs_direct (by kernel_rfl)) rfl; simp [Act.eval] at e17
            have hq : w2.cell? ⟨w.heap.size + 1, 0, none⟩ = some (.int .u64 (pn : Int)) := (cell_of_row w2 _ _ _ _ _ (HG1.out w2 hle)).trans (dealC_0 _ _ _ _ _ _)
            go_simp; exact hK _ _ (.inl (Ext.refl _)) rfl
          · -- 19 := Op.fieldAddr 72 t3 1
            have e3 := hf 3 rfl; simp [Act.eval] at e3
            go_simp; exact hK _ _ (.inl (Ext.refl _)) rfl
          · -- 20 := Op.load 29 t19
            have e19 := hs 3 19 (needs_direct (by kernel_rfl)) rfl; simp [Act.eval] at e19
            have hq : agg? w2 ⟨w.heap.size + 1, 1, none⟩ 32 = some (tgC dk) := (agg_of_row (HG1.out w2 hle) 1 32 (by decide)).trans (dealC_key _ _ _ _ _ _)
            go_simp; exact hK _ _ (.inl (Ext.refl _)) rfl
          · -- 21 := Op.fieldAddr 72 t3 4
            have e3 := hf 3 rfl; simp [Act.eval] at e3
            go_simp; exact hK _ _ (.inl (Ext.refl _)) rfl
          · -- 22 := Op.load 29 t21
            have e21 := hs 5 21 (needs_direct (by kernel_rfl)) rfl; simp [Act.eval] at e21
            have hq : agg? w2 ⟨w.heap.size + 1, 66, none⟩ 32 = some (tgC da) := (agg_of_row (HG1.out w2 hle) 66 32 (by decide)).trans (dealC_ask _ _ _ _ _ _)
            go_simp; exact hK _ _ (.inl (Ext.refl _)) rfl
          · -- 23 := Op.fieldAddr 72 t3 2
            have e3 := hf 3 rfl; simp [Act.eval] at e3
            go_simp; exact hK _ _ (.inl (Ext.refl _)) rfl
          · -- 24 := Op.load 29 t23
            have e23 := hs 7 23 (needs_direct (by kernel_rfl)) rfl; simp [Act.eval] at e23
            have hq : agg? w2 ⟨w.heap.size + 1, 33, none⟩ 32 = some (tgC dr) := (agg_of_row (HG1.out w2 hle) 33 32 (by decide)).trans (dealC_root _ _ _ _ _ _)
            go_simp; exact hK _ _ (.inl (Ext.refl _)) rfl
          · -- 25 := Op.fieldAddr 72 t3 3
            have e3 := hf 3 rfl; simp [Act.eval] at e3
            go_simp; exact hK _ _ (.inl (Ext.refl _)) rfl
          · -- 26 := Op.load 9 t25
            have e25 := hs 9 25 (needs_direct (by kernel_rfl)) rfl; simp [Act.eval] at e25
            have hq : w2.cell? ⟨w.heap.size + 1, 65, none⟩ = some (.string (txt cd)) := (cell_of_row w2 _ _ _ _ _ (HG1.out w2 hle)).trans (dealC_65 _ _ _ _ _ _)
            go_simp; exact hK _ _ (.inl (Ext.refl _)) rfl
          · -- 27 := Op.call { value (Operand.func 51), args := #[t20, t22, t24, t26], argTypes := #[29, 29, 29, 9] }
            have e20 := hs 4 20 (needs_direct (by kernel_rfl)) rfl; have e22 := hs 6 22 (needs_direct (by kernel_rfl)) rfl; have e24 := hs 8 24 (needs_direct (by kernel_rfl)) rfl; have e26 := hs 10 26 (needs_direct (by kernel_rfl)) rfl; simp [Act.eval] at e20 e22 e24 e26
            go_simp
            refine (c_tlock dk da dr cd w2 HCD.out (HP3.out.grown hle (by omega))).mono ?_
            rintro z w9 ⟨rfl, b9⟩
            rw [HLK.out]
            exact hK _ _ (.inl b9) rfl
          · -- 28 := Op.fieldAddr 44 t2 4
            have e2 := hf 2 rfl; simp [Act.eval] at e2
            go_simp; exact hK _ _ (.inl (Ext.refl _)) rfl
          · -- 29 := Op.load 29 t28
            have e28 := hs 12 28 (needs_direct (by kernel_rfl)) rfl; simp [Act.eval] at e28
            have hq : agg? w2 ⟨w.heap.size, 4, none⟩ 32 = some (tgC t.tag) := (agg_of_row (HG0.out w2 hle) 4 32 (by decide)).trans (tokC_tag _ _ _ _ _)
            go_simp; exact hK _ _ (.inl (Ext.refl _)) rfl
          · -- 30 := Op.fieldAddr 72 t3 5
            have e3 := hf 3 rfl; simp [Act.eval] at e3
            go_simp; exact hK _ _ (.inl (Ext.refl _)) rfl
          · -- 31 := Op.load 29 t30
            have e30 := hs 14 30 (needs_direct (by kernel_rfl)) rfl; simp [Act.eval] at e30
            have hq : agg? w2 ⟨w.heap.size + 1, 98, none⟩ 32 = some (tgC dv) := (agg_of_row (HG1.out w2 hle) 98 32 (by decide)).trans (dealC_vault _ _ _ _ _ _)
            go_simp; exact hK _ _ (.inl (Ext.refl _)) rfl
          · -- 32 := Op.fieldAddr 72 t3 2
            have e3 := hf 3 rfl; simp [Act.eval] at e3
            go_simp; exact hK _ _ (.inl (Ext.refl _)) rfl
          · -- 33 := Op.load 29 t32
            have e32 := hs 16 32 (needs_direct (by kernel_rfl)) rfl; simp [Act.eval] at e32
            have hq : agg? w2 ⟨w.heap.size + 1, 33, none⟩ 32 = some (tgC dr) := (agg_of_row (HG1.out w2 hle) 33 32 (by decide)).trans (dealC_root _ _ _ _ _ _)
            go_simp; exact hK _ _ (.inl (Ext.refl _)) rfl
          · -- 34 := Op.call { value (Operand.func 53), args := #[t29, t31, t33], argTypes := #[29, 29, 29] }
            have e29 := hs 13 29 (needs_direct (by kernel_rfl)) rfl; have e31 := hs 15 31 (needs_direct (by kernel_rfl)) rfl; have e33 := hs 17 33 (needs_direct (by kernel_rfl)) rfl; simp [Act.eval] at e29 e31 e33
            go_simp
            refine (c_thide t.tag dv dr w2 (HP3.out.grown hle (by omega))).mono ?_
            rintro z w9 ⟨rfl, b9⟩
            rw [HHD.out]
            exact hK _ _ (.inl b9) rfl
          · -- 35 := Op.build 83 #[(0, const (Value.bool true)), (2, t18), (3, t27), (4, t34)]
            have e18 := hs 2 18 (needs_direct (by kernel_rfl)) rfl; have e27 := hs 11 27 (needs_direct (by kernel_rfl)) rfl; have e34 := hs 18 34 (needs_direct (by kernel_rfl)) rfl; simp [Act.eval] at e18 e27 e34
            go_simp; exact hK _ _ (.inl (Ext.refl _)) rfl
          · -- 36 := Op.call { value (Operand.func 59), args := #[t16, t35], argTypes := #[44, 83] }
            have e16 := hs 0 16 (needs_direct (by kernel_rfl)) rfl; have e35 := hs 19 35 (needs_direct (by kernel_rfl)) rfl; simp [Act.eval] at e16 e35
            go_simp
            refine (c_cadd t ⟨true, ByteArray.empty, pn, txt lk, txt hd⟩ A n c _ w2 (HRT.out.keep fun j hj hlt => hle.block j (by omega) (fun e' => by have := Option.some.inj e'; omega)) HN.out HX.out (HP3.out.grown hle (by omega))).mono ?_
            rintro z w9 ⟨A', n', c', rfl, hr, b9⟩
            rw [HRR.out] at hr
            rw [HRR.out, HEE.out]
            have hsz2 := hle.size
            exact hK _ _ (.inl b9) ⟨A', n', c', rfl, hr.more fun j hj => by omega⟩
          · -- 37 := Op.extract t36 0
            have e36 := hs 20 36 (needs_direct (by kernel_rfl)) rfl; simp [Act.eval] at e36
            obtain ⟨A', n', c', e36, hr⟩ := e36
            go_simp
            exact hK _ _ (.inl (Ext.refl _)) ⟨A', n', c', rfl, hr⟩
          · -- 38 := Op.extract t36 1
            have e36 := hs 20 36 (needs_direct (by kernel_rfl)) rfl; simp [Act.eval] at e36
            obtain ⟨A', n', c', e36, hr⟩ := e36
            go_simp
            exact hK _ _ (.inl (Ext.refl _)) rfl
          · -- None := Op.store 44 t4 t37
            have e4 := hf 4 rfl; have e37 := hs 21 37 (needs_direct (by kernel_rfl)) rfl; simp [Act.eval] at e4 e37
            obtain ⟨A', n', c', e37, hr⟩ := e37
            have hz := hT rfl
            have hrz := row_of hz
            obtain ⟨C, hC⟩ : ∃ C, C = tokA R A' n' c' := ⟨_, rfl⟩
            have hzC : C.size = 36 := by rw [hC]; exact tokC_size _ _ _ _ _
            have hoC : oneAll C = true := by rw [hC]; exact tokC_all _ _ _ _ _ _ _ _
            have hspC : splice tokZ 0 C = C := by rw [hC]; exact tokC_splice0 _ _ _ _ _ _ (tokC_size _ _ _ _ _)
            rw [show tokV R A' n' c' = .agg C from by rw [hC]] at e37
            have HC := hide hC
            clear hC
            go_simp
            exact hK undef _ (.inr ⟨rfl, grown_setRow (grownBy_refl _ _) _⟩) ⟨A', n', c', (setRow_heap w2 (w.heap.size + 2) tokZ C 44 _ hz).trans (by rw [HC.out]), hr.keep fun j hj _ => heap_setRow_far _ _ _ hj⟩
          · -- 5 := Op.assign t38
            have e38 := hs 22 38 (needs_direct (by kernel_rfl)) rfl; simp [Act.eval] at e38
            go_simp; exact hK _ _ (.inl (Ext.refl _)) rfl
        intro vs w8 hle hs hU8
        have v24 := hs 24 (by omega) rfl
        simp only at v24
        clear hs
        obtain ⟨A', n', c', hk8, hr8⟩ := hU8
        have hag8 : agg? w8 ⟨w.heap.size + 2, 0, none⟩ 36 = some (tokA R A' n' c') := (agg_of_row hk8 0 36 (by decide)).trans (tokC_part _ _ _ _ _)
        have HB8 := hide (HB3.out.grown hle (by omega) (fun q e => by have := Option.some.inj e; omega))
        clear hle hk8
        simp only [putN, dstAt]
        go_simp
        go_wp2_with fail
        exact bodyPost_ret (v := .tuple #[tokV R A' n' c', .int .i64 E0]) (by simp [results, Tryd.results45, go_sem, hag8]) rfl ⟨A', n', c', by rw [HA1.out, HA2.out], by rw [HA1.out]; exact hr8.more fun _ _ => trivial, HB8.out⟩
      · go_wp2_with fail
        rw [HTV.out, ← HW3.out]
        clear HW3 hcc hcb hg65 hg3
        refine wp_region_st mixed 25 (some (w.heap.size + 2)) 23 (fun w' => w'.heap[w.heap.size + 2]? = some (.cells tokZ 44)) (fun i v w' => match i with
          | 0 => v = tokV t A n c
          | 1 => v = .pointer (some ⟨w.heap.size + 1, 0, none⟩)
          | 2 => v = .int .u64 (pn : Int)
          | 3 => v = .pointer (some ⟨w.heap.size + 1, 1, none⟩)
          | 4 => v = tgV dk
          | 5 => v = .pointer (some ⟨w.heap.size + 1, 66, none⟩)
          | 6 => v = tgV da
          | 7 => v = .pointer (some ⟨w.heap.size + 1, 33, none⟩)
          | 8 => v = tgV dr
          | 9 => v = .pointer (some ⟨w.heap.size + 1, 65, none⟩)
          | 10 => v = .string (txt cd)
          | 11 => v = .string (txt lk)
          | 12 => v = .pointer (some ⟨w.heap.size, 4, none⟩)
          | 13 => v = tgV t.tag
          | 14 => v = .pointer (some ⟨w.heap.size + 1, 98, none⟩)
          | 15 => v = tgV dv
          | 16 => v = .pointer (some ⟨w.heap.size + 1, 33, none⟩)
          | 17 => v = tgV dr
          | 18 => v = .string (txt hd)
          | 19 => v = .agg #[.bool true, .string ⟨#[]⟩, .int .u64 (pn : Int), .string (txt lk), .string (txt hd)]
          | 20 => ∃ A' n' c', v = .tuple #[tokV R A' n' c', .int .i64 E0] ∧ kCav.Row (fun j => j ≠ w.heap.size + 2) w' A' n' c' R.cavs
          | 21 => ∃ A' n' c', v = tokV R A' n' c' ∧ kCav.Row (fun j => j ≠ w.heap.size + 2) w' A' n' c' R.cavs
          | 22 => v = .int .i64 E0
          | 23 => ∃ A' n' c', w'.heap[w.heap.size + 2]? = some (.cells (tokA R A' n' c') 44) ∧ kCav.Row (fun j => j ≠ w.heap.size + 2) w' A' n' c' R.cavs
          | _ => v = .int .i64 E0
          ) (regOk_of (by kernel_rfl)) rfl ?_ ?_ ?_ ?_ (fun w' => ∃ A' n' c', w'.heap[w.heap.size + 2]? = some (.cells (tokA R A' n' c') 44) ∧ kCav.Row (fun j => j ≠ w.heap.size + 2) w' A' n' c' R.cavs) ?_ (fun _ _ h => h) (by decide) ?_ ?_
        · exact G2.out
        · intro w1 w2 h1 h2
          exact (h1.block _ (Array.getElem?_eq_some_iff.1 h2).1).trans h2
        · intro i v w1 w2 hne h1 h2
          split at h2 <;> first | exact h2 | exact absurd rfl hne | (obtain ⟨A', n', c', e, hr⟩ := h2; exact ⟨A', n', c', e, hr.keep fun j hj hlt => h1.block j hlt (fun e' => hj (Option.some.inj e'))⟩)
        · intro v w1 w2 h1 h2
          obtain ⟨A', n', c', e, hr⟩ := h2; exact ⟨A', n', c', (h1.block _ (Array.getElem?_eq_some_iff.1 e).1).trans e, hr.below h1⟩
        · intro w1 w2 h1 h2
          exact by obtain ⟨A', n', c', e, hr⟩ := h2; exact ⟨A', n', c', (h1.block _ (Array.getElem?_eq_some_iff.1 e).1).trans e, hr.below h1⟩
        · refine ⟨fun a w2 hle hd hf hs hT K hK => ?_, fun a w2 hle hd hf hs hT K hK => ?_, fun a w2 hle hd hf hs hT K hK => ?_, fun a w2 hle hd hf hs hT K hK => ?_, fun a w2 hle hd hf hs hT K hK => ?_, fun a w2 hle hd hf hs hT K hK => ?_, fun a w2 hle hd hf hs hT K hK => ?_, fun a w2 hle hd hf hs hT K hK => ?_, fun a w2 hle hd hf hs hT K hK => ?_, fun a w2 hle hd hf hs hT K hK => ?_, fun a w2 hle hd hf hs hT K hK => ?_, fun a w2 hle hd hf hs hT K hK => ?_, fun a w2 hle hd hf hs hT K hK => ?_, fun a w2 hle hd hf hs hT K hK => ?_, fun a w2 hle hd hf hs hT K hK => ?_, fun a w2 hle hd hf hs hT K hK => ?_, fun a w2 hle hd hf hs hT K hK => ?_, fun a w2 hle hd hf hs hT K hK => ?_, fun a w2 hle hd hf hs hT K hK => ?_, fun a w2 hle hd hf hs hT K hK => ?_, fun a w2 hle hd hf hs hT K hK => ?_, fun a w2 hle hd hf hs hT K hK => ?_, fun a w2 hle hd hf hs hT K hK => ?_, fun a w2 hle hd hf hs hT K hK => ?_, fun a w2 hle hd hf hs hT K hK => ?_, trivial⟩
          all_goals clear hd
          · -- 16 := Op.load 44 t2
            have e2 := hf 2 rfl; simp [Act.eval] at e2
            have hq : agg? w2 ⟨w.heap.size, 0, none⟩ 36 = some (tokA t A n c) := (agg_of_row (HG0.out w2 hle) 0 36 (by decide)).trans (tokC_part _ _ _ _ _)
            go_simp; exact hK _ _ (.inl (Ext.refl _)) rfl
          · -- 17 := Op.fieldAddr 72 t3 0
            have e3 := hf 3 rfl; simp [Act.eval] at e3
            go_simp; exact hK _ _ (.inl (Ext.refl _)) rfl
          · -- 18 := Op.load 41 t17
            have e17 := hs 1 17 (needs_direct (by kernel_rfl)) rfl; simp [Act.eval] at e17
            have hq : w2.cell? ⟨w.heap.size + 1, 0, none⟩ = some (.int .u64 (pn : Int)) := (cell_of_row w2 _ _ _ _ _ (HG1.out w2 hle)).trans (dealC_0 _ _ _ _ _ _)
            go_simp; exact hK _ _ (.inl (Ext.refl _)) rfl
          · -- 19 := Op.fieldAddr 72 t3 1
            have e3 := hf 3 rfl; simp [Act.eval] at e3
            go_simp; exact hK _ _ (.inl (Ext.refl _)) rfl
          · -- 20 := Op.load 29 t19
            have e19 := hs 3 19 (needs_direct (by kernel_rfl)) rfl; simp [Act.eval] at e19
            have hq : agg? w2 ⟨w.heap.size + 1, 1, none⟩ 32 = some (tgC dk) := (agg_of_row (HG1.out w2 hle) 1 32 (by decide)).trans (dealC_key _ _ _ _ _ _)
            go_simp; exact hK _ _ (.inl (Ext.refl _)) rfl
          · -- 21 := Op.fieldAddr 72 t3 4
            have e3 := hf 3 rfl; simp [Act.eval] at e3
            go_simp; exact hK _ _ (.inl (Ext.refl _)) rfl
          · -- 22 := Op.load 29 t21
            have e21 := hs 5 21 (needs_direct (by kernel_rfl)) rfl; simp [Act.eval] at e21
            have hq : agg? w2 ⟨w.heap.size + 1, 66, none⟩ 32 = some (tgC da) := (agg_of_row (HG1.out w2 hle) 66 32 (by decide)).trans (dealC_ask _ _ _ _ _ _)
            go_simp; exact hK _ _ (.inl (Ext.refl _)) rfl
          · -- 23 := Op.fieldAddr 72 t3 2
            have e3 := hf 3 rfl; simp [Act.eval] at e3
            go_simp; exact hK _ _ (.inl (Ext.refl _)) rfl
          · -- 24 := Op.load 29 t23
            have e23 := hs 7 23 (needs_direct (by kernel_rfl)) rfl; simp [Act.eval] at e23
            have hq : agg? w2 ⟨w.heap.size + 1, 33, none⟩ 32 = some (tgC dr) := (agg_of_row (HG1.out w2 hle) 33 32 (by decide)).trans (dealC_root _ _ _ _ _ _)
            go_simp; exact hK _ _ (.inl (Ext.refl _)) rfl
          · -- 25 := Op.fieldAddr 72 t3 3
            have e3 := hf 3 rfl; simp [Act.eval] at e3
            go_simp; exact hK _ _ (.inl (Ext.refl _)) rfl
          · -- 26 := Op.load 9 t25
            have e25 := hs 9 25 (needs_direct (by kernel_rfl)) rfl; simp [Act.eval] at e25
            have hq : w2.cell? ⟨w.heap.size + 1, 65, none⟩ = some (.string (txt cd)) := (cell_of_row w2 _ _ _ _ _ (HG1.out w2 hle)).trans (dealC_65 _ _ _ _ _ _)
            go_simp; exact hK _ _ (.inl (Ext.refl _)) rfl
          · -- 27 := Op.call { value (Operand.func 51), args := #[t20, t22, t24, t26], argTypes := #[29, 29, 29, 9] }
            have e20 := hs 4 20 (needs_direct (by kernel_rfl)) rfl; have e22 := hs 6 22 (needs_direct (by kernel_rfl)) rfl; have e24 := hs 8 24 (needs_direct (by kernel_rfl)) rfl; have e26 := hs 10 26 (needs_direct (by kernel_rfl)) rfl; simp [Act.eval] at e20 e22 e24 e26
            go_simp
            refine (c_tlock dk da dr cd w2 HCD.out (HP3.out.grown hle (by omega))).mono ?_
            rintro z w9 ⟨rfl, b9⟩
            rw [HLK.out]
            exact hK _ _ (.inl b9) rfl
          · -- 28 := Op.fieldAddr 44 t2 4
            have e2 := hf 2 rfl; simp [Act.eval] at e2
            go_simp; exact hK _ _ (.inl (Ext.refl _)) rfl
          · -- 29 := Op.load 29 t28
            have e28 := hs 12 28 (needs_direct (by kernel_rfl)) rfl; simp [Act.eval] at e28
            have hq : agg? w2 ⟨w.heap.size, 4, none⟩ 32 = some (tgC t.tag) := (agg_of_row (HG0.out w2 hle) 4 32 (by decide)).trans (tokC_tag _ _ _ _ _)
            go_simp; exact hK _ _ (.inl (Ext.refl _)) rfl
          · -- 30 := Op.fieldAddr 72 t3 5
            have e3 := hf 3 rfl; simp [Act.eval] at e3
            go_simp; exact hK _ _ (.inl (Ext.refl _)) rfl
          · -- 31 := Op.load 29 t30
            have e30 := hs 14 30 (needs_direct (by kernel_rfl)) rfl; simp [Act.eval] at e30
            have hq : agg? w2 ⟨w.heap.size + 1, 98, none⟩ 32 = some (tgC dv) := (agg_of_row (HG1.out w2 hle) 98 32 (by decide)).trans (dealC_vault _ _ _ _ _ _)
            go_simp; exact hK _ _ (.inl (Ext.refl _)) rfl
          · -- 32 := Op.fieldAddr 72 t3 2
            have e3 := hf 3 rfl; simp [Act.eval] at e3
            go_simp; exact hK _ _ (.inl (Ext.refl _)) rfl
          · -- 33 := Op.load 29 t32
            have e32 := hs 16 32 (needs_direct (by kernel_rfl)) rfl; simp [Act.eval] at e32
            have hq : agg? w2 ⟨w.heap.size + 1, 33, none⟩ 32 = some (tgC dr) := (agg_of_row (HG1.out w2 hle) 33 32 (by decide)).trans (dealC_root _ _ _ _ _ _)
            go_simp; exact hK _ _ (.inl (Ext.refl _)) rfl
          · -- 34 := Op.call { value (Operand.func 53), args := #[t29, t31, t33], argTypes := #[29, 29, 29] }
            have e29 := hs 13 29 (needs_direct (by kernel_rfl)) rfl; have e31 := hs 15 31 (needs_direct (by kernel_rfl)) rfl; have e33 := hs 17 33 (needs_direct (by kernel_rfl)) rfl; simp [Act.eval] at e29 e31 e33
            go_simp
            refine (c_thide t.tag dv dr w2 (HP3.out.grown hle (by omega))).mono ?_
            rintro z w9 ⟨rfl, b9⟩
            rw [HHD.out]
            exact hK _ _ (.inl b9) rfl
          · -- 35 := Op.build 83 #[(0, const (Value.bool true)), (2, t18), (3, t27), (4, t34)]
            have e18 := hs 2 18 (needs_direct (by kernel_rfl)) rfl; have e27 := hs 11 27 (needs_direct (by kernel_rfl)) rfl; have e34 := hs 18 34 (needs_direct (by kernel_rfl)) rfl; simp [Act.eval] at e18 e27 e34
            go_simp; exact hK _ _ (.inl (Ext.refl _)) rfl
          · -- 36 := Op.call { value (Operand.func 59), args := #[t16, t35], argTypes := #[44, 83] }
            have e16 := hs 0 16 (needs_direct (by kernel_rfl)) rfl; have e35 := hs 19 35 (needs_direct (by kernel_rfl)) rfl; simp [Act.eval] at e16 e35
            go_simp
            refine (c_cadd t ⟨true, ByteArray.empty, pn, txt lk, txt hd⟩ A n c _ w2 (HRT.out.keep fun j hj hlt => hle.block j (by omega) (fun e' => by have := Option.some.inj e'; omega)) HN.out HX.out (HP3.out.grown hle (by omega))).mono ?_
            rintro z w9 ⟨A', n', c', rfl, hr, b9⟩
            rw [HRR.out] at hr
            rw [HRR.out, HEE.out]
            have hsz2 := hle.size
            exact hK _ _ (.inl b9) ⟨A', n', c', rfl, hr.more fun j hj => by omega⟩
          · -- 37 := Op.extract t36 0
            have e36 := hs 20 36 (needs_direct (by kernel_rfl)) rfl; simp [Act.eval] at e36
            obtain ⟨A', n', c', e36, hr⟩ := e36
            go_simp
            exact hK _ _ (.inl (Ext.refl _)) ⟨A', n', c', rfl, hr⟩
          · -- 38 := Op.extract t36 1
            have e36 := hs 20 36 (needs_direct (by kernel_rfl)) rfl; simp [Act.eval] at e36
            obtain ⟨A', n', c', e36, hr⟩ := e36
            go_simp
            exact hK _ _ (.inl (Ext.refl _)) rfl
          · -- None := Op.store 44 t4 t37
            have e4 := hf 4 rfl; have e37 := hs 21 37 (needs_direct (by kernel_rfl)) rfl; simp [Act.eval] at e4 e37
            obtain ⟨A', n', c', e37, hr⟩ := e37
            have hz := hT rfl
            have hrz := row_of hz
            obtain ⟨C, hC⟩ : ∃ C, C = tokA R A' n' c' := ⟨_, rfl⟩
            have hzC : C.size = 36 := by rw [hC]; exact tokC_size _ _ _ _ _
            have hoC : oneAll C = true := by rw [hC]; exact tokC_all _ _ _ _ _ _ _ _
            have hspC : splice tokZ 0 C = C := by rw [hC]; exact tokC_splice0 _ _ _ _ _ _ (tokC_size _ _ _ _ _)
            rw [show tokV R A' n' c' = .agg C from by rw [hC]] at e37
            have HC := hide hC
            clear hC
            go_simp
            exact hK undef _ (.inr ⟨rfl, grown_setRow (grownBy_refl _ _) _⟩) ⟨A', n', c', (setRow_heap w2 (w.heap.size + 2) tokZ C 44 _ hz).trans (by rw [HC.out]), hr.keep fun j hj _ => heap_setRow_far _ _ _ hj⟩
          · -- 5 := Op.assign t38
            have e38 := hs 22 38 (needs_direct (by kernel_rfl)) rfl; simp [Act.eval] at e38
            go_simp; exact hK _ _ (.inl (Ext.refl _)) rfl
        intro vs w8 hle hs hU8
        have v24 := hs 24 (by omega) rfl
        simp only at v24
        clear hs
        obtain ⟨A', n', c', hk8, hr8⟩ := hU8
        have hag8 : agg? w8 ⟨w.heap.size + 2, 0, none⟩ 36 = some (tokA R A' n' c') := (agg_of_row hk8 0 36 (by decide)).trans (tokC_part _ _ _ _ _)
        have HB8 := hide (HB3.out.grown hle (by omega) (fun q e => by have := Option.some.inj e; omega))
        clear hle hk8
        simp only [putN, dstAt]
        go_simp
        go_wp2_with fail
        exact bodyPost_ret (v := .tuple #[tokV R A' n' c', .int .i64 E0]) (by simp [results, Tryd.results45, go_sem, hag8]) rfl ⟨A', n', c', by rw [HA1.out, HA2.out], by rw [HA1.out]; exact hr8.more fun _ _ => trivial, HB8.out⟩
end Go.Proofs.YtdkeflhgengblaaDoor
namespace Go.Proofs.YtdkeflhgengblaaDoor
open Go.RowKit
attribute [local go_sem ↓] ld8 ld32 ld64 ld73
attribute [local go_sem] run_ldAgg run_storeAgg agg_alloc_at agg_alloc_past agg_drew agg_setCell row_alloc_at row_alloc_past row_drew setRow_alloc_at setRow_alloc_past setRow_drew agg_setRow_at agg_setRow_far cell_setRow_at cell_setRow_far row_setRow_far size_setRow s8C_size s8C_part s8C_one s8C_splice0 s8C_ne dgC_size dgC_72 dgC_part dgC_h dgC_r dgC_splice_h dgC_set dgC_one dgC_splice0 dgC_ne zero_dg
attribute [local go_sem] tgC_size tgC_one tgC_part tgC_splice tgC_splice_any zero_tg tgC_ne
attribute [local go_sem ↓] ld36
attribute [local go_sem] tokC_size tokC_0 tokC_1 tokC_2 tokC_3 tokC_g0 tokC_g1 tokC_g2 tokC_g3 tokC_part tokC_tag tokC_set0 tokC_set1 tokC_set2 tokC_set3 tokC_splice tokC_splice0 zero_tok tokC_all tokC_ne

set_option maxRecDepth 100000 in
set_option maxHeartbeats 1600000 in
theorem c_r20cav (t : Tg) (d : Deal) (w : World) (hc : d.cond.length < 1000000) :
    Calls Tryd.prog 87 #[tgV t, .agg (dealA d)] w fun e w' => e = .returned (cavV (dealCav t d)) ∧ Below w.heap.size w w' := by
  obtain ⟨pn, hpn⟩ : ∃ pn, d.party = pn := ⟨_, rfl⟩
  obtain ⟨dk, hdk⟩ : ∃ x, d.key = x := ⟨_, rfl⟩
  obtain ⟨dr, hdr⟩ : ∃ x, d.root = x := ⟨_, rfl⟩
  obtain ⟨cd, hcd⟩ : ∃ x, d.cond = x := ⟨_, rfl⟩
  obtain ⟨da, hda⟩ : ∃ x, d.ask = x := ⟨_, rfl⟩
  obtain ⟨dv, hdv⟩ : ∃ x, d.vault = x := ⟨_, rfl⟩
  obtain ⟨lk, hlk⟩ : ∃ lk, lockB dk da dr cd = lk := ⟨_, rfl⟩
  obtain ⟨hd, hhd⟩ : ∃ hd, hideB t dv dr = hd := ⟨_, rfl⟩
  have HDC : Hid (dealCav t d = ⟨true, ByteArray.empty, pn, txt lk, txt hd⟩) := hide (by rw [dealCav, hpn, hdk, hdr, hcd, hda, hdv, hlk, hhd])
  obtain ⟨CD, hCD⟩ : ∃ CD, CD = dealC (.int .u64 (pn : Int)) dk dr (.string (txt cd)) da dv := ⟨_, rfl⟩
  have hDA : dealA d = CD := by rw [hCD, ← hpn, ← hdk, ← hdr, ← hcd, ← hda, ← hdv]
  rw [hcd] at hc
  have HCD := hide hc
  obtain ⟨W3, hW3⟩ : ∃ W3, W3 = ((w.alloc (.cells (tgC t) 29)).alloc (.cells CD 70)).alloc (.cells #[.bool false, .string ⟨#[]⟩, .int .u64 0, .string ⟨#[]⟩, .string ⟨#[]⟩] 83) := ⟨_, rfl⟩
  obtain ⟨g0, g1, g2⟩ := heap3g w (tgC t) CD #[.bool false, .string ⟨#[]⟩, .int .u64 0, .string ⟨#[]⟩, .string ⟨#[]⟩] 29 70 83
  have hzD : CD.size = 130 := by rw [hCD]; exact dealC_size _ _ _ _ _ _
  rw [← hW3] at g0 g1 g2
  rw [hCD] at g1
  have hs3 : W3.heap.size = w.heap.size + 3 := by rw [hW3]; simp only [World.size_alloc]
  have HB3 : Hid (Below w.heap.size w W3) := hide (by rw [hW3]; exact below3 _ _ _ _)
  have HG0 := hide g0
  have HG1 := hide g1
  have HG2 := hide g2
  have HLK := hide hlk
  have HHD := hide hhd
  have HW3 := hide hW3
  rw [hDA]
  clear g0 g1 g2 hCD hW3 hpn hdk hdr hcd hda hdv hlk hhd hDA hc
  go_enter Tryd.func87, Tryd.ntmps87
  go_wp2_with fail
  rw [← HW3.out]
  clear HW3
  refine wp_region_ext mixed 18 (fun i v w' => match i with
    | 0 => v = .pointer (some ⟨w.heap.size + 1, 0, none⟩)
    | 1 => v = .int .u64 (pn : Int)
    | 2 => v = .pointer (some ⟨w.heap.size + 1, 1, none⟩)
    | 3 => v = tgV dk
    | 4 => v = .pointer (some ⟨w.heap.size + 1, 66, none⟩)
    | 5 => v = tgV da
    | 6 => v = .pointer (some ⟨w.heap.size + 1, 33, none⟩)
    | 7 => v = tgV dr
    | 8 => v = .pointer (some ⟨w.heap.size + 1, 65, none⟩)
    | 9 => v = .string (txt cd)
    | 10 => v = .string (txt lk)
    | 11 => v = tgV t
    | 12 => v = .pointer (some ⟨w.heap.size + 1, 98, none⟩)
    | 13 => v = tgV dv
    | 14 => v = .pointer (some ⟨w.heap.size + 1, 33, none⟩)
    | 15 => v = tgV dr
    | 16 => v = .string (txt hd)
    | _ => v = .agg #[.bool true, .string ⟨#[]⟩, .int .u64 (pn : Int), .string (txt lk), .string (txt hd)]
    ) (regOk_of (by kernel_rfl)) rfl ?_ ?_ ?_
  · intro i v w1 w2 h1 h2
    split at h2 <;> exact h2
  · refine ⟨fun a w2 hle hd hf hs K hK => ?_, fun a w2 hle hd hf hs K hK => ?_, fun a w2 hle hd hf hs K hK => ?_, fun a w2 hle hd hf hs K hK => ?_, fun a w2 hle hd hf hs K hK => ?_, fun a w2 hle hd hf hs K hK => ?_, fun a w2 hle hd hf hs K hK => ?_, fun a w2 hle hd hf hs K hK => ?_, fun a w2 hle hd hf hs K hK => ?_, fun a w2 hle hd hf hs K hK => ?_, fun a w2 hle hd hf hs K hK => ?_, fun a w2 hle hd hf hs K hK => ?_, fun a w2 hle hd hf hs K hK => ?_, fun a w2 hle hd hf hs K hK => ?_, fun a w2 hle hd hf hs K hK => ?_, fun a w2 hle hd hf hs K hK => ?_, fun a w2 hle hd hf hs K hK => ?_, fun a w2 hle hd hf hs K hK => ?_, trivial⟩
    all_goals clear hd
    · -- 5 := Op.fieldAddr 70 t3 0
      have e3 := hf 3 rfl; simp [Act.eval] at e3
      go_simp; exact hK _ _ (Ext.refl _) rfl
    · -- 6 := Op.load 41 t5
      have e5 := hs 0 5 (needs_direct (by kernel_rfl)) rfl; simp [Act.eval] at e5
      have hq : w2.cell? ⟨w.heap.size + 1, 0, none⟩ = some (.int .u64 (pn : Int)) := (cell_of_row w2 _ _ _ _ _ (hle.heap HG1.out)).trans (dealC_0 _ _ _ _ _ _)
      go_simp; exact hK _ _ (Ext.refl _) rfl
    · -- 7 := Op.fieldAddr 70 t3 1
      have e3 := hf 3 rfl; simp [Act.eval] at e3
      go_simp; exact hK _ _ (Ext.refl _) rfl
    · -- 8 := Op.load 29 t7
      have e7 := hs 2 7 (needs_direct (by kernel_rfl)) rfl; simp [Act.eval] at e7
      have hq : agg? w2 ⟨w.heap.size + 1, 1, none⟩ 32 = some (tgC dk) := (agg_of_row (hle.heap HG1.out) 1 32 (by decide)).trans (dealC_key _ _ _ _ _ _)
      go_simp; exact hK _ _ (Ext.refl _) rfl
    · -- 9 := Op.fieldAddr 70 t3 4
      have e3 := hf 3 rfl; simp [Act.eval] at e3
      go_simp; exact hK _ _ (Ext.refl _) rfl
    · -- 10 := Op.load 29 t9
      have e9 := hs 4 9 (needs_direct (by kernel_rfl)) rfl; simp [Act.eval] at e9
      have hq : agg? w2 ⟨w.heap.size + 1, 66, none⟩ 32 = some (tgC da) := (agg_of_row (hle.heap HG1.out) 66 32 (by decide)).trans (dealC_ask _ _ _ _ _ _)
      go_simp; exact hK _ _ (Ext.refl _) rfl
    · -- 11 := Op.fieldAddr 70 t3 2
      have e3 := hf 3 rfl; simp [Act.eval] at e3
      go_simp; exact hK _ _ (Ext.refl _) rfl
    · -- 12 := Op.load 29 t11
      have e11 := hs 6 11 (needs_direct (by kernel_rfl)) rfl; simp [Act.eval] at e11
      have hq : agg? w2 ⟨w.heap.size + 1, 33, none⟩ 32 = some (tgC dr) := (agg_of_row (hle.heap HG1.out) 33 32 (by decide)).trans (dealC_root _ _ _ _ _ _)
      go_simp; exact hK _ _ (Ext.refl _) rfl
    · -- 13 := Op.fieldAddr 70 t3 3
      have e3 := hf 3 rfl; simp [Act.eval] at e3
      go_simp; exact hK _ _ (Ext.refl _) rfl
    · -- 14 := Op.load 9 t13
      have e13 := hs 8 13 (needs_direct (by kernel_rfl)) rfl; simp [Act.eval] at e13
      have hq : w2.cell? ⟨w.heap.size + 1, 65, none⟩ = some (.string (txt cd)) := (cell_of_row w2 _ _ _ _ _ (hle.heap HG1.out)).trans (dealC_65 _ _ _ _ _ _)
      go_simp; exact hK _ _ (Ext.refl _) rfl
    · -- 15 := Op.call { value (Operand.func 52), args := #[t8, t10, t12, t14], argTypes := #[29, 29, 29, 9] }
      have e8 := hs 3 8 (needs_direct (by kernel_rfl)) rfl; have e10 := hs 5 10 (needs_direct (by kernel_rfl)) rfl; have e12 := hs 7 12 (needs_direct (by kernel_rfl)) rfl; have e14 := hs 9 14 (needs_direct (by kernel_rfl)) rfl; simp [Act.eval] at e8 e10 e12 e14
      go_simp
      refine (c_rlock dk da dr cd w2 HCD.out).mono ?_
      rintro z w9 ⟨rfl, b9⟩
      rw [HLK.out]
      exact hK _ _ b9 rfl
    · -- 16 := Op.load 29 t2
      have e2 := hf 2 rfl; simp [Act.eval] at e2
      have hq : agg? w2 ⟨w.heap.size, 0, none⟩ 32 = some (tgC t) := (agg_of_row (hle.heap HG0.out) 0 32 (by decide)).trans (tgC_part t)
      go_simp; exact hK _ _ (Ext.refl _) rfl
    · -- 17 := Op.fieldAddr 70 t3 5
      have e3 := hf 3 rfl; simp [Act.eval] at e3
      go_simp; exact hK _ _ (Ext.refl _) rfl
    · -- 18 := Op.load 29 t17
      have e17 := hs 12 17 (needs_direct (by kernel_rfl)) rfl; simp [Act.eval] at e17
      have hq : agg? w2 ⟨w.heap.size + 1, 98, none⟩ 32 = some (tgC dv) := (agg_of_row (hle.heap HG1.out) 98 32 (by decide)).trans (dealC_vault _ _ _ _ _ _)
      go_simp; exact hK _ _ (Ext.refl _) rfl
    · -- 19 := Op.fieldAddr 70 t3 2
      have e3 := hf 3 rfl; simp [Act.eval] at e3
      go_simp; exact hK _ _ (Ext.refl _) rfl
    · -- 20 := Op.load 29 t19
      have e19 := hs 14 19 (needs_direct (by kernel_rfl)) rfl; simp [Act.eval] at e19
      have hq : agg? w2 ⟨w.heap.size + 1, 33, none⟩ 32 = some (tgC dr) := (agg_of_row (hle.heap HG1.out) 33 32 (by decide)).trans (dealC_root _ _ _ _ _ _)
      go_simp; exact hK _ _ (Ext.refl _) rfl
    · -- 21 := Op.call { value (Operand.func 54), args := #[t16, t18, t20], argTypes := #[29, 29, 29] }
      have e16 := hs 11 16 (needs_direct (by kernel_rfl)) rfl; have e18 := hs 13 18 (needs_direct (by kernel_rfl)) rfl; have e20 := hs 15 20 (needs_direct (by kernel_rfl)) rfl; simp [Act.eval] at e16 e18 e20
      go_simp
      refine (c_rhide t dv dr w2).mono ?_
      rintro z w9 ⟨rfl, b9⟩
      rw [HHD.out]
      exact hK _ _ b9 rfl
    · -- 22 := Op.build 83 #[(0, const (Value.bool true)), (2, t6), (3, t15), (4, t21)]
      have e6 := hs 1 6 (needs_direct (by kernel_rfl)) rfl; have e15 := hs 10 15 (needs_direct (by kernel_rfl)) rfl; have e21 := hs 16 21 (needs_direct (by kernel_rfl)) rfl; simp [Act.eval] at e6 e15 e21
      go_simp; exact hK _ _ (Ext.refl _) rfl
  intro vs w8 hle hs
  have v17 := hs 17 (by omega) rfl
  simp only at v17
  clear hs
  have HB8 := hide (HB3.out.trans (hle.mono (by omega)))
  have k8 := hle.heap HG2.out
  have hr8 := row_of k8
  obtain ⟨CV, hCV⟩ : ∃ CV : Array Value, CV = #[.bool true, .string ⟨#[]⟩, .int .u64 (pn : Int), .string (txt lk), .string (txt hd)] := ⟨_, rfl⟩
  rw [← hCV] at v17
  have hzC : CV.size = 5 := by rw [hCV]; rfl
  have hoC : oneAll CV = true := by rw [hCV]; simp [oneAll, one_int, one_str, one_bool]
  have hspC : splice #[.bool false, .string ⟨#[]⟩, .int .u64 0, .string ⟨#[]⟩, .string ⟨#[]⟩] 0 CV = CV := by rw [hCV]; rfl
  obtain ⟨W9, hW9⟩ : ∃ W9, W9 = w8.setRow (w.heap.size + 2) CV := ⟨_, rfl⟩
  have k9 : W9.heap[w.heap.size + 2]? = some (.cells CV 83) := by rw [hW9]; exact setRow_heap w8 (w.heap.size + 2) #[.bool false, .string ⟨#[]⟩, .int .u64 0, .string ⟨#[]⟩, .string ⟨#[]⟩] CV 83 _ k8
  rw [hCV] at k9
  have c0 : W9.cell? ⟨w.heap.size + 2, 0, none⟩ = some (.bool true) := (cell_of_row W9 _ _ _ _ _ k9).trans rfl
  have c1 : W9.cell? ⟨w.heap.size + 2, 1, none⟩ = some (.string ⟨#[]⟩) := (cell_of_row W9 _ _ _ _ _ k9).trans rfl
  have c2 : W9.cell? ⟨w.heap.size + 2, 2, none⟩ = some (.int .u64 (pn : Int)) := (cell_of_row W9 _ _ _ _ _ k9).trans rfl
  have c3 : W9.cell? ⟨w.heap.size + 2, 3, none⟩ = some (.string (txt lk)) := (cell_of_row W9 _ _ _ _ _ k9).trans rfl
  have c4 : W9.cell? ⟨w.heap.size + 2, 4, none⟩ = some (.string (txt hd)) := (cell_of_row W9 _ _ _ _ _ k9).trans rfl
  have HB9 : Hid (Below w.heap.size w W9) := hide (by rw [hW9]; exact bsetRow HB8.out (Nat.le_add_right _ 2) _)
  have hs9 := hW9.symm
  have HCV := hide hCV
  clear hle k8 k9 hCV hW9
  simp only [putN, dstAt]
  go_simp
  go_wp2_with fail
  exact bodyPost_ret (v := cavV (dealCav t d)) (by rw [HDC.out]; simp [results, Tryd.results87, go_sem, c0, c1, c2, c3, c4, cavV]; rfl) rfl ⟨rfl, HB9.out⟩
end Go.Proofs.YtdkeflhgengblaaDoor
namespace Go.Proofs.YtdkeflhgengblaaDoor
open Go.RowKit
attribute [local go_sem ↓] ld16 ld17 ld32 ld36
attribute [local go_sem] run_ldAgg run_storeAgg agg_alloc_at agg_alloc_past agg_drew agg_setCell row_alloc_at row_alloc_past row_drew setRow_alloc_at setRow_alloc_past setRow_drew agg_setRow_at agg_setRow_far cell_setRow_at cell_setRow_far row_setRow_far size_setRow tgC_size tgC_one tgC_part tgC_splice tokC_size tokC_0 tokC_1 tokC_2 tokC_3 tokC_g0 tokC_g1 tokC_g2 tokC_g3 tokC_part tokC_tag tokC_set0 tokC_set1 tokC_set2 tokC_set3 tokC_splice tokC_splice0 tgC_splice_any zero_tg zero_tok tokC_all tokC_ne tgC_ne
set_option maxRecDepth 100000 in
theorem c_rcan (x : Cav) (w : World) : Calls Tryd.prog 57 #[cavV x] w fun e w' => e = .returned (.bool (canC x)) ∧ Below w.heap.size w w' := by
  cases h3 : x.third with
  | true =>
    unfold cavV
    rw [h3]
    have H3 := hide h3
    clear h3
    go_enter Tryd.func57, Tryd.ntmps57
    go_wp2_with fail
    all_goals go_ret
    all_goals refine ⟨congrArg (fun b => Ending.returned (.bool b)) (?_ : _ = canC x), below1 _ _⟩
    all_goals simp_all [canC, H3.out, ← nil_iff]
    all_goals first | omega | (rw [Bool.eq_iff_iff]; simp; omega)
  | false =>
    unfold cavV
    rw [h3]
    have H3 := hide h3
    clear h3
    go_enter Tryd.func57, Tryd.ntmps57
    go_wp2_with fail
    all_goals go_ret
    all_goals refine ⟨congrArg (fun b => Ending.returned (.bool b)) (?_ : _ = canC x), below1 _ _⟩
    all_goals simp_all [canC, H3.out, ← nil_iff, cav_mk]
    all_goals first | omega | (rw [Bool.eq_iff_iff]; simp; omega)

set_option maxRecDepth 100000 in
set_option maxHeartbeats 400000 in
theorem c_rcheck (t : Tok) (A : Option Addr) (n c : Nat) (ok : Nat → Prop) (w : World) (hR : kCav.Row ok w A n c t.cavs) :
    Calls Tryd.prog 56 #[tokV t A n c] w fun e w' => e = .returned (.bool (checkT t)) ∧ Below w.heap.size w w' := by
  have HL := hide hR.1
  have hm : n ≤ 9223372036854775807 := Nat.le_trans hR.2.1 hR.2.2.1
  have HR := hide hR
  clear hR
  by_cases h1 : 1024 < t.id.size
  · have HC : Hid (checkT t = false) := hide (by simp [checkT]; omega)
    go_enter Tryd.func56, Tryd.ntmps56
    go_wp2_with fail
    go_ret
    exact ⟨by rw [HC.out]; rfl, below1 _ _⟩
  · by_cases h2 : 64 < n
    · have HC : Hid (checkT t = false) := hide (by have := HL.out; simp [checkT]; omega)
      go_enter Tryd.func56, Tryd.ntmps56
      go_wp2_with fail
      go_ret
      exact ⟨by rw [HC.out]; rfl, below1 _ _⟩
    · have HC : Hid (checkT t = t.cavs.all canC) := hide (by have := HL.out; simp [checkT]; omega)
      go_enter Tryd.func56, Tryd.ntmps56
      go_wp2_with fail
      go_loopw [18] (fun i wr => ∃ k : Nat, k ≤ n ∧ i = .int .i64 (k : Int) ∧ Hid ((t.cavs.take k).all canC = true) ∧ Hid (Below w.heap.size w wr)) (fun i _ => n - (intOf i).toNat)
      case atStart => exact ⟨0, Nat.zero_le _, rfl, hide rfl, hide (below1 _ _)⟩
      case round =>
        obtain ⟨k, hk, rfl, HA, HB⟩ := hrel
        by_cases hlt : k < n
        · obtain ⟨x, hx⟩ : ∃ x, t.cavs[k]? = some x := ⟨_, List.getElem?_eq_getElem (by have := HL.out; omega)⟩
          obtain ⟨b, q, cs, hix, -, hbl, hK, hra⟩ := (HR.out.below HB.out).index (P := Tryd.prog) Tryd.underlying42 (E := 83) cav_size hx
          have hKe := hK.1
          subst hKe
          have a0 := hra 0 _ rfl
          have a1 := hra 1 _ rfl
          have a2 := hra 2 _ rfl
          have a3 := hra 3 _ rfl
          have a4 := hra 4 _ rfl
          simp only [Nat.add_zero] at a0
          have HX := hide hx
          have hsb := HB.out.size
          clear hx hK hra
          go_wp2_with fail
          refine (c_rcan x _).mono ?_
          rintro e w1 ⟨rfl, b1⟩
          have HB1 := hide (HB.out.trans ((bnext (below1 wr _) b1).mono hsb))
          clear b1
          cases hc : canC x with
          | true =>
            have HA1 : Hid ((t.cavs.take (k + 1)).all canC = true) := hide (by rw [List.take_add_one, HX.out, List.all_append, HA.out]; simp [hc])
            clear hc
            go_wp2_with fail
            go_roundw
            case rel => exact ⟨k + 1, by omega, by simp, HA1, HB1⟩
            case measure => simp [intOf]; omega
          | false =>
            have HA1 : Hid (t.cavs.all canC = false) := hide (by
              rw [List.all_eq_false]
              exact ⟨x, List.mem_of_getElem? HX.out, by simp [hc]⟩)
            clear hc
            go_wp2_with fail
            go_ret
            exact ⟨by rw [HC.out, HA1.out]; rfl, HB1.out⟩
        · obtain rfl : k = n := by omega
          have HA1 : Hid (t.cavs.all canC = true) := hide (by
            have := HA.out
            rwa [List.take_of_length_le (Nat.le_of_eq HL.out)] at this)
          go_wp2_with fail
          go_ret
          exact ⟨by rw [HC.out, HA1.out]; rfl, HB.out⟩

end Go.Proofs.YtdkeflhgengblaaDoor
namespace Go.Proofs.YtdkeflhgengblaaDoor
open Go.RowKit

section
variable {P : Program} {ops : Array Oper}

/-- THE LAW. S i: what is known of the value that operation i yields, and goes on to hold; Le: how worlds grow. -/
theorem wp_region_ph {Q : Exit → Act → World → Prop} {id : Nat} {a0 : Act} {w0 : World} (hm : P.follows .mixedOrders = true) (n : Nat) (hok : regOk ops n = true)
    (hslots : ((List.range n).all fun i => (dstAt ops i).all fun d => decide (d < a0.tmps.size)) = true)
    (Le : World → World → Prop) (hrefl : ∀ w, Le w w) (htrans : ∀ w w' w'', Le w w' → Le w' w'' → Le w w'')
    (e : Nat) (hen : e < n) (Lt : World → World → Prop) (hlt : ∀ w w', Lt w w' → Le w w') (S S' : Nat → Value → World → Prop)
    (hS : ∀ i v w w', Lt w w' → S i v w → S i v w') (hS' : ∀ i v w w', Lt w w' → S' i v w → S' i v w') (hst : ∀ i v w w', i ≠ e → Le w w' → S i v w → S' i v w')
    (hop : ∀ i, i < n → ∀ o, ops[i]? = some o → ∀ (a : Act) (w : World), Le w0.drew w → a.defers = a0.defers → (∀ t, freeSlot ops n t = true → a.tmps.getD t undef = a0.tmps.getD t undef) →
      (∀ j d, (needs ops ops.size i).contains j = true → dstAt ops j = some d → S j (a.tmps.getD d undef) w) →
      ∀ K : Act → World → Prop, (∀ v w', (i ≠ e ∧ Lt w w' ∧ S i v w') ∨ (i = e ∧ Le w w' ∧ S' i v w') → K (a.put o.dst v) w') → if Region.wanted o (yielded ops a.tmps) = true then o.wp P a w K Q else K (a.put o.dst undef) w)
    (hop' : ∀ i, i < n → i ≠ e → (needs ops ops.size e).contains i = false → ∀ o, ops[i]? = some o → ∀ (a : Act) (w : World), Le w0.drew w → a.defers = a0.defers → (∀ t, freeSlot ops n t = true → a.tmps.getD t undef = a0.tmps.getD t undef) →
      (∀ j d, (needs ops ops.size i).contains j = true → dstAt ops j = some d → S' j (a.tmps.getD d undef) w) →
      ∀ K : Act → World → Prop, (∀ v w', Lt w w' → S' i v w' → K (a.put o.dst v) w') → if Region.wanted o (yielded ops a.tmps) = true then o.wp P a w K Q else K (a.put o.dst undef) w)
    (hQ : ∀ (vs : Nat → Value) (w : World), Le w0.drew w → (∀ i, i < n → (dstAt ops i).isSome = true → S' i (vs i) w) → wpList P ops Q (ops.toList.drop n) (putN ops vs n a0) w) :
    (Code.region id ops true).wp P Q a0 w0 := by
  refine wp_region_any hm ?_
  have hnsz : n ≤ ops.size := by simp only [regOk, Bool.and_eq_true, decide_eq_true_eq] at hok; exact hok.2
  have hslot : ∀ i d, i < n → dstAt ops i = some d → d < a0.tmps.size := by
    intro i d hi hd
    have := List.all_eq_true.1 hslots i (by simpa using hi)
    rw [hd] at this
    simpa using this
  have key : ∀ (fuel : Nat) (l : Array Bool) (a : Act) (w : World), l.size = ops.size → cnt l ops.size ≤ fuel → Closed ops l → (∀ i, n ≤ i → i < ops.size → l.getD i false = false) → Le w0.drew w → a.defers = a0.defers → a.tmps.size = a0.tmps.size →
      (∀ t, (∀ i, i < n → l.getD i false = true → dstAt ops i ≠ some t) → a.tmps.getD t undef = a0.tmps.getD t undef) →
      (l.getD e false = false → ∀ i d, i < n → l.getD i false = true → dstAt ops i = some d → S i (a.tmps.getD d undef) w) → (l.getD e false = true → ∀ i d, i < n → l.getD i false = true → dstAt ops i = some d → S' i (a.tmps.getD d undef) w) → wpAny P .any ops Q fuel l a w := by
    intro fuel
    -- all of the first n are listed: the tail
    have tail : ∀ (fuel : Nat) (l : Array Bool) (a : Act) (w : World), l.size = ops.size → cnt l ops.size ≤ fuel → (∀ i, n ≤ i → i < ops.size → l.getD i false = false) → (∀ i, i < n → l.getD i false = true) → Le w0.drew w → a.defers = a0.defers → a.tmps.size = a0.tmps.size →
        (∀ t, (∀ i, i < n → l.getD i false = true → dstAt ops i ≠ some t) → a.tmps.getD t undef = a0.tmps.getD t undef) →
        (∀ i d, i < n → l.getD i false = true → dstAt ops i = some d → S' i (a.tmps.getD d undef) w) → wpAny P .any ops Q fuel l a w := by
      intro fuel l a w hs hc ht hall hle hd hsz hfree hSi
      have hcn : ∀ m, m ≤ ops.size → n ≤ m → cnt l m = m - n := by
        intro m
        induction m with
        | zero => intro _ h; rw [cnt]; omega
        | succ m ih =>
          intro h1 h2
          rw [cnt]
          by_cases e : n = m + 1
          · have : ∀ q, q ≤ m + 1 → cnt l q = 0 := by
              intro q
              induction q with
              | zero => intro _; rfl
              | succ q ihq => intro hq; rw [cnt, ihq (by omega), if_pos (hall q (by omega))]
            have h3 := this m (by omega)
            rw [h3, if_pos (hall m (by omega))]; omega
          · rw [ih (by omega) (by omega), ht m (by omega) (by omega)]
            simp; omega
      refine wpAny_tail hok fuel n l a w hs (Nat.le_refl _) hnsz (by have := hcn ops.size (Nat.le_refl _) hnsz; omega) (fun i hi => ⟨fun h => ?_, fun h => hall i h⟩) ?_
      · rcases Nat.lt_or_ge i n with h' | h'
        · exact h'
        · rw [ht i h' hi] at h; cases h
      · have ha : a = putN ops (fun i => ((dstAt ops i).map fun d => a.tmps.getD d undef).getD undef) n a0 := by
          have h1 := putN_size (ops := ops) (fun i => ((dstAt ops i).map fun d => a.tmps.getD d undef).getD undef) a0 n
          have ht : a.tmps = (putN ops (fun i => ((dstAt ops i).map fun d => a.tmps.getD d undef).getD undef) n a0).tmps := by
            apply Array.ext
            · rw [h1.1, hsz]
            · intro t ht1 ht2
              have hg : a.tmps.getD t undef = (putN ops (fun i => ((dstAt ops i).map fun d => a.tmps.getD d undef).getD undef) n a0).tmps.getD t undef := by
                by_cases hex : ∃ i, i < n ∧ dstAt ops i = some t
                · obtain ⟨i, hi, hdi⟩ := hex
                  rw [putN_at _ a0 (hsz ▸ ht1) hdi n hi (fun j hj hne hdj => regOk_dst hok hj hi hne hdj hdi)]
                  simp only [hdi, Option.map_some, Option.getD_some]
                · rw [putN_free _ a0 n (fun i hi hdi => hex ⟨i, hi, hdi⟩)]
                  exact hfree t fun i hi _ hdi => hex ⟨i, hi, hdi⟩
              have e1 : ∀ (A : Array Value) (h : t < A.size), A.getD t undef = A[t] := fun A h => by unfold Array.getD; rw [dif_pos h]; rfl
              rw [e1 _ ht1, e1 _ ht2] at hg
              exact hg
          cases a with
          | mk ta da =>
            cases hp : putN ops (fun i => ((dstAt ops i).map fun d => (Act.mk ta da).tmps.getD d undef).getD undef) n a0 with
            | mk tb db =>
              rw [hp] at ht h1
              simp only at ht h1 hd
              rw [ht, hd, h1.2]
        rw [ha]
        refine hQ _ w hle fun i hi hsome => ?_
        obtain ⟨d, hdi⟩ := Option.isSome_iff_exists.1 hsome
        simp only [hdi, Option.map_some, Option.getD_some]
        exact hSi i d hi (hall i hi) hdi
    induction fuel with
    | zero =>
      intro l a w hs hc hcl ht hle hd hsz hfree hSa hSb
      have hz := cnt_zero (l := l) (n := ops.size) (by omega)
      exact tail 0 l a w hs hc ht (fun i hi => hz i (by omega)) hle hd hsz hfree (hSb (hz e (by omega)))
    | succ fuel ih =>
      intro l a w hs hc hcl ht hle hd hsz hfree hSa hSb
      by_cases hall : ∀ i, i < n → l.getD i false = true
      · exact tail _ l a w hs hc ht hall hle hd hsz hfree (hSb (hall e hen))
      · refine ⟨fun h0 => absurd ?_ hall, fun i hi => ?_⟩
        · -- nothing is ready: all are listed
          intro i
          induction i using Nat.strongRecOn with
          | _ i ihi =>
            intro hi
            by_cases hb : l.getD i false = true
            · exact hb
            · exfalso
              have hi' : i < ops.size := by omega
              have : i ∈ Region.ready .any ops l := mem_ready.2 ⟨by simp [hs, hi'] at hb ⊢; exact hb, _, Array.getElem?_eq_getElem hi', fun e he hbd => by
                have hlt := regOk_edges hok (Array.getElem?_eq_getElem hi') e he hbd
                exact ihi e.on hlt (by omega)⟩
              rw [h0] at this
              simp at this
        · obtain ⟨h0, o, ho, hallo⟩ := mem_ready.1 hi
          have hi' : i < ops.size := (Array.getElem?_eq_some_iff.1 ho).1
          have h0' : l.getD i false = false := by simp [hs, hi'] at h0 ⊢; exact h0
          have hin : i < n := by
            rcases Nat.lt_or_ge i n with h' | h'
            · exact h'
            · exfalso
              refine hall fun j hj => needs_listed hcl ops.size i o ho hallo j (regOk_tail hok hi' h' (by omega))
          have hneeds := needs_listed hcl ops.size i o ho hallo
          have hdst : dstAt ops i = o.dst := by simp [dstAt, ho]
          have hnext : ∀ v w', Le w w' → ((l.setIfInBounds i true).getD e false = false → Lt w w' ∧ S i v w') → ((l.setIfInBounds i true).getD e false = true → S' i v w' ∧ (i ≠ e → Lt w w')) → wpAny P .any ops Q fuel (l.setIfInBounds i true) (a.put o.dst v) w' := by
            intro v w' hlw hA hB
            refine ih _ _ _ (by simpa using hs) (by have := cnt_set (by omega) h0' hi'; omega) ?_ ?_ (htrans _ _ _ hle hlw) (by rw [put_defers']; exact hd) (by rw [put_size]; exact hsz) ?_ ?_ ?_
            · intro i' o' ho' hl' e he hb
              by_cases e' : i = i'
              · subst e'
                rw [ho] at ho'
                have := Option.some.inj ho'
                subst this
                exact getD_set_true (hallo e he hb)
              · rw [getD_set_ne false e'] at hl'
                exact getD_set_true (hcl i' o' ho' hl' e he hb)
            · intro j hj hj'
              rw [getD_set_ne false (by omega)]
              exact ht j hj hj'
            · intro t hft
              rw [getD_put_ne]
              · exact hfree t fun j hj hlj => hft j hj (getD_set_true hlj)
              · rw [← hdst]
                exact hft i hin (getD_set_same (by omega) _)
            · intro hfe j d hj hlj hdj
              obtain ⟨hlt', hSv⟩ := hA hfe
              have hie : i ≠ e := fun h => by
                subst h
                rw [getD_set_same (by omega)] at hfe
                cases hfe
              rw [getD_set_ne false hie] at hfe
              by_cases eij : i = j
              · subst eij
                rw [← hdst, hdj, getD_put_same (by rw [hsz]; exact hslot i d hin hdj)]
                exact hSv
              · rw [getD_set_ne false eij] at hlj
                rw [getD_put_ne]
                · exact hS j _ w w' hlt' (hSa hfe j d hj hlj hdj)
                · rw [← hdst]
                  exact fun h => regOk_dst hok hin hj eij h hdj
            · intro hfe j d hj hlj hdj
              obtain ⟨hSv, hlt'⟩ := hB hfe
              by_cases eij : i = j
              · subst eij
                rw [← hdst, hdj, getD_put_same (by rw [hsz]; exact hslot i d hin hdj)]
                exact hSv
              · rw [getD_set_ne false eij] at hlj
                rw [getD_put_ne]
                · by_cases hie : i = e
                  · subst hie
                    exact hst j _ w w' (fun h => eij h.symm) hlw (hSa h0' j d hj hlj hdj)
                  · rw [getD_set_ne false hie] at hfe
                    exact hS' j _ w w' (hlt' hie) (hSb hfe j d hj hlj hdj)
                · rw [← hdst]
                  exact fun h => regOk_dst hok hin hj eij h hdj
          have hfr : ∀ t, freeSlot ops n t = true → a.tmps.getD t undef = a0.tmps.getD t undef := fun t hft => hfree t fun j hj _ hdj => by
              simp only [freeSlot, List.all_eq_true, List.mem_range, bne_iff_ne] at hft
              exact hft j hj hdj
          have hlist : ∀ j d, (needs ops ops.size i).contains j = true → dstAt ops j = some d → j < n ∧ l.getD j false = true := fun j d hj hdj => by
              have hjm : j ∈ needs ops ops.size i := by simpa using hj
              have hlj := hneeds j hjm
              refine ⟨?_, hlj⟩
              rcases Nat.lt_or_ge j n with h' | h'
              · exact h'
              · exfalso
                rcases Nat.lt_or_ge j ops.size with h'' | h''
                · rw [ht j h' h''] at hlj; cases hlj
                · simp [dstAt, Array.getElem?_eq_none h''] at hdj
          have hgo : if Region.wanted o (yielded ops a.tmps) = true then o.wp P a w (wpAny P .any ops Q fuel (l.setIfInBounds i true)) Q else wpAny P .any ops Q fuel (l.setIfInBounds i true) (a.put o.dst undef) w := by
            cases hbe : l.getD e false with
            | false =>
              refine hop i hin o ho a w hle hd hfr (fun j d hj hdj => hSa hbe j d (hlist j d hj hdj).1 (hlist j d hj hdj).2 hdj) _ fun v w' hk => ?_
              rcases hk with ⟨hne, h1, h2⟩ | ⟨he, h1, h2⟩
              · refine hnext v w' (hlt _ _ h1) (fun _ => ⟨h1, h2⟩) (fun h => ?_)
                rw [getD_set_ne false hne, hbe] at h
                cases h
              · refine hnext v w' h1 (fun h => ?_) (fun _ => ⟨h2, fun h => absurd he h⟩)
                rw [he, getD_set_same (by omega)] at h
                cases h
            | true =>
              have hne : i ≠ e := fun h => by rw [h, hbe] at h0'; cases h0'
              have hoe : e < ops.size := by omega
              have hnot : (needs ops ops.size e).contains i = false := by
                rw [Bool.eq_false_iff]
                intro hc'
                have hm : i ∈ needs ops ops.size e := by simpa using hc'
                have := needs_listed hcl ops.size e _ (Array.getElem?_eq_getElem hoe) (fun e' he' hb' => hcl e _ (Array.getElem?_eq_getElem hoe) hbe e' he' hb') i hm
                rw [h0'] at this
                cases this
              refine hop' i hin hne hnot o ho a w hle hd hfr (fun j d hj hdj => hSb hbe j d (hlist j d hj hdj).1 (hlist j d hj hdj).2 hdj) _ fun v w' h1 h2 => ?_
              refine hnext v w' (hlt _ _ h1) (fun h => ?_) (fun _ => ⟨h2, fun _ => h1⟩)
              rw [getD_set_ne false hne, hbe] at h
              cases h
          unfold wpOp
          rw [ho]
          simp only
          split
          · rename_i hw; rw [if_pos hw] at hgo; exact .inl hgo
          · rename_i hw; rw [if_neg hw] at hgo; exact hgo
  refine key ops.size _ a0 w0.drew (by simp) ?_ ?_ ?_ (hrefl _) rfl rfl (fun _ _ => rfl) ?_ ?_
  · have : ∀ (l : Array Bool) m, cnt l m ≤ m := by
      intro l m
      induction m with
      | zero => exact Nat.le_refl _
      | succ m ih => rw [cnt]; split <;> omega
    exact this _ _
  · intro i o ho hl
    have hi : i < ops.size := (Array.getElem?_eq_some_iff.1 ho).1
    simp [hi] at hl
  · intro i _ hi
    simp [hi]
  · intro _ i d hi hl
    have : i < ops.size := by omega
    simp [this] at hl
  · intro _ i d hi hl
    have : i < ops.size := by omega
    simp [this] at hl

def HopA (P : Program) (ops : Array Oper) (n : Nat) (a0 : Act) (w0 : World) (B e : Nat) (S S' : Nat → Value → World → Prop) (Q : Exit → Act → World → Prop) (i : Nat) (o : Oper) : Prop :=
  ∀ (a : Act) (w : World), Below B w0 w → a.defers = a0.defers → (∀ t, freeSlot ops n t = true → a.eval (.tmp t) = a0.eval (.tmp t)) →
    (∀ j d, (needs ops ops.size i).contains j = true → dstAt ops j = some d → S j (a.eval (.tmp d)) w) →
    ∀ K : Act → World → Prop, (∀ v w', (i ≠ e ∧ Ext w w' ∧ S i v w') ∨ (i = e ∧ Below B w w' ∧ S' i v w') → K (a.put o.dst v) w') →
      match o.guard with
      | none => o.wp P a w K Q
      | some (j, want) => if yielded ops a.tmps j = some want then o.wp P a w K Q else K (a.put o.dst undef) w
def HopB (P : Program) (ops : Array Oper) (n : Nat) (a0 : Act) (w0 : World) (B e : Nat) (S' : Nat → Value → World → Prop) (Q : Exit → Act → World → Prop) (i : Nat) (o : Oper) : Prop :=
  i ≠ e → (needs ops ops.size e).contains i = false → ∀ (a : Act) (w : World), Below B w0 w → a.defers = a0.defers → (∀ t, freeSlot ops n t = true → a.eval (.tmp t) = a0.eval (.tmp t)) →
    (∀ j d, (needs ops ops.size i).contains j = true → dstAt ops j = some d → S' j (a.eval (.tmp d)) w) →
    ∀ K : Act → World → Prop, (∀ v w', Ext w w' → S' i v w' → K (a.put o.dst v) w') →
      match o.guard with
      | none => o.wp P a w K Q
      | some (j, want) => if yielded ops a.tmps j = some want then o.wp P a w K Q else K (a.put o.dst undef) w
def HopsAB (P : Program) (ops : Array Oper) (n : Nat) (a0 : Act) (w0 : World) (B e : Nat) (S S' : Nat → Value → World → Prop) (Q : Exit → Act → World → Prop) : List Oper → Nat → Prop
  | [], _ => True
  | o :: r, i => (HopA P ops n a0 w0 B e S S' Q i o ∧ HopB P ops n a0 w0 B e S' Q i o) ∧ HopsAB P ops n a0 w0 B e S S' Q r (i + 1)
theorem hopsAB_at {n : Nat} {a0 : Act} {w0 : World} {B e : Nat} {S S' : Nat → Value → World → Prop} {Q : Exit → Act → World → Prop} : ∀ (l : List Oper) (k i : Nat) (o : Oper), HopsAB P ops n a0 w0 B e S S' Q l k → l[i]? = some o → HopA P ops n a0 w0 B e S S' Q (k + i) o ∧ HopB P ops n a0 w0 B e S' Q (k + i) o
  | [], _, i, o, _, hi => by simp at hi
  | x :: l, k, 0, o, h, hi => by simp at hi; subst hi; exact h.1
  | x :: l, k, i + 1, o, h, hi => by
    have := hopsAB_at l (k + 1) i o h.2 (by simpa using hi)
    rw [show k + (i + 1) = k + 1 + i from by omega]
    exact this
/-- B: the block below which nothing changes; e: the operation that may change blocks from B on; S: what is known ahead of it, S' behind it. -/
theorem wp_region_bl {Q : Exit → Act → World → Prop} {id : Nat} {a0 : Act} {w0 : World} (hm : P.follows .mixedOrders = true) (n B e : Nat) (hB : B ≤ w0.heap.size) (hen : e < n) (S S' : Nat → Value → World → Prop) (hok : regOk ops n = true)
    (hslots : ((List.range n).all fun i => (dstAt ops i).all fun d => decide (d < a0.tmps.size)) = true)
    (hS : ∀ i v w w', Ext w w' → S i v w → S i v w') (hS' : ∀ i v w w', Ext w w' → S' i v w → S' i v w') (hst : ∀ i v w w', i ≠ e → Below B w w' → S i v w → S' i v w') (hop : HopsAB P ops n a0 w0 B e S S' Q (ops.toList.take n) 0)
    (hQ : ∀ (vs : Nat → Value) (w : World), Below B w0 w → (∀ i, i < n → (dstAt ops i).isSome = true → S' i (vs i) w) → wpList P ops Q (ops.toList.drop n) (putN ops vs n a0) w) :
    (Code.region id ops true).wp P Q a0 w0 := by
  have hd0 : Below B w0 w0.drew := (Below.refl _ _).drew
  refine wp_region_ph hm n hok hslots (fun w w' => Below B w w' ∧ (B ≤ w.heap.size → B ≤ w'.heap.size)) (fun w => ⟨Below.refl _ _, fun h => h⟩) (fun _ _ _ h k => ⟨h.1.trans k.1, fun hb => k.2 (h.2 hb)⟩) e hen (fun w w' => Ext w w' ∧ B ≤ w.heap.size) (fun w w' h => ⟨h.1.mono h.2, fun hb => Nat.le_trans hb h.1.size⟩) S S' (fun i v w w' h => hS i v w w' h.1) (fun i v w w' h => hS' i v w w' h.1) (fun i v w w' hne h => hst i v w w' hne h.1)
    (fun i hi o ho a w hle hd hf hs K hK => ?_) (fun i hi hne hnn o ho a w hle hd hf hs K hK => ?_) (fun vs w hle => hQ vs w (hd0.trans hle.1))
  · have h := (hopsAB_at _ 0 i o hop (by rw [List.getElem?_take, if_pos hi]; simpa using ho)).1
    rw [Nat.zero_add] at h
    have hBw : B ≤ w.heap.size := hle.2 hB
    have h := h a w (hd0.trans hle.1) hd hf hs K (fun v w' hk => hK v w' (by
      rcases hk with ⟨h1, h2, h3⟩ | ⟨h1, h2, h3⟩
      · exact .inl ⟨h1, ⟨h2, hBw⟩, h3⟩
      · exact .inr ⟨h1, ⟨h2, fun hb => Nat.le_trans hb h2.size⟩, h3⟩))
    cases hg : o.guard with
    | none =>
      rw [hg] at h
      rw [if_pos (by simp [Region.wanted, hg])]
      exact h
    | some jw =>
      obtain ⟨j, want⟩ := jw
      rw [hg] at h
      simp only at h
      split
      · rename_i hw
        rw [if_pos (by simpa [Region.wanted, hg] using hw)] at h
        exact h
      · rename_i hw
        rw [if_neg (by simpa [Region.wanted, hg] using hw)] at h
        exact h
  · have h := (hopsAB_at _ 0 i o hop (by rw [List.getElem?_take, if_pos hi]; simpa using ho)).2
    rw [Nat.zero_add] at h
    have hBw : B ≤ w.heap.size := hle.2 hB
    have h := h hne hnn a w (hd0.trans hle.1) hd hf hs K (fun v w' h1 h2 => hK v w' ⟨h1, hBw⟩ h2)
    cases hg : o.guard with
    | none =>
      rw [hg] at h
      rw [if_pos (by simp [Region.wanted, hg])]
      exact h
    | some jw =>
      obtain ⟨j, want⟩ := jw
      rw [hg] at h
      simp only at h
      split
      · rename_i hw
        rw [if_pos (by simpa [Region.wanted, hg] using hw)] at h
        exact h
      · rename_i hw
        rw [if_neg (by simpa [Region.wanted, hg] using hw)] at h
        exact h
end
end Go.Proofs.YtdkeflhgengblaaDoor
namespace Go.Proofs.YtdkeflhgengblaaDoor
open Go.RowKit
attribute [local go_sem ↓] ld8 ld32 ld64 ld73
attribute [local go_sem] run_ldAgg run_storeAgg agg_alloc_at agg_alloc_past agg_drew agg_setCell row_alloc_at row_alloc_past row_drew setRow_alloc_at setRow_alloc_past setRow_drew agg_setRow_at agg_setRow_far cell_setRow_at cell_setRow_far row_setRow_far size_setRow s8C_size s8C_part s8C_one s8C_splice0 s8C_ne dgC_size dgC_72 dgC_part dgC_h dgC_r dgC_splice_h dgC_set dgC_one dgC_splice0 dgC_ne zero_dg
attribute [local go_sem] tgC_size tgC_one tgC_part tgC_splice tgC_splice_any zero_tg tgC_ne
attribute [local go_sem ↓] ld36
attribute [local go_sem] tokC_size tokC_0 tokC_1 tokC_2 tokC_3 tokC_g0 tokC_g1 tokC_g2 tokC_g3 tokC_part tokC_tag tokC_set0 tokC_set1 tokC_set2 tokC_set3 tokC_splice tokC_splice0 zero_tok tokC_all tokC_ne

theorem append_zero {P : Program} {T ty E : TypeId} {i : TypeInfo} (hT : P.underlying T = some (.slice E)) (hi : P.info? E = some i) (q : Addr) (A : Option Addr) (c : Nat) (w : World) :
    (Builtin.append_ #[T, T] ty #[.slice (some q) 0 0, .slice A 0 c]).run P w = .ok (.slice (some q) 0 0) w := by
  cases A <;> simp [Builtin.append_, run_underlying hT, sizeOf, typeInfo, hi, Builtin.lenOf, Builtin.firstCells, storeCells, loadCells, loadCellsFrom]
theorem wp_append_zero {P : Program} {op : Oper} {a : Act} {w : World} {K : Act → World → Prop} {Q : Exit → Act → World → Prop} (s x : Operand) (T : TypeId) {E : TypeId} {i : TypeInfo}
    (ho : op.op = .call { callee := .builtin .append, args := #[s, x], argTypes := #[T, T] }) (hT : P.underlying T = some (.slice E)) (hi : P.info? E = some i) {q : Addr} {A : Option Addr} {c : Nat} (hs : a.eval s = .slice (some q) 0 0) (hx : a.eval x = .slice A 0 c)
    (k : K (a.put op.dst (.slice (some q) 0 0)) w) : op.wp P a w K Q := by
  unfold Oper.wp execOp
  simp only [ho, resolve, invoke, builtin, Sem.run_bind, Sem.run_pure, Result.andThen_ok, List.map_toArray, List.map_cons, List.map_nil, hs, hx, append_zero hT hi]
  exact k
set_option maxRecDepth 100000 in
set_option maxHeartbeats 1600000 in
theorem c_r19add (t : Tok) (x : Cav) (A : Option Addr) (n c : Nat) (ok : Nat → Prop) (w : World) (hR : kCav.Row ok w A n c t.cavs) (hn : n ≤ 1000000) (hx : x.small) :
    Calls Tryd.prog 86 #[tokV t A n c, cavV x] w (Added w (addR t x) (addE t x)) := by
  have HR := hide (hR.bound.more (ok' := fun j => j < w.heap.size) fun j hj => hj.2)
  have HL := hide hR.1
  have HX := hide hx
  have HN := hide hn
  clear hR hx hn
  obtain ⟨CT, hCT⟩ : ∃ CT, CT = tokA t A n c := ⟨_, rfl⟩
  have HCT := hide hCT
  have HTV : Hid (Value.agg CT = tokV t A n c) := hide (by rw [hCT])
  have hzT : CT.size = 36 := by rw [hCT]; exact tokC_size _ _ _ _ _
  have hoT : oneAll CT = true := by rw [hCT]; exact tokC_all _ _ _ _ _ _ _ _
  have hspT : splice tokZ 0 CT = CT := by rw [hCT]; exact tokC_splice0 _ _ _ _ _ _ (tokC_size _ _ _ _ _)
  obtain ⟨W3, hW3⟩ : ∃ W3, W3 = ((w.alloc (.cells CT 44)).alloc (.cells #[.bool x.third, .string x.text, .int .u64 (x.party : Int), .string x.id, .string x.vault] 83)).alloc (.cells tokZ 44) := ⟨_, rfl⟩
  obtain ⟨g0, g1, g2⟩ := heap3g w CT #[.bool x.third, .string x.text, .int .u64 (x.party : Int), .string x.id, .string x.vault] tokZ 44 83 44
  have hag : agg? (((w.alloc (.cells CT 44)).alloc (.cells #[.bool x.third, .string x.text, .int .u64 (x.party : Int), .string x.id, .string x.vault] 83)).alloc (.cells tokZ 44)) ⟨w.heap.size, 0, none⟩ 36 = some CT := (agg_of_row g0 0 36 (by decide)).trans (by rw [hCT]; exact tokC_part _ _ _ _ _)
  have hcb : (((w.alloc (.cells CT 44)).alloc (.cells #[.bool x.third, .string x.text, .int .u64 (x.party : Int), .string x.id, .string x.vault] 83)).alloc (.cells tokZ 44)).cell? ⟨w.heap.size, 3, none⟩ = some (.bool t.bnd) := (cell_of_row _ _ _ _ _ _ g0).trans (by rw [hCT]; exact tokC_3 _ _ _ _ _)
  have hg3 : CT[3]'(by rw [hzT]; decide) = .bool t.bnd := by
    have h3 : CT[3]? = some (.bool t.bnd) := by rw [hCT]; exact tokC_3 _ _ _ _ _
    rw [Array.getElem?_eq_getElem (by rw [hzT]; decide)] at h3
    exact Option.some.inj h3
  rw [← hW3] at g0 g1 g2
  have hs3 : W3.heap.size = w.heap.size + 3 := by rw [hW3]; simp only [World.size_alloc]
  have HB3 : Hid (Below w.heap.size w W3) := hide (by rw [hW3]; exact below3 _ _ _ _)
  have G0 := hide g0
  have G1 := hide g1
  have G2 := hide g2
  have HW3 := hide hW3
  rw [← HTV.out]
  clear g0 g1 g2 hCT hW3
  cases hb : t.bnd with
  | true =>
    have HA1 : Hid (addR t x = Tok.zero) := hide (if_pos hb)
    have HA2 : Hid (addE t x = 6) := hide (if_pos hb)
    rw [hb] at hcb hg3
    clear hb
    go_enter Tryd.func86, Tryd.ntmps86
    go_wp2_with fail
    exact bodyPost_ret (v := .tuple #[.agg tokZ, .int .i64 6]) (by simp [results, Tryd.results86, go_sem]) rfl ⟨none, 0, 0, by rw [HA1.out, HA2.out]; rfl, by rw [HA1.out]; exact .nil _ _ _ _ _ (Nat.zero_le _), below3 _ _ _ _⟩
  | false =>
    have HA1 : Hid (addR t x = if checkT (more1 t x) = true then more1 t x else Tok.zero) := hide (if_neg (by rw [hb]; decide))
    have HA2 : Hid (addE t x = if checkT (more1 t x) = true then 0 else 1) := hide (if_neg (by rw [hb]; decide))
    rw [hb] at hcb hg3
    clear hb
    obtain ⟨W4, hW4⟩ : ∃ W4, W4 = W3.alloc (.cells CT 44) := ⟨_, rfl⟩
    have b34 : Below W3.heap.size W3 W4 := by rw [hW4]; exact below1 _ _
    have hs4 : W4.heap.size = w.heap.size + 4 := by rw [hW4, World.size_alloc, hs3]
    have H0 := hide ((b34.block _ (by omega)).trans G0.out)
    have H1 := hide ((b34.block _ (by omega)).trans G1.out)
    have H2 := hide ((b34.block _ (by omega)).trans G2.out)
    have H3 : Hid (W4.heap[w.heap.size + 3]? = some (.cells CT 44)) := hide (by rw [hW4, ← hs3]; exact heap_alloc_new _ _)
    have HB4 := hide (HB3.out.trans (b34.mono (by omega)))
    have HR4 := hide (HR.out.belowB HB4.out)
    obtain ⟨n2, hn2⟩ : ∃ n2, (t.cavs ++ [x]).length = n2 := ⟨_, rfl⟩
    have HN2 := hide hn2
    have HXK : Hid (kCav.K (fun _ => False) w x x.cells) := hide ⟨rfl, by have := HX.out.1; simp only [maxLen]; omega, HX.out.2.1, by have := HX.out.2.2.1; simp only [maxLen]; omega, by have := HX.out.2.2.2; simp only [maxLen]; omega⟩
    obtain ⟨ci, hci, -⟩ := Option.map_eq_some_iff.1 cav_info
    have HCI := hide hci
    have HW4 := hide hW4
    clear b34 hn2 hci hW4
    go_enter Tryd.func86, Tryd.ntmps86
    go_wp2_with fail
    rw [← HW3.out, ← HW4.out]
    clear HW3 HW4 hcb hg3 hag
    refine wp_region_bl mixed 8 (w.heap.size + 4) 6 (by omega) (by decide) (fun i v w' => match i with
      | 0 => ∃ q, v = .slice (some ⟨q, 0, none⟩) 0 0 ∧ kCav.Own (fun _ => False) (w.heap.size + 4) w' 83 (.slice (some ⟨q, 0, none⟩) 0 0) []
      | 1 => v = .pointer (some ⟨w.heap.size, 2, none⟩)
      | 2 => v = .slice A n c
      | 3 => ∃ A1 c1, v = .slice A1 n c1 ∧ kCav.Own (fun _ => False) (w.heap.size + 4) w' 83 (.slice A1 n c1) t.cavs
      | 4 => v = cavV x
      | 5 => ∃ q, v = .slice (some ⟨q, 0, none⟩) 1 1 ∧ w'.heap[q]? = some (.cells #[.bool x.third, .string x.text, .int .u64 (x.party : Int), .string x.id, .string x.vault] 83)
      | 6 => True
      | _ => v = .pointer (some ⟨w.heap.size + 3, 2, none⟩)) (fun i v w' => match i with
      | 6 => ∃ A2 c2, v = .slice A2 n2 c2 ∧ kCav.Own (fun _ => False) (w.heap.size + 4) w' 83 (.slice A2 n2 c2) (t.cavs ++ [x])
      | 7 => v = .pointer (some ⟨w.heap.size + 3, 2, none⟩)
      | _ => True) (regOk_of (by kernel_rfl)) rfl ?_ ?_ ?_ ?_ ?_
    · intro i v w1 w2 h1 h2
      split at h2
      · obtain ⟨q, e, h⟩ := h2; exact ⟨q, e, h.below h1⟩
      · exact h2
      · exact h2
      · obtain ⟨A1, c1, e, h⟩ := h2; exact ⟨A1, c1, e, h.below h1⟩
      · exact h2
      · obtain ⟨q, e, h⟩ := h2; exact ⟨q, e, h1.heap h⟩
      · trivial
      · exact h2
    · intro i v w1 w2 h1 h2
      split at h2
      · obtain ⟨A1, c1, e, h⟩ := h2; exact ⟨A1, c1, e, h.below h1⟩
      · exact h2
      · trivial
    · intro i v w1 w2 hne h1 h2
      match i, hne, h2 with
      | 0, _, _ => trivial
      | 1, _, _ => trivial
      | 2, _, _ => trivial
      | 3, _, _ => trivial
      | 4, _, _ => trivial
      | 5, _, _ => trivial
      | 6, hne, _ => exact absurd rfl hne
      | 7, _, h => exact h
      | k + 8, _, _ => trivial
    · refine ⟨⟨fun a w2 hle hd hf hs K hK => ?_, fun _ hnn => ?_⟩, ⟨fun a w2 hle hd hf hs K hK => ?_, fun _ hnn => ?_⟩, ⟨fun a w2 hle hd hf hs K hK => ?_, fun _ hnn => ?_⟩, ⟨fun a w2 hle hd hf hs K hK => ?_, fun _ hnn => ?_⟩, ⟨fun a w2 hle hd hf hs K hK => ?_, fun _ hnn => ?_⟩, ⟨fun a w2 hle hd hf hs K hK => ?_, fun _ hnn => ?_⟩, ⟨fun a w2 hle hd hf hs K hK => ?_, fun hne _ => absurd rfl hne⟩, ⟨fun a w2 hle hd hf hs K hK => ?_, fun _ hnn a w2 hle hd hf hs K hK => ?_⟩, trivial⟩
      all_goals try clear hd
      · -- 11 := Op.buildSlice 42 0
        have hsz2 := hle.size
        go_simp
        exact hK _ _ (.inl ⟨by decide, Ext.alloc _ _, ⟨w2.heap.size, rfl, Kd.Own.lit (.nil _ _ _) #[] rfl 0 rfl (Nat.zero_le _) _ rfl (by omega)⟩⟩)
      · exact absurd (by kernel_rfl) (Bool.eq_false_iff.1 hnn)
      · -- 12 := Op.fieldAddr 44 t2 2
        have e2 := hf 2 rfl; simp [Act.eval] at e2
        go_simp
        exact hK _ _ (.inl ⟨by decide, Ext.refl _, rfl⟩)
      · exact absurd (by kernel_rfl) (Bool.eq_false_iff.1 hnn)
      · -- 13 := Op.load 42 t12
        have e12 := hs 1 12 (needs_direct (by kernel_rfl)) rfl; simp [Act.eval] at e12
        have hq : w2.cell? ⟨w.heap.size, 2, none⟩ = some (.slice A n c) := (cell_of_row w2 _ _ _ _ _ ((hle.block _ (by omega)).trans H0.out)).trans (by rw [HCT.out]; exact tokC_2 _ _ _ _ _)
        go_simp
        exact hK _ _ (.inl ⟨by decide, Ext.refl _, rfl⟩)
      · exact absurd (by kernel_rfl) (Bool.eq_false_iff.1 hnn)
      · -- 14 := append t11 t13
        obtain ⟨q, e11, ho⟩ := hs 0 11 (needs_direct (by kernel_rfl)) rfl
        have e13 := hs 2 13 (needs_direct (by kernel_rfl)) rfl
        have hsz2 := hle.size
        by_cases h0 : 0 < n
        · refine wp_full (d := kCav) (ok := fun _ => False) (xs := []) (ys := t.cavs) _ _ _ rfl Tryd.underlying42 cav_info rfl (by decide) c e11 e13 (.nil _ _ _ _ _ (Nat.zero_le _)) (src_cav ((HR4.out.keep fun j hj _ => hle.block j (by omega)).src)) h0 ?_ ?_ ?_
          · have := HN.out; simp only [maxLen]; omega
          · have := HN.out; omega
          · intro v' w' h1 h2
            obtain ⟨A1, c1, hvf⟩ := h1.form
            rw [List.nil_append, HL.out] at hvf
            subst hvf
            exact hK _ _ (.inl ⟨by decide, h2, ⟨A1, c1, rfl, h1.lower (by omega)⟩⟩)
        · have hn0 : n = 0 := by omega
          have hnil : t.cavs = [] := List.eq_nil_of_length_eq_zero (by rw [HL.out, hn0])
          subst hn0
          refine wp_append_zero _ _ _ rfl Tryd.underlying42 HCI.out e11 e13 ?_
          exact hK _ _ (.inl ⟨by decide, Ext.refl _, ⟨_, 0, rfl, by rw [hnil]; exact ho⟩⟩)
      · exact absurd (by kernel_rfl) (Bool.eq_false_iff.1 hnn)
      · -- 15 := Op.load 83 t3
        have e3 := hf 3 rfl; simp [Act.eval] at e3
        have k1 := (hle.block _ (by omega)).trans H1.out
        have cf0 : (w2).cell? ⟨w.heap.size + 1, 0, none⟩ = some (.bool x.third) := (cell_of_row _ _ _ _ _ _ k1).trans rfl
        have cf1 : (w2).cell? ⟨w.heap.size + 1, 1, none⟩ = some (.string x.text) := (cell_of_row _ _ _ _ _ _ k1).trans rfl
        have cf2 : (w2).cell? ⟨w.heap.size + 1, 2, none⟩ = some (.int .u64 (x.party : Int)) := (cell_of_row _ _ _ _ _ _ k1).trans rfl
        have cf3 : (w2).cell? ⟨w.heap.size + 1, 3, none⟩ = some (.string x.id) := (cell_of_row _ _ _ _ _ _ k1).trans rfl
        have cf4 : (w2).cell? ⟨w.heap.size + 1, 4, none⟩ = some (.string x.vault) := (cell_of_row _ _ _ _ _ _ k1).trans rfl
        go_simp
        exact hK _ _ (.inl ⟨by decide, Ext.refl _, rfl⟩)
      · exact absurd (by kernel_rfl) (Bool.eq_false_iff.1 hnn)
      · -- 16 := Op.buildSlice 42 1
        have e15 := hs 4 15 (needs_direct (by kernel_rfl)) rfl; simp [Act.eval] at e15
        go_simp
        exact hK _ _ (.inl ⟨by decide, Ext.alloc _ _, ⟨w2.heap.size, rfl, heap_alloc_new _ _⟩⟩)
      · exact absurd (by kernel_rfl) (Bool.eq_false_iff.1 hnn)
      · -- 17 := append t14 t16
        obtain ⟨A1, c1, e14, ho⟩ := hs 3 14 (needs_direct (by kernel_rfl)) rfl
        obtain ⟨q, e16, hq16⟩ := hs 5 16 (needs_direct (by kernel_rfl)) rfl
        have hsz2 := hle.size
        refine wp_app (d := kCav) (ok := fun _ => False) (base := w.heap.size + 4) (xs := t.cavs) (ys := [x]) _ _ _ rfl Tryd.underlying42 cav_info rfl (by decide) 1 e14 e16 (.inl ho) (Kd.Src.blk (d := kCav) hq16 ⟨rfl, HXK.out.2⟩ rfl) (by omega) ?_ ?_ ?_
        · have := HL.out; have := HN.out; simp only [maxLen]; omega
        · have := HL.out; have := HN.out; omega
        · intro v1 w6 h1 h2 h3 h4 h5
          have h2 := h2 (.inl (by decide))
          obtain ⟨A2, c2, hvf⟩ := h2.form
          rw [HN2.out] at hvf
          subst hvf
          exact hK _ _ (.inr ⟨rfl, h3, ⟨A2, c2, rfl, h2⟩⟩)
      · -- 18 := Op.fieldAddr 44 t6 2
        have e6 := hf 6 rfl; simp [Act.eval] at e6
        go_simp
        exact hK _ _ (.inl ⟨by decide, Ext.refl _, rfl⟩)
      · have e6 := hf 6 rfl; simp [Act.eval] at e6
        go_simp
        exact hK _ _ (Ext.refl _) rfl
    intro vs w6 hle hs
    have v6 := hs 6 (by omega) rfl
    have v7 := hs 7 (by omega) rfl
    simp only at v6 v7
    clear hs
    obtain ⟨A2, c2, e6, h2⟩ := v6
    have hs6 := hle.size
    obtain ⟨G, hG⟩ : ∃ G, G = w.heap.size + 3 := ⟨_, rfl⟩
    have k6 : w6.heap[G]? = some (.cells CT 44) := by rw [hG]; exact (hle.block _ (by omega)).trans H3.out
    have k60 := (hle.block _ (by omega)).trans H0.out
    have k61 := (hle.block _ (by omega)).trans H1.out
    have k62 := (hle.block _ (by omega)).trans H2.out
    have hB6 : Below w.heap.size w w6 := HB4.out.trans (hle.mono (by omega))
    obtain ⟨C6, hC6⟩ : ∃ C6, C6 = tokC (.int .u64 (t.key : Int)) (.string t.id) (.slice A2 n2 c2) (.bool t.bnd) t.tag := ⟨_, rfl⟩
    obtain ⟨W7, hW7⟩ : ∃ W7, W7 = w6.setRow G C6 := ⟨_, rfl⟩
    have hsc : w6.setCell ⟨G, 2, none⟩ (.slice A2 n2 c2) = W7 := by rw [setCell_eq_setRow w6 G 2 CT _ _ _ k6, hW7, HCT.out, tokC_set2, hC6]
    have hcx : w6.cell? ⟨G, 2, none⟩ = some (.slice A n c) := (cell_of_row w6 _ _ _ _ _ k6).trans (by rw [HCT.out]; exact tokC_2 _ _ _ _ _)
    have hfz := frozen_of_row w6 G 2 _ _ k6
    have k7 : W7.heap[G]? = some (.cells C6 44) := by rw [hW7]; exact setRow_heap w6 G CT C6 44 _ k6
    have k70 : W7.heap[w.heap.size]? = some (.cells CT 44) := by rw [hW7, heap_setRow_far _ _ _ (by omega)]; exact k60
    have k71 : W7.heap[w.heap.size + 1]? = some (.cells #[.bool x.third, .string x.text, .int .u64 (x.party : Int), .string x.id, .string x.vault] 83) := by rw [hW7, heap_setRow_far _ _ _ (by omega)]; exact k61
    have k72 : W7.heap[w.heap.size + 2]? = some (.cells tokZ 44) := by rw [hW7, heap_setRow_far _ _ _ (by omega)]; exact k62
    have hagt : agg? W7 ⟨w.heap.size, 4, none⟩ 32 = some (tgC t.tag) := (agg_of_row k70 4 32 (by decide)).trans (by rw [HCT.out]; exact tokC_tag _ _ _ _ _)
    have d0 : (W7).cell? ⟨w.heap.size + 1, 0, none⟩ = some (.bool x.third) := (cell_of_row _ _ _ _ _ _ k71).trans rfl
    have d1 : (W7).cell? ⟨w.heap.size + 1, 1, none⟩ = some (.string x.text) := (cell_of_row _ _ _ _ _ _ k71).trans rfl
    have d2 : (W7).cell? ⟨w.heap.size + 1, 2, none⟩ = some (.int .u64 (x.party : Int)) := (cell_of_row _ _ _ _ _ _ k71).trans rfl
    have d3 : (W7).cell? ⟨w.heap.size + 1, 3, none⟩ = some (.string x.id) := (cell_of_row _ _ _ _ _ _ k71).trans rfl
    have d4 : (W7).cell? ⟨w.heap.size + 1, 4, none⟩ = some (.string x.vault) := (cell_of_row _ _ _ _ _ _ k71).trans rfl
    have HB7 : Hid (Below w.heap.size w W7) := hide (by rw [hW7]; exact bsetRow hB6 (by omega) _)
    have HR7 : Hid (kCav.Row (fun k => k ≠ G ∧ w.heap.size + 4 ≤ k) W7 A2 n2 c2 (t.cavs ++ [x])) := hide (by
      have hr := own_rowCv h2
      exact (hr.keep (w' := W7) fun j hj _ => by rw [hW7, heap_setRow_far _ _ _ (by omega)]).more fun j hj => ⟨by omega, hj⟩)
    have hs7 : W7.heap.size = w6.heap.size := by rw [hW7, size_setRow]
    have K7 := hide k7
    have K72 := hide k72
    have HG := hide hG
    have HC6 := hide hC6
    have HGW : Hid (w.heap.size + 3 = G) := hide hG.symm
    have hGw : w.heap.size + 3 ≤ G := by omega
    rw [hG] at hsc hcx hfz
    clear h2 k6 k60 k61 k62 hB6 hW7 k7 k70 k71 k72 hG hC6 hle
    simp only [putN, dstAt]
    go_simp
    go_wp2_with fail
    refine (c_rnext t.tag x W7 HX.out).mono ?_
    rintro e w8 ⟨rfl, b8⟩
    obtain ⟨nt, hnt⟩ : ∃ nt, nextT t.tag x = nt := ⟨_, rfl⟩
    rw [hnt]
    have hs8 := b8.size
    have hl7 := (Array.getElem?_eq_some_iff.1 K7.out).1
    have j8 := (b8.block _ hl7).trans K7.out
    have j82 := (b8.block _ (by omega)).trans K72.out
    obtain ⟨C8, hC8⟩ : ∃ C8, C8 = tokA (more1 t x) A2 n2 c2 := ⟨_, rfl⟩
    obtain ⟨W9, hW9⟩ : ∃ W9, W9 = w8.setRow G C8 := ⟨_, rfl⟩
    have hr8 := row_of j8
    have hz6 : C6.size = 36 := by rw [HC6.out]; exact tokC_size _ _ _ _ _
    have hsp : splice C6 4 (tgC nt) = C8 := by rw [HC6.out, hC8, ← hnt]; exact tokC_splice _ _ _ _ _ _
    have hs9 := hW9.symm
    have k9 : W9.heap[G]? = some (.cells C8 44) := by rw [hW9]; exact setRow_heap w8 G C6 C8 44 _ j8
    have k92 : W9.heap[w.heap.size + 2]? = some (.cells tokZ 44) := by rw [hW9, heap_setRow_far _ _ _ (by omega)]; exact j82
    have hag9 : agg? W9 ⟨G, 0, none⟩ 36 = some C8 := (agg_of_row k9 0 36 (by decide)).trans (by rw [hC8]; exact tokC_part _ _ _ _ _)
    have HB9 : Hid (Below w.heap.size w W9) := hide (by rw [hW9]; exact bsetRow (HB7.out.trans (b8.mono (by omega))) (by omega) _)
    have HR9 : Hid (kCav.Row (fun k => k ≠ G ∧ w.heap.size + 4 ≤ k) W9 A2 n2 c2 (more1 t x).cavs) := hide ((HR7.out.below b8).keep fun j hj _ => by rw [hW9, heap_setRow_far _ _ _ hj.1])
    have hsz9 : W9.heap.size = w8.heap.size := by rw [hW9, size_setRow]
    have K9 := hide k9
    have K92 := hide k92
    have HC8 := hide hC8
    rw [← HGW.out] at hr8 hs9 hag9
    clear hnt b8 j8 j82 hC8 hW9 k9 k92 hsc hcx hfz hagt d0 d1 d2 d3 d4 HG
    go_wp2_with fail
    rw [show Value.agg C8 = tokV (more1 t x) A2 n2 c2 from by rw [HC8.out]]
    refine (c_rcheck (more1 t x) A2 n2 c2 _ W9 HR9.out).mono ?_
    rintro e w10 ⟨rfl, b10⟩
    rw [show tokV (more1 t x) A2 n2 c2 = .agg C8 from by rw [HC8.out]]
    have hl9 := (Array.getElem?_eq_some_iff.1 K9.out).1
    have hs10 := b10.size
    have m10 := (b10.block _ hl9).trans K9.out
    have m12 := (b10.block _ (by omega)).trans K92.out
    have hr10 := row_of m12
    have hag10 : agg? w10 ⟨w.heap.size + 3, 0, none⟩ 36 = some C8 := (agg_of_row (by rw [HGW.out]; exact m10) 0 36 (by decide)).trans (by rw [HC8.out]; exact tokC_part _ _ _ _ _)
    have hz8 : C8.size = 36 := by rw [HC8.out]; exact tokC_size _ _ _ _ _
    have ho8 : oneAll C8 = true := by rw [HC8.out]; exact tokC_all _ _ _ _ _ _ _ _
    have hsp8 : splice tokZ 0 C8 = C8 := by rw [HC8.out]; exact tokC_splice0 _ _ _ _ _ _ (tokC_size _ _ _ _ _)
    have HB10 := hide (HB9.out.trans (b10.mono (by omega)))
    cases hck : checkT (more1 t x) with
    | true =>
      have HE1 : Hid (addR t x = more1 t x) := hide (by rw [HA1.out, if_pos hck])
      have HE2 : Hid (addE t x = 0) := hide (by rw [HA2.out, if_pos hck])
      obtain ⟨W11, hW11⟩ : ∃ W11, W11 = w10.setRow (w.heap.size + 2) C8 := ⟨_, rfl⟩
      have k11 : W11.heap[w.heap.size + 2]? = some (.cells C8 44) := by rw [hW11]; exact setRow_heap w10 (w.heap.size + 2) tokZ C8 44 _ m12
      have hag11 : agg? W11 ⟨w.heap.size + 2, 0, none⟩ 36 = some C8 := (agg_of_row k11 0 36 (by decide)).trans (by rw [HC8.out]; exact tokC_part _ _ _ _ _)
      have HB11 : Hid (Below w.heap.size w W11) := hide (by rw [hW11]; exact bsetRow HB10.out (Nat.le_add_right _ 2) _)
      have HR11 : Hid (kCav.Row (fun k => w.heap.size ≤ k) W11 A2 n2 c2 (more1 t x).cavs) := hide (((HR9.out.below b10).keep (w' := W11) fun j hj _ => by rw [hW11, heap_setRow_far _ _ _ (by have := hj.2; omega)]).more fun j hj => by have := hj.2; omega)
      have hs11 := hW11.symm
      clear hck b10 m10 m12 hW11 k11
      go_wp2_with fail
      exact bodyPost_ret (v := .tuple #[.agg C8, .int .i64 0]) (by simp [results, Tryd.results86, go_sem, hag11]) rfl ⟨A2, n2, c2, by rw [HE1.out, HE2.out, HC8.out], by rw [HE1.out]; exact HR11.out, HB11.out⟩
    | false =>
      have HE1 : Hid (addR t x = Tok.zero) := hide (by rw [HA1.out, if_neg (by rw [hck]; decide)])
      have HE2 : Hid (addE t x = 1) := hide (by rw [HA2.out, if_neg (by rw [hck]; decide)])
      have hage : agg? (w10.setRow (w.heap.size + 2) tokZ) ⟨w.heap.size + 2, 0, none⟩ 36 = some tokZ := (agg_setRow_at _ _ _ _ _ (by rw [hr10]; rfl) (by decide)).trans (tokC_part _ _ _ _ _)
      have HBE := hide (bsetRow HB10.out (Nat.le_add_right w.heap.size 2) tokZ)
      clear hck b10 m10 m12
      go_wp2_with fail
      exact bodyPost_ret (v := .tuple #[.agg tokZ, .int .i64 1]) (by simp [results, Tryd.results86, go_sem, hage]) rfl ⟨none, 0, 0, by rw [HE1.out, HE2.out]; rfl, by rw [HE1.out]; exact .nil _ _ _ _ _ (Nat.zero_le _), HBE.out⟩
end Go.Proofs.YtdkeflhgengblaaDoor
namespace Go.Proofs.YtdkeflhgengblaaDoor
open Go.RowKit
attribute [local go_sem ↓] ld8 ld32 ld64 ld73
attribute [local go_sem] run_ldAgg run_storeAgg agg_alloc_at agg_alloc_past agg_drew agg_setCell row_alloc_at row_alloc_past row_drew setRow_alloc_at setRow_alloc_past setRow_drew agg_setRow_at agg_setRow_far cell_setRow_at cell_setRow_far row_setRow_far size_setRow s8C_size s8C_part s8C_one s8C_splice0 s8C_ne dgC_size dgC_72 dgC_part dgC_h dgC_r dgC_splice_h dgC_set dgC_one dgC_splice0 dgC_ne zero_dg
attribute [local go_sem] tgC_size tgC_one tgC_part tgC_splice tgC_splice_any zero_tg tgC_ne
attribute [local go_sem ↓] ld36
attribute [local go_sem] tokC_size tokC_0 tokC_1 tokC_2 tokC_3 tokC_g0 tokC_g1 tokC_g2 tokC_g3 tokC_part tokC_tag tokC_set0 tokC_set1 tokC_set2 tokC_set3 tokC_splice tokC_splice0 zero_tok tokC_all tokC_ne

theorem ld130 (a : Addr) : loadCellsFrom a 0 130 #[] = ldAgg a 130 := rfl
attribute [local go_sem ↓] ld130
theorem dealC_part (p c : Value) (k r a v : Tg) : part? (dealC p k r c a v) 0 130 = some (dealC p k r c a v) := by
  rw [part?, if_pos (by rw [dealC_size]; decide)]
  congr 1
  have := dealC_size p c k r a v
  rw [Nat.zero_add, ← this, Array.extract_size]
theorem dealA_part (d : Deal) : part? (dealA d) 0 130 = some (dealA d) := dealC_part _ _ _ _ _ _
/-- With one caveat more it can be: then it can be without, and has room. -/
theorem check_more {t : Tok} {x : Cav} (h : checkT (more1 t x) = true) : checkT t = true ∧ t.cavs.length ≤ 63 := by
  unfold checkT more1 at h
  simp only [Bool.and_eq_true, List.all_append] at h
  obtain ⟨⟨h1, h2⟩, h3, -⟩ := h
  have h2 := of_decide_eq_true h2
  rw [List.length_append, List.length_cons, List.length_nil] at h2
  refine ⟨?_, by omega⟩
  unfold checkT
  rw [h1, h3, decide_eq_true (show t.cavs.length ≤ 64 by omega)]
  rfl
theorem tadd_bnd {t : Tok} {d : Deal} (h : t.bnd = true) : tAddR t d = Tok.zero ∧ tAddE t d = 6 :=
  have hn : ¬ (512 < d.cond.length ∧ t.bnd = false) := fun k => by rw [h] at k; exact absurd k.2 (by decide)
  ⟨(if_neg hn).trans (if_pos h), (if_neg hn).trans (if_pos h)⟩
theorem tadd_bad {t : Tok} {d : Deal} (hb : t.bnd = false) (h : 512 < d.cond.length ∨ checkT t = false ∨ 63 < t.cavs.length) : tAddR t d = Tok.zero ∧ tAddE t d = 1 := by
  by_cases h5 : 512 < d.cond.length
  · exact ⟨if_pos ⟨h5, hb⟩, if_pos ⟨h5, hb⟩⟩
  · have hn : ¬ (checkT (more1 t (dealCav t.tag d)) = true) := fun hc => by
      have := check_more hc
      rcases h with h | h | h
      · exact h5 h
      · rw [h] at this; exact absurd this.1 (by decide)
      · omega
    have hb' : ¬ (t.bnd = true) := by rw [hb]; decide
    exact ⟨(if_neg fun k => h5 k.1).trans ((if_neg hb').trans (if_neg hn)), (if_neg fun k => h5 k.1).trans ((if_neg hb').trans (if_neg hn))⟩
theorem tadd_good {t : Tok} {d : Deal} (h : ¬ 512 < d.cond.length) : tAddR t d = addR t (dealCav t.tag d) ∧ tAddE t d = addE t (dealCav t.tag d) := ⟨if_neg fun k => h k.1, if_neg fun k => h k.1⟩
theorem dealCav_small (t : Tg) (d : Deal) (hc : d.cond.length ≤ 600) (hp : d.party < 18446744073709551616) : (dealCav t d).small := by
  refine ⟨Nat.zero_le _, hp, ?_, ?_⟩
  · show (txt (lockB _ _ _ _)).size ≤ _
    rw [txt_size, lockB, sealB_len, List.length_append, d.root.len]; omega
  · show (txt (hideB _ _ _)).size ≤ _
    rw [txt_size, hideB, sealB_len, d.root.len]; decide
set_option maxRecDepth 100000 in
set_option maxHeartbeats 1600000 in
theorem c_r20add (t : Tok) (d : Deal) (A : Option Addr) (n c : Nat) (ok : Nat → Prop) (w : World) (hR : kCav.Row ok w A n c t.cavs) (hc : d.cond.length ≤ 600) (hp : d.party < 18446744073709551616) :
    Calls Tryd.prog 46 #[tokV t A n c, .agg (dealA d)] w fun e w' => ∃ A' n' c', e = .returned (.tuple #[tokV (tAddR t d) A' n' c', .int .i64 (tAddE t d)]) ∧ kCav.Row (fun _ => True) w' A' n' c' (tAddR t d).cavs ∧ Below w.heap.size w w' := by
  have HR := hide (hR.bound.more (ok' := fun j => j < w.heap.size) fun j hj => hj.2)
  have HL := hide hR.1
  have hn63 : n ≤ 9223372036854775807 := Nat.le_trans hR.2.1 hR.2.2.1
  obtain ⟨CT, hCT⟩ : ∃ CT, CT = tokA t A n c := ⟨_, rfl⟩
  have HTV : Hid (Value.agg CT = tokV t A n c) := hide (by rw [hCT])
  have hzT : CT.size = 36 := by rw [hCT]; exact tokC_size _ _ _ _ _
  obtain ⟨CD, hCD⟩ : ∃ CD, CD = dealA d := ⟨_, rfl⟩
  have HDV : Hid (CD = dealA d) := hide hCD
  have HX := hide (dealCav_small t.tag d hc hp)
  have HCD : Hid (d.cond.length < 1000000) := hide (by omega)
  obtain ⟨L, hL⟩ : ∃ L, d.cond.length = L := ⟨_, rfl⟩
  have hsz : (txt d.cond).size = L := by rw [txt_size, hL]
  rw [hL] at hc
  have HLL := hide hL
  obtain ⟨W3, hW3⟩ : ∃ W3, W3 = ((w.alloc (.cells CT 44)).alloc (.cells CD 70)).alloc (.cells tokZ 44) := ⟨_, rfl⟩
  obtain ⟨g0, g1, g2⟩ := heap3g w CT CD tokZ 44 70 44
  have hcc : (((w.alloc (.cells CT 44)).alloc (.cells CD 70)).alloc (.cells tokZ 44)).cell? ⟨w.heap.size + 1, 65, none⟩ = some (.string (txt d.cond)) := (cell_of_row _ _ _ _ _ _ g1).trans (by rw [hCD]; exact dealC_65 _ _ _ _ _ _)
  have hcb : (((w.alloc (.cells CT 44)).alloc (.cells CD 70)).alloc (.cells tokZ 44)).cell? ⟨w.heap.size, 3, none⟩ = some (.bool t.bnd) := (cell_of_row _ _ _ _ _ _ g0).trans (by rw [hCT]; exact tokC_3 _ _ _ _ _)
  have hag : agg? (((w.alloc (.cells CT 44)).alloc (.cells CD 70)).alloc (.cells tokZ 44)) ⟨w.heap.size, 0, none⟩ 36 = some CT := (agg_of_row g0 0 36 (by decide)).trans (by rw [hCT]; exact tokC_part _ _ _ _ _)
  have hzD : CD.size = 130 := by rw [hCD]; exact dealC_size _ _ _ _ _ _
  have hg65 : CD[65]'(by rw [hzD]; decide) = .string (txt d.cond) := by
    have h3 : CD[65]? = some (.string (txt d.cond)) := by rw [hCD]; exact dealC_65 _ _ _ _ _ _
    rw [Array.getElem?_eq_getElem (by rw [hzD]; decide)] at h3
    exact Option.some.inj h3
  have hg3 : CT[3]'(by rw [hzT]; decide) = .bool t.bnd := by
    have h3 : CT[3]? = some (.bool t.bnd) := by rw [hCT]; exact tokC_3 _ _ _ _ _
    rw [Array.getElem?_eq_getElem (by rw [hzT]; decide)] at h3
    exact Option.some.inj h3
  rw [← hW3] at g0 g1 g2
  rw [hCT] at g0
  rw [hCD] at g1
  have hs3 : W3.heap.size = w.heap.size + 3 := by rw [hW3]; simp only [World.size_alloc]
  have HB3 : Hid (Below w.heap.size w W3) := hide (by rw [hW3]; exact below3 _ _ _ _)
  have J0 := hide g0
  have J1 := hide g1
  have J2 := hide g2
  have HW3 := hide hW3
  have hRT := HR.out.belowB HB3.out
  have HRT := hide hRT
  rw [← HTV.out, ← hCD]
  clear g0 g1 g2 hCT hCD hW3 hR hp hL hRT
  cases hb : t.bnd with
  | true =>
    have HA1 := hide (tadd_bnd (d := d) hb).1
    have HA2 := hide (tadd_bnd (d := d) hb).2
    rw [hb] at hcb hg3
    clear hb
    go_enter Tryd.func46, Tryd.ntmps46
    go_wp2_with fail
    exact bodyPost_ret (v := .tuple #[.agg tokZ, .int .i64 6]) (by simp [results, Tryd.results46, go_sem]) rfl ⟨none, 0, 0, by rw [HA1.out, HA2.out]; rfl, by rw [HA1.out]; exact .nil _ _ _ _ _ (Nat.zero_le _), below3 _ _ _ _⟩
  | false =>
    have HBF := hide hb
    rw [hb] at hcb hg3
    clear hb
    by_cases h5 : 512 < L
    · have HA1 := hide (tadd_bad (d := d) HBF.out (.inl (by rw [HLL.out]; exact h5))).1
      have HA2 := hide (tadd_bad (d := d) HBF.out (.inl (by rw [HLL.out]; exact h5))).2
      go_enter Tryd.func46, Tryd.ntmps46
      go_wp2_with fail
      exact bodyPost_ret (v := .tuple #[.agg tokZ, .int .i64 1]) (by simp [results, Tryd.results46, go_sem]) rfl ⟨none, 0, 0, by rw [HA1.out, HA2.out]; rfl, by rw [HA1.out]; exact .nil _ _ _ _ _ (Nat.zero_le _), below3 _ _ _ _⟩
    have HG1 := hide (tadd_good (t := t) (d := d) (by rw [HLL.out]; exact h5)).1
    have HG2 := hide (tadd_good (t := t) (d := d) (by rw [HLL.out]; exact h5)).2
    go_enter Tryd.func46, Tryd.ntmps46
    go_wp2_with fail
    rw [HTV.out, ← HW3.out]
    refine (c_rcheck t A n c _ W3 HRT.out).mono ?_
    rintro e w4 ⟨rfl, b4⟩
    have hs4 := b4.size
    have HB4 := hide (HB3.out.trans (b4.mono (by omega)))
    have hk0 := (b4.block _ (by omega)).trans J0.out
    have hk1 := (b4.block _ (by omega)).trans J1.out
    have hk2 := (b4.block _ (by omega)).trans J2.out
    have G2 := hide hk2
    have HK0 := hide hk0
    have HRT4 := hide (HRT.out.below b4)
    have hrz := row_of hk2
    have hcl : w4.cell? ⟨w.heap.size, 2, none⟩ = some (.slice A n c) := (cell_of_row w4 _ _ _ _ _ hk0).trans (tokC_2 _ _ _ _ _)
    have HG0 : Hid (∀ w2, w4.grownBy w2 (some (w.heap.size + 2)) → w2.heap[w.heap.size]? = some (.cells (tokA t A n c) 44)) := hide (fun w2 h => (h.block _ (by omega) (fun e => by have := Option.some.inj e; omega)).trans hk0)
    have HG1' : Hid (∀ w2, w4.grownBy w2 (some (w.heap.size + 2)) → w2.heap[w.heap.size + 1]? = some (.cells (dealA d) 70)) := hide (fun w2 h => (h.block _ (by omega) (fun e => by have := Option.some.inj e; omega)).trans hk1)
    have HBZ := hide (bsetRow HB4.out (Nat.le_add_right w.heap.size 2) tokZ)
    have hagz : agg? (w4.setRow (w.heap.size + 2) tokZ) ⟨w.heap.size + 2, 0, none⟩ 36 = some tokZ := (agg_setRow_at _ _ _ _ _ (by rw [hrz]; rfl) (by decide)).trans (tokC_part _ _ _ _ _)
    clear b4 hk0 hk1 hk2 hcc hcb hag hg65 hg3 HW3 J0 J1 J2 HRT HB3 hsz
    by_cases hk : checkT t = true ∧ n ≤ 63
    · obtain ⟨hk, hn⟩ := hk
      rw [hk]
      have HN := hide hn
      have HRT := HRT4
      obtain ⟨R, hRr⟩ : ∃ R, addR t (dealCav t.tag d) = R := ⟨_, rfl⟩
      obtain ⟨E0, hEe⟩ : ∃ E0, addE t (dealCav t.tag d) = E0 := ⟨_, rfl⟩
      have HRR := hide hRr
      have HEE := hide hEe
      have HA1 := HG1
      have HA2 := HG2
      clear HG1 HG2 hRr hEe hk HRT4
      have HG1 := HG1'
      clear HG1'
      have hn64 : ¬ 63 < n := by omega
      go_wp2_with fail
      refine wp_region_st mixed 10 (some (w.heap.size + 2)) 8 (fun w' => w'.heap[w.heap.size + 2]? = some (.cells tokZ 44)) (fun i v w' => match i with
        | 0 => v = tokV t A n c
        | 1 => v = .pointer (some ⟨w.heap.size, 4, none⟩)
        | 2 => v = tgV t.tag
        | 3 => v = .agg (dealA d)
        | 4 => v = cavV (dealCav t.tag d)
        | 5 => ∃ A' n' c', v = .tuple #[tokV R A' n' c', .int .i64 E0] ∧ kCav.Row (fun j => j ≠ w.heap.size + 2) w' A' n' c' R.cavs
        | 6 => ∃ A' n' c', v = tokV R A' n' c' ∧ kCav.Row (fun j => j ≠ w.heap.size + 2) w' A' n' c' R.cavs
        | 7 => v = .int .i64 E0
        | 8 => ∃ A' n' c', w'.heap[w.heap.size + 2]? = some (.cells (tokA R A' n' c') 44) ∧ kCav.Row (fun j => j ≠ w.heap.size + 2) w' A' n' c' R.cavs
        | _ => v = .int .i64 E0
        ) (regOk_of (by kernel_rfl)) rfl ?_ ?_ ?_ ?_ (fun w' => ∃ A' n' c', w'.heap[w.heap.size + 2]? = some (.cells (tokA R A' n' c') 44) ∧ kCav.Row (fun j => j ≠ w.heap.size + 2) w' A' n' c' R.cavs) ?_ (fun _ _ h => h) (by decide) ?_ ?_
      · exact G2.out
      · intro w1 w2 h1 h2
        exact (h1.block _ (Array.getElem?_eq_some_iff.1 h2).1).trans h2
      · intro i v w1 w2 hne h1 h2
        split at h2 <;> first | exact h2 | exact absurd rfl hne | (obtain ⟨A', n', c', e, hr⟩ := h2; exact ⟨A', n', c', e, hr.keep fun j hj hlt => h1.block j hlt (fun e' => hj (Option.some.inj e'))⟩)
      · intro v w1 w2 h1 h2
        obtain ⟨A', n', c', e, hr⟩ := h2; exact ⟨A', n', c', (h1.block _ (Array.getElem?_eq_some_iff.1 e).1).trans e, hr.below h1⟩
      · intro w1 w2 h1 h2
        exact by obtain ⟨A', n', c', e, hr⟩ := h2; exact ⟨A', n', c', (h1.block _ (Array.getElem?_eq_some_iff.1 e).1).trans e, hr.below h1⟩
      · refine ⟨fun a w2 hle hd hf hs hT K hK => ?_, fun a w2 hle hd hf hs hT K hK => ?_, fun a w2 hle hd hf hs hT K hK => ?_, fun a w2 hle hd hf hs hT K hK => ?_, fun a w2 hle hd hf hs hT K hK => ?_, fun a w2 hle hd hf hs hT K hK => ?_, fun a w2 hle hd hf hs hT K hK => ?_, fun a w2 hle hd hf hs hT K hK => ?_, fun a w2 hle hd hf hs hT K hK => ?_, fun a w2 hle hd hf hs hT K hK => ?_, trivial⟩
        all_goals clear hd
        · -- 25 := Op.load 44 t2
          have e2 := hf 2 rfl; simp [Act.eval] at e2
          have hq : agg? w2 ⟨w.heap.size, 0, none⟩ 36 = some (tokA t A n c) := (agg_of_row (HG0.out w2 hle) 0 36 (by decide)).trans (tokC_part _ _ _ _ _)
          go_simp; exact hK _ _ (.inl (Ext.refl _)) rfl
        · -- 26 := Op.fieldAddr 44 t2 4
          have e2 := hf 2 rfl; simp [Act.eval] at e2
          go_simp; exact hK _ _ (.inl (Ext.refl _)) rfl
        · -- 27 := Op.load 29 t26
          have e26 := hs 1 26 (needs_direct (by kernel_rfl)) rfl; simp [Act.eval] at e26
          have hq : agg? w2 ⟨w.heap.size, 4, none⟩ 32 = some (tgC t.tag) := (agg_of_row (HG0.out w2 hle) 4 32 (by decide)).trans (tokC_tag _ _ _ _ _)
          go_simp; exact hK _ _ (.inl (Ext.refl _)) rfl
        · -- 28 := Op.load 70 t3
          have e3 := hf 3 rfl; simp [Act.eval] at e3
          have hq : agg? w2 ⟨w.heap.size + 1, 0, none⟩ 130 = some (dealA d) := (agg_of_row (HG1.out w2 hle) 0 130 (by decide)).trans (dealA_part d)
          go_simp; exact hK _ _ (.inl (Ext.refl _)) rfl
        · -- 29 := Op.call { value (Operand.func 87), args := #[t27, t28], argTypes := #[29, 70] }
          have e27 := hs 2 27 (needs_direct (by kernel_rfl)) rfl; have e28 := hs 3 28 (needs_direct (by kernel_rfl)) rfl; simp [Act.eval] at e27 e28
          go_simp
          refine (c_r20cav t.tag d w2 HCD.out).mono ?_
          rintro z w9 ⟨rfl, b9⟩
          exact hK _ _ (.inl b9) rfl
        · -- 30 := Op.call { value (Operand.func 86), args := #[t25, t29], argTypes := #[44, 83] }
          have e25 := hs 0 25 (needs_direct (by kernel_rfl)) rfl; have e29 := hs 4 29 (needs_direct (by kernel_rfl)) rfl; simp [Act.eval] at e25 e29
          go_simp
          refine (c_r19add t (dealCav t.tag d) A n c _ w2 (HRT.out.keep fun j hj hlt => hle.block j (by omega) (fun e' => by have := Option.some.inj e'; omega)) (Nat.le_trans HN.out (by decide)) HX.out).mono ?_
          rintro z w9 ⟨A', n', c', rfl, hr, b9⟩
          rw [HRR.out] at hr
          rw [HRR.out, HEE.out]
          have hsz2 := hle.size
          exact hK _ _ (.inl b9) ⟨A', n', c', rfl, hr.more fun j hj => by omega⟩
        · -- 31 := Op.extract t30 0
          have e30 := hs 5 30 (needs_direct (by kernel_rfl)) rfl; simp [Act.eval] at e30
          obtain ⟨A', n', c', e30, hr⟩ := e30
          go_simp
          exact hK _ _ (.inl (Ext.refl _)) ⟨A', n', c', rfl, hr⟩
        · -- 32 := Op.extract t30 1
          have e30 := hs 5 30 (needs_direct (by kernel_rfl)) rfl; simp [Act.eval] at e30
          obtain ⟨A', n', c', e30, hr⟩ := e30
          go_simp
          exact hK _ _ (.inl (Ext.refl _)) rfl
        · -- None := Op.store 44 t4 t31
          have e4 := hf 4 rfl; have e31 := hs 6 31 (needs_direct (by kernel_rfl)) rfl; simp [Act.eval] at e4 e31
          obtain ⟨A', n', c', e31, hr⟩ := e31
          have hz := hT rfl
          have hrz := row_of hz
          obtain ⟨C, hC⟩ : ∃ C, C = tokA R A' n' c' := ⟨_, rfl⟩
          have hzC : C.size = 36 := by rw [hC]; exact tokC_size _ _ _ _ _
          have hoC : oneAll C = true := by rw [hC]; exact tokC_all _ _ _ _ _ _ _ _
          have hspC : splice tokZ 0 C = C := by rw [hC]; exact tokC_splice0 _ _ _ _ _ _ (tokC_size _ _ _ _ _)
          rw [show tokV R A' n' c' = .agg C from by rw [hC]] at e31
          have HC := hide hC
          clear hC
          go_simp
          exact hK undef _ (.inr ⟨rfl, grown_setRow (grownBy_refl _ _) _⟩) ⟨A', n', c', (setRow_heap w2 (w.heap.size + 2) tokZ C 44 _ hz).trans (by rw [HC.out]), hr.keep fun j hj _ => heap_setRow_far _ _ _ hj⟩
        · -- 5 := Op.assign t32
          have e32 := hs 7 32 (needs_direct (by kernel_rfl)) rfl; simp [Act.eval] at e32
          go_simp; exact hK _ _ (.inl (Ext.refl _)) rfl
      intro vs w8 hle hs hU8
      have v9 := hs 9 (by omega) rfl
      simp only at v9
      clear hs
      obtain ⟨A', n', c', hk8, hr8⟩ := hU8
      have hag8 : agg? w8 ⟨w.heap.size + 2, 0, none⟩ 36 = some (tokA R A' n' c') := (agg_of_row hk8 0 36 (by decide)).trans (tokC_part _ _ _ _ _)
      have HB8 := hide (HB4.out.grown hle (by omega) (fun q e => by have := Option.some.inj e; omega))
      clear hle hk8
      simp only [putN, dstAt]
      go_simp
      go_wp2_with fail
      exact bodyPost_ret (v := .tuple #[tokV R A' n' c', .int .i64 E0]) (by simp [results, Tryd.results46, go_sem, hag8]) rfl ⟨A', n', c', by rw [HA1.out, HA2.out, HRR.out, HEE.out], by rw [HA1.out, HRR.out]; exact hr8.more fun _ _ => trivial, HB8.out⟩
    · have hbad : checkT t = false ∨ 63 < t.cavs.length := by
        rw [HL.out]
        cases hq : checkT t with
        | false => exact .inl rfl
        | true => exact .inr (Nat.lt_of_not_le fun h => hk ⟨hq, h⟩)
      have HA1 := hide (tadd_bad (d := d) HBF.out (.inr hbad)).1
      have HA2 := hide (tadd_bad (d := d) HBF.out (.inr hbad)).2
      cases hq : checkT t with
      | false =>
        clear hq hk hbad
        go_wp2_with fail
        exact bodyPost_ret (v := .tuple #[.agg tokZ, .int .i64 1]) (by simp [results, Tryd.results46, go_sem, hagz]) rfl ⟨none, 0, 0, by rw [HA1.out, HA2.out]; rfl, by rw [HA1.out]; exact .nil _ _ _ _ _ (Nat.zero_le _), HBZ.out⟩
      | true =>
        have hn64 : 63 < n := Nat.lt_of_not_le fun h => hk ⟨hq, h⟩
        clear hq hk hbad
        go_wp2_with fail
        exact bodyPost_ret (v := .tuple #[.agg tokZ, .int .i64 1]) (by simp [results, Tryd.results46, go_sem, hagz]) rfl ⟨none, 0, 0, by rw [HA1.out, HA2.out]; rfl, by rw [HA1.out]; exact .nil _ _ _ _ _ (Nat.zero_le _), HBZ.out⟩
end Go.Proofs.YtdkeflhgengblaaDoor
namespace Go.Proofs.YtdkeflhgengblaaDoor
open Go.RowKit
attribute [local go_sem ↓] ld8 ld32 ld64 ld73
attribute [local go_sem] run_ldAgg run_storeAgg agg_alloc_at agg_alloc_past agg_drew agg_setCell row_alloc_at row_alloc_past row_drew setRow_alloc_at setRow_alloc_past setRow_drew agg_setRow_at agg_setRow_far cell_setRow_at cell_setRow_far row_setRow_far size_setRow s8C_size s8C_part s8C_one s8C_splice0 s8C_ne dgC_size dgC_72 dgC_part dgC_h dgC_r dgC_splice_h dgC_set dgC_one dgC_splice0 dgC_ne zero_dg
attribute [local go_sem] tgC_size tgC_one tgC_part tgC_splice tgC_splice_any zero_tg tgC_ne

/-- What a party finds. -/
def unlockO (key : Tg) (s : List UInt8) : Option (Tg × List UInt8) :=
  match openB (dkey key uParty []) s with
  | none => none
  | some p => if p.length < 32 then none else some (tagL (p.take 32), p.drop 32)
def unlockV : Option (Tg × List UInt8) → Value
  | none => .tuple #[tgV Tg.zero, .string (txt []), .bool false]
  | some (r, c) => .tuple #[tgV r, .string (txt c), .bool true]
theorem openB_len {key : Tg} {s p : List UInt8} (h : openB key s = some p) : p.length ≤ s.length := by
  unfold openB at h
  split at h
  · cases h
  · split at h
    · obtain rfl := Option.some.inj h
      rw [turnd_len, List.length_take, List.length_drop]
      omega
    · cases h
set_option maxRecDepth 100000 in
set_option maxHeartbeats 800000 in
theorem c_unlock (key : Tg) (s : List UInt8) (w : World) (hn : s.length < 1000000) (hP : PrimesAt w) :
    Calls Tryd.prog 47 #[tgV key, .string (txt s)] w fun e w' => e = .returned (unlockV (unlockO key s)) ∧ Below w.heap.size w w' := by
  have HP := hide hP
  have hw0 := hP.1
  clear hP
  obtain ⟨kt, hkt⟩ : ∃ kt, dkey key uParty [] = kt := ⟨_, rfl⟩
  have HKT := hide hkt
  have HFL := hide party_len
  have HL20 : Hid (s.length < 1048576) := hide (by omega)
  have HB2 : Hid (Below w.heap.size w ((w.alloc (.cells (tgC key) 29)).alloc (.cells (tgC Tg.zero) 29))) := hide (below2 _ _ _)
  have HZ2 := hide (heap_alloc_new (w.alloc (.cells (tgC key) 29)) (.cells (tgC Tg.zero) 29))
  go_enter Tryd.func47, Tryd.ntmps47
  go_wp2_with fail
  refine (c_dkey key uParty none 0 0 [] _ _ (Kd.Row.nil kStr (fun _ => True) _ none 0 (Nat.zero_le _)) (by decide) (HP.out.ext HB2.out) HFL.out).mono ?_
  rintro e w3 ⟨rfl, b3⟩
  rw [HKT.out]
  have HB3 := hide (bnext HB2.out b3)
  have HZ3 := hide ((b3.block _ (by simp only [World.size_alloc]; omega)).trans HZ2.out)
  have hs3 := b3.size
  simp only [World.size_alloc] at hs3
  clear b3 HB2 HZ2
  go_wp2_with fail
  refine (c_open kt s w3 HL20.out (HP.out.ext HB3.out)).mono ?_
  rintro e w4 ⟨rfl, b4⟩
  have HB4 := hide (HB3.out.trans (b4.mono (by omega)))
  have HZ4 : Hid (w4.heap[w.heap.size + 1]? = some (.cells (tgC Tg.zero) 29)) := hide ((b4.block _ (by omega)).trans (by have := HZ3.out; simpa only [World.size_alloc] using this))
  have hs4 : w.heap.size + 2 ≤ w4.heap.size := by have := b4.size; omega
  obtain ⟨o, ho⟩ : ∃ o, openB kt s = o := ⟨_, rfl⟩
  rw [ho]
  cases o with
  | none =>
    have HU : Hid (unlockO key s = none) := hide (by rw [unlockO, hkt, ho])
    rw [show openV none = .tuple #[.string (txt []), .bool false] from rfl]
    have hrz := row_of HZ4.out
    have hage : agg? (w4.setRow (w.heap.size + 1) (tgC Tg.zero)) ⟨w.heap.size + 1, 0, none⟩ 32 = some (tgC Tg.zero) := (agg_setRow_at _ _ _ _ _ (by rw [hrz]; rfl) (by decide)).trans (tgC_part Tg.zero)
    have HBE := hide (bsetRow HB4.out (Nat.le_succ w.heap.size) (tgC Tg.zero))
    clear hkt hn ho b4
    go_wp2_with fail
    exact bodyPost_ret (v := unlockV none) (by simp [results, Tryd.results47, go_sem, unlockV, hage]) rfl ⟨by rw [HU.out], HBE.out⟩
  | some p =>
    obtain ⟨L, hL⟩ : ∃ L, L = p.length := ⟨_, rfl⟩
    have hsz : (txt p).size = L := by rw [txt_size, hL]
    rw [show openV (some p) = .tuple #[.string (txt p), .bool true] from rfl]
    by_cases hp : L < 32
    · have HU : Hid (unlockO key s = none) := hide (by rw [unlockO, hkt, ho]; exact if_pos (by omega))
      clear hL
      have hrz := row_of HZ4.out
      have hage : agg? (w4.setRow (w.heap.size + 1) (tgC Tg.zero)) ⟨w.heap.size + 1, 0, none⟩ 32 = some (tgC Tg.zero) := (agg_setRow_at _ _ _ _ _ (by rw [hrz]; rfl) (by decide)).trans (tgC_part Tg.zero)
      have HBE := hide (bsetRow HB4.out (Nat.le_succ w.heap.size) (tgC Tg.zero))
      clear hkt hn ho b4
      go_wp2_with fail
      exact bodyPost_ret (v := unlockV none) (by simp [results, Tryd.results47, go_sem, unlockV, hage]) rfl ⟨by rw [HU.out], HBE.out⟩
    · obtain ⟨nb, hnb⟩ : ∃ nb, (p.drop 0).take (32 - 0) = nb := ⟨_, rfl⟩
      obtain ⟨cb, hcb⟩ : ∃ cb, (p.drop 32).take (L - 32) = cb := ⟨_, rfl⟩
      obtain ⟨rt, hrt⟩ : ∃ rt, tagL nb = rt := ⟨_, rfl⟩
      have l1 : nb.length = 32 := by rw [← hnb]; simp only [List.drop_zero, List.length_take]; omega
      have hzn : (txt nb).size = 32 := by rw [txt_size, l1]
      have HU : Hid (unlockO key s = some (rt, cb)) := hide (by
        rw [unlockO, hkt, ho]
        refine (if_neg (by omega)).trans ?_
        rw [← hrt, ← hnb, ← hcb, List.take_of_length_le (l := p.drop 32) (by rw [List.length_drop]; omega)]
        rfl)
      have HNB := hide hnb
      have HCB := hide hcb
      have HL32 := hide l1
      have HNL : Hid (nb = rt.l) := hide (by rw [← hrt, tagL_l l1])
      have HTN : Hid ((nb.map bv).toArray = tgC rt) := hide (by rw [← hrt, tgC, tagL_l l1])
      have hle1 : (32 : Int) ≤ (L : Int) := by omega
      have hLm : L < 9223372036854775807 := by
        have h1 := openB_len (key := kt) (s := s) (by rw [ho])
        omega
      clear hkt hn ho b4 hnb hcb hrt l1 hL
      go_wp2_with fail
      refine wp_region_st mixed 10 (some (w.heap.size + 1)) 7 (fun w' => w'.heap[w.heap.size + 1]? = some (.cells (tgC Tg.zero) 29)) (fun i v w' => match i with
        | 0 => v = .string (txt p)
        | 1 => v = .string (txt nb)
        | 2 => ∃ A c, v = .slice A 32 c ∧ kU8.Row (fun j => j ≠ w.heap.size + 1) w' A 32 c nb
        | 3 => ∃ A c, v = .pointer A ∧ kU8.Row (fun j => j ≠ w.heap.size + 1) w' A 32 c nb
        | 4 => v = tgV rt
        | 5 => v = .string (txt p)
        | 6 => v = .string (txt cb)
        | 7 => w'.heap[w.heap.size + 1]? = some (.cells (tgC rt) 29)
        | 8 => v = .string (txt cb)
        | _ => v = .bool true
        ) (regOk_of (by kernel_rfl)) rfl ?_ ?_ ?_ ?_ (fun w' => w'.heap[w.heap.size + 1]? = some (.cells (tgC rt) 29)) ?_ (fun _ _ h => h) (by decide) ?_ ?_
      · exact HZ4.out
      · intro w1 w2 h1 h2
        exact (h1.block _ (Array.getElem?_eq_some_iff.1 h2).1).trans h2
      · intro i v w1 w2 hne h1 h2
        split at h2 <;> first | exact h2 | exact absurd rfl hne | (obtain ⟨A, c, e, hr⟩ := h2; exact ⟨A, c, e, hr.keep fun j hj hlt => h1.block j hlt (fun e' => hj (Option.some.inj e'))⟩)
      · intro v w1 w2 h1 h2
        exact (h1.block _ (Array.getElem?_eq_some_iff.1 h2).1).trans h2
      · intro w1 w2 h1 h2
        exact (h1.block _ (Array.getElem?_eq_some_iff.1 h2).1).trans h2
      · refine ⟨fun a w2 hle hd hf hs hT K hK => ?_, fun a w2 hle hd hf hs hT K hK => ?_, fun a w2 hle hd hf hs hT K hK => ?_, fun a w2 hle hd hf hs hT K hK => ?_, fun a w2 hle hd hf hs hT K hK => ?_, fun a w2 hle hd hf hs hT K hK => ?_, fun a w2 hle hd hf hs hT K hK => ?_, fun a w2 hle hd hf hs hT K hK => ?_, fun a w2 hle hd hf hs hT K hK => ?_, fun a w2 hle hd hf hs hT K hK => ?_, trivial⟩
        all_goals clear hd
        · -- 23 := Op.move t7
          have e7 := hf 7 rfl; simp [Act.eval] at e7
          go_simp; exact hK _ _ (.inl (Ext.refl _)) rfl
        · -- 24 := Op.slice 9 t23 none (some (const (32:i64))) none
          have e23 := hs 0 23 (needs_direct (by kernel_rfl)) rfl; simp [Act.eval] at e23
          go_simp
          exact hK _ _ (.inl (Ext.refl _)) (ext_is HNB.out rfl rfl)
        · -- 25 := Op.convert 9 22 t24
          have e24 := hs 1 24 (needs_direct (by kernel_rfl)) rfl; simp [Act.eval] at e24
          have f24 := hs 1 24 (needs_direct (by kernel_rfl)) rfl
          refine wp_tobytes 9 22 _ rfl (txt nb) f24 Tryd.underlying9 Tryd.underlying22 Tryd.underlying5 (by rw [hzn]; decide) ?_
          intro c w' h1 h2
          rw [byt_txt, hzn] at h1
          rw [hzn]
          have hsz2 := hle.size
          exact hK _ _ (.inl h2) ⟨_, c, rfl, h1.more fun j hj => by omega⟩
        · -- 26 := Op.sliceToArrayPointer 29 t25
          obtain ⟨A25, c25, e25, hr25⟩ := hs 2 25 (needs_direct (by kernel_rfl)) rfl; simp [Act.eval] at e25
          obtain ⟨p', o, rfl, -, hb, hc⟩ := row_bytes hr25 (by decide)
          have hap : ∀ wx : World, (Instr.arrayAt 29 (.slice (some ⟨p', o, none⟩) 32 c25)).run Tryd.prog wx = .ok (.pointer (some ⟨p', o, none⟩)) wx := fun wx => by simp [Instr.arrayAt, run_underlying Tryd.underlying29]
          go_simp
          exact hK _ _ (.inl (Ext.refl _)) ⟨_, c25, rfl, hr25⟩
        · -- 27 := Op.load 29 t26
          obtain ⟨A26, c26, e26, hr26⟩ := hs 3 26 (needs_direct (by kernel_rfl)) rfl; simp [Act.eval] at e26
          obtain ⟨p', o, rfl, -, hb, hc⟩ := row_bytes hr26 (by decide)
          have hag : agg? w2 ⟨p', o, none⟩ 32 = some (tgC rt) := by
            have := agg_range (w := w2) (b := p') (o := o) (cs := nb.map bv) (fun j v hv => by
              rw [List.getElem?_map] at hv
              obtain ⟨x, hx, rfl⟩ := Option.map_eq_some_iff.1 hv
              exact hc j x hx) 32 (by rw [List.length_map]; exact HL32.out)
            rw [this, HTN.out]
          go_simp
          exact hK _ _ (.inl (Ext.refl _)) rfl
        · -- 28 := Op.move t7
          have e7 := hf 7 rfl; simp [Act.eval] at e7
          go_simp; exact hK _ _ (.inl (Ext.refl _)) rfl
        · -- 29 := Op.slice 9 t28 (some (const (32:i64))) none none
          have e28 := hs 5 28 (needs_direct (by kernel_rfl)) rfl; simp [Act.eval] at e28
          go_simp
          exact hK _ _ (.inl (Ext.refl _)) (ext_is HCB.out rfl rfl)
        · -- None := Op.store 29 t4 t27
          have e4 := hf 4 rfl; have e27 := hs 4 27 (needs_direct (by kernel_rfl)) rfl; simp [Act.eval] at e4 e27
          have hz := hT rfl
          have hrz := row_of hz
          go_simp
          exact hK undef _ (.inr ⟨rfl, grown_setRow (grownBy_refl _ _) _⟩) (setRow_heap w2 (w.heap.size + 1) (tgC Tg.zero) (tgC rt) 29 _ hz)
        · -- 5 := Op.assign t29
          have e29 := hs 6 29 (needs_direct (by kernel_rfl)) rfl; simp [Act.eval] at e29
          go_simp; exact hK _ _ (.inl (Ext.refl _)) rfl
        · -- 6 := Op.assign (const (Value.bool true))
          go_simp; exact hK _ _ (.inl (Ext.refl _)) rfl
      intro vs w8 hle hs hU8
      have v8 := hs 8 (by omega) rfl
      have v9 := hs 9 (by omega) rfl
      simp only at v8 v9
      clear hs
      have hag8 : agg? w8 ⟨w.heap.size + 1, 0, none⟩ 32 = some (tgC rt) := (agg_of_row hU8 0 32 (by decide)).trans (tgC_part rt)
      have HB8 := hide (HB4.out.grown hle (by omega) (fun q e => by have := Option.some.inj e; omega))
      clear hle hU8
      simp only [putN, dstAt]
      go_simp
      go_wp2_with fail
      exact bodyPost_ret (v := unlockV (some (rt, cb))) (by simp [results, Tryd.results47, go_sem, unlockV, hag8]) rfl ⟨by rw [HU.out], HB8.out⟩
set_option maxRecDepth 100000 in
set_option maxHeartbeats 800000 in
theorem c_runlock (key : Tg) (s : List UInt8) (w : World) (hn : s.length < 1000000) :
    Calls Tryd.prog 48 #[tgV key, .string (txt s)] w fun e w' => e = .returned (unlockV (unlockO key s)) ∧ Below w.heap.size w w' := by
  obtain ⟨kt, hkt⟩ : ∃ kt, dkey key uParty [] = kt := ⟨_, rfl⟩
  have HKT := hide hkt
  have HFL := hide party_len
  have HL20 : Hid (s.length < 1048576) := hide (by omega)
  have HB2 : Hid (Below w.heap.size w ((w.alloc (.cells (tgC key) 29)).alloc (.cells (tgC Tg.zero) 29))) := hide (below2 _ _ _)
  have HZ2 := hide (heap_alloc_new (w.alloc (.cells (tgC key) 29)) (.cells (tgC Tg.zero) 29))
  go_enter Tryd.func48, Tryd.ntmps48
  go_wp2_with fail
  refine (c_rkey key uParty none 0 0 [] _ _ (Kd.Row.nil kStr (fun _ => True) _ none 0 (Nat.zero_le _)) (by decide) HFL.out).mono ?_
  rintro e w3 ⟨rfl, b3⟩
  rw [HKT.out]
  have HB3 := hide (bnext HB2.out b3)
  have HZ3 := hide ((b3.block _ (by simp only [World.size_alloc]; omega)).trans HZ2.out)
  have hs3 := b3.size
  simp only [World.size_alloc] at hs3
  clear b3 HB2 HZ2
  go_wp2_with fail
  refine (c_ropen kt s w3 HL20.out).mono ?_
  rintro e w4 ⟨rfl, b4⟩
  have HB4 := hide (HB3.out.trans (b4.mono (by omega)))
  have HZ4 : Hid (w4.heap[w.heap.size + 1]? = some (.cells (tgC Tg.zero) 29)) := hide ((b4.block _ (by omega)).trans (by have := HZ3.out; simpa only [World.size_alloc] using this))
  have hs4 : w.heap.size + 2 ≤ w4.heap.size := by have := b4.size; omega
  obtain ⟨o, ho⟩ : ∃ o, openB kt s = o := ⟨_, rfl⟩
  rw [ho]
  cases o with
  | none =>
    have HU : Hid (unlockO key s = none) := hide (by rw [unlockO, hkt, ho])
    rw [show openV none = .tuple #[.string (txt []), .bool false] from rfl]
    have hrz := row_of HZ4.out
    have hage : agg? (w4.setRow (w.heap.size + 1) (tgC Tg.zero)) ⟨w.heap.size + 1, 0, none⟩ 32 = some (tgC Tg.zero) := (agg_setRow_at _ _ _ _ _ (by rw [hrz]; rfl) (by decide)).trans (tgC_part Tg.zero)
    have HBE := hide (bsetRow HB4.out (Nat.le_succ w.heap.size) (tgC Tg.zero))
    clear hkt hn ho b4
    go_wp2_with fail
    exact bodyPost_ret (v := unlockV none) (by simp [results, Tryd.results48, go_sem, unlockV, hage]) rfl ⟨by rw [HU.out], HBE.out⟩
  | some p =>
    obtain ⟨L, hL⟩ : ∃ L, L = p.length := ⟨_, rfl⟩
    have hsz : (txt p).size = L := by rw [txt_size, hL]
    rw [show openV (some p) = .tuple #[.string (txt p), .bool true] from rfl]
    by_cases hp : L < 32
    · have HU : Hid (unlockO key s = none) := hide (by rw [unlockO, hkt, ho]; exact if_pos (by omega))
      clear hL
      have hrz := row_of HZ4.out
      have hage : agg? (w4.setRow (w.heap.size + 1) (tgC Tg.zero)) ⟨w.heap.size + 1, 0, none⟩ 32 = some (tgC Tg.zero) := (agg_setRow_at _ _ _ _ _ (by rw [hrz]; rfl) (by decide)).trans (tgC_part Tg.zero)
      have HBE := hide (bsetRow HB4.out (Nat.le_succ w.heap.size) (tgC Tg.zero))
      clear hkt hn ho b4
      go_wp2_with fail
      exact bodyPost_ret (v := unlockV none) (by simp [results, Tryd.results48, go_sem, unlockV, hage]) rfl ⟨by rw [HU.out], HBE.out⟩
    · obtain ⟨nb, hnb⟩ : ∃ nb, (p.drop 0).take (32 - 0) = nb := ⟨_, rfl⟩
      obtain ⟨cb, hcb⟩ : ∃ cb, (p.drop 32).take (L - 32) = cb := ⟨_, rfl⟩
      obtain ⟨rt, hrt⟩ : ∃ rt, tagL nb = rt := ⟨_, rfl⟩
      have l1 : nb.length = 32 := by rw [← hnb]; simp only [List.drop_zero, List.length_take]; omega
      have hzn : (txt nb).size = 32 := by rw [txt_size, l1]
      have HU : Hid (unlockO key s = some (rt, cb)) := hide (by
        rw [unlockO, hkt, ho]
        refine (if_neg (by omega)).trans ?_
        rw [← hrt, ← hnb, ← hcb, List.take_of_length_le (l := p.drop 32) (by rw [List.length_drop]; omega)]
        rfl)
      have HNB := hide hnb
      have HCB := hide hcb
      have HL32 := hide l1
      have HNL : Hid (nb = rt.l) := hide (by rw [← hrt, tagL_l l1])
      have HTN : Hid ((nb.map bv).toArray = tgC rt) := hide (by rw [← hrt, tgC, tagL_l l1])
      have hle1 : (32 : Int) ≤ (L : Int) := by omega
      have hLm : L < 9223372036854775807 := by
        have h1 := openB_len (key := kt) (s := s) (by rw [ho])
        omega
      clear hkt hn ho b4 hnb hcb hrt l1 hL
      go_wp2_with fail
      refine wp_region_st mixed 9 (some (w.heap.size + 1)) 6 (fun w' => w'.heap[w.heap.size + 1]? = some (.cells (tgC Tg.zero) 29)) (fun i v w' => match i with
        | 0 => v = .string (txt p)
        | 1 => v = .string (txt nb)
        | 2 => ∃ A c, v = .slice A 32 c ∧ kU8.Row (fun j => j ≠ w.heap.size + 1) w' A 32 c nb
        | 3 => v = tgV rt
        | 4 => v = .string (txt p)
        | 5 => v = .string (txt cb)
        | 6 => w'.heap[w.heap.size + 1]? = some (.cells (tgC rt) 29)
        | 7 => v = .string (txt cb)
        | _ => v = .bool true
        ) (regOk_of (by kernel_rfl)) rfl ?_ ?_ ?_ ?_ (fun w' => w'.heap[w.heap.size + 1]? = some (.cells (tgC rt) 29)) ?_ (fun _ _ h => h) (by decide) ?_ ?_
      · exact HZ4.out
      · intro w1 w2 h1 h2
        exact (h1.block _ (Array.getElem?_eq_some_iff.1 h2).1).trans h2
      · intro i v w1 w2 hne h1 h2
        split at h2 <;> first | exact h2 | exact absurd rfl hne | (obtain ⟨A, c, e, hr⟩ := h2; exact ⟨A, c, e, hr.keep fun j hj hlt => h1.block j hlt (fun e' => hj (Option.some.inj e'))⟩)
      · intro v w1 w2 h1 h2
        exact (h1.block _ (Array.getElem?_eq_some_iff.1 h2).1).trans h2
      · intro w1 w2 h1 h2
        exact (h1.block _ (Array.getElem?_eq_some_iff.1 h2).1).trans h2
      · refine ⟨fun a w2 hle hd hf hs hT K hK => ?_, fun a w2 hle hd hf hs hT K hK => ?_, fun a w2 hle hd hf hs hT K hK => ?_, fun a w2 hle hd hf hs hT K hK => ?_, fun a w2 hle hd hf hs hT K hK => ?_, fun a w2 hle hd hf hs hT K hK => ?_, fun a w2 hle hd hf hs hT K hK => ?_, fun a w2 hle hd hf hs hT K hK => ?_, fun a w2 hle hd hf hs hT K hK => ?_, trivial⟩
        all_goals clear hd
        · -- 24 := Op.move t7
          have e7 := hf 7 rfl; simp [Act.eval] at e7
          go_simp; exact hK _ _ (.inl (Ext.refl _)) rfl
        · -- 25 := Op.slice 9 t24 none (some (const (32:i64))) none
          have e24 := hs 0 24 (needs_direct (by kernel_rfl)) rfl; simp [Act.eval] at e24
          go_simp
          exact hK _ _ (.inl (Ext.refl _)) (ext_is HNB.out rfl rfl)
        · -- 26 := Op.convert 9 22 t25
          have e25 := hs 1 25 (needs_direct (by kernel_rfl)) rfl; simp [Act.eval] at e25
          have f25 := hs 1 25 (needs_direct (by kernel_rfl)) rfl
          refine wp_tobytes 9 22 _ rfl (txt nb) f25 Tryd.underlying9 Tryd.underlying22 Tryd.underlying5 (by rw [hzn]; decide) ?_
          intro c w' h1 h2
          rw [byt_txt, hzn] at h1
          rw [hzn]
          have hsz2 := hle.size
          exact hK _ _ (.inl h2) ⟨_, c, rfl, h1.more fun j hj => by omega⟩
        · -- 27 := Op.call { value (Operand.func 76), args := #[t26], argTypes := #[22] }
          obtain ⟨A26, c26, e26, hr26⟩ := hs 2 26 (needs_direct (by kernel_rfl)) rfl; simp [Act.eval] at e26
          go_simp
          rw [HNL.out] at hr26
          refine (c_rtag rt _ c26 _ w2 hr26).mono ?_
          rintro z w9 ⟨rfl, b9⟩
          exact hK _ _ (.inl b9) rfl
        · -- 28 := Op.move t7
          have e7 := hf 7 rfl; simp [Act.eval] at e7
          go_simp; exact hK _ _ (.inl (Ext.refl _)) rfl
        · -- 29 := Op.slice 9 t28 (some (const (32:i64))) none none
          have e28 := hs 4 28 (needs_direct (by kernel_rfl)) rfl; simp [Act.eval] at e28
          go_simp
          exact hK _ _ (.inl (Ext.refl _)) (ext_is HCB.out rfl rfl)
        · -- None := Op.store 29 t4 t27
          have e4 := hf 4 rfl; have e27 := hs 3 27 (needs_direct (by kernel_rfl)) rfl; simp [Act.eval] at e4 e27
          have hz := hT rfl
          have hrz := row_of hz
          go_simp
          exact hK undef _ (.inr ⟨rfl, grown_setRow (grownBy_refl _ _) _⟩) (setRow_heap w2 (w.heap.size + 1) (tgC Tg.zero) (tgC rt) 29 _ hz)
        · -- 5 := Op.assign t29
          have e29 := hs 5 29 (needs_direct (by kernel_rfl)) rfl; simp [Act.eval] at e29
          go_simp; exact hK _ _ (.inl (Ext.refl _)) rfl
        · -- 6 := Op.assign (const (Value.bool true))
          go_simp; exact hK _ _ (.inl (Ext.refl _)) rfl
      intro vs w8 hle hs hU8
      have v7 := hs 7 (by omega) rfl
      have v8 := hs 8 (by omega) rfl
      simp only at v7 v8
      clear hs
      have hag8 : agg? w8 ⟨w.heap.size + 1, 0, none⟩ 32 = some (tgC rt) := (agg_of_row hU8 0 32 (by decide)).trans (tgC_part rt)
      have HB8 := hide (HB4.out.grown hle (by omega) (fun q e => by have := Option.some.inj e; omega))
      clear hle hU8
      simp only [putN, dstAt]
      go_simp
      go_wp2_with fail
      exact bodyPost_ret (v := unlockV (some (rt, cb))) (by simp [results, Tryd.results48, go_sem, unlockV, hag8]) rfl ⟨by rw [HU.out], HB8.out⟩
end Go.Proofs.YtdkeflhgengblaaDoor
namespace Go.Proofs.YtdkeflhgengblaaDoor
open Go.RowKit
attribute [local go_sem ↓] ld8 ld32 ld64 ld73
attribute [local go_sem] run_ldAgg run_storeAgg agg_alloc_at agg_alloc_past agg_drew agg_setCell row_alloc_at row_alloc_past row_drew setRow_alloc_at setRow_alloc_past setRow_drew agg_setRow_at agg_setRow_far cell_setRow_at cell_setRow_far row_setRow_far size_setRow s8C_size s8C_part s8C_one s8C_splice0 s8C_ne dgC_size dgC_72 dgC_part dgC_h dgC_r dgC_splice_h dgC_set dgC_one dgC_splice0 dgC_ne zero_dg
attribute [local go_sem] tgC_size tgC_one tgC_part tgC_splice tgC_splice_any zero_tg tgC_ne

/-- What the service finds. -/
def revealO (key : Tg) (s : List UInt8) : Option Tg :=
  match openB (dkey key uVault []) s with
  | none => none
  | some p => tagOf p
theorem tagOf_none {p : List UInt8} (h : p.length ≠ 32) : tagOf p = none := by rw [tagOf, dif_neg h]
set_option maxRecDepth 100000 in
set_option maxHeartbeats 800000 in
theorem c_reveal (key : Tg) (s : List UInt8) (w : World) (hn : s.length < 1000000) (hP : PrimesAt w) :
    Calls Tryd.prog 49 #[tgV key, .string (txt s)] w fun e w' => e = .returned (tagV (revealO key s)) ∧ Below w.heap.size w w' := by
  have HP := hide hP
  have hw0 := hP.1
  clear hP
  obtain ⟨kt, hkt⟩ : ∃ kt, dkey key uVault [] = kt := ⟨_, rfl⟩
  have HKT := hide hkt
  have HFL := hide vault_len
  have HL20 : Hid (s.length < 1048576) := hide (by omega)
  have HB2 : Hid (Below w.heap.size w ((w.alloc (.cells (tgC key) 29)).alloc (.cells (tgC Tg.zero) 29))) := hide (below2 _ _ _)
  have HZ2 := hide (heap_alloc_new (w.alloc (.cells (tgC key) 29)) (.cells (tgC Tg.zero) 29))
  go_enter Tryd.func49, Tryd.ntmps49
  go_wp2_with fail
  refine (c_dkey key uVault none 0 0 [] _ _ (Kd.Row.nil kStr (fun _ => True) _ none 0 (Nat.zero_le _)) (by decide) (HP.out.ext HB2.out) HFL.out).mono ?_
  rintro e w3 ⟨rfl, b3⟩
  rw [HKT.out]
  have HB3 := hide (bnext HB2.out b3)
  have HZ3 := hide ((b3.block _ (by simp only [World.size_alloc]; omega)).trans HZ2.out)
  have hs3 := b3.size
  simp only [World.size_alloc] at hs3
  clear b3 HB2 HZ2
  go_wp2_with fail
  refine (c_open kt s w3 HL20.out (HP.out.ext HB3.out)).mono ?_
  rintro e w4 ⟨rfl, b4⟩
  have HB4 := hide (HB3.out.trans (b4.mono (by omega)))
  have HZ4 : Hid (w4.heap[w.heap.size + 1]? = some (.cells (tgC Tg.zero) 29)) := hide ((b4.block _ (by omega)).trans (by have := HZ3.out; simpa only [World.size_alloc] using this))
  have hs4 : w.heap.size + 2 ≤ w4.heap.size := by have := b4.size; omega
  obtain ⟨o, ho⟩ : ∃ o, openB kt s = o := ⟨_, rfl⟩
  rw [ho]
  cases o with
  | none =>
    have HU : Hid (revealO key s = none) := hide (by rw [revealO, hkt, ho])
    rw [show openV none = .tuple #[.string (txt []), .bool false] from rfl]
    obtain ⟨p, hp⟩ : ∃ p : List UInt8, p = [] := ⟨_, rfl⟩
    have hp63 : (txt p).size ≤ 9223372036854775807 := by rw [hp]; decide
    have HT : Hid (tagOf p = none) := hide (by rw [hp]; exact tagOf_none (by decide))
    rw [← hp]
    clear hkt hn ho b4 hp
    go_wp2_with ((with_reducible show wpList _ _ _ (Oper.mk (some 17) _ _ _ _ _ :: _) _ _); go_loud (refine at_tobytes (P := Tryd.prog) 9 22 (txt p) rfl Tryd.underlying9 Tryd.underlying22 Tryd.underlying5 hp63 w4.heap.size rfl ?_))
    intro c5 w5 h5 b5 _
    rw [byt_txt] at h5
    have HR5 := hide h5
    have HB5 := hide (HB4.out.trans (b5.mono (by omega)))
    have HZ5 := hide ((b5.block _ (by omega)).trans HZ4.out)
    have hs5 := b5.size
    clear h5 b5
    go_wp2_with fail
    refine (c_tagof _ _ c5 p _ w5 HR5.out).mono ?_
    rintro e w6 ⟨rfl, b6⟩
    rw [HT.out, show tagV none = .tuple #[tgV Tg.zero, .bool false] from rfl]
    have hz6 := (b6.block _ (by omega)).trans HZ5.out
    have hrz := row_of hz6
    obtain ⟨W7, hW7⟩ : ∃ W7, W7 = w6.setRow (w.heap.size + 1) (tgC Tg.zero) := ⟨_, rfl⟩
    have k7 : W7.heap[w.heap.size + 1]? = some (.cells (tgC Tg.zero) 29) := by rw [hW7]; exact setRow_heap w6 (w.heap.size + 1) (tgC Tg.zero) (tgC Tg.zero) 29 _ hz6
    have hag7 : agg? W7 ⟨w.heap.size + 1, 0, none⟩ 32 = some (tgC Tg.zero) := (agg_of_row k7 0 32 (by decide)).trans (tgC_part _)
    have hrz7 := row_of k7
    have hw77 : W7.setRow (w.heap.size + 1) (tgC Tg.zero) = W7 := setRow_self' _ _ _ k7
    have HB7 : Hid (Below w.heap.size w W7) := hide (by rw [hW7]; exact bsetRow (HB5.out.trans (b6.mono (by omega))) (Nat.le_succ w.heap.size) _)
    have hs7 := hW7.symm
    clear hz6 b6 hW7 k7
    go_wp2_with fail
    exact bodyPost_ret (v := tagV none) (by simp [results, Tryd.results49, go_sem, tagV, hag7]) rfl ⟨by rw [HU.out], HB7.out⟩
  | some p =>
    rw [show openV (some p) = .tuple #[.string (txt p), .bool true] from rfl]
    have HU0 : Hid (revealO key s = tagOf p) := hide (by rw [revealO, hkt, ho])
    have hp63 : (txt p).size ≤ 9223372036854775807 := by
      have h1 := openB_len (key := kt) (s := s) (by rw [ho])
      rw [txt_size]; omega
    clear hkt hn ho b4
    cases hq : tagOf p with
    | none =>
      have HT := hide hq
      have HU : Hid (revealO key s = none) := hide (by rw [HU0.out, hq])
      clear hq
      go_wp2_with ((with_reducible show wpList _ _ _ (Oper.mk (some 17) _ _ _ _ _ :: _) _ _); go_loud (refine at_tobytes (P := Tryd.prog) 9 22 (txt p) rfl Tryd.underlying9 Tryd.underlying22 Tryd.underlying5 hp63 w4.heap.size rfl ?_))
      intro c5 w5 h5 b5 _
      rw [byt_txt] at h5
      have HR5 := hide h5
      have HB5 := hide (HB4.out.trans (b5.mono (by omega)))
      have HZ5 := hide ((b5.block _ (by omega)).trans HZ4.out)
      have hs5 := b5.size
      clear h5 b5
      go_wp2_with fail
      refine (c_tagof _ _ c5 p _ w5 HR5.out).mono ?_
      rintro e w6 ⟨rfl, b6⟩
      rw [HT.out, show tagV none = .tuple #[tgV Tg.zero, .bool false] from rfl]
      have hz6 := (b6.block _ (by omega)).trans HZ5.out
      have hrz := row_of hz6
      obtain ⟨W7, hW7⟩ : ∃ W7, W7 = w6.setRow (w.heap.size + 1) (tgC Tg.zero) := ⟨_, rfl⟩
      have k7 : W7.heap[w.heap.size + 1]? = some (.cells (tgC Tg.zero) 29) := by rw [hW7]; exact setRow_heap w6 (w.heap.size + 1) (tgC Tg.zero) (tgC Tg.zero) 29 _ hz6
      have hag7 : agg? W7 ⟨w.heap.size + 1, 0, none⟩ 32 = some (tgC Tg.zero) := (agg_of_row k7 0 32 (by decide)).trans (tgC_part _)
      have hrz7 := row_of k7
      have hw77 : W7.setRow (w.heap.size + 1) (tgC Tg.zero) = W7 := setRow_self' _ _ _ k7
      have HB7 : Hid (Below w.heap.size w W7) := hide (by rw [hW7]; exact bsetRow (HB5.out.trans (b6.mono (by omega))) (Nat.le_succ w.heap.size) _)
      have hs7 := hW7.symm
      clear hz6 b6 hW7 k7
      go_wp2_with fail
      exact bodyPost_ret (v := tagV none) (by simp [results, Tryd.results49, go_sem, tagV, hag7]) rfl ⟨by rw [HU.out], HB7.out⟩
    | some t =>
      have HT := hide hq
      have HU : Hid (revealO key s = some t) := hide (by rw [HU0.out, hq])
      clear hq
      go_wp2_with ((with_reducible show wpList _ _ _ (Oper.mk (some 17) _ _ _ _ _ :: _) _ _); go_loud (refine at_tobytes (P := Tryd.prog) 9 22 (txt p) rfl Tryd.underlying9 Tryd.underlying22 Tryd.underlying5 hp63 w4.heap.size rfl ?_))
      intro c5 w5 h5 b5 _
      rw [byt_txt] at h5
      have HR5 := hide h5
      have HB5 := hide (HB4.out.trans (b5.mono (by omega)))
      have HZ5 := hide ((b5.block _ (by omega)).trans HZ4.out)
      have hs5 := b5.size
      clear h5 b5
      go_wp2_with fail
      refine (c_tagof _ _ c5 p _ w5 HR5.out).mono ?_
      rintro e w6 ⟨rfl, b6⟩
      rw [HT.out, show tagV (some t) = .tuple #[tgV t, .bool true] from rfl]
      have hz6 := (b6.block _ (by omega)).trans HZ5.out
      have hrz := row_of hz6
      obtain ⟨W7, hW7⟩ : ∃ W7, W7 = w6.setRow (w.heap.size + 1) (tgC t) := ⟨_, rfl⟩
      have k7 : W7.heap[w.heap.size + 1]? = some (.cells (tgC t) 29) := by rw [hW7]; exact setRow_heap w6 (w.heap.size + 1) (tgC Tg.zero) (tgC t) 29 _ hz6
      have hag7 : agg? W7 ⟨w.heap.size + 1, 0, none⟩ 32 = some (tgC t) := (agg_of_row k7 0 32 (by decide)).trans (tgC_part _)
      have hrz7 := row_of k7
      have hw77 : W7.setRow (w.heap.size + 1) (tgC t) = W7 := setRow_self' _ _ _ k7
      have HB7 : Hid (Below w.heap.size w W7) := hide (by rw [hW7]; exact bsetRow (HB5.out.trans (b6.mono (by omega))) (Nat.le_succ w.heap.size) _)
      have hs7 := hW7.symm
      clear hz6 b6 hW7 k7
      go_wp2_with fail
      exact bodyPost_ret (v := tagV (some t)) (by simp [results, Tryd.results49, go_sem, tagV, hag7]) rfl ⟨by rw [HU.out], HB7.out⟩
set_option maxRecDepth 100000 in
set_option maxHeartbeats 800000 in
theorem c_rreveal (key : Tg) (s : List UInt8) (w : World) (hn : s.length < 1000000) :
    Calls Tryd.prog 50 #[tgV key, .string (txt s)] w fun e w' => e = .returned (tagV (revealO key s)) ∧ Below w.heap.size w w' := by
  obtain ⟨kt, hkt⟩ : ∃ kt, dkey key uVault [] = kt := ⟨_, rfl⟩
  have HKT := hide hkt
  have HFL := hide vault_len
  have HL20 : Hid (s.length < 1048576) := hide (by omega)
  have HB2 : Hid (Below w.heap.size w ((w.alloc (.cells (tgC key) 29)).alloc (.cells (tgC Tg.zero) 29))) := hide (below2 _ _ _)
  have HZ2 := hide (heap_alloc_new (w.alloc (.cells (tgC key) 29)) (.cells (tgC Tg.zero) 29))
  go_enter Tryd.func50, Tryd.ntmps50
  go_wp2_with fail
  refine (c_rkey key uVault none 0 0 [] _ _ (Kd.Row.nil kStr (fun _ => True) _ none 0 (Nat.zero_le _)) (by decide) HFL.out).mono ?_
  rintro e w3 ⟨rfl, b3⟩
  rw [HKT.out]
  have HB3 := hide (bnext HB2.out b3)
  have HZ3 := hide ((b3.block _ (by simp only [World.size_alloc]; omega)).trans HZ2.out)
  have hs3 := b3.size
  simp only [World.size_alloc] at hs3
  clear b3 HB2 HZ2
  go_wp2_with fail
  refine (c_ropen kt s w3 HL20.out).mono ?_
  rintro e w4 ⟨rfl, b4⟩
  have HB4 := hide (HB3.out.trans (b4.mono (by omega)))
  have HZ4 : Hid (w4.heap[w.heap.size + 1]? = some (.cells (tgC Tg.zero) 29)) := hide ((b4.block _ (by omega)).trans (by have := HZ3.out; simpa only [World.size_alloc] using this))
  have hs4 : w.heap.size + 2 ≤ w4.heap.size := by have := b4.size; omega
  obtain ⟨o, ho⟩ : ∃ o, openB kt s = o := ⟨_, rfl⟩
  rw [ho]
  cases o with
  | none =>
    have HU : Hid (revealO key s = none) := hide (by rw [revealO, hkt, ho])
    rw [show openV none = .tuple #[.string (txt []), .bool false] from rfl]
    have hrz := row_of HZ4.out
    have hage : agg? (w4.setRow (w.heap.size + 1) (tgC Tg.zero)) ⟨w.heap.size + 1, 0, none⟩ 32 = some (tgC Tg.zero) := (agg_setRow_at _ _ _ _ _ (by rw [hrz]; rfl) (by decide)).trans (tgC_part Tg.zero)
    have HBE := hide (bsetRow HB4.out (Nat.le_succ w.heap.size) (tgC Tg.zero))
    clear hkt hn ho b4
    go_wp2_with fail
    exact bodyPost_ret (v := tagV none) (by simp [results, Tryd.results50, go_sem, tagV, hage]) rfl ⟨by rw [HU.out], HBE.out⟩
  | some p =>
    rw [show openV (some p) = .tuple #[.string (txt p), .bool true] from rfl]
    obtain ⟨L, hL⟩ : ∃ L, L = p.length := ⟨_, rfl⟩
    have hsz : (txt p).size = L := by rw [txt_size, hL]
    by_cases h32 : L = 32
    · subst h32
      obtain ⟨t, ht⟩ : ∃ t : Tg, t.l = p := ⟨⟨p, hL.symm⟩, rfl⟩
      have HTL := hide ht
      have HU : Hid (revealO key s = some t) := hide (by
        rw [revealO, hkt, ho]
        show tagOf p = some t
        subst ht
        rw [tagOf, dif_pos t.len])
      have hp63 : (txt p).size ≤ 9223372036854775807 := by rw [hsz]; decide
      clear hkt hn ho b4 hL ht
      go_wp2_with ((with_reducible show wpList _ _ _ (Oper.mk (some 24) _ _ _ _ _ :: _) _ _); go_loud (refine at_tobytes (P := Tryd.prog) 9 22 (txt p) rfl Tryd.underlying9 Tryd.underlying22 Tryd.underlying5 hp63 w4.heap.size rfl ?_))
      intro c5 w5 h5 b5 _
      rw [byt_txt, hsz, ← HTL.out] at h5
      rw [hsz]
      have HR5 := hide h5
      have HB5 := hide (HB4.out.trans (b5.mono (by omega)))
      have HZ5 := hide ((b5.block _ (by omega)).trans HZ4.out)
      have hs5 := b5.size
      clear h5 b5
      go_wp2_with fail
      refine (c_rtag t _ c5 _ w5 HR5.out).mono ?_
      rintro e w6 ⟨rfl, b6⟩
      have hz6 := (b6.block _ (by omega)).trans HZ5.out
      have hrz := row_of hz6
      have hag6 : agg? (w6.setRow (w.heap.size + 1) (tgC t)) ⟨w.heap.size + 1, 0, none⟩ 32 = some (tgC t) := (agg_setRow_at _ _ _ _ _ (by rw [hrz]; rfl) (by decide)).trans (tgC_part t)
      have HB6 := hide (bsetRow (HB5.out.trans (b6.mono (by omega))) (Nat.le_succ w.heap.size) (tgC t))
      clear hz6 b6
      go_wp2_with fail
      exact bodyPost_ret (v := tagV (some t)) (by simp [results, Tryd.results50, go_sem, tagV, hag6]) rfl ⟨by rw [HU.out], HB6.out⟩
    · have HU : Hid (revealO key s = none) := hide (by rw [revealO, hkt, ho]; exact tagOf_none (by omega))
      clear hL
      have hrz := row_of HZ4.out
      have hage : agg? (w4.setRow (w.heap.size + 1) (tgC Tg.zero)) ⟨w.heap.size + 1, 0, none⟩ 32 = some (tgC Tg.zero) := (agg_setRow_at _ _ _ _ _ (by rw [hrz]; rfl) (by decide)).trans (tgC_part Tg.zero)
      have HBE := hide (bsetRow HB4.out (Nat.le_succ w.heap.size) (tgC Tg.zero))
      clear hkt hn ho b4
      go_wp2_with fail
      exact bodyPost_ret (v := tagV none) (by simp [results, Tryd.results50, go_sem, tagV, hage]) rfl ⟨by rw [HU.out], HBE.out⟩
end Go.Proofs.YtdkeflhgengblaaDoor
namespace Go.Proofs.YtdkeflhgengblaaDoor
open Go.RowKit
attribute [local go_sem ↓] ld8 ld32 ld64 ld73
attribute [local go_sem] run_ldAgg run_storeAgg agg_alloc_at agg_alloc_past agg_drew agg_setCell row_alloc_at row_alloc_past row_drew setRow_alloc_at setRow_alloc_past setRow_drew agg_setRow_at agg_setRow_far cell_setRow_at cell_setRow_far row_setRow_far size_setRow s8C_size s8C_part s8C_one s8C_splice0 s8C_ne dgC_size dgC_72 dgC_part dgC_h dgC_r dgC_splice_h dgC_set dgC_one dgC_splice0 dgC_ne zero_dg
attribute [local go_sem] tgC_size tgC_one tgC_part tgC_splice tgC_splice_any zero_tg tgC_ne
attribute [local go_sem ↓] ld36
attribute [local go_sem] tokC_size tokC_0 tokC_1 tokC_2 tokC_3 tokC_g0 tokC_g1 tokC_g2 tokC_g3 tokC_part tokC_tag tokC_set0 tokC_set1 tokC_set2 tokC_set3 tokC_splice tokC_splice0 zero_tok tokC_all tokC_ne

def abcd : List UInt8 := [97, 98, 99, 100]
def deal0 : Deal := ⟨0, Tg.zero, Tg.zero, abcd, Tg.zero, Tg.zero⟩
set_option maxRecDepth 100000 in
theorem deal_set : Tryd.zeroCells72.setIfInBounds 65 (.string ⟨#[97, 98, 99, 100]⟩) = dealA deal0 := by kernel_rfl
theorem alive_add : tAddE Tok.zero deal0 = 0 ∧ ∃ x : Cav, (tAddR Tok.zero deal0).cavs = [x] ∧ x.third = true ∧ x.id.size = 100 ∧ x.vault.size = 96 := by
  obtain ⟨x, hx⟩ : ∃ x, x = dealCav Tg.zero deal0 := ⟨_, rfl⟩
  have h1 : x.third = true := by rw [hx]; rfl
  have h2 : x.id.size = 100 := by
    rw [hx]
    show (txt (lockB _ _ _ _)).size = 100
    rw [txt_size, lockB, sealB_len, List.length_append, deal0.root.len]
    rfl
  have h3 : x.vault.size = 96 := by
    rw [hx]
    show (txt (hideB _ _ _)).size = 96
    rw [txt_size, hideB, sealB_len, deal0.root.len]
  have h4 : x.text = ByteArray.empty := by rw [hx]; rfl
  have hck : checkT (more1 Tok.zero x) = true := by
    have hc : canC x = true := by
      rw [canC, if_pos h1, h4, h2, h3]
      rfl
    simp only [checkT, more1, Tok.zero, List.nil_append, List.all_cons, List.all_nil, hc, Bool.and_true]
    rfl
  have e1 : tAddR Tok.zero deal0 = addR Tok.zero x := by rw [hx]; exact if_neg (by decide)
  have e2 : tAddE Tok.zero deal0 = addE Tok.zero x := by rw [hx]; exact if_neg (by decide)
  have e3 : addR Tok.zero x = more1 Tok.zero x := (if_neg (by decide)).trans (if_pos hck)
  have e4 : addE Tok.zero x = 0 := (if_neg (by decide)).trans (if_pos hck)
  exact ⟨e2.trans e4, x, by rw [e1, e3]; rfl, h1, h2, h3⟩
set_option maxRecDepth 100000 in
set_option maxHeartbeats 1600000 in
theorem c_thirdalive (w : World) (hP : PrimesAt w) : Calls Tryd.prog 44 #[] w fun e w' => e = .returned (.bool true) ∧ Below w.heap.size w w' := by
  have HP := hide hP
  have hw0 := hP.1
  clear hP
  obtain ⟨hE, x, hx, h1, h2, h3⟩ := alive_add
  obtain ⟨CD, hCD⟩ : ∃ CD, CD = dealA deal0 := ⟨_, rfl⟩
  have hds := deal_set
  rw [← hCD] at hds
  have HCD := hide hCD
  have HE := hide hE
  obtain ⟨Rr, hRr⟩ : ∃ Rr, tAddR Tok.zero deal0 = Rr := ⟨_, rfl⟩
  rw [hRr] at hx
  have HRr := hide hRr
  have HX := hide hx
  clear hCD hE hRr hx
  go_enter Tryd.func44, Tryd.ntmps44
  go_wp2_with fail
  rw [HCD.out]
  refine (c_tadd Tok.zero deal0 none 0 0 (fun _ => True) w (.nil _ _ _ _ _ (Nat.zero_le _)) (by decide) (by decide) (by decide) HP.out).mono ?_
  rintro e w1 ⟨A1, n1, c1, rfl, hr1, b1⟩
  rw [HRr.out] at hr1
  rw [HRr.out, HE.out]
  obtain ⟨C, hC⟩ : ∃ C, C = tokA Rr A1 n1 c1 := ⟨_, rfl⟩
  rw [show tokV Rr A1 n1 c1 = .agg C from by rw [hC]]
  have hzC : C.size = 36 := by rw [hC]; exact tokC_size _ _ _ _ _
  have hoC : oneAll C = true := by rw [hC]; exact tokC_all _ _ _ _ _ _ _ _
  have hspC : splice tokZ 0 C = C := by rw [hC]; exact tokC_splice0 _ _ _ _ _ _ (tokC_size _ _ _ _ _)
  have hg2 : C[2]'(by rw [hzC]; decide) = .slice A1 n1 c1 := by
    have h3 : C[2]? = some (.slice A1 n1 c1) := by rw [hC]; exact tokC_2 _ _ _ _ _
    rw [Array.getElem?_eq_getElem (by rw [hzC]; decide)] at h3
    exact Option.some.inj h3
  rw [HX.out] at hr1
  obtain rfl : n1 = 1 := hr1.1.symm
  obtain ⟨b', q, csx, hix, -, hbl, hK, hra⟩ := (hr1.alloc (.cells C 44)).index (P := Tryd.prog) Tryd.underlying42 (E := 83) cav_size (i := 0) (x := x) rfl
  have hKe := hK.1
  subst hKe
  have a0 := hra 0 _ rfl
  have a3 := hra 3 _ rfl
  have a4 := hra 4 _ rfl
  simp only [Nat.add_zero] at a0
  have hix0 : ∀ wx : World, (Instr.indexAt 42 (.slice A1 1 c1) (.int .i64 0)).run Tryd.prog wx = .ok (.pointer (some ⟨b', q, none⟩)) wx := hix
  rw [h1] at a0
  have HB1 := hide ((b1.alloc b1.size (.cells C 44)))
  clear hix hK hra hC b1 hr1
  go_wp2_with fail
  go_ret
  exact ⟨rfl, HB1.out⟩
theorem unlockV_eq (o : Option (Tg × List UInt8)) : unlockV o = .tuple #[tgV ((o.map (·.1)).getD Tg.zero), .string (txt ((o.map (·.2)).getD [])), .bool o.isSome] := by
  cases o with
  | none => rfl
  | some p => rfl
theorem tagV_eq (o : Option Tg) : tagV o = .tuple #[tgV (o.getD Tg.zero), .bool o.isSome] := by
  cases o <;> rfl
set_option maxRecDepth 100000 in
set_option maxHeartbeats 3200000 in
theorem c_thirdopens (key : Tg) (d : Deal) (s : List UInt8) (w : World) (hm : s.length ≤ maxLen) (hcm : d.cond.length ≤ maxLen) (hP : PrimesAt w) :
    Calls Tryd.prog 9 #[tgV key, .agg (dealA d), .string (txt s)] w fun e w' => e = .returned (.bool true) ∧ Below w.heap.size w w' := by
  have HP0 := hide hP
  have hw0 := hP.1
  clear hP
  obtain ⟨pn, hpn⟩ : ∃ pn, d.party = pn := ⟨_, rfl⟩
  obtain ⟨dk, hdk⟩ : ∃ x, d.key = x := ⟨_, rfl⟩
  obtain ⟨dr, hdr⟩ : ∃ x, d.root = x := ⟨_, rfl⟩
  obtain ⟨cd, hcd⟩ : ∃ x, d.cond = x := ⟨_, rfl⟩
  obtain ⟨da, hda⟩ : ∃ x, d.ask = x := ⟨_, rfl⟩
  obtain ⟨dv, hdv⟩ : ∃ x, d.vault = x := ⟨_, rfl⟩
  obtain ⟨CD, hCD⟩ : ∃ CD, CD = dealC (.int .u64 (pn : Int)) dk dr (.string (txt cd)) da dv := ⟨_, rfl⟩
  have hDA : dealA d = CD := by rw [hCD, ← hpn, ← hdk, ← hdr, ← hcd, ← hda, ← hdv]
  rw [hcd] at hcm
  rw [hDA]
  obtain ⟨L, hL⟩ : ∃ L, cd.length = L := ⟨_, rfl⟩
  obtain ⟨n, hn⟩ : ∃ n, s.length = n := ⟨_, rfl⟩
  have hsz1 : (txt cd).size = L := by rw [txt_size, hL]
  have hsz2 : (txt s).size = n := by rw [txt_size, hn]
  rw [hL] at hcm
  rw [hn] at hm
  simp only [maxLen] at hm hcm
  have hzD : CD.size = 130 := by rw [hCD]; exact dealC_size _ _ _ _ _ _
  have hg65 : CD[65]'(by rw [hzD]; decide) = .string (txt cd) := by
    have h3 : CD[65]? = some (.string (txt cd)) := by rw [hCD]; exact dealC_65 _ _ _ _ _ _
    rw [Array.getElem?_eq_getElem (by rw [hzD]; decide)] at h3
    exact Option.some.inj h3
  have HLL := hide hL
  have HNN := hide hn
  have HCDE := hide hCD
  obtain ⟨W1, hW1⟩ : ∃ W1, W1 = (w.alloc (.cells (tgC key) 29)).alloc (.cells CD 70) := ⟨_, rfl⟩
  have HB1 : Hid (Below w.heap.size w W1) := hide (by rw [hW1]; exact below2 _ _ _)
  have hs1 : W1.heap.size = w.heap.size + 2 := by rw [hW1]; simp only [World.size_alloc]
  have K1 : Hid (W1.heap[w.heap.size]? = some (.cells (tgC key) 29)) := hide (by
    rw [hW1, Below.heap_alloc _ _ _ (by simp only [World.size_alloc]; omega)]; exact heap_alloc_new _ _)
  have D1 : Hid (W1.heap[w.heap.size + 1]? = some (.cells CD 70)) := hide (by rw [hW1]; exact heap_new2 _ _ _)
  have HW1 := hide hW1
  clear hpn hdk hdr hcd hda hdv hCD hDA hL hn hW1
  go_enter Tryd.func9, Tryd.ntmps9
  go_wp2_with fail
  rw [← HW1.out]
  refine (c_thirdalive W1 (HP0.out.ext HB1.out)).mono ?_
  rintro e w2 ⟨rfl, b2⟩
  have hs2 := b2.size
  have K2 := hide ((b2.block _ (by omega)).trans K1.out)
  have D2 := hide ((b2.block _ (by omega)).trans D1.out)
  have HB2 := hide (HB1.out.trans (b2.mono (by omega)))
  have hw2 : w.heap.size + 2 ≤ w2.heap.size := by omega
  have hcc2 : w2.cell? ⟨w.heap.size + 1, 65, none⟩ = some (.string (txt cd)) := (cell_of_row _ _ _ _ _ _ D2.out).trans (by rw [HCDE.out]; exact dealC_65 _ _ _ _ _ _)
  have hag2 : agg? w2 ⟨w.heap.size, 0, none⟩ 32 = some (tgC key) := (agg_of_row K2.out 0 32 (by decide)).trans (tgC_part key)
  clear b2 K1 D1 HB1 HW1
  by_cases h600 : 600 < n
  · go_wp2_with fail
    go_ret
    exact ⟨rfl, HB2.out⟩
  by_cases h300 : 300 < L
  · go_wp2_with fail
    go_ret
    exact ⟨rfl, HB2.out⟩
  have HSL : Hid (s.length < 1000000) := hide (by have := HNN.out; omega)
  have HCL : Hid (cd.length < 1000000) := hide (by have := HLL.out; omega)
  obtain ⟨o1, ho1⟩ : ∃ o, unlockO key s = o := ⟨_, rfl⟩
  obtain ⟨r1, hr1⟩ : ∃ r, (o1.map (·.1)).getD Tg.zero = r := ⟨_, rfl⟩
  obtain ⟨c1, hc1⟩ : ∃ r, (o1.map (·.2)).getD [] = r := ⟨_, rfl⟩
  obtain ⟨k1, hk1⟩ : ∃ r, o1.isSome = r := ⟨_, rfl⟩
  have HU : Hid (unlockV (unlockO key s) = .tuple #[tgV r1, .string (txt c1), .bool k1]) := hide (by rw [ho1, unlockV_eq, hr1, hc1, hk1])
  obtain ⟨o2, ho2⟩ : ∃ o, revealO key s = o := ⟨_, rfl⟩
  obtain ⟨r2, hr2⟩ : ∃ r, o2.getD Tg.zero = r := ⟨_, rfl⟩
  obtain ⟨k2, hk2⟩ : ∃ r, o2.isSome = r := ⟨_, rfl⟩
  have HV : Hid (tagV (revealO key s) = .tuple #[tgV r2, .bool k2]) := hide (by rw [ho2, tagV_eq, hr2, hk2])
  obtain ⟨lk, hlk⟩ : ∃ x, lockB key da dr cd = x := ⟨_, rfl⟩
  obtain ⟨hd, hhd⟩ : ∃ x, hideB key dv dr = x := ⟨_, rfl⟩
  have HLK := hide hlk
  have HHD := hide hhd
  clear ho1 hr1 hc1 hk1 ho2 hr2 hk2 hlk hhd
  go_wp2_with fail
  refine (c_unlock key s w2 HSL.out (HP0.out.ext HB2.out)).mono ?_
  rintro e w3 ⟨rfl, b3⟩
  rw [HU.out]
  have hs3 := b3.size
  have q3 : Below w2.heap.size w2 (w3.alloc (.cells (tgC r1) 29)) := b3.alloc hs3 _
  have K3 := hide ((q3.block _ (by omega)).trans K2.out)
  have D3 := hide ((q3.block _ (by omega)).trans D2.out)
  have G3 := hide (heap_alloc_new w3 (.cells (tgC r1) 29))
  have HB3 := hide (HB2.out.trans (q3.mono (by omega)))
  have hag3 : agg? (w3.alloc (.cells (tgC r1) 29)) ⟨w.heap.size, 0, none⟩ 32 = some (tgC key) := (agg_of_row K3.out 0 32 (by decide)).trans (tgC_part key)
  clear b3 q3 K2 D2 HB2 hag2 hcc2
  go_wp2_with fail
  refine (c_runlock key s _ HSL.out).mono ?_
  rintro e w4 ⟨rfl, b4⟩
  rw [HU.out]
  have hs4 := b4.size
  simp only [World.size_alloc] at hs4
  have q4 : Below (w3.heap.size + 1) (w3.alloc (.cells (tgC r1) 29)) (w4.alloc (.cells (tgC r1) 29)) := by simp only [World.size_alloc] at b4; exact b4.alloc hs4 _
  have K4 := hide ((q4.block _ (by omega)).trans K3.out)
  have D4 := hide ((q4.block _ (by omega)).trans D3.out)
  have G34 := hide ((q4.block _ (by omega)).trans G3.out)
  have G4 := hide (heap_alloc_new w4 (.cells (tgC r1) 29))
  have HB4 := hide (HB3.out.trans (q4.mono (by omega)))
  have hag4 : agg? (w4.alloc (.cells (tgC r1) 29)) ⟨w.heap.size, 0, none⟩ 32 = some (tgC key) := (agg_of_row K4.out 0 32 (by decide)).trans (tgC_part key)
  clear b4 q4 K3 D3 G3 HB3 hag3
  go_wp2_with fail
  refine (c_reveal key s _ HSL.out (HP0.out.ext HB4.out)).mono ?_
  rintro e w5 ⟨rfl, b5⟩
  rw [HV.out]
  have hs5 := b5.size
  simp only [World.size_alloc] at hs5
  have q5 : Below (w4.heap.size + 1) (w4.alloc (.cells (tgC r1) 29)) (w5.alloc (.cells (tgC r2) 29)) := by simp only [World.size_alloc] at b5; exact b5.alloc hs5 _
  have K5 := hide ((q5.block _ (by omega)).trans K4.out)
  have D5 := hide ((q5.block _ (by omega)).trans D4.out)
  have G35 := hide ((q5.block _ (by omega)).trans G34.out)
  have G45 := hide ((q5.block _ (by omega)).trans G4.out)
  have G5 := hide (heap_alloc_new w5 (.cells (tgC r2) 29))
  have HB5 := hide (HB4.out.trans (q5.mono (by omega)))
  have hag5 : agg? (w5.alloc (.cells (tgC r2) 29)) ⟨w.heap.size, 0, none⟩ 32 = some (tgC key) := (agg_of_row K5.out 0 32 (by decide)).trans (tgC_part key)
  clear b5 q5 K4 D4 G34 G4 HB4 hag4
  go_wp2_with fail
  refine (c_rreveal key s _ HSL.out).mono ?_
  rintro e w6 ⟨rfl, b6⟩
  rw [HV.out]
  have hs6 := b6.size
  simp only [World.size_alloc] at hs6
  have q6 : Below (w5.heap.size + 1) (w5.alloc (.cells (tgC r2) 29)) (w6.alloc (.cells (tgC r2) 29)) := by simp only [World.size_alloc] at b6; exact b6.alloc hs6 _
  obtain ⟨W7, hW7⟩ : ∃ W7, W7 = w6.alloc (.cells (tgC r2) 29) := ⟨_, rfl⟩
  obtain ⟨G1, hG1⟩ : ∃ G, G = w3.heap.size := ⟨_, rfl⟩
  obtain ⟨G2, hG2⟩ : ∃ G, G = w4.heap.size := ⟨_, rfl⟩
  obtain ⟨G3, hG3⟩ : ∃ G, G = w5.heap.size := ⟨_, rfl⟩
  obtain ⟨G4, hG4⟩ : ∃ G, G = w6.heap.size := ⟨_, rfl⟩
  have HK : Hid (W7.heap[w.heap.size]? = some (.cells (tgC key) 29)) := hide (by rw [hW7]; exact (q6.block _ (by omega)).trans K5.out)
  have HD : Hid (W7.heap[w.heap.size + 1]? = some (.cells (dealC (.int .u64 (pn : Int)) dk dr (.string (txt cd)) da dv) 70)) := hide (by rw [hW7, ← HCDE.out]; exact (q6.block _ (by omega)).trans D5.out)
  have HG1 : Hid (W7.heap[G1]? = some (.cells (tgC r1) 29)) := hide (by rw [hW7, hG1]; exact (q6.block _ (by omega)).trans G35.out)
  have HG2 : Hid (W7.heap[G2]? = some (.cells (tgC r1) 29)) := hide (by rw [hW7, hG2]; exact (q6.block _ (by omega)).trans G45.out)
  have HG3 : Hid (W7.heap[G3]? = some (.cells (tgC r2) 29)) := hide (by rw [hW7, hG3]; exact (q6.block _ (by omega)).trans G5.out)
  have HG4 : Hid (W7.heap[G4]? = some (.cells (tgC r2) 29)) := hide (by rw [hW7, hG4]; exact heap_alloc_new _ _)
  have HB7 : Hid (Below w.heap.size w W7) := hide (by rw [hW7]; exact HB5.out.trans (q6.mono (by omega)))
  have HP := hide (HP0.out.ext HB7.out)
  have HE1 := hide hG1
  have HE2 := hide hG2
  have HE3 := hide hG3
  have HE4 := hide hG4
  have HE7 := hide hW7
  clear b6 q6 K5 D5 G35 G45 G5 HB5 hag5 hW7 hG1 hG2 hG3 hG4 hg65 hzD
  go_wp2_with fail
  rw [← HE7.out, ← HE1.out, ← HE2.out, ← HE3.out, ← HE4.out]
  clear HE7 HE1 HE2 HE3 HE4 hs1 hs2 hs3 hs4 hs5 hs6
  refine wp_region_ext mixed 57 (fun i v w' => match i with
    | 0 => v = tgV r1
    | 1 => v = tgV r1
    | 2 => v = .bool true
    | 3 => v = .bool true
    | 4 => v = .string (txt c1)
    | 5 => v = .string (txt c1)
    | 6 => v = .bool true
    | 7 => v = .bool true
    | 8 => v = .bool true
    | 9 => v = .bool k1
    | 10 => v = .bool k1
    | 11 => v = .bool true
    | 12 => v = .bool true
    | 13 => v = .bool true
    | 14 => v = tgV r2
    | 15 => v = tgV r2
    | 16 => v = .bool true
    | 17 => v = .bool true
    | 18 => v = .bool true
    | 19 => v = .bool k2
    | 20 => v = .bool k2
    | 21 => v = .bool true
    | 22 => v = .bool true
    | 23 => v = .bool true
    | 24 => v = tgV key
    | 25 => v = .pointer (some ⟨w.heap.size + 1, 66, none⟩)
    | 26 => v = tgV da
    | 27 => v = .pointer (some ⟨w.heap.size + 1, 33, none⟩)
    | 28 => v = tgV dr
    | 29 => v = .pointer (some ⟨w.heap.size + 1, 65, none⟩)
    | 30 => v = .string (txt cd)
    | 31 => v = .string (txt lk)
    | 32 => v = tgV key
    | 33 => v = .pointer (some ⟨w.heap.size + 1, 66, none⟩)
    | 34 => v = tgV da
    | 35 => v = .pointer (some ⟨w.heap.size + 1, 33, none⟩)
    | 36 => v = tgV dr
    | 37 => v = .pointer (some ⟨w.heap.size + 1, 65, none⟩)
    | 38 => v = .string (txt cd)
    | 39 => v = .string (txt lk)
    | 40 => v = .bool true
    | 41 => v = .bool true
    | 42 => v = .bool true
    | 43 => v = tgV key
    | 44 => v = .pointer (some ⟨w.heap.size + 1, 98, none⟩)
    | 45 => v = tgV dv
    | 46 => v = .pointer (some ⟨w.heap.size + 1, 33, none⟩)
    | 47 => v = tgV dr
    | 48 => v = .string (txt hd)
    | 49 => v = tgV key
    | 50 => v = .pointer (some ⟨w.heap.size + 1, 98, none⟩)
    | 51 => v = tgV dv
    | 52 => v = .pointer (some ⟨w.heap.size + 1, 33, none⟩)
    | 53 => v = tgV dr
    | 54 => v = .string (txt hd)
    | 55 => v = .bool true
    | _ => v = .bool true
    ) (regOk_of (by kernel_rfl)) rfl ?_ ?_ ?_
  · intro i v w1 w2 h1 h2
    split at h2 <;> exact h2
  · refine ⟨fun a w2 hle hd hf hs K hK => ?_, fun a w2 hle hd hf hs K hK => ?_, fun a w2 hle hd hf hs K hK => ?_, fun a w2 hle hd hf hs K hK => ?_, fun a w2 hle hd hf hs K hK => ?_, fun a w2 hle hd hf hs K hK => ?_, fun a w2 hle hd hf hs K hK => ?_, fun a w2 hle hd hf hs K hK => ?_, fun a w2 hle hd hf hs K hK => ?_, fun a w2 hle hd hf hs K hK => ?_, fun a w2 hle hd hf hs K hK => ?_, fun a w2 hle hd hf hs K hK => ?_, fun a w2 hle hd hf hs K hK => ?_, fun a w2 hle hd hf hs K hK => ?_, fun a w2 hle hd hf hs K hK => ?_, fun a w2 hle hd hf hs K hK => ?_, fun a w2 hle hd hf hs K hK => ?_, fun a w2 hle hd hf hs K hK => ?_, fun a w2 hle hd hf hs K hK => ?_, fun a w2 hle hd hf hs K hK => ?_, fun a w2 hle hd hf hs K hK => ?_, fun a w2 hle hd hf hs K hK => ?_, fun a w2 hle hd hf hs K hK => ?_, fun a w2 hle hd hf hs K hK => ?_, fun a w2 hle hd hf hs K hK => ?_, fun a w2 hle hd hf hs K hK => ?_, fun a w2 hle hd hf hs K hK => ?_, fun a w2 hle hd hf hs K hK => ?_, fun a w2 hle hd hf hs K hK => ?_, fun a w2 hle hd hf hs K hK => ?_, fun a w2 hle hd hf hs K hK => ?_, fun a w2 hle hd hf hs K hK => ?_, fun a w2 hle hd hf hs K hK => ?_, fun a w2 hle hd hf hs K hK => ?_, fun a w2 hle hd hf hs K hK => ?_, fun a w2 hle hd hf hs K hK => ?_, fun a w2 hle hd hf hs K hK => ?_, fun a w2 hle hd hf hs K hK => ?_, fun a w2 hle hd hf hs K hK => ?_, fun a w2 hle hd hf hs K hK => ?_, fun a w2 hle hd hf hs K hK => ?_, fun a w2 hle hd hf hs K hK => ?_, fun a w2 hle hd hf hs K hK => ?_, fun a w2 hle hd hf hs K hK => ?_, fun a w2 hle hd hf hs K hK => ?_, fun a w2 hle hd hf hs K hK => ?_, fun a w2 hle hd hf hs K hK => ?_, fun a w2 hle hd hf hs K hK => ?_, fun a w2 hle hd hf hs K hK => ?_, fun a w2 hle hd hf hs K hK => ?_, fun a w2 hle hd hf hs K hK => ?_, fun a w2 hle hd hf hs K hK => ?_, fun a w2 hle hd hf hs K hK => ?_, fun a w2 hle hd hf hs K hK => ?_, fun a w2 hle hd hf hs K hK => ?_, fun a w2 hle hd hf hs K hK => ?_, fun a w2 hle hd hf hs K hK => ?_, trivial⟩
    all_goals clear hd
    · -- 54 := Op.load 29 t7
      have e7 := hf 7 rfl; simp [Act.eval] at e7
      have hq : agg? w2 ⟨G1, 0, none⟩ 32 = some (tgC r1) := (agg_of_row (hle.heap HG1.out) 0 32 (by decide)).trans (tgC_part r1)
      go_simp; exact hK _ _ (Ext.refl _) rfl
    · -- 55 := Op.load 29 t10
      have e10 := hf 10 rfl; simp [Act.eval] at e10
      have hq : agg? w2 ⟨G2, 0, none⟩ 32 = some (tgC r1) := (agg_of_row (hle.heap HG2.out) 0 32 (by decide)).trans (tgC_part r1)
      go_simp; exact hK _ _ (Ext.refl _) rfl
    · -- 56 := Op.binOp BinOp.eql 29 t54 t55 29
      have e54 := hs 0 54 (needs_direct (by kernel_rfl)) rfl; have e55 := hs 1 55 (needs_direct (by kernel_rfl)) rfl; simp [Act.eval] at e54 e55
      have hq := tg_in w2 r1 r1
      rw [decide_eq_true rfl] at hq
      go_simp; exact hK _ _ (Ext.refl _) rfl
    · -- 57 := Op.move t56
      have e56 := hs 2 56 (needs_direct (by kernel_rfl)) rfl; simp [Act.eval] at e56
      go_simp; exact hK _ _ (Ext.refl _) rfl
    · -- 58 := Op.move t8
      have e8 := hf 8 rfl; have gg := hs 3 57 (needs_direct (by kernel_rfl)) rfl; simp [Act.eval] at e8 gg; replace gg := opt_bool gg
      go_simp; exact hK _ _ (Ext.refl _) rfl
    · -- 59 := Op.move t11
      have e11 := hf 11 rfl; have gg := hs 3 57 (needs_direct (by kernel_rfl)) rfl; simp [Act.eval] at e11 gg; replace gg := opt_bool gg
      go_simp; exact hK _ _ (Ext.refl _) rfl
    · -- 60 := Op.binOp BinOp.eql 9 t58 t59 9
      have e58 := hs 4 58 (needs_direct (by kernel_rfl)) rfl; have e59 := hs 5 59 (needs_direct (by kernel_rfl)) rfl; have gg := hs 3 57 (needs_direct (by kernel_rfl)) rfl; simp [Act.eval] at e58 e59 gg; replace gg := opt_bool gg
      go_simp; exact hK _ _ (Ext.refl _) rfl
    · -- 61 := Op.pick t57 t60 (const (Value.bool false))
      have e57 := hs 3 57 (needs_direct (by kernel_rfl)) rfl; have e60 := hs 6 60 (needs_direct (by kernel_rfl)) rfl; simp [Act.eval] at e57 e60
      go_simp; exact hK _ _ (Ext.refl _) rfl
    · -- 62 := Op.move t61
      have e61 := hs 7 61 (needs_direct (by kernel_rfl)) rfl; simp [Act.eval] at e61
      go_simp; exact hK _ _ (Ext.refl _) rfl
    · -- 63 := Op.move t9
      have e9 := hf 9 rfl; have gg := hs 8 62 (needs_direct (by kernel_rfl)) rfl; simp [Act.eval] at e9 gg; replace gg := opt_bool gg
      go_simp; exact hK _ _ (Ext.refl _) rfl
    · -- 64 := Op.move t12
      have e12 := hf 12 rfl; have gg := hs 8 62 (needs_direct (by kernel_rfl)) rfl; simp [Act.eval] at e12 gg; replace gg := opt_bool gg
      go_simp; exact hK _ _ (Ext.refl _) rfl
    · -- 65 := Op.binOp BinOp.eql 4 t63 t64 4
      have e63 := hs 9 63 (needs_direct (by kernel_rfl)) rfl; have e64 := hs 10 64 (needs_direct (by kernel_rfl)) rfl; have gg := hs 8 62 (needs_direct (by kernel_rfl)) rfl; simp [Act.eval] at e63 e64 gg; replace gg := opt_bool gg
      go_simp; exact hK _ _ (Ext.refl _) rfl
    · -- 66 := Op.pick t62 t65 (const (Value.bool false))
      have e62 := hs 8 62 (needs_direct (by kernel_rfl)) rfl; have e65 := hs 11 65 (needs_direct (by kernel_rfl)) rfl; simp [Act.eval] at e62 e65
      go_simp; exact hK _ _ (Ext.refl _) rfl
    · -- 67 := Op.move t66
      have e66 := hs 12 66 (needs_direct (by kernel_rfl)) rfl; simp [Act.eval] at e66
      go_simp; exact hK _ _ (Ext.refl _) rfl
    · -- 68 := Op.load 29 t13
      have e13 := hf 13 rfl; have gg := hs 13 67 (needs_direct (by kernel_rfl)) rfl; simp [Act.eval] at e13 gg; replace gg := opt_bool gg
      have hq : agg? w2 ⟨G3, 0, none⟩ 32 = some (tgC r2) := (agg_of_row (hle.heap HG3.out) 0 32 (by decide)).trans (tgC_part r2)
      go_simp; exact hK _ _ (Ext.refl _) rfl
    · -- 69 := Op.load 29 t15
      have e15 := hf 15 rfl; have gg := hs 13 67 (needs_direct (by kernel_rfl)) rfl; simp [Act.eval] at e15 gg; replace gg := opt_bool gg
      have hq : agg? w2 ⟨G4, 0, none⟩ 32 = some (tgC r2) := (agg_of_row (hle.heap HG4.out) 0 32 (by decide)).trans (tgC_part r2)
      go_simp; exact hK _ _ (Ext.refl _) rfl
    · -- 70 := Op.binOp BinOp.eql 29 t68 t69 29
      have e68 := hs 14 68 (needs_direct (by kernel_rfl)) rfl; have e69 := hs 15 69 (needs_direct (by kernel_rfl)) rfl; have gg := hs 13 67 (needs_direct (by kernel_rfl)) rfl; simp [Act.eval] at e68 e69 gg; replace gg := opt_bool gg
      have hq := tg_in w2 r2 r2
      rw [decide_eq_true rfl] at hq
      go_simp; exact hK _ _ (Ext.refl _) rfl
    · -- 71 := Op.pick t67 t70 (const (Value.bool false))
      have e67 := hs 13 67 (needs_direct (by kernel_rfl)) rfl; have e70 := hs 16 70 (needs_direct (by kernel_rfl)) rfl; simp [Act.eval] at e67 e70
      go_simp; exact hK _ _ (Ext.refl _) rfl
    · -- 72 := Op.move t71
      have e71 := hs 17 71 (needs_direct (by kernel_rfl)) rfl; simp [Act.eval] at e71
      go_simp; exact hK _ _ (Ext.refl _) rfl
    · -- 73 := Op.move t14
      have e14 := hf 14 rfl; have gg := hs 18 72 (needs_direct (by kernel_rfl)) rfl; simp [Act.eval] at e14 gg; replace gg := opt_bool gg
      go_simp; exact hK _ _ (Ext.refl _) rfl
    · -- 74 := Op.move t16
      have e16 := hf 16 rfl; have gg := hs 18 72 (needs_direct (by kernel_rfl)) rfl; simp [Act.eval] at e16 gg; replace gg := opt_bool gg
      go_simp; exact hK _ _ (Ext.refl _) rfl
    · -- 75 := Op.binOp BinOp.eql 4 t73 t74 4
      have e73 := hs 19 73 (needs_direct (by kernel_rfl)) rfl; have e74 := hs 20 74 (needs_direct (by kernel_rfl)) rfl; have gg := hs 18 72 (needs_direct (by kernel_rfl)) rfl; simp [Act.eval] at e73 e74 gg; replace gg := opt_bool gg
      go_simp; exact hK _ _ (Ext.refl _) rfl
    · -- 76 := Op.pick t72 t75 (const (Value.bool false))
      have e72 := hs 18 72 (needs_direct (by kernel_rfl)) rfl; have e75 := hs 21 75 (needs_direct (by kernel_rfl)) rfl; simp [Act.eval] at e72 e75
      go_simp; exact hK _ _ (Ext.refl _) rfl
    · -- 77 := Op.move t76
      have e76 := hs 22 76 (needs_direct (by kernel_rfl)) rfl; simp [Act.eval] at e76
      go_simp; exact hK _ _ (Ext.refl _) rfl
    · -- 78 := Op.load 29 t3
      have e3 := hf 3 rfl; have gg := hs 23 77 (needs_direct (by kernel_rfl)) rfl; simp [Act.eval] at e3 gg; replace gg := opt_bool gg
      have hq : agg? w2 ⟨w.heap.size, 0, none⟩ 32 = some (tgC key) := (agg_of_row (hle.heap HK.out) 0 32 (by decide)).trans (tgC_part key)
      go_simp; exact hK _ _ (Ext.refl _) rfl
    · -- 79 := Op.fieldAddr 70 t4 4
      have e4 := hf 4 rfl; have gg := hs 23 77 (needs_direct (by kernel_rfl)) rfl; simp [Act.eval] at e4 gg; replace gg := opt_bool gg
      go_simp; exact hK _ _ (Ext.refl _) rfl
    · -- 80 := Op.load 29 t79
      have e79 := hs 25 79 (needs_direct (by kernel_rfl)) rfl; have gg := hs 23 77 (needs_direct (by kernel_rfl)) rfl; simp [Act.eval] at e79 gg; replace gg := opt_bool gg
      have hq : agg? w2 ⟨w.heap.size + 1, 66, none⟩ 32 = some (tgC da) := (agg_of_row (hle.heap HD.out) 66 32 (by decide)).trans (dealC_ask _ _ _ _ _ _)
      go_simp; exact hK _ _ (Ext.refl _) rfl
    · -- 81 := Op.fieldAddr 70 t4 2
      have e4 := hf 4 rfl; have gg := hs 23 77 (needs_direct (by kernel_rfl)) rfl; simp [Act.eval] at e4 gg; replace gg := opt_bool gg
      go_simp; exact hK _ _ (Ext.refl _) rfl
    · -- 82 := Op.load 29 t81
      have e81 := hs 27 81 (needs_direct (by kernel_rfl)) rfl; have gg := hs 23 77 (needs_direct (by kernel_rfl)) rfl; simp [Act.eval] at e81 gg; replace gg := opt_bool gg
      have hq : agg? w2 ⟨w.heap.size + 1, 33, none⟩ 32 = some (tgC dr) := (agg_of_row (hle.heap HD.out) 33 32 (by decide)).trans (dealC_root _ _ _ _ _ _)
      go_simp; exact hK _ _ (Ext.refl _) rfl
    · -- 83 := Op.fieldAddr 70 t4 3
      have e4 := hf 4 rfl; have gg := hs 23 77 (needs_direct (by kernel_rfl)) rfl; simp [Act.eval] at e4 gg; replace gg := opt_bool gg
      go_simp; exact hK _ _ (Ext.refl _) rfl
    · -- 84 := Op.load 9 t83
      have e83 := hs 29 83 (needs_direct (by kernel_rfl)) rfl; have gg := hs 23 77 (needs_direct (by kernel_rfl)) rfl; simp [Act.eval] at e83 gg; replace gg := opt_bool gg
      have hq : w2.cell? ⟨w.heap.size + 1, 65, none⟩ = some (.string (txt cd)) := (cell_of_row w2 _ _ _ _ _ (hle.heap HD.out)).trans (dealC_65 _ _ _ _ _ _)
      go_simp; exact hK _ _ (Ext.refl _) rfl
    · -- 85 := Op.call { value (Operand.func 51), args := #[t78, t80, t82, t84], argTypes := #[29, 29, 29, 9] }
      have e78 := hs 24 78 (needs_direct (by kernel_rfl)) rfl; have e80 := hs 26 80 (needs_direct (by kernel_rfl)) rfl; have e82 := hs 28 82 (needs_direct (by kernel_rfl)) rfl; have e84 := hs 30 84 (needs_direct (by kernel_rfl)) rfl; have gg := hs 23 77 (needs_direct (by kernel_rfl)) rfl; simp [Act.eval] at e78 e80 e82 e84 gg; replace gg := opt_bool gg
      go_simp
      refine (c_tlock key da dr cd w2 HCL.out (HP.out.ext hle)).mono ?_
      rintro z w9 ⟨rfl, b9⟩
      rw [HLK.out]
      exact hK _ _ b9 rfl
    · -- 86 := Op.load 29 t3
      have e3 := hf 3 rfl; have gg := hs 23 77 (needs_direct (by kernel_rfl)) rfl; simp [Act.eval] at e3 gg; replace gg := opt_bool gg
      have hq : agg? w2 ⟨w.heap.size, 0, none⟩ 32 = some (tgC key) := (agg_of_row (hle.heap HK.out) 0 32 (by decide)).trans (tgC_part key)
      go_simp; exact hK _ _ (Ext.refl _) rfl
    · -- 87 := Op.fieldAddr 70 t4 4
      have e4 := hf 4 rfl; have gg := hs 23 77 (needs_direct (by kernel_rfl)) rfl; simp [Act.eval] at e4 gg; replace gg := opt_bool gg
      go_simp; exact hK _ _ (Ext.refl _) rfl
    · -- 88 := Op.load 29 t87
      have e87 := hs 33 87 (needs_direct (by kernel_rfl)) rfl; have gg := hs 23 77 (needs_direct (by kernel_rfl)) rfl; simp [Act.eval] at e87 gg; replace gg := opt_bool gg
      have hq : agg? w2 ⟨w.heap.size + 1, 66, none⟩ 32 = some (tgC da) := (agg_of_row (hle.heap HD.out) 66 32 (by decide)).trans (dealC_ask _ _ _ _ _ _)
      go_simp; exact hK _ _ (Ext.refl _) rfl
    · -- 89 := Op.fieldAddr 70 t4 2
      have e4 := hf 4 rfl; have gg := hs 23 77 (needs_direct (by kernel_rfl)) rfl; simp [Act.eval] at e4 gg; replace gg := opt_bool gg
      go_simp; exact hK _ _ (Ext.refl _) rfl
    · -- 90 := Op.load 29 t89
      have e89 := hs 35 89 (needs_direct (by kernel_rfl)) rfl; have gg := hs 23 77 (needs_direct (by kernel_rfl)) rfl; simp [Act.eval] at e89 gg; replace gg := opt_bool gg
      have hq : agg? w2 ⟨w.heap.size + 1, 33, none⟩ 32 = some (tgC dr) := (agg_of_row (hle.heap HD.out) 33 32 (by decide)).trans (dealC_root _ _ _ _ _ _)
      go_simp; exact hK _ _ (Ext.refl _) rfl
    · -- 91 := Op.fieldAddr 70 t4 3
      have e4 := hf 4 rfl; have gg := hs 23 77 (needs_direct (by kernel_rfl)) rfl; simp [Act.eval] at e4 gg; replace gg := opt_bool gg
      go_simp; exact hK _ _ (Ext.refl _) rfl
    · -- 92 := Op.load 9 t91
      have e91 := hs 37 91 (needs_direct (by kernel_rfl)) rfl; have gg := hs 23 77 (needs_direct (by kernel_rfl)) rfl; simp [Act.eval] at e91 gg; replace gg := opt_bool gg
      have hq : w2.cell? ⟨w.heap.size + 1, 65, none⟩ = some (.string (txt cd)) := (cell_of_row w2 _ _ _ _ _ (hle.heap HD.out)).trans (dealC_65 _ _ _ _ _ _)
      go_simp; exact hK _ _ (Ext.refl _) rfl
    · -- 93 := Op.call { value (Operand.func 52), args := #[t86, t88, t90, t92], argTypes := #[29, 29, 29, 9] }
      have e86 := hs 32 86 (needs_direct (by kernel_rfl)) rfl; have e88 := hs 34 88 (needs_direct (by kernel_rfl)) rfl; have e90 := hs 36 90 (needs_direct (by kernel_rfl)) rfl; have e92 := hs 38 92 (needs_direct (by kernel_rfl)) rfl; have gg := hs 23 77 (needs_direct (by kernel_rfl)) rfl; simp [Act.eval] at e86 e88 e90 e92 gg; replace gg := opt_bool gg
      go_simp
      refine (c_rlock key da dr cd w2 HCL.out).mono ?_
      rintro z w9 ⟨rfl, b9⟩
      rw [HLK.out]
      exact hK _ _ b9 rfl
    · -- 94 := Op.binOp BinOp.eql 9 t85 t93 9
      have e85 := hs 31 85 (needs_direct (by kernel_rfl)) rfl; have e93 := hs 39 93 (needs_direct (by kernel_rfl)) rfl; have gg := hs 23 77 (needs_direct (by kernel_rfl)) rfl; simp [Act.eval] at e85 e93 gg; replace gg := opt_bool gg
      go_simp; exact hK _ _ (Ext.refl _) rfl
    · -- 95 := Op.pick t77 t94 (const (Value.bool false))
      have e77 := hs 23 77 (needs_direct (by kernel_rfl)) rfl; have e94 := hs 40 94 (needs_direct (by kernel_rfl)) rfl; simp [Act.eval] at e77 e94
      go_simp; exact hK _ _ (Ext.refl _) rfl
    · -- 96 := Op.move t95
      have e95 := hs 41 95 (needs_direct (by kernel_rfl)) rfl; simp [Act.eval] at e95
      go_simp; exact hK _ _ (Ext.refl _) rfl
    · -- 97 := Op.load 29 t3
      have e3 := hf 3 rfl; have gg := hs 42 96 (needs_direct (by kernel_rfl)) rfl; simp [Act.eval] at e3 gg; replace gg := opt_bool gg
      have hq : agg? w2 ⟨w.heap.size, 0, none⟩ 32 = some (tgC key) := (agg_of_row (hle.heap HK.out) 0 32 (by decide)).trans (tgC_part key)
      go_simp; exact hK _ _ (Ext.refl _) rfl
    · -- 98 := Op.fieldAddr 70 t4 5
      have e4 := hf 4 rfl; have gg := hs 42 96 (needs_direct (by kernel_rfl)) rfl; simp [Act.eval] at e4 gg; replace gg := opt_bool gg
      go_simp; exact hK _ _ (Ext.refl _) rfl
    · -- 99 := Op.load 29 t98
      have e98 := hs 44 98 (needs_direct (by kernel_rfl)) rfl; have gg := hs 42 96 (needs_direct (by kernel_rfl)) rfl; simp [Act.eval] at e98 gg; replace gg := opt_bool gg
      have hq : agg? w2 ⟨w.heap.size + 1, 98, none⟩ 32 = some (tgC dv) := (agg_of_row (hle.heap HD.out) 98 32 (by decide)).trans (dealC_vault _ _ _ _ _ _)
      go_simp; exact hK _ _ (Ext.refl _) rfl
    · -- 100 := Op.fieldAddr 70 t4 2
      have e4 := hf 4 rfl; have gg := hs 42 96 (needs_direct (by kernel_rfl)) rfl; simp [Act.eval] at e4 gg; replace gg := opt_bool gg
      go_simp; exact hK _ _ (Ext.refl _) rfl
    · -- 101 := Op.load 29 t100
      have e100 := hs 46 100 (needs_direct (by kernel_rfl)) rfl; have gg := hs 42 96 (needs_direct (by kernel_rfl)) rfl; simp [Act.eval] at e100 gg; replace gg := opt_bool gg
      have hq : agg? w2 ⟨w.heap.size + 1, 33, none⟩ 32 = some (tgC dr) := (agg_of_row (hle.heap HD.out) 33 32 (by decide)).trans (dealC_root _ _ _ _ _ _)
      go_simp; exact hK _ _ (Ext.refl _) rfl
    · -- 102 := Op.call { value (Operand.func 53), args := #[t97, t99, t101], argTypes := #[29, 29, 29] }
      have e97 := hs 43 97 (needs_direct (by kernel_rfl)) rfl; have e99 := hs 45 99 (needs_direct (by kernel_rfl)) rfl; have e101 := hs 47 101 (needs_direct (by kernel_rfl)) rfl; have gg := hs 42 96 (needs_direct (by kernel_rfl)) rfl; simp [Act.eval] at e97 e99 e101 gg; replace gg := opt_bool gg
      go_simp
      refine (c_thide key dv dr w2 (HP.out.ext hle)).mono ?_
      rintro z w9 ⟨rfl, b9⟩
      rw [HHD.out]
      exact hK _ _ b9 rfl
    · -- 103 := Op.load 29 t3
      have e3 := hf 3 rfl; have gg := hs 42 96 (needs_direct (by kernel_rfl)) rfl; simp [Act.eval] at e3 gg; replace gg := opt_bool gg
      have hq : agg? w2 ⟨w.heap.size, 0, none⟩ 32 = some (tgC key) := (agg_of_row (hle.heap HK.out) 0 32 (by decide)).trans (tgC_part key)
      go_simp; exact hK _ _ (Ext.refl _) rfl
    · -- 104 := Op.fieldAddr 70 t4 5
      have e4 := hf 4 rfl; have gg := hs 42 96 (needs_direct (by kernel_rfl)) rfl; simp [Act.eval] at e4 gg; replace gg := opt_bool gg
      go_simp; exact hK _ _ (Ext.refl _) rfl
    · -- 105 := Op.load 29 t104
      have e104 := hs 50 104 (needs_direct (by kernel_rfl)) rfl; have gg := hs 42 96 (needs_direct (by kernel_rfl)) rfl; simp [Act.eval] at e104 gg; replace gg := opt_bool gg
      have hq : agg? w2 ⟨w.heap.size + 1, 98, none⟩ 32 = some (tgC dv) := (agg_of_row (hle.heap HD.out) 98 32 (by decide)).trans (dealC_vault _ _ _ _ _ _)
      go_simp; exact hK _ _ (Ext.refl _) rfl
    · -- 106 := Op.fieldAddr 70 t4 2
      have e4 := hf 4 rfl; have gg := hs 42 96 (needs_direct (by kernel_rfl)) rfl; simp [Act.eval] at e4 gg; replace gg := opt_bool gg
      go_simp; exact hK _ _ (Ext.refl _) rfl
    · -- 107 := Op.load 29 t106
      have e106 := hs 52 106 (needs_direct (by kernel_rfl)) rfl; have gg := hs 42 96 (needs_direct (by kernel_rfl)) rfl; simp [Act.eval] at e106 gg; replace gg := opt_bool gg
      have hq : agg? w2 ⟨w.heap.size + 1, 33, none⟩ 32 = some (tgC dr) := (agg_of_row (hle.heap HD.out) 33 32 (by decide)).trans (dealC_root _ _ _ _ _ _)
      go_simp; exact hK _ _ (Ext.refl _) rfl
    · -- 108 := Op.call { value (Operand.func 54), args := #[t103, t105, t107], argTypes := #[29, 29, 29] }
      have e103 := hs 49 103 (needs_direct (by kernel_rfl)) rfl; have e105 := hs 51 105 (needs_direct (by kernel_rfl)) rfl; have e107 := hs 53 107 (needs_direct (by kernel_rfl)) rfl; have gg := hs 42 96 (needs_direct (by kernel_rfl)) rfl; simp [Act.eval] at e103 e105 e107 gg; replace gg := opt_bool gg
      go_simp
      refine (c_rhide key dv dr w2).mono ?_
      rintro z w9 ⟨rfl, b9⟩
      rw [HHD.out]
      exact hK _ _ b9 rfl
    · -- 109 := Op.binOp BinOp.eql 9 t102 t108 9
      have e102 := hs 48 102 (needs_direct (by kernel_rfl)) rfl; have e108 := hs 54 108 (needs_direct (by kernel_rfl)) rfl; have gg := hs 42 96 (needs_direct (by kernel_rfl)) rfl; simp [Act.eval] at e102 e108 gg; replace gg := opt_bool gg
      go_simp; exact hK _ _ (Ext.refl _) rfl
    · -- 110 := Op.pick t96 t109 (const (Value.bool false))
      have e96 := hs 42 96 (needs_direct (by kernel_rfl)) rfl; have e109 := hs 55 109 (needs_direct (by kernel_rfl)) rfl; simp [Act.eval] at e96 e109
      go_simp; exact hK _ _ (Ext.refl _) rfl
  intro vs w8 hle hs
  have v56 := hs 56 (by omega) rfl
  simp only at v56
  clear hs
  have HB9 := hide (HB7.out.trans (hle.mono HB7.out.size))
  clear hle
  simp only [putN, dstAt]
  go_simp
  go_wp2_with fail
  go_ret
  exact ⟨rfl, HB9.out⟩
end Go.Proofs.YtdkeflhgengblaaDoor
namespace Go.Proofs.YtdkeflhgengblaaDoor
open Go.RowKit
attribute [local go_sem ↓] ld16 ld17 ld32 ld36
attribute [local go_sem] run_ldAgg run_storeAgg agg_alloc_at agg_alloc_past agg_drew agg_setCell row_alloc_at row_alloc_past row_drew setRow_alloc_at setRow_alloc_past setRow_drew agg_setRow_at agg_setRow_far cell_setRow_at cell_setRow_far row_setRow_far size_setRow tgC_size tgC_one tgC_part tgC_splice tokC_size tokC_0 tokC_1 tokC_2 tokC_3 tokC_g0 tokC_g1 tokC_g2 tokC_g3 tokC_part tokC_tag tokC_set0 tokC_set1 tokC_set2 tokC_set3 tokC_splice tokC_splice0 tgC_splice_any zero_tg zero_tok tokC_all tokC_ne tgC_ne
theorem row_party {ok : Nat → Prop} {w : World} {A : Option Addr} {n c : Nat} {xs : List Cav} (h : kCav.Row ok w A n c xs) : ∀ x ∈ xs, x.party < 18446744073709551616 := by
  intro x hx
  obtain ⟨i, hi, rfl⟩ := List.mem_iff_getElem.1 hx
  obtain ⟨b, o, _, _, _, hc⟩ := h.2.2.2 (by have := h.1; omega)
  obtain ⟨cs, hk, _⟩ := hc i _ (List.getElem?_eq_getElem hi)
  exact hk.2.2.1
def gsum (l : List Cav) : Nat := (l.map fun c => c.text.size + c.id.size + c.vault.size + 1).sum
/-- Is a token more than is looked at? -/
def great (t : Tok) : Bool := decide (10000 < t.id.size + gsum t.cavs)
def greatV (b : Bool) : Value := .int .i64 (if b then 1 else 0)
theorem gsum_app (l r : List Cav) : gsum (l ++ r) = gsum l + gsum r := by simp [gsum]
theorem gsum_take (l : List Cav) (k : Nat) : gsum (l.take k) ≤ gsum l := by
  conv => rhs; rw [← List.take_append_drop k l, gsum_app]
  omega
theorem gsum_mem : ∀ (l : List Cav) (c : Cav), c ∈ l → c.text.size + c.id.size + c.vault.size + 1 ≤ gsum l
  | [], c, h => by simp at h
  | x :: r, c, h => by
    have e : gsum (x :: r) = x.text.size + x.id.size + x.vault.size + 1 + gsum r := by simp [gsum]
    rw [e]
    simp only [List.mem_cons] at h
    rcases h with rfl | h
    · omega
    · have := gsum_mem r c h; omega
theorem gsum_len : ∀ (l : List Cav), l.length ≤ gsum l
  | [] => by simp [gsum]
  | x :: r => by
    have e : gsum (x :: r) = x.text.size + x.id.size + x.vault.size + 1 + gsum r := by simp [gsum]
    have := gsum_len r
    rw [e, List.length_cons]
    omega
def Tok.fits (t : Tok) : Prop := t.id.size ≤ 140737488355328 ∧ ∀ c ∈ t.cavs, c.fits
set_option maxRecDepth 100000 in
set_option maxHeartbeats 400000 in
theorem c_great2 (t : Tok) (A : Option Addr) (n c : Nat) (ok : Nat → Prop) (w : World) (hR : kCav.Row ok w A n c t.cavs) (hi : t.id.size ≤ 140737488355328) (hf : ∀ c ∈ t.cavs, c.fits) :
    Calls Tryd.prog 25 #[tokV t A n c] w fun e w' => e = .returned (greatV (great t)) ∧ Below w.heap.size w w' := by
  have HL := hide hR.1
  have hm : n ≤ 9223372036854775807 := Nat.le_trans hR.2.1 hR.2.2.1
  have HR := hide hR
  have HF := hide hf
  clear hR hf
  go_enter Tryd.func25, Tryd.ntmps25
  go_wp2_with fail
  go_loopw [12, 3] (fun i p wr => ∃ (k m : Nat), k ≤ n ∧ i = .int .i64 (k : Int) ∧ p = .int .i64 (m : Int) ∧ Hid (m = t.id.size + gsum (t.cavs.take k)) ∧ Hid (0 < k → m ≤ 10000) ∧ Hid (Below w.heap.size w wr)) (fun i _ _ => n - (intOf i).toNat)
  case atStart => exact ⟨0, t.id.size, Nat.zero_le _, rfl, rfl, hide (by simp [gsum]), hide (fun h => absurd h (by omega)), hide (below1 _ _)⟩
  case round =>
    obtain ⟨k, m, hk, rfl, rfl, HM, HK, HB⟩ := hrel
    have hm47 : m ≤ 140737488355328 := by
      by_cases h0 : 0 < k
      · have := HK.out h0; omega
      · have h1 := HM.out
        have : k = 0 := by omega
        subst this
        simp [gsum] at h1
        omega
    by_cases hlt : k < n
    · obtain ⟨x, hx⟩ : ∃ x, t.cavs[k]? = some x := ⟨_, List.getElem?_eq_getElem (by have := HL.out; omega)⟩
      obtain ⟨b, q, csx, hix, -, hbl, hK, hra⟩ := (HR.out.below HB.out).index (P := Tryd.prog) Tryd.underlying42 (E := 83) cav_size hx
      have hKe := hK.1
      subst hKe
      have a0 := hra 0 _ rfl
      have a1 := hra 1 _ rfl
      have a2 := hra 2 _ rfl
      have a3 := hra 3 _ rfl
      have a4 := hra 4 _ rfl
      simp only [Nat.add_zero] at a0
      have hsb := HB.out.size
      obtain ⟨f1, f2, f3⟩ := HF.out x (List.mem_of_getElem? hx)
      have HM2 : Hid (m + (x.text.size + x.id.size + x.vault.size + 1) = t.id.size + gsum (t.cavs.take (k + 1))) := hide (by
        rw [List.take_add_one, hx, gsum_app, HM.out]
        simp [gsum]
        omega)
      clear hx hK hra
      obtain ⟨m', hm'⟩ : ∃ m', m' = m + (x.text.size + x.id.size + x.vault.size + 1) := ⟨_, rfl⟩
      by_cases hbig : 10000 < m'
      · have HG : Hid (great t = true) := hide (decide_eq_true (by have := HM2.out; have := gsum_take t.cavs (k + 1); omega))
        go_wp2_with fail
        go_ret
        exact ⟨by rw [HG.out]; rfl, HB.out.alloc hsb _⟩
      · go_wp2_with fail
        go_roundw
        case rel =>
          refine ⟨k + 1, m', by omega, by simp, ?_, hide (by rw [hm']; exact HM2.out), hide (fun _ => by omega), hide (HB.out.alloc hsb _)⟩
          congr 1
          omega
        case measure => simp [intOf]; omega
    · obtain rfl : k = n := by omega
      have HM2 : Hid (m = t.id.size + gsum t.cavs) := hide (by rw [HM.out, List.take_of_length_le (Nat.le_of_eq HL.out)])
      by_cases h1 : 10000 < m
      · have HG : Hid (great t = true) := hide (decide_eq_true (by have := HM2.out; omega))
        go_wp2_with fail
        go_ret
        exact ⟨by rw [HG.out]; rfl, HB.out⟩
      · have HG : Hid (great t = false) := hide (decide_eq_false (by have := HM2.out; omega))
        go_wp2_with fail
        go_ret
        exact ⟨by rw [HG.out]; rfl, HB.out⟩

end Go.Proofs.YtdkeflhgengblaaDoor
namespace Go.Proofs.YtdkeflhgengblaaDoor
open Go.RowKit
attribute [local go_sem ↓] ld16 ld17 ld32 ld36
attribute [local go_sem] run_ldAgg run_storeAgg agg_alloc_at agg_alloc_past agg_drew agg_setCell row_alloc_at row_alloc_past row_drew setRow_alloc_at setRow_alloc_past setRow_drew agg_setRow_at agg_setRow_far cell_setRow_at cell_setRow_far row_setRow_far size_setRow tgC_size tgC_one tgC_part tgC_splice tokC_size tokC_0 tokC_1 tokC_2 tokC_3 tokC_g0 tokC_g1 tokC_g2 tokC_g3 tokC_part tokC_tag tokC_set0 tokC_set1 tokC_set2 tokC_set3 tokC_splice tokC_splice0 tgC_splice_any zero_tg zero_tok tokC_all tokC_ne tgC_ne

set_option maxRecDepth 100000 in
set_option maxHeartbeats 1600000 in
theorem c_rsame (t u : Tok) (A B : Option Addr) (n c m d : Nat) (ok ok' : Nat → Prop) (w : World) (hR : kCav.Row ok w A n c t.cavs) (hS : kCav.Row ok' w B m d u.cavs) :
    Calls Tryd.prog 28 #[tokV t A n c, tokV u B m d] w fun e w' => e = .returned (.bool (decide (t = u))) ∧ Below w.heap.size w w' := by
  have HLX := hide hR.1
  have HLY := hide hS.1
  have HR := hide hR
  have HS := hide hS
  have hbx : n ≤ maxLen := Nat.le_trans hR.2.1 hR.2.2.1
  simp only [maxLen] at hbx
  have htag := fun wx => tg_neq wx t.tag u.tag
  clear hR hS
  by_cases h1 : t.key = u.key
  · have h1' : (t.key : Int) = u.key := by rw [h1]
    by_cases h2 : t.id = u.id
    · have h2' := (bytes_inj _ _).2 h2
      by_cases h3 : t.bnd = u.bnd
      · by_cases h4 : t.tag = u.tag
        · rw [decide_eq_true h4] at htag
          have HE : Hid (decide (t = u) = decide (t.cavs = u.cavs)) := hide (by
            rw [Bool.eq_iff_iff]; simp only [decide_eq_true_eq, tok_eq, h1, h2, h3, h4, true_and])
          by_cases hl : n = m
          · subst hl
            clear h1 h2 h4
            go_enter Tryd.func28, Tryd.ntmps28
            go_wp2_with fail
            go_loopw [44] (fun i wr => ∃ k : Nat, k ≤ n ∧ i = .int .i64 (k : Int) ∧ Hid (t.cavs.take k = u.cavs.take k) ∧ Hid (Below w.heap.size w wr) ∧ Hid (wr.cell? ⟨w.heap.size, 2, none⟩ = some (.slice A n c)) ∧ Hid (wr.cell? ⟨w.heap.size + 1, 2, none⟩ = some (.slice B n d))) (fun i _ => n - (intOf i).toNat)
            case atStart => exact ⟨0, Nat.zero_le _, rfl, hide rfl, hide (below2 _ _ _), hide ((cell_of_row _ _ _ _ _ _ ((Below.heap_alloc _ _ _ (by simp)).trans (heap_alloc_new _ _))).trans (tokC_2 _ _ _ _ _)), hide ((cell_of_row _ _ _ _ _ _ (heap_new2 _ _ _)).trans (tokC_2 _ _ _ _ _))⟩
            case round =>
              obtain ⟨k, hk, rfl, HE1, HB, HB2, HB3⟩ := hrel
              have hy0 := HB2.out
              have hy1 := HB3.out
              by_cases hlt : k < n
              · obtain ⟨x, hx⟩ : ∃ x, t.cavs[k]? = some x := ⟨_, List.getElem?_eq_getElem (by have := HLX.out; omega)⟩
                obtain ⟨y, hy⟩ : ∃ y, u.cavs[k]? = some y := ⟨_, List.getElem?_eq_getElem (by have := HLY.out; omega)⟩
                obtain ⟨b1, q1, cs1, hix1, -, hbl1, hK1, hra1⟩ := (HR.out.below HB.out).index (P := Tryd.prog) Tryd.underlying42 (E := 83) cav_size hx
                obtain ⟨b2, q2, cs2, hix2, -, hbl2, hK2, hra2⟩ := (HS.out.below HB.out).index (P := Tryd.prog) Tryd.underlying42 (E := 83) cav_size hy
                have hKe1 := hK1.1
                have hKe2 := hK2.1
                subst hKe1
                subst hKe2
                have a0 := hra1 0 _ rfl
                have a1 := hra1 1 _ rfl
                have a2 := hra1 2 _ rfl
                have a3 := hra1 3 _ rfl
                have a4 := hra1 4 _ rfl
                have b0 := hra2 0 _ rfl
                have b1 := hra2 1 _ rfl
                have b2 := hra2 2 _ rfl
                have b3 := hra2 3 _ rfl
                have b4 := hra2 4 _ rfl
                simp only [Nat.add_zero] at a0 b0
                have HX := hide hx
                have HY := hide hy
                have hne := cav_neq_any x y
                clear hx hy hK1 hK2 hra1 hra2
                by_cases hxy : x = y
                · subst hxy
                  have HE2 : Hid (t.cavs.take (k + 1) = u.cavs.take (k + 1)) := hide (by
                    rw [List.take_add_one, List.take_add_one, HX.out, HY.out, HE1.out])
                  go_wp2_with fail
                  go_region
                  all_goals go_wp2_with fail
                  all_goals go_roundw
                  all_goals first
                    | (case rel => exact ⟨k + 1, by omega, by simp, HE2, hide HB.out.drew, hide HB2.out, hide HB3.out⟩)
                    | (simp [intOf]; omega)
                · have HNE := hide hxy
                  have HF : Hid (decide (t.cavs = u.cavs) = false) := hide (decide_eq_false fun e => by
                    have h1 := HX.out
                    rw [e, HY.out] at h1
                    exact HNE.out (Option.some.inj h1).symm)
                  rw [decide_eq_false hxy] at hne
                  clear hxy
                  go_wp2_with fail
                  go_region
                  all_goals go_wp2_with fail
                  all_goals go_ret
                  all_goals exact ⟨by rw [HE.out, HF.out]; rfl, HB.out.drew⟩
              · obtain rfl : k = n := by omega
                have HF : Hid (decide (t.cavs = u.cavs) = true) := hide (decide_eq_true (by
                  have := HE1.out
                  rwa [List.take_of_length_le (Nat.le_of_eq HLX.out), List.take_of_length_le (Nat.le_of_eq HLY.out)] at this))
                go_wp2_with fail
                go_ret
                exact ⟨by rw [HE.out, HF.out]; rfl, HB.out⟩
          · have HF : Hid (decide (t = u) = false) := hide (decide_eq_false fun e => hl (by rw [← HLX.out, ← HLY.out, e]))
            clear h1 h2 h4
            go_enter Tryd.func28, Tryd.ntmps28
            go_wp2_with fail
            go_ret
            exact ⟨by rw [HF.out]; rfl, below2 _ _ _⟩
        · have HE : Hid (decide (t = u) = false) := hide (decide_eq_false fun e => h4 (by rw [e]))
          rw [decide_eq_false h4] at htag
          clear h1 h2 h4
          go_enter Tryd.func28, Tryd.ntmps28
          go_wp2_with fail
          go_ret
          exact ⟨by rw [HE.out]; rfl, below2 _ _ _⟩
      · have HE : Hid (decide (t = u) = false) := hide (decide_eq_false fun e => h3 (by rw [e]))
        clear h1 h2
        go_enter Tryd.func28, Tryd.ntmps28
        go_wp2_with fail
        go_ret
        exact ⟨by rw [HE.out]; rfl, below2 _ _ _⟩
    · have HE : Hid (decide (t = u) = false) := hide (decide_eq_false fun e => h2 (by rw [e]))
      have h2' : ¬ t.id.toList = u.id.toList := fun e => h2 ((bytes_inj _ _).1 e)
      clear h1 h2
      go_enter Tryd.func28, Tryd.ntmps28
      go_wp2_with fail
      go_ret
      exact ⟨by rw [HE.out]; rfl, below2 _ _ _⟩
  · have HE : Hid (decide (t = u) = false) := hide (decide_eq_false fun e => h1 (by rw [e]))
    have h1' : ¬ (t.key : Int) = u.key := fun e => h1 (by omega)
    clear h1
    go_enter Tryd.func28, Tryd.ntmps28
    go_wp2_with fail
    go_ret
    exact ⟨by rw [HE.out]; rfl, below2 _ _ _⟩
end Go.Proofs.YtdkeflhgengblaaDoor
namespace Go.Proofs.YtdkeflhgengblaaDoor
open Go.RowKit
attribute [local go_sem ↓] ld8 ld32 ld64 ld73
attribute [local go_sem] run_ldAgg run_storeAgg agg_alloc_at agg_alloc_past agg_drew agg_setCell row_alloc_at row_alloc_past row_drew setRow_alloc_at setRow_alloc_past setRow_drew agg_setRow_at agg_setRow_far cell_setRow_at cell_setRow_far row_setRow_far size_setRow s8C_size s8C_part s8C_one s8C_splice0 s8C_ne dgC_size dgC_72 dgC_part dgC_h dgC_r dgC_splice_h dgC_set dgC_one dgC_splice0 dgC_ne zero_dg
attribute [local go_sem] tgC_size tgC_one tgC_part tgC_splice tgC_splice_any zero_tg tgC_ne
attribute [local go_sem ↓] ld36
attribute [local go_sem] tokC_size tokC_0 tokC_1 tokC_2 tokC_3 tokC_g0 tokC_g1 tokC_g2 tokC_g3 tokC_part tokC_tag tokC_set0 tokC_set1 tokC_set2 tokC_set3 tokC_splice tokC_splice0 zero_tok tokC_all tokC_ne

attribute [local go_sem ↓] ld130
set_option maxRecDepth 100000 in
set_option maxHeartbeats 3200000 in
theorem c_thirdadds (t : Tok) (d : Deal) (A : Option Addr) (n c : Nat) (ok : Nat → Prop) (w : World) (hR : kCav.Row ok w A n c t.cavs) (hi : t.id.size ≤ 140737488355328) (hf : ∀ c ∈ t.cavs, c.fits) (hcm : d.cond.length ≤ maxLen) (hp : d.party < 18446744073709551616) (hP : PrimesAt w) :
    Calls Tryd.prog 8 #[tokV t A n c, .agg (dealA d)] w fun e w' => e = .returned (.bool true) ∧ Below w.heap.size w w' := by
  have hw0 := hP.1
  have HP0 := hide hP
  have HR0 := hide (hR.bound.more (ok' := fun j => j < w.heap.size) fun j hj => hj.2)
  have HI := hide hi
  have HFT := hide hf
  have HPD := hide hp
  obtain ⟨CT, hCT⟩ : ∃ CT, CT = tokA t A n c := ⟨_, rfl⟩
  have HTV : Hid (Value.agg CT = tokV t A n c) := hide (by rw [hCT])
  have hzT : CT.size = 36 := by rw [hCT]; exact tokC_size _ _ _ _ _
  have hoT : oneAll CT = true := by rw [hCT]; exact tokC_all _ _ _ _ _ _ _ _
  obtain ⟨CD, hCD⟩ : ∃ CD, CD = dealA d := ⟨_, rfl⟩
  have hzD : CD.size = 130 := by rw [hCD]; exact dealC_size _ _ _ _ _ _
  have hg65 : CD[65]'(by rw [hzD]; decide) = .string (txt d.cond) := by
    have h3 : CD[65]? = some (.string (txt d.cond)) := by rw [hCD]; exact dealC_65 _ _ _ _ _ _
    rw [Array.getElem?_eq_getElem (by rw [hzD]; decide)] at h3
    exact Option.some.inj h3
  obtain ⟨L, hL⟩ : ∃ L, d.cond.length = L := ⟨_, rfl⟩
  have hsz : (txt d.cond).size = L := by rw [txt_size, hL]
  rw [hL] at hcm
  simp only [maxLen] at hcm
  have HLL := hide hL
  obtain ⟨W1, hW1⟩ : ∃ W1, W1 = (w.alloc (.cells CT 44)).alloc (.cells CD 70) := ⟨_, rfl⟩
  have HB1 : Hid (Below w.heap.size w W1) := hide (by rw [hW1]; exact below2 _ _ _)
  have hs1 : W1.heap.size = w.heap.size + 2 := by rw [hW1]; simp only [World.size_alloc]
  have K1 : Hid (W1.heap[w.heap.size]? = some (.cells CT 44)) := hide (by
    rw [hW1, Below.heap_alloc _ _ _ (by simp only [World.size_alloc]; omega)]; exact heap_alloc_new _ _)
  have D1 : Hid (W1.heap[w.heap.size + 1]? = some (.cells CD 70)) := hide (by rw [hW1]; exact heap_new2 _ _ _)
  have HCT := hide hCT
  have HCD := hide hCD
  have HDV : Hid (Value.agg CD = .agg (dealA d)) := hide (by rw [hCD])
  rw [← HTV.out, ← HDV.out]
  clear hP hR hi hf hp hCT hCD hL
  go_enter Tryd.func8, Tryd.ntmps8
  go_wp2_with fail
  rw [← hW1]
  clear hW1
  refine (c_thirdalive W1 (HP0.out.ext HB1.out)).mono ?_
  rintro e w2 ⟨rfl, b2⟩
  have hs2 := b2.size
  have K2 := hide ((b2.block _ (by omega)).trans K1.out)
  have D2 := hide ((b2.block _ (by omega)).trans D1.out)
  have HB2 := hide (HB1.out.trans (b2.mono (by omega)))
  have hw2 : w.heap.size + 2 ≤ w2.heap.size := by omega
  have hagT : agg? w2 ⟨w.heap.size, 0, none⟩ 36 = some CT := (agg_of_row K2.out 0 36 (by decide)).trans (by rw [HCT.out]; exact tokC_part _ _ _ _ _)
  clear b2 K1 D1 HB1
  go_wp2_with fail
  rw [HTV.out]
  refine (c_great2 t A n c _ w2 (HR0.out.belowB HB2.out) HI.out HFT.out).mono ?_
  rintro e w3 ⟨rfl, b3⟩
  have hs3 := b3.size
  have K3 := hide ((b3.block _ (by omega)).trans K2.out)
  have D3 := hide ((b3.block _ (by omega)).trans D2.out)
  have HB3 := hide (HB2.out.trans (b3.mono (by omega)))
  have hsw3 : w.heap.size + 2 ≤ w3.heap.size := by omega
  have hcc3 : w3.cell? ⟨w.heap.size + 1, 65, none⟩ = some (.string (txt d.cond)) := (cell_of_row _ _ _ _ _ _ D3.out).trans (by rw [HCD.out]; exact dealC_65 _ _ _ _ _ _)
  clear b3 K2 D2 HB2 hagT
  by_cases hg : great t = true
  · rw [hg, show greatV true = .int .i64 1 from rfl]
    go_wp2_with fail
    go_ret
    exact ⟨rfl, HB3.out⟩
  rw [Bool.eq_false_iff.2 hg, show greatV false = .int .i64 0 from rfl]
  by_cases h6 : 600 < L
  · go_wp2_with fail
    go_ret
    exact ⟨rfl, HB3.out⟩
  have HN : Hid (n ≤ 1000000) := hide (by
    have h1 : ¬ (10000 < t.id.size + gsum t.cavs) := fun h => hg (decide_eq_true h)
    have h2 := gsum_len t.cavs
    have h3 := HR0.out.1
    omega)
  have HC6 : Hid (d.cond.length ≤ 600) := hide (by have := HLL.out; omega)
  have HP3 := hide (HP0.out.ext HB3.out)
  have HR3 := hide (HR0.out.belowB HB3.out)
  have hagT : agg? w3 ⟨w.heap.size, 0, none⟩ 36 = some CT := (agg_of_row K3.out 0 36 (by decide)).trans (by rw [HCT.out]; exact tokC_part _ _ _ _ _)
  have hagD : agg? w3 ⟨w.heap.size + 1, 0, none⟩ 130 = some CD := (agg_of_row D3.out 0 130 (by decide)).trans (by rw [HCD.out]; exact dealA_part d)
  obtain ⟨X, hX⟩ : ∃ X, tAddR t d = X := ⟨_, rfl⟩
  obtain ⟨e0, he0⟩ : ∃ e0, tAddE t d = e0 := ⟨_, rfl⟩
  have HXX := hide hX
  have HEE := hide he0
  clear hg hX he0
  go_wp2_with fail
  rw [HTV.out, HDV.out]
  refine (c_tadd t d A n c _ w3 HR3.out HN.out HC6.out HPD.out HP3.out).mono ?_
  rintro e w4 ⟨A1, n1, c1, rfl, hr1, b4⟩
  rw [HXX.out] at hr1
  rw [HXX.out, HEE.out]
  obtain ⟨CX1, hCX1⟩ : ∃ CX1, CX1 = tokA X A1 n1 c1 := ⟨_, rfl⟩
  have HV1 : Hid (Value.agg CX1 = tokV X A1 n1 c1) := hide (by rw [hCX1])
  rw [← HV1.out]
  have hs4 := b4.size
  have b41 : Below w3.heap.size w3 (w4.alloc (.cells CX1 44)) := b4.alloc hs4 _
  have K4 := hide ((b41.block _ (by omega)).trans K3.out)
  have D4 := hide ((b41.block _ (by omega)).trans D3.out)
  have HX4 := hide (heap_alloc_new w4 (.cells CX1 44))
  have HB4 := hide (HB3.out.trans (b41.mono (by omega)))
  have HR1 := hide ((hr1.more (ok' := fun _ => True) fun _ _ => trivial).alloc (.cells CX1 44))
  have hz1 : CX1.size = 36 := by rw [hCX1]; exact tokC_size _ _ _ _ _
  have ho1 : oneAll CX1 = true := by rw [hCX1]; exact tokC_all _ _ _ _ _ _ _ _
  have hsp1 : splice tokZ 0 CX1 = CX1 := by rw [hCX1]; exact tokC_splice0 _ _ _ _ _ _ (tokC_size _ _ _ _ _)
  have hagT4 : agg? (w4.alloc (.cells CX1 44)) ⟨w.heap.size, 0, none⟩ 36 = some CT := (agg_of_row K4.out 0 36 (by decide)).trans (by rw [HCT.out]; exact tokC_part _ _ _ _ _)
  have hagD4 : agg? (w4.alloc (.cells CX1 44)) ⟨w.heap.size + 1, 0, none⟩ 130 = some CD := (agg_of_row D4.out 0 130 (by decide)).trans (by rw [HCD.out]; exact dealA_part d)
  have HR4 := hide (HR0.out.belowB HB4.out)
  have HCX1 := hide hCX1
  clear b4 b41 hr1 K3 D3 HB3 HP3 HR3 hagT hagD hCX1
  go_wp2_with fail
  rw [HTV.out, HDV.out]
  refine (c_r20add t d A n c _ _ HR4.out HC6.out HPD.out).mono ?_
  rintro e w5 ⟨A2, n2, c2, rfl, hr2, b5⟩
  rw [HXX.out] at hr2
  rw [HXX.out, HEE.out]
  obtain ⟨CX2, hCX2⟩ : ∃ CX2, CX2 = tokA X A2 n2 c2 := ⟨_, rfl⟩
  have HV2 : Hid (Value.agg CX2 = tokV X A2 n2 c2) := hide (by rw [hCX2])
  rw [← HV2.out]
  have hs5 := b5.size
  simp only [World.size_alloc] at hs5
  have b56 : Below (w4.heap.size + 1) (w4.alloc (.cells CX1 44)) (w5.alloc (.cells CX2 44)) := by simp only [World.size_alloc] at b5; exact b5.alloc hs5 _
  have HR1' := hide (HR1.out.below (w' := w5.alloc (.cells CX2 44)) (by rw [World.size_alloc]; exact b56))
  have HR2 : Hid (kCav.Row (fun _ => True) (w5.alloc (.cells CX2 44)) A2 n2 c2 X.cavs) := hide ((hr2.more fun _ _ => trivial).alloc _)
  have HB6 := hide (HB4.out.trans (b56.mono (by omega)))
  have hz2 : CX2.size = 36 := by rw [hCX2]; exact tokC_size _ _ _ _ _
  have ho2 : oneAll CX2 = true := by rw [hCX2]; exact tokC_all _ _ _ _ _ _ _ _
  have hsp2 : splice tokZ 0 CX2 = CX2 := by rw [hCX2]; exact tokC_splice0 _ _ _ _ _ _ (tokC_size _ _ _ _ _)
  have hagX1 : agg? (w5.alloc (.cells CX2 44)) ⟨w4.heap.size, 0, none⟩ 36 = some CX1 := (agg_of_row ((b56.block _ (by omega)).trans HX4.out) 0 36 (by decide)).trans (by rw [HCX1.out]; exact tokC_part _ _ _ _ _)
  have hagX2 : agg? (w5.alloc (.cells CX2 44)) ⟨w5.heap.size, 0, none⟩ 36 = some CX2 := (agg_of_row (heap_alloc_new _ _) 0 36 (by decide)).trans (by rw [hCX2]; exact tokC_part _ _ _ _ _)
  clear b5 b56 hr2 hagT4 hagD4 K4 D4 HX4 HB4 HR1 HR4 hCX2
  go_wp2_with fail
  rw [HV1.out, HV2.out]
  refine (c_rsame X X A1 A2 n1 c1 n2 c2 _ _ _ HR1'.out HR2.out).mono ?_
  rintro e w7 ⟨rfl, b7⟩
  rw [decide_eq_true rfl]
  have HB7 := hide (HB6.out.trans (b7.mono (by simp only [World.size_alloc]; omega)))
  clear b7
  go_wp2_with fail
  go_ret
  exact ⟨rfl, HB7.out⟩
end Go.Proofs.YtdkeflhgengblaaDoor
namespace Go.Proofs.YtdkeflhgengblaaDoor
open Go.ChangeShapes Go.WideShapes Go.ChangeAt Go.RowKit
theorem len5 {cs : List Value} (h : cs.length = 5) : ∃ a b c d e, cs = [a, b, c, d, e] := by
  match cs, h with
  | [a, b, c, d, e], _ => exact ⟨a, b, c, d, e, rfl⟩
theorem open_cav {H : Type} {enc : TypeId × Value → H} {w : World} {spare : Nat → Bool} {held : Bool} (n : Nat) (cs : List Value) (x : DataW H × List MemPlace) (h : DataW.trod enc Tryd.prog w 0 spare held n 83 cs = some x) :
    ∃ y, kCav.K (· < w.heap.size) w y cs := by
  obtain ⟨xs, m, rfl, -, hl, hx, hf⟩ := DataW.trod_struct Tryd.underlying83 h
  have c5 : Tryd.prog.cellsOf 83 = 5 := by kernel_rfl
  rw [c5] at hl
  obtain ⟨v0, v1, v2, v3, v4, rfl⟩ := len5 hl
  have hxs : xs.length = 5 := hx
  have c9 : Tryd.prog.cellsOf 9 = 1 := by kernel_rfl
  have c4 : Tryd.prog.cellsOf 4 = 1 := by kernel_rfl
  have c39 : Tryd.prog.cellsOf 41 = 1 := by kernel_rfl
  have h0 := hf 0 _ rfl
  have h1 := hf 1 _ rfl
  have h2 := hf 2 _ rfl
  have h3 := hf 3 _ rfl
  have h4 := hf 4 _ rfl
  rw [List.getElem?_eq_getElem (by omega)] at h0 h1 h2 h3 h4
  obtain ⟨b, e0, -⟩ := DataW.trod_bool Tryd.underlying4 h0
  obtain ⟨s1, e1, -, hs1⟩ := DataW.trod_string Tryd.underlying9 h1
  obtain ⟨k, e2, -, hk⟩ := DataW.trod_int Tryd.underlying41 h2
  obtain ⟨s3, e3, -, hs3⟩ := DataW.trod_string Tryd.underlying9 h3
  obtain ⟨s4, e4, -, hs4⟩ := DataW.trod_string Tryd.underlying9 h4
  simp [c4] at e0
  simp [c9] at e1 e3 e4
  simp [c39] at e2
  subst e0 e1 e2 e3 e4
  simp [Lit.wf, IntKind.min, IntKind.max, IntKind.signed, IntKind.bits] at hk
  obtain ⟨m, rfl⟩ : ∃ m : Nat, k = m := ⟨k.toNat, by omega⟩
  exact ⟨⟨b, s1, m, s3, s4⟩, rfl, hs1, by show m < _; omega, hs3, hs4⟩
theorem split4 {cs : List Value} (h : 4 ≤ cs.length) : ∃ a b c d r, cs = a :: b :: c :: d :: r := by
  match cs, h with
  | a :: b :: c :: d :: r, _ => exact ⟨a, b, c, d, r, rfl⟩
theorem open_tok {H : Type} {enc : TypeId × Value → H} {w : World} {spare : Nat → Bool} {held : Bool} (n : Nat) (cs : List Value) (x : DataW H × List MemPlace) (h : DataW.trod enc Tryd.prog w 0 spare held n 44 cs = some x) :
    ∃ (t : Tok) (A : Option Addr) (l c : Nat), cs = (tokC (.int .u64 (t.key : Int)) (.string t.id) (.slice A l c) (.bool t.bnd) t.tag).toList ∧ kCav.Row (· < w.heap.size) w A l c t.cavs ∧ t.key < 18446744073709551616 ∧ t.id.size ≤ maxLen := by
  obtain ⟨xs, m, rfl, -, hl, hx, hf⟩ := DataW.trod_struct Tryd.underlying44 h
  have c36 : Tryd.prog.cellsOf 44 = 36 := by kernel_rfl
  rw [c36] at hl
  have hxs : xs.length = 5 := hx
  have c9 : Tryd.prog.cellsOf 9 = 1 := by kernel_rfl
  have c4 : Tryd.prog.cellsOf 4 = 1 := by kernel_rfl
  have c39 : Tryd.prog.cellsOf 41 = 1 := by kernel_rfl
  have c57 : Tryd.prog.cellsOf 42 = 1 := by kernel_rfl
  have c32 : Tryd.prog.cellsOf 29 = 32 := by kernel_rfl
  have h0 := hf 0 _ rfl
  have h1 := hf 1 _ rfl
  have h2 := hf 2 _ rfl
  have h3 := hf 3 _ rfl
  have h4 := hf 4 _ rfl
  rw [List.getElem?_eq_getElem (by omega)] at h0 h1 h2 h3 h4
  obtain ⟨k, e0, -, hk⟩ := DataW.trod_int Tryd.underlying41 h0
  obtain ⟨s1, e1, -, hs1⟩ := DataW.trod_string Tryd.underlying9 h1
  obtain ⟨A, l, c, cv, e2, hr⟩ := trod_row (d := kCav) Tryd.underlying42 (by kernel_rfl) (by decide) open_cav h2
  obtain ⟨b, e3, -⟩ := DataW.trod_bool Tryd.underlying4 h3
  obtain ⟨tg, e4⟩ := open_tag _ _ _ h4
  simp [Lit.wf, IntKind.min, IntKind.max, IntKind.signed, IntKind.bits] at hk
  obtain ⟨m, rfl⟩ : ∃ m : Nat, k = m := ⟨k.toNat, by omega⟩
  refine ⟨⟨m, s1, cv, b, tg⟩, A, l, c, ?_, hr, by show m < _; omega, hs1⟩
  obtain ⟨a0, a1, a2, a3, r, rfl⟩ := split4 (cs := cs) (by omega)
  have hlr : r.length = 32 := by simpa using hl
  simp [c39] at e0
  simp [c9] at e1
  simp [c57] at e2
  simp [c4] at e3
  have e4' : r = (tgC tg).toList := by
    rw [← e4]
    simp [c32]
    rw [List.take_of_length_le (Nat.le_of_eq hlr)]
  subst e0 e1 e2 e3 e4'
  simp [tokC]
theorem row_cavs {ok : Nat → Prop} {w : World} {A : Option Addr} {n c : Nat} {xs : List Cav} (h : kCav.Row ok w A n c xs) : ∀ x ∈ xs, x.party < 18446744073709551616 := by
  intro x hx
  obtain ⟨i, hi, rfl⟩ := List.mem_iff_getElem.1 hx
  obtain ⟨b, o, _, _, _, hc⟩ := h.2.2.2 (by have := h.1; omega)
  obtain ⟨cs, hk, _⟩ := hc i _ (List.getElem?_eq_getElem hi)
  exact hk.2.2.1
end Go.Proofs.YtdkeflhgengblaaDoor
namespace Go.Proofs.YtdkeflhgengblaaDoor
open Go.ChangeShapes Go.WideShapes Go.ChangeAt Go.RowKit

def inReach {H : Type} (d : DataW H) (t : TypeId) : Prop := (d.weights Tryd.prog t).all (· ≤ reachBytes) = true
theorem each_part {H : Type} : ∀ {ts : List TypeId} {ds : List (DataW H)} {j : Nat} {t : TypeId} {d : DataW H}, (DataW.weightsEach Tryd.prog ts ds).all (· ≤ reachBytes) = true → ts[j]? = some t → ds[j]? = some d → inReach d t := by
  intro ts ds j t d h ht hd
  unfold inReach
  rw [List.all_eq_true] at h ⊢
  intro n hn
  exact h n (DataW.weights_mem_each ht hd n hn)
theorem all_mem {H : Type} : ∀ {e : TypeId} {ds : List (DataW H)} {d : DataW H}, (DataW.weightsAll Tryd.prog e ds).all (· ≤ reachBytes) = true → d ∈ ds → inReach d e
  | e, [], d, _, hd => by simp at hd
  | e, x :: r, d, h, hd => by
    simp only [DataW.weightsAll, List.all_append, Bool.and_eq_true] at h
    simp only [List.mem_cons] at hd
    rcases hd with rfl | hd
    · exact h.1
    · exact all_mem h.2 hd
theorem reach_str {H : Type} {s : ByteArray} {t : TypeId} (h : inReach (H := H) (.lit (.string s.data.toList)) t) : s.size ≤ 140737488355328 := by
  unfold inReach at h
  simp only [DataW.weights, List.all_cons, List.all_nil, Bool.and_true, decide_eq_true_eq] at h
  have e : s.data.toList.length = s.size := by rw [Array.length_toList]; rfl
  have := reachBytes_lt
  omega
theorem reach_struct {H : Type} {t : TypeId} {fs : Array Field} {parts : List (DataW H)} (hu : Tryd.prog.underlying t = some (.struct fs)) (h : inReach (.agg parts) t) : (DataW.weightsEach Tryd.prog (fs.toList.map (·.type)) parts).all (· ≤ reachBytes) = true := by
  unfold inReach at h
  simpa [DataW.weights, hu] using h
theorem reach_slice {H : Type} {t e : TypeId} {el sp : List (DataW H)} (hu : Tryd.prog.underlying t = some (.slice e)) (h : inReach (.slice el sp) t) : (DataW.weightsAll Tryd.prog e el).all (· ≤ reachBytes) = true := by
  unfold inReach at h
  simp only [DataW.weights, hu, List.all_cons, List.all_append, Bool.and_eq_true] at h
  exact h.2.1
variable {H : Type} {enc : TypeId × Value → H} {w : World} {spare : Nat → Bool} {held : Bool}
/-- As 'trod_row', of elements of which more is known. -/
theorem trod_row_s {α : Type} {d : Kd α} {Q : α → Prop} {t e : TypeId} {fuel : Nat} {cs : List Value} {x : DataW H × List MemPlace} (hT : Tryd.prog.underlying t = some (.slice e)) (hsz : Tryd.prog.cellsOf e = d.sz) (h0 : 0 < d.sz)
    (hel : ∀ n cs x, DataW.trod enc Tryd.prog w 0 spare held n e cs = some x → inReach x.1 e → ∃ y, d.K (· < w.heap.size) w y cs ∧ Q y) (h : DataW.trod enc Tryd.prog w 0 spare held fuel t cs = some x) (hw : inReach x.1 t) :
    ∃ A n c xs, cs = [.slice A n c] ∧ d.Row (· < w.heap.size) w A n c xs ∧ ∀ y ∈ xs, Q y := by
  rcases Go.Deep.open_slice hT h with ⟨rfl, _⟩ | ⟨a, len, cap, m, n, D, Pl, rfl, _, hl, hm, hmm, rfl, hi⟩
  · exact ⟨_, _, _, [], rfl, .nil _ _ _ _ _ (Nat.zero_le _), by simp⟩
  · have hlm : len ≤ m := by rw [hmm]; split <;> omega
    have hE := reach_slice hT hw
    rcases Nat.eq_zero_or_pos len with hz | hpos
    · subst hz
      exact ⟨_, _, _, [], rfl, .nil _ _ _ _ _ hm, by simp⟩
    have hc0 : ∀ i, i < len → ∃ y, ∃ cs', Tryd.prog.cellsOf e = cs'.length ∧ w.cells? 0 (a.add (i * Tryd.prog.cellsOf e)) (Tryd.prog.cellsOf e) = some cs' ∧ d.K (· < w.heap.size) w y cs' ∧ Q y := fun i hil => by
      obtain ⟨cs', hcs, htr⟩ := hi i (by omega)
      obtain ⟨y, hy, hq⟩ := hel _ _ _ htr (all_mem hE (List.mem_map.2 ⟨i, by simpa using hil, rfl⟩))
      obtain ⟨_, hcl, _⟩ := World.cells?_some hcs
      exact ⟨y, cs', hcl.symm, hcs, hy, hq⟩
    have hsp : a.spot = none ∧ a.block < w.heap.size := by
      obtain ⟨y, cs', hcl0, hcs, hy, _⟩ := hc0 0 hpos
      obtain ⟨_, hcl, hat⟩ := World.cells?_some hcs
      have hp : 0 < cs'.length := by rw [hcl, hsz]; exact h0
      have hg : w.cell? a = some (cs'[0]'(by omega)) := by
        have := (hat 0 (by omega)).trans (List.getElem?_eq_getElem (by omega))
        simpa [Addr.add] using this
      exact ⟨World.cell?_spot hg, World.block_lt_of_cell? w _ hg⟩
    obtain ⟨b, o, sp⟩ := a
    obtain ⟨rfl, hlt⟩ := hsp
    have hc : ∀ i, i < len → ∃ y, ∃ cs, (d.K (· < w.heap.size) w y cs ∧ w.rangeAt b (o + i * d.sz) cs) ∧ Q y := fun i hil => by
      obtain ⟨y, cs', _, hcs, hy, hq⟩ := hc0 i hil
      obtain ⟨_, hcl, hat⟩ := World.cells?_some hcs
      rw [hsz] at hcl hat
      refine ⟨y, cs', ⟨hy, fun j v hv => ?_⟩, hq⟩
      have := hat j (by rw [← hcl]; exact (List.getElem?_eq_some_iff.1 hv).1)
      rw [hv, Addr.add_none, Addr.add_none] at this
      exact this
    obtain ⟨xs, hxl, hx⟩ := list_of len hc
    exact ⟨_, _, _, xs, rfl, ⟨hxl, hl, hm, fun hn => ⟨b, o, rfl, hlt, hlt, fun i x hix => let ⟨cs, hq, _⟩ := hx i x hix; ⟨cs, hq⟩⟩⟩, fun y hy => by
      obtain ⟨i, hi', rfl⟩ := List.mem_iff_getElem.1 hy
      obtain ⟨cs, _, hq⟩ := hx i _ (List.getElem?_eq_getElem hi')
      exact hq⟩
theorem str_open_s (n : Nat) (cs : List Value) (x : DataW H × List MemPlace) (h : DataW.trod enc Tryd.prog w 0 spare held n 9 cs = some x) (hw : inReach x.1 9) :
    ∃ y : ByteArray, kStr.K (· < w.heap.size) w y cs ∧ y.size ≤ 140737488355328 := by
  obtain ⟨s, rfl, e, hm⟩ := DataW.trod_string Tryd.underlying9 h
  rw [e] at hw
  exact ⟨s, ⟨rfl, hm⟩, reach_str hw⟩
end Go.Proofs.YtdkeflhgengblaaDoor
