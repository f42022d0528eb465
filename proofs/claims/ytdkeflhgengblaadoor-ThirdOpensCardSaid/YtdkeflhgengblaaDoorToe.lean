/- The statement ThirdOpens, for every input, and its tied card. No condition. -/
import Derived.Test.YtdkeflhgengblaaDoorTod
import Derived.Test.YtdkeflhgengblaaDoorToa
import Derived.SizedLaws
import Derived.Test.YtdkeflhgengblaaDoorTob
import Derived.Test.YtdkeflhgengblaaDoorRows
import Derived.Test.YtdkeflhgengblaaDoorTie
import Derived.Test.YtdkeflhgengblaaDoorCards
import Derived.SevenTiedAt
namespace Go.Proofs.YtdkeflhgengblaaDoor
open Go.RowKit
attribute [local go_sem ↓] ld8 ld32 ld64 ld73
attribute [local go_sem] run_ldAgg run_storeAgg agg_alloc_at agg_alloc_past agg_drew agg_setCell row_alloc_at row_alloc_past row_drew setRow_alloc_at setRow_alloc_past setRow_drew agg_setRow_at agg_setRow_far cell_setRow_at cell_setRow_far row_setRow_far size_setRow s8C_size s8C_part s8C_one s8C_splice0 s8C_ne dgC_size dgC_72 dgC_part dgC_h dgC_r dgC_splice_h dgC_set dgC_one dgC_splice0 dgC_ne zero_dg
attribute [local go_sem] tgC_size tgC_one tgC_part tgC_splice tgC_splice_any zero_tg tgC_ne
attribute [local go_sem ↓] ld36
attribute [local go_sem] tokC_size tokC_0 tokC_1 tokC_2 tokC_3 tokC_g0 tokC_g1 tokC_g2 tokC_g3 tokC_part tokC_tag tokC_set0 tokC_set1 tokC_set2 tokC_set3 tokC_splice tokC_splice0 zero_tok tokC_all tokC_ne

/-- A deal's caveat; a token with it, and the error's number. -/
def dealCav (tag : Tg) (d : Deal) : Cav := ⟨true, ByteArray.empty, d.party, txt (lockB d.key d.ask d.root d.cond), txt (hideB tag d.vault d.root)⟩
def tAddR (t : Tok) (d : Deal) : Tok := if 512 < d.cond.length ∧ t.bnd = false then Tok.zero else addR t (dealCav t.tag d)
def tAddE (t : Tok) (d : Deal) : Int := if 512 < d.cond.length ∧ t.bnd = false then 1 else addE t (dealCav t.tag d)
set_option maxRecDepth 100000 in
set_option maxHeartbeats 1600000 in
theorem c_tadd (t : Tok) (d : Deal) (A : Option Addr) (n c : Nat) (ok : Nat → Prop) (w : World) (hR : kCav.Row ok w A n c t.cavs) (hn : n ≤ 1000000) (hc : d.cond.length ≤ 600) (hp : d.party < 18446744073709551616) (hP : PrimesAt w) :
    Calls Tryd.prog 45 #[tokV t A n c, .agg (dealA d)] w fun e w' => ∃ A' n' c', e = .returned (.tuple #[tokV (tAddR t d) A' n' c', .int .i64 (tAddE t d)]) ∧ kCav.Row (fun _ => True) w' A' n' c' (tAddR t d).cavs ∧ Below w.heap.size w w' := by
  have hw0 := hP.1
  have HR := hide (hR.bound.more (ok' := fun j => j < w.heap.size) fun j hj => hj.2)
  have HN := hide hn
  obtain ⟨CT, hCT⟩ : ∃ CT, CT = tokA t A n c := ⟨_, rfl⟩
  have HTV : Hid (Value.agg CT = tokV t A n c) := hide (by rw [hCT])
  have hzT : CT.size = 36 := by rw [hCT]; exact tokC_size _ _ _ _ _
  obtain ⟨pn, hpn⟩ : ∃ pn, d.party = pn := ⟨_, rfl⟩
  obtain ⟨dk, hdk⟩ : ∃ x, d.key = x := ⟨_, rfl⟩
  obtain ⟨dr, hdr⟩ : ∃ x, d.root = x := ⟨_, rfl⟩
  obtain ⟨cd, hcd⟩ : ∃ x, d.cond = x := ⟨_, rfl⟩
  obtain ⟨da, hda⟩ : ∃ x, d.ask = x := ⟨_, rfl⟩
  obtain ⟨dv, hdv⟩ : ∃ x, d.vault = x := ⟨_, rfl⟩
  obtain ⟨lk, hlk⟩ : ∃ lk, lockB dk da dr cd = lk := ⟨_, rfl⟩
  obtain ⟨hd, hhd⟩ : ∃ hd, hideB t.tag dv dr = hd := ⟨_, rfl⟩
  have hDC : dealCav t.tag d = ⟨true, ByteArray.empty, pn, txt lk, txt hd⟩ := by rw [dealCav, hpn, hdk, hdr, hcd, hda, hdv, hlk, hhd]
  obtain ⟨CD, hCD⟩ : ∃ CD, CD = dealC (.int .u64 (pn : Int)) dk dr (.string (txt cd)) da dv := ⟨_, rfl⟩
  have hDA : dealA d = CD := by rw [hCD, ← hpn, ← hdk, ← hdr, ← hcd, ← hda, ← hdv]
  obtain ⟨L, hL⟩ : ∃ L, cd.length = L := ⟨_, rfl⟩
  have hsz : (txt cd).size = L := by rw [txt_size, hL]
  rw [hcd, hL] at hc
  have hLT : tAddR t d = if 512 < L ∧ t.bnd = false then Tok.zero else addR t ⟨true, ByteArray.empty, pn, txt lk, txt hd⟩ := by rw [tAddR, hcd, hL, hDC]
  have hLE : tAddE t d = if 512 < L ∧ t.bnd = false then 1 else addE t ⟨true, ByteArray.empty, pn, txt lk, txt hd⟩ := by rw [tAddE, hcd, hL, hDC]
  have HX : Hid (Cav.small ⟨true, ByteArray.empty, pn, txt lk, txt hd⟩) := hide (by
    refine ⟨Nat.zero_le _, by rw [← hpn]; exact hp, ?_, ?_⟩
    · show (txt lk).size ≤ _
      rw [txt_size, ← hlk, lockB, sealB_len, List.length_append, dr.len, hL]; omega
    · show (txt hd).size ≤ _
      rw [txt_size, ← hhd, hideB, sealB_len, dr.len]; decide)
  obtain ⟨W3, hW3⟩ : ∃ W3, W3 = ((w.alloc (.cells CT 44)).alloc (.cells CD 72)).alloc (.cells tokZ 44) := ⟨_, rfl⟩
  obtain ⟨g0, g1, g2⟩ := heap3g w CT CD tokZ 44 72 44
  have hcc : (((w.alloc (.cells CT 44)).alloc (.cells CD 72)).alloc (.cells tokZ 44)).cell? ⟨w.heap.size + 1, 65, none⟩ = some (.string (txt cd)) := (cell_of_row _ _ _ _ _ _ g1).trans (by rw [hCD]; exact dealC_65 _ _ _ _ _ _)
  have hcb : (((w.alloc (.cells CT 44)).alloc (.cells CD 72)).alloc (.cells tokZ 44)).cell? ⟨w.heap.size, 3, none⟩ = some (.bool t.bnd) := (cell_of_row _ _ _ _ _ _ g0).trans (by rw [hCT]; exact tokC_3 _ _ _ _ _)
  have hzD : CD.size = 130 := by rw [hCD]; exact dealC_size _ _ _ _ _ _
  have hg65 : CD[65]'(by rw [hzD]; decide) = .string (txt cd) := by
    have h3 : CD[65]? = some (.string (txt cd)) := by rw [hCD]; exact dealC_65 _ _ _ _ _ _
    rw [Array.getElem?_eq_getElem (by rw [hzD]; decide)] at h3
    exact Option.some.inj h3
  have hg3 : CT[3]'(by rw [hzT]; decide) = .bool t.bnd := by
    have h3 : CT[3]? = some (.bool t.bnd) := by rw [hCT]; exact tokC_3 _ _ _ _ _
    rw [Array.getElem?_eq_getElem (by rw [hzT]; decide)] at h3
    exact Option.some.inj h3
  rw [← hW3] at g0 g1 g2
  have hs3 : W3.heap.size = w.heap.size + 3 := by rw [hW3]; simp only [World.size_alloc]
  have HB3 : Hid (Below w.heap.size w W3) := hide (by rw [hW3]; exact below3 _ _ _ _)
  have HP3 := hide (hP.ext HB3.out)
  have G2 := hide g2
  have HG0 : Hid (∀ w2, W3.grownBy w2 (some (w.heap.size + 2)) → w2.heap[w.heap.size]? = some (.cells (tokA t A n c) 44)) := hide (fun w2 h => (h.block _ (by omega) (fun e => by have := Option.some.inj e; omega)).trans (by rw [g0, hCT]))
  have HG1 : Hid (∀ w2, W3.grownBy w2 (some (w.heap.size + 2)) → w2.heap[w.heap.size + 1]? = some (.cells (dealC (.int .u64 (pn : Int)) dk dr (.string (txt cd)) da dv) 72)) := hide (fun w2 h => (h.block _ (by omega) (fun e => by have := Option.some.inj e; omega)).trans (by rw [g1, hCD]))
  have HRT := hide (HR.out.belowB HB3.out)
  have HCD : Hid (cd.length < 1000000) := hide (by omega)
  have HLK := hide hlk
  have HHD := hide hhd
  have HW3 := hide hW3
  rw [← HTV.out, hDA]
  clear g0 g1 g2 hCT hCD hW3 hpn hdk hdr hcd hda hdv hlk hhd hDC hDA hR hP hp hn HR hL
  by_cases hbig : 512 < L ∧ t.bnd = false
  · have HA1 : Hid (tAddR t d = Tok.zero) := hide (by rw [hLT, if_pos hbig])
    have HA2 : Hid (tAddE t d = 1) := hide (by rw [hLE, if_pos hbig])
    obtain ⟨h5, hb⟩ := hbig
    rw [hb] at hcb hg3
    clear hLT hLE hb
    go_enter Tryd.func45, Tryd.ntmps45
    go_wp2_with fail
    exact bodyPost_ret (v := .tuple #[.agg tokZ, .int .i64 1]) (by simp [results, Tryd.results45, go_sem]) rfl ⟨none, 0, 0, by rw [HA1.out, HA2.out]; rfl, by rw [HA1.out]; exact .nil _ _ _ _ _ (Nat.zero_le _), below3 _ _ _ _⟩
  · obtain ⟨R, hRr⟩ : ∃ R, addR t ⟨true, ByteArray.empty, pn, txt lk, txt hd⟩ = R := ⟨_, rfl⟩
    obtain ⟨E0, hEe⟩ : ∃ E0, addE t ⟨true, ByteArray.empty, pn, txt lk, txt hd⟩ = E0 := ⟨_, rfl⟩
    have HRR := hide hRr
    have HEE := hide hEe
    have HA1 : Hid (tAddR t d = R) := hide (by rw [hLT, if_neg hbig, hRr])
    have HA2 : Hid (tAddE t d = E0) := hide (by rw [hLE, if_neg hbig, hEe])
    have hor : ¬ 512 < L ∨ t.bnd = true := by
      by_cases h : 512 < L
      · exact .inr (by cases hb : t.bnd; exact absurd ⟨h, hb⟩ hbig; rfl)
      · exact .inl h
    clear hLT hLE hRr hEe hbig
    go_enter Tryd.func45, Tryd.ntmps45
    have hstop : True := trivial
    rcases hor with h5 | hb
    · go_wp2_with fail
      rw [HTV.out, ← HW3.out]
      clear HW3 hcc hcb hg65 hg3
      refine wp_region_st mixed 25 (some (w.heap.size + 2)) 23 (fun w' => w'.heap[w.heap.size + 2]? = some (.cells tokZ 44)) (fun i v w' => match i with
        | 0 => v = tokV t A n c
        | 1 => v = .pointer (some ⟨w.heap.size + 1, 0, none⟩)
        | 2 => v = .int .u64 (pn : Int)
        | 3 => v = .pointer (some ⟨w.heap.size + 1, 1, none⟩)
        | 4 => v = tgV dk
        | 5 => v = .pointer (some ⟨w.heap.size + 1, 66, none⟩)
        | 6 => v = tgV da
        | 7 => v = .pointer (some ⟨w.heap.size + 1, 33, none⟩)
        | 8 => v = tgV dr
        | 9 => v = .pointer (some ⟨w.heap.size + 1, 65, none⟩)
        | 10 => v = .string (txt cd)
        | 11 => v = .string (txt lk)
        | 12 => v = .pointer (some ⟨w.heap.size, 4, none⟩)
        | 13 => v = tgV t.tag
        | 14 => v = .pointer (some ⟨w.heap.size + 1, 98, none⟩)
        | 15 => v = tgV dv
        | 16 => v = .pointer (some ⟨w.heap.size + 1, 33, none⟩)
        | 17 => v = tgV dr
        | 18 => v = .string (txt hd)
        | 19 => v = .agg #[.bool true, .string ⟨#[]⟩, .int .u64 (pn : Int), .string (txt lk), .string (txt hd)]
        | 20 => ∃ A' n' c', v = .tuple #[tokV R A' n' c', .int .i64 E0] ∧ kCav.Row (fun j => j ≠ w.heap.size + 2) w' A' n' c' R.cavs
        | 21 => ∃ A' n' c', v = tokV R A' n' c' ∧ kCav.Row (fun j => j ≠ w.heap.size + 2) w' A' n' c' R.cavs
        | 22 => v = .int .i64 E0
        | 23 => ∃ A' n' c', w'.heap[w.heap.size + 2]? = some (.cells (tokA R A' n' c') 44) ∧ kCav.Row (fun j => j ≠ w.heap.size + 2) w' A' n' c' R.cavs
        | _ => v = .int .i64 E0
        ) (regOk_of (by kernel_rfl)) rfl ?_ ?_ ?_ ?_ (fun w' => ∃ A' n' c', w'.heap[w.heap.size + 2]? = some (.cells (tokA R A' n' c') 44) ∧ kCav.Row (fun j => j ≠ w.heap.size + 2) w' A' n' c' R.cavs) ?_ (fun _ _ h => h) (by decide) ?_ ?_
      · exact G2.out
      · intro w1 w2 h1 h2
        exact (h1.block _ (Array.getElem?_eq_some_iff.1 h2).1).trans h2
      · intro i v w1 w2 hne h1 h2
        split at h2 <;> first | exact h2 | exact absurd rfl hne | (obtain ⟨A', n', c', e, hr⟩ := h2; exact ⟨A', n', c', e, hr.keep fun j hj hlt => h1.block j hlt (fun e' => hj (Option.some.inj e'))⟩)
      · intro v w1 w2 h1 h2
        obtain ⟨A', n', c', e, hr⟩ := h2; exact ⟨A', n', c', (h1.block _ (Array.getElem?_eq_some_iff.1 e).1).trans e, hr.below h1⟩
      · intro w1 w2 h1 h2
        exact by obtain ⟨A', n', c', e, hr⟩ := h2; exact ⟨A', n', c', (h1.block _ (Array.getElem?_eq_some_iff.1 e).1).trans e, hr.below h1⟩
      · refine ⟨fun a w2 hle hd hf hs hT K hK => ?_, fun a w2 hle hd hf hs hT K hK => ?_, fun a w2 hle hd hf hs hT K hK => ?_, fun a w2 hle hd hf hs hT K hK => ?_, fun a w2 hle hd hf hs hT K hK => ?_, fun a w2 hle hd hf hs hT K hK => ?_, fun a w2 hle hd hf hs hT K hK => ?_, fun a w2 hle hd hf hs hT K hK => ?_, fun a w2 hle hd hf hs hT K hK => ?_, fun a w2 hle hd hf hs hT K hK => ?_, fun a w2 hle hd hf hs hT K hK => ?_, fun a w2 hle hd hf hs hT K hK => ?_, fun a w2 hle hd hf hs hT K hK => ?_, fun a w2 hle hd hf hs hT K hK => ?_, fun a w2 hle hd hf hs hT K hK => ?_, fun a w2 hle hd hf hs hT K hK => ?_, fun a w2 hle hd hf hs hT K hK => ?_, fun a w2 hle hd hf hs hT K hK => ?_, fun a w2 hle hd hf hs hT K hK => ?_, fun a w2 hle hd hf hs hT K hK => ?_, fun a w2 hle hd hf hs hT K hK => ?_, fun a w2 hle hd hf hs hT K hK => ?_, fun a w2 hle hd hf hs hT K hK => ?_, fun a w2 hle hd hf hs hT K hK => ?_, fun a w2 hle hd hf hs hT K hK => ?_, trivial⟩
        all_goals clear hd
        · -- 16 := Op.load 44 t2
          have e2 := hf 2 rfl; simp [Act.eval] at e2
          have hq : agg? w2 ⟨w.heap.size, 0, none⟩ 36 = some (tokA t A n c) := (agg_of_row (HG0.out w2 hle) 0 36 (by decide)).trans (tokC_part _ _ _ _ _)
          go_simp; exact hK _ _ (.inl (Ext.refl _)) rfl
        · -- 17 := Op.fieldAddr 72 t3 0
          have e3 := hf 3 rfl; simp [Act.eval] at e3
          go_simp; exact hK _ _ (.inl (Ext.refl _)) rfl
        · -- 18 := Op.load 41 t17
          have e17 := hs 1 17 (needs_direct (by kernel_rfl)) rfl; simp [Act.eval] at e17
          have hq : w2.cell? ⟨w.heap.size + 1, 0, none⟩ = some (.int .u64 (pn : Int)) := (cell_of_row w2 _ _ _ _ _ (HG1.out w2 hle)).trans (dealC_0 _ _ _ _ _ _)
          go_simp; exact hK _ _ (.inl (Ext.refl _)) rfl
        · -- 19 := Op.fieldAddr 72 t3 1
          have e3 := hf 3 rfl; simp [Act.eval] at e3
          go_simp; exact hK _ _ (.inl (Ext.refl _)) rfl
        · -- 20 := Op.load 29 t19
          have e19 := hs 3 19 (needs_direct (by kernel_rfl)) rfl; simp [Act.eval] at e19
          have hq : agg? w2 ⟨w.heap.size + 1, 1, none⟩ 32 = some (tgC dk) := (agg_of_row (HG1.out w2 hle) 1 32 (by decide)).trans (dealC_key _ _ _ _ _ _)
          go_simp; exact hK _ _ (.inl (Ext.refl _)) rfl
        · -- 21 := Op.fieldAddr 72 t3 4
          have e3 := hf 3 rfl; simp [Act.eval] at e3
          go_simp; exact hK _ _ (.inl (Ext.refl _)) rfl
        · -- 22 := Op.load 29 t21
          have e21 := hs 5 21 (needs_direct (by kernel_rfl)) rfl; simp [Act.eval] at e21
          have hq : agg? w2 ⟨w.heap.size + 1, 66, none⟩ 32 = some (tgC da) := (agg_of_row (HG1.out w2 hle) 66 32 (by decide)).trans (dealC_ask _ _ _ _ _ _)
          go_simp; exact hK _ _ (.inl (Ext.refl _)) rfl
        · -- 23 := Op.fieldAddr 72 t3 2
          have e3 := hf 3 rfl; simp [Act.eval] at e3
          go_simp; exact hK _ _ (.inl (Ext.refl _)) rfl
        · -- 24 := Op.load 29 t23
          have e23 := hs 7 23 (needs_direct (by kernel_rfl)) rfl; simp [Act.eval] at e23
          have hq : agg? w2 ⟨w.heap.size + 1, 33, none⟩ 32 = some (tgC dr) := (agg_of_row (HG1.out w2 hle) 33 32 (by decide)).trans (dealC_root _ _ _ _ _ _)
          go_simp; exact hK _ _ (.inl (Ext.refl _)) rfl
        · -- 25 := Op.fieldAddr 72 t3 3
          have e3 := hf 3 rfl; simp [Act.eval] at e3
          go_simp; exact hK _ _ (.inl (Ext.refl _)) rfl
        · -- 26 := Op.load 9 t25
          have e25 := hs 9 25 (needs_direct (by kernel_rfl)) rfl; simp [Act.eval] at e25
          have hq : w2.cell? ⟨w.heap.size + 1, 65, none⟩ = some (.string (txt cd)) := (cell_of_row w2 _ _ _ _ _ (HG1.out w2 hle)).trans (dealC_65 _ _ _ _ _ _)
          go_simp; exact hK _ _ (.inl (Ext.refl _)) rfl
        · -- 27 := Op.call { value (Operand.func 51), args := #[t20, t22, t24, t26], argTypes := #[29, 29, 29, 9] }
          have e20 := hs 4 20 (needs_direct (by kernel_rfl)) rfl; have e22 := hs 6 22 (needs_direct (by kernel_rfl)) rfl; have e24 := hs 8 24 (needs_direct (by kernel_rfl)) rfl; have e26 := hs 10 26 (needs_direct (by kernel_rfl)) rfl; simp [Act.eval] at e20 e22 e24 e26
          go_simp
          refine (c_tlock dk da dr cd w2 HCD.out (HP3.out.grown hle (by omega))).mono ?_
          rintro z w9 ⟨rfl, b9⟩
          rw [HLK.out]
          exact hK _ _ (.inl b9) rfl
        · -- 28 := Op.fieldAddr 44 t2 4
          have e2 := hf 2 rfl; simp [Act.eval] at e2
          go_simp; exact hK _ _ (.inl (Ext.refl _)) rfl
        · -- 29 := Op.load 29 t28
          have e28 := hs 12 28 (needs_direct (by kernel_rfl)) rfl; simp [Act.eval] at e28
          have hq : agg? w2 ⟨w.heap.size, 4, none⟩ 32 = some (tgC t.tag) := (agg_of_row (HG0.out w2 hle) 4 32 (by decide)).trans (tokC_tag _ _ _ _ _)
          go_simp; exact hK _ _ (.inl (Ext.refl _)) rfl
        · -- 30 := Op.fieldAddr 72 t3 5
          have e3 := hf 3 rfl; simp [Act.eval] at e3
          go_simp; exact hK _ _ (.inl (Ext.refl _)) rfl
        · -- 31 := Op.load 29 t30
          have e30 := hs 14 30 (needs_direct (by kernel_rfl)) rfl; simp [Act.eval] at e30
          have hq : agg? w2 ⟨w.heap.size + 1, 98, none⟩ 32 = some (tgC dv) := (agg_of_row (HG1.out w2 hle) 98 32 (by decide)).trans (dealC_vault _ _ _ _ _ _)
          go_simp; exact hK _ _ (.inl (Ext.refl _)) rfl
        · -- 32 := Op.fieldAddr 72 t3 2
          have e3 := hf 3 rfl; simp [Act.eval] at e3
          go_simp; exact hK _ _ (.inl (Ext.refl _)) rfl
        · -- 33 := Op.load 29 t32
          have e32 := hs 16 32 (needs_direct (by kernel_rfl)) rfl; simp [Act.eval] at e32
          have hq : agg? w2 ⟨w.heap.size + 1, 33, none⟩ 32 = some (tgC dr) := (agg_of_row (HG1.out w2 hle) 33 32 (by decide)).trans (dealC_root _ _ _ _ _ _)
          go_simp; exact hK _ _ (.inl (Ext.refl _)) rfl
        · -- 34 := Op.call { value (Operand.func 53), args := #[t29, t31, t33], argTypes := #[29, 29, 29] }
          have e29 := hs 13 29 (needs_direct (by kernel_rfl)) rfl; have e31 := hs 15 31 (needs_direct (by kernel_rfl)) rfl; have e33 := hs 17 33 (needs_direct (by kernel_rfl)) rfl; simp [Act.eval] at e29 e31 e33
          go_simp
          refine (c_thide t.tag dv dr w2 (HP3.out.grown hle (by omega))).mono ?_
          rintro z w9 ⟨rfl, b9⟩
          rw [HHD.out]
          exact hK _ _ (.inl b9) rfl
        · -- 35 := Op.build 83 #[(0, const (Value.bool true)), (2, t18), (3, t27), (4, t34)]
          have e18 := hs 2 18 (needs_direct (by kernel_rfl)) rfl; have e27 := hs 11 27 (needs_direct (by kernel_rfl)) rfl; have e34 := hs 18 34 (needs_direct (by kernel_rfl)) rfl; simp [Act.eval] at e18 e27 e34
          go_simp; exact hK _ _ (.inl (Ext.refl _)) rfl
        · -- 36 := Op.call { value (Operand.func 59), args := #[t16, t35], argTypes := #[44, 83] }
          have e16 := hs 0 16 (needs_direct (by kernel_rfl)) rfl; have e35 := hs 19 35 (needs_direct (by kernel_rfl)) rfl; simp [Act.eval] at e16 e35
          go_simp
          refine (c_cadd t ⟨true, ByteArray.empty, pn, txt lk, txt hd⟩ A n c _ w2 (HRT.out.keep fun j hj hlt => hle.block j (by omega) (fun e' => by have := Option.some.inj e'; omega)) HN.out HX.out (HP3.out.grown hle (by omega))).mono ?_
          rintro z w9 ⟨A', n', c', rfl, hr, b9⟩
          rw [HRR.out] at hr
          rw [HRR.out, HEE.out]
          have hsz2 := hle.size
          exact hK _ _ (.inl b9) ⟨A', n', c', rfl, hr.more fun j hj => by omega⟩
        · -- 37 := Op.extract t36 0
          have e36 := hs 20 36 (needs_direct (by kernel_rfl)) rfl; simp [Act.eval] at e36
          obtain ⟨A', n', c', e36, hr⟩ := e36
          go_simp
          exact hK _ _ (.inl (Ext.refl _)) ⟨A', n', c', rfl, hr⟩
        · -- 38 := Op.extract t36 1
          have e36 := hs 20 36 (needs_direct (by kernel_rfl)) rfl; simp [Act.eval] at e36
          obtain ⟨A', n', c', e36, hr⟩ := e36
          go_simp
          exact hK _ _ (.inl (Ext.refl _)) rfl
        · -- None := Op.store 44 t4 t37
          have e4 := hf 4 rfl; have e37 := hs 21 37 (needs_direct (by kernel_rfl)) rfl; simp [Act.eval] at e4 e37
          obtain ⟨A', n', c', e37, hr⟩ := e37
          have hz := hT rfl
          have hrz := row_of hz
          obtain ⟨C, hC⟩ : ∃ C, C = tokA R A' n' c' := ⟨_, rfl⟩
          have hzC : C.size = 36 := by rw [hC]; exact tokC_size _ _ _ _ _
          have hoC : oneAll C = true := by rw [hC]; exact tokC_all _ _ _ _ _ _ _ _
          have hspC : splice tokZ 0 C = C := by rw [hC]; exact tokC_splice0 _ _ _ _ _ _ (tokC_size _ _ _ _ _)
          rw [show tokV R A' n' c' = .agg C from by rw [hC]] at e37
          have HC := hide hC
          clear hC
          go_simp
          exact hK undef _ (.inr ⟨rfl, grown_setRow (grownBy_refl _ _) _⟩) ⟨A', n', c', (setRow_heap w2 (w.heap.size + 2) tokZ C 44 _ hz).trans (by rw [HC.out]), hr.keep fun j hj _ => heap_setRow_far _ _ _ hj⟩
        · -- 5 := Op.assign t38
          have e38 := hs 22 38 (needs_direct (by kernel_rfl)) rfl; simp [Act.eval] at e38
          go_simp; exact hK _ _ (.inl (Ext.refl _)) rfl
      intro vs w8 hle hs hU8
      have v24 := hs 24 (by omega) rfl
      simp only at v24
      clear hs
      obtain ⟨A', n', c', hk8, hr8⟩ := hU8
      have hag8 : agg? w8 ⟨w.heap.size + 2, 0, none⟩ 36 = some (tokA R A' n' c') := (agg_of_row hk8 0 36 (by decide)).trans (tokC_part _ _ _ _ _)
      have HB8 := hide (HB3.out.grown hle (by omega) (fun q e => by have := Option.some.inj e; omega))
      clear hle hk8
      simp only [putN, dstAt]
      go_simp
      go_wp2_with fail
      exact bodyPost_ret (v := .tuple #[tokV R A' n' c', .int .i64 E0]) (by simp [results, Tryd.results45, go_sem, hag8]) rfl ⟨A', n', c', by rw [HA1.out, HA2.out], by rw [HA1.out]; exact hr8.more fun _ _ => trivial, HB8.out⟩
    · rw [hb] at hcb hg3
      by_cases h5 : 512 < L
      · go_wp2_with fail
        rw [HTV.out, ← HW3.out]
        clear HW3 hcc hcb hg65 hg3
        refine wp_region_st mixed 25 (some (w.heap.size + 2)) 23 (fun w' => w'.heap[w.heap.size + 2]? = some (.cells tokZ 44)) (fun i v w' => match i with
          | 0 => v = tokV t A n c
          | 1 => v = .pointer (some ⟨w.heap.size + 1, 0, none⟩)
          | 2 => v = .int .u64 (pn : Int)
          | 3 => v = .pointer (some ⟨w.heap.size + 1, 1, none⟩)
          | 4 => v = tgV dk
          | 5 => v = .pointer (some ⟨w.heap.size + 1, 66, none⟩)
          | 6 => v = tgV da
          | 7 => v = .pointer (some ⟨w.heap.size + 1, 33, none⟩)
          | 8 => v = tgV dr
          | 9 => v = .pointer (some ⟨w.heap.size + 1, 65, none⟩)
          | 10 => v = .string (txt cd)
          | 11 => v = .string (txt lk)
          | 12 => v = .pointer (some ⟨w.heap.size, 4, none⟩)
          | 13 => v = tgV t.tag
          | 14 => v = .pointer (some ⟨w.heap.size + 1, 98, none⟩)
          | 15 => v = tgV dv
          | 16 => v = .pointer (some ⟨w.heap.size + 1, 33, none⟩)
          | 17 => v = tgV dr
          | 18 => v = .string (txt hd)
          | 19 => v = .agg #[.bool true, .string ⟨#[]⟩, .int .u64 (pn : Int), .string (txt lk), .string (txt hd)]
          | 20 => ∃ A' n' c', v = .tuple #[tokV R A' n' c', .int .i64 E0] ∧ kCav.Row (fun j => j ≠ w.heap.size + 2) w' A' n' c' R.cavs
          | 21 => ∃ A' n' c', v = tokV R A' n' c' ∧ kCav.Row (fun j => j ≠ w.heap.size + 2) w' A' n' c' R.cavs
          | 22 => v = .int .i64 E0
          | 23 => ∃ A' n' c', w'.heap[w.heap.size + 2]? = some (.cells (tokA R A' n' c') 44) ∧ kCav.Row (fun j => j ≠ w.heap.size + 2) w' A' n' c' R.cavs
          | _ => v = .int .i64 E0
          ) (regOk_of (by kernel_rfl)) rfl ?_ ?_ ?_ ?_ (fun w' => ∃ A' n' c', w'.heap[w.heap.size + 2]? = some (.cells (tokA R A' n' c') 44) ∧ kCav.Row (fun j => j ≠ w.heap.size + 2) w' A' n' c' R.cavs) ?_ (fun _ _ h => h) (by decide) ?_ ?_
        · exact G2.out
        · intro w1 w2 h1 h2
          exact (h1.block _ (Array.getElem?_eq_some_iff.1 h2).1).trans h2
        · intro i v w1 w2 hne h1 h2
          split at h2 <;> first | exact h2 | exact absurd rfl hne | (obtain ⟨A', n', c', e, hr⟩ := h2; exact ⟨A', n', c', e, hr.keep fun j hj hlt => h1.block j hlt (fun e' => hj (Option.some.inj e'))⟩)
        · intro v w1 w2 h1 h2
          obtain ⟨A', n', c', e, hr⟩ := h2; exact ⟨A', n', c', (h1.block _ (Array.getElem?_eq_some_iff.1 e).1).trans e, hr.below h1⟩
        · intro w1 w2 h1 h2
          exact by obtain ⟨A', n', c', e, hr⟩ := h2; exact ⟨A', n', c', (h1.block _ (Array.getElem?_eq_some_iff.1 e).1).trans e, hr.below h1⟩
        · refine ⟨fun a w2 hle hd hf hs hT K hK => ?_, fun a w2 hle hd hf hs hT K hK => ?_, fun a w2 hle hd hf hs hT K hK => ?_, fun a w2 hle hd hf hs hT K hK => ?_, fun a w2 hle hd hf hs hT K hK => ?_, fun a w2 hle hd hf hs hT K hK => ?_, fun a w2 hle hd hf hs hT K hK => ?_, fun a w2 hle hd hf hs hT K hK => ?_, fun a w2 hle hd hf hs hT K hK => ?_, fun a w2 hle hd hf hs hT K hK => ?_, fun a w2 hle hd hf hs hT K hK => ?_, fun a w2 hle hd hf hs hT K hK => ?_, fun a w2 hle hd hf hs hT K hK => ?_, fun a w2 hle hd hf hs hT K hK => ?_, fun a w2 hle hd hf hs hT K hK => ?_, fun a w2 hle hd hf hs hT K hK => ?_, fun a w2 hle hd hf hs hT K hK => ?_, fun a w2 hle hd hf hs hT K hK => ?_, fun a w2 hle hd hf hs hT K hK => ?_, fun a w2 hle hd hf hs hT K hK => ?_, fun a w2 hle hd hf hs hT K hK => ?_, fun a w2 hle hd hf hs hT K hK => ?_, fun a w2 hle hd hf hs hT K hK => ?_, fun a w2 hle hd hf hs hT K hK => ?_, fun a w2 hle hd hf hs hT K hK => ?_, trivial⟩
          all_goals clear hd
          · -- 16 := Op.load 44 t2
            have e2 := hf 2 rfl; simp [Act.eval] at e2
            have hq : agg? w2 ⟨w.heap.size, 0, none⟩ 36 = some (tokA t A n c) := (agg_of_row (HG0.out w2 hle) 0 36 (by decide)).trans (tokC_part _ _ _ _ _)
            go_simp; exact hK _ _ (.inl (Ext.refl _)) rfl
          · -- 17 := Op.fieldAddr 72 t3 0
            have e3 := hf 3 rfl; simp [Act.eval] at e3
            go_simp; exact hK _ _ (.inl (Ext.refl _)) rfl
          · -- 18 := Op.load 41 t17
            have e17 := hs 1 17 (needs_direct (by kernel_rfl)) rfl; simp [Act.eval] at e17
            have hq : w2.cell? ⟨w.heap.size + 1, 0, none⟩ = some (.int .u64 (pn : Int)) := (cell_of_row w2 _ _ _ _ _ (HG1.out w2 hle)).trans (dealC_0 _ _ _ _ _ _)
            go_simp; exact hK _ _ (.inl (Ext.refl _)) rfl
          · -- 19 := Op.fieldAddr 72 t3 1
            have e3 := hf 3 rfl; simp [Act.eval] at e3
            go_simp; exact hK _ _ (.inl (Ext.refl _)) rfl
          · -- 20 := Op.load 29 t19
            have e19 := hs 3 19 (needs_direct (by kernel_rfl)) rfl; simp [Act.eval] at e19
            have hq : agg? w2 ⟨w.heap.size + 1, 1, none⟩ 32 = some (tgC dk) := (agg_of_row (HG1.out w2 hle) 1 32 (by decide)).trans (dealC_key _ _ _ _ _ _)
            go_simp; exact hK _ _ (.inl (Ext.refl _)) rfl
          · -- 21 := Op.fieldAddr 72 t3 4
            have e3 := hf 3 rfl; simp [Act.eval] at e3
            go_simp; exact hK _ _ (.inl (Ext.refl _)) rfl
          · -- 22 := Op.load 29 t21
            have e21 := hs 5 21 (needs_direct (by kernel_rfl)) rfl; simp [Act.eval] at e21
            have hq : agg? w2 ⟨w.heap.size + 1, 66, none⟩ 32 = some (tgC da) := (agg_of_row (HG1.out w2 hle) 66 32 (by decide)).trans (dealC_ask _ _ _ _ _ _)
            go_simp; exact hK _ _ (.inl (Ext.refl _)) rfl
          · -- 23 := Op.fieldAddr 72 t3 2
            have e3 := hf 3 rfl; simp [Act.eval] at e3
            go_simp; exact hK _ _ (.inl (Ext.refl _)) rfl
          · -- 24 := Op.load 29 t23
            have e23 := hs 7 23 (needs_direct (by kernel_rfl)) rfl; simp [Act.eval] at e23
            have hq : agg? w2 ⟨w.heap.size + 1, 33, none⟩ 32 = some (tgC dr) := (agg_of_row (HG1.out w2 hle) 33 32 (by decide)).trans (dealC_root _ _ _ _ _ _)
            go_simp; exact hK _ _ (.inl (Ext.refl _)) rfl
          · -- 25 := Op.fieldAddr 72 t3 3
            have e3 := hf 3 rfl; simp [Act.eval] at e3
            go_simp; exact hK _ _ (.inl (Ext.refl _)) rfl
          · -- 26 := Op.load 9 t25
            have e25 := hs 9 25 (needs_direct (by kernel_rfl)) rfl; simp [Act.eval] at e25
            have hq : w2.cell? ⟨w.heap.size + 1, 65, none⟩ = some (.string (txt cd)) := (cell_of_row w2 _ _ _ _ _ (HG1.out w2 hle)).trans (dealC_65 _ _ _ _ _ _)
            go_simp; exact hK _ _ (.inl (Ext.refl _)) rfl
          · -- 27 := Op.call { value (Operand.func 51), args := #[t20, t22, t24, t26], argTypes := #[29, 29, 29, 9] }
            have e20 := hs 4 20 (needs_direct (by kernel_rfl)) rfl; have e22 := hs 6 22 (needs_direct (by kernel_rfl)) rfl; have e24 := hs 8 24 (needs_direct (by kernel_rfl)) rfl; have e26 := hs 10 26 (needs_direct (by kernel_rfl)) rfl; simp [Act.eval] at e20 e22 e24 e26
            go_simp
            refine (c_tlock dk da dr cd w2 HCD.out (HP3.out.grown hle (by omega))).mono ?_
            rintro z w9 ⟨rfl, b9⟩
            rw [HLK.out]
            exact hK _ _ (.inl b9) rfl
          · -- 28 := Op.fieldAddr 44 t2 4
            have e2 := hf 2 rfl; simp [Act.eval] at e2
            go_simp; exact hK _ _ (.inl (Ext.refl _)) rfl
          · -- 29 := Op.load 29 t28
            have e28 := hs 12 28 (needs_direct (by kernel_rfl)) rfl; simp [Act.eval] at e28
            have hq : agg? w2 ⟨w.heap.size, 4, none⟩ 32 = some (tgC t.tag) := (agg_of_row (HG0.out w2 hle) 4 32 (by decide)).trans (tokC_tag _ _ _ _ _)
            go_simp; exact hK _ _ (.inl (Ext.refl _)) rfl
          · -- 30 := Op.fieldAddr 72 t3 5
            have e3 := hf 3 rfl; simp [Act.eval] at e3
            go_simp; exact hK _ _ (.inl (Ext.refl _)) rfl
          · -- 31 := Op.load 29 t30
            have e30 := hs 14 30 (needs_direct (by kernel_rfl)) rfl; simp [Act.eval] at e30
            have hq : agg? w2 ⟨w.heap.size + 1, 98, none⟩ 32 = some (tgC dv) := (agg_of_row (HG1.out w2 hle) 98 32 (by decide)).trans (dealC_vault _ _ _ _ _ _)
            go_simp; exact hK _ _ (.inl (Ext.refl _)) rfl
          · -- 32 := Op.fieldAddr 72 t3 2
            have e3 := hf 3 rfl; simp [Act.eval] at e3
            go_simp; exact hK _ _ (.inl (Ext.refl _)) rfl
          · -- 33 := Op.load 29 t32
            have e32 := hs 16 32 (needs_direct (by kernel_rfl)) rfl; simp [Act.eval] at e32
            have hq : agg? w2 ⟨w.heap.size + 1, 33, none⟩ 32 = some (tgC dr) := (agg_of_row (HG1.out w2 hle) 33 32 (by decide)).trans (dealC_root _ _ _ _ _ _)
            go_simp; exact hK _ _ (.inl (Ext.refl _)) rfl
          · -- 34 := Op.call { value (Operand.func 53), args := #[t29, t31, t33], argTypes := #[29, 29, 29] }
            have e29 := hs 13 29 (needs_direct (by kernel_rfl)) rfl; have e31 := hs 15 31 (needs_direct (by kernel_rfl)) rfl; have e33 := hs 17 33 (needs_direct (by kernel_rfl)) rfl; simp [Act.eval] at e29 e31 e33
            go_simp
            refine (c_thide t.tag dv dr w2 (HP3.out.grown hle (by omega))).mono ?_
            rintro z w9 ⟨rfl, b9⟩
            rw [HHD.out]
            exact hK _ _ (.inl b9) rfl
          · -- 35 := Op.build 83 #[(0, const (Value.bool true)), (2, t18), (3, t27), (4, t34)]
            have e18 := hs 2 18 (needs_direct (by kernel_rfl)) rfl; have e27 := hs 11 27 (needs_direct (by kernel_rfl)) rfl; have e34 := hs 18 34 (needs_direct (by kernel_rfl)) rfl; simp [Act.eval] at e18 e27 e34
            go_simp; exact hK _ _ (.inl (Ext.refl _)) rfl
          · -- 36 := Op.call { value (Operand.func 59), args := #[t16, t35], argTypes := #[44, 83] }
            have e16 := hs 0 16 (needs_direct (by kernel_rfl)) rfl; have e35 := hs 19 35 (needs_direct (by kernel_rfl)) rfl; simp [Act.eval] at e16 e35
            go_simp
            refine (c_cadd t ⟨true, ByteArray.empty, pn, txt lk, txt hd⟩ A n c _ w2 (HRT.out.keep fun j hj hlt => hle.block j (by omega) (fun e' => by have := Option.some.inj e'; omega)) HN.out HX.out (HP3.out.grown hle (by omega))).mono ?_
            rintro z w9 ⟨A', n', c', rfl, hr, b9⟩
            rw [HRR.out] at hr
            rw [HRR.out, HEE.out]
            have hsz2 := hle.size
            exact hK _ _ (.inl b9) ⟨A', n', c', rfl, hr.more fun j hj => by omega⟩
          · -- 37 := Op.extract t36 0
            have e36 := hs 20 36 (needs_direct (by kernel_rfl)) rfl; simp [Act.eval] at e36
            obtain ⟨A', n', c', e36, hr⟩ := e36
            go_simp
            exact hK _ _ (.inl (Ext.refl _)) ⟨A', n', c', rfl, hr⟩
          · -- 38 := Op.extract t36 1
            have e36 := hs 20 36 (needs_direct (by kernel_rfl)) rfl; simp [Act.eval] at e36
            obtain ⟨A', n', c', e36, hr⟩ := e36
            go_simp
            exact hK _ _ (.inl (Ext.refl _)) rfl
          · -- None := Op.store 44 t4 t37
            have e4 := hf 4 rfl; have e37 := hs 21 37 (needs_direct (by kernel_rfl)) rfl; simp [Act.eval] at e4 e37
            obtain ⟨A', n', c', e37, hr⟩ := e37
            have hz := hT rfl
            have hrz := row_of hz
            obtain ⟨C, hC⟩ : ∃ C, C = tokA R A' n' c' := ⟨_, rfl⟩
            have hzC : C.size = 36 := by rw [hC]; exact tokC_size _ _ _ _ _
            have hoC : oneAll C = true := by rw [hC]; exact tokC_all _ _ _ _ _ _ _ _
            have hspC : splice tokZ 0 C = C := by rw [hC]; exact tokC_splice0 _ _ _ _ _ _ (tokC_size _ _ _ _ _)
            rw [show tokV R A' n' c' = .agg C from by rw [hC]] at e37
            have HC := hide hC
            clear hC
            go_simp
            exact hK undef _ (.inr ⟨rfl, grown_setRow (grownBy_refl _ _) _⟩) ⟨A', n', c', (setRow_heap w2 (w.heap.size + 2) tokZ C 44 _ hz).trans (by rw [HC.out]), hr.keep fun j hj _ => heap_setRow_far _ _ _ hj⟩
          · -- 5 := Op.assign t38
            have e38 := hs 22 38 (needs_direct (by kernel_rfl)) rfl; simp [Act.eval] at e38
            go_simp; exact hK _ _ (.inl (Ext.refl _)) rfl
        intro vs w8 hle hs hU8
        have v24 := hs 24 (by omega) rfl
        simp only at v24
        clear hs
        obtain ⟨A', n', c', hk8, hr8⟩ := hU8
        have hag8 : agg? w8 ⟨w.heap.size + 2, 0, none⟩ 36 = some (tokA R A' n' c') := (agg_of_row hk8 0 36 (by decide)).trans (tokC_part _ _ _ _ _)
        have HB8 := hide (HB3.out.grown hle (by omega) (fun q e => by have := Option.some.inj e; omega))
        clear hle hk8
        simp only [putN, dstAt]
        go_simp
        go_wp2_with fail
        exact bodyPost_ret (v := .tuple #[tokV R A' n' c', .int .i64 E0]) (by simp [results, Tryd.results45, go_sem, hag8]) rfl ⟨A', n', c', by rw [HA1.out, HA2.out], by rw [HA1.out]; exact hr8.more fun _ _ => trivial, HB8.out⟩
      · go_wp2_with fail
        rw [HTV.out, ← HW3.out]
        clear HW3 hcc hcb hg65 hg3
        refine wp_region_st mixed 25 (some (w.heap.size + 2)) 23 (fun w' => w'.heap[w.heap.size + 2]? = some (.cells tokZ 44)) (fun i v w' => match i with
          | 0 => v = tokV t A n c
          | 1 => v = .pointer (some ⟨w.heap.size + 1, 0, none⟩)
          | 2 => v = .int .u64 (pn : Int)
          | 3 => v = .pointer (some ⟨w.heap.size + 1, 1, none⟩)
          | 4 => v = tgV dk
          | 5 => v = .pointer (some ⟨w.heap.size + 1, 66, none⟩)
          | 6 => v = tgV da
          | 7 => v = .pointer (some ⟨w.heap.size + 1, 33, none⟩)
          | 8 => v = tgV dr
          | 9 => v = .pointer (some ⟨w.heap.size + 1, 65, none⟩)
          | 10 => v = .string (txt cd)
          | 11 => v = .string (txt lk)
          | 12 => v = .pointer (some ⟨w.heap.size, 4, none⟩)
          | 13 => v = tgV t.tag
          | 14 => v = .pointer (some ⟨w.heap.size + 1, 98, none⟩)
          | 15 => v = tgV dv
          | 16 => v = .pointer (some ⟨w.heap.size + 1, 33, none⟩)
          | 17 => v = tgV dr
          | 18 => v = .string (txt hd)
          | 19 => v = .agg #[.bool true, .string ⟨#[]⟩, .int .u64 (pn : Int), .string (txt lk), .string (txt hd)]
          | 20 => ∃ A' n' c', v = .tuple #[tokV R A' n' c', .int .i64 E0] ∧ kCav.Row (fun j => j ≠ w.heap.size + 2) w' A' n' c' R.cavs
          | 21 => ∃ A' n' c', v = tokV R A' n' c' ∧ kCav.Row (fun j => j ≠ w.heap.size + 2) w' A' n' c' R.cavs
          | 22 => v = .int .i64 E0
          | 23 => ∃ A' n' c', w'.heap[w.heap.size + 2]? = some (.cells (tokA R A' n' c') 44) ∧ kCav.Row (fun j => j ≠ w.heap.size + 2) w' A' n' c' R.cavs
          | _ => v = .int .i64 E0
          ) (regOk_of (by kernel_rfl)) rfl ?_ ?_ ?_ ?_ (fun w' => ∃ A' n' c', w'.heap[w.heap.size + 2]? = some (.cells (tokA R A' n' c') 44) ∧ kCav.Row (fun j => j ≠ w.heap.size + 2) w' A' n' c' R.cavs) ?_ (fun _ _ h => h) (by decide) ?_ ?_
        · exact G2.out
        · intro w1 w2 h1 h2
          exact (h1.block _ (Array.getElem?_eq_some_iff.1 h2).1).trans h2
        · intro i v w1 w2 hne h1 h2
          split at h2 <;> first | exact h2 | exact absurd rfl hne | (obtain ⟨A', n', c', e, hr⟩ := h2; exact ⟨A', n', c', e, hr.keep fun j hj hlt => h1.block j hlt (fun e' => hj (Option.some.inj e'))⟩)
        · intro v w1 w2 h1 h2
          obtain ⟨A', n', c', e, hr⟩ := h2; exact ⟨A', n', c', (h1.block _ (Array.getElem?_eq_some_iff.1 e).1).trans e, hr.below h1⟩
        · intro w1 w2 h1 h2
          exact by obtain ⟨A', n', c', e, hr⟩ := h2; exact ⟨A', n', c', (h1.block _ (Array.getElem?_eq_some_iff.1 e).1).trans e, hr.below h1⟩
        · refine ⟨fun a w2 hle hd hf hs hT K hK => ?_, fun a w2 hle hd hf hs hT K hK => ?_, fun a w2 hle hd hf hs hT K hK => ?_, fun a w2 hle hd hf hs hT K hK => ?_, fun a w2 hle hd hf hs hT K hK => ?_, fun a w2 hle hd hf hs hT K hK => ?_, fun a w2 hle hd hf hs hT K hK => ?_, fun a w2 hle hd hf hs hT K hK => ?_, fun a w2 hle hd hf hs hT K hK => ?_, fun a w2 hle hd hf hs hT K hK => ?_, fun a w2 hle hd hf hs hT K hK => ?_, fun a w2 hle hd hf hs hT K hK => ?_, fun a w2 hle hd hf hs hT K hK => ?_, fun a w2 hle hd hf hs hT K hK => ?_, fun a w2 hle hd hf hs hT K hK => ?_, fun a w2 hle hd hf hs hT K hK => ?_, fun a w2 hle hd hf hs hT K hK => ?_, fun a w2 hle hd hf hs hT K hK => ?_, fun a w2 hle hd hf hs hT K hK => ?_, fun a w2 hle hd hf hs hT K hK => ?_, fun a w2 hle hd hf hs hT K hK => ?_, fun a w2 hle hd hf hs hT K hK => ?_, fun a w2 hle hd hf hs hT K hK => ?_, fun a w2 hle hd hf hs hT K hK => ?_, fun a w2 hle hd hf hs hT K hK => ?_, trivial⟩
          all_goals clear hd
          · -- 16 := Op.load 44 t2
            have e2 := hf 2 rfl; simp [Act.eval] at e2
            have hq : agg? w2 ⟨w.heap.size, 0, none⟩ 36 = some (tokA t A n c) := (agg_of_row (HG0.out w2 hle) 0 36 (by decide)).trans (tokC_part _ _ _ _ _)
            go_simp; exact hK _ _ (.inl (Ext.refl _)) rfl
          · -- 17 := Op.fieldAddr 72 t3 0
            have e3 := hf 3 rfl; simp [Act.eval] at e3
            go_simp; exact hK _ _ (.inl (Ext.refl _)) rfl
          · -- 18 := Op.load 41 t17
            have e17 := hs 1 17 (needs_direct (by kernel_rfl)) rfl; simp [Act.eval] at e17
            have hq : w2.cell? ⟨w.heap.size + 1, 0, none⟩ = some (.int .u64 (pn : Int)) := (cell_of_row w2 _ _ _ _ _ (HG1.out w2 hle)).trans (dealC_0 _ _ _ _ _ _)
            go_simp; exact hK _ _ (.inl (Ext.refl _)) rfl
          · -- 19 := Op.fieldAddr 72 t3 1
            have e3 := hf 3 rfl; simp [Act.eval] at e3
            go_simp; exact hK _ _ (.inl (Ext.refl _)) rfl
          · -- 20 := Op.load 29 t19
            have e19 := hs 3 19 (needs_direct (by kernel_rfl)) rfl; simp [Act.eval] at e19
            have hq : agg? w2 ⟨w.heap.size + 1, 1, none⟩ 32 = some (tgC dk) := (agg_of_row (HG1.out w2 hle) 1 32 (by decide)).trans (dealC_key _ _ _ _ _ _)
            go_simp; exact hK _ _ (.inl (Ext.refl _)) rfl
          · -- 21 := Op.fieldAddr 72 t3 4
            have e3 := hf 3 rfl; simp [Act.eval] at e3
            go_simp; exact hK _ _ (.inl (Ext.refl _)) rfl
          · -- 22 := Op.load 29 t21
            have e21 := hs 5 21 (needs_direct (by kernel_rfl)) rfl; simp [Act.eval] at e21
            have hq : agg? w2 ⟨w.heap.size + 1, 66, none⟩ 32 = some (tgC da) := (agg_of_row (HG1.out w2 hle) 66 32 (by decide)).trans (dealC_ask _ _ _ _ _ _)
            go_simp; exact hK _ _ (.inl (Ext.refl _)) rfl
          · -- 23 := Op.fieldAddr 72 t3 2
            have e3 := hf 3 rfl; simp [Act.eval] at e3
            go_simp; exact hK _ _ (.inl (Ext.refl _)) rfl
          · -- 24 := Op.load 29 t23
            have e23 := hs 7 23 (needs_direct (by kernel_rfl)) rfl; simp [Act.eval] at e23
            have hq : agg? w2 ⟨w.heap.size + 1, 33, none⟩ 32 = some (tgC dr) := (agg_of_row (HG1.out w2 hle) 33 32 (by decide)).trans (dealC_root _ _ _ _ _ _)
            go_simp; exact hK _ _ (.inl (Ext.refl _)) rfl
          · -- 25 := Op.fieldAddr 72 t3 3
            have e3 := hf 3 rfl; simp [Act.eval] at e3
            go_simp; exact hK _ _ (.inl (Ext.refl _)) rfl
          · -- 26 := Op.load 9 t25
            have e25 := hs 9 25 (needs_direct (by kernel_rfl)) rfl; simp [Act.eval] at e25
            have hq : w2.cell? ⟨w.heap.size + 1, 65, none⟩ = some (.string (txt cd)) := (cell_of_row w2 _ _ _ _ _ (HG1.out w2 hle)).trans (dealC_65 _ _ _ _ _ _)
            go_simp; exact hK _ _ (.inl (Ext.refl _)) rfl
          · -- 27 := Op.call { value (Operand.func 51), args := #[t20, t22, t24, t26], argTypes := #[29, 29, 29, 9] }
            have e20 := hs 4 20 (needs_direct (by kernel_rfl)) rfl; have e22 := hs 6 22 (needs_direct (by kernel_rfl)) rfl; have e24 := hs 8 24 (needs_direct (by kernel_rfl)) rfl; have e26 := hs 10 26 (needs_direct (by kernel_rfl)) rfl; simp [Act.eval] at e20 e22 e24 e26
            go_simp
            refine (c_tlock dk da dr cd w2 HCD.out (HP3.out.grown hle (by omega))).mono ?_
            rintro z w9 ⟨rfl, b9⟩
            rw [HLK.out]
            exact hK _ _ (.inl b9) rfl
          · -- 28 := Op.fieldAddr 44 t2 4
            have e2 := hf 2 rfl; simp [Act.eval] at e2
            go_simp; exact hK _ _ (.inl (Ext.refl _)) rfl
          · -- 29 := Op.load 29 t28
            have e28 := hs 12 28 (needs_direct (by kernel_rfl)) rfl; simp [Act.eval] at e28
            have hq : agg? w2 ⟨w.heap.size, 4, none⟩ 32 = some (tgC t.tag) := (agg_of_row (HG0.out w2 hle) 4 32 (by decide)).trans (tokC_tag _ _ _ _ _)
            go_simp; exact hK _ _ (.inl (Ext.refl _)) rfl
          · -- 30 := Op.fieldAddr 72 t3 5
            have e3 := hf 3 rfl; simp [Act.eval] at e3
            go_simp; exact hK _ _ (.inl (Ext.refl _)) rfl
          · -- 31 := Op.load 29 t30
            have e30 := hs 14 30 (needs_direct (by kernel_rfl)) rfl; simp [Act.eval] at e30
            have hq : agg? w2 ⟨w.heap.size + 1, 98, none⟩ 32 = some (tgC dv) := (agg_of_row (HG1.out w2 hle) 98 32 (by decide)).trans (dealC_vault _ _ _ _ _ _)
            go_simp; exact hK _ _ (.inl (Ext.refl _)) rfl
          · -- 32 := Op.fieldAddr 72 t3 2
            have e3 := hf 3 rfl; simp [Act.eval] at e3
            go_simp; exact hK _ _ (.inl (Ext.refl _)) rfl
          · -- 33 := Op.load 29 t32
            have e32 := hs 16 32 (needs_direct (by kernel_rfl)) rfl; simp [Act.eval] at e32
            have hq : agg? w2 ⟨w.heap.size + 1, 33, none⟩ 32 = some (tgC dr) := (agg_of_row (HG1.out w2 hle) 33 32 (by decide)).trans (dealC_root _ _ _ _ _ _)
            go_simp; exact hK _ _ (.inl (Ext.refl _)) rfl
          · -- 34 := Op.call { value (Operand.func 53), args := #[t29, t31, t33], argTypes := #[29, 29, 29] }
            have e29 := hs 13 29 (needs_direct (by kernel_rfl)) rfl; have e31 := hs 15 31 (needs_direct (by kernel_rfl)) rfl; have e33 := hs 17 33 (needs_direct (by kernel_rfl)) rfl; simp [Act.eval] at e29 e31 e33
            go_simp
            refine (c_thide t.tag dv dr w2 (HP3.out.grown hle (by omega))).mono ?_
            rintro z w9 ⟨rfl, b9⟩
            rw [HHD.out]
            exact hK _ _ (.inl b9) rfl
          · -- 35 := Op.build 83 #[(0, const (Value.bool true)), (2, t18), (3, t27), (4, t34)]
            have e18 := hs 2 18 (needs_direct (by kernel_rfl)) rfl; have e27 := hs 11 27 (needs_direct (by kernel_rfl)) rfl; have e34 := hs 18 34 (needs_direct (by kernel_rfl)) rfl; simp [Act.eval] at e18 e27 e34
            go_simp; exact hK _ _ (.inl (Ext.refl _)) rfl
          · -- 36 := Op.call { value (Operand.func 59), args := #[t16, t35], argTypes := #[44, 83] }
            have e16 := hs 0 16 (needs_direct (by kernel_rfl)) rfl; have e35 := hs 19 35 (needs_direct (by kernel_rfl)) rfl; simp [Act.eval] at e16 e35
            go_simp
            refine (c_cadd t ⟨true, ByteArray.empty, pn, txt lk, txt hd⟩ A n c _ w2 (HRT.out.keep fun j hj hlt => hle.block j (by omega) (fun e' => by have := Option.some.inj e'; omega)) HN.out HX.out (HP3.out.grown hle (by omega))).mono ?_
            rintro z w9 ⟨A', n', c', rfl, hr, b9⟩
            rw [HRR.out] at hr
            rw [HRR.out, HEE.out]
            have hsz2 := hle.size
            exact hK _ _ (.inl b9) ⟨A', n', c', rfl, hr.more fun j hj => by omega⟩
          · -- 37 := Op.extract t36 0
            have e36 := hs 20 36 (needs_direct (by kernel_rfl)) rfl; simp [Act.eval] at e36
            obtain ⟨A', n', c', e36, hr⟩ := e36
            go_simp
            exact hK _ _ (.inl (Ext.refl _)) ⟨A', n', c', rfl, hr⟩
          · -- 38 := Op.extract t36 1
            have e36 := hs 20 36 (needs_direct (by kernel_rfl)) rfl; simp [Act.eval] at e36
            obtain ⟨A', n', c', e36, hr⟩ := e36
            go_simp
            exact hK _ _ (.inl (Ext.refl _)) rfl
          · -- None := Op.store 44 t4 t37
            have e4 := hf 4 rfl; have e37 := hs 21 37 (needs_direct (by kernel_rfl)) rfl; simp [Act.eval] at e4 e37
            obtain ⟨A', n', c', e37, hr⟩ := e37
            have hz := hT rfl
            have hrz := row_of hz
            obtain ⟨C, hC⟩ : ∃ C, C = tokA R A' n' c' := ⟨_, rfl⟩
            have hzC : C.size = 36 := by rw [hC]; exact tokC_size _ _ _ _ _
            have hoC : oneAll C = true := by rw [hC]; exact tokC_all _ _ _ _ _ _ _ _
            have hspC : splice tokZ 0 C = C := by rw [hC]; exact tokC_splice0 _ _ _ _ _ _ (tokC_size _ _ _ _ _)
            rw [show tokV R A' n' c' = .agg C from by rw [hC]] at e37
            have HC := hide hC
            clear hC
            go_simp
            exact hK undef _ (.inr ⟨rfl, grown_setRow (grownBy_refl _ _) _⟩) ⟨A', n', c', (setRow_heap w2 (w.heap.size + 2) tokZ C 44 _ hz).trans (by rw [HC.out]), hr.keep fun j hj _ => heap_setRow_far _ _ _ hj⟩
          · -- 5 := Op.assign t38
            have e38 := hs 22 38 (needs_direct (by kernel_rfl)) rfl; simp [Act.eval] at e38
            go_simp; exact hK _ _ (.inl (Ext.refl _)) rfl
        intro vs w8 hle hs hU8
        have v24 := hs 24 (by omega) rfl
        simp only at v24
        clear hs
        obtain ⟨A', n', c', hk8, hr8⟩ := hU8
        have hag8 : agg? w8 ⟨w.heap.size + 2, 0, none⟩ 36 = some (tokA R A' n' c') := (agg_of_row hk8 0 36 (by decide)).trans (tokC_part _ _ _ _ _)
        have HB8 := hide (HB3.out.grown hle (by omega) (fun q e => by have := Option.some.inj e; omega))
        clear hle hk8
        simp only [putN, dstAt]
        go_simp
        go_wp2_with fail
        exact bodyPost_ret (v := .tuple #[tokV R A' n' c', .int .i64 E0]) (by simp [results, Tryd.results45, go_sem, hag8]) rfl ⟨A', n', c', by rw [HA1.out, HA2.out], by rw [HA1.out]; exact hr8.more fun _ _ => trivial, HB8.out⟩
end Go.Proofs.YtdkeflhgengblaaDoor
namespace Go.Proofs.YtdkeflhgengblaaDoor
open Go.RowKit
attribute [local go_sem ↓] ld8 ld32 ld64 ld73
attribute [local go_sem] run_ldAgg run_storeAgg agg_alloc_at agg_alloc_past agg_drew agg_setCell row_alloc_at row_alloc_past row_drew setRow_alloc_at setRow_alloc_past setRow_drew agg_setRow_at agg_setRow_far cell_setRow_at cell_setRow_far row_setRow_far size_setRow s8C_size s8C_part s8C_one s8C_splice0 s8C_ne dgC_size dgC_72 dgC_part dgC_h dgC_r dgC_splice_h dgC_set dgC_one dgC_splice0 dgC_ne zero_dg
attribute [local go_sem] tgC_size tgC_one tgC_part tgC_splice tgC_splice_any zero_tg tgC_ne

/-- What a party finds. -/
def unlockO (key : Tg) (s : List UInt8) : Option (Tg × List UInt8) :=
  match openB (dkey key uParty []) s with
  | none => none
  | some p => if p.length < 32 then none else some (tagL (p.take 32), p.drop 32)
def unlockV : Option (Tg × List UInt8) → Value
  | none => .tuple #[tgV Tg.zero, .string (txt []), .bool false]
  | some (r, c) => .tuple #[tgV r, .string (txt c), .bool true]
theorem openB_len {key : Tg} {s p : List UInt8} (h : openB key s = some p) : p.length ≤ s.length := by
  unfold openB at h
  split at h
  · cases h
  · split at h
    · obtain rfl := Option.some.inj h
      rw [turnd_len, List.length_take, List.length_drop]
      omega
    · cases h
set_option maxRecDepth 100000 in
set_option maxHeartbeats 800000 in
theorem c_unlock (key : Tg) (s : List UInt8) (w : World) (hn : s.length < 1000000) (hP : PrimesAt w) :
    Calls Tryd.prog 47 #[tgV key, .string (txt s)] w fun e w' => e = .returned (unlockV (unlockO key s)) ∧ Below w.heap.size w w' := by
  have HP := hide hP
  have hw0 := hP.1
  clear hP
  obtain ⟨kt, hkt⟩ : ∃ kt, dkey key uParty [] = kt := ⟨_, rfl⟩
  have HKT := hide hkt
  have HFL := hide party_len
  have HL20 : Hid (s.length < 1048576) := hide (by omega)
  have HB2 : Hid (Below w.heap.size w ((w.alloc (.cells (tgC key) 29)).alloc (.cells (tgC Tg.zero) 29))) := hide (below2 _ _ _)
  have HZ2 := hide (heap_alloc_new (w.alloc (.cells (tgC key) 29)) (.cells (tgC Tg.zero) 29))
  go_enter Tryd.func47, Tryd.ntmps47
  go_wp2_with fail
  refine (c_dkey key uParty none 0 0 [] _ _ (Kd.Row.nil kStr (fun _ => True) _ none 0 (Nat.zero_le _)) (by decide) (HP.out.ext HB2.out) HFL.out).mono ?_
  rintro e w3 ⟨rfl, b3⟩
  rw [HKT.out]
  have HB3 := hide (bnext HB2.out b3)
  have HZ3 := hide ((b3.block _ (by simp only [World.size_alloc]; omega)).trans HZ2.out)
  have hs3 := b3.size
  simp only [World.size_alloc] at hs3
  clear b3 HB2 HZ2
  go_wp2_with fail
  refine (c_open kt s w3 HL20.out (HP.out.ext HB3.out)).mono ?_
  rintro e w4 ⟨rfl, b4⟩
  have HB4 := hide (HB3.out.trans (b4.mono (by omega)))
  have HZ4 : Hid (w4.heap[w.heap.size + 1]? = some (.cells (tgC Tg.zero) 29)) := hide ((b4.block _ (by omega)).trans (by have := HZ3.out; simpa only [World.size_alloc] using this))
  have hs4 : w.heap.size + 2 ≤ w4.heap.size := by have := b4.size; omega
  obtain ⟨o, ho⟩ : ∃ o, openB kt s = o := ⟨_, rfl⟩
  rw [ho]
  cases o with
  | none =>
    have HU : Hid (unlockO key s = none) := hide (by rw [unlockO, hkt, ho])
    rw [show openV none = .tuple #[.string (txt []), .bool false] from rfl]
    have hrz := row_of HZ4.out
    have hage : agg? (w4.setRow (w.heap.size + 1) (tgC Tg.zero)) ⟨w.heap.size + 1, 0, none⟩ 32 = some (tgC Tg.zero) := (agg_setRow_at _ _ _ _ _ (by rw [hrz]; rfl) (by decide)).trans (tgC_part Tg.zero)
    have HBE := hide (bsetRow HB4.out (Nat.le_succ w.heap.size) (tgC Tg.zero))
    clear hkt hn ho b4
    go_wp2_with fail
    exact bodyPost_ret (v := unlockV none) (by simp [results, Tryd.results47, go_sem, unlockV, hage]) rfl ⟨by rw [HU.out], HBE.out⟩
  | some p =>
    obtain ⟨L, hL⟩ : ∃ L, L = p.length := ⟨_, rfl⟩
    have hsz : (txt p).size = L := by rw [txt_size, hL]
    rw [show openV (some p) = .tuple #[.string (txt p), .bool true] from rfl]
    by_cases hp : L < 32
    · have HU : Hid (unlockO key s = none) := hide (by rw [unlockO, hkt, ho]; exact if_pos (by omega))
      clear hL
      have hrz := row_of HZ4.out
      have hage : agg? (w4.setRow (w.heap.size + 1) (tgC Tg.zero)) ⟨w.heap.size + 1, 0, none⟩ 32 = some (tgC Tg.zero) := (agg_setRow_at _ _ _ _ _ (by rw [hrz]; rfl) (by decide)).trans (tgC_part Tg.zero)
      have HBE := hide (bsetRow HB4.out (Nat.le_succ w.heap.size) (tgC Tg.zero))
      clear hkt hn ho b4
      go_wp2_with fail
      exact bodyPost_ret (v := unlockV none) (by simp [results, Tryd.results47, go_sem, unlockV, hage]) rfl ⟨by rw [HU.out], HBE.out⟩
    · obtain ⟨nb, hnb⟩ : ∃ nb, (p.drop 0).take (32 - 0) = nb := ⟨_, rfl⟩
      obtain ⟨cb, hcb⟩ : ∃ cb, (p.drop 32).take (L - 32) = cb := ⟨_, rfl⟩
      obtain ⟨rt, hrt⟩ : ∃ rt, tagL nb = rt := ⟨_, rfl⟩
      have l1 : nb.length = 32 := by rw [← hnb]; simp only [List.drop_zero, List.length_take]; omega
      have hzn : (txt nb).size = 32 := by rw [txt_size, l1]
      have HU : Hid (unlockO key s = some (rt, cb)) := hide (by
        rw [unlockO, hkt, ho]
        refine (if_neg (by omega)).trans ?_
        rw [← hrt, ← hnb, ← hcb, List.take_of_length_le (l := p.drop 32) (by rw [List.length_drop]; omega)]
        rfl)
      have HNB := hide hnb
      have HCB := hide hcb
      have HL32 := hide l1
      have HNL : Hid (nb = rt.l) := hide (by rw [← hrt, tagL_l l1])
      have HTN : Hid ((nb.map bv).toArray = tgC rt) := hide (by rw [← hrt, tgC, tagL_l l1])
      have hle1 : (32 : Int) ≤ (L : Int) := by omega
      have hLm : L < 9223372036854775807 := by
        have h1 := openB_len (key := kt) (s := s) (by rw [ho])
        omega
      clear hkt hn ho b4 hnb hcb hrt l1 hL
      go_wp2_with fail
      refine wp_region_st mixed 10 (some (w.heap.size + 1)) 7 (fun w' => w'.heap[w.heap.size + 1]? = some (.cells (tgC Tg.zero) 29)) (fun i v w' => match i with
        | 0 => v = .string (txt p)
        | 1 => v = .string (txt nb)
        | 2 => ∃ A c, v = .slice A 32 c ∧ kU8.Row (fun j => j ≠ w.heap.size + 1) w' A 32 c nb
        | 3 => ∃ A c, v = .pointer A ∧ kU8.Row (fun j => j ≠ w.heap.size + 1) w' A 32 c nb
        | 4 => v = tgV rt
        | 5 => v = .string (txt p)
        | 6 => v = .string (txt cb)
        | 7 => w'.heap[w.heap.size + 1]? = some (.cells (tgC rt) 29)
        | 8 => v = .string (txt cb)
        | _ => v = .bool true
        ) (regOk_of (by kernel_rfl)) rfl ?_ ?_ ?_ ?_ (fun w' => w'.heap[w.heap.size + 1]? = some (.cells (tgC rt) 29)) ?_ (fun _ _ h => h) (by decide) ?_ ?_
      · exact HZ4.out
      · intro w1 w2 h1 h2
        exact (h1.block _ (Array.getElem?_eq_some_iff.1 h2).1).trans h2
      · intro i v w1 w2 hne h1 h2
        split at h2 <;> first | exact h2 | exact absurd rfl hne | (obtain ⟨A, c, e, hr⟩ := h2; exact ⟨A, c, e, hr.keep fun j hj hlt => h1.block j hlt (fun e' => hj (Option.some.inj e'))⟩)
      · intro v w1 w2 h1 h2
        exact (h1.block _ (Array.getElem?_eq_some_iff.1 h2).1).trans h2
      · intro w1 w2 h1 h2
        exact (h1.block _ (Array.getElem?_eq_some_iff.1 h2).1).trans h2
      · refine ⟨fun a w2 hle hd hf hs hT K hK => ?_, fun a w2 hle hd hf hs hT K hK => ?_, fun a w2 hle hd hf hs hT K hK => ?_, fun a w2 hle hd hf hs hT K hK => ?_, fun a w2 hle hd hf hs hT K hK => ?_, fun a w2 hle hd hf hs hT K hK => ?_, fun a w2 hle hd hf hs hT K hK => ?_, fun a w2 hle hd hf hs hT K hK => ?_, fun a w2 hle hd hf hs hT K hK => ?_, fun a w2 hle hd hf hs hT K hK => ?_, trivial⟩
        all_goals clear hd
        · -- 23 := Op.move t7
          have e7 := hf 7 rfl; simp [Act.eval] at e7
          go_simp; exact hK _ _ (.inl (Ext.refl _)) rfl
        · -- 24 := Op.slice 9 t23 none (some (const (32:i64))) none
          have e23 := hs 0 23 (needs_direct (by kernel_rfl)) rfl; simp [Act.eval] at e23
          go_simp
          exact hK _ _ (.inl (Ext.refl _)) (ext_is HNB.out rfl rfl)
        · -- 25 := Op.convert 9 22 t24
          have e24 := hs 1 24 (needs_direct (by kernel_rfl)) rfl; simp [Act.eval] at e24
          have f24 := hs 1 24 (needs_direct (by kernel_rfl)) rfl
          refine wp_tobytes 9 22 _ rfl (txt nb) f24 Tryd.underlying9 Tryd.underlying22 Tryd.underlying5 (by rw [hzn]; decide) ?_
          intro c w' h1 h2
          rw [byt_txt, hzn] at h1
          rw [hzn]
          have hsz2 := hle.size
          exact hK _ _ (.inl h2) ⟨_, c, rfl, h1.more fun j hj => by omega⟩
        · -- 26 := Op.sliceToArrayPointer 29 t25
          obtain ⟨A25, c25, e25, hr25⟩ := hs 2 25 (needs_direct (by kernel_rfl)) rfl; simp [Act.eval] at e25
          obtain ⟨p', o, rfl, -, hb, hc⟩ := row_bytes hr25 (by decide)
          have hap : ∀ wx : World, (Instr.arrayAt 29 (.slice (some ⟨p', o, none⟩) 32 c25)).run Tryd.prog wx = .ok (.pointer (some ⟨p', o, none⟩)) wx := fun wx => by simp [Instr.arrayAt, run_underlying Tryd.underlying29]
          go_simp
          exact hK _ _ (.inl (Ext.refl _)) ⟨_, c25, rfl, hr25⟩
        · -- 27 := Op.load 29 t26
          obtain ⟨A26, c26, e26, hr26⟩ := hs 3 26 (needs_direct (by kernel_rfl)) rfl; simp [Act.eval] at e26
          obtain ⟨p', o, rfl, -, hb, hc⟩ := row_bytes hr26 (by decide)
          have hag : agg? w2 ⟨p', o, none⟩ 32 = some (tgC rt) := by
            have := agg_range (w := w2) (b := p') (o := o) (cs := nb.map bv) (fun j v hv => by
              rw [List.getElem?_map] at hv
              obtain ⟨x, hx, rfl⟩ := Option.map_eq_some_iff.1 hv
              exact hc j x hx) 32 (by rw [List.length_map]; exact HL32.out)
            rw [this, HTN.out]
          go_simp
          exact hK _ _ (.inl (Ext.refl _)) rfl
        · -- 28 := Op.move t7
          have e7 := hf 7 rfl; simp [Act.eval] at e7
          go_simp; exact hK _ _ (.inl (Ext.refl _)) rfl
        · -- 29 := Op.slice 9 t28 (some (const (32:i64))) none none
          have e28 := hs 5 28 (needs_direct (by kernel_rfl)) rfl; simp [Act.eval] at e28
          go_simp
          exact hK _ _ (.inl (Ext.refl _)) (ext_is HCB.out rfl rfl)
        · -- None := Op.store 29 t4 t27
          have e4 := hf 4 rfl; have e27 := hs 4 27 (needs_direct (by kernel_rfl)) rfl; simp [Act.eval] at e4 e27
          have hz := hT rfl
          have hrz := row_of hz
          go_simp
          exact hK undef _ (.inr ⟨rfl, grown_setRow (grownBy_refl _ _) _⟩) (setRow_heap w2 (w.heap.size + 1) (tgC Tg.zero) (tgC rt) 29 _ hz)
        · -- 5 := Op.assign t29
          have e29 := hs 6 29 (needs_direct (by kernel_rfl)) rfl; simp [Act.eval] at e29
          go_simp; exact hK _ _ (.inl (Ext.refl _)) rfl
        · -- 6 := Op.assign (const (Value.bool true))
          go_simp; exact hK _ _ (.inl (Ext.refl _)) rfl
      intro vs w8 hle hs hU8
      have v8 := hs 8 (by omega) rfl
      have v9 := hs 9 (by omega) rfl
      simp only at v8 v9
      clear hs
      have hag8 : agg? w8 ⟨w.heap.size + 1, 0, none⟩ 32 = some (tgC rt) := (agg_of_row hU8 0 32 (by decide)).trans (tgC_part rt)
      have HB8 := hide (HB4.out.grown hle (by omega) (fun q e => by have := Option.some.inj e; omega))
      clear hle hU8
      simp only [putN, dstAt]
      go_simp
      go_wp2_with fail
      exact bodyPost_ret (v := unlockV (some (rt, cb))) (by simp [results, Tryd.results47, go_sem, unlockV, hag8]) rfl ⟨by rw [HU.out], HB8.out⟩
set_option maxRecDepth 100000 in
set_option maxHeartbeats 800000 in
theorem c_runlock (key : Tg) (s : List UInt8) (w : World) (hn : s.length < 1000000) :
    Calls Tryd.prog 48 #[tgV key, .string (txt s)] w fun e w' => e = .returned (unlockV (unlockO key s)) ∧ Below w.heap.size w w' := by
  obtain ⟨kt, hkt⟩ : ∃ kt, dkey key uParty [] = kt := ⟨_, rfl⟩
  have HKT := hide hkt
  have HFL := hide party_len
  have HL20 : Hid (s.length < 1048576) := hide (by omega)
  have HB2 : Hid (Below w.heap.size w ((w.alloc (.cells (tgC key) 29)).alloc (.cells (tgC Tg.zero) 29))) := hide (below2 _ _ _)
  have HZ2 := hide (heap_alloc_new (w.alloc (.cells (tgC key) 29)) (.cells (tgC Tg.zero) 29))
  go_enter Tryd.func48, Tryd.ntmps48
  go_wp2_with fail
  refine (c_rkey key uParty none 0 0 [] _ _ (Kd.Row.nil kStr (fun _ => True) _ none 0 (Nat.zero_le _)) (by decide) HFL.out).mono ?_
  rintro e w3 ⟨rfl, b3⟩
  rw [HKT.out]
  have HB3 := hide (bnext HB2.out b3)
  have HZ3 := hide ((b3.block _ (by simp only [World.size_alloc]; omega)).trans HZ2.out)
  have hs3 := b3.size
  simp only [World.size_alloc] at hs3
  clear b3 HB2 HZ2
  go_wp2_with fail
  refine (c_ropen kt s w3 HL20.out).mono ?_
  rintro e w4 ⟨rfl, b4⟩
  have HB4 := hide (HB3.out.trans (b4.mono (by omega)))
  have HZ4 : Hid (w4.heap[w.heap.size + 1]? = some (.cells (tgC Tg.zero) 29)) := hide ((b4.block _ (by omega)).trans (by have := HZ3.out; simpa only [World.size_alloc] using this))
  have hs4 : w.heap.size + 2 ≤ w4.heap.size := by have := b4.size; omega
  obtain ⟨o, ho⟩ : ∃ o, openB kt s = o := ⟨_, rfl⟩
  rw [ho]
  cases o with
  | none =>
    have HU : Hid (unlockO key s = none) := hide (by rw [unlockO, hkt, ho])
    rw [show openV none = .tuple #[.string (txt []), .bool false] from rfl]
    have hrz := row_of HZ4.out
    have hage : agg? (w4.setRow (w.heap.size + 1) (tgC Tg.zero)) ⟨w.heap.size + 1, 0, none⟩ 32 = some (tgC Tg.zero) := (agg_setRow_at _ _ _ _ _ (by rw [hrz]; rfl) (by decide)).trans (tgC_part Tg.zero)
    have HBE := hide (bsetRow HB4.out (Nat.le_succ w.heap.size) (tgC Tg.zero))
    clear hkt hn ho b4
    go_wp2_with fail
    exact bodyPost_ret (v := unlockV none) (by simp [results, Tryd.results48, go_sem, unlockV, hage]) rfl ⟨by rw [HU.out], HBE.out⟩
  | some p =>
    obtain ⟨L, hL⟩ : ∃ L, L = p.length := ⟨_, rfl⟩
    have hsz : (txt p).size = L := by rw [txt_size, hL]
    rw [show openV (some p) = .tuple #[.string (txt p), .bool true] from rfl]
    by_cases hp : L < 32
    · have HU : Hid (unlockO key s = none) := hide (by rw [unlockO, hkt, ho]; exact if_pos (by omega))
      clear hL
      have hrz := row_of HZ4.out
      have hage : agg? (w4.setRow (w.heap.size + 1) (tgC Tg.zero)) ⟨w.heap.size + 1, 0, none⟩ 32 = some (tgC Tg.zero) := (agg_setRow_at _ _ _ _ _ (by rw [hrz]; rfl) (by decide)).trans (tgC_part Tg.zero)
      have HBE := hide (bsetRow HB4.out (Nat.le_succ w.heap.size) (tgC Tg.zero))
      clear hkt hn ho b4
      go_wp2_with fail
      exact bodyPost_ret (v := unlockV none) (by simp [results, Tryd.results48, go_sem, unlockV, hage]) rfl ⟨by rw [HU.out], HBE.out⟩
    · obtain ⟨nb, hnb⟩ : ∃ nb, (p.drop 0).take (32 - 0) = nb := ⟨_, rfl⟩
      obtain ⟨cb, hcb⟩ : ∃ cb, (p.drop 32).take (L - 32) = cb := ⟨_, rfl⟩
      obtain ⟨rt, hrt⟩ : ∃ rt, tagL nb = rt := ⟨_, rfl⟩
      have l1 : nb.length = 32 := by rw [← hnb]; simp only [List.drop_zero, List.length_take]; omega
      have hzn : (txt nb).size = 32 := by rw [txt_size, l1]
      have HU : Hid (unlockO key s = some (rt, cb)) := hide (by
        rw [unlockO, hkt, ho]
        refine (if_neg (by omega)).trans ?_
        rw [← hrt, ← hnb, ← hcb, List.take_of_length_le (l := p.drop 32) (by rw [List.length_drop]; omega)]
        rfl)
      have HNB := hide hnb
      have HCB := hide hcb
      have HL32 := hide l1
      have HNL : Hid (nb = rt.l) := hide (by rw [← hrt, tagL_l l1])
      have HTN : Hid ((nb.map bv).toArray = tgC rt) := hide (by rw [← hrt, tgC, tagL_l l1])
      have hle1 : (32 : Int) ≤ (L : Int) := by omega
      have hLm : L < 9223372036854775807 := by
        have h1 := openB_len (key := kt) (s := s) (by rw [ho])
        omega
      clear hkt hn ho b4 hnb hcb hrt l1 hL
      go_wp2_with fail
      refine wp_region_st mixed 9 (some (w.heap.size + 1)) 6 (fun w' => w'.heap[w.heap.size + 1]? = some (.cells (tgC Tg.zero) 29)) (fun i v w' => match i with
        | 0 => v = .string (txt p)
        | 1 => v = .string (txt nb)
        | 2 => ∃ A c, v = .slice A 32 c ∧ kU8.Row (fun j => j ≠ w.heap.size + 1) w' A 32 c nb
        | 3 => v = tgV rt
        | 4 => v = .string (txt p)
        | 5 => v = .string (txt cb)
        | 6 => w'.heap[w.heap.size + 1]? = some (.cells (tgC rt) 29)
        | 7 => v = .string (txt cb)
        | _ => v = .bool true
        ) (regOk_of (by kernel_rfl)) rfl ?_ ?_ ?_ ?_ (fun w' => w'.heap[w.heap.size + 1]? = some (.cells (tgC rt) 29)) ?_ (fun _ _ h => h) (by decide) ?_ ?_
      · exact HZ4.out
      · intro w1 w2 h1 h2
        exact (h1.block _ (Array.getElem?_eq_some_iff.1 h2).1).trans h2
      · intro i v w1 w2 hne h1 h2
        split at h2 <;> first | exact h2 | exact absurd rfl hne | (obtain ⟨A, c, e, hr⟩ := h2; exact ⟨A, c, e, hr.keep fun j hj hlt => h1.block j hlt (fun e' => hj (Option.some.inj e'))⟩)
      · intro v w1 w2 h1 h2
        exact (h1.block _ (Array.getElem?_eq_some_iff.1 h2).1).trans h2
      · intro w1 w2 h1 h2
        exact (h1.block _ (Array.getElem?_eq_some_iff.1 h2).1).trans h2
      · refine ⟨fun a w2 hle hd hf hs hT K hK => ?_, fun a w2 hle hd hf hs hT K hK => ?_, fun a w2 hle hd hf hs hT K hK => ?_, fun a w2 hle hd hf hs hT K hK => ?_, fun a w2 hle hd hf hs hT K hK => ?_, fun a w2 hle hd hf hs hT K hK => ?_, fun a w2 hle hd hf hs hT K hK => ?_, fun a w2 hle hd hf hs hT K hK => ?_, fun a w2 hle hd hf hs hT K hK => ?_, trivial⟩
        all_goals clear hd
        · -- 24 := Op.move t7
          have e7 := hf 7 rfl; simp [Act.eval] at e7
          go_simp; exact hK _ _ (.inl (Ext.refl _)) rfl
        · -- 25 := Op.slice 9 t24 none (some (const (32:i64))) none
          have e24 := hs 0 24 (needs_direct (by kernel_rfl)) rfl; simp [Act.eval] at e24
          go_simp
          exact hK _ _ (.inl (Ext.refl _)) (ext_is HNB.out rfl rfl)
        · -- 26 := Op.convert 9 22 t25
          have e25 := hs 1 25 (needs_direct (by kernel_rfl)) rfl; simp [Act.eval] at e25
          have f25 := hs 1 25 (needs_direct (by kernel_rfl)) rfl
          refine wp_tobytes 9 22 _ rfl (txt nb) f25 Tryd.underlying9 Tryd.underlying22 Tryd.underlying5 (by rw [hzn]; decide) ?_
          intro c w' h1 h2
          rw [byt_txt, hzn] at h1
          rw [hzn]
          have hsz2 := hle.size
          exact hK _ _ (.inl h2) ⟨_, c, rfl, h1.more fun j hj => by omega⟩
        · -- 27 := Op.call { value (Operand.func 76), args := #[t26], argTypes := #[22] }
          obtain ⟨A26, c26, e26, hr26⟩ := hs 2 26 (needs_direct (by kernel_rfl)) rfl; simp [Act.eval] at e26
          go_simp
          rw [HNL.out] at hr26
          refine (c_rtag rt _ c26 _ w2 hr26).mono ?_
          rintro z w9 ⟨rfl, b9⟩
          exact hK _ _ (.inl b9) rfl
        · -- 28 := Op.move t7
          have e7 := hf 7 rfl; simp [Act.eval] at e7
          go_simp; exact hK _ _ (.inl (Ext.refl _)) rfl
        · -- 29 := Op.slice 9 t28 (some (const (32:i64))) none none
          have e28 := hs 4 28 (needs_direct (by kernel_rfl)) rfl; simp [Act.eval] at e28
          go_simp
          exact hK _ _ (.inl (Ext.refl _)) (ext_is HCB.out rfl rfl)
        · -- None := Op.store 29 t4 t27
          have e4 := hf 4 rfl; have e27 := hs 3 27 (needs_direct (by kernel_rfl)) rfl; simp [Act.eval] at e4 e27
          have hz := hT rfl
          have hrz := row_of hz
          go_simp
          exact hK undef _ (.inr ⟨rfl, grown_setRow (grownBy_refl _ _) _⟩) (setRow_heap w2 (w.heap.size + 1) (tgC Tg.zero) (tgC rt) 29 _ hz)
        · -- 5 := Op.assign t29
          have e29 := hs 5 29 (needs_direct (by kernel_rfl)) rfl; simp [Act.eval] at e29
          go_simp; exact hK _ _ (.inl (Ext.refl _)) rfl
        · -- 6 := Op.assign (const (Value.bool true))
          go_simp; exact hK _ _ (.inl (Ext.refl _)) rfl
      intro vs w8 hle hs hU8
      have v7 := hs 7 (by omega) rfl
      have v8 := hs 8 (by omega) rfl
      simp only at v7 v8
      clear hs
      have hag8 : agg? w8 ⟨w.heap.size + 1, 0, none⟩ 32 = some (tgC rt) := (agg_of_row hU8 0 32 (by decide)).trans (tgC_part rt)
      have HB8 := hide (HB4.out.grown hle (by omega) (fun q e => by have := Option.some.inj e; omega))
      clear hle hU8
      simp only [putN, dstAt]
      go_simp
      go_wp2_with fail
      exact bodyPost_ret (v := unlockV (some (rt, cb))) (by simp [results, Tryd.results48, go_sem, unlockV, hag8]) rfl ⟨by rw [HU.out], HB8.out⟩
end Go.Proofs.YtdkeflhgengblaaDoor
namespace Go.Proofs.YtdkeflhgengblaaDoor
open Go.RowKit
attribute [local go_sem ↓] ld8 ld32 ld64 ld73
attribute [local go_sem] run_ldAgg run_storeAgg agg_alloc_at agg_alloc_past agg_drew agg_setCell row_alloc_at row_alloc_past row_drew setRow_alloc_at setRow_alloc_past setRow_drew agg_setRow_at agg_setRow_far cell_setRow_at cell_setRow_far row_setRow_far size_setRow s8C_size s8C_part s8C_one s8C_splice0 s8C_ne dgC_size dgC_72 dgC_part dgC_h dgC_r dgC_splice_h dgC_set dgC_one dgC_splice0 dgC_ne zero_dg
attribute [local go_sem] tgC_size tgC_one tgC_part tgC_splice tgC_splice_any zero_tg tgC_ne

/-- What the service finds. -/
def revealO (key : Tg) (s : List UInt8) : Option Tg :=
  match openB (dkey key uVault []) s with
  | none => none
  | some p => tagOf p
theorem tagOf_none {p : List UInt8} (h : p.length ≠ 32) : tagOf p = none := by rw [tagOf, dif_neg h]
set_option maxRecDepth 100000 in
set_option maxHeartbeats 800000 in
theorem c_reveal (key : Tg) (s : List UInt8) (w : World) (hn : s.length < 1000000) (hP : PrimesAt w) :
    Calls Tryd.prog 49 #[tgV key, .string (txt s)] w fun e w' => e = .returned (tagV (revealO key s)) ∧ Below w.heap.size w w' := by
  have HP := hide hP
  have hw0 := hP.1
  clear hP
  obtain ⟨kt, hkt⟩ : ∃ kt, dkey key uVault [] = kt := ⟨_, rfl⟩
  have HKT := hide hkt
  have HFL := hide vault_len
  have HL20 : Hid (s.length < 1048576) := hide (by omega)
  have HB2 : Hid (Below w.heap.size w ((w.alloc (.cells (tgC key) 29)).alloc (.cells (tgC Tg.zero) 29))) := hide (below2 _ _ _)
  have HZ2 := hide (heap_alloc_new (w.alloc (.cells (tgC key) 29)) (.cells (tgC Tg.zero) 29))
  go_enter Tryd.func49, Tryd.ntmps49
  go_wp2_with fail
  refine (c_dkey key uVault none 0 0 [] _ _ (Kd.Row.nil kStr (fun _ => True) _ none 0 (Nat.zero_le _)) (by decide) (HP.out.ext HB2.out) HFL.out).mono ?_
  rintro e w3 ⟨rfl, b3⟩
  rw [HKT.out]
  have HB3 := hide (bnext HB2.out b3)
  have HZ3 := hide ((b3.block _ (by simp only [World.size_alloc]; omega)).trans HZ2.out)
  have hs3 := b3.size
  simp only [World.size_alloc] at hs3
  clear b3 HB2 HZ2
  go_wp2_with fail
  refine (c_open kt s w3 HL20.out (HP.out.ext HB3.out)).mono ?_
  rintro e w4 ⟨rfl, b4⟩
  have HB4 := hide (HB3.out.trans (b4.mono (by omega)))
  have HZ4 : Hid (w4.heap[w.heap.size + 1]? = some (.cells (tgC Tg.zero) 29)) := hide ((b4.block _ (by omega)).trans (by have := HZ3.out; simpa only [World.size_alloc] using this))
  have hs4 : w.heap.size + 2 ≤ w4.heap.size := by have := b4.size; omega
  obtain ⟨o, ho⟩ : ∃ o, openB kt s = o := ⟨_, rfl⟩
  rw [ho]
  cases o with
  | none =>
    have HU : Hid (revealO key s = none) := hide (by rw [revealO, hkt, ho])
    rw [show openV none = .tuple #[.string (txt []), .bool false] from rfl]
    obtain ⟨p, hp⟩ : ∃ p : List UInt8, p = [] := ⟨_, rfl⟩
    have hp63 : (txt p).size ≤ 9223372036854775807 := by rw [hp]; decide
    have HT : Hid (tagOf p = none) := hide (by rw [hp]; exact tagOf_none (by decide))
    rw [← hp]
    clear hkt hn ho b4 hp
    go_wp2_with ((with_reducible show wpList _ _ _ (Oper.mk (some 17) _ _ _ _ _ :: _) _ _); go_loud (refine at_tobytes (P := Tryd.prog) 9 22 (txt p) rfl Tryd.underlying9 Tryd.underlying22 Tryd.underlying5 hp63 w4.heap.size rfl ?_))
    intro c5 w5 h5 b5 _
    rw [byt_txt] at h5
    have HR5 := hide h5
    have HB5 := hide (HB4.out.trans (b5.mono (by omega)))
    have HZ5 := hide ((b5.block _ (by omega)).trans HZ4.out)
    have hs5 := b5.size
    clear h5 b5
    go_wp2_with fail
    refine (c_tagof _ _ c5 p _ w5 HR5.out).mono ?_
    rintro e w6 ⟨rfl, b6⟩
    rw [HT.out, show tagV none = .tuple #[tgV Tg.zero, .bool false] from rfl]
    have hz6 := (b6.block _ (by omega)).trans HZ5.out
    have hrz := row_of hz6
    obtain ⟨W7, hW7⟩ : ∃ W7, W7 = w6.setRow (w.heap.size + 1) (tgC Tg.zero) := ⟨_, rfl⟩
    have k7 : W7.heap[w.heap.size + 1]? = some (.cells (tgC Tg.zero) 29) := by rw [hW7]; exact setRow_heap w6 (w.heap.size + 1) (tgC Tg.zero) (tgC Tg.zero) 29 _ hz6
    have hag7 : agg? W7 ⟨w.heap.size + 1, 0, none⟩ 32 = some (tgC Tg.zero) := (agg_of_row k7 0 32 (by decide)).trans (tgC_part _)
    have hrz7 := row_of k7
    have hw77 : W7.setRow (w.heap.size + 1) (tgC Tg.zero) = W7 := setRow_self' _ _ _ k7
    have HB7 : Hid (Below w.heap.size w W7) := hide (by rw [hW7]; exact bsetRow (HB5.out.trans (b6.mono (by omega))) (Nat.le_succ w.heap.size) _)
    have hs7 := hW7.symm
    clear hz6 b6 hW7 k7
    go_wp2_with fail
    exact bodyPost_ret (v := tagV none) (by simp [results, Tryd.results49, go_sem, tagV, hag7]) rfl ⟨by rw [HU.out], HB7.out⟩
  | some p =>
    rw [show openV (some p) = .tuple #[.string (txt p), .bool true] from rfl]
    have HU0 : Hid (revealO key s = tagOf p) := hide (by rw [revealO, hkt, ho])
    have hp63 : (txt p).size ≤ 9223372036854775807 := by
      have h1 := openB_len (key := kt) (s := s) (by rw [ho])
      rw [txt_size]; omega
    clear hkt hn ho b4
    cases hq : tagOf p with
    | none =>
      have HT := hide hq
      have HU : Hid (revealO key s = none) := hide (by rw [HU0.out, hq])
      clear hq
      go_wp2_with ((with_reducible show wpList _ _ _ (Oper.mk (some 17) _ _ _ _ _ :: _) _ _); go_loud (refine at_tobytes (P := Tryd.prog) 9 22 (txt p) rfl Tryd.underlying9 Tryd.underlying22 Tryd.underlying5 hp63 w4.heap.size rfl ?_))
      intro c5 w5 h5 b5 _
      rw [byt_txt] at h5
      have HR5 := hide h5
      have HB5 := hide (HB4.out.trans (b5.mono (by omega)))
      have HZ5 := hide ((b5.block _ (by omega)).trans HZ4.out)
      have hs5 := b5.size
      clear h5 b5
      go_wp2_with fail
      refine (c_tagof _ _ c5 p _ w5 HR5.out).mono ?_
      rintro e w6 ⟨rfl, b6⟩
      rw [HT.out, show tagV none = .tuple #[tgV Tg.zero, .bool false] from rfl]
      have hz6 := (b6.block _ (by omega)).trans HZ5.out
      have hrz := row_of hz6
      obtain ⟨W7, hW7⟩ : ∃ W7, W7 = w6.setRow (w.heap.size + 1) (tgC Tg.zero) := ⟨_, rfl⟩
      have k7 : W7.heap[w.heap.size + 1]? = some (.cells (tgC Tg.zero) 29) := by rw [hW7]; exact setRow_heap w6 (w.heap.size + 1) (tgC Tg.zero) (tgC Tg.zero) 29 _ hz6
      have hag7 : agg? W7 ⟨w.heap.size + 1, 0, none⟩ 32 = some (tgC Tg.zero) := (agg_of_row k7 0 32 (by decide)).trans (tgC_part _)
      have hrz7 := row_of k7
      have hw77 : W7.setRow (w.heap.size + 1) (tgC Tg.zero) = W7 := setRow_self' _ _ _ k7
      have HB7 : Hid (Below w.heap.size w W7) := hide (by rw [hW7]; exact bsetRow (HB5.out.trans (b6.mono (by omega))) (Nat.le_succ w.heap.size) _)
      have hs7 := hW7.symm
      clear hz6 b6 hW7 k7
      go_wp2_with fail
      exact bodyPost_ret (v := tagV none) (by simp [results, Tryd.results49, go_sem, tagV, hag7]) rfl ⟨by rw [HU.out], HB7.out⟩
    | some t =>
      have HT := hide hq
      have HU : Hid (revealO key s = some t) := hide (by rw [HU0.out, hq])
      clear hq
      go_wp2_with ((with_reducible show wpList _ _ _ (Oper.mk (some 17) _ _ _ _ _ :: _) _ _); go_loud (refine at_tobytes (P := Tryd.prog) 9 22 (txt p) rfl Tryd.underlying9 Tryd.underlying22 Tryd.underlying5 hp63 w4.heap.size rfl ?_))
      intro c5 w5 h5 b5 _
      rw [byt_txt] at h5
      have HR5 := hide h5
      have HB5 := hide (HB4.out.trans (b5.mono (by omega)))
      have HZ5 := hide ((b5.block _ (by omega)).trans HZ4.out)
      have hs5 := b5.size
      clear h5 b5
      go_wp2_with fail
      refine (c_tagof _ _ c5 p _ w5 HR5.out).mono ?_
      rintro e w6 ⟨rfl, b6⟩
      rw [HT.out, show tagV (some t) = .tuple #[tgV t, .bool true] from rfl]
      have hz6 := (b6.block _ (by omega)).trans HZ5.out
      have hrz := row_of hz6
      obtain ⟨W7, hW7⟩ : ∃ W7, W7 = w6.setRow (w.heap.size + 1) (tgC t) := ⟨_, rfl⟩
      have k7 : W7.heap[w.heap.size + 1]? = some (.cells (tgC t) 29) := by rw [hW7]; exact setRow_heap w6 (w.heap.size + 1) (tgC Tg.zero) (tgC t) 29 _ hz6
      have hag7 : agg? W7 ⟨w.heap.size + 1, 0, none⟩ 32 = some (tgC t) := (agg_of_row k7 0 32 (by decide)).trans (tgC_part _)
      have hrz7 := row_of k7
      have hw77 : W7.setRow (w.heap.size + 1) (tgC t) = W7 := setRow_self' _ _ _ k7
      have HB7 : Hid (Below w.heap.size w W7) := hide (by rw [hW7]; exact bsetRow (HB5.out.trans (b6.mono (by omega))) (Nat.le_succ w.heap.size) _)
      have hs7 := hW7.symm
      clear hz6 b6 hW7 k7
      go_wp2_with fail
      exact bodyPost_ret (v := tagV (some t)) (by simp [results, Tryd.results49, go_sem, tagV, hag7]) rfl ⟨by rw [HU.out], HB7.out⟩
set_option maxRecDepth 100000 in
set_option maxHeartbeats 800000 in
theorem c_rreveal (key : Tg) (s : List UInt8) (w : World) (hn : s.length < 1000000) :
    Calls Tryd.prog 50 #[tgV key, .string (txt s)] w fun e w' => e = .returned (tagV (revealO key s)) ∧ Below w.heap.size w w' := by
  obtain ⟨kt, hkt⟩ : ∃ kt, dkey key uVault [] = kt := ⟨_, rfl⟩
  have HKT := hide hkt
  have HFL := hide vault_len
  have HL20 : Hid (s.length < 1048576) := hide (by omega)
  have HB2 : Hid (Below w.heap.size w ((w.alloc (.cells (tgC key) 29)).alloc (.cells (tgC Tg.zero) 29))) := hide (below2 _ _ _)
  have HZ2 := hide (heap_alloc_new (w.alloc (.cells (tgC key) 29)) (.cells (tgC Tg.zero) 29))
  go_enter Tryd.func50, Tryd.ntmps50
  go_wp2_with fail
  refine (c_rkey key uVault none 0 0 [] _ _ (Kd.Row.nil kStr (fun _ => True) _ none 0 (Nat.zero_le _)) (by decide) HFL.out).mono ?_
  rintro e w3 ⟨rfl, b3⟩
  rw [HKT.out]
  have HB3 := hide (bnext HB2.out b3)
  have HZ3 := hide ((b3.block _ (by simp only [World.size_alloc]; omega)).trans HZ2.out)
  have hs3 := b3.size
  simp only [World.size_alloc] at hs3
  clear b3 HB2 HZ2
  go_wp2_with fail
  refine (c_ropen kt s w3 HL20.out).mono ?_
  rintro e w4 ⟨rfl, b4⟩
  have HB4 := hide (HB3.out.trans (b4.mono (by omega)))
  have HZ4 : Hid (w4.heap[w.heap.size + 1]? = some (.cells (tgC Tg.zero) 29)) := hide ((b4.block _ (by omega)).trans (by have := HZ3.out; simpa only [World.size_alloc] using this))
  have hs4 : w.heap.size + 2 ≤ w4.heap.size := by have := b4.size; omega
  obtain ⟨o, ho⟩ : ∃ o, openB kt s = o := ⟨_, rfl⟩
  rw [ho]
  cases o with
  | none =>
    have HU : Hid (revealO key s = none) := hide (by rw [revealO, hkt, ho])
    rw [show openV none = .tuple #[.string (txt []), .bool false] from rfl]
    have hrz := row_of HZ4.out
    have hage : agg? (w4.setRow (w.heap.size + 1) (tgC Tg.zero)) ⟨w.heap.size + 1, 0, none⟩ 32 = some (tgC Tg.zero) := (agg_setRow_at _ _ _ _ _ (by rw [hrz]; rfl) (by decide)).trans (tgC_part Tg.zero)
    have HBE := hide (bsetRow HB4.out (Nat.le_succ w.heap.size) (tgC Tg.zero))
    clear hkt hn ho b4
    go_wp2_with fail
    exact bodyPost_ret (v := tagV none) (by simp [results, Tryd.results50, go_sem, tagV, hage]) rfl ⟨by rw [HU.out], HBE.out⟩
  | some p =>
    rw [show openV (some p) = .tuple #[.string (txt p), .bool true] from rfl]
    obtain ⟨L, hL⟩ : ∃ L, L = p.length := ⟨_, rfl⟩
    have hsz : (txt p).size = L := by rw [txt_size, hL]
    by_cases h32 : L = 32
    · subst h32
      obtain ⟨t, ht⟩ : ∃ t : Tg, t.l = p := ⟨⟨p, hL.symm⟩, rfl⟩
      have HTL := hide ht
      have HU : Hid (revealO key s = some t) := hide (by
        rw [revealO, hkt, ho]
        show tagOf p = some t
        subst ht
        rw [tagOf, dif_pos t.len])
      have hp63 : (txt p).size ≤ 9223372036854775807 := by rw [hsz]; decide
      clear hkt hn ho b4 hL ht
      go_wp2_with ((with_reducible show wpList _ _ _ (Oper.mk (some 24) _ _ _ _ _ :: _) _ _); go_loud (refine at_tobytes (P := Tryd.prog) 9 22 (txt p) rfl Tryd.underlying9 Tryd.underlying22 Tryd.underlying5 hp63 w4.heap.size rfl ?_))
      intro c5 w5 h5 b5 _
      rw [byt_txt, hsz, ← HTL.out] at h5
      rw [hsz]
      have HR5 := hide h5
      have HB5 := hide (HB4.out.trans (b5.mono (by omega)))
      have HZ5 := hide ((b5.block _ (by omega)).trans HZ4.out)
      have hs5 := b5.size
      clear h5 b5
      go_wp2_with fail
      refine (c_rtag t _ c5 _ w5 HR5.out).mono ?_
      rintro e w6 ⟨rfl, b6⟩
      have hz6 := (b6.block _ (by omega)).trans HZ5.out
      have hrz := row_of hz6
      have hag6 : agg? (w6.setRow (w.heap.size + 1) (tgC t)) ⟨w.heap.size + 1, 0, none⟩ 32 = some (tgC t) := (agg_setRow_at _ _ _ _ _ (by rw [hrz]; rfl) (by decide)).trans (tgC_part t)
      have HB6 := hide (bsetRow (HB5.out.trans (b6.mono (by omega))) (Nat.le_succ w.heap.size) (tgC t))
      clear hz6 b6
      go_wp2_with fail
      exact bodyPost_ret (v := tagV (some t)) (by simp [results, Tryd.results50, go_sem, tagV, hag6]) rfl ⟨by rw [HU.out], HB6.out⟩
    · have HU : Hid (revealO key s = none) := hide (by rw [revealO, hkt, ho]; exact tagOf_none (by omega))
      clear hL
      have hrz := row_of HZ4.out
      have hage : agg? (w4.setRow (w.heap.size + 1) (tgC Tg.zero)) ⟨w.heap.size + 1, 0, none⟩ 32 = some (tgC Tg.zero) := (agg_setRow_at _ _ _ _ _ (by rw [hrz]; rfl) (by decide)).trans (tgC_part Tg.zero)
      have HBE := hide (bsetRow HB4.out (Nat.le_succ w.heap.size) (tgC Tg.zero))
      clear hkt hn ho b4
      go_wp2_with fail
      exact bodyPost_ret (v := tagV none) (by simp [results, Tryd.results50, go_sem, tagV, hage]) rfl ⟨by rw [HU.out], HBE.out⟩
end Go.Proofs.YtdkeflhgengblaaDoor
namespace Go.Proofs.YtdkeflhgengblaaDoor
open Go.RowKit
attribute [local go_sem ↓] ld8 ld32 ld64 ld73
attribute [local go_sem] run_ldAgg run_storeAgg agg_alloc_at agg_alloc_past agg_drew agg_setCell row_alloc_at row_alloc_past row_drew setRow_alloc_at setRow_alloc_past setRow_drew agg_setRow_at agg_setRow_far cell_setRow_at cell_setRow_far row_setRow_far size_setRow s8C_size s8C_part s8C_one s8C_splice0 s8C_ne dgC_size dgC_72 dgC_part dgC_h dgC_r dgC_splice_h dgC_set dgC_one dgC_splice0 dgC_ne zero_dg
attribute [local go_sem] tgC_size tgC_one tgC_part tgC_splice tgC_splice_any zero_tg tgC_ne
attribute [local go_sem ↓] ld36
attribute [local go_sem] tokC_size tokC_0 tokC_1 tokC_2 tokC_3 tokC_g0 tokC_g1 tokC_g2 tokC_g3 tokC_part tokC_tag tokC_set0 tokC_set1 tokC_set2 tokC_set3 tokC_splice tokC_splice0 zero_tok tokC_all tokC_ne

def abcd : List UInt8 := [97, 98, 99, 100]
def deal0 : Deal := ⟨0, Tg.zero, Tg.zero, abcd, Tg.zero, Tg.zero⟩
set_option maxRecDepth 100000 in
theorem deal_set : Tryd.zeroCells72.setIfInBounds 65 (.string ⟨#[97, 98, 99, 100]⟩) = dealA deal0 := by kernel_rfl
theorem alive_add : tAddE Tok.zero deal0 = 0 ∧ ∃ x : Cav, (tAddR Tok.zero deal0).cavs = [x] ∧ x.third = true ∧ x.id.size = 100 ∧ x.vault.size = 96 := by
  obtain ⟨x, hx⟩ : ∃ x, x = dealCav Tg.zero deal0 := ⟨_, rfl⟩
  have h1 : x.third = true := by rw [hx]; rfl
  have h2 : x.id.size = 100 := by
    rw [hx]
    show (txt (lockB _ _ _ _)).size = 100
    rw [txt_size, lockB, sealB_len, List.length_append, deal0.root.len]
    rfl
  have h3 : x.vault.size = 96 := by
    rw [hx]
    show (txt (hideB _ _ _)).size = 96
    rw [txt_size, hideB, sealB_len, deal0.root.len]
  have h4 : x.text = ByteArray.empty := by rw [hx]; rfl
  have hck : checkT (more1 Tok.zero x) = true := by
    have hc : canC x = true := by
      rw [canC, if_pos h1, h4, h2, h3]
      rfl
    simp only [checkT, more1, Tok.zero, List.nil_append, List.all_cons, List.all_nil, hc, Bool.and_true]
    rfl
  have e1 : tAddR Tok.zero deal0 = addR Tok.zero x := by rw [hx]; exact if_neg (by decide)
  have e2 : tAddE Tok.zero deal0 = addE Tok.zero x := by rw [hx]; exact if_neg (by decide)
  have e3 : addR Tok.zero x = more1 Tok.zero x := (if_neg (by decide)).trans (if_pos hck)
  have e4 : addE Tok.zero x = 0 := (if_neg (by decide)).trans (if_pos hck)
  exact ⟨e2.trans e4, x, by rw [e1, e3]; rfl, h1, h2, h3⟩
set_option maxRecDepth 100000 in
set_option maxHeartbeats 1600000 in
theorem c_thirdalive (w : World) (hP : PrimesAt w) : Calls Tryd.prog 44 #[] w fun e w' => e = .returned (.bool true) ∧ Below w.heap.size w w' := by
  have HP := hide hP
  have hw0 := hP.1
  clear hP
  obtain ⟨hE, x, hx, h1, h2, h3⟩ := alive_add
  obtain ⟨CD, hCD⟩ : ∃ CD, CD = dealA deal0 := ⟨_, rfl⟩
  have hds := deal_set
  rw [← hCD] at hds
  have HCD := hide hCD
  have HE := hide hE
  obtain ⟨Rr, hRr⟩ : ∃ Rr, tAddR Tok.zero deal0 = Rr := ⟨_, rfl⟩
  rw [hRr] at hx
  have HRr := hide hRr
  have HX := hide hx
  clear hCD hE hRr hx
  go_enter Tryd.func44, Tryd.ntmps44
  go_wp2_with fail
  rw [HCD.out]
  refine (c_tadd Tok.zero deal0 none 0 0 (fun _ => True) w (.nil _ _ _ _ _ (Nat.zero_le _)) (by decide) (by decide) (by decide) HP.out).mono ?_
  rintro e w1 ⟨A1, n1, c1, rfl, hr1, b1⟩
  rw [HRr.out] at hr1
  rw [HRr.out, HE.out]
  obtain ⟨C, hC⟩ : ∃ C, C = tokA Rr A1 n1 c1 := ⟨_, rfl⟩
  rw [show tokV Rr A1 n1 c1 = .agg C from by rw [hC]]
  have hzC : C.size = 36 := by rw [hC]; exact tokC_size _ _ _ _ _
  have hoC : oneAll C = true := by rw [hC]; exact tokC_all _ _ _ _ _ _ _ _
  have hspC : splice tokZ 0 C = C := by rw [hC]; exact tokC_splice0 _ _ _ _ _ _ (tokC_size _ _ _ _ _)
  have hg2 : C[2]'(by rw [hzC]; decide) = .slice A1 n1 c1 := by
    have h3 : C[2]? = some (.slice A1 n1 c1) := by rw [hC]; exact tokC_2 _ _ _ _ _
    rw [Array.getElem?_eq_getElem (by rw [hzC]; decide)] at h3
    exact Option.some.inj h3
  rw [HX.out] at hr1
  obtain rfl : n1 = 1 := hr1.1.symm
  obtain ⟨b', q, csx, hix, -, hbl, hK, hra⟩ := (hr1.alloc (.cells C 44)).index (P := Tryd.prog) Tryd.underlying42 (E := 83) cav_size (i := 0) (x := x) rfl
  have hKe := hK.1
  subst hKe
  have a0 := hra 0 _ rfl
  have a3 := hra 3 _ rfl
  have a4 := hra 4 _ rfl
  simp only [Nat.add_zero] at a0
  have hix0 : ∀ wx : World, (Instr.indexAt 42 (.slice A1 1 c1) (.int .i64 0)).run Tryd.prog wx = .ok (.pointer (some ⟨b', q, none⟩)) wx := hix
  rw [h1] at a0
  have HB1 := hide ((b1.alloc b1.size (.cells C 44)))
  clear hix hK hra hC b1 hr1
  go_wp2_with fail
  go_ret
  exact ⟨rfl, HB1.out⟩
theorem unlockV_eq (o : Option (Tg × List UInt8)) : unlockV o = .tuple #[tgV ((o.map (·.1)).getD Tg.zero), .string (txt ((o.map (·.2)).getD [])), .bool o.isSome] := by
  cases o with
  | none => rfl
  | some p => rfl
theorem tagV_eq (o : Option Tg) : tagV o = .tuple #[tgV (o.getD Tg.zero), .bool o.isSome] := by
  cases o <;> rfl
set_option maxRecDepth 100000 in
set_option maxHeartbeats 3200000 in
theorem c_thirdopens (key : Tg) (d : Deal) (s : List UInt8) (w : World) (hm : s.length ≤ maxLen) (hcm : d.cond.length ≤ maxLen) (hP : PrimesAt w) :
    Calls Tryd.prog 9 #[tgV key, .agg (dealA d), .string (txt s)] w fun e w' => e = .returned (.bool true) ∧ Below w.heap.size w w' := by
  have HP0 := hide hP
  have hw0 := hP.1
  clear hP
  obtain ⟨pn, hpn⟩ : ∃ pn, d.party = pn := ⟨_, rfl⟩
  obtain ⟨dk, hdk⟩ : ∃ x, d.key = x := ⟨_, rfl⟩
  obtain ⟨dr, hdr⟩ : ∃ x, d.root = x := ⟨_, rfl⟩
  obtain ⟨cd, hcd⟩ : ∃ x, d.cond = x := ⟨_, rfl⟩
  obtain ⟨da, hda⟩ : ∃ x, d.ask = x := ⟨_, rfl⟩
  obtain ⟨dv, hdv⟩ : ∃ x, d.vault = x := ⟨_, rfl⟩
  obtain ⟨CD, hCD⟩ : ∃ CD, CD = dealC (.int .u64 (pn : Int)) dk dr (.string (txt cd)) da dv := ⟨_, rfl⟩
  have hDA : dealA d = CD := by rw [hCD, ← hpn, ← hdk, ← hdr, ← hcd, ← hda, ← hdv]
  rw [hcd] at hcm
  rw [hDA]
  obtain ⟨L, hL⟩ : ∃ L, cd.length = L := ⟨_, rfl⟩
  obtain ⟨n, hn⟩ : ∃ n, s.length = n := ⟨_, rfl⟩
  have hsz1 : (txt cd).size = L := by rw [txt_size, hL]
  have hsz2 : (txt s).size = n := by rw [txt_size, hn]
  rw [hL] at hcm
  rw [hn] at hm
  simp only [maxLen] at hm hcm
  have hzD : CD.size = 130 := by rw [hCD]; exact dealC_size _ _ _ _ _ _
  have hg65 : CD[65]'(by rw [hzD]; decide) = .string (txt cd) := by
    have h3 : CD[65]? = some (.string (txt cd)) := by rw [hCD]; exact dealC_65 _ _ _ _ _ _
    rw [Array.getElem?_eq_getElem (by rw [hzD]; decide)] at h3
    exact Option.some.inj h3
  have HLL := hide hL
  have HNN := hide hn
  have HCDE := hide hCD
  obtain ⟨W1, hW1⟩ : ∃ W1, W1 = (w.alloc (.cells (tgC key) 29)).alloc (.cells CD 70) := ⟨_, rfl⟩
  have HB1 : Hid (Below w.heap.size w W1) := hide (by rw [hW1]; exact below2 _ _ _)
  have hs1 : W1.heap.size = w.heap.size + 2 := by rw [hW1]; simp only [World.size_alloc]
  have K1 : Hid (W1.heap[w.heap.size]? = some (.cells (tgC key) 29)) := hide (by
    rw [hW1, Below.heap_alloc _ _ _ (by simp only [World.size_alloc]; omega)]; exact heap_alloc_new _ _)
  have D1 : Hid (W1.heap[w.heap.size + 1]? = some (.cells CD 70)) := hide (by rw [hW1]; exact heap_new2 _ _ _)
  have HW1 := hide hW1
  clear hpn hdk hdr hcd hda hdv hCD hDA hL hn hW1
  go_enter Tryd.func9, Tryd.ntmps9
  go_wp2_with fail
  rw [← HW1.out]
  refine (c_thirdalive W1 (HP0.out.ext HB1.out)).mono ?_
  rintro e w2 ⟨rfl, b2⟩
  have hs2 := b2.size
  have K2 := hide ((b2.block _ (by omega)).trans K1.out)
  have D2 := hide ((b2.block _ (by omega)).trans D1.out)
  have HB2 := hide (HB1.out.trans (b2.mono (by omega)))
  have hw2 : w.heap.size + 2 ≤ w2.heap.size := by omega
  have hcc2 : w2.cell? ⟨w.heap.size + 1, 65, none⟩ = some (.string (txt cd)) := (cell_of_row _ _ _ _ _ _ D2.out).trans (by rw [HCDE.out]; exact dealC_65 _ _ _ _ _ _)
  have hag2 : agg? w2 ⟨w.heap.size, 0, none⟩ 32 = some (tgC key) := (agg_of_row K2.out 0 32 (by decide)).trans (tgC_part key)
  clear b2 K1 D1 HB1 HW1
  by_cases h600 : 600 < n
  · go_wp2_with fail
    go_ret
    exact ⟨rfl, HB2.out⟩
  by_cases h300 : 300 < L
  · go_wp2_with fail
    go_ret
    exact ⟨rfl, HB2.out⟩
  have HSL : Hid (s.length < 1000000) := hide (by have := HNN.out; omega)
  have HCL : Hid (cd.length < 1000000) := hide (by have := HLL.out; omega)
  obtain ⟨o1, ho1⟩ : ∃ o, unlockO key s = o := ⟨_, rfl⟩
  obtain ⟨r1, hr1⟩ : ∃ r, (o1.map (·.1)).getD Tg.zero = r := ⟨_, rfl⟩
  obtain ⟨c1, hc1⟩ : ∃ r, (o1.map (·.2)).getD [] = r := ⟨_, rfl⟩
  obtain ⟨k1, hk1⟩ : ∃ r, o1.isSome = r := ⟨_, rfl⟩
  have HU : Hid (unlockV (unlockO key s) = .tuple #[tgV r1, .string (txt c1), .bool k1]) := hide (by rw [ho1, unlockV_eq, hr1, hc1, hk1])
  obtain ⟨o2, ho2⟩ : ∃ o, revealO key s = o := ⟨_, rfl⟩
  obtain ⟨r2, hr2⟩ : ∃ r, o2.getD Tg.zero = r := ⟨_, rfl⟩
  obtain ⟨k2, hk2⟩ : ∃ r, o2.isSome = r := ⟨_, rfl⟩
  have HV : Hid (tagV (revealO key s) = .tuple #[tgV r2, .bool k2]) := hide (by rw [ho2, tagV_eq, hr2, hk2])
  obtain ⟨lk, hlk⟩ : ∃ x, lockB key da dr cd = x := ⟨_, rfl⟩
  obtain ⟨hd, hhd⟩ : ∃ x, hideB key dv dr = x := ⟨_, rfl⟩
  have HLK := hide hlk
  have HHD := hide hhd
  clear ho1 hr1 hc1 hk1 ho2 hr2 hk2 hlk hhd
  go_wp2_with fail
  refine (c_unlock key s w2 HSL.out (HP0.out.ext HB2.out)).mono ?_
  rintro e w3 ⟨rfl, b3⟩
  rw [HU.out]
  have hs3 := b3.size
  have q3 : Below w2.heap.size w2 (w3.alloc (.cells (tgC r1) 29)) := b3.alloc hs3 _
  have K3 := hide ((q3.block _ (by omega)).trans K2.out)
  have D3 := hide ((q3.block _ (by omega)).trans D2.out)
  have G3 := hide (heap_alloc_new w3 (.cells (tgC r1) 29))
  have HB3 := hide (HB2.out.trans (q3.mono (by omega)))
  have hag3 : agg? (w3.alloc (.cells (tgC r1) 29)) ⟨w.heap.size, 0, none⟩ 32 = some (tgC key) := (agg_of_row K3.out 0 32 (by decide)).trans (tgC_part key)
  clear b3 q3 K2 D2 HB2 hag2 hcc2
  go_wp2_with fail
  refine (c_runlock key s _ HSL.out).mono ?_
  rintro e w4 ⟨rfl, b4⟩
  rw [HU.out]
  have hs4 := b4.size
  simp only [World.size_alloc] at hs4
  have q4 : Below (w3.heap.size + 1) (w3.alloc (.cells (tgC r1) 29)) (w4.alloc (.cells (tgC r1) 29)) := by simp only [World.size_alloc] at b4; exact b4.alloc hs4 _
  have K4 := hide ((q4.block _ (by omega)).trans K3.out)
  have D4 := hide ((q4.block _ (by omega)).trans D3.out)
  have G34 := hide ((q4.block _ (by omega)).trans G3.out)
  have G4 := hide (heap_alloc_new w4 (.cells (tgC r1) 29))
  have HB4 := hide (HB3.out.trans (q4.mono (by omega)))
  have hag4 : agg? (w4.alloc (.cells (tgC r1) 29)) ⟨w.heap.size, 0, none⟩ 32 = some (tgC key) := (agg_of_row K4.out 0 32 (by decide)).trans (tgC_part key)
  clear b4 q4 K3 D3 G3 HB3 hag3
  go_wp2_with fail
  refine (c_reveal key s _ HSL.out (HP0.out.ext HB4.out)).mono ?_
  rintro e w5 ⟨rfl, b5⟩
  rw [HV.out]
  have hs5 := b5.size
  simp only [World.size_alloc] at hs5
  have q5 : Below (w4.heap.size + 1) (w4.alloc (.cells (tgC r1) 29)) (w5.alloc (.cells (tgC r2) 29)) := by simp only [World.size_alloc] at b5; exact b5.alloc hs5 _
  have K5 := hide ((q5.block _ (by omega)).trans K4.out)
  have D5 := hide ((q5.block _ (by omega)).trans D4.out)
  have G35 := hide ((q5.block _ (by omega)).trans G34.out)
  have G45 := hide ((q5.block _ (by omega)).trans G4.out)
  have G5 := hide (heap_alloc_new w5 (.cells (tgC r2) 29))
  have HB5 := hide (HB4.out.trans (q5.mono (by omega)))
  have hag5 : agg? (w5.alloc (.cells (tgC r2) 29)) ⟨w.heap.size, 0, none⟩ 32 = some (tgC key) := (agg_of_row K5.out 0 32 (by decide)).trans (tgC_part key)
  clear b5 q5 K4 D4 G34 G4 HB4 hag4
  go_wp2_with fail
  refine (c_rreveal key s _ HSL.out).mono ?_
  rintro e w6 ⟨rfl, b6⟩
  rw [HV.out]
  have hs6 := b6.size
  simp only [World.size_alloc] at hs6
  have q6 : Below (w5.heap.size + 1) (w5.alloc (.cells (tgC r2) 29)) (w6.alloc (.cells (tgC r2) 29)) := by simp only [World.size_alloc] at b6; exact b6.alloc hs6 _
  obtain ⟨W7, hW7⟩ : ∃ W7, W7 = w6.alloc (.cells (tgC r2) 29) := ⟨_, rfl⟩
  obtain ⟨G1, hG1⟩ : ∃ G, G = w3.heap.size := ⟨_, rfl⟩
  obtain ⟨G2, hG2⟩ : ∃ G, G = w4.heap.size := ⟨_, rfl⟩
  obtain ⟨G3, hG3⟩ : ∃ G, G = w5.heap.size := ⟨_, rfl⟩
  obtain ⟨G4, hG4⟩ : ∃ G, G = w6.heap.size := ⟨_, rfl⟩
  have HK : Hid (W7.heap[w.heap.size]? = some (.cells (tgC key) 29)) := hide (by rw [hW7]; exact (q6.block _ (by omega)).trans K5.out)
  have HD : Hid (W7.heap[w.heap.size + 1]? = some (.cells (dealC (.int .u64 (pn : Int)) dk dr (.string (txt cd)) da dv) 70)) := hide (by rw [hW7, ← HCDE.out]; exact (q6.block _ (by omega)).trans D5.out)
  have HG1 : Hid (W7.heap[G1]? = some (.cells (tgC r1) 29)) := hide (by rw [hW7, hG1]; exact (q6.block _ (by omega)).trans G35.out)
  have HG2 : Hid (W7.heap[G2]? = some (.cells (tgC r1) 29)) := hide (by rw [hW7, hG2]; exact (q6.block _ (by omega)).trans G45.out)
  have HG3 : Hid (W7.heap[G3]? = some (.cells (tgC r2) 29)) := hide (by rw [hW7, hG3]; exact (q6.block _ (by omega)).trans G5.out)
  have HG4 : Hid (W7.heap[G4]? = some (.cells (tgC r2) 29)) := hide (by rw [hW7, hG4]; exact heap_alloc_new _ _)
  have HB7 : Hid (Below w.heap.size w W7) := hide (by rw [hW7]; exact HB5.out.trans (q6.mono (by omega)))
  have HP := hide (HP0.out.ext HB7.out)
  have HE1 := hide hG1
  have HE2 := hide hG2
  have HE3 := hide hG3
  have HE4 := hide hG4
  have HE7 := hide hW7
  clear b6 q6 K5 D5 G35 G45 G5 HB5 hag5 hW7 hG1 hG2 hG3 hG4 hg65 hzD
  go_wp2_with fail
  rw [← HE7.out, ← HE1.out, ← HE2.out, ← HE3.out, ← HE4.out]
  clear HE7 HE1 HE2 HE3 HE4 hs1 hs2 hs3 hs4 hs5 hs6
  refine wp_region_ext mixed 57 (fun i v w' => match i with
    | 0 => v = tgV r1
    | 1 => v = tgV r1
    | 2 => v = .bool true
    | 3 => v = .bool true
    | 4 => v = .string (txt c1)
    | 5 => v = .string (txt c1)
    | 6 => v = .bool true
    | 7 => v = .bool true
    | 8 => v = .bool true
    | 9 => v = .bool k1
    | 10 => v = .bool k1
    | 11 => v = .bool true
    | 12 => v = .bool true
    | 13 => v = .bool true
    | 14 => v = tgV r2
    | 15 => v = tgV r2
    | 16 => v = .bool true
    | 17 => v = .bool true
    | 18 => v = .bool true
    | 19 => v = .bool k2
    | 20 => v = .bool k2
    | 21 => v = .bool true
    | 22 => v = .bool true
    | 23 => v = .bool true
    | 24 => v = tgV key
    | 25 => v = .pointer (some ⟨w.heap.size + 1, 66, none⟩)
    | 26 => v = tgV da
    | 27 => v = .pointer (some ⟨w.heap.size + 1, 33, none⟩)
    | 28 => v = tgV dr
    | 29 => v = .pointer (some ⟨w.heap.size + 1, 65, none⟩)
    | 30 => v = .string (txt cd)
    | 31 => v = .string (txt lk)
    | 32 => v = tgV key
    | 33 => v = .pointer (some ⟨w.heap.size + 1, 66, none⟩)
    | 34 => v = tgV da
    | 35 => v = .pointer (some ⟨w.heap.size + 1, 33, none⟩)
    | 36 => v = tgV dr
    | 37 => v = .pointer (some ⟨w.heap.size + 1, 65, none⟩)
    | 38 => v = .string (txt cd)
    | 39 => v = .string (txt lk)
    | 40 => v = .bool true
    | 41 => v = .bool true
    | 42 => v = .bool true
    | 43 => v = tgV key
    | 44 => v = .pointer (some ⟨w.heap.size + 1, 98, none⟩)
    | 45 => v = tgV dv
    | 46 => v = .pointer (some ⟨w.heap.size + 1, 33, none⟩)
    | 47 => v = tgV dr
    | 48 => v = .string (txt hd)
    | 49 => v = tgV key
    | 50 => v = .pointer (some ⟨w.heap.size + 1, 98, none⟩)
    | 51 => v = tgV dv
    | 52 => v = .pointer (some ⟨w.heap.size + 1, 33, none⟩)
    | 53 => v = tgV dr
    | 54 => v = .string (txt hd)
    | 55 => v = .bool true
    | _ => v = .bool true
    ) (regOk_of (by kernel_rfl)) rfl ?_ ?_ ?_
  · intro i v w1 w2 h1 h2
    split at h2 <;> exact h2
  · refine ⟨fun a w2 hle hd hf hs K hK => ?_, fun a w2 hle hd hf hs K hK => ?_, fun a w2 hle hd hf hs K hK => ?_, fun a w2 hle hd hf hs K hK => ?_, fun a w2 hle hd hf hs K hK => ?_, fun a w2 hle hd hf hs K hK => ?_, fun a w2 hle hd hf hs K hK => ?_, fun a w2 hle hd hf hs K hK => ?_, fun a w2 hle hd hf hs K hK => ?_, fun a w2 hle hd hf hs K hK => ?_, fun a w2 hle hd hf hs K hK => ?_, fun a w2 hle hd hf hs K hK => ?_, fun a w2 hle hd hf hs K hK => ?_, fun a w2 hle hd hf hs K hK => ?_, fun a w2 hle hd hf hs K hK => ?_, fun a w2 hle hd hf hs K hK => ?_, fun a w2 hle hd hf hs K hK => ?_, fun a w2 hle hd hf hs K hK => ?_, fun a w2 hle hd hf hs K hK => ?_, fun a w2 hle hd hf hs K hK => ?_, fun a w2 hle hd hf hs K hK => ?_, fun a w2 hle hd hf hs K hK => ?_, fun a w2 hle hd hf hs K hK => ?_, fun a w2 hle hd hf hs K hK => ?_, fun a w2 hle hd hf hs K hK => ?_, fun a w2 hle hd hf hs K hK => ?_, fun a w2 hle hd hf hs K hK => ?_, fun a w2 hle hd hf hs K hK => ?_, fun a w2 hle hd hf hs K hK => ?_, fun a w2 hle hd hf hs K hK => ?_, fun a w2 hle hd hf hs K hK => ?_, fun a w2 hle hd hf hs K hK => ?_, fun a w2 hle hd hf hs K hK => ?_, fun a w2 hle hd hf hs K hK => ?_, fun a w2 hle hd hf hs K hK => ?_, fun a w2 hle hd hf hs K hK => ?_, fun a w2 hle hd hf hs K hK => ?_, fun a w2 hle hd hf hs K hK => ?_, fun a w2 hle hd hf hs K hK => ?_, fun a w2 hle hd hf hs K hK => ?_, fun a w2 hle hd hf hs K hK => ?_, fun a w2 hle hd hf hs K hK => ?_, fun a w2 hle hd hf hs K hK => ?_, fun a w2 hle hd hf hs K hK => ?_, fun a w2 hle hd hf hs K hK => ?_, fun a w2 hle hd hf hs K hK => ?_, fun a w2 hle hd hf hs K hK => ?_, fun a w2 hle hd hf hs K hK => ?_, fun a w2 hle hd hf hs K hK => ?_, fun a w2 hle hd hf hs K hK => ?_, fun a w2 hle hd hf hs K hK => ?_, fun a w2 hle hd hf hs K hK => ?_, fun a w2 hle hd hf hs K hK => ?_, fun a w2 hle hd hf hs K hK => ?_, fun a w2 hle hd hf hs K hK => ?_, fun a w2 hle hd hf hs K hK => ?_, fun a w2 hle hd hf hs K hK => ?_, trivial⟩
    all_goals clear hd
    · -- 54 := Op.load 29 t7
      have e7 := hf 7 rfl; simp [Act.eval] at e7
      have hq : agg? w2 ⟨G1, 0, none⟩ 32 = some (tgC r1) := (agg_of_row (hle.heap HG1.out) 0 32 (by decide)).trans (tgC_part r1)
      go_simp; exact hK _ _ (Ext.refl _) rfl
    · -- 55 := Op.load 29 t10
      have e10 := hf 10 rfl; simp [Act.eval] at e10
      have hq : agg? w2 ⟨G2, 0, none⟩ 32 = some (tgC r1) := (agg_of_row (hle.heap HG2.out) 0 32 (by decide)).trans (tgC_part r1)
      go_simp; exact hK _ _ (Ext.refl _) rfl
    · -- 56 := Op.binOp BinOp.eql 29 t54 t55 29
      have e54 := hs 0 54 (needs_direct (by kernel_rfl)) rfl; have e55 := hs 1 55 (needs_direct (by kernel_rfl)) rfl; simp [Act.eval] at e54 e55
      have hq := tg_in w2 r1 r1
      rw [decide_eq_true rfl] at hq
      go_simp; exact hK _ _ (Ext.refl _) rfl
    · -- 57 := Op.move t56
      have e56 := hs 2 56 (needs_direct (by kernel_rfl)) rfl; simp [Act.eval] at e56
      go_simp; exact hK _ _ (Ext.refl _) rfl
    · -- 58 := Op.move t8
      have e8 := hf 8 rfl; have gg := hs 3 57 (needs_direct (by kernel_rfl)) rfl; simp [Act.eval] at e8 gg; replace gg := opt_bool gg
      go_simp; exact hK _ _ (Ext.refl _) rfl
    · -- 59 := Op.move t11
      have e11 := hf 11 rfl; have gg := hs 3 57 (needs_direct (by kernel_rfl)) rfl; simp [Act.eval] at e11 gg; replace gg := opt_bool gg
      go_simp; exact hK _ _ (Ext.refl _) rfl
    · -- 60 := Op.binOp BinOp.eql 9 t58 t59 9
      have e58 := hs 4 58 (needs_direct (by kernel_rfl)) rfl; have e59 := hs 5 59 (needs_direct (by kernel_rfl)) rfl; have gg := hs 3 57 (needs_direct (by kernel_rfl)) rfl; simp [Act.eval] at e58 e59 gg; replace gg := opt_bool gg
      go_simp; exact hK _ _ (Ext.refl _) rfl
    · -- 61 := Op.pick t57 t60 (const (Value.bool false))
      have e57 := hs 3 57 (needs_direct (by kernel_rfl)) rfl; have e60 := hs 6 60 (needs_direct (by kernel_rfl)) rfl; simp [Act.eval] at e57 e60
      go_simp; exact hK _ _ (Ext.refl _) rfl
    · -- 62 := Op.move t61
      have e61 := hs 7 61 (needs_direct (by kernel_rfl)) rfl; simp [Act.eval] at e61
      go_simp; exact hK _ _ (Ext.refl _) rfl
    · -- 63 := Op.move t9
      have e9 := hf 9 rfl; have gg := hs 8 62 (needs_direct (by kernel_rfl)) rfl; simp [Act.eval] at e9 gg; replace gg := opt_bool gg
      go_simp; exact hK _ _ (Ext.refl _) rfl
    · -- 64 := Op.move t12
      have e12 := hf 12 rfl; have gg := hs 8 62 (needs_direct (by kernel_rfl)) rfl; simp [Act.eval] at e12 gg; replace gg := opt_bool gg
      go_simp; exact hK _ _ (Ext.refl _) rfl
    · -- 65 := Op.binOp BinOp.eql 4 t63 t64 4
      have e63 := hs 9 63 (needs_direct (by kernel_rfl)) rfl; have e64 := hs 10 64 (needs_direct (by kernel_rfl)) rfl; have gg := hs 8 62 (needs_direct (by kernel_rfl)) rfl; simp [Act.eval] at e63 e64 gg; replace gg := opt_bool gg
      go_simp; exact hK _ _ (Ext.refl _) rfl
    · -- 66 := Op.pick t62 t65 (const (Value.bool false))
      have e62 := hs 8 62 (needs_direct (by kernel_rfl)) rfl; have e65 := hs 11 65 (needs_direct (by kernel_rfl)) rfl; simp [Act.eval] at e62 e65
      go_simp; exact hK _ _ (Ext.refl _) rfl
    · -- 67 := Op.move t66
      have e66 := hs 12 66 (needs_direct (by kernel_rfl)) rfl; simp [Act.eval] at e66
      go_simp; exact hK _ _ (Ext.refl _) rfl
    · -- 68 := Op.load 29 t13
      have e13 := hf 13 rfl; have gg := hs 13 67 (needs_direct (by kernel_rfl)) rfl; simp [Act.eval] at e13 gg; replace gg := opt_bool gg
      have hq : agg? w2 ⟨G3, 0, none⟩ 32 = some (tgC r2) := (agg_of_row (hle.heap HG3.out) 0 32 (by decide)).trans (tgC_part r2)
      go_simp; exact hK _ _ (Ext.refl _) rfl
    · -- 69 := Op.load 29 t15
      have e15 := hf 15 rfl; have gg := hs 13 67 (needs_direct (by kernel_rfl)) rfl; simp [Act.eval] at e15 gg; replace gg := opt_bool gg
      have hq : agg? w2 ⟨G4, 0, none⟩ 32 = some (tgC r2) := (agg_of_row (hle.heap HG4.out) 0 32 (by decide)).trans (tgC_part r2)
      go_simp; exact hK _ _ (Ext.refl _) rfl
    · -- 70 := Op.binOp BinOp.eql 29 t68 t69 29
      have e68 := hs 14 68 (needs_direct (by kernel_rfl)) rfl; have e69 := hs 15 69 (needs_direct (by kernel_rfl)) rfl; have gg := hs 13 67 (needs_direct (by kernel_rfl)) rfl; simp [Act.eval] at e68 e69 gg; replace gg := opt_bool gg
      have hq := tg_in w2 r2 r2
      rw [decide_eq_true rfl] at hq
      go_simp; exact hK _ _ (Ext.refl _) rfl
    · -- 71 := Op.pick t67 t70 (const (Value.bool false))
      have e67 := hs 13 67 (needs_direct (by kernel_rfl)) rfl; have e70 := hs 16 70 (needs_direct (by kernel_rfl)) rfl; simp [Act.eval] at e67 e70
      go_simp; exact hK _ _ (Ext.refl _) rfl
    · -- 72 := Op.move t71
      have e71 := hs 17 71 (needs_direct (by kernel_rfl)) rfl; simp [Act.eval] at e71
      go_simp; exact hK _ _ (Ext.refl _) rfl
    · -- 73 := Op.move t14
      have e14 := hf 14 rfl; have gg := hs 18 72 (needs_direct (by kernel_rfl)) rfl; simp [Act.eval] at e14 gg; replace gg := opt_bool gg
      go_simp; exact hK _ _ (Ext.refl _) rfl
    · -- 74 := Op.move t16
      have e16 := hf 16 rfl; have gg := hs 18 72 (needs_direct (by kernel_rfl)) rfl; simp [Act.eval] at e16 gg; replace gg := opt_bool gg
      go_simp; exact hK _ _ (Ext.refl _) rfl
    · -- 75 := Op.binOp BinOp.eql 4 t73 t74 4
      have e73 := hs 19 73 (needs_direct (by kernel_rfl)) rfl; have e74 := hs 20 74 (needs_direct (by kernel_rfl)) rfl; have gg := hs 18 72 (needs_direct (by kernel_rfl)) rfl; simp [Act.eval] at e73 e74 gg; replace gg := opt_bool gg
      go_simp; exact hK _ _ (Ext.refl _) rfl
    · -- 76 := Op.pick t72 t75 (const (Value.bool false))
      have e72 := hs 18 72 (needs_direct (by kernel_rfl)) rfl; have e75 := hs 21 75 (needs_direct (by kernel_rfl)) rfl; simp [Act.eval] at e72 e75
      go_simp; exact hK _ _ (Ext.refl _) rfl
    · -- 77 := Op.move t76
      have e76 := hs 22 76 (needs_direct (by kernel_rfl)) rfl; simp [Act.eval] at e76
      go_simp; exact hK _ _ (Ext.refl _) rfl
    · -- 78 := Op.load 29 t3
      have e3 := hf 3 rfl; have gg := hs 23 77 (needs_direct (by kernel_rfl)) rfl; simp [Act.eval] at e3 gg; replace gg := opt_bool gg
      have hq : agg? w2 ⟨w.heap.size, 0, none⟩ 32 = some (tgC key) := (agg_of_row (hle.heap HK.out) 0 32 (by decide)).trans (tgC_part key)
      go_simp; exact hK _ _ (Ext.refl _) rfl
    · -- 79 := Op.fieldAddr 70 t4 4
      have e4 := hf 4 rfl; have gg := hs 23 77 (needs_direct (by kernel_rfl)) rfl; simp [Act.eval] at e4 gg; replace gg := opt_bool gg
      go_simp; exact hK _ _ (Ext.refl _) rfl
    · -- 80 := Op.load 29 t79
      have e79 := hs 25 79 (needs_direct (by kernel_rfl)) rfl; have gg := hs 23 77 (needs_direct (by kernel_rfl)) rfl; simp [Act.eval] at e79 gg; replace gg := opt_bool gg
      have hq : agg? w2 ⟨w.heap.size + 1, 66, none⟩ 32 = some (tgC da) := (agg_of_row (hle.heap HD.out) 66 32 (by decide)).trans (dealC_ask _ _ _ _ _ _)
      go_simp; exact hK _ _ (Ext.refl _) rfl
    · -- 81 := Op.fieldAddr 70 t4 2
      have e4 := hf 4 rfl; have gg := hs 23 77 (needs_direct (by kernel_rfl)) rfl; simp [Act.eval] at e4 gg; replace gg := opt_bool gg
      go_simp; exact hK _ _ (Ext.refl _) rfl
    · -- 82 := Op.load 29 t81
      have e81 := hs 27 81 (needs_direct (by kernel_rfl)) rfl; have gg := hs 23 77 (needs_direct (by kernel_rfl)) rfl; simp [Act.eval] at e81 gg; replace gg := opt_bool gg
      have hq : agg? w2 ⟨w.heap.size + 1, 33, none⟩ 32 = some (tgC dr) := (agg_of_row (hle.heap HD.out) 33 32 (by decide)).trans (dealC_root _ _ _ _ _ _)
      go_simp; exact hK _ _ (Ext.refl _) rfl
    · -- 83 := Op.fieldAddr 70 t4 3
      have e4 := hf 4 rfl; have gg := hs 23 77 (needs_direct (by kernel_rfl)) rfl; simp [Act.eval] at e4 gg; replace gg := opt_bool gg
      go_simp; exact hK _ _ (Ext.refl _) rfl
    · -- 84 := Op.load 9 t83
      have e83 := hs 29 83 (needs_direct (by kernel_rfl)) rfl; have gg := hs 23 77 (needs_direct (by kernel_rfl)) rfl; simp [Act.eval] at e83 gg; replace gg := opt_bool gg
      have hq : w2.cell? ⟨w.heap.size + 1, 65, none⟩ = some (.string (txt cd)) := (cell_of_row w2 _ _ _ _ _ (hle.heap HD.out)).trans (dealC_65 _ _ _ _ _ _)
      go_simp; exact hK _ _ (Ext.refl _) rfl
    · -- 85 := Op.call { value (Operand.func 51), args := #[t78, t80, t82, t84], argTypes := #[29, 29, 29, 9] }
      have e78 := hs 24 78 (needs_direct (by kernel_rfl)) rfl; have e80 := hs 26 80 (needs_direct (by kernel_rfl)) rfl; have e82 := hs 28 82 (needs_direct (by kernel_rfl)) rfl; have e84 := hs 30 84 (needs_direct (by kernel_rfl)) rfl; have gg := hs 23 77 (needs_direct (by kernel_rfl)) rfl; simp [Act.eval] at e78 e80 e82 e84 gg; replace gg := opt_bool gg
      go_simp
      refine (c_tlock key da dr cd w2 HCL.out (HP.out.ext hle)).mono ?_
      rintro z w9 ⟨rfl, b9⟩
      rw [HLK.out]
      exact hK _ _ b9 rfl
    · -- 86 := Op.load 29 t3
      have e3 := hf 3 rfl; have gg := hs 23 77 (needs_direct (by kernel_rfl)) rfl; simp [Act.eval] at e3 gg; replace gg := opt_bool gg
      have hq : agg? w2 ⟨w.heap.size, 0, none⟩ 32 = some (tgC key) := (agg_of_row (hle.heap HK.out) 0 32 (by decide)).trans (tgC_part key)
      go_simp; exact hK _ _ (Ext.refl _) rfl
    · -- 87 := Op.fieldAddr 70 t4 4
      have e4 := hf 4 rfl; have gg := hs 23 77 (needs_direct (by kernel_rfl)) rfl; simp [Act.eval] at e4 gg; replace gg := opt_bool gg
      go_simp; exact hK _ _ (Ext.refl _) rfl
    · -- 88 := Op.load 29 t87
      have e87 := hs 33 87 (needs_direct (by kernel_rfl)) rfl; have gg := hs 23 77 (needs_direct (by kernel_rfl)) rfl; simp [Act.eval] at e87 gg; replace gg := opt_bool gg
      have hq : agg? w2 ⟨w.heap.size + 1, 66, none⟩ 32 = some (tgC da) := (agg_of_row (hle.heap HD.out) 66 32 (by decide)).trans (dealC_ask _ _ _ _ _ _)
      go_simp; exact hK _ _ (Ext.refl _) rfl
    · -- 89 := Op.fieldAddr 70 t4 2
      have e4 := hf 4 rfl; have gg := hs 23 77 (needs_direct (by kernel_rfl)) rfl; simp [Act.eval] at e4 gg; replace gg := opt_bool gg
      go_simp; exact hK _ _ (Ext.refl _) rfl
    · -- 90 := Op.load 29 t89
      have e89 := hs 35 89 (needs_direct (by kernel_rfl)) rfl; have gg := hs 23 77 (needs_direct (by kernel_rfl)) rfl; simp [Act.eval] at e89 gg; replace gg := opt_bool gg
      have hq : agg? w2 ⟨w.heap.size + 1, 33, none⟩ 32 = some (tgC dr) := (agg_of_row (hle.heap HD.out) 33 32 (by decide)).trans (dealC_root _ _ _ _ _ _)
      go_simp; exact hK _ _ (Ext.refl _) rfl
    · -- 91 := Op.fieldAddr 70 t4 3
      have e4 := hf 4 rfl; have gg := hs 23 77 (needs_direct (by kernel_rfl)) rfl; simp [Act.eval] at e4 gg; replace gg := opt_bool gg
      go_simp; exact hK _ _ (Ext.refl _) rfl
    · -- 92 := Op.load 9 t91
      have e91 := hs 37 91 (needs_direct (by kernel_rfl)) rfl; have gg := hs 23 77 (needs_direct (by kernel_rfl)) rfl; simp [Act.eval] at e91 gg; replace gg := opt_bool gg
      have hq : w2.cell? ⟨w.heap.size + 1, 65, none⟩ = some (.string (txt cd)) := (cell_of_row w2 _ _ _ _ _ (hle.heap HD.out)).trans (dealC_65 _ _ _ _ _ _)
      go_simp; exact hK _ _ (Ext.refl _) rfl
    · -- 93 := Op.call { value (Operand.func 52), args := #[t86, t88, t90, t92], argTypes := #[29, 29, 29, 9] }
      have e86 := hs 32 86 (needs_direct (by kernel_rfl)) rfl; have e88 := hs 34 88 (needs_direct (by kernel_rfl)) rfl; have e90 := hs 36 90 (needs_direct (by kernel_rfl)) rfl; have e92 := hs 38 92 (needs_direct (by kernel_rfl)) rfl; have gg := hs 23 77 (needs_direct (by kernel_rfl)) rfl; simp [Act.eval] at e86 e88 e90 e92 gg; replace gg := opt_bool gg
      go_simp
      refine (c_rlock key da dr cd w2 HCL.out).mono ?_
      rintro z w9 ⟨rfl, b9⟩
      rw [HLK.out]
      exact hK _ _ b9 rfl
    · -- 94 := Op.binOp BinOp.eql 9 t85 t93 9
      have e85 := hs 31 85 (needs_direct (by kernel_rfl)) rfl; have e93 := hs 39 93 (needs_direct (by kernel_rfl)) rfl; have gg := hs 23 77 (needs_direct (by kernel_rfl)) rfl; simp [Act.eval] at e85 e93 gg; replace gg := opt_bool gg
      go_simp; exact hK _ _ (Ext.refl _) rfl
    · -- 95 := Op.pick t77 t94 (const (Value.bool false))
      have e77 := hs 23 77 (needs_direct (by kernel_rfl)) rfl; have e94 := hs 40 94 (needs_direct (by kernel_rfl)) rfl; simp [Act.eval] at e77 e94
      go_simp; exact hK _ _ (Ext.refl _) rfl
    · -- 96 := Op.move t95
      have e95 := hs 41 95 (needs_direct (by kernel_rfl)) rfl; simp [Act.eval] at e95
      go_simp; exact hK _ _ (Ext.refl _) rfl
    · -- 97 := Op.load 29 t3
      have e3 := hf 3 rfl; have gg := hs 42 96 (needs_direct (by kernel_rfl)) rfl; simp [Act.eval] at e3 gg; replace gg := opt_bool gg
      have hq : agg? w2 ⟨w.heap.size, 0, none⟩ 32 = some (tgC key) := (agg_of_row (hle.heap HK.out) 0 32 (by decide)).trans (tgC_part key)
      go_simp; exact hK _ _ (Ext.refl _) rfl
    · -- 98 := Op.fieldAddr 70 t4 5
      have e4 := hf 4 rfl; have gg := hs 42 96 (needs_direct (by kernel_rfl)) rfl; simp [Act.eval] at e4 gg; replace gg := opt_bool gg
      go_simp; exact hK _ _ (Ext.refl _) rfl
    · -- 99 := Op.load 29 t98
      have e98 := hs 44 98 (needs_direct (by kernel_rfl)) rfl; have gg := hs 42 96 (needs_direct (by kernel_rfl)) rfl; simp [Act.eval] at e98 gg; replace gg := opt_bool gg
      have hq : agg? w2 ⟨w.heap.size + 1, 98, none⟩ 32 = some (tgC dv) := (agg_of_row (hle.heap HD.out) 98 32 (by decide)).trans (dealC_vault _ _ _ _ _ _)
      go_simp; exact hK _ _ (Ext.refl _) rfl
    · -- 100 := Op.fieldAddr 70 t4 2
      have e4 := hf 4 rfl; have gg := hs 42 96 (needs_direct (by kernel_rfl)) rfl; simp [Act.eval] at e4 gg; replace gg := opt_bool gg
      go_simp; exact hK _ _ (Ext.refl _) rfl
    · -- 101 := Op.load 29 t100
      have e100 := hs 46 100 (needs_direct (by kernel_rfl)) rfl; have gg := hs 42 96 (needs_direct (by kernel_rfl)) rfl; simp [Act.eval] at e100 gg; replace gg := opt_bool gg
      have hq : agg? w2 ⟨w.heap.size + 1, 33, none⟩ 32 = some (tgC dr) := (agg_of_row (hle.heap HD.out) 33 32 (by decide)).trans (dealC_root _ _ _ _ _ _)
      go_simp; exact hK _ _ (Ext.refl _) rfl
    · -- 102 := Op.call { value (Operand.func 53), args := #[t97, t99, t101], argTypes := #[29, 29, 29] }
      have e97 := hs 43 97 (needs_direct (by kernel_rfl)) rfl; have e99 := hs 45 99 (needs_direct (by kernel_rfl)) rfl; have e101 := hs 47 101 (needs_direct (by kernel_rfl)) rfl; have gg := hs 42 96 (needs_direct (by kernel_rfl)) rfl; simp [Act.eval] at e97 e99 e101 gg; replace gg := opt_bool gg
      go_simp
      refine (c_thide key dv dr w2 (HP.out.ext hle)).mono ?_
      rintro z w9 ⟨rfl, b9⟩
      rw [HHD.out]
      exact hK _ _ b9 rfl
    · -- 103 := Op.load 29 t3
      have e3 := hf 3 rfl; have gg := hs 42 96 (needs_direct (by kernel_rfl)) rfl; simp [Act.eval] at e3 gg; replace gg := opt_bool gg
      have hq : agg? w2 ⟨w.heap.size, 0, none⟩ 32 = some (tgC key) := (agg_of_row (hle.heap HK.out) 0 32 (by decide)).trans (tgC_part key)
      go_simp; exact hK _ _ (Ext.refl _) rfl
    · -- 104 := Op.fieldAddr 70 t4 5
      have e4 := hf 4 rfl; have gg := hs 42 96 (needs_direct (by kernel_rfl)) rfl; simp [Act.eval] at e4 gg; replace gg := opt_bool gg
      go_simp; exact hK _ _ (Ext.refl _) rfl
    · -- 105 := Op.load 29 t104
      have e104 := hs 50 104 (needs_direct (by kernel_rfl)) rfl; have gg := hs 42 96 (needs_direct (by kernel_rfl)) rfl; simp [Act.eval] at e104 gg; replace gg := opt_bool gg
      have hq : agg? w2 ⟨w.heap.size + 1, 98, none⟩ 32 = some (tgC dv) := (agg_of_row (hle.heap HD.out) 98 32 (by decide)).trans (dealC_vault _ _ _ _ _ _)
      go_simp; exact hK _ _ (Ext.refl _) rfl
    · -- 106 := Op.fieldAddr 70 t4 2
      have e4 := hf 4 rfl; have gg := hs 42 96 (needs_direct (by kernel_rfl)) rfl; simp [Act.eval] at e4 gg; replace gg := opt_bool gg
      go_simp; exact hK _ _ (Ext.refl _) rfl
    · -- 107 := Op.load 29 t106
      have e106 := hs 52 106 (needs_direct (by kernel_rfl)) rfl; have gg := hs 42 96 (needs_direct (by kernel_rfl)) rfl; simp [Act.eval] at e106 gg; replace gg := opt_bool gg
      have hq : agg? w2 ⟨w.heap.size + 1, 33, none⟩ 32 = some (tgC dr) := (agg_of_row (hle.heap HD.out) 33 32 (by decide)).trans (dealC_root _ _ _ _ _ _)
      go_simp; exact hK _ _ (Ext.refl _) rfl
    · -- 108 := Op.call { value (Operand.func 54), args := #[t103, t105, t107], argTypes := #[29, 29, 29] }
      have e103 := hs 49 103 (needs_direct (by kernel_rfl)) rfl; have e105 := hs 51 105 (needs_direct (by kernel_rfl)) rfl; have e107 := hs 53 107 (needs_direct (by kernel_rfl)) rfl; have gg := hs 42 96 (needs_direct (by kernel_rfl)) rfl; simp [Act.eval] at e103 e105 e107 gg; replace gg := opt_bool gg
      go_simp
      refine (c_rhide key dv dr w2).mono ?_
      rintro z w9 ⟨rfl, b9⟩
      rw [HHD.out]
      exact hK _ _ b9 rfl
    · -- 109 := Op.binOp BinOp.eql 9 t102 t108 9
      have e102 := hs 48 102 (needs_direct (by kernel_rfl)) rfl; have e108 := hs 54 108 (needs_direct (by kernel_rfl)) rfl; have gg := hs 42 96 (needs_direct (by kernel_rfl)) rfl; simp [Act.eval] at e102 e108 gg; replace gg := opt_bool gg
      go_simp; exact hK _ _ (Ext.refl _) rfl
    · -- 110 := Op.pick t96 t109 (const (Value.bool false))
      have e96 := hs 42 96 (needs_direct (by kernel_rfl)) rfl; have e109 := hs 55 109 (needs_direct (by kernel_rfl)) rfl; simp [Act.eval] at e96 e109
      go_simp; exact hK _ _ (Ext.refl _) rfl
  intro vs w8 hle hs
  have v56 := hs 56 (by omega) rfl
  simp only at v56
  clear hs
  have HB9 := hide (HB7.out.trans (hle.mono HB7.out.size))
  clear hle
  simp only [putN, dstAt]
  go_simp
  go_wp2_with fail
  go_ret
  exact ⟨rfl, HB9.out⟩
end Go.Proofs.YtdkeflhgengblaaDoor
namespace Go.Proofs.YtdkeflhgengblaaDoor
open Go.ChangeShapes Go.WideShapes Go.ChangeAt Go.RowKit

def inReach {H : Type} (d : DataW H) (t : TypeId) : Prop := (d.weights Tryd.prog t).all (· ≤ reachBytes) = true
theorem each_part {H : Type} : ∀ {ts : List TypeId} {ds : List (DataW H)} {j : Nat} {t : TypeId} {d : DataW H}, (DataW.weightsEach Tryd.prog ts ds).all (· ≤ reachBytes) = true → ts[j]? = some t → ds[j]? = some d → inReach d t := by
  intro ts ds j t d h ht hd
  unfold inReach
  rw [List.all_eq_true] at h ⊢
  intro n hn
  exact h n (DataW.weights_mem_each ht hd n hn)
theorem all_mem {H : Type} : ∀ {e : TypeId} {ds : List (DataW H)} {d : DataW H}, (DataW.weightsAll Tryd.prog e ds).all (· ≤ reachBytes) = true → d ∈ ds → inReach d e
  | e, [], d, _, hd => by simp at hd
  | e, x :: r, d, h, hd => by
    simp only [DataW.weightsAll, List.all_append, Bool.and_eq_true] at h
    simp only [List.mem_cons] at hd
    rcases hd with rfl | hd
    · exact h.1
    · exact all_mem h.2 hd
theorem reach_str {H : Type} {s : ByteArray} {t : TypeId} (h : inReach (H := H) (.lit (.string s.data.toList)) t) : s.size ≤ 140737488355328 := by
  unfold inReach at h
  simp only [DataW.weights, List.all_cons, List.all_nil, Bool.and_true, decide_eq_true_eq] at h
  have e : s.data.toList.length = s.size := by rw [Array.length_toList]; rfl
  have := reachBytes_lt
  omega
theorem reach_struct {H : Type} {t : TypeId} {fs : Array Field} {parts : List (DataW H)} (hu : Tryd.prog.underlying t = some (.struct fs)) (h : inReach (.agg parts) t) : (DataW.weightsEach Tryd.prog (fs.toList.map (·.type)) parts).all (· ≤ reachBytes) = true := by
  unfold inReach at h
  simpa [DataW.weights, hu] using h
theorem reach_slice {H : Type} {t e : TypeId} {el sp : List (DataW H)} (hu : Tryd.prog.underlying t = some (.slice e)) (h : inReach (.slice el sp) t) : (DataW.weightsAll Tryd.prog e el).all (· ≤ reachBytes) = true := by
  unfold inReach at h
  simp only [DataW.weights, hu, List.all_cons, List.all_append, Bool.and_eq_true] at h
  exact h.2.1
variable {H : Type} {enc : TypeId × Value → H} {w : World} {spare : Nat → Bool} {held : Bool}
/-- As 'trod_row', of elements of which more is known. -/
theorem trod_row_s {α : Type} {d : Kd α} {Q : α → Prop} {t e : TypeId} {fuel : Nat} {cs : List Value} {x : DataW H × List MemPlace} (hT : Tryd.prog.underlying t = some (.slice e)) (hsz : Tryd.prog.cellsOf e = d.sz) (h0 : 0 < d.sz)
    (hel : ∀ n cs x, DataW.trod enc Tryd.prog w 0 spare held n e cs = some x → inReach x.1 e → ∃ y, d.K (· < w.heap.size) w y cs ∧ Q y) (h : DataW.trod enc Tryd.prog w 0 spare held fuel t cs = some x) (hw : inReach x.1 t) :
    ∃ A n c xs, cs = [.slice A n c] ∧ d.Row (· < w.heap.size) w A n c xs ∧ ∀ y ∈ xs, Q y := by
  rcases Go.Deep.open_slice hT h with ⟨rfl, _⟩ | ⟨a, len, cap, m, n, D, Pl, rfl, _, hl, hm, hmm, rfl, hi⟩
  · exact ⟨_, _, _, [], rfl, .nil _ _ _ _ _ (Nat.zero_le _), by simp⟩
  · have hlm : len ≤ m := by rw [hmm]; split <;> omega
    have hE := reach_slice hT hw
    rcases Nat.eq_zero_or_pos len with hz | hpos
    · subst hz
      exact ⟨_, _, _, [], rfl, .nil _ _ _ _ _ hm, by simp⟩
    have hc0 : ∀ i, i < len → ∃ y, ∃ cs', Tryd.prog.cellsOf e = cs'.length ∧ w.cells? 0 (a.add (i * Tryd.prog.cellsOf e)) (Tryd.prog.cellsOf e) = some cs' ∧ d.K (· < w.heap.size) w y cs' ∧ Q y := fun i hil => by
      obtain ⟨cs', hcs, htr⟩ := hi i (by omega)
      obtain ⟨y, hy, hq⟩ := hel _ _ _ htr (all_mem hE (List.mem_map.2 ⟨i, by simpa using hil, rfl⟩))
      obtain ⟨_, hcl, _⟩ := World.cells?_some hcs
      exact ⟨y, cs', hcl.symm, hcs, hy, hq⟩
    have hsp : a.spot = none ∧ a.block < w.heap.size := by
      obtain ⟨y, cs', hcl0, hcs, hy, _⟩ := hc0 0 hpos
      obtain ⟨_, hcl, hat⟩ := World.cells?_some hcs
      have hp : 0 < cs'.length := by rw [hcl, hsz]; exact h0
      have hg : w.cell? a = some (cs'[0]'(by omega)) := by
        have := (hat 0 (by omega)).trans (List.getElem?_eq_getElem (by omega))
        simpa [Addr.add] using this
      exact ⟨World.cell?_spot hg, World.block_lt_of_cell? w _ hg⟩
    obtain ⟨b, o, sp⟩ := a
    obtain ⟨rfl, hlt⟩ := hsp
    have hc : ∀ i, i < len → ∃ y, ∃ cs, (d.K (· < w.heap.size) w y cs ∧ w.rangeAt b (o + i * d.sz) cs) ∧ Q y := fun i hil => by
      obtain ⟨y, cs', _, hcs, hy, hq⟩ := hc0 i hil
      obtain ⟨_, hcl, hat⟩ := World.cells?_some hcs
      rw [hsz] at hcl hat
      refine ⟨y, cs', ⟨hy, fun j v hv => ?_⟩, hq⟩
      have := hat j (by rw [← hcl]; exact (List.getElem?_eq_some_iff.1 hv).1)
      rw [hv, Addr.add_none, Addr.add_none] at this
      exact this
    obtain ⟨xs, hxl, hx⟩ := list_of len hc
    exact ⟨_, _, _, xs, rfl, ⟨hxl, hl, hm, fun hn => ⟨b, o, rfl, hlt, hlt, fun i x hix => let ⟨cs, hq, _⟩ := hx i x hix; ⟨cs, hq⟩⟩⟩, fun y hy => by
      obtain ⟨i, hi', rfl⟩ := List.mem_iff_getElem.1 hy
      obtain ⟨cs, _, hq⟩ := hx i _ (List.getElem?_eq_getElem hi')
      exact hq⟩
theorem str_open_s (n : Nat) (cs : List Value) (x : DataW H × List MemPlace) (h : DataW.trod enc Tryd.prog w 0 spare held n 9 cs = some x) (hw : inReach x.1 9) :
    ∃ y : ByteArray, kStr.K (· < w.heap.size) w y cs ∧ y.size ≤ 140737488355328 := by
  obtain ⟨s, rfl, e, hm⟩ := DataW.trod_string Tryd.underlying9 h
  rw [e] at hw
  exact ⟨s, ⟨rfl, hm⟩, reach_str hw⟩
end Go.Proofs.YtdkeflhgengblaaDoor
namespace Go.Proofs.YtdkeflhgengblaaDoor
open Go.ChangeShapes Go.WideShapes Go.ChangeAt Go.RowKit
theorem drop_split (l : List Value) (a b : Nat) : l.drop a = (l.drop a).take b ++ l.drop (a + b) := by
  rw [← List.drop_drop, List.take_append_drop]
theorem open_deal {H : Type} {enc : TypeId × Value → H} {w : World} {spare : Nat → Bool} {held : Bool} (n : Nat) (cs : List Value) (x : DataW H × List MemPlace) (h : DataW.trod enc Tryd.prog w 0 spare held n 70 cs = some x) (hw : inReach x.1 70) :
    ∃ d : Deal, cs = (dealA d).toList ∧ d.party < 18446744073709551616 ∧ d.cond.length ≤ 140737488355328 := by
  obtain ⟨xs, m, rfl, rfl, hl, hx, hf⟩ := DataW.trod_struct Tryd.underlying70 h
  have hE := reach_struct Tryd.underlying70 hw
  have c130 : Tryd.prog.cellsOf 70 = 130 := by kernel_rfl
  rw [c130] at hl
  have hxs : xs.length = 6 := hx
  have c9 : Tryd.prog.cellsOf 9 = 1 := by kernel_rfl
  have c39 : Tryd.prog.cellsOf 41 = 1 := by kernel_rfl
  have c32 : Tryd.prog.cellsOf 29 = 32 := by kernel_rfl
  have h0 : DataW.trod enc Tryd.prog w 0 spare held m 41 (List.take (Tryd.prog.cellsOf 41) (List.drop 0 cs)) = xs[0]? := hf 0 _ rfl
  have h1 : DataW.trod enc Tryd.prog w 0 spare held m 29 (List.take (Tryd.prog.cellsOf 29) (List.drop 1 cs)) = xs[1]? := hf 1 _ rfl
  have h2 : DataW.trod enc Tryd.prog w 0 spare held m 29 (List.take (Tryd.prog.cellsOf 29) (List.drop 33 cs)) = xs[2]? := hf 2 _ rfl
  have h3 : DataW.trod enc Tryd.prog w 0 spare held m 9 (List.take (Tryd.prog.cellsOf 9) (List.drop 65 cs)) = xs[3]? := hf 3 _ rfl
  have h4 : DataW.trod enc Tryd.prog w 0 spare held m 29 (List.take (Tryd.prog.cellsOf 29) (List.drop 66 cs)) = xs[4]? := hf 4 _ rfl
  have h5 : DataW.trod enc Tryd.prog w 0 spare held m 29 (List.take (Tryd.prog.cellsOf 29) (List.drop 98 cs)) = xs[5]? := hf 5 _ rfl
  rw [List.getElem?_eq_getElem (by omega)] at h0 h1 h2 h3 h4 h5
  obtain ⟨k, e0, -, hk⟩ := DataW.trod_int Tryd.underlying41 h0
  obtain ⟨t1, e1⟩ := open_tag _ _ _ h1
  obtain ⟨t2, e2⟩ := open_tag _ _ _ h2
  obtain ⟨s3, e3, x3, hm3⟩ := DataW.trod_string Tryd.underlying9 h3
  obtain ⟨t4, e4⟩ := open_tag _ _ _ h4
  obtain ⟨t5, e5⟩ := open_tag _ _ _ h5
  have g3 := each_part (j := 3) (t := 9) (d := xs[3].1) hE rfl (by rw [List.getElem?_map, List.getElem?_eq_getElem (by omega)]; rfl)
  rw [x3] at g3
  simp [Lit.wf, IntKind.min, IntKind.max, IntKind.signed, IntKind.bits] at hk
  obtain ⟨pn, rfl⟩ : ∃ pn : Nat, k = pn := ⟨k.toNat, by omega⟩
  rw [c39] at e0
  rw [c32] at e1 e2 e4 e5
  rw [c9] at e3
  refine ⟨⟨pn, t1, t2, byt s3, t4, t5⟩, ?_, by show pn < _; omega, by show (byt s3).length ≤ _; rw [byt_len]; exact reach_str g3⟩
  have e6 : cs.drop 130 = [] := List.drop_eq_nil_of_le (by omega)
  have s0 := drop_split cs 0 1
  have s1 := drop_split cs 1 32
  have s2 := drop_split cs 33 32
  have s3' := drop_split cs 65 1
  have s4 := drop_split cs 66 32
  have s5 := drop_split cs 98 32
  rw [e0] at s0
  rw [e1] at s1
  rw [e2] at s2
  rw [e3] at s3'
  rw [e4] at s4
  rw [e5, e6] at s5
  rw [show cs = cs.drop 0 from rfl, s0, show 0 + 1 = 1 from rfl, s1, show 1 + 32 = 33 from rfl, s2, show 33 + 32 = 65 from rfl, s3', show 65 + 1 = 66 from rfl, s4, show 66 + 32 = 98 from rfl, s5]
  simp [dealC, txt_byt]
end Go.Proofs.YtdkeflhgengblaaDoor
namespace Go.Proofs.YtdkeflhgengblaaDoor
open Go.ChangeShapes Go.WideShapes Go.ChangeAt Go.RowKit

set_option maxRecDepth 100000 in
set_option maxHeartbeats 2000000 in
theorem thirdOpens_lifted (os : Os) (started : os.Started) (H : Type) (enc : TypeId × Value → H) :
    ReturnsInHanded {} Tryd.checked os 9 .any (fun w args => (Rows.thirdOpensSpec.pre enc Tryd.prog Tryd.f9 [] false w args ∧ laidMetH Tryd.prog laidD w) ∧ sizedMet enc Tryd.prog Tryd.f9 (OpenSpec.ofChange Rows.thirdOpensSpec) false w args)
      (Rows.thirdOpensSpec.post enc Tryd.prog Tryd.f9 false true false false) := by
  refine returnsInHanded_of_change_and (C := Tryd.checked) (X := fun w _ => laidMetH Tryd.prog laidD w) (fun _ _ _ hh h => h.of_heap hh) ownKnobD started (by kernel_rfl) Tryd.func9
    (ChangeSpec.witness_shaped (enc := enc) (C := Tryd.checked) (os := os) (X := fun w _ => laidMetH Tryd.prog laidD w) false (World.doorLaid Tryd.prog 400 os) #[.agg #[.int .u8 0, .int .u8 0, .int .u8 0, .int .u8 0, .int .u8 0, .int .u8 0, .int .u8 0, .int .u8 0, .int .u8 0, .int .u8 0, .int .u8 0, .int .u8 0, .int .u8 0, .int .u8 0, .int .u8 0, .int .u8 0, .int .u8 0, .int .u8 0, .int .u8 0, .int .u8 0, .int .u8 0, .int .u8 0, .int .u8 0, .int .u8 0, .int .u8 0, .int .u8 0, .int .u8 0, .int .u8 0, .int .u8 0, .int .u8 0, .int .u8 0, .int .u8 0], .agg #[.int .u64 0, .int .u8 0, .int .u8 0, .int .u8 0, .int .u8 0, .int .u8 0, .int .u8 0, .int .u8 0, .int .u8 0, .int .u8 0, .int .u8 0, .int .u8 0, .int .u8 0, .int .u8 0, .int .u8 0, .int .u8 0, .int .u8 0, .int .u8 0, .int .u8 0, .int .u8 0, .int .u8 0, .int .u8 0, .int .u8 0, .int .u8 0, .int .u8 0, .int .u8 0, .int .u8 0, .int .u8 0, .int .u8 0, .int .u8 0, .int .u8 0, .int .u8 0, .int .u8 0, .int .u8 0, .int .u8 0, .int .u8 0, .int .u8 0, .int .u8 0, .int .u8 0, .int .u8 0, .int .u8 0, .int .u8 0, .int .u8 0, .int .u8 0, .int .u8 0, .int .u8 0, .int .u8 0, .int .u8 0, .int .u8 0, .int .u8 0, .int .u8 0, .int .u8 0, .int .u8 0, .int .u8 0, .int .u8 0, .int .u8 0, .int .u8 0, .int .u8 0, .int .u8 0, .int .u8 0, .int .u8 0, .int .u8 0, .int .u8 0, .int .u8 0, .int .u8 0, .string ByteArray.empty, .int .u8 0, .int .u8 0, .int .u8 0, .int .u8 0, .int .u8 0, .int .u8 0, .int .u8 0, .int .u8 0, .int .u8 0, .int .u8 0, .int .u8 0, .int .u8 0, .int .u8 0, .int .u8 0, .int .u8 0, .int .u8 0, .int .u8 0, .int .u8 0, .int .u8 0, .int .u8 0, .int .u8 0, .int .u8 0, .int .u8 0, .int .u8 0, .int .u8 0, .int .u8 0, .int .u8 0, .int .u8 0, .int .u8 0, .int .u8 0, .int .u8 0, .int .u8 0, .int .u8 0, .int .u8 0, .int .u8 0, .int .u8 0, .int .u8 0, .int .u8 0, .int .u8 0, .int .u8 0, .int .u8 0, .int .u8 0, .int .u8 0, .int .u8 0, .int .u8 0, .int .u8 0, .int .u8 0, .int .u8 0, .int .u8 0, .int .u8 0, .int .u8 0, .int .u8 0, .int .u8 0, .int .u8 0, .int .u8 0, .int .u8 0, .int .u8 0, .int .u8 0, .int .u8 0, .int .u8 0, .int .u8 0, .int .u8 0, .int .u8 0, .int .u8 0], .string ByteArray.empty] 8 rfl (World.shaped_of_RefB (by kernel_rfl) (by kernel_rfl)) (by kernel_rfl) (by kernel_rfl) (by kernel_rfl) (door_met os _)) ?_
  intro W base args ds gs before hval0 hW _ hwt hL _
  have hval : ∀ (j : Nat) t v, Tryd.f9.params[j]? = some t → args[j]? = some v → Value.okWide Tryd.prog W .any base t v := hval0
  have hW' := hW
  obtain ⟨p, q, hA0, hV, rfl, hfz, hnd⟩ := hW
  have hA : DataW.TrodAll enc Tryd.prog W 0 (fun _ => true) true Tryd.f9.params.toList args.toList ds p := hA0
  have hw2 : (DataW.weightsEach Tryd.prog (Tryd.f9.params.toList ++ Rows.thirdOpensSpec.plain.varTypes Tryd.prog) (ds ++ gs)).all (· ≤ reachBytes) = true := hwt
  rw [Tryd.params9] at hA hval hw2
  obtain ⟨v0, v1, v2, d0, d1, d2, p0, p1, p2, rfl, rfl, rfl, ⟨n0, h0⟩, ⟨n1, h1⟩, ⟨n2, h2⟩⟩ := trodAll_three hA
  obtain ⟨rfl, rfl⟩ := trodVars_none hV
  have g0 := each_part (j := 0) (t := 29) (d := d0) hw2 rfl rfl
  have g1 := each_part (j := 1) (t := 70) (d := d1) hw2 rfl rfl
  have g2 := each_part (j := 2) (t := 9) (d := d2) hw2 rfl rfl
  obtain ⟨C0, rfl⟩ := okWide_tag (hval 0 29 v0 rfl rfl)
  obtain ⟨key, e0⟩ := open_tag _ _ _ h0
  obtain rfl := Array.toList_inj.1 (show C0.toList = _ from e0)
  obtain ⟨C1, rfl, -⟩ := okWide_struct Tryd.underlying70 (hval 1 70 v1 rfl rfl)
  obtain ⟨d, e1, hp1, hc1⟩ := open_deal _ _ _ h1 g1
  obtain rfl := Array.toList_inj.1 (show C1.toList = _ from e1)
  obtain ⟨s2, rfl⟩ := okWide_string Tryd.underlying9 (hval 2 9 v2 rfl rfl)
  obtain ⟨use2, ⟨e2, -⟩, hu2⟩ := str_open_s _ _ _ h2 g2
  obtain rfl : s2 = use2 := by simpa [Value.cells] using e2
  obtain ⟨l, rfl⟩ : ∃ l, s2 = txt l := ⟨byt s2, (txt_byt s2).symm⟩
  have hP := primes_of hL
  clear hA0 hval0 h0 h1 h2
  refine (c_thirdopens key d l W (by have := hu2; rw [txt_size] at this; simp only [maxLen]; omega) (by have := hc1; simp only [maxLen]; omega) hP).mono fun e W' ⟨he, hg⟩ => ?_
  subst he
  exact ⟨_, rfl, post_true laidOutD (by kernel_rfl) (by kernel_rfl) Tryd.underlying4 rfl hW' rfl hg⟩

theorem thirdOpens_row : Rows.ThirdOpensSaid :=
  OpenClaim.holds_of_wide 9 Tryd.f9 rfl rfl rfl rfl rfl rfl rfl ⟨rfl, rfl, rfl, rfl, rfl⟩ rfl rfl rfl rfl rfl (by kernel_rfl) Tryd.func9 (by kernel_rfl)
    (of_decide_eq_true (by kernel_rfl)) (by unfold Func.isWrapper; first | (rw [if_pos (by decide +kernel)]; kernel_rfl) | (rw [if_neg (by decide +kernel)]; exact ⟨rfl, rfl⟩))
    (fun os started H enc _ => thirdOpens_lifted os started H enc)
theorem thirdOpens_proved : Rows.ThirdOpensCardSaid :=
  Claim7.holds_tied_plain_at .later [] [.data] true (true, "d317ab1675fa3a16e363678a6185963307d92010002b8084dbffbaf3b4b18b17") false
    thirdOpens_row (fun _ h => by cases h) (by kernel_rfl) (fun _ h => by cases h) thirdOpens_row_tie rfl ⟨rfl, rfl⟩ (by kernel_rfl) rfl
    (fun f fn hf hfn => by
      obtain rfl : f = 9 := Option.some.inj ((show Tryd.prog.funcNamed "chitty/chittylaw20.ThirdOpens" = some 9 by kernel_rfl).symm.trans hf) |>.symm
      obtain rfl : fn = Tryd.f9 := (Option.some.inj (Tryd.func9.symm.trans hfn)).symm
      exact ⟨by kernel_rfl, fun j t ht => by
        rw [Tryd.params9] at ht
        have hm : t ∈ [29, 70, 9] := by simpa using Array.mem_of_getElem? ht
        have hall : ([29, 70, 9].all fun u => !Tryd.prog.wantsStandIn u) = true := by kernel_rfl
        exact (show Tryd.prog.wantsStandIn t = false by simpa using List.all_eq_true.1 hall t hm)⟩)
    (by kernel_rfl)
end Go.Proofs.YtdkeflhgengblaaDoor
