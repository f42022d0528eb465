/- The walks of layer 10: a token's bytes, further. No condition. -/
import Derived.Test.YtlfhbnajopekpaaPkt7
namespace Go.Proofs.Ytlfhbnajopekpaa
open Go.RowKit
attribute [local go_sem ↓] ld16 ld17 ld32 ld36
attribute [local go_sem] run_ldAgg run_storeAgg agg_alloc_at agg_alloc_past agg_drew agg_setCell row_alloc_at row_alloc_past row_drew setRow_alloc_at setRow_alloc_past setRow_drew agg_setRow_at agg_setRow_far cell_setRow_at cell_setRow_far row_setRow_far size_setRow tgC_size tgC_one tgC_part tgC_splice tokC_size tokC_0 tokC_1 tokC_2 tokC_3 tokC_g0 tokC_g1 tokC_g2 tokC_g3 tokC_part tokC_tag tokC_set0 tokC_set1 tokC_set2 tokC_set3 tokC_splice tokC_splice0 tgC_splice_any zero_tg zero_tok tokC_all tokC_ne tgC_ne

def flagB (b : Bool) : ByteArray := if b then b1 else b0
def encFlds (t : Tok) : List Fld := [⟨1, txt (vput t.key)⟩, ⟨2, t.id⟩] ++ t.cavs.flatMap cavFlds ++ [⟨7, flagB t.bnd⟩, ⟨8, txt t.tag.l⟩]
/-- A token's bytes, of one that can be. -/
def enc (t : Tok) : List UInt8 := fjoin (encFlds t)
theorem tok_row {w : World} {g : Nat} {a b c d : Value} {t : Tg} {T : TypeId} {fr : Nat × Nat} (h : w.heap[g]? = some (.cells (tokC a b c d t) T fr)) : kU8.Row (fun _ => True) w (some ⟨g, 4, none⟩) 32 32 t.l := by
  refine ⟨t.len, Nat.le_refl _, by simp [maxLen], fun _ => ⟨g, 4, rfl, trivial, (Array.getElem?_eq_some_iff.1 h).1, fun i x hx => ⟨[bv x], ⟨rfl, trivial⟩, fun j v hv => ?_⟩⟩⟩
  match j, hv with
  | 0, hv =>
    simp at hv
    subst hv
    rw [cell_of_row w _ _ _ _ _ h]
    have hi : i < 32 := by rw [← t.len]; exact (List.getElem?_eq_some_iff.1 hx).1
    show (tokC a b c d t)[4 + i * 1 + 0]? = _
    rw [Nat.mul_one, Nat.add_zero, tokC, Array.getElem?_append, if_neg (by simp)]
    simp [tgC, hx]
  | j + 1, hv => simp at hv
theorem can_small {x : Cav} (h : canC x = true) : x.text.size ≤ 512 ∧ x.id.size ≤ 1024 ∧ x.vault.size ≤ 1024 := by
  unfold canC at h
  cases h3 : x.third with
  | true =>
    rw [h3] at h
    simp at h
    obtain ⟨⟨h1, h2⟩, h4⟩ := h
    rw [h1]
    exact ⟨by decide, h2, h4⟩
  | false =>
    rw [h3] at h
    simp [cav_mk] at h
    obtain ⟨h1, _, _, h4, h5⟩ := h
    rw [h4, h5]
    exact ⟨h1, by decide, by decide⟩
theorem cav_len {x : Cav} (h : canC x = true) (hp : x.party < 18446744073709551616) : (fjoin (cavFlds x)).length ≤ 5000 := by
  obtain ⟨h1, h2, h3⟩ := can_small h
  have hn := vput_len10 hp
  have e1 := fput_len ⟨4, txt (vput x.party)⟩ (by rw [txt_size]; omega)
  have e2 := fput_len ⟨5, x.id⟩ (by simp only; omega)
  have e3 := fput_len ⟨6, x.vault⟩ (by simp only; omega)
  have e4 := fput_len ⟨3, x.text⟩ (by simp only; omega)
  simp only [txt_size] at e1 e2 e3 e4
  unfold cavFlds
  split <;> simp [fjoin] <;> omega
def Encoded (w : World) (t : Tok) (e : Ending) (w' : World) : Prop :=
  ∃ v, e = .returned (.tuple #[v, errV (checkT t)]) ∧ kU8.Own (fun _ => True) w.heap.size w' 5 v (if checkT t then enc t else []) ∧ Below w.heap.size w w'

set_option maxRecDepth 100000 in
set_option maxHeartbeats 600000 in
theorem c_encode (t : Tok) (A : Option Addr) (n c : Nat) (ok : Nat → Prop) (w : World) (hR : kCav.Row ok w A n c t.cavs) (hk : t.key < 18446744073709551616) :
    Calls Try.prog 30 #[tokV t A n c] w (Encoded w t) := by
  have HL := hide hR.1
  have hm : n ≤ 9223372036854775807 := Nat.le_trans hR.2.1 hR.2.2.1
  have HR := hide hR
  have HK := hide hk
  clear hR hk
  cases hc : checkT t with
  | false =>
    have HC := hide hc
    clear hc
    go_enter Try.func30, Try.ntmps30
    go_wp2_with fail
    refine (c_check t A n c ok _ (HR.out.below (below1 _ _))).mono ?_
    rintro e w1 ⟨rfl, b1⟩
    have HB := hide (bnext (below1 _ _) b1)
    clear b1
    rw [HC.out]
    simp only [errV]
    go_wp2_with fail
    exact bodyPost_ret (v := .tuple #[.slice none 0 0, .int .i64 1]) (by simp [results, Try.results30, go_sem]) rfl ⟨_, by rw [HC.out]; rfl, by rw [HC.out]; exact .nil _ _ _ _ _, HB.out⟩
  | true =>
    have hsm : t.id.size ≤ 1024 ∧ t.cavs.length ≤ 64 ∧ t.cavs.all canC = true := by
      simp only [checkT, Bool.and_eq_true, decide_eq_true_eq] at hc
      exact ⟨hc.1.1, hc.1.2, hc.2⟩
    have HC := hide hc
    have HSM := hide hsm
    have hn64 : n ≤ 64 := by rw [← HL.out]; exact hsm.2.1
    clear hc hsm
    go_enter Try.func30, Try.ntmps30
    go_wp2_with fail
    refine (c_check t A n c ok _ (HR.out.below (below1 _ _))).mono ?_
    rintro e w1 ⟨rfl, b1⟩
    have HB := hide b1
    have hg1 : w1.heap[w.heap.size]? = some (.cells (tokC (.int .u64 (t.key : Int)) (.string t.id) (.slice A n c) (.bool t.bnd) t.tag) 59) := (b1.block _ (by simp)).trans (heap_alloc_new _ _)
    have HG1 := hide hg1
    have HB1 := hide (bnext (below1 _ _) b1)
    clear b1
    rw [HC.out]
    simp only [errV]
    have hl1 : fjoin [⟨1, txt (vput t.key)⟩, ⟨2, t.id⟩] = fjoin [⟨1, txt (vput t.key)⟩, ⟨2, t.id⟩] := rfl
    have hnum : (txt (vput t.key)).size ≤ 10 := by rw [txt_size]; exact vput_len10 HK.out
    have hsz : (fjoin [⟨1, txt (vput t.key)⟩, ⟨2, t.id⟩]).length ≤ 1100 := by
      have h1 := fput_len ⟨1, txt (vput t.key)⟩ (by simp only; omega)
      have h2 := fput_len ⟨2, t.id⟩ (by have := HSM.out.1; simp only; omega)
      have := HSM.out.1
      simp [fjoin]
      simp at *
      omega
    have hv1 : ∀ f ∈ [(⟨1, txt (vput t.key)⟩ : Fld), ⟨2, t.id⟩], f.value.size ≤ 1099511627776 := by
      have := HSM.out.1
      simp
      omega
    have HSZ := hide hsz
    have HV1 := hide hv1
    clear hsz hv1 hl1 hnum
    go_wp2_with fail
    refine wp_region_ext mixed 8 (fun i v w' => match i with
      | 0 => v = .pointer (some ⟨w.heap.size, 0, none⟩)
      | 1 => v = .int .u64 (t.key : Int)
      | 2 => v = .string (txt (vput t.key))
      | 3 => v = .agg #[.int .u8 1, .string (txt (vput t.key))]
      | 4 => v = .pointer (some ⟨w.heap.size, 1, none⟩)
      | 5 => v = .string t.id
      | 6 => v = .agg #[.int .u8 2, .string t.id]
      | _ => ∃ g, v = .slice (some ⟨g, 0, none⟩) 2 2 ∧ w'.heap[g]? = some (.cells #[.int .u8 1, .string (txt (vput t.key)), .int .u8 2, .string t.id] 117)
      ) (by kernel_rfl) rfl ?_ ?_ ?_
    · intro i v w1 w2 h1 h2
      split at h2 <;> first | exact h2 | (obtain ⟨g, rfl, hg⟩ := h2; exact ⟨g, rfl, h1.heap hg⟩)
    · refine ⟨fun a w2 hle hd hf hs K hK => ?_, fun a w2 hle hd hf hs K hK => ?_, fun a w2 hle hd hf hs K hK => ?_, fun a w2 hle hd hf hs K hK => ?_, fun a w2 hle hd hf hs K hK => ?_, fun a w2 hle hd hf hs K hK => ?_, fun a w2 hle hd hf hs K hK => ?_, fun a w2 hle hd hf hs K hK => ?_, trivial⟩
      all_goals clear hd
      · have e1 := hf 1 rfl; simp [Act.eval] at e1
        go_simp; exact hK _ _ (Ext.refl _) rfl
      · have e14 := hs 0 14 (by kernel_rfl) rfl; simp [Act.eval] at e14
        have hc : w2.cell? ⟨w.heap.size, 0, none⟩ = some (.int .u64 (t.key : Int)) := (cell_of_row w2 _ _ _ _ _ (hle.heap HG1.out)).trans (tokC_0 _ _ _ _ _)
        go_simp; exact hK _ _ (Ext.refl _) rfl
      · have e15 := hs 1 15 (by kernel_rfl) rfl; simp [Act.eval] at e15
        go_simp
        refine (c_number t.key _ w2 rfl HK.out).mono ?_
        rintro e w3 ⟨rfl, b⟩
        exact hK _ _ b rfl
      · have e16 := hs 2 16 (by kernel_rfl) rfl; simp [Act.eval] at e16
        go_simp; exact hK _ _ (Ext.refl _) rfl
      · have e1 := hf 1 rfl; simp [Act.eval] at e1
        go_simp; exact hK _ _ (Ext.refl _) rfl
      · have e18 := hs 4 18 (by kernel_rfl) rfl; simp [Act.eval] at e18
        have hc : w2.cell? ⟨w.heap.size, 1, none⟩ = some (.string t.id) := (cell_of_row w2 _ _ _ _ _ (hle.heap HG1.out)).trans (tokC_1 _ _ _ _ _)
        go_simp; exact hK _ _ (Ext.refl _) rfl
      · have e19 := hs 5 19 (by kernel_rfl) rfl; simp [Act.eval] at e19
        go_simp; exact hK _ _ (Ext.refl _) rfl
      · have e17 := hs 3 17 (by kernel_rfl) rfl; have e20 := hs 6 20 (by kernel_rfl) rfl; simp [Act.eval] at e17 e20
        go_simp; exact hK _ _ (Ext.alloc _ _) ⟨_, rfl, heap_alloc_new _ _⟩
    intro vs w2 hle hs
    have v7 := hs 7 (by omega) rfl
    simp only at v7
    clear hs
    obtain ⟨g, v7, hg⟩ := v7
    simp only [putN, dstAt]
    have HLE := hide hle
    have HG := hide hg
    have HG2 := hide (hle.heap HG1.out)
    clear hle hg
    go_simp
    go_wp2_with fail
    refine (c_fjoin (some ⟨g, 0, none⟩) 2 2 [⟨1, txt (vput t.key)⟩, ⟨2, t.id⟩] (fun _ => True) _ ((flds_els (fun f hf => Nat.le_trans (HV1.out f hf) (by decide))).rowAt HG.out rfl trivial (by simp [maxLen])) (Nat.le_trans HSZ.out (by decide)) HV1.out).mono ?_
    rintro e w3 ⟨v3, rfl, ho, hb⟩
    have HB3 := hide (HB1.out.trans (((HLE.out.mono HB1.out.size)).trans (hb.mono (Nat.le_trans HB1.out.size HLE.out.size))))
    have HO3 := hide (ho.lower (base' := w2.heap.size) (Nat.le_refl _))
    have hg3 := (hb.block _ (Array.getElem?_eq_some_iff.1 HG2.out).1).trans HG2.out
    have HG3 := hide hg3
    have hw23 := hb.size
    have hgl : w.heap.size < w2.heap.size := (Array.getElem?_eq_some_iff.1 HG2.out).1
    have hy2 : w3.cell? ⟨w.heap.size, 2, none⟩ = some (.slice A n c) := (cell_of_row w3 _ _ _ _ _ hg3).trans (tokC_2 _ _ _ _ _)
    clear ho hb hg3
    go_wp2_with fail
    go_loopw [26, 5] (fun i p wr => ∃ k : Nat, k ≤ n ∧ i = .int .i64 (k : Int) ∧ Hid (kU8.Own (fun _ => True) w2.heap.size wr 5 p (fjoin ([⟨1, txt (vput t.key)⟩, ⟨2, t.id⟩] ++ (t.cavs.take k).flatMap cavFlds))) ∧ Hid ((fjoin ([⟨1, txt (vput t.key)⟩, ⟨2, t.id⟩] ++ (t.cavs.take k).flatMap cavFlds)).length ≤ 1100 + 5000 * k) ∧ Hid (Below w2.heap.size w3 wr)) (fun i _ _ => n - (intOf i).toNat)
    case atStart => exact ⟨0, Nat.zero_le _, rfl, hide (by simpa using HO3.out), hide (by simpa using HSZ.out), hide (Below.refl _ _)⟩
    case round =>
      obtain ⟨k, hk, rfl, HO, HLN, HBW⟩ := hrel
      by_cases hlt : k < n
      · obtain ⟨x, hx⟩ : ∃ x, t.cavs[k]? = some x := ⟨_, List.getElem?_eq_getElem (by have := HL.out; omega)⟩
        have HRW := HR.out.below (HB3.out.trans (HBW.out.mono (by omega)))
        obtain ⟨b, q, csx, hix, -, hbl, hK, hra⟩ := HRW.index (P := Try.prog) Try.underlying57 (E := 85) cav_size hx
        have hKe := hK.1
        have HOK := hide hK.2
        subst hKe
        have a0 := hra 0 _ rfl
        have a1 := hra 1 _ rfl
        have a2 := hra 2 _ rfl
        have a3 := hra 3 _ rfl
        have a4 := hra 4 _ rfl
        simp only [Nat.add_zero] at a0
        have hcan : canC x = true := List.all_eq_true.1 HSM.out.2.2 x (List.mem_of_getElem? hx)
        have HSMX := hide (can_small hcan)
        have HCL := hide (cav_len hcan HOK.out.2.1)
        have HTK : Hid (t.cavs.take (k + 1) = t.cavs.take k ++ [x]) := hide (by rw [List.take_add_one, hx]; rfl)
        have hs3 := HBW.out.size
        have hs3' := HB3.out.size
        clear hx HRW hK hra hcan
        go_wp2_with fail
        refine (c_caveat x _ (by have := HSMX.out.1; omega) HOK.out.2.1 (by have := HSMX.out.2.1; omega) (by have := HSMX.out.2.2; omega)).mono ?_
        rintro e w4 ⟨v4, rfl, ho, hb⟩
        have hb' := bnext (below1 wr (.cells #[.bool x.third, .string x.text, .int .u64 (x.party : Int), .string x.id, .string x.vault] 85)) hb
        have HB4 := hide (HBW.out.trans (hb'.mono (by omega)))
        have HOW := hide (HO.out.below hb')
        obtain ⟨A4, c4, rfl, hr4⟩ := ho.row
        have HR4 := hide hr4
        have hs4 := HB4.out.size
        clear ho hb hb' hr4
        go_wp2_with (at_builtin; go_must (refine wpList_app (d := kU8) (ys := fjoin (cavFlds x)) rfl _ _ _ rfl Try.underlying60 u8_info rfl (by decide) c4 rfl rfl (.inl HOW.out) (src8 HR4.out.src) ?_ ?_ ?_ ?_))
        · omega
        · have := HLN.out; have := HCL.out; simp only [maxLen]; omega
        · have := HLN.out; have := HCL.out; omega
        · intro v5 w5 _ h2 h3 h4 h5
          have HO5 := hide (h2 (.inr HOW.out))
          have HB5 := hide (HB4.out.trans h3)
          clear h2 h3 h4 h5
          have HEQ : Hid (fjoin ([⟨1, txt (vput t.key)⟩, ⟨2, t.id⟩] ++ (t.cavs.take (k + 1)).flatMap cavFlds) = fjoin ([⟨1, txt (vput t.key)⟩, ⟨2, t.id⟩] ++ (t.cavs.take k).flatMap cavFlds) ++ fjoin (cavFlds x)) := hide (by
            rw [HTK.out, List.flatMap_append, ← List.append_assoc, fjoin_app _ (List.flatMap cavFlds [x])]
            simp)
          go_wp2_with fail
          go_roundw
          case rel =>
            refine ⟨k + 1, by omega, by simp, hide ?_, hide ?_, HB5⟩
            · rw [HEQ.out]; exact HO5.out
            · rw [HEQ.out, List.length_append]
              have := HLN.out; have := HCL.out; omega
          case measure => simp [intOf]; omega
      · obtain rfl : k = n := by omega
        have HTK : Hid (t.cavs.take k = t.cavs) := hide (List.take_of_length_le (Nat.le_of_eq HL.out))
        rw [HTK.out] at HO HLN
        have hgw := (HBW.out.block _ hgl).trans HG3.out
        have HGW := hide hgw
        have hy3 : wr.cell? ⟨w.heap.size, 3, none⟩ = some (.bool t.bnd) := (cell_of_row wr _ _ _ _ _ hgw).trans (tokC_3 _ _ _ _ _)
        have hst := row_string (P := Try.prog) Try.underlying60 Try.underlying5 Try.underlying9 (tok_row hgw)
        clear hgw
        cases hbd : t.bnd with
        | true =>
          rw [hbd] at hy3
          have HEN : Hid (enc t = fjoin ([⟨1, txt (vput t.key)⟩, ⟨2, t.id⟩] ++ t.cavs.flatMap cavFlds) ++ fjoin [⟨7, b1⟩, ⟨8, txt t.tag.l⟩]) := hide (by rw [enc, encFlds, fjoin_app, hbd]; rfl)
          have HV2 : Hid (∀ f ∈ [(⟨7, b1⟩ : Fld), ⟨8, txt t.tag.l⟩], f.value.size ≤ 32) := hide (by
            have h1 : (txt t.tag.l).size = 32 := by rw [txt_size, t.tag.len]
            have h2 : (b1).size = 1 := rfl
            simp
            omega)
          have HS2 : Hid ((fjoin [⟨7, b1⟩, ⟨8, txt t.tag.l⟩]).length ≤ 100) := hide (by
            have e1 := fput_len ⟨7, b1⟩ (by decide)
            have e2 := fput_len ⟨8, txt t.tag.l⟩ (by simp only; rw [txt_size, t.tag.len]; decide)
            have h1 : (txt t.tag.l).size = 32 := by rw [txt_size, t.tag.len]
            have h2 : (b1).size = 1 := rfl
            simp only [h1, h2] at e1 e2
            simp [fjoin]
            omega)
          have hws := HBW.out.size
          clear hbd
          go_wp2_with fail
          refine (c_fjoin (some ⟨wr.heap.size, 0, none⟩) 2 2 [⟨7, b1⟩, ⟨8, txt t.tag.l⟩] (fun _ => True) _ ((flds_els (fun f hf => Nat.le_trans (HV2.out f hf) (by decide))).rowAt (C := #[.int .u8 7, .string ⟨#[1]⟩, .int .u8 8, .string (txt t.tag.l)]) (heap_alloc_new _ _) rfl trivial (by simp [maxLen])) (Nat.le_trans HS2.out (by decide)) (fun f hf => Nat.le_trans (HV2.out f hf) (by decide))).mono ?_
          rintro e w4 ⟨v4, rfl, ho, hb⟩
          have hb' := bnext (below1 wr (.cells #[.int .u8 7, .string ⟨#[1]⟩, .int .u8 8, .string (txt t.tag.l)] 117)) hb
          have HB4 := hide (HBW.out.trans (hb'.mono (by omega)))
          have HOW := hide (HO.out.below hb')
          obtain ⟨A4, c4, rfl, hr4⟩ := ho.row
          have HR4 := hide hr4
          have hs4 := HB4.out.size
          clear ho hb hb' hr4
          go_wp2_with (at_builtin; go_must (refine wpList_app (d := kU8) (ys := fjoin [⟨7, b1⟩, ⟨8, txt t.tag.l⟩]) rfl _ _ _ rfl Try.underlying60 u8_info rfl (by decide) c4 rfl rfl (.inl HOW.out) (src8 HR4.out.src) ?_ ?_ ?_ ?_))
          · omega
          · have := HLN.out; have := HS2.out; simp only [maxLen]; omega
          · have := HLN.out; have := HS2.out; omega
          · intro v5 w5 _ h2 h3 h4 h5
            have HO5 := hide (h2 (.inr HOW.out))
            have HB5 := hide (HB4.out.trans h3)
            clear h2 h3 h4 h5
            go_wp2_with fail
            exact bodyPost_ret (v := .tuple #[v5, .int .i64 0]) (by simp [results, Try.results30, go_sem]) rfl ⟨v5, by rw [HC.out]; rfl, by
              rw [HC.out, if_pos rfl, HEN.out]
              exact HO5.out.lower (by omega), HB3.out.trans (HB5.out.mono (by omega))⟩
        | false =>
          rw [hbd] at hy3
          have HEN : Hid (enc t = fjoin ([⟨1, txt (vput t.key)⟩, ⟨2, t.id⟩] ++ t.cavs.flatMap cavFlds) ++ fjoin [⟨7, b0⟩, ⟨8, txt t.tag.l⟩]) := hide (by rw [enc, encFlds, fjoin_app, hbd]; rfl)
          have HV2 : Hid (∀ f ∈ [(⟨7, b0⟩ : Fld), ⟨8, txt t.tag.l⟩], f.value.size ≤ 32) := hide (by
            have h1 : (txt t.tag.l).size = 32 := by rw [txt_size, t.tag.len]
            have h2 : (b0).size = 1 := rfl
            simp
            omega)
          have HS2 : Hid ((fjoin [⟨7, b0⟩, ⟨8, txt t.tag.l⟩]).length ≤ 100) := hide (by
            have e1 := fput_len ⟨7, b0⟩ (by decide)
            have e2 := fput_len ⟨8, txt t.tag.l⟩ (by simp only; rw [txt_size, t.tag.len]; decide)
            have h1 : (txt t.tag.l).size = 32 := by rw [txt_size, t.tag.len]
            have h2 : (b0).size = 1 := rfl
            simp only [h1, h2] at e1 e2
            simp [fjoin]
            omega)
          have hws := HBW.out.size
          clear hbd
          go_wp2_with fail
          refine (c_fjoin (some ⟨wr.heap.size, 0, none⟩) 2 2 [⟨7, b0⟩, ⟨8, txt t.tag.l⟩] (fun _ => True) _ ((flds_els (fun f hf => Nat.le_trans (HV2.out f hf) (by decide))).rowAt (C := #[.int .u8 7, .string ⟨#[0]⟩, .int .u8 8, .string (txt t.tag.l)]) (heap_alloc_new _ _) rfl trivial (by simp [maxLen])) (Nat.le_trans HS2.out (by decide)) (fun f hf => Nat.le_trans (HV2.out f hf) (by decide))).mono ?_
          rintro e w4 ⟨v4, rfl, ho, hb⟩
          have hb' := bnext (below1 wr (.cells #[.int .u8 7, .string ⟨#[0]⟩, .int .u8 8, .string (txt t.tag.l)] 117)) hb
          have HB4 := hide (HBW.out.trans (hb'.mono (by omega)))
          have HOW := hide (HO.out.below hb')
          obtain ⟨A4, c4, rfl, hr4⟩ := ho.row
          have HR4 := hide hr4
          have hs4 := HB4.out.size
          clear ho hb hb' hr4
          go_wp2_with (at_builtin; go_must (refine wpList_app (d := kU8) (ys := fjoin [⟨7, b0⟩, ⟨8, txt t.tag.l⟩]) rfl _ _ _ rfl Try.underlying60 u8_info rfl (by decide) c4 rfl rfl (.inl HOW.out) (src8 HR4.out.src) ?_ ?_ ?_ ?_))
          · omega
          · have := HLN.out; have := HS2.out; simp only [maxLen]; omega
          · have := HLN.out; have := HS2.out; omega
          · intro v5 w5 _ h2 h3 h4 h5
            have HO5 := hide (h2 (.inr HOW.out))
            have HB5 := hide (HB4.out.trans h3)
            clear h2 h3 h4 h5
            go_wp2_with fail
            exact bodyPost_ret (v := .tuple #[v5, .int .i64 0]) (by simp [results, Try.results30, go_sem]) rfl ⟨v5, by rw [HC.out]; rfl, by
              rw [HC.out, if_pos rfl, HEN.out]
              exact HO5.out.lower (by omega), HB3.out.trans (HB5.out.mono (by omega))⟩
end Go.Proofs.Ytlfhbnajopekpaa
