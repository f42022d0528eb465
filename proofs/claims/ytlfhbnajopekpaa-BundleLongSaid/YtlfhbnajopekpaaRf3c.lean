/- The document's answer for layer 10: a token's bytes. No condition. -/
import Derived.Test.YtlfhbnajopekpaaRf3
namespace Go.Proofs.Ytlfhbnajopekpaa
open Go.RowKit
attribute [local go_sem ↓] ld16 ld17 ld32 ld36
attribute [local go_sem] run_ldAgg run_storeAgg agg_alloc_at agg_alloc_past agg_drew agg_setCell row_alloc_at row_alloc_past row_drew setRow_alloc_at setRow_alloc_past setRow_drew agg_setRow_at agg_setRow_far cell_setRow_at cell_setRow_far row_setRow_far size_setRow tgC_size tgC_one tgC_part tgC_splice tokC_size tokC_0 tokC_1 tokC_2 tokC_3 tokC_g0 tokC_g1 tokC_g2 tokC_g3 tokC_part tokC_tag tokC_set0 tokC_set1 tokC_set2 tokC_set3 tokC_splice tokC_splice0 tgC_splice_any zero_tg zero_tok tokC_all tokC_ne tgC_ne

theorem row_of_cells {ok : Nat → Prop} {w : World} {l : List Fld} {g : Nat} {C : Array Value} {E : TypeId} {fr : Nat × Nat} (hl : ∀ f ∈ l, f.value.size ≤ maxLen) (hg : w.heap[g]? = some (.cells C E fr)) (hC : C.toList = (l.map Fld.cells).flatten) (hok : ok g) (n : Nat) (hn : l.length = n) (hm : n ≤ maxLen) :
    kFld.Row ok w (some ⟨g, 0, none⟩) n n l := by
  subst hn
  exact (flds_els hl).rowAt hg hC hok hm

set_option maxRecDepth 100000 in
set_option maxHeartbeats 600000 in
theorem c_rcav (x : Cav) (w : World) (hp : x.party < 18446744073709551616) (ht : x.text.size ≤ maxLen) (hi : x.id.size ≤ maxLen) (hv : x.vault.size ≤ maxLen) :
    Calls Try.prog 45 #[cavV x] w fun e w' => (∃ A n c, e = .returned (.slice A n c) ∧ kFld.Row (fun _ => True) w' A n c (cavFlds x)) ∧ Below w.heap.size w w' := by
  have HP := hide hp
  have HT := hide ht
  have HI := hide hi
  have HV := hide hv
  clear hp ht hi hv
  unfold cavV
  cases h3 : x.third with
  | false =>
    have HF : Hid (cavFlds x = [⟨3, x.text⟩]) := hide (by simp [cavFlds, h3])
    clear h3
    go_enter Try.func45, Try.ntmps45
    go_wp2_with fail
    go_ret
    rw [HF.out]
    refine ⟨⟨_, 1, 1, rfl, row_of_cells (C := #[.int .u8 3, .string x.text]) (E := 134) ?_ (heap_new2 _ _ _) rfl trivial 1 rfl (by decide)⟩, below2 _ _ _⟩
    intro f hf
    simp only [List.mem_singleton] at hf
    subst hf
    exact HT.out
  | true =>
    have HF : Hid (cavFlds x = [⟨4, txt (vput x.party)⟩, ⟨5, x.id⟩, ⟨6, x.vault⟩]) := hide (by simp [cavFlds, h3])
    clear h3
    go_enter Try.func45, Try.ntmps45
    go_wp2_with fail
    have hcell : (w.alloc (.cells #[.bool true, .string x.text, .int .u64 (x.party : Int), .string x.id, .string x.vault] 85)).heap[w.heap.size]? = some (.cells #[.bool true, .string x.text, .int .u64 (x.party : Int), .string x.id, .string x.vault] 85) := heap_alloc_new _ _
    have hc2 : (w.alloc (.cells #[.bool true, .string x.text, .int .u64 (x.party : Int), .string x.id, .string x.vault] 85)).cell? ⟨w.heap.size, 2, none⟩ = some (.int .u64 (x.party : Int)) := (cell_of_row _ _ _ _ _ _ hcell).trans rfl
    have hc3 : (w.alloc (.cells #[.bool true, .string x.text, .int .u64 (x.party : Int), .string x.id, .string x.vault] 85)).cell? ⟨w.heap.size, 3, none⟩ = some (.string x.id) := (cell_of_row _ _ _ _ _ _ hcell).trans rfl
    have hc4 : (w.alloc (.cells #[.bool true, .string x.text, .int .u64 (x.party : Int), .string x.id, .string x.vault] 85)).cell? ⟨w.heap.size, 4, none⟩ = some (.string x.vault) := (cell_of_row _ _ _ _ _ _ hcell).trans rfl
    clear hcell
    refine wp_region_ext mixed 11 (fun i v w' => match i with
      | 0 => v = .pointer (some ⟨w.heap.size, 2, none⟩)
      | 1 => v = .int .u64 (x.party : Int)
      | 2 => v = .string (txt (vput x.party))
      | 3 => v = .agg #[.int .u8 4, .string (txt (vput x.party))]
      | 4 => v = .pointer (some ⟨w.heap.size, 3, none⟩)
      | 5 => v = .string x.id
      | 6 => v = .agg #[.int .u8 5, .string x.id]
      | 7 => v = .pointer (some ⟨w.heap.size, 4, none⟩)
      | 8 => v = .string x.vault
      | 9 => v = .agg #[.int .u8 6, .string x.vault]
      | _ => ∃ g, v = .slice (some ⟨g, 0, none⟩) 3 3 ∧ w'.heap[g]? = some (.cells #[.int .u8 4, .string (txt (vput x.party)), .int .u8 5, .string x.id, .int .u8 6, .string x.vault] 134)
      ) (by kernel_rfl) rfl ?_ ?_ ?_
    · intro i v w1 w2 h1 h2
      split at h2 <;> first | exact h2 | (obtain ⟨g, rfl, hg⟩ := h2; exact ⟨g, rfl, h1.heap hg⟩)
    · refine ⟨fun a w1 hle hd hf hs K hK => ?_, fun a w1 hle hd hf hs K hK => ?_, fun a w1 hle hd hf hs K hK => ?_, fun a w1 hle hd hf hs K hK => ?_, fun a w1 hle hd hf hs K hK => ?_, fun a w1 hle hd hf hs K hK => ?_, fun a w1 hle hd hf hs K hK => ?_, fun a w1 hle hd hf hs K hK => ?_, fun a w1 hle hd hf hs K hK => ?_, fun a w1 hle hd hf hs K hK => ?_, fun a w1 hle hd hf hs K hK => ?_, trivial⟩
      all_goals clear hd
      · have e1 := hf 1 rfl; simp [Act.eval] at e1
        go_simp; exact hK _ _ (Ext.refl _) rfl
      · have e5 := hs 0 5 (by kernel_rfl) rfl; simp [Act.eval] at e5
        have hc := hle.cell hc2
        go_simp; exact hK _ _ (Ext.refl _) rfl
      · have e6 := hs 1 6 (by kernel_rfl) rfl; simp [Act.eval] at e6
        go_simp
        refine (c_rnum x.party _ w1 rfl HP.out).mono ?_
        rintro e w3 ⟨rfl, b⟩
        exact hK _ _ b rfl
      · have e7 := hs 2 7 (by kernel_rfl) rfl; simp [Act.eval] at e7
        go_simp; exact hK _ _ (Ext.refl _) rfl
      · have e1 := hf 1 rfl; simp [Act.eval] at e1
        go_simp; exact hK _ _ (Ext.refl _) rfl
      · have e9 := hs 4 9 (by kernel_rfl) rfl; simp [Act.eval] at e9
        have hc := hle.cell hc3
        go_simp; exact hK _ _ (Ext.refl _) rfl
      · have e10 := hs 5 10 (by kernel_rfl) rfl; simp [Act.eval] at e10
        go_simp; exact hK _ _ (Ext.refl _) rfl
      · have e1 := hf 1 rfl; simp [Act.eval] at e1
        go_simp; exact hK _ _ (Ext.refl _) rfl
      · have e12 := hs 7 12 (by kernel_rfl) rfl; simp [Act.eval] at e12
        have hc := hle.cell hc4
        go_simp; exact hK _ _ (Ext.refl _) rfl
      · have e13 := hs 8 13 (by kernel_rfl) rfl; simp [Act.eval] at e13
        go_simp; exact hK _ _ (Ext.refl _) rfl
      · have e8 := hs 3 8 (by kernel_rfl) rfl; have e11 := hs 6 11 (by kernel_rfl) rfl; have e14 := hs 9 14 (by kernel_rfl) rfl; simp [Act.eval] at e8 e11 e14
        go_simp; exact hK _ _ (Ext.alloc _ _) ⟨_, rfl, heap_alloc_new _ _⟩
    intro vs w2 hle hs
    have v10 := hs 10 (by omega) rfl
    simp only at v10
    clear hs
    obtain ⟨g, v10, hg⟩ := v10
    simp only [putN, dstAt]
    have HLE := hide (Ext.trans (Ext.alloc w _) hle)
    have HG := hide hg
    clear hle hg hc2 hc3 hc4
    go_simp
    go_wp2_with fail
    go_ret
    rw [HF.out]
    refine ⟨⟨_, 3, 3, rfl, row_of_cells ?_ HG.out rfl trivial 3 rfl (by decide)⟩, HLE.out⟩
    intro f hf
    simp only [List.mem_cons, List.not_mem_nil, or_false] at hf
    have := vput_len10 HP.out
    rcases hf with rfl | rfl | rfl
    · simp only [txt_size, maxLen]; omega
    · exact HI.out
    · exact HV.out
theorem src_fld2 {ok ok' : Nat → Prop} {w : World} {A : Option Addr} {m : Nat} {xs : List Fld} (h : kFld.Src ok w A m xs) : kFld.Src ok' w A m xs := let ⟨h1, css, he, hc⟩ := h; ⟨h1, css, ⟨he.1, fun i x cs hx hcs => he.2 i x cs hx hcs⟩, hc⟩
theorem encFlds_vals {t : Tok} (h : checkT t = true) (hk : t.ok) : ∀ f ∈ encFlds t, f.value.size ≤ 1024 := by
  have hc : t.id.size ≤ 1024 ∧ t.cavs.length ≤ 64 ∧ t.cavs.all canC = true := by
    simp only [checkT, Bool.and_eq_true, decide_eq_true_eq] at h
    exact ⟨h.1.1, h.1.2, h.2⟩
  intro f hf
  simp only [encFlds, List.mem_append, List.mem_cons, List.not_mem_nil, or_false, List.mem_flatMap] at hf
  have h10 := vput_len10 hk.1
  rcases hf with ((rfl | rfl) | ⟨x, hx, hf⟩) | (rfl | rfl)
  · simp only [txt_size]; omega
  · exact hc.1
  · have h1 := can_small (List.all_eq_true.1 hc.2.2 x hx)
    have h2 := vput_len10 (hk.2 x hx)
    simp only [cavFlds] at hf
    split at hf
    · simp only [List.mem_cons, List.not_mem_nil, or_false] at hf
      rcases hf with rfl | rfl | rfl
      · simp only [txt_size]; omega
      · exact h1.2.1
      · exact h1.2.2
    · simp only [List.mem_singleton] at hf
      subst hf
      have := h1.1
      show x.text.size ≤ 1024
      omega
  · cases t.bnd <;> decide
  · simp only [txt_size, t.tag.len]; decide
theorem cavFlds_len (x : Cav) : (cavFlds x).length ≤ 3 := by
  unfold cavFlds
  split <;> simp
end Go.Proofs.Ytlfhbnajopekpaa
