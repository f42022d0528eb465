/- The walks of layer 10: a token's bytes. No condition. -/
import Derived.Test.YtlfhbnajopekpaaPkt6
namespace Go.Proofs.Ytlfhbnajopekpaa
open Go.RowKit

theorem Kd.Els.rowAt {α : Type} {d : Kd α} {ok : Nat → Prop} {w : World} {xs : List α} {css : List (List Value)} {g : Nat} {C : Array Value} {E : TypeId} {fr : Nat × Nat} (h : d.Els ok w xs css) (hg : w.heap[g]? = some (.cells C E fr)) (hC : C.toList = css.flatten) (hok : ok g) (hn : xs.length ≤ maxLen) :
    d.Row ok w (some ⟨g, 0, none⟩) xs.length xs.length xs := by
  refine ⟨rfl, Nat.le_refl _, hn, fun _ => ⟨g, 0, rfl, hok, (Array.getElem?_eq_some_iff.1 hg).1, fun i x hx => ?_⟩⟩
  obtain ⟨cs, hcs⟩ : ∃ cs, css[i]? = some cs := ⟨_, List.getElem?_eq_getElem (by have := h.1; have := (List.getElem?_eq_some_iff.1 hx).1; omega)⟩
  refine ⟨cs, h.2 i x cs hx hcs, fun j v hv => ?_⟩
  rw [cell_of_row w _ _ _ _ _ hg, ← Array.getElem?_toList, hC, Nat.zero_add]
  exact flat_at h.lens hcs hv
theorem heap_new2 (w : World) (o p : Obj) : ((w.alloc o).alloc p).heap[w.heap.size + 1]? = some p := by
  have := heap_alloc_new (w.alloc o) p
  rwa [World.size_alloc] at this
theorem flds_els {ok : Nat → Prop} {w : World} : ∀ {l : List Fld}, (∀ f ∈ l, f.value.size ≤ maxLen) → kFld.Els ok w l (l.map Fld.cells)
  | l, h => ⟨by simp, fun i x cs hx hcs => by
    rw [List.getElem?_map, hx] at hcs
    cases hcs
    exact ⟨rfl, h x (List.mem_of_getElem? hx)⟩⟩
/-- A caveat's fields. -/
def cavFlds (c : Cav) : List Fld := if c.third then [⟨4, txt (vput c.party)⟩, ⟨5, c.id⟩, ⟨6, c.vault⟩] else [⟨3, c.text⟩]
theorem fput_len (f : Fld) (h : f.value.size < 18446744073709551616) : (fput f).length ≤ 11 + f.value.size := by
  have := vput_len10 h
  simp [fput]
  omega

set_option maxRecDepth 100000 in
set_option maxHeartbeats 400000 in
theorem c_caveat (x : Cav) (w : World) (ht : x.text.size ≤ 274877906944) (hp : x.party < 18446744073709551616) (hi : x.id.size ≤ 274877906944) (hv : x.vault.size ≤ 274877906944) :
    Calls Try.prog 43 #[cavV x] w fun e w' => ∃ v, e = .returned v ∧ kU8.Own (fun _ => True) w.heap.size w' 5 v (fjoin (cavFlds x)) ∧ Below w.heap.size w w' := by
  have HT := hide ht
  have HP := hide hp
  have HI := hide hi
  have HV := hide hv
  clear ht hp hi hv
  unfold cavV
  cases h3 : x.third with
  | false =>
    have HF : Hid (cavFlds x = [⟨3, x.text⟩]) := hide (by rw [cavFlds, h3]; rfl)
    clear h3
    go_enter Try.func43, Try.ntmps43
    have hsz : (fjoin [⟨3, x.text⟩]).length ≤ 1099511627776 := by
      have := fput_len ⟨3, x.text⟩ (by have := HT.out; simp only; omega)
      have := HT.out
      simp [fjoin]
      simp at *
      omega
    have hv1 : ∀ f ∈ [(⟨3, x.text⟩ : Fld)], f.value.size ≤ 1099511627776 := by
      have := HT.out
      simp
      omega
    have HSZ := hide hsz
    have HV1 := hide hv1
    clear hsz hv1
    go_wp2_with fail
    refine (c_fjoin (some ⟨w.heap.size + 1, 0, none⟩) 1 1 [⟨3, x.text⟩] (fun _ => True) _ ((flds_els (fun f hf => Nat.le_trans (HV1.out f hf) (by decide))).rowAt (C := #[.int .u8 3, .string x.text]) (heap_new2 _ _ _) rfl trivial (by simp [maxLen])) HSZ.out HV1.out).mono ?_
    rintro e w1 ⟨v, rfl, ho, hb⟩
    have HO := hide (ho.lower (base' := w.heap.size) (by simp; omega))
    have HB := hide (bnext (below2 _ _ _) hb)
    clear ho hb
    go_wp2_with fail
    go_ret
    exact ⟨_, rfl, by rw [HF.out]; exact HO.out, HB.out⟩
  | true =>
    have HF : Hid (cavFlds x = [⟨4, txt (vput x.party)⟩, ⟨5, x.id⟩, ⟨6, x.vault⟩]) := hide (by rw [cavFlds, h3]; rfl)
    have hnum : (txt (vput x.party)).size ≤ 10 := by rw [txt_size]; exact vput_len10 HP.out
    have hsz : (fjoin [⟨4, txt (vput x.party)⟩, ⟨5, x.id⟩, ⟨6, x.vault⟩]).length ≤ 1099511627776 := by
      have h1 := fput_len ⟨4, txt (vput x.party)⟩ (by simp only; omega)
      have h2 := fput_len ⟨5, x.id⟩ (by have := HI.out; simp only; omega)
      have h3 := fput_len ⟨6, x.vault⟩ (by have := HV.out; simp only; omega)
      have := HI.out
      have := HV.out
      simp [fjoin]
      simp at *
      omega
    have hv1 : ∀ f ∈ [(⟨4, txt (vput x.party)⟩ : Fld), ⟨5, x.id⟩, ⟨6, x.vault⟩], f.value.size ≤ 1099511627776 := by
      have := HI.out
      have := HV.out
      simp
      omega
    have HSZ := hide hsz
    have HV1 := hide hv1
    clear hsz hv1 h3 hnum
    go_enter Try.func43, Try.ntmps43
    go_wp2
    refine wp_region_ext mixed 11 (fun i v w' => match i with
      | 0 => v = .pointer (some ⟨w.heap.size, 2, none⟩)
      | 1 => v = .int .u64 (x.party : Int)
      | 2 => v = .string (txt (vput x.party))
      | 3 => v = .agg #[.int .u8 4, .string (txt (vput x.party))]
      | 4 => v = .pointer (some ⟨w.heap.size, 3, none⟩)
      | 5 => v = .string x.id
      | 6 => v = .agg #[.int .u8 5, .string x.id]
      | 7 => v = .pointer (some ⟨w.heap.size, 4, none⟩)
      | 8 => v = .string x.vault
      | 9 => v = .agg #[.int .u8 6, .string x.vault]
      | _ => ∃ g, v = .slice (some ⟨g, 0, none⟩) 3 3 ∧ w'.heap[g]? = some (.cells #[.int .u8 4, .string (txt (vput x.party)), .int .u8 5, .string x.id, .int .u8 6, .string x.vault] 117)
      ) (by kernel_rfl) rfl ?_ ?_ ?_
    · intro i v w1 w2 h1 h2
      split at h2 <;> first | exact h2 | (obtain ⟨g, rfl, hg⟩ := h2; exact ⟨g, rfl, h1.heap hg⟩)
    · refine ⟨fun a w1 hle hd hf hs K hK => ?_, fun a w1 hle hd hf hs K hK => ?_, fun a w1 hle hd hf hs K hK => ?_, fun a w1 hle hd hf hs K hK => ?_, fun a w1 hle hd hf hs K hK => ?_, fun a w1 hle hd hf hs K hK => ?_, fun a w1 hle hd hf hs K hK => ?_, fun a w1 hle hd hf hs K hK => ?_, fun a w1 hle hd hf hs K hK => ?_, fun a w1 hle hd hf hs K hK => ?_, fun a w1 hle hd hf hs K hK => ?_, trivial⟩
      all_goals clear hd
      · have e1 := hf 1 rfl; simp [Act.eval] at e1
        go_simp; exact hK _ _ (Ext.refl _) rfl
      · have e11 := hs 0 11 (by kernel_rfl) rfl; simp [Act.eval] at e11
        have hc := hle.cell (a := ⟨w.heap.size, 2, none⟩) (v := .int .u64 (x.party : Int)) (by go_simp)
        go_simp; exact hK _ _ (Ext.refl _) rfl
      · have e12 := hs 1 12 (by kernel_rfl) rfl; simp [Act.eval] at e12
        go_simp
        refine (c_number x.party _ w1 rfl HP.out).mono ?_
        rintro e w2 ⟨rfl, b⟩
        exact hK _ _ b rfl
      · have e13 := hs 2 13 (by kernel_rfl) rfl; simp [Act.eval] at e13
        go_simp; exact hK _ _ (Ext.refl _) rfl
      · have e1 := hf 1 rfl; simp [Act.eval] at e1
        go_simp; exact hK _ _ (Ext.refl _) rfl
      · have e15 := hs 4 15 (by kernel_rfl) rfl; simp [Act.eval] at e15
        have hc := hle.cell (a := ⟨w.heap.size, 3, none⟩) (v := .string x.id) (by go_simp)
        go_simp; exact hK _ _ (Ext.refl _) rfl
      · have e16 := hs 5 16 (by kernel_rfl) rfl; simp [Act.eval] at e16
        go_simp; exact hK _ _ (Ext.refl _) rfl
      · have e1 := hf 1 rfl; simp [Act.eval] at e1
        go_simp; exact hK _ _ (Ext.refl _) rfl
      · have e18 := hs 7 18 (by kernel_rfl) rfl; simp [Act.eval] at e18
        have hc := hle.cell (a := ⟨w.heap.size, 4, none⟩) (v := .string x.vault) (by go_simp)
        go_simp; exact hK _ _ (Ext.refl _) rfl
      · have e19 := hs 8 19 (by kernel_rfl) rfl; simp [Act.eval] at e19
        go_simp; exact hK _ _ (Ext.refl _) rfl
      · have e14 := hs 3 14 (by kernel_rfl) rfl; have e17 := hs 6 17 (by kernel_rfl) rfl; have e20 := hs 9 20 (by kernel_rfl) rfl; simp [Act.eval] at e14 e17 e20
        go_simp; exact hK _ _ (Ext.alloc _ _) ⟨_, rfl, heap_alloc_new _ _⟩
    · intro vs w1 hle hs
      have v10 := hs 10 (by omega) rfl
      simp only at v10
      clear hs
      obtain ⟨g, v10, hg⟩ := v10
      simp only [putN, dstAt]
      have hle2 := hide ((Ext.alloc w (.cells #[.bool true, .string x.text, .int .u64 (x.party : Int), .string x.id, .string x.vault] 85)).trans hle)
      have HG := hide hg
      clear hle hg
      go_simp
      go_wp2_with fail
      refine (c_fjoin (some ⟨g, 0, none⟩) 3 3 [⟨4, txt (vput x.party)⟩, ⟨5, x.id⟩, ⟨6, x.vault⟩] (fun _ => True) _ ((flds_els (fun f hf => Nat.le_trans (HV1.out f hf) (by decide))).rowAt HG.out rfl trivial (by simp [maxLen])) HSZ.out HV1.out).mono ?_
      rintro e w2 ⟨v, rfl, ho, hb⟩
      have HO := hide (ho.lower (base' := w.heap.size) hle2.out.size)
      have HB := hide (bnext hle2.out hb)
      clear ho hb
      go_wp2_with fail
      go_ret
      exact ⟨_, rfl, by rw [HF.out]; exact HO.out, HB.out⟩
end Go.Proofs.Ytlfhbnajopekpaa
