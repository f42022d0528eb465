/- Texts of one proof, one behind the other: Pkt7, Cvt, Rj, Rcv, Ch1, Chk, Own, Ch2, Se3, Ow8, Se4, Se5, Se6, Se7, Se8, Se9, Th1, Reg4, Dl. No condition. -/
import Derived.Test.YtdkeflhgengblaaDoorAdc
import Derived.Test.YtdkeflhgengblaaDoorAda
import Derived.Test.YtdkeflhgengblaaDoorAdb
namespace Go.Proofs.YtdkeflhgengblaaDoor
open Go.RowKit

theorem Kd.Els.rowAt {α : Type} {d : Kd α} {ok : Nat → Prop} {w : World} {xs : List α} {css : List (List Value)} {g : Nat} {C : Array Value} {E : TypeId} {fr : Nat × Nat} (h : d.Els ok w xs css) (hg : w.heap[g]? = some (.cells C E fr)) (hC : C.toList = css.flatten) (hok : ok g) (hn : xs.length ≤ maxLen) :
    d.Row ok w (some ⟨g, 0, none⟩) xs.length xs.length xs := by
  refine ⟨rfl, Nat.le_refl _, hn, fun _ => ⟨g, 0, rfl, hok, (Array.getElem?_eq_some_iff.1 hg).1, fun i x hx => ?_⟩⟩
  obtain ⟨cs, hcs⟩ : ∃ cs, css[i]? = some cs := ⟨_, List.getElem?_eq_getElem (by have := h.1; have := (List.getElem?_eq_some_iff.1 hx).1; omega)⟩
  refine ⟨cs, h.2 i x cs hx hcs, fun j v hv => ?_⟩
  rw [cell_of_row w _ _ _ _ _ hg, ← Array.getElem?_toList, hC, Nat.zero_add]
  exact flat_at h.lens hcs hv
theorem flds_els {ok : Nat → Prop} {w : World} : ∀ {l : List Fld}, (∀ f ∈ l, f.value.size ≤ maxLen) → kFld.Els ok w l (l.map Fld.cells)
  | l, h => ⟨by simp, fun i x cs hx hcs => by
    rw [List.getElem?_map, hx] at hcs
    cases hcs
    exact ⟨rfl, h x (List.mem_of_getElem? hx)⟩⟩
/-- A caveat's fields. -/
def cavFlds (c : Cav) : List Fld := if c.third then [⟨4, txt (vput c.party)⟩, ⟨5, c.id⟩, ⟨6, c.vault⟩] else [⟨3, c.text⟩]
theorem fput_len (f : Fld) (h : f.value.size < 18446744073709551616) : (fput f).length ≤ 11 + f.value.size := by
  have := vput_len10 h
  simp [fput]
  omega

set_option maxRecDepth 100000 in
set_option maxHeartbeats 400000 in
theorem c_caveat (x : Cav) (w : World) (ht : x.text.size ≤ 274877906944) (hp : x.party < 18446744073709551616) (hi : x.id.size ≤ 274877906944) (hv : x.vault.size ≤ 274877906944) :
    Calls Tryd.prog 63 #[cavV x] w fun e w' => ∃ v, e = .returned v ∧ kU8.Own (fun _ => True) w.heap.size w' 5 v (fjoin (cavFlds x)) ∧ Below w.heap.size w w' := by
  have HT := hide ht
  have HP := hide hp
  have HI := hide hi
  have HV := hide hv
  clear ht hp hi hv
  unfold cavV
  cases h3 : x.third with
  | false =>
    have HF : Hid (cavFlds x = [⟨3, x.text⟩]) := hide (by rw [cavFlds, h3]; rfl)
    clear h3
    go_enter Tryd.func63, Tryd.ntmps63
    have hsz : (fjoin [⟨3, x.text⟩]).length ≤ 1099511627776 := by
      have := fput_len ⟨3, x.text⟩ (by have := HT.out; simp only; omega)
      have := HT.out
      simp [fjoin]
      simp at *
      omega
    have hv1 : ∀ f ∈ [(⟨3, x.text⟩ : Fld)], f.value.size ≤ 1099511627776 := by
      have := HT.out
      simp
      omega
    have HSZ := hide hsz
    have HV1 := hide hv1
    clear hsz hv1
    go_wp2_with fail
    refine (c_fjoin (some ⟨w.heap.size + 1, 0, none⟩) 1 1 [⟨3, x.text⟩] (fun _ => True) _ ((flds_els (fun f hf => Nat.le_trans (HV1.out f hf) (by decide))).rowAt (C := #[.int .u8 3, .string x.text]) (heap_new2 _ _ _) rfl trivial (by simp [maxLen])) HSZ.out HV1.out).mono ?_
    rintro e w1 ⟨v, rfl, ho, hb⟩
    have HO := hide (ho.lower (base' := w.heap.size) (by simp; omega))
    have HB := hide (bnext (below2 _ _ _) hb)
    clear ho hb
    go_wp2_with fail
    go_ret
    exact ⟨_, rfl, by rw [HF.out]; exact HO.out, HB.out⟩
  | true =>
    have HF : Hid (cavFlds x = [⟨4, txt (vput x.party)⟩, ⟨5, x.id⟩, ⟨6, x.vault⟩]) := hide (by rw [cavFlds, h3]; rfl)
    have hnum : (txt (vput x.party)).size ≤ 10 := by rw [txt_size]; exact vput_len10 HP.out
    have hsz : (fjoin [⟨4, txt (vput x.party)⟩, ⟨5, x.id⟩, ⟨6, x.vault⟩]).length ≤ 1099511627776 := by
      have h1 := fput_len ⟨4, txt (vput x.party)⟩ (by simp only; omega)
      have h2 := fput_len ⟨5, x.id⟩ (by have := HI.out; simp only; omega)
      have h3 := fput_len ⟨6, x.vault⟩ (by have := HV.out; simp only; omega)
      have := HI.out
      have := HV.out
      simp [fjoin]
      simp at *
      omega
    have hv1 : ∀ f ∈ [(⟨4, txt (vput x.party)⟩ : Fld), ⟨5, x.id⟩, ⟨6, x.vault⟩], f.value.size ≤ 1099511627776 := by
      have := HI.out
      have := HV.out
      simp
      omega
    have HSZ := hide hsz
    have HV1 := hide hv1
    clear hsz hv1 h3 hnum
    go_enter Tryd.func63, Tryd.ntmps63
    go_wp2
    refine wp_region_ext mixed 11 (fun i v w' => match i with
      | 0 => v = .pointer (some ⟨w.heap.size, 2, none⟩)
      | 1 => v = .int .u64 (x.party : Int)
      | 2 => v = .string (txt (vput x.party))
      | 3 => v = .agg #[.int .u8 4, .string (txt (vput x.party))]
      | 4 => v = .pointer (some ⟨w.heap.size, 3, none⟩)
      | 5 => v = .string x.id
      | 6 => v = .agg #[.int .u8 5, .string x.id]
      | 7 => v = .pointer (some ⟨w.heap.size, 4, none⟩)
      | 8 => v = .string x.vault
      | 9 => v = .agg #[.int .u8 6, .string x.vault]
      | _ => ∃ g, v = .slice (some ⟨g, 0, none⟩) 3 3 ∧ w'.heap[g]? = some (.cells #[.int .u8 4, .string (txt (vput x.party)), .int .u8 5, .string x.id, .int .u8 6, .string x.vault] 144)
      ) (by kernel_rfl) rfl ?_ ?_ ?_
    · intro i v w1 w2 h1 h2
      split at h2 <;> first | exact h2 | (obtain ⟨g, rfl, hg⟩ := h2; exact ⟨g, rfl, h1.heap hg⟩)
    · refine ⟨fun a w1 hle hd hf hs K hK => ?_, fun a w1 hle hd hf hs K hK => ?_, fun a w1 hle hd hf hs K hK => ?_, fun a w1 hle hd hf hs K hK => ?_, fun a w1 hle hd hf hs K hK => ?_, fun a w1 hle hd hf hs K hK => ?_, fun a w1 hle hd hf hs K hK => ?_, fun a w1 hle hd hf hs K hK => ?_, fun a w1 hle hd hf hs K hK => ?_, fun a w1 hle hd hf hs K hK => ?_, fun a w1 hle hd hf hs K hK => ?_, trivial⟩
      all_goals clear hd
      · have e1 := hf 1 rfl; simp [Act.eval] at e1
        go_simp; exact hK _ _ (Ext.refl _) rfl
      · have e11 := hs 0 11 (by kernel_rfl) rfl; simp [Act.eval] at e11
        have hc := hle.cell (a := ⟨w.heap.size, 2, none⟩) (v := .int .u64 (x.party : Int)) (by go_simp)
        go_simp; exact hK _ _ (Ext.refl _) rfl
      · have e12 := hs 1 12 (by kernel_rfl) rfl; simp [Act.eval] at e12
        go_simp
        refine (c_pnumber x.party _ w1 rfl HP.out).mono ?_
        rintro e w2 ⟨rfl, b⟩
        exact hK _ _ b rfl
      · have e13 := hs 2 13 (by kernel_rfl) rfl; simp [Act.eval] at e13
        go_simp; exact hK _ _ (Ext.refl _) rfl
      · have e1 := hf 1 rfl; simp [Act.eval] at e1
        go_simp; exact hK _ _ (Ext.refl _) rfl
      · have e15 := hs 4 15 (by kernel_rfl) rfl; simp [Act.eval] at e15
        have hc := hle.cell (a := ⟨w.heap.size, 3, none⟩) (v := .string x.id) (by go_simp)
        go_simp; exact hK _ _ (Ext.refl _) rfl
      · have e16 := hs 5 16 (by kernel_rfl) rfl; simp [Act.eval] at e16
        go_simp; exact hK _ _ (Ext.refl _) rfl
      · have e1 := hf 1 rfl; simp [Act.eval] at e1
        go_simp; exact hK _ _ (Ext.refl _) rfl
      · have e18 := hs 7 18 (by kernel_rfl) rfl; simp [Act.eval] at e18
        have hc := hle.cell (a := ⟨w.heap.size, 4, none⟩) (v := .string x.vault) (by go_simp)
        go_simp; exact hK _ _ (Ext.refl _) rfl
      · have e19 := hs 8 19 (by kernel_rfl) rfl; simp [Act.eval] at e19
        go_simp; exact hK _ _ (Ext.refl _) rfl
      · have e14 := hs 3 14 (by kernel_rfl) rfl; have e17 := hs 6 17 (by kernel_rfl) rfl; have e20 := hs 9 20 (by kernel_rfl) rfl; simp [Act.eval] at e14 e17 e20
        go_simp; exact hK _ _ (Ext.alloc _ _) ⟨_, rfl, heap_alloc_new _ _⟩
    · intro vs w1 hle hs
      have v10 := hs 10 (by omega) rfl
      simp only at v10
      clear hs
      obtain ⟨g, v10, hg⟩ := v10
      simp only [putN, dstAt]
      have hle2 := hide ((Ext.alloc w (.cells #[.bool true, .string x.text, .int .u64 (x.party : Int), .string x.id, .string x.vault] 83)).trans hle)
      have HG := hide hg
      clear hle hg
      go_simp
      go_wp2_with fail
      refine (c_fjoin (some ⟨g, 0, none⟩) 3 3 [⟨4, txt (vput x.party)⟩, ⟨5, x.id⟩, ⟨6, x.vault⟩] (fun _ => True) _ ((flds_els (fun f hf => Nat.le_trans (HV1.out f hf) (by decide))).rowAt HG.out rfl trivial (by simp [maxLen])) HSZ.out HV1.out).mono ?_
      rintro e w2 ⟨v, rfl, ho, hb⟩
      have HO := hide (ho.lower (base' := w.heap.size) hle2.out.size)
      have HB := hide (bnext hle2.out hb)
      clear ho hb
      go_wp2_with fail
      go_ret
      exact ⟨_, rfl, by rw [HF.out]; exact HO.out, HB.out⟩
end Go.Proofs.YtdkeflhgengblaaDoor
namespace Go.Proofs.YtdkeflhgengblaaDoor
open Go.RowKit
/-- []byte(text), at the operation. -/
theorem wp_tobytes {P : Program} {E : TypeId} {w : World} {op : Oper} {a : Act} {K : Act → World → Prop} {Q : Exit → Act → World → Prop} (S D : TypeId) (x : Operand) (ho : op.op = .convert S D x) (s : ByteArray) (hx : a.eval x = .string s)
    (hS : P.underlying S = some .string) (hD : P.underlying D = some (.slice E)) (hE : P.underlying E = some (.int .u8)) (hs : s.size ≤ 9223372036854775807)
    (k : ∀ c w', kU8.Row (fun k => k = w.heap.size) w' (some ⟨w.heap.size, 0, none⟩) s.size c (byt s) → Below w.heap.size w w' → K (a.put op.dst (.slice (some ⟨w.heap.size, 0, none⟩) s.size c)) w') : op.wp P a w K Q := by
  unfold Oper.wp execOp
  simp only [ho, hx, Sem.run_bind, Sem.run_pure, Result.andThen_ok, Lib.run_convert_string_bytes w S D E s hS hD hE]
  exact k _ _ (bytes_new w E s hs) (bytesWorld_below w E s)

/-- A part of a text. -/
theorem ext_txt (s : List UInt8) (i j : Nat) : (txt s).extract i j = txt ((s.drop i).take (j - i)) := by
  apply ByteArray.ext
  rw [ByteArray.data_extract]
  apply Array.toList_inj.1
  simp [List.extract_eq_take_drop]
theorem ext_is {s l : List UInt8} {i j a b : Nat} (h : (s.drop a).take (b - a) = l) (hi : i = a) (hj : j = b) : Value.string ((txt s).extract i j) = .string (txt l) := by
  subst hi hj
  rw [ext_txt, h]
end Go.Proofs.YtdkeflhgengblaaDoor
namespace Go.Proofs.YtdkeflhgengblaaDoor
open Go.RowKit

set_option maxRecDepth 100000 in
set_option maxHeartbeats 800000 in
theorem c_rfbytes (k : UInt8) (s : ByteArray) (w : World) (hs : s.size ≤ 1099511627776) :
    Calls Tryd.prog 137 #[.agg #[bv k, .string s]] w fun e w' => ∃ v, e = .returned v ∧ kU8.Own (fun _ => True) w.heap.size w' 5 v (fput ⟨k, s⟩) ∧ Below w.heap.size w w' := by
  have HS := hide hs
  have HW := hide (show IntKind.u64.wrap (s.size : Int) = (s.size : Int) by rw [IntKind.wrap_u64]; omega)
  have HVL := hide (vput_len10 (n := s.size) (by omega))
  clear hs
  go_enter Tryd.func137, Tryd.ntmps137
  go_wp2
  have hcell : (w.alloc (.cells #[bv k, .string s] 191)).heap[w.heap.size]? = some (.cells #[bv k, .string s] 191) := heap_alloc_new _ _
  have hc0 : (w.alloc (.cells #[bv k, .string s] 191)).cell? ⟨w.heap.size, 0, none⟩ = some (bv k) := (cell_of_row _ _ _ _ _ _ hcell).trans rfl
  have hc1 : (w.alloc (.cells #[bv k, .string s] 191)).cell? ⟨w.heap.size, 1, none⟩ = some (.string s) := (cell_of_row _ _ _ _ _ _ hcell).trans rfl
  clear hcell
  refine wp_region_ext mixed 12 (fun i v w' => match i with
    | 0 => v = .pointer (some ⟨w.heap.size, 0, none⟩)
    | 1 => v = bv k
    | 2 => ∃ g, v = .slice (some ⟨g, 0, none⟩) 1 1 ∧ w'.heap[g]? = some (.cells #[bv k] 5)
    | 3 => v = .pointer (some ⟨w.heap.size, 1, none⟩)
    | 4 => v = .string s
    | 5 => v = .int .i64 (s.size : Int)
    | 6 => v = .int .u64 (s.size : Int)
    | 7 => ∃ A c, v = .slice A (vput s.size).length c ∧ kU8.Row (fun _ => True) w' A (vput s.size).length c (vput s.size)
    | 8 => kU8.Own (fun _ => True) w.heap.size w' 5 v ([k] ++ vput s.size)
    | 9 => v = .pointer (some ⟨w.heap.size, 1, none⟩)
    | 10 => v = .string s
    | _ => ∃ A c, v = .slice A s.size c ∧ kU8.Row (fun _ => True) w' A s.size c (byt s)
    ) (by kernel_rfl) rfl ?_ ?_ ?_
  · intro i v w1 w2 h1 h2
    split at h2 <;> first | exact h2 | (obtain ⟨g, rfl, hg⟩ := h2; exact ⟨g, rfl, h1.heap hg⟩) | (obtain ⟨A, c, e, hr⟩ := h2; exact ⟨A, c, e, hr.below h1⟩) | exact h2.below h1
  · refine ⟨fun a w1 hle hd hf hs K hK => ?_, fun a w1 hle hd hf hs K hK => ?_, fun a w1 hle hd hf hs K hK => ?_, fun a w1 hle hd hf hs K hK => ?_, fun a w1 hle hd hf hs K hK => ?_, fun a w1 hle hd hf hs K hK => ?_, fun a w1 hle hd hf hs K hK => ?_, fun a w1 hle hd hf hs K hK => ?_, fun a w1 hle hd hf hs K hK => ?_, fun a w1 hle hd hf hs K hK => ?_, fun a w1 hle hd hf hs K hK => ?_, fun a w1 hle hd hf hs K hK => ?_, trivial⟩
    all_goals clear hd
    · -- 3 := Op.fieldAddr 134 t1 0
      have e1 := hf 1 rfl; simp [Act.eval] at e1
      go_simp; exact hK _ _ (Ext.refl _) rfl
    · -- 4 := Op.load 5 t3
      have e3 := hs 0 3 (by kernel_rfl) rfl; simp [Act.eval] at e3
      have hc := hle.cell hc0
      go_simp; exact hK _ _ (Ext.refl _) rfl
    · -- 5 := Op.buildSlice 60 1 #[(0, t4)]
      have e4 := hs 1 4 (by kernel_rfl) rfl; simp [Act.eval] at e4
      go_simp; exact hK _ _ (Ext.alloc _ _) ⟨_, rfl, heap_alloc_new _ _⟩
    · -- 6 := Op.fieldAddr 134 t1 1
      have e1 := hf 1 rfl; simp [Act.eval] at e1
      go_simp; exact hK _ _ (Ext.refl _) rfl
    · -- 7 := Op.load 9 t6
      have e6 := hs 3 6 (by kernel_rfl) rfl; simp [Act.eval] at e6
      have hc := hle.cell hc1
      go_simp; exact hK _ _ (Ext.refl _) rfl
    · -- 8 := Op.call { builtin len, args := #[t7], argTypes := #[9] }
      have e7 := hs 4 7 (by kernel_rfl) rfl; simp [Act.eval] at e7
      go_simp; exact hK _ _ (Ext.refl _) rfl
    · -- 9 := Op.convert 3 39 t8
      have e8 := hs 5 8 (by kernel_rfl) rfl; simp [Act.eval] at e8
      have hw := HW.out
      go_simp; exact hK _ _ (Ext.refl _) rfl
    · -- 10 := Op.call { value (Operand.func 89), args := #[t9], argTypes := #[39] }
      have e9 := hs 6 9 (by kernel_rfl) rfl; simp [Act.eval] at e9
      go_simp
      refine (c_r8bytes 9 s.size _ _ rfl (by have := HS.out; omega) (by have := HS.out; omega)).mono ?_
      rintro e w4 ⟨v, rfl, ho, hb⟩
      obtain ⟨A2, c2, rfl, hr⟩ := ho.row
      exact hK _ _ hb ⟨A2, c2, rfl, hr.more fun _ _ => trivial⟩
    · -- 11 := Op.call { builtin append, args := #[t5, t10], argTypes := #[60, 60] }
      obtain ⟨g5, e5, hg5⟩ := hs 2 5 (by kernel_rfl) rfl
      obtain ⟨A10, c10, e10, hr10⟩ := hs 7 10 (by kernel_rfl) rfl
      have hrow : kU8.Row (fun _ => True) w1 (some ⟨g5, 0, none⟩) 1 1 [k] := ⟨rfl, Nat.le_refl _, by decide, fun _ => ⟨g5, 0, rfl, trivial, (Array.getElem?_eq_some_iff.1 hg5).1, fun i x hx => ⟨[bv x], ⟨rfl, trivial⟩, fun j u hu => by
        match i, hx with
        | 0, hx =>
          simp at hx
          subst hx
          match j, hu with
          | 0, hu => simp at hu; subst hu; exact (cell_of_row w1 _ _ _ _ _ hg5).trans rfl
          | j + 1, hu => simp at hu
        | i + 1, hx => simp at hx⟩⟩⟩
      refine wp_full (d := kU8) (ys := vput s.size) _ _ _ rfl Tryd.underlying22 u8_info rfl (by decide) c10 e5 e10 hrow hr10.src (vput_pos _) ?_ ?_ ?_
      · have := HVL.out; simp only [maxLen]; omega
      · have := HVL.out; omega
      · intro v' w' h1 h2
        exact hK _ _ h2 (h1.lower (by have := hle.size; simp only [World.size_alloc] at this; omega))
    · -- 12 := Op.fieldAddr 134 t1 1
      have e1 := hf 1 rfl; simp [Act.eval] at e1
      go_simp; exact hK _ _ (Ext.refl _) rfl
    · -- 13 := Op.load 9 t12
      have e12 := hs 9 12 (by kernel_rfl) rfl; simp [Act.eval] at e12
      have hc := hle.cell hc1
      go_simp; exact hK _ _ (Ext.refl _) rfl
    · -- 14 := Op.convert 9 60 t13
      have e13 := hs 10 13 (by kernel_rfl) rfl
      refine wp_tobytes 9 22 _ rfl s e13 Tryd.underlying9 Tryd.underlying22 Tryd.underlying5 (by have := HS.out; omega) ?_
      intro c w' h1 h2
      exact hK _ _ h2 ⟨_, c, rfl, h1.more fun _ _ => trivial⟩
  · intro vs w1 hle hs
    have v8 := hs 8 (by omega) rfl
    have v11 := hs 11 (by omega) rfl
    simp only at v8 v11
    clear hs
    obtain ⟨A11, c11, v11, hr11⟩ := v11
    obtain ⟨A8, c8, v8e⟩ := v8.form
    rw [v8e] at v8
    have HO8 := hide v8
    have HR11 := hide hr11
    have HB1 := hide ((below1 w (.cells #[bv k, .string s] 191)).trans (hle.mono (by simp)))
    clear hle hr11 v8
    simp only [putN, dstAt]
    go_simp
    go_wp2_with (at_builtin; go_must (refine wpList_app (d := kU8) (ys := byt s) rfl _ _ _ rfl Tryd.underlying22 u8_info rfl (by decide) c11 rfl rfl (.inl HO8.out) (src8 HR11.out.src) HB1.out.size ?_ ?_ ?_))
    · have := HVL.out; have := HS.out; simp only [maxLen, List.length_append, List.length_cons, List.length_nil]; omega
    · have := HVL.out; have := HS.out; simp only [List.length_append, List.length_cons, List.length_nil]; omega
    · intro v1 w4 _ h2 h3 _ _
      have H2 := hide (h2 (.inr HO8.out))
      have H3 := hide h3
      clear h2 h3
      go_wp2_with fail
      go_ret
      refine ⟨_, rfl, ?_, HB1.out.trans H3.out⟩
      have := H2.out
      simpa [fput] using this
theorem rfld_size : (Tryd.prog.info? 191).map (·.size) = some kFld.sz := by kernel_rfl
theorem rfld_info : (Tryd.prog.info? 191).map (fun i => (i.zero, i.size, i.bytes)) = some (some (.agg #[.int .u8 0, .string ByteArray.empty]), 2, 24) := by kernel_rfl

set_option maxRecDepth 100000 in
set_option maxHeartbeats 400000 in
theorem c_rjoin (A : Option Addr) (n c : Nat) (l : List Fld) (ok : Nat → Prop) (w : World) (hR : kFld.Row ok w A n c l) (hn : (fjoin l).length ≤ 1099511627776) (hv : ∀ f ∈ l, f.value.size ≤ 1099511627776) :
    Calls Tryd.prog 127 #[.slice A n c] w fun e w' => ∃ v, e = .returned v ∧ kU8.Own (fun _ => True) w.heap.size w' 5 v (fjoin l) ∧ Below w.heap.size w w' := by
  have HL := hide hR.1
  have hcap : n ≤ maxLen := Nat.le_trans hR.2.1 hR.2.2.1
  simp only [maxLen] at hcap
  have HR := hide hR
  have HN := hide hn
  have HV := hide hv
  clear hR hn hv
  go_enter Tryd.func127, Tryd.ntmps127
  go_wp2_with fail
  go_loopw [9, 3] (fun i p wr => ∃ (k : Nat) (lp : List UInt8), k ≤ n ∧ i = .int .i64 (k : Int) ∧ Hid (lp = fjoin (l.take k)) ∧ Hid (kU8.Own (fun _ => True) w.heap.size wr 5 p lp) ∧ Hid (Below w.heap.size w wr)) (fun i _ _ => n - (intOf i).toNat)
  case atStart => exact ⟨0, [], Nat.zero_le _, rfl, hide rfl, hide (Kd.Own.lit (.nil _ _ _) #[] rfl 0 rfl (Nat.zero_le _) _ rfl (Nat.le_refl _)), hide (below1 _ _)⟩
  case round =>
    obtain ⟨k, lp, hk, rfl, HLP, HO, HB⟩ := hrel
    by_cases hlt : k < n
    · obtain ⟨f, hf⟩ : ∃ f, l[k]? = some f := ⟨_, List.getElem?_eq_getElem (by have := HL.out; omega)⟩
      obtain ⟨b, q, cs, hix, -, hbl, hK, hra⟩ := (HR.out.below HB.out).index (P := Tryd.prog) Tryd.underlying182 (E := 191) rfld_size hf
      have hKe := hK.1
      subst hKe
      have hc0 := hra 0 _ rfl
      have hc1 := hra 1 _ rfl
      simp only [Nat.add_zero] at hc0
      have HT : Hid (l.take (k + 1) = l.take k ++ [f]) := hide (by rw [List.take_add_one, hf]; rfl)
      have HFV := hide (HV.out f (List.mem_of_getElem? hf))
      have hsb := HB.out.size
      have HLN : Hid ((lp ++ fput f).length ≤ 1099511627776) := hide (by
        have h1 : lp ++ fput f = fjoin (l.take (k + 1)) := by rw [HT.out, fjoin_app, ← HLP.out]; simp [fjoin]
        rw [h1]
        exact Nat.le_trans (fjoin_take l (k + 1)) HN.out)
      clear hf hK hra
      go_wp2_with fail
      refine (c_rfbytes f.kind f.value _ HFV.out).mono ?_
      rintro e w1 ⟨v1, rfl, h1, b1⟩
      have b1' := bnext (below1 wr _) b1
      have HB1 := hide (HB.out.trans (b1'.mono hsb))
      have HO1 := hide (HO.out.below b1')
      have hsb1 := HB1.out.size
      obtain ⟨A1, c1, rfl, hr1⟩ := h1.row
      have HR1 := hide hr1
      clear h1 b1 b1' hr1
      go_wp2_with (at_builtin; go_must (refine wpList_app (d := kU8) (ys := fput f) rfl _ _ _ rfl Tryd.underlying22 u8_info rfl (by decide) c1 rfl rfl (.inl HO1.out) (src8 HR1.out.src) hsb1 ?_ ?_ ?_))
      · have := HLN.out; rw [List.length_append] at this; simp only [maxLen]; show _ ≤ 9223372036854775807; have e : (fput ⟨f.kind, f.value⟩).length = (fput f).length := rfl; omega
      · have := HLN.out; rw [List.length_append] at this; have e : (fput ⟨f.kind, f.value⟩).length = (fput f).length := rfl; omega
      · intro v2 w2 _ h2 h3 _ _
        have H2 := hide (h2 (.inr HO1.out))
        have HB2 := hide (HB1.out.trans h3)
        clear h2 h3
        go_wp2_with fail
        go_roundw
        case rel =>
          refine ⟨k + 1, _, by omega, by simp, hide ?_, H2, HB2⟩
          rw [HT.out, fjoin_app, ← HLP.out]
          simp [fjoin]
        case measure => simp [intOf]; omega
    · obtain rfl : k = n := by omega
      have HE : Hid (lp = fjoin l) := hide (by rw [HLP.out, List.take_of_length_le (Nat.le_of_eq HL.out)])
      go_wp2_with fail
      go_ret
      exact ⟨_, rfl, by rw [← HE.out]; exact HO.out, HB.out⟩

end Go.Proofs.YtdkeflhgengblaaDoor
namespace Go.Proofs.YtdkeflhgengblaaDoor
open Go.RowKit
attribute [local go_sem ↓] ld16 ld17 ld32 ld36
attribute [local go_sem] run_ldAgg run_storeAgg agg_alloc_at agg_alloc_past agg_drew agg_setCell row_alloc_at row_alloc_past row_drew setRow_alloc_at setRow_alloc_past setRow_drew agg_setRow_at agg_setRow_far cell_setRow_at cell_setRow_far row_setRow_far size_setRow tgC_size tgC_one tgC_part tgC_splice tokC_size tokC_0 tokC_1 tokC_2 tokC_3 tokC_g0 tokC_g1 tokC_g2 tokC_g3 tokC_part tokC_tag tokC_set0 tokC_set1 tokC_set2 tokC_set3 tokC_splice tokC_splice0 tgC_splice_any zero_tg zero_tok tokC_all tokC_ne tgC_ne
set_option maxRecDepth 100000 in
theorem c_rnum (x : Nat) (i : Int) (w : World) (hi : i = (x : Int)) (hx : x < 18446744073709551616) :
    Calls Tryd.prog 138 #[.int .u64 i] w fun e w' => e = .returned (.string (txt (vput x))) ∧ Below w.heap.size w w' := by
  subst hi
  have HX := hide hx
  clear hx
  go_enter Tryd.func138, Tryd.ntmps138
  go_wp2_with fail
  refine (c_r8bytes 9 x _ _ rfl (by have := HX.out; omega) HX.out).mono ?_
  rintro e w1 ⟨v, rfl, ho, hb⟩
  obtain ⟨A, c, rfl, hr⟩ := ho.row
  have hs := row_string (P := Tryd.prog) Tryd.underlying22 Tryd.underlying5 Tryd.underlying9 hr
  have HB := hide hb
  clear ho hr hb
  go_wp2_with fail
  go_ret
  exact ⟨rfl, HB.out⟩

theorem row_of_cells {ok : Nat → Prop} {w : World} {l : List Fld} {g : Nat} {C : Array Value} {E : TypeId} {fr : Nat × Nat} (hl : ∀ f ∈ l, f.value.size ≤ maxLen) (hg : w.heap[g]? = some (.cells C E fr)) (hC : C.toList = (l.map Fld.cells).flatten) (hok : ok g) (n : Nat) (hn : l.length = n) (hm : n ≤ maxLen) :
    kFld.Row ok w (some ⟨g, 0, none⟩) n n l := by
  subst hn
  exact (flds_els hl).rowAt hg hC hok hm

set_option maxRecDepth 100000 in
set_option maxHeartbeats 600000 in
theorem c_rcav (x : Cav) (w : World) (hp : x.party < 18446744073709551616) (ht : x.text.size ≤ maxLen) (hi : x.id.size ≤ maxLen) (hv : x.vault.size ≤ maxLen) :
    Calls Tryd.prog 128 #[cavV x] w fun e w' => (∃ A n c, e = .returned (.slice A n c) ∧ kFld.Row (fun _ => True) w' A n c (cavFlds x)) ∧ Below w.heap.size w w' := by
  have HP := hide hp
  have HT := hide ht
  have HI := hide hi
  have HV := hide hv
  clear hp ht hi hv
  unfold cavV
  cases h3 : x.third with
  | false =>
    have HF : Hid (cavFlds x = [⟨3, x.text⟩]) := hide (by simp [cavFlds, h3])
    clear h3
    go_enter Tryd.func128, Tryd.ntmps128
    go_wp2_with fail
    go_ret
    rw [HF.out]
    refine ⟨⟨_, 1, 1, rfl, row_of_cells (C := #[.int .u8 3, .string x.text]) (E := 191) ?_ (heap_new2 _ _ _) rfl trivial 1 rfl (by decide)⟩, below2 _ _ _⟩
    intro f hf
    simp only [List.mem_singleton] at hf
    subst hf
    exact HT.out
  | true =>
    have HF : Hid (cavFlds x = [⟨4, txt (vput x.party)⟩, ⟨5, x.id⟩, ⟨6, x.vault⟩]) := hide (by simp [cavFlds, h3])
    clear h3
    go_enter Tryd.func128, Tryd.ntmps128
    go_wp2_with fail
    have hcell : (w.alloc (.cells #[.bool true, .string x.text, .int .u64 (x.party : Int), .string x.id, .string x.vault] 83)).heap[w.heap.size]? = some (.cells #[.bool true, .string x.text, .int .u64 (x.party : Int), .string x.id, .string x.vault] 83) := heap_alloc_new _ _
    have hc2 : (w.alloc (.cells #[.bool true, .string x.text, .int .u64 (x.party : Int), .string x.id, .string x.vault] 83)).cell? ⟨w.heap.size, 2, none⟩ = some (.int .u64 (x.party : Int)) := (cell_of_row _ _ _ _ _ _ hcell).trans rfl
    have hc3 : (w.alloc (.cells #[.bool true, .string x.text, .int .u64 (x.party : Int), .string x.id, .string x.vault] 83)).cell? ⟨w.heap.size, 3, none⟩ = some (.string x.id) := (cell_of_row _ _ _ _ _ _ hcell).trans rfl
    have hc4 : (w.alloc (.cells #[.bool true, .string x.text, .int .u64 (x.party : Int), .string x.id, .string x.vault] 83)).cell? ⟨w.heap.size, 4, none⟩ = some (.string x.vault) := (cell_of_row _ _ _ _ _ _ hcell).trans rfl
    clear hcell
    refine wp_region_ext mixed 11 (fun i v w' => match i with
      | 0 => v = .pointer (some ⟨w.heap.size, 2, none⟩)
      | 1 => v = .int .u64 (x.party : Int)
      | 2 => v = .string (txt (vput x.party))
      | 3 => v = .agg #[.int .u8 4, .string (txt (vput x.party))]
      | 4 => v = .pointer (some ⟨w.heap.size, 3, none⟩)
      | 5 => v = .string x.id
      | 6 => v = .agg #[.int .u8 5, .string x.id]
      | 7 => v = .pointer (some ⟨w.heap.size, 4, none⟩)
      | 8 => v = .string x.vault
      | 9 => v = .agg #[.int .u8 6, .string x.vault]
      | _ => ∃ g, v = .slice (some ⟨g, 0, none⟩) 3 3 ∧ w'.heap[g]? = some (.cells #[.int .u8 4, .string (txt (vput x.party)), .int .u8 5, .string x.id, .int .u8 6, .string x.vault] 191)
      ) (by kernel_rfl) rfl ?_ ?_ ?_
    · intro i v w1 w2 h1 h2
      split at h2 <;> first | exact h2 | (obtain ⟨g, rfl, hg⟩ := h2; exact ⟨g, rfl, h1.heap hg⟩)
    · refine ⟨fun a w1 hle hd hf hs K hK => ?_, fun a w1 hle hd hf hs K hK => ?_, fun a w1 hle hd hf hs K hK => ?_, fun a w1 hle hd hf hs K hK => ?_, fun a w1 hle hd hf hs K hK => ?_, fun a w1 hle hd hf hs K hK => ?_, fun a w1 hle hd hf hs K hK => ?_, fun a w1 hle hd hf hs K hK => ?_, fun a w1 hle hd hf hs K hK => ?_, fun a w1 hle hd hf hs K hK => ?_, fun a w1 hle hd hf hs K hK => ?_, trivial⟩
      all_goals clear hd
      · have e1 := hf 1 rfl; simp [Act.eval] at e1
        go_simp; exact hK _ _ (Ext.refl _) rfl
      · have e5 := hs 0 5 (by kernel_rfl) rfl; simp [Act.eval] at e5
        have hc := hle.cell hc2
        go_simp; exact hK _ _ (Ext.refl _) rfl
      · have e6 := hs 1 6 (by kernel_rfl) rfl; simp [Act.eval] at e6
        go_simp
        refine (c_rnum x.party _ w1 rfl HP.out).mono ?_
        rintro e w3 ⟨rfl, b⟩
        exact hK _ _ b rfl
      · have e7 := hs 2 7 (by kernel_rfl) rfl; simp [Act.eval] at e7
        go_simp; exact hK _ _ (Ext.refl _) rfl
      · have e1 := hf 1 rfl; simp [Act.eval] at e1
        go_simp; exact hK _ _ (Ext.refl _) rfl
      · have e9 := hs 4 9 (by kernel_rfl) rfl; simp [Act.eval] at e9
        have hc := hle.cell hc3
        go_simp; exact hK _ _ (Ext.refl _) rfl
      · have e10 := hs 5 10 (by kernel_rfl) rfl; simp [Act.eval] at e10
        go_simp; exact hK _ _ (Ext.refl _) rfl
      · have e1 := hf 1 rfl; simp [Act.eval] at e1
        go_simp; exact hK _ _ (Ext.refl _) rfl
      · have e12 := hs 7 12 (by kernel_rfl) rfl; simp [Act.eval] at e12
        have hc := hle.cell hc4
        go_simp; exact hK _ _ (Ext.refl _) rfl
      · have e13 := hs 8 13 (by kernel_rfl) rfl; simp [Act.eval] at e13
        go_simp; exact hK _ _ (Ext.refl _) rfl
      · have e8 := hs 3 8 (by kernel_rfl) rfl; have e11 := hs 6 11 (by kernel_rfl) rfl; have e14 := hs 9 14 (by kernel_rfl) rfl; simp [Act.eval] at e8 e11 e14
        go_simp; exact hK _ _ (Ext.alloc _ _) ⟨_, rfl, heap_alloc_new _ _⟩
    intro vs w2 hle hs
    have v10 := hs 10 (by omega) rfl
    simp only at v10
    clear hs
    obtain ⟨g, v10, hg⟩ := v10
    simp only [putN, dstAt]
    have HLE := hide (Ext.trans (Ext.alloc w _) hle)
    have HG := hide hg
    clear hle hg hc2 hc3 hc4
    go_simp
    go_wp2_with fail
    go_ret
    rw [HF.out]
    refine ⟨⟨_, 3, 3, rfl, row_of_cells ?_ HG.out rfl trivial 3 rfl (by decide)⟩, HLE.out⟩
    intro f hf
    simp only [List.mem_cons, List.not_mem_nil, or_false] at hf
    have := vput_len10 HP.out
    rcases hf with rfl | rfl | rfl
    · simp only [txt_size, maxLen]; omega
    · exact HI.out
    · exact HV.out
end Go.Proofs.YtdkeflhgengblaaDoor
namespace Go.Proofs.YtdkeflhgengblaaDoor
open Go.RowKit
attribute [local go_sem ↓] ld8 ld32 ld64 ld73
attribute [local go_sem] run_ldAgg run_storeAgg agg_alloc_at agg_alloc_past agg_drew agg_setCell row_alloc_at row_alloc_past row_drew setRow_alloc_at setRow_alloc_past setRow_drew agg_setRow_at agg_setRow_far cell_setRow_at cell_setRow_far row_setRow_far size_setRow s8C_size s8C_part s8C_one s8C_splice0 s8C_ne dgC_size dgC_72 dgC_part dgC_h dgC_r dgC_splice_h dgC_set dgC_one dgC_splice0 dgC_ne zero_dg
attribute [local go_sem] tgC_size tgC_one tgC_part tgC_splice tgC_splice_any zero_tg tgC_ne
attribute [local go_sem ↓] ld36
attribute [local go_sem] tokC_size tokC_0 tokC_1 tokC_2 tokC_3 tokC_g0 tokC_g1 tokC_g2 tokC_g3 tokC_part tokC_tag tokC_set0 tokC_set1 tokC_set2 tokC_set3 tokC_splice tokC_splice0 zero_tok tokC_all tokC_ne

def uCav : ByteArray := { data := #[99, 97, 118, 101, 97, 116] }
def nextT (t : Tg) (x : Cav) : Tg := dkey t uCav [txt (fjoin (cavFlds x))]
def Cav.small (x : Cav) : Prop := x.text.size ≤ 100000 ∧ x.party < 18446744073709551616 ∧ x.id.size ≤ 100000 ∧ x.vault.size ≤ 100000
theorem small_vals {x : Cav} (h : x.small) : ∀ f ∈ cavFlds x, f.value.size ≤ 100000 := by
  intro f hf
  have hv := vput_len10 h.2.1
  unfold cavFlds at hf
  split at hf
  · simp only [List.mem_cons, List.not_mem_nil, or_false] at hf
    rcases hf with rfl | rfl | rfl
    · show (txt (vput x.party)).size ≤ _; rw [txt_size]; omega
    · exact h.2.2.1
    · exact h.2.2.2
  · simp only [List.mem_cons, List.not_mem_nil, or_false] at hf
    subst hf
    exact h.1
theorem small_len {x : Cav} (h : x.small) : (fjoin (cavFlds x)).length < 1000000 := by
  have hb : ∀ l : List Fld, (∀ f ∈ l, f.value.size ≤ 100000) → (fjoin l).length ≤ l.length * 100011 := by
    intro l
    induction l with
    | nil => intro _; simp [fjoin]
    | cons f r ih =>
      intro hl
      have h1 := fput_len f (by have := hl f (by simp); omega)
      have h2 := ih (fun g hg => hl g (by simp [hg]))
      have h3 := hl f (by simp)
      have e : fjoin (f :: r) = fput f ++ fjoin r := by simp [fjoin]
      rw [e, List.length_append, List.length_cons, Nat.add_mul]
      omega
  have h1 := hb _ (small_vals h)
  have h2 : (cavFlds x).length ≤ 3 := by unfold cavFlds; split <;> simp
  have h3 : (cavFlds x).length * 100011 ≤ 3 * 100011 := Nat.mul_le_mul_right _ h2
  omega
set_option maxRecDepth 100000 in
set_option maxHeartbeats 800000 in
theorem c_next (t : Tg) (x : Cav) (w : World) (hs : x.small) (hP : PrimesAt w) :
    Calls Tryd.prog 90 #[tgV t, cavV x] w fun e w' => e = .returned (tgV (nextT t x)) ∧ Below w.heap.size w w' := by
  obtain ⟨W1, hW1⟩ : ∃ W1, W1 = ((w.alloc (.cells (tgC t) 29)).alloc (.cells #[.bool x.third, .string x.text, .int .u64 (x.party : Int), .string x.id, .string x.vault] 83)).alloc (.cells (tgC Tg.zero) 29) := ⟨_, rfl⟩
  obtain ⟨g1, g2, g3⟩ := heap3g w (tgC t) #[.bool x.third, .string x.text, .int .u64 (x.party : Int), .string x.id, .string x.vault] (tgC Tg.zero) 29 83 29
  rw [← hW1] at g1 g2 g3
  have HB1 : Hid (Below w.heap.size w W1) := hide (by rw [hW1]; exact below3 _ _ _ _)
  have HP1 := hide (hP.ext HB1.out)
  have hw0 := hP.1
  clear hP
  have HK1 := hide g1
  have HC1 := hide g2
  have HZ1 := hide g3
  have HS := hide hs
  obtain ⟨fl, hfl⟩ : ∃ fl, cavFlds x = fl := ⟨_, rfl⟩
  obtain ⟨q, hq⟩ : ∃ q, fl.length = q := ⟨_, rfl⟩
  obtain ⟨fb, hfb⟩ : ∃ fb, fjoin fl = fb := ⟨_, rfl⟩
  obtain ⟨m, hm⟩ : ∃ m, fb.length = m := ⟨_, rfl⟩
  obtain ⟨nt, hnt⟩ : ∃ nt, nextT t x = nt := ⟨_, rfl⟩
  have hlen : m < 1000000 := by rw [← hm, ← hfb, ← hfl]; exact small_len hs
  have HFLD := hide hfl
  have HQ := hide hq
  have HFJ := hide hfb
  have HFB : Hid (fjoin (cavFlds x) = fb) := hide (by rw [hfl, hfb])
  have HM := hide hm
  have HML := hide hlen
  have HNT := hide hnt
  have HT : Hid (dkey t uCav [txt fb] = nt) := hide (by rw [← hnt, nextT, hfl, hfb])
  have HSZ : Hid (∀ s ∈ [txt fb], s.size ≤ maxLen) := hide (by
    intro s hs
    simp only [List.mem_cons, List.not_mem_nil, or_false] at hs
    subst hs
    rw [txt_size]
    simp only [maxLen]; omega)
  have HFL : Hid ((frames (uCav :: [txt fb])).length < 1073741824) := hide (by
    simp only [frames_cons, frames_nil, List.length_append, frm_len, txt_size, List.length_nil]
    rw [show uCav.size = 6 from rfl]; omega)
  have HFV : Hid (∀ f ∈ fl, f.value.size ≤ 1099511627776) := hide (by rw [← hfl]; intro f hf; have := small_vals hs f hf; omega)
  clear hs hfl hq hfb hm hnt g1 g2 g3 hlen
  go_enter Tryd.func90, Tryd.ntmps90
  go_wp2_with fail
  rw [← hW1]
  clear hW1
  refine wp_region_ext mixed 6 (fun i v w' => match i with
    | 0 => v = tgV t
    | 1 => v = cavV x
    | 2 => ∃ A c, v = .slice A m c ∧ kU8.Row (fun _ => True) w' A m c fb
    | 3 => v = .string (txt fb)
    | 4 => ∃ A c, v = .slice A 1 c ∧ kStr.Row (fun _ => True) w' A 1 c [txt fb]
    | _ => v = tgV nt
    ) (regOk_of (by kernel_rfl)) rfl ?_ ?_ ?_
  · intro i v w1 w2 h1 h2
    split at h2 <;> first | exact h2 | (obtain ⟨A, c, e, hr⟩ := h2; exact ⟨A, c, e, hr.below h1⟩)
  · refine ⟨fun a w2 hle hd hf hs K hK => ?_, fun a w2 hle hd hf hs K hK => ?_, fun a w2 hle hd hf hs K hK => ?_, fun a w2 hle hd hf hs K hK => ?_, fun a w2 hle hd hf hs K hK => ?_, fun a w2 hle hd hf hs K hK => ?_, trivial⟩
    all_goals clear hd
    · -- 5 := Op.load 29 t2
      have e2 := hf 2 rfl; simp [Act.eval] at e2
      have hq : agg? w2 ⟨w.heap.size, 0, none⟩ 32 = some (tgC t) := (agg_of_row (hle.heap HK1.out) 0 32 (by decide)).trans (tgC_part t)
      go_simp; exact hK _ _ (Ext.refl _) rfl
    · -- 6 := Op.load 83 t3
      have e3 := hf 3 rfl; simp [Act.eval] at e3
      have c0 : w2.cell? ⟨w.heap.size + 1, 0, none⟩ = some (.bool x.third) := (cell_of_row w2 _ _ _ _ _ (hle.heap HC1.out)).trans rfl
      have c1 : w2.cell? ⟨w.heap.size + 1, 1, none⟩ = some (.string x.text) := (cell_of_row w2 _ _ _ _ _ (hle.heap HC1.out)).trans rfl
      have c2 : w2.cell? ⟨w.heap.size + 1, 2, none⟩ = some (.int .u64 (x.party : Int)) := (cell_of_row w2 _ _ _ _ _ (hle.heap HC1.out)).trans rfl
      have c3 : w2.cell? ⟨w.heap.size + 1, 3, none⟩ = some (.string x.id) := (cell_of_row w2 _ _ _ _ _ (hle.heap HC1.out)).trans rfl
      have c4 : w2.cell? ⟨w.heap.size + 1, 4, none⟩ = some (.string x.vault) := (cell_of_row w2 _ _ _ _ _ (hle.heap HC1.out)).trans rfl
      go_simp; exact hK _ _ (Ext.refl _) rfl
    · -- 7 := Op.call { value (Operand.func 63), args := #[t6], argTypes := #[83] }
      have e6 := hs 1 6 (needs_direct (by kernel_rfl)) rfl; simp [Act.eval] at e6
      go_simp
      refine (c_caveat x w2 (by have := HS.out.1; omega) HS.out.2.1 (by have := HS.out.2.2.1; omega) (by have := HS.out.2.2.2; omega)).mono ?_
      rintro z w9 ⟨v9, rfl, h9, b9⟩
      rw [HFB.out] at h9
      obtain ⟨A8, c8, rfl, hr8⟩ := own_row h9
      rw [HM.out] at hr8 ⊢
      exact hK _ _ b9 ⟨A8, c8, rfl, hr8.more fun _ _ => trivial⟩
    · -- 8 := Op.convert 22 9 t7
      obtain ⟨A7, c7, e7, hr7⟩ := hs 2 7 (needs_direct (by kernel_rfl)) rfl; simp [Act.eval] at e7
      have hq := row_string (P := Tryd.prog) Tryd.underlying22 Tryd.underlying5 Tryd.underlying9 hr7
      go_simp; exact hK _ _ (Ext.refl _) rfl
    · -- 9 := Op.buildSlice 34 1 #[(0, t8)]
      have e8 := hs 3 8 (needs_direct (by kernel_rfl)) rfl; simp [Act.eval] at e8
      go_simp
      exact hK _ _ (Ext.alloc _ _) ⟨_, _, rfl, strs_row [txt fb] (heap_alloc_new _ _) rfl HSZ.out (by simp [maxLen])⟩
    · -- 10 := Op.call { value (Operand.func 22), args := #[t5, const (Value.string { data := #[99, 97, 118, 101, 97, 116] }), t9], argTypes := #[29, 9, 34] }
      have e5 := hs 0 5 (needs_direct (by kernel_rfl)) rfl; obtain ⟨A9, c9, e9, hr9⟩ := hs 4 9 (needs_direct (by kernel_rfl)) rfl; simp [Act.eval] at e5 e9
      go_simp
      refine (c_dkey t uCav A9 1 c9 [txt fb] _ w2 hr9 (by decide) (HP1.out.ext hle) HFL.out).mono ?_
      rintro z w9 ⟨rfl, b9⟩
      rw [HT.out]
      exact hK _ _ b9 rfl
  intro vs w8 hle hs
  have v5 := hs 5 (by omega) rfl
  simp only at v5
  clear hs
  have hz8 := hle.heap HZ1.out
  have hrz := row_of hz8
  have HB9 := hide (bsetRow (HB1.out.trans (hle.mono HB1.out.size)) (Nat.le_add_right _ 2) (tgC nt))
  have hag9 : agg? (w8.setRow (w.heap.size + 2) (tgC nt)) ⟨w.heap.size + 2, 0, none⟩ 32 = some (tgC nt) := (agg_setRow_at _ _ _ _ _ (by rw [hrz]; rfl) (by decide)).trans (tgC_part nt)
  clear hle hz8
  simp only [putN, dstAt]
  go_simp
  go_wp2_with fail
  exact bodyPost_ret (v := tgV nt) (by simp [results, Tryd.results90, go_sem, hag9]) rfl ⟨by rw [HNT.out], HB9.out⟩
set_option maxRecDepth 100000 in
set_option maxHeartbeats 800000 in
theorem c_rnext (t : Tg) (x : Cav) (w : World) (hs : x.small) :
    Calls Tryd.prog 109 #[tgV t, cavV x] w fun e w' => e = .returned (tgV (nextT t x)) ∧ Below w.heap.size w w' := by
  obtain ⟨W1, hW1⟩ : ∃ W1, W1 = ((w.alloc (.cells (tgC t) 29)).alloc (.cells #[.bool x.third, .string x.text, .int .u64 (x.party : Int), .string x.id, .string x.vault] 83)).alloc (.cells (tgC Tg.zero) 29) := ⟨_, rfl⟩
  obtain ⟨g1, g2, g3⟩ := heap3g w (tgC t) #[.bool x.third, .string x.text, .int .u64 (x.party : Int), .string x.id, .string x.vault] (tgC Tg.zero) 29 83 29
  rw [← hW1] at g1 g2 g3
  have HB1 : Hid (Below w.heap.size w W1) := hide (by rw [hW1]; exact below3 _ _ _ _)
  have HK1 := hide g1
  have HC1 := hide g2
  have HZ1 := hide g3
  have HS := hide hs
  obtain ⟨fl, hfl⟩ : ∃ fl, cavFlds x = fl := ⟨_, rfl⟩
  obtain ⟨q, hq⟩ : ∃ q, fl.length = q := ⟨_, rfl⟩
  obtain ⟨fb, hfb⟩ : ∃ fb, fjoin fl = fb := ⟨_, rfl⟩
  obtain ⟨m, hm⟩ : ∃ m, fb.length = m := ⟨_, rfl⟩
  obtain ⟨nt, hnt⟩ : ∃ nt, nextT t x = nt := ⟨_, rfl⟩
  have hlen : m < 1000000 := by rw [← hm, ← hfb, ← hfl]; exact small_len hs
  have HFLD := hide hfl
  have HQ := hide hq
  have HFJ := hide hfb
  have HFB : Hid (fjoin (cavFlds x) = fb) := hide (by rw [hfl, hfb])
  have HM := hide hm
  have HML := hide hlen
  have HNT := hide hnt
  have HT : Hid (dkey t uCav [txt fb] = nt) := hide (by rw [← hnt, nextT, hfl, hfb])
  have HSZ : Hid (∀ s ∈ [txt fb], s.size ≤ maxLen) := hide (by
    intro s hs
    simp only [List.mem_cons, List.not_mem_nil, or_false] at hs
    subst hs
    rw [txt_size]
    simp only [maxLen]; omega)
  have HFL : Hid ((frames (uCav :: [txt fb])).length < 1073741824) := hide (by
    simp only [frames_cons, frames_nil, List.length_append, frm_len, txt_size, List.length_nil]
    rw [show uCav.size = 6 from rfl]; omega)
  have HFV : Hid (∀ f ∈ fl, f.value.size ≤ 1099511627776) := hide (by rw [← hfl]; intro f hf; have := small_vals hs f hf; omega)
  clear hs hfl hq hfb hm hnt g1 g2 g3 hlen
  go_enter Tryd.func109, Tryd.ntmps109
  go_wp2_with fail
  rw [← hW1]
  clear hW1
  refine wp_region_ext mixed 7 (fun i v w' => match i with
    | 0 => v = tgV t
    | 1 => v = cavV x
    | 2 => ∃ A c, v = .slice A q c ∧ kFld.Row (fun _ => True) w' A q c fl
    | 3 => ∃ A c, v = .slice A m c ∧ kU8.Row (fun _ => True) w' A m c fb
    | 4 => v = .string (txt fb)
    | 5 => ∃ A c, v = .slice A 1 c ∧ kStr.Row (fun _ => True) w' A 1 c [txt fb]
    | _ => v = tgV nt
    ) (regOk_of (by kernel_rfl)) rfl ?_ ?_ ?_
  · intro i v w1 w2 h1 h2
    split at h2 <;> first | exact h2 | (obtain ⟨A, c, e, hr⟩ := h2; exact ⟨A, c, e, hr.below h1⟩)
  · refine ⟨fun a w2 hle hd hf hs K hK => ?_, fun a w2 hle hd hf hs K hK => ?_, fun a w2 hle hd hf hs K hK => ?_, fun a w2 hle hd hf hs K hK => ?_, fun a w2 hle hd hf hs K hK => ?_, fun a w2 hle hd hf hs K hK => ?_, fun a w2 hle hd hf hs K hK => ?_, trivial⟩
    all_goals clear hd
    · -- 5 := Op.load 29 t2
      have e2 := hf 2 rfl; simp [Act.eval] at e2
      have hq : agg? w2 ⟨w.heap.size, 0, none⟩ 32 = some (tgC t) := (agg_of_row (hle.heap HK1.out) 0 32 (by decide)).trans (tgC_part t)
      go_simp; exact hK _ _ (Ext.refl _) rfl
    · -- 6 := Op.load 83 t3
      have e3 := hf 3 rfl; simp [Act.eval] at e3
      have c0 : w2.cell? ⟨w.heap.size + 1, 0, none⟩ = some (.bool x.third) := (cell_of_row w2 _ _ _ _ _ (hle.heap HC1.out)).trans rfl
      have c1 : w2.cell? ⟨w.heap.size + 1, 1, none⟩ = some (.string x.text) := (cell_of_row w2 _ _ _ _ _ (hle.heap HC1.out)).trans rfl
      have c2 : w2.cell? ⟨w.heap.size + 1, 2, none⟩ = some (.int .u64 (x.party : Int)) := (cell_of_row w2 _ _ _ _ _ (hle.heap HC1.out)).trans rfl
      have c3 : w2.cell? ⟨w.heap.size + 1, 3, none⟩ = some (.string x.id) := (cell_of_row w2 _ _ _ _ _ (hle.heap HC1.out)).trans rfl
      have c4 : w2.cell? ⟨w.heap.size + 1, 4, none⟩ = some (.string x.vault) := (cell_of_row w2 _ _ _ _ _ (hle.heap HC1.out)).trans rfl
      go_simp; exact hK _ _ (Ext.refl _) rfl
    · -- 7 := Op.call { value (Operand.func 128), args := #[t6], argTypes := #[83] }
      have e6 := hs 1 6 (needs_direct (by kernel_rfl)) rfl; simp [Act.eval] at e6
      go_simp
      refine (c_rcav x w2 HS.out.2.1 (by have := HS.out.1; simp only [maxLen]; omega) (by have := HS.out.2.2.1; simp only [maxLen]; omega) (by have := HS.out.2.2.2; simp only [maxLen]; omega)).mono ?_
      rintro z w9 ⟨⟨A8, n8, c8, rfl, hr8⟩, b9⟩
      rw [HFLD.out] at hr8
      obtain rfl : n8 = q := by have := hr8.1; have := HQ.out; omega
      exact hK _ _ b9 ⟨A8, c8, rfl, hr8⟩
    · -- 8 := Op.call { value (Operand.func 127), args := #[t7], argTypes := #[182] }
      obtain ⟨A7, c7, e7, hr7⟩ := hs 2 7 (needs_direct (by kernel_rfl)) rfl; simp [Act.eval] at e7
      go_simp
      refine (c_rjoin A7 q c7 fl _ w2 hr7 (by rw [HFJ.out]; have := HM.out; have := HML.out; omega) HFV.out).mono ?_
      rintro z w9 ⟨v9, rfl, h9, b9⟩
      rw [HFJ.out] at h9
      obtain ⟨A8, c8, rfl, hr8⟩ := own_row h9
      rw [HM.out] at hr8 ⊢
      exact hK _ _ b9 ⟨A8, c8, rfl, hr8.more fun _ _ => trivial⟩
    · -- 9 := Op.convert 22 9 t8
      obtain ⟨A8, c8, e8, hr8⟩ := hs 3 8 (needs_direct (by kernel_rfl)) rfl; simp [Act.eval] at e8
      have hq := row_string (P := Tryd.prog) Tryd.underlying22 Tryd.underlying5 Tryd.underlying9 hr8
      go_simp; exact hK _ _ (Ext.refl _) rfl
    · -- 10 := Op.buildSlice 34 1 #[(0, t9)]
      have e9 := hs 4 9 (needs_direct (by kernel_rfl)) rfl; simp [Act.eval] at e9
      go_simp
      exact hK _ _ (Ext.alloc _ _) ⟨_, _, rfl, strs_row [txt fb] (heap_alloc_new _ _) rfl HSZ.out (by simp [maxLen])⟩
    · -- 11 := Op.call { value (Operand.func 23), args := #[t5, const (Value.string { data := #[99, 97, 118, 101, 97, 116] }), t10], argTypes := #[29, 9, 34] }
      have e5 := hs 0 5 (needs_direct (by kernel_rfl)) rfl; obtain ⟨A10, c10, e10, hr10⟩ := hs 5 10 (needs_direct (by kernel_rfl)) rfl; simp [Act.eval] at e5 e10
      go_simp
      refine (c_rkey t uCav A10 1 c10 [txt fb] _ w2 hr10 (by decide) HFL.out).mono ?_
      rintro z w9 ⟨rfl, b9⟩
      rw [HT.out]
      exact hK _ _ b9 rfl
  intro vs w8 hle hs
  have v6 := hs 6 (by omega) rfl
  simp only at v6
  clear hs
  have hz8 := hle.heap HZ1.out
  have hrz := row_of hz8
  have HB9 := hide (bsetRow (HB1.out.trans (hle.mono HB1.out.size)) (Nat.le_add_right _ 2) (tgC nt))
  have hag9 : agg? (w8.setRow (w.heap.size + 2) (tgC nt)) ⟨w.heap.size + 2, 0, none⟩ 32 = some (tgC nt) := (agg_setRow_at _ _ _ _ _ (by rw [hrz]; rfl) (by decide)).trans (tgC_part nt)
  clear hle hz8
  simp only [putN, dstAt]
  go_simp
  go_wp2_with fail
  exact bodyPost_ret (v := tgV nt) (by simp [results, Tryd.results109, go_sem, hag9]) rfl ⟨by rw [HNT.out], HB9.out⟩
end Go.Proofs.YtdkeflhgengblaaDoor
namespace Go.Proofs.YtdkeflhgengblaaDoor
open Go.RowKit
attribute [local go_sem ↓] ld16 ld17 ld32 ld36
attribute [local go_sem] run_ldAgg run_storeAgg agg_alloc_at agg_alloc_past agg_drew agg_setCell row_alloc_at row_alloc_past row_drew setRow_alloc_at setRow_alloc_past setRow_drew tgC_size tgC_one tgC_part tgC_splice tokC_size tokC_0 tokC_1 tokC_2 tokC_3 tokC_g0 tokC_g1 tokC_g2 tokC_g3 tokC_part tokC_tag tokC_set0 tokC_set1 tokC_set2 tokC_set3 tokC_splice tokC_splice0 tgC_splice_any zero_tg zero_tok tokC_one
/-- 32 bytes as a tag. -/
def tagOf (l : List UInt8) : Option Tg := if h : l.length = 32 then some ⟨l, h⟩ else none
def tagV : Option Tg → Value
  | none => .tuple #[tgV Tg.zero, .bool false]
  | some t => .tuple #[tgV t, .bool true]
set_option maxRecDepth 100000 in
theorem c_tagof (A : Option Addr) (n c : Nat) (xs : List UInt8) (ok : Nat → Prop) (w : World) (hR : kU8.Row ok w A n c xs) :
    Calls Tryd.prog 88 #[.slice A n c] w fun e w' => e = .returned (tagV (tagOf xs)) ∧ Below w.heap.size w w' := by
  have hl := hR.1
  by_cases h32 : n = 32
  · subst h32
    have HT : Hid (tagOf xs = some ⟨xs, hl⟩) := hide (by rw [tagOf, dif_pos hl])
    obtain ⟨b, o, rfl, -, hb, hc⟩ := row_bytes hR (by decide)
    have hag : agg? w ⟨b, o, none⟩ 32 = some (tgC ⟨xs, hl⟩) := agg_range (cs := xs.map bv) (fun j v hv => by
      rw [List.getElem?_map] at hv
      obtain ⟨x, hx, rfl⟩ := Option.map_eq_some_iff.1 hv
      exact hc j x hx) 32 (by simpa using hl)
    generalize (⟨xs, hl⟩ : Tg) = t at hag HT
    have hap : ∀ wx : World, (Instr.arrayAt 29 (.slice (some ⟨b, o, none⟩) 32 c)).run Tryd.prog wx = .ok (.pointer (some ⟨b, o, none⟩)) wx := fun wx => by simp [Instr.arrayAt, run_underlying Tryd.underlying29]
    clear hR hc hl
    go_enter Tryd.func88, Tryd.ntmps88
    go_wp2_with fail
    exact bodyPost_ret (v := .tuple #[tgV t, .bool true]) (by simp [results, Tryd.results88, go_sem]) rfl ⟨by rw [HT.out]; rfl, below1 _ _⟩
  · have HT : Hid (tagOf xs = none) := hide (by rw [tagOf, dif_neg (by rw [hl]; exact h32)])
    clear hR hl
    go_enter Tryd.func88, Tryd.ntmps88
    go_wp2_with fail
    exact bodyPost_ret (v := .tuple #[tgV Tg.zero, .bool false]) (by simp [results, Tryd.results88, go_sem]) rfl ⟨by rw [HT.out]; rfl, below1 _ _⟩

theorem nil_iff (s : ByteArray) : s.toList = [] ↔ s = ByteArray.empty := by
  have h : ByteArray.empty.toList = [] := by rw [ByteArray.toList_eq]; rfl
  rw [← h]
  exact bytes_inj _ _
theorem cav_mk {x : Cav} {a : Bool} {b d e : ByteArray} {c : Nat} : x = ⟨a, b, c, d, e⟩ ↔ x.third = a ∧ x.text = b ∧ x.party = c ∧ x.id = d ∧ x.vault = e := by
  cases x
  simp
/-- Can a caveat be? -/
def canC (c : Cav) : Bool := if c.third then decide (c.text = ByteArray.empty) && decide (c.id.size ≤ 1024) && decide (c.vault.size ≤ 1024) else decide (c.text.size ≤ 512) && decide (c = ⟨false, c.text, 0, ByteArray.empty, ByteArray.empty⟩)
/-- Can a token be? -/
def checkT (t : Tok) : Bool := decide (t.id.size ≤ 1024) && decide (t.cavs.length ≤ 64) && t.cavs.all canC
set_option maxRecDepth 100000 in
theorem c_can (x : Cav) (w : World) : Calls Tryd.prog 113 #[cavV x] w fun e w' => e = .returned (.bool (canC x)) ∧ Below w.heap.size w w' := by
  cases h3 : x.third with
  | true =>
    unfold cavV
    rw [h3]
    have H3 := hide h3
    clear h3
    go_enter Tryd.func113, Tryd.ntmps113
    go_wp2_with fail
    all_goals go_ret
    all_goals refine ⟨congrArg (fun b => Ending.returned (.bool b)) (?_ : _ = canC x), below1 _ _⟩
    all_goals simp_all [canC, H3.out, ← nil_iff]
    all_goals first | omega | (rw [Bool.eq_iff_iff]; simp; omega)
  | false => 
    unfold cavV
    rw [h3]
    have H3 := hide h3
    clear h3
    go_enter Tryd.func113, Tryd.ntmps113
    go_wp2_with fail
    all_goals go_ret
    all_goals refine ⟨congrArg (fun b => Ending.returned (.bool b)) (?_ : _ = canC x), below1 _ _⟩
    all_goals simp_all [canC, H3.out, ← nil_iff, cav_mk]
    all_goals first | omega | (rw [Bool.eq_iff_iff]; simp; omega)
def errV (b : Bool) : Value := .int .i64 (if b then 0 else 1)
set_option maxRecDepth 100000 in
theorem c_cannot (x : Cav) (w : World) : Calls Tryd.prog 112 #[cavV x] w fun e w' => e = .returned (.bool (!canC x)) ∧ Below w.heap.size w w' := by
  go_enter Tryd.func112, Tryd.ntmps112
  go_wp2_with fail
  refine (c_can x _).mono ?_
  rintro e w1 ⟨rfl, b1⟩
  have HB := hide (bnext (below1 _ _) b1)
  clear b1
  go_wp2_with fail
  go_ret
  exact ⟨rfl, HB.out⟩
/-- Where the first caveat lies that can't be. -/
def firstBad (l : List Cav) : Int := match l.findIdx? (fun c => !canC c) with | some k => (k : Int) | none => -1
set_option maxRecDepth 100000 in
set_option maxHeartbeats 400000 in
theorem c_index (A : Option Addr) (n c : Nat) (l : List Cav) (ok : Nat → Prop) (w : World) (hR : kCav.Row ok w A n c l) :
    Calls Tryd.prog 129 #[.slice A n c, .func (.func 112) #[] #[]] w fun e w' => (∃ i : Int, e = .returned (.int .i64 i) ∧ (0 ≤ i ↔ l.all canC = false)) ∧ Below w.heap.size w w' := by
  have HL := hide hR.1
  have hm : n ≤ 9223372036854775807 := Nat.le_trans hR.2.1 hR.2.2.1
  have HR := hide hR
  clear hR
  go_enter Tryd.func129, Tryd.ntmps129
  go_wp2
  go_loopw [8] (fun i wr => ∃ k : Nat, k ≤ n ∧ i = .int .i64 (k : Int) ∧ Hid ((l.take k).all canC = true) ∧ Hid (Below w.heap.size w wr)) (fun i _ => n - (intOf i).toNat)
  case atStart => exact ⟨0, Nat.zero_le _, rfl, hide rfl, hide (Below.refl _ _)⟩
  case round =>
    obtain ⟨k, hk, rfl, HA, HB⟩ := hrel
    by_cases hlt : k < n
    · obtain ⟨x, hx⟩ : ∃ x, l[k]? = some x := ⟨_, List.getElem?_eq_getElem (by have := HL.out; omega)⟩
      obtain ⟨b, q, cs, hix, -, hbl, hK, hra⟩ := (HR.out.below HB.out).index (P := Tryd.prog) Tryd.underlying42 (E := 83) cav_size hx
      have hKe := hK.1
      subst hKe
      have a0 := hra 0 _ rfl
      have a1 := hra 1 _ rfl
      have a2 := hra 2 _ rfl
      have a3 := hra 3 _ rfl
      have a4 := hra 4 _ rfl
      simp only [Nat.add_zero] at a0
      have HX := hide hx
      clear hx hK hra
      go_wp2_with fail
      refine (c_cannot x wr).mono ?_
      rintro e w1 ⟨rfl, b1⟩
      have HB1 := hide (HB.out.trans (b1.mono HB.out.size))
      clear b1
      cases hc : canC x with
      | true =>
        have HA1 : Hid ((l.take (k + 1)).all canC = true) := hide (by rw [List.take_add_one, HX.out, List.all_append, HA.out]; simp [hc])
        clear hc
        go_wp2_with fail
        go_roundw
        case rel => exact ⟨k + 1, by omega, by simp, HA1, HB1⟩
        case measure => simp [intOf]; omega
      | false =>
        have HA1 : Hid (l.all canC = false) := hide (by
          rw [List.all_eq_false]
          exact ⟨x, List.mem_of_getElem? HX.out, by simp [hc]⟩)
        clear hc
        go_wp2_with fail
        go_ret
        exact ⟨⟨(k : Int), rfl, fun _ => HA1.out, fun _ => by omega⟩, HB1.out⟩
    · obtain rfl : k = n := by omega
      have HA1 : Hid (l.all canC = true) := hide (by
        have := HA.out
        rwa [List.take_of_length_le (Nat.le_of_eq HL.out)] at this)
      go_wp2_with fail
      go_ret
      exact ⟨⟨-1, rfl, fun h => by omega, fun h => by rw [HA1.out] at h; cases h⟩, HB.out⟩
set_option maxRecDepth 100000 in
theorem c_contains (A : Option Addr) (n c : Nat) (l : List Cav) (ok : Nat → Prop) (w : World) (hR : kCav.Row ok w A n c l) :
    Calls Tryd.prog 111 #[.slice A n c, .func (.func 112) #[] #[]] w fun e w' => e = .returned (.bool (!l.all canC)) ∧ Below w.heap.size w w' := by
  have HR := hide hR
  clear hR
  go_enter Tryd.func111, Tryd.ntmps111
  go_wp2_with fail
  refine (c_index A n c l ok w HR.out).mono ?_
  rintro e w1 ⟨⟨i, rfl, hi⟩, b1⟩
  have HI := hide hi
  have HB := hide b1
  clear hi b1
  cases hc : l.all canC with
  | true =>
    have h0 : ¬ 0 ≤ i := fun h => by have := HI.out.1 h; rw [hc] at this; cases this
    have h0' := hide (decide_eq_false h0)
    go_wp2_with fail
    go_ret
    exact ⟨by rw [hc]; exact congrArg (fun b => Ending.returned (.bool b)) h0'.out, HB.out⟩
  | false =>
    have h0 : 0 ≤ i := HI.out.2 hc
    go_wp2_with fail
    go_ret
    exact ⟨by rw [hc]; rfl, HB.out⟩
set_option maxRecDepth 100000 in
theorem c_check (t : Tok) (A : Option Addr) (n c : Nat) (ok : Nat → Prop) (w : World) (hR : kCav.Row ok w A n c t.cavs) :
    Calls Tryd.prog 91 #[tokV t A n c] w fun e w' => e = .returned (errV (checkT t)) ∧ Below w.heap.size w w' := by
  have HL := hide hR.1
  have hm : n ≤ 9223372036854775807 := Nat.le_trans hR.2.1 hR.2.2.1
  have HR := hide hR
  clear hR
  by_cases h1 : 1024 < t.id.size
  · have HC : Hid (checkT t = false) := hide (by simp [checkT]; omega)
    go_enter Tryd.func91, Tryd.ntmps91
    go_wp2_with fail
    go_ret
    exact ⟨by rw [HC.out]; rfl, below1 _ _⟩
  · by_cases h2 : 64 < n
    · have HC : Hid (checkT t = false) := hide (by have := HL.out; simp [checkT]; omega)
      go_enter Tryd.func91, Tryd.ntmps91
      go_wp2_with fail
      go_ret
      exact ⟨by rw [HC.out]; rfl, below1 _ _⟩
    · have HC : Hid (checkT t = t.cavs.all canC) := hide (by have := HL.out; simp [checkT]; omega)
      go_enter Tryd.func91, Tryd.ntmps91
      go_wp2_with fail
      refine (c_contains A n c t.cavs ok _ (HR.out.below (below1 _ _))).mono ?_
      rintro e w1 ⟨rfl, b1⟩
      have HB := hide (bnext (below1 _ _) b1)
      clear b1
      cases hc : t.cavs.all canC with
      | true =>
        have HC := hide (HC.out.trans hc)
        clear hc
        go_wp2_with fail
        go_ret
        exact ⟨by rw [HC.out]; rfl, HB.out⟩
      | false =>
        have HC := hide (HC.out.trans hc)
        clear hc
        go_wp2_with fail
        go_ret
        exact ⟨by rw [HC.out]; rfl, HB.out⟩
end Go.Proofs.YtdkeflhgengblaaDoor
namespace Go.Proofs.YtdkeflhgengblaaDoor
open Go.RowKit
theorem own_block_lt {α : Type} {d : Kd α} {ok : Nat → Prop} {base : Nat} {w : World} {E : TypeId} {v : Value} {xs : List α} (h : d.Own ok base w E v xs) : ∀ k, v.ownBlock = some k → k < w.heap.size := fun k hk => (h.base_le k hk).2
section
variable {α : Type} {d : Kd α} {base g : Nat} {w w' : World} {E : TypeId} {v : Value} {xs : List α} {A : Option Addr} {n c : Nat} {p : Nat → Prop}
theorem own_setRow (h : d.Own (g < ·) base w E v xs) (hg : g < base) (q : Nat) (hq : q ≤ g) (C : Array Value) : d.Own (g < ·) base (w.setRow q C) E v xs :=
  h.keep fun k _ hk => heap_setRow_far _ _ _ (by
    rcases hk with hk | hk
    · omega
    · have := (h.base_le k hk.symm).1; omega)
theorem own_setCell (h : d.Own (g < ·) base w E v xs) (hg : g < base) (o : Nat) (u : Value) : d.Own (g < ·) base (w.setCell ⟨g, o, none⟩ u) E v xs :=
  h.keep fun k _ hk => Below.heap_setCell _ _ _ _ (by
    rcases hk with hk | hk
    · show k ≠ g; omega
    · have := (h.base_le k hk.symm).1; show k ≠ g; omega)
theorem row_setRow (h : d.Row (fun k => g < k ∧ p k) w A n c xs) (q : Nat) (hq : q ≤ g) (C : Array Value) : d.Row (fun k => g < k ∧ p k) (w.setRow q C) A n c xs :=
  h.keep fun k hk _ => heap_setRow_far _ _ _ (by have := hk.1; omega)
theorem row_setCell (h : d.Row (fun k => g < k ∧ p k) w A n c xs) (o : Nat) (u : Value) : d.Row (fun k => g < k ∧ p k) (w.setCell ⟨g, o, none⟩ u) A n c xs :=
  h.keep fun k hk _ => Below.heap_setCell _ _ _ _ (by have := hk.1; show k ≠ g; omega)
end
variable {α : Type} {d : Kd α} {ok ok' : Nat → Prop} {base g n cap i : Nat} {w : World} {E : TypeId} {v : Value} {xs : List α} {y : α} {cs : List Value} {cur : Array Value}
theorem flat_set {s : Nat} : ∀ {css : List (List Value)} {i : Nat}, (∀ c ∈ css, c.length = s) → i < css.length → (css.set i cs).flatten = css.flatten.take (i * s) ++ cs ++ css.flatten.drop (i * s + s)
  | [], _, _, hi => by simp at hi
  | c :: r, 0, h, _ => by
    have hc : c.length = s := h c (by simp)
    rw [Nat.zero_mul, List.take_zero, List.nil_append, Nat.zero_add, List.flatten_cons, List.set_cons_zero, List.flatten_cons, List.drop_append_of_le_length (by omega), List.drop_eq_nil_of_le (by omega), List.nil_append]
  | c :: r, i + 1, h, hi => by
    have hc : c.length = s := h c (by simp)
    have ih := flat_set (css := r) (i := i) (fun x hx => h x (by simp [hx])) (by simpa using hi)
    have e1 : List.drop (s + i * s + s) (c ++ r.flatten) = List.drop (i * s + s) r.flatten := by
      rw [List.drop_append, List.drop_eq_nil_of_le (by omega), List.nil_append, hc]
      congr 1
      omega
    have e2 : List.take (s + i * s) (c ++ r.flatten) = c ++ List.take (i * s) r.flatten := by
      rw [List.take_append, List.take_of_length_le (by omega), hc, Nat.add_sub_cancel_left]
    rw [List.set_cons_succ, List.flatten_cons, List.flatten_cons, ih, Nat.add_mul, Nat.one_mul, Nat.add_comm (i * s) s, e1, e2, Nat.add_comm s (i * s)]
    simp only [List.append_assoc]
theorem Kd.Own.set (h : d.Own ok base w E (.slice (some ⟨g, 0, none⟩) n cap) xs) (hi : i < xs.length) (hg : w.heap[g]? = some (.cells cur E (0, 0))) (hy : d.K (fun k => ok k ∧ k ≠ g) w y cs) :
    i * d.sz + d.sz ≤ cur.size ∧ d.Own ok base (w.setRow g (splice cur (i * d.sz) cs.toArray)) E (.slice (some ⟨g, 0, none⟩) n cap) (xs.set i y) := by
  obtain ⟨css, he, ho⟩ := h
  have hl := he.lens
  have hcs : cs.length = d.sz := d.len hy
  rcases ho with ⟨hfl, ⟨e, _⟩ | ⟨g', cap', cur', e, hb, hg', hn, hm, hs, ht⟩⟩
  · cases e
  · cases e
    rw [hg] at hg'
    obtain rfl : cur = cur' := by injection hg' with h1; injection h1
    have hle : (i + 1) * d.sz ≤ xs.length * d.sz := Nat.mul_le_mul_right _ hi
    have hle2 : xs.length * d.sz ≤ cap * d.sz := Nat.mul_le_mul_right _ hn
    rw [Nat.add_mul, Nat.one_mul] at hle
    have hsz : i * d.sz + d.sz ≤ cur.size := by omega
    have hkeep : ∀ k, (ok k ∧ some k ≠ some g) → (w.setRow g (splice cur (i * d.sz) cs.toArray)).heap[k]? = w.heap[k]? := fun k hk => heap_setRow_far _ _ _ (fun e => hk.2 (by rw [e]))
    refine ⟨hsz, css.set i cs, ⟨by rw [List.length_set, List.length_set, he.1], fun j x c hx hc => ?_⟩, ?_⟩
    · by_cases hj : i = j
      · subst hj
        rw [List.getElem?_set_self (by exact hi)] at hx
        rw [List.getElem?_set_self (by rw [he.1]; exact hi)] at hc
        obtain rfl := Option.some.inj hx
        obtain rfl := Option.some.inj hc
        exact d.keep hkeep (d.more (fun k hk => ⟨hk.1, fun e => hk.2 (Option.some.inj e)⟩) hy)
      · rw [List.getElem?_set_ne hj] at hx hc
        exact d.keep hkeep (he.2 j x c hx hc)
    · have hf := flat_set (cs := cs) hl (show i < css.length by rw [he.1]; exact hi)
      have hcat : ∀ L : List Value, L.length = cap * d.sz → (L.take (i * d.sz) ++ cs ++ L.drop (i * d.sz + d.sz)).take (xs.length * d.sz) = (L.take (xs.length * d.sz)).take (i * d.sz) ++ cs ++ (L.take (xs.length * d.sz)).drop (i * d.sz + d.sz) := by
        intro L hL
        rw [List.take_take, Nat.min_eq_left (by omega), List.drop_take, List.append_assoc, List.append_assoc, List.take_append, List.take_of_length_le (l := L.take (i * d.sz)) (by rw [List.length_take]; omega), List.take_append, List.take_of_length_le (l := cs) (by rw [List.length_take]; omega)]
        congr 3
        rw [List.length_take, hcs]; omega
      refine ⟨?_, .inr ⟨g, cap, _, by rw [List.length_set], hb, setRow_heap w g cur _ E _ hg, by rw [List.length_set]; exact hn, hm, ?_, ?_⟩⟩
      · rw [hf, List.length_append, List.length_append, List.length_take, List.length_drop, hfl, List.length_set, hcs]; omega
      · rw [splice_size _ _ _ (by rw [List.size_toArray, hcs]; exact hsz)]; exact hs
      · rw [List.length_set, hf, ← ht]
        simp only [splice, List.size_toArray, hcs]
        exact hcat cur.toList (by rw [Array.length_toList]; exact hs)
end Go.Proofs.YtdkeflhgengblaaDoor
namespace Go.Proofs.YtdkeflhgengblaaDoor
open Go.RowKit
attribute [local go_sem ↓] ld8 ld32 ld64 ld73
attribute [local go_sem] run_ldAgg run_storeAgg agg_alloc_at agg_alloc_past agg_drew agg_setCell row_alloc_at row_alloc_past row_drew setRow_alloc_at setRow_alloc_past setRow_drew agg_setRow_at agg_setRow_far cell_setRow_at cell_setRow_far row_setRow_far size_setRow s8C_size s8C_part s8C_one s8C_splice0 s8C_ne dgC_size dgC_72 dgC_part dgC_h dgC_r dgC_splice_h dgC_set dgC_one dgC_splice0 dgC_ne zero_dg
attribute [local go_sem] tgC_size tgC_one tgC_part tgC_splice tgC_splice_any zero_tg tgC_ne
attribute [local go_sem ↓] ld36
attribute [local go_sem] tokC_size tokC_0 tokC_1 tokC_2 tokC_3 tokC_g0 tokC_g1 tokC_g2 tokC_g3 tokC_part tokC_tag tokC_set0 tokC_set1 tokC_set2 tokC_set3 tokC_splice tokC_splice0 zero_tok tokC_all tokC_ne

/-- A token with one caveat more, and the error's number. -/
def more1 (t : Tok) (x : Cav) : Tok := { t with cavs := t.cavs ++ [x], tag := nextT t.tag x }
def addR (t : Tok) (x : Cav) : Tok := if t.bnd = true then Tok.zero else if checkT (more1 t x) = true then more1 t x else Tok.zero
def addE (t : Tok) (x : Cav) : Int := if t.bnd = true then 6 else if checkT (more1 t x) = true then 0 else 1
def Added (w : World) (r : Tok) (k : Int) (e : Ending) (w' : World) : Prop :=
  ∃ A n c, e = .returned (.tuple #[tokV r A n c, .int .i64 k]) ∧ kCav.Row (fun k => w.heap.size ≤ k) w' A n c r.cavs ∧ Below w.heap.size w w'
set_option maxRecDepth 100000 in
set_option maxHeartbeats 1600000 in
theorem c_cadd (t : Tok) (x : Cav) (A : Option Addr) (n c : Nat) (ok : Nat → Prop) (w : World) (hR : kCav.Row ok w A n c t.cavs) (hn : n ≤ 1000000) (hx : x.small) (hP : PrimesAt w) :
    Calls Tryd.prog 59 #[tokV t A n c, cavV x] w (Added w (addR t x) (addE t x)) := by
  have HP := hide hP
  have hw0 := hP.1
  have HR := hide hR
  have HL := hide hR.1
  have HX := hide hx
  have HN := hide hn
  clear hR hx hP hn
  obtain ⟨CT, hCT⟩ : ∃ CT, CT = tokA t A n c := ⟨_, rfl⟩
  have HCT := hide hCT
  have HTV : Hid (Value.agg CT = tokV t A n c) := hide (by rw [hCT])
  have hzT : CT.size = 36 := by rw [hCT]; exact tokC_size _ _ _ _ _
  have hoT : oneAll CT = true := by rw [hCT]; exact tokC_all _ _ _ _ _ _ _ _
  obtain ⟨W3, hW3⟩ : ∃ W3, W3 = ((w.alloc (.cells CT 44)).alloc (.cells #[.bool x.third, .string x.text, .int .u64 (x.party : Int), .string x.id, .string x.vault] 83)).alloc (.cells tokZ 44) := ⟨_, rfl⟩
  obtain ⟨g0, g1, g2⟩ := heap3g w CT #[.bool x.third, .string x.text, .int .u64 (x.party : Int), .string x.id, .string x.vault] tokZ 44 83 44
  have hag : agg? (((w.alloc (.cells CT 44)).alloc (.cells #[.bool x.third, .string x.text, .int .u64 (x.party : Int), .string x.id, .string x.vault] 83)).alloc (.cells tokZ 44)) ⟨w.heap.size, 0, none⟩ 36 = some CT := (agg_of_row g0 0 36 (by decide)).trans (by rw [hCT]; exact tokC_part _ _ _ _ _)
  have hcb : (((w.alloc (.cells CT 44)).alloc (.cells #[.bool x.third, .string x.text, .int .u64 (x.party : Int), .string x.id, .string x.vault] 83)).alloc (.cells tokZ 44)).cell? ⟨w.heap.size, 3, none⟩ = some (.bool t.bnd) := (cell_of_row _ _ _ _ _ _ g0).trans (by rw [hCT]; exact tokC_3 _ _ _ _ _)
  have hg3 : CT[3]'(by rw [hzT]; decide) = .bool t.bnd := by
    have h3 : CT[3]? = some (.bool t.bnd) := by rw [hCT]; exact tokC_3 _ _ _ _ _
    rw [Array.getElem?_eq_getElem (by rw [hzT]; decide)] at h3
    exact Option.some.inj h3
  rw [← hW3] at g0 g1 g2
  have hs3 : W3.heap.size = w.heap.size + 3 := by rw [hW3]; simp only [World.size_alloc]
  have HB3 : Hid (Below w.heap.size w W3) := hide (by rw [hW3]; exact below3 _ _ _ _)
  have G0 := hide g0
  have G1 := hide g1
  have G2 := hide g2
  have HW3 := hide hW3
  rw [← HTV.out]
  clear g0 g1 g2 hCT hW3
  cases hb : t.bnd with
  | true =>
    have HA1 : Hid (addR t x = Tok.zero) := hide (if_pos hb)
    have HA2 : Hid (addE t x = 6) := hide (if_pos hb)
    rw [hb] at hcb hg3
    have hrz := row_of G2.out
    have hage : agg? (W3.setRow (w.heap.size + 2) tokZ) ⟨w.heap.size + 2, 0, none⟩ 36 = some tokZ := (agg_setRow_at _ _ _ _ _ (by rw [hrz]; rfl) (by decide)).trans (tokC_part _ _ _ _ _)
    clear hb
    go_enter Tryd.func59, Tryd.ntmps59
    go_wp2_with fail
    exact bodyPost_ret (v := .tuple #[.agg tokZ, .int .i64 6]) (by simp [results, Tryd.results59, go_sem]) rfl ⟨none, 0, 0, by rw [HA1.out, HA2.out]; rfl, by rw [HA1.out]; exact .nil _ _ _ _ _ (Nat.zero_le _), below3 _ _ _ _⟩
  | false =>
    have HA1 : Hid (addR t x = if checkT (more1 t x) = true then more1 t x else Tok.zero) := hide (if_neg (by rw [hb]; decide))
    have HA2 : Hid (addE t x = if checkT (more1 t x) = true then 0 else 1) := hide (if_neg (by rw [hb]; decide))
    rw [hb] at hcb hg3
    clear hb
    go_enter Tryd.func59, Tryd.ntmps59
    go_wp2_with fail
    rw [HTV.out, ← HW3.out]
    refine (c_pcloneO t A n c ok W3 (HR.out.below HB3.out) (by have := HN.out; omega)).mono ?_
    rintro e w4 ⟨A1, c1, rfl, ho4, b4⟩
    rw [← HTV.out]
    obtain ⟨C4, hC4⟩ : ∃ C4, C4 = tokA t A1 n c1 := ⟨_, rfl⟩
    rw [show tokV t A1 n c1 = .agg C4 from by rw [hC4]]
    have HC4 := hide hC4
    have hz4 : C4.size = 36 := by rw [hC4]; exact tokC_size _ _ _ _ _
    have ho4' : oneAll C4 = true := by rw [hC4]; exact tokC_all _ _ _ _ _ _ _ _
    have hsp4 : splice tokZ 0 C4 = C4 := by rw [hC4]; exact tokC_splice0 _ _ _ _ _ _ (tokC_size _ _ _ _ _)
    have hs4 := b4.size
    have b5 : Below W3.heap.size W3 (w4.alloc (.cells C4 44)) := b4.alloc hs4 _
    have k5 := heap_alloc_new w4 (.cells C4 44)
    have k51 := (b5.block _ (by omega)).trans G1.out
    have hcx5 : (w4.alloc (.cells C4 44)).cell? ⟨w4.heap.size, 2, none⟩ = some (.slice A1 n c1) := (cell_of_row _ _ _ _ _ _ k5).trans (by rw [hC4]; exact tokC_2 _ _ _ _ _)
    have hg2 : C4[2]'(by rw [hz4]; decide) = .slice A1 n c1 := by
      have h3 : C4[2]? = some (.slice A1 n c1) := by rw [hC4]; exact tokC_2 _ _ _ _ _
      rw [Array.getElem?_eq_getElem (by rw [hz4]; decide)] at h3
      exact Option.some.inj h3
    have cf0 : (w4.alloc (.cells C4 44)).cell? ⟨w.heap.size + 1, 0, none⟩ = some (.bool x.third) := (cell_of_row _ _ _ _ _ _ k51).trans rfl
    have cf1 : (w4.alloc (.cells C4 44)).cell? ⟨w.heap.size + 1, 1, none⟩ = some (.string x.text) := (cell_of_row _ _ _ _ _ _ k51).trans rfl
    have cf2 : (w4.alloc (.cells C4 44)).cell? ⟨w.heap.size + 1, 2, none⟩ = some (.int .u64 (x.party : Int)) := (cell_of_row _ _ _ _ _ _ k51).trans rfl
    have cf3 : (w4.alloc (.cells C4 44)).cell? ⟨w.heap.size + 1, 3, none⟩ = some (.string x.id) := (cell_of_row _ _ _ _ _ _ k51).trans rfl
    have cf4 : (w4.alloc (.cells C4 44)).cell? ⟨w.heap.size + 1, 4, none⟩ = some (.string x.vault) := (cell_of_row _ _ _ _ _ _ k51).trans rfl
    have HO5 := hide ((ho4.below (below1 w4 (.cells C4 44))).below (below1 _ (.cells #[.bool x.third, .string x.text, .int .u64 (x.party : Int), .string x.id, .string x.vault] 83)))
    have HOL := hide (own_block_lt ho4)
    have HKX : Hid (kCav.K (fun k => False ∧ some k ≠ (Value.slice A1 n c1).ownBlock) ((w4.alloc (.cells C4 44)).alloc (.cells #[.bool x.third, .string x.text, .int .u64 (x.party : Int), .string x.id, .string x.vault] 83)) x x.cells) := hide ⟨rfl, by have := HX.out.1; simp only [maxLen]; omega, HX.out.2.1, by have := HX.out.2.2.1; simp only [maxLen]; omega, by have := HX.out.2.2.2; simp only [maxLen]; omega⟩
    have K5 := hide k5
    have B5 := hide b5
    clear hC4 ho4 b4 k5 k51 b5
    go_wp2_with (at_builtin; go_loud (refine wpList_app (d := kCav) (ok := fun _ => False) (base := W3.heap.size) (ys := [x]) rfl _ _ _ rfl Tryd.underlying42 cav_info rfl (by decide) 1 rfl rfl (.inl HO5.out) (Kd.Src.blk (d := kCav) (heap_new2 _ _ _) HKX.out rfl) ?_ ?_ ?_ ?_))
    · simp only [World.size_alloc]; omega
    · have := HL.out; have := HN.out; simp only [maxLen]; omega
    · have := HL.out; have := HN.out; omega
    intro v1 w6 _ h2 b6 f6 o6
    have hst : (.slice A1 n c1 : Value).ownBlock ≠ some w4.heap.size := fun e => by have := HOL.out _ e; omega
    obtain ⟨A2, c2, hvf⟩ := h2.form
    obtain ⟨n2, hn2⟩ : ∃ n2, (t.cavs ++ [x]).length = n2 := ⟨_, rfl⟩
    rw [hn2] at hvf
    subst hvf
    obtain ⟨G, hG⟩ : ∃ G, G = w4.heap.size := ⟨_, rfl⟩
    have hne : (.slice A2 n2 c2 : Value).ownBlock ≠ some G := by
      rcases o6 with e | ⟨j, e, hj⟩
      · rw [e, hG]; exact hst
      · rw [e]; intro e'; have := Option.some.inj e'; first | omega | (simp only [World.size_alloc] at hj; omega)
    have hs6 := b6.size
    (try simp only [World.size_alloc] at hs6)
    have k6 : w6.heap[G]? = some (.cells C4 44) := by
      rw [hG]
      exact (f6 _ (by first | omega | (simp only [World.size_alloc]; omega)) (fun e => hst e.symm)).trans ((Below.heap_alloc _ _ _ (by simp only [World.size_alloc]; omega)).trans K5.out)
    rw [← hs3] at b6 h2
    have ka : ∀ j, j < W3.heap.size → w6.heap[j]? = W3.heap[j]? := fun j hj => (b6.block j hj).trans ((Below.heap_alloc _ _ _ (by simp only [World.size_alloc]; omega)).trans (B5.out.block j hj))
    have k60 := (ka _ (by omega)).trans G0.out
    have k61 := (ka _ (by omega)).trans G1.out
    have k62 := (ka _ (by omega)).trans G2.out
    have hB6 : Below w.heap.size w w6 := HB3.out.trans (((B5.out.alloc (by simp only [World.size_alloc]; omega) _).trans b6).mono (by omega))
    obtain ⟨C6, hC6⟩ : ∃ C6, C6 = tokC (.int .u64 (t.key : Int)) (.string t.id) (.slice A2 n2 c2) (.bool t.bnd) t.tag := ⟨_, rfl⟩
    obtain ⟨W7, hW7⟩ : ∃ W7, W7 = w6.setRow G C6 := ⟨_, rfl⟩
    have hsc : w6.setCell ⟨G, 2, none⟩ (.slice A2 n2 c2) = W7 := by rw [setCell_eq_setRow w6 G 2 C4 _ _ _ k6, hW7, HC4.out, tokC_set2, hC6]
    have hcx : w6.cell? ⟨G, 2, none⟩ = some (.slice A1 n c1) := (cell_of_row w6 _ _ _ _ _ k6).trans (by rw [HC4.out]; exact tokC_2 _ _ _ _ _)
    have hfz := frozen_of_row w6 G 2 _ _ k6
    have hGw : w.heap.size + 3 ≤ G := by omega
    have k7 : W7.heap[G]? = some (.cells C6 44) := by rw [hW7]; exact setRow_heap w6 G C4 C6 44 _ k6
    have k70 : W7.heap[w.heap.size]? = some (.cells CT 44) := by rw [hW7, heap_setRow_far _ _ _ (by omega)]; exact k60
    have k71 : W7.heap[w.heap.size + 1]? = some (.cells #[.bool x.third, .string x.text, .int .u64 (x.party : Int), .string x.id, .string x.vault] 83) := by rw [hW7, heap_setRow_far _ _ _ (by omega)]; exact k61
    have k72 : W7.heap[w.heap.size + 2]? = some (.cells tokZ 44) := by rw [hW7, heap_setRow_far _ _ _ (by omega)]; exact k62
    have hagt : agg? W7 ⟨w.heap.size, 4, none⟩ 32 = some (tgC t.tag) := (agg_of_row k70 4 32 (by decide)).trans (by rw [HCT.out]; exact tokC_tag _ _ _ _ _)
    have d0 : (W7).cell? ⟨w.heap.size + 1, 0, none⟩ = some (.bool x.third) := (cell_of_row _ _ _ _ _ _ k71).trans rfl
    have d1 : (W7).cell? ⟨w.heap.size + 1, 1, none⟩ = some (.string x.text) := (cell_of_row _ _ _ _ _ _ k71).trans rfl
    have d2 : (W7).cell? ⟨w.heap.size + 1, 2, none⟩ = some (.int .u64 (x.party : Int)) := (cell_of_row _ _ _ _ _ _ k71).trans rfl
    have d3 : (W7).cell? ⟨w.heap.size + 1, 3, none⟩ = some (.string x.id) := (cell_of_row _ _ _ _ _ _ k71).trans rfl
    have d4 : (W7).cell? ⟨w.heap.size + 1, 4, none⟩ = some (.string x.vault) := (cell_of_row _ _ _ _ _ _ k71).trans rfl
    have HB7 : Hid (Below w.heap.size w W7) := hide (by rw [hW7]; exact bsetRow hB6 (by omega) _)
    have HR7 : Hid (kCav.Row (fun k => k ≠ G ∧ W3.heap.size ≤ k) W7 A2 n2 c2 (t.cavs ++ [x])) := hide (by
      obtain ⟨A', c', e, hr⟩ := h2.row
      rw [hn2] at e hr
      injection e with e1 _ e3
      subst e1 e3
      have hbl := h2.base_le
      exact (hr.keep (w' := W7) fun j hj _ => by
        rw [hW7, heap_setRow_far _ _ _ (fun e => by
          rcases hj with hj | hj
          · exact hj
          · exact hne (by rw [← hj, e]))]).more fun j hj => by
        rcases hj with hj | hj
        · exact hj.elim
        · exact ⟨fun e => hne (by rw [← hj, e]), (hbl j hj.symm).1⟩)
    have hs7 : W7.heap.size = w6.heap.size := by rw [hW7, size_setRow]
    have K7 := hide k7
    have K72 := hide k72
    have HG := hide hG
    have HC6 := hide hC6
    rw [hG] at hsc hcx hfz
    clear h2 b6 f6 o6 hst hne k6 ka k60 k61 k62 hB6 hW7 k7 k70 k71 k72 hG hC6 hcb hg3 hg2 hcx5 hag cf0 cf1 cf2 cf3 cf4
    go_wp2_with fail
    rw [← HG.out]
    refine (c_next t.tag x W7 HX.out (HP.out.ext HB7.out)).mono ?_
    rintro e w8 ⟨rfl, b8⟩
    obtain ⟨nt, hnt⟩ : ∃ nt, nextT t.tag x = nt := ⟨_, rfl⟩
    rw [hnt]
    have hs8 := b8.size
    have hl7 := (Array.getElem?_eq_some_iff.1 K7.out).1
    have j8 := (b8.block _ hl7).trans K7.out
    have j82 := (b8.block _ (by omega)).trans K72.out
    obtain ⟨C8, hC8⟩ : ∃ C8, C8 = tokA (more1 t x) A2 n2 c2 := ⟨_, rfl⟩
    obtain ⟨W9, hW9⟩ : ∃ W9, W9 = w8.setRow G C8 := ⟨_, rfl⟩
    have hr8 := row_of j8
    have hz6 : C6.size = 36 := by rw [HC6.out]; exact tokC_size _ _ _ _ _
    have hsp : splice C6 4 (tgC nt) = C8 := by rw [HC6.out, hC8, ← hnt]; exact tokC_splice _ _ _ _ _ _
    have hs9 := hW9.symm
    have k9 : W9.heap[G]? = some (.cells C8 44) := by rw [hW9]; exact setRow_heap w8 G C6 C8 44 _ j8
    have k92 : W9.heap[w.heap.size + 2]? = some (.cells tokZ 44) := by rw [hW9, heap_setRow_far _ _ _ (by omega)]; exact j82
    have hag9 : agg? W9 ⟨G, 0, none⟩ 36 = some C8 := (agg_of_row k9 0 36 (by decide)).trans (by rw [hC8]; exact tokC_part _ _ _ _ _)
    have HB9 : Hid (Below w.heap.size w W9) := hide (by rw [hW9]; exact bsetRow (HB7.out.trans (b8.mono (by omega))) (by omega) _)
    have HR9 : Hid (kCav.Row (fun k => k ≠ G ∧ W3.heap.size ≤ k) W9 A2 n2 c2 (more1 t x).cavs) := hide ((HR7.out.below b8).keep fun j hj _ => by rw [hW9, heap_setRow_far _ _ _ hj.1])
    have hsz9 : W9.heap.size = w8.heap.size := by rw [hW9, size_setRow]
    have K9 := hide k9
    have K92 := hide k92
    have HC8 := hide hC8
    clear hnt b8 j8 j82 hC8 hW9 k9 k92 hsc hcx hfz hagt d0 d1 d2 d3 d4 HG
    go_wp2_with fail
    rw [show Value.agg C8 = tokV (more1 t x) A2 n2 c2 from by rw [HC8.out]]
    refine (c_check (more1 t x) A2 n2 c2 _ W9 HR9.out).mono ?_
    rintro e w10 ⟨rfl, b10⟩
    rw [show tokV (more1 t x) A2 n2 c2 = .agg C8 from by rw [HC8.out]]
    have hl9 := (Array.getElem?_eq_some_iff.1 K9.out).1
    have hs10 := b10.size
    have m10 := (b10.block _ hl9).trans K9.out
    have m12 := (b10.block _ (by omega)).trans K92.out
    have hr10 := row_of m12
    have hag10 : agg? w10 ⟨G, 0, none⟩ 36 = some C8 := (agg_of_row m10 0 36 (by decide)).trans (by rw [HC8.out]; exact tokC_part _ _ _ _ _)
    have hz8 : C8.size = 36 := by rw [HC8.out]; exact tokC_size _ _ _ _ _
    have ho8 : oneAll C8 = true := by rw [HC8.out]; exact tokC_all _ _ _ _ _ _ _ _
    have hsp8 : splice tokZ 0 C8 = C8 := by rw [HC8.out]; exact tokC_splice0 _ _ _ _ _ _ (tokC_size _ _ _ _ _)
    have HB10 := hide (HB9.out.trans (b10.mono (by omega)))
    cases hck : checkT (more1 t x) with
    | true =>
      have HE1 : Hid (addR t x = more1 t x) := hide (by rw [HA1.out, if_pos hck])
      have HE2 : Hid (addE t x = 0) := hide (by rw [HA2.out, if_pos hck])
      obtain ⟨W11, hW11⟩ : ∃ W11, W11 = w10.setRow (w.heap.size + 2) C8 := ⟨_, rfl⟩
      have k11 : W11.heap[w.heap.size + 2]? = some (.cells C8 44) := by rw [hW11]; exact setRow_heap w10 (w.heap.size + 2) tokZ C8 44 _ m12
      have hag11 : agg? W11 ⟨w.heap.size + 2, 0, none⟩ 36 = some C8 := (agg_of_row k11 0 36 (by decide)).trans (by rw [HC8.out]; exact tokC_part _ _ _ _ _)
      have HB11 : Hid (Below w.heap.size w W11) := hide (by rw [hW11]; exact bsetRow HB10.out (Nat.le_add_right _ 2) _)
      have HR11 : Hid (kCav.Row (fun k => w.heap.size ≤ k) W11 A2 n2 c2 (more1 t x).cavs) := hide (((HR9.out.below b10).keep (w' := W11) fun j hj _ => by rw [hW11, heap_setRow_far _ _ _ (by have := hj.2; omega)]).more fun j hj => by have := hj.2; omega)
      have hs11 := hW11.symm
      clear hck b10 m10 m12 hW11 k11
      simp only [errV, if_true]
      go_wp2_with fail
      exact bodyPost_ret (v := .tuple #[.agg C8, .int .i64 0]) (by simp [results, Tryd.results59, go_sem, hag11]) rfl ⟨A2, n2, c2, by rw [HE1.out, HE2.out, HC8.out], by rw [HE1.out]; exact HR11.out, HB11.out⟩
    | false =>
      have HE1 : Hid (addR t x = Tok.zero) := hide (by rw [HA1.out, if_neg (by rw [hck]; decide)])
      have HE2 : Hid (addE t x = 1) := hide (by rw [HA2.out, if_neg (by rw [hck]; decide)])
      have hage : agg? (w10.setRow (w.heap.size + 2) tokZ) ⟨w.heap.size + 2, 0, none⟩ 36 = some tokZ := (agg_setRow_at _ _ _ _ _ (by rw [hr10]; rfl) (by decide)).trans (tokC_part _ _ _ _ _)
      have HBE := hide (bsetRow HB10.out (Nat.le_add_right w.heap.size 2) tokZ)
      clear hck b10 m10 m12
      simp only [errV, Bool.false_eq_true, if_false]
      go_wp2_with fail
      exact bodyPost_ret (v := .tuple #[.agg tokZ, .int .i64 1]) (by simp [results, Tryd.results59, go_sem, hage]) rfl ⟨none, 0, 0, by rw [HE1.out, HE2.out]; rfl, by rw [HE1.out]; exact .nil _ _ _ _ _ (Nat.zero_le _), HBE.out⟩
end Go.Proofs.YtdkeflhgengblaaDoor
namespace Go.Proofs.YtdkeflhgengblaaDoor
open Go.RowKit
attribute [local go_sem ↓] ld8 ld32 ld64 ld73
attribute [local go_sem] run_ldAgg run_storeAgg agg_alloc_at agg_alloc_past agg_drew agg_setCell row_alloc_at row_alloc_past row_drew setRow_alloc_at setRow_alloc_past setRow_drew agg_setRow_at agg_setRow_far cell_setRow_at cell_setRow_far row_setRow_far size_setRow s8C_size s8C_part s8C_one s8C_splice0 s8C_ne dgC_size dgC_72 dgC_part dgC_h dgC_r dgC_splice_h dgC_set dgC_one dgC_splice0 dgC_ne zero_dg
attribute [local go_sem] tgC_size tgC_one tgC_part tgC_splice tgC_splice_any zero_tg tgC_ne

theorem heap4 (w : World) (a b c d : Array Value) (T E : TypeId) : (((((w.alloc (.cells a T)).alloc (.cells b T)).alloc (.cells c E)).alloc (.cells d T)).heap[w.heap.size]? = some (.cells a T)) ∧ (((((w.alloc (.cells a T)).alloc (.cells b T)).alloc (.cells c E)).alloc (.cells d T)).heap[w.heap.size + 1]? = some (.cells b T)) ∧ (((((w.alloc (.cells a T)).alloc (.cells b T)).alloc (.cells c E)).alloc (.cells d T)).heap[w.heap.size + 3]? = some (.cells d T)) := by
  refine ⟨?_, ?_, ?_⟩
  · rw [Below.heap_alloc _ _ _ (by simp only [World.size_alloc]; omega), Below.heap_alloc _ _ _ (by simp only [World.size_alloc]; omega), Below.heap_alloc _ _ _ (by simp only [World.size_alloc]; omega)]; exact heap_alloc_new _ _
  · rw [Below.heap_alloc _ _ _ (by simp only [World.size_alloc]; omega), Below.heap_alloc _ _ _ (by simp only [World.size_alloc]; omega)]
    have := heap_alloc_new (w.alloc (.cells a T)) (.cells b T)
    rwa [World.size_alloc] at this
  · have := heap_alloc_new (((w.alloc (.cells a T)).alloc (.cells b T)).alloc (.cells c E)) (.cells d T)
    rwa [World.size_alloc, World.size_alloc, World.size_alloc] at this
/-- What the loop of the document's stream keeps. -/
def RsAt (w wr : World) (G : Nat) (key nonce : Tg) (i : Nat) (v : Value) : Prop :=
  kU8.Own (fun _ => False) (w.heap.size + 2) wr 5 v (strm key nonce i) ∧ v.ownBlock ≠ some G ∧ (∃ u : Tg, wr.heap[G]? = some (.cells (tgC u) 29) ∧ (i % 32 ≠ 0 → u = sKey key nonce (i / 32))) ∧
  wr.heap[w.heap.size]? = some (.cells (tgC key) 29) ∧ wr.heap[w.heap.size + 1]? = some (.cells (tgC nonce) 29) ∧ w.heap.size + 4 ≤ wr.heap.size ∧ Below w.heap.size w wr
theorem rs_next {w W6 w11 : World} {G : Nat} {key nonce t : Tg} {k : Nat} {v v11 c : Value} {T : TypeId} (hgs : w.heap.size + 3 = G) (htt : sKey key nonce (k / 32) = t)
    (hk : W6.heap[w.heap.size]? = some (.cells (tgC key) 29)) (hn : W6.heap[w.heap.size + 1]? = some (.cells (tgC nonce) 29)) (hg : W6.heap[G]? = some (.cells (tgC t) 29)) (hs : w.heap.size + 4 ≤ W6.heap.size) (hB : Below w.heap.size w W6)
    (hv : v.ownBlock ≠ some G) (ho : kU8.Own (fun _ => True) (w.heap.size + 2) w11 5 v11 (strm key nonce (k + 1))) (b11 : Below (w.heap.size + 2) (W6.alloc (.cells #[c] T)) w11)
    (f11 : ∀ j, j < W6.heap.size + 1 → ¬ some j = v.ownBlock → w11.heap[j]? = (W6.alloc (.cells #[c] T)).heap[j]?) (o11 : v11.ownBlock = v.ownBlock ∨ ∃ j, v11.ownBlock = some j ∧ W6.heap.size + 1 ≤ j) : RsAt w w11 G key nonce (k + 1) v11 := by
  have h7 : (W6.alloc (.cells #[c] T)).heap.size = W6.heap.size + 1 := World.size_alloc _ _
  have hb : ∀ j, j < w.heap.size + 2 → w11.heap[j]? = W6.heap[j]? := fun j hj => (b11.block j hj).trans (Below.heap_alloc _ _ _ (by omega))
  refine ⟨own8 ho, ?_, ⟨t, ?_, fun h => ?_⟩, (hb _ (by omega)).trans hk, (hb _ (by omega)).trans hn, ?_, ?_⟩
  · rcases o11 with e | ⟨j, e, hj⟩
    · rw [e]; exact hv
    · rw [e]; intro e'; have := Option.some.inj e'; omega
  · exact ((f11 G (by omega) (fun e => hv e.symm)).trans (Below.heap_alloc _ _ _ (by omega))).trans hg
  · rw [← htt]; congr 1; omega
  · have := b11.size; omega
  · exact (hB.alloc (by omega) _).trans (b11.mono (by omega))
set_option maxRecDepth 100000 in
set_option maxHeartbeats 800000 in
theorem c_rstream (key nonce : Tg) (z : Int) (n : Nat) (w : World) (hz : z.toNat = n) (hn : n < 1048576) :
    Calls Tryd.prog 39 #[tgV key, tgV nonce, .int .i64 z] w fun e w' => ∃ v, e = .returned v ∧ kU8.Own (fun _ => True) w.heap.size w' 5 v (strm key nonce n) ∧ Below w.heap.size w w' := by
  have HZ := hide hz
  clear hz
  obtain ⟨W1, hW1⟩ : ∃ W1, W1 = (((w.alloc (.cells (tgC key) 29)).alloc (.cells (tgC nonce) 29)).alloc (.cells #[] 5)).alloc (.cells (tgC Tg.zero) 29) := ⟨_, rfl⟩
  obtain ⟨g1, g2, g3⟩ := heap4 w (tgC key) (tgC nonce) #[] (tgC Tg.zero) 29 5
  rw [← hW1] at g1 g2 g3
  have hs1 : W1.heap.size = w.heap.size + 4 := by rw [hW1]; simp only [World.size_alloc]
  have hO : kU8.Own (fun _ => True) (w.heap.size + 2) W1 5 (.slice (some ⟨w.heap.size + 2, 0, none⟩) 0 0) [] := by
    have := bytes_lit ((w.alloc (.cells (tgC key) 29)).alloc (.cells (tgC nonce) 29)) [] #[] rfl 0 rfl (Nat.zero_le _)
    rw [World.size_alloc, World.size_alloc] at this
    rw [hW1]
    exact this.below (below1 _ _)
  have HR0 : Hid (RsAt w W1 (w.heap.size + 3) key nonce 0 (.slice (some ⟨w.heap.size + 2, 0, none⟩) 0 0)) := hide ⟨own8 hO, (fun e => by have := Option.some.inj (show some (w.heap.size + 2) = some (w.heap.size + 3) from e); omega), ⟨Tg.zero, g3, fun h => absurd rfl h⟩, g1, g2, by omega, by rw [hW1]; exact (below3 _ _ _ _).alloc (by simp only [World.size_alloc]; omega) _⟩
  clear g1 g2 g3 hO hs1
  go_enter Tryd.func39, Tryd.ntmps39
  go_wp2_with fail
  rw [← hW1]
  clear hW1
  obtain ⟨G, hG⟩ : ∃ G, G = w.heap.size + 1 + 1 + 1 := ⟨_, rfl⟩
  rw [← hG]
  rw [show w.heap.size + 3 = G from hG.symm] at HR0
  have hGs : w.heap.size + 3 = G := hG.symm
  have HGS := hide hGs
  clear hG hGs
  go_loopw [7, 9] (fun v i wr => ∃ (k : Nat), k ≤ n ∧ i = .int .i64 (k : Int) ∧ Hid (RsAt w wr G key nonce k v)) (fun _ i _ => n - (intOf i).toNat)
  case atStart => exact ⟨0, Nat.zero_le _, rfl, HR0⟩
  case round =>
    clear HR0
    obtain ⟨k, hk, rfl, HR⟩ := hrel
    obtain ⟨hO, hown, ⟨u, hu, hu2⟩, hkc, hnc, hsz, hB⟩ := HR.out
    obtain ⟨AV, cV, hvf⟩ := hO.form
    rw [strm_len] at hvf
    rw [hvf] at hO hown ⊢
    clear HR hvf
    by_cases hlt : k < n
    · have hzn : z = (n : Int) := by have := HZ.out; omega
      subst hzn
      have hrm : (k : Int).tmod 32 = ((k % 32 : Nat) : Int) := by rw [Int.tmod_eq_emod_of_nonneg (by omega)]; omega
      have hk63 : k < 1048576 := by omega
      obtain ⟨t, htt⟩ : ∃ t, t = sKey key nonce (k / 32) := ⟨_, rfl⟩
      obtain ⟨r, hr⟩ : ∃ r, r = k % 32 := ⟨_, rfl⟩
      have hr32 : r < 32 := by omega
      obtain ⟨x, hx⟩ : ∃ x, t.l[r]? = some x := ⟨_, List.getElem?_eq_getElem (by rw [t.len]; exact hr32)⟩
      have HX : Hid (strm key nonce k ++ [x] = strm key nonce (k + 1)) := hide (strm_next key nonce (by rw [← htt, ← hr]; exact hx))
      have HTT : Hid (sKey key nonce (k / 32) = t) := hide htt.symm
      have HXX := hide hx
      rw [← hr] at hrm
      have HO := hide hO
      have HOW := hide hown
      have HB := hide hB
      by_cases h0 : r = 0
      · subst h0
        have hq0 : ((k : Int).tmod 32 == 0) = true := by rw [hrm]; rfl
        have hqd : (k : Int).tdiv 32 = ((k / 32 : Nat) : Int) := by rw [Int.tdiv_eq_ediv_of_nonneg (by omega)]; omega
        have hag1 : agg? wr ⟨w.heap.size, 0, none⟩ 32 = some (tgC key) := (agg_of_row hkc 0 32 (by decide)).trans (tgC_part key)
        have hag2 : agg? wr ⟨w.heap.size + 1, 0, none⟩ 32 = some (tgC nonce) := (agg_of_row hnc 0 32 (by decide)).trans (tgC_part nonce)
        have HU := hide hu
        have HKC := hide hkc
        have HNC := hide hnc
        clear htt hr hx hO hown hB hu2 hu hkc hnc
        go_wp2_with fail
        rw [show ((k : Int) / 32) = ((k / 32 : Nat) : Int) by omega]
        refine (c_rblock key nonce (k / 32) wr (by omega)).mono ?_
        rintro e w5 ⟨rfl, b5⟩
        rw [HTT.out]
        have hu5 := (b5.block G (by have := HGS.out; omega)).trans HU.out
        have hrz := row_of hu5
        obtain ⟨W6, hW6⟩ : ∃ W6, W6 = w5.setRow G (tgC t) := ⟨_, rfl⟩
        have hgx : (tgC t)[0]? = some (bv x) := by rw [tgC_bl]; exact blC_at _ HXX.out
        have hgz : (tgC t)[0]'(by rw [tgC_size]; decide) = bv x := by
          rw [Array.getElem?_eq_getElem (by rw [tgC_size]; decide)] at hgx
          exact Option.some.inj hgx
        have HG6 : Hid (W6.heap[G]? = some (.cells (tgC t) 29)) := hide (by rw [hW6]; exact setRow_heap w5 G (tgC u) (tgC t) 29 _ hu5)
        have hs65 : W6.heap.size = w5.heap.size := by rw [hW6, size_setRow]
        have h56 : Below G w5 W6 := by rw [hW6]; exact bsetRow (Below.refl _ _) (Nat.le_refl _) _
        have h06 : Below w.heap.size w W6 := (HB.out.trans (b5.mono (by omega))).trans (h56.mono (by have := HGS.out; omega))
        have HS6 : Hid (w.heap.size + 4 ≤ W6.heap.size) := hide (by have := b5.size; have := h56.size; omega)
        have HK6 : Hid (W6.heap[w.heap.size]? = some (.cells (tgC key) 29)) := hide ((h56.block _ (by have := HGS.out; omega)).trans ((b5.block _ (by omega)).trans HKC.out))
        have HN6 : Hid (W6.heap[w.heap.size + 1]? = some (.cells (tgC nonce) 29)) := hide ((h56.block _ (by have := HGS.out; omega)).trans ((b5.block _ (by omega)).trans HNC.out))
        have HO6 : Hid (kU8.Own (fun _ => True) (w.heap.size + 2) W6 5 (.slice AV k cV) (strm key nonce k)) := hide (own8 (HO.out.keep fun j hj hj' => by
          by_cases hjg : j = G
          · subst hjg; exact absurd (hj'.resolve_left id).symm HOW.out
          · rw [hW6, heap_setRow_far _ _ _ hjg]; exact b5.block j hj))
        have HB6 := hide h06
        clear hu5 b5 hag1 hag2 h56 h06
        have HO8 : Hid (kU8.Own (fun _ => True) (w.heap.size + 2) (W6.alloc (.cells #[bv x] 5)) 5 (.slice AV k cV) (strm key nonce k)) := hide ((own8 HO6.out).below (below1 _ _))
        go_wp2_with (at_builtin; (try rw [← hW6, ← hs65]); go_loud (refine wpList_app (d := kU8) (ok := fun _ => True) (base := w.heap.size + 2) (ys := [x]) rfl _ _ _ rfl Tryd.underlying22 u8_info rfl (by decide) 1 rfl rfl (.inl HO8.out) (Kd.Src.new (d := kU8) (x := x) (cs := [bv x]) ⟨rfl, trivial⟩ _ rfl _ rfl) ?_ ?_ ?_ ?_))
        · have := HS6.out; simp only [World.size_alloc]; omega
        · rw [strm_len]; simp only [maxLen]; omega
        · rw [strm_len]; omega
        intro v11 w11 _ h11 b11 f11 o11
        rw [← hW6] at b11 f11
        rw [← hs65] at f11 o11
        rw [HX.out] at h11
        have HR11 := hide (rs_next HGS.out HTT.out HK6.out HN6.out HG6.out HS6.out HB6.out HOW.out h11 b11 f11 o11)
        clear h11 b11 f11 o11
        go_wp2_with fail
        go_roundw
        case rel => exact ⟨k + 1, hlt, by simp, HR11⟩
        case measure => simp [intOf]; omega
      · obtain rfl : u = t := by rw [htt]; exact hu2 (by rw [← hr]; exact h0)
        have hq0 : (((r : Nat) : Int) == 0) = false := by simp [h0]
        have HK6 := hide hkc
        have HN6 := hide hnc
        have HG6 := hide hu
        have HS6 := hide hsz
        have HB6 := hide hB
        have HO6 := HO
        have hgx : (tgC u)[r]? = some (bv x) := by rw [tgC_bl]; exact blC_at _ hx
        have hcx := (cell_of_row wr _ r _ _ _ hu).trans hgx
        clear htt hr hx hO hown hB hu2 hkc hnc
        have HO8 : Hid (kU8.Own (fun _ => True) (w.heap.size + 2) (wr.alloc (.cells #[bv x] 5)) 5 (.slice AV k cV) (strm key nonce k)) := hide ((own8 HO6.out).below (below1 _ _))
        go_wp2_with (at_builtin; go_loud (refine wpList_app (d := kU8) (ok := fun _ => True) (base := w.heap.size + 2) (ys := [x]) rfl _ _ _ rfl Tryd.underlying22 u8_info rfl (by decide) 1 rfl rfl (.inl HO8.out) (Kd.Src.new (d := kU8) (x := x) (cs := [bv x]) ⟨rfl, trivial⟩ _ rfl _ rfl) ?_ ?_ ?_ ?_))
        · have := HS6.out; simp only [World.size_alloc]; omega
        · rw [strm_len]; simp only [maxLen]; omega
        · rw [strm_len]; omega
        intro v11 w11 _ h11 b11 f11 o11
        rw [HX.out] at h11
        have HR11 := hide (rs_next HGS.out HTT.out HK6.out HN6.out HG6.out HS6.out HB6.out HOW.out h11 b11 f11 o11)
        clear h11 b11 f11 o11
        go_wp2_with fail
        go_roundw
        case rel => exact ⟨k + 1, hlt, by simp, HR11⟩
        case measure => simp [intOf]; omega
    · obtain rfl : k = n := by omega
      have hnl : ¬ (k : Int) < z := by have := HZ.out; omega
      have HV1 := hide ((own8 (ok' := fun _ => True) hO).lower (base' := w.heap.size) (by omega))
      have HB0 := hide hB
      clear hO hown hB hu2 hu hkc hnc
      go_wp2_with fail
      go_ret
      exact ⟨_, rfl, HV1.out, HB0.out⟩
end Go.Proofs.YtdkeflhgengblaaDoor
namespace Go.Proofs.YtdkeflhgengblaaDoor
open Go.RowKit
variable {base g n cap i : Nat} {w : World} {E : TypeId} {v : Value} {xs : List UInt8} {ok : Nat → Prop}
theorem own8_open (h : kU8.Own ok base w E v xs) (hn : 0 < xs.length) : ∃ g cap cur, v = .slice (some ⟨g, 0, none⟩) xs.length cap ∧ base ≤ g ∧ w.heap[g]? = some (.cells cur E (0, 0)) ∧ xs.length ≤ cap ∧ cap ≤ maxLen ∧ ∀ (i : Nat) (x : UInt8), xs[i]? = some x → cur[i]? = some (bv x) := by
  obtain ⟨css, he, ho⟩ := h
  rw [els8 he] at ho
  rcases ho.2 with ⟨_, h0⟩ | ⟨g, cap, cur, e, hb, hg, hnc, hm, hs, ht⟩
  · omega
  · refine ⟨g, cap, cur, e, hb, hg, hnc, hm, fun i x hx => ?_⟩
    have hi : i < xs.length := (List.getElem?_eq_some_iff.1 hx).1
    have h1 : (cur.toList.take (xs.length * kU8.sz))[i]? = some (bv x) := by rw [ht, List.getElem?_map, hx]; rfl
    rw [List.getElem?_take] at h1
    split at h1
    · rwa [Array.getElem?_toList] at h1
    · cases h1
theorem flat_bv (l : List UInt8) : (l.map fun x => [bv x]).flatten = l.map bv := by
  induction l <;> simp_all
theorem own8_set (h : kU8.Own ok base w E (.slice (some ⟨g, 0, none⟩) n cap) xs) (y : UInt8) : kU8.Own ok base (w.setCell ⟨g, i, none⟩ (bv y)) E (.slice (some ⟨g, 0, none⟩) n cap) (xs.set i y) := by
  obtain ⟨css, he, ho⟩ := h
  rw [els8 he] at ho
  rcases ho.2 with ⟨e, _⟩ | ⟨g', cap', cur, e, hb, hg, hnc, hm, hs, ht⟩
  · cases e
  · cases e
    refine ⟨(xs.set i y).map fun x => [bv x], ⟨by simp, fun j x cs hx hc => ?_⟩, ?_⟩
    · rw [List.getElem?_map, hx] at hc
      exact ⟨(Option.some.inj hc).symm, trivial⟩
    · rw [flat_bv]
      refine ⟨by simp [kU8, Kd.cell], .inr ⟨g, cap, cur.setIfInBounds i (bv y), by rw [List.length_set], hb, heap_setCell_at _ hg, by rw [List.length_set]; exact hnc, hm, by rw [Array.size_setIfInBounds]; exact hs, ?_⟩⟩
      rw [List.length_set, Array.toList_setIfInBounds, List.take_set, ht, List.map_set]
/-- The first k of one list, the others of another one. -/
def mix (A B : List UInt8) (k : Nat) : List UInt8 := A.take k ++ B.drop k
section
variable {A B : List UInt8} {k : Nat} {a : UInt8}
theorem mix_start : mix A B 0 = B := rfl
theorem mix_end (h : A.length = B.length) (hk : k = A.length) : mix A B k = A := by
  rw [mix, List.drop_eq_nil_of_le (by omega), List.append_nil, List.take_of_length_le (by omega)]
theorem mix_len (h : A.length = B.length) : (mix A B k).length = A.length := by
  simp only [mix, List.length_append, List.length_take, List.length_drop]; omega
theorem mix_at (h : A.length = B.length) (hk : k ≤ A.length) : (mix A B k)[k]? = B[k]? := by
  rw [mix, List.getElem?_append_right (by rw [List.length_take]; omega), List.getElem?_drop]
  congr 1
  rw [List.length_take]; omega
theorem mix_set (h : A.length = B.length) (ha : A[k]? = some a) : (mix A B k).set k a = mix A B (k + 1) := by
  have hk : k < A.length := (List.getElem?_eq_some_iff.1 ha).1
  apply List.ext_getElem?
  intro j
  rw [List.getElem?_set, mix_len h]
  by_cases hj : k = j
  · subst hj
    rw [if_pos rfl, if_pos hk, mix, List.getElem?_append_left (by rw [List.length_take]; omega), List.getElem?_take, if_pos (Nat.lt_succ_self _), ha]
  · rw [if_neg hj, mix, mix]
    rcases Nat.lt_or_ge j k with h2 | h2
    · rw [List.getElem?_append_left (by rw [List.length_take]; omega), List.getElem?_append_left (by rw [List.length_take]; omega), List.getElem?_take, List.getElem?_take, if_pos h2, if_pos (by omega)]
    · rw [List.getElem?_append_right (by rw [List.length_take]; omega), List.getElem?_append_right (by rw [List.length_take]; omega), List.getElem?_drop, List.getElem?_drop]
      congr 1
      simp only [List.length_take]; omega
end
end Go.Proofs.YtdkeflhgengblaaDoor
namespace Go.Proofs.YtdkeflhgengblaaDoor
open Go.RowKit
attribute [local go_sem ↓] ld8 ld32 ld64 ld73
attribute [local go_sem] run_ldAgg run_storeAgg agg_alloc_at agg_alloc_past agg_drew agg_setCell row_alloc_at row_alloc_past row_drew setRow_alloc_at setRow_alloc_past setRow_drew agg_setRow_at agg_setRow_far cell_setRow_at cell_setRow_far row_setRow_far size_setRow s8C_size s8C_part s8C_one s8C_splice0 s8C_ne dgC_size dgC_72 dgC_part dgC_h dgC_r dgC_splice_h dgC_set dgC_one dgC_splice0 dgC_ne zero_dg
attribute [local go_sem] tgC_size tgC_one tgC_part tgC_splice tgC_splice_any zero_tg tgC_ne

theorem str_byte {P : Program} {T : TypeId} (h : P.underlying T = some .string) {s : List UInt8} {k : Nat} {y : UInt8} (hy : s[k]? = some y) (kd : IntKind) : ∀ W : World, (Instr.index T (.string (txt s)) (.int kd (k : Int))).run P W = .ok (bv y) W := fun W => by
  have hk : k < s.length := (List.getElem?_eq_some_iff.1 hy).1
  have hi : 0 ≤ (k : Int) ∧ (k : Int) < ((txt s).size : Int) := by rw [txt_size]; omega
  rw [run_index_string W T (txt s) kd k h, dif_pos hi]
  have : (txt s)[(k : Int).toNat]'(by rw [txt_size]; omega) = y := by
    rw [List.getElem?_eq_getElem hk] at hy
    exact Option.some.inj hy
  rw [this]
theorem idx_k {P : Program} {T E : TypeId} (hT : P.underlying T = some (.slice E)) (hE : (P.info? E).map (·.size) = some 1) (g n c k : Nat) (hk : k < n) : ∀ wx : World, (Instr.indexAt T (.slice (some ⟨g, 0, none⟩) n c) (.int .i64 (k : Int))).run P wx = .ok (.pointer (some ⟨g, k, none⟩)) wx := fun wx => by
  cases hq : P.info? E with
  | none => rw [hq] at hE; cases hE
  | some x =>
    rw [hq] at hE
    have : x.size = 1 := by simpa using hE
    simp [Instr.indexAt, asIntOf, run_underlying hT, sizeOf, typeInfo, hq, this, hk, Addr.add]
    omega
set_option maxRecDepth 100000 in
set_option maxHeartbeats 800000 in
theorem c_sturned (key nonce : Tg) (s : List UInt8) (w : World) (hn : s.length < 1048576) (hP : PrimesAt w) :
    Calls Tryd.prog 80 #[tgV key, tgV nonce, .string (txt s)] w fun e w' => e = .returned (.string (txt (turnd key nonce s))) ∧ Below w.heap.size w w' := by
  have HP := hide hP
  have hw0 := hP.1
  obtain ⟨n, hnn⟩ : ∃ n, n = s.length := ⟨_, rfl⟩
  have hsz : (txt s).size = n := by rw [txt_size, hnn]
  have HN : Hid (s.length = n) := hide hnn.symm
  have HB1 : Hid (Below w.heap.size w ((w.alloc (.cells (tgC key) 29)).alloc (.cells (tgC nonce) 29))) := hide (below2 _ _ _)
  rw [← hnn] at hn
  clear hP hnn
  go_enter Tryd.func80, Tryd.ntmps80
  go_wp2_with fail
  refine (c_stream key nonce _ n _ (by simp) hn (HP.out.ext HB1.out)).mono ?_
  rintro e w5 ⟨v5, rfl, h5, b5⟩
  obtain ⟨A, hA⟩ : ∃ A, A = turnd key nonce s := ⟨_, rfl⟩
  obtain ⟨B, hBB⟩ : ∃ B, B = strm key nonce n := ⟨_, rfl⟩
  have hlA : A.length = n := by rw [hA, turnd_len, HN.out]
  have hlB : B.length = n := by rw [hBB, strm_len]
  have HAZ : Hid (A = List.zipWith (· ^^^ ·) B s) := hide (by rw [hA, hBB, turnd, HN.out])
  obtain ⟨AV, cV, hvf⟩ := h5.form
  rw [strm_len] at hvf
  rw [hvf] at h5 ⊢
  have HV0 : Hid (kU8.Own (fun _ => True) (w.heap.size + 2) w5 5 (.slice AV n cV) (mix A B 0)) := hide (by
    rw [mix_start, hBB]; simp only [World.size_alloc] at h5; exact h5)
  have HB5 : Hid (Below (w.heap.size + 2) w5 w5) := hide (Below.refl _ _)
  have HB0 : Hid (Below w.heap.size w w5) := hide (bnext HB1.out b5)
  have hw5 : w.heap.size + 2 ≤ w5.heap.size := by have := b5.size; simpa only [World.size_alloc] using this
  have HA := hide hA
  have HLA := hide hlA
  have HLB := hide hlB
  clear hA hBB hlA hlB hvf h5 b5
  go_wp2_with fail
  go_loopw [16] (fun i wr => ∃ (k : Nat), k ≤ n ∧ i = .int .i64 (k : Int) ∧ Hid (kU8.Own (fun _ => True) (w.heap.size + 2) wr 5 (.slice AV n cV) (mix A B k)) ∧ Hid (Below (w.heap.size + 2) w5 wr)) (fun i _ => n - (intOf i).toNat)
  case atStart => exact ⟨0, Nat.zero_le _, rfl, HV0, HB5⟩
  case round =>
    clear HV0 HB5
    obtain ⟨k, hk, rfl, HV, HB⟩ := hrel
    by_cases hlt : k < n
    · obtain ⟨b, hb⟩ : ∃ b, B[k]? = some b := ⟨_, List.getElem?_eq_getElem (by rw [HLB.out]; exact hlt)⟩
      obtain ⟨y, hy⟩ : ∃ y, s[k]? = some y := ⟨_, List.getElem?_eq_getElem (by rw [HN.out]; exact hlt)⟩
      obtain ⟨a, ha⟩ : ∃ a, a = b ^^^ y := ⟨_, rfl⟩
      have hAa : A[k]? = some a := by rw [HAZ.out, List.getElem?_zipWith, hb, hy, ha]
      have hml : (mix A B k).length = n := by rw [mix_len (HLA.out.trans HLB.out.symm), HLA.out]
      obtain ⟨g, cap, cur, e, hbg, hg, hnc, hm, hcu⟩ := own8_open HV.out (by omega)
      rw [hml] at e hnc
      injection e with e1 _ e3
      subst e1 e3
      have HSX := hide (str_byte (P := Tryd.prog) Tryd.underlying9 hy .i64)
      have HCB : Hid (cur[k]? = some (bv b)) := hide (hcu k b ((mix_at (HLA.out.trans HLB.out.symm) (by rw [HLA.out]; exact hk)).trans hb))
      have HIX := hide (idx_k (P := Tryd.prog) Tryd.underlying22 u8_info1 g n cV k hlt)
      have HXY : Hid (bits .xor .u8 (b.toNat : Int) (y.toNat : Int) = (a.toNat : Int)) := hide (by rw [ha]; exact b_xor b y)
      have HG := hide hg
      have HV1 : Hid (∀ w8, Below wr.heap.size wr w8 → kU8.Own (fun _ => True) (w.heap.size + 2) (w8.setCell ⟨g, k, none⟩ (bv a)) 5 (.slice (some ⟨g, 0, none⟩) n cV) (mix A B (k + 1))) := hide (fun w8 h8 => by
        rw [← mix_set (HLA.out.trans HLB.out.symm) hAa]
        exact own8_set (HV.out.below h8) a)
      have HBG : Hid (w.heap.size + 2 ≤ g) := hide hbg
      have HWR := hide (Nat.le_trans hw5 HB.out.size)
      clear hb hy ha hAa hml hcu hg hbg hm hnc
      go_wp2_with fail
      refine wp_region_ext mixed 9 (fun i v w' => match i with
        | 0 => v = .slice (some ⟨g, 0, none⟩) n cV
        | 1 => v = .int .i64 (k : Int)
        | 2 => v = .pointer (some ⟨g, k, none⟩)
        | 3 => v = bv b
        | 4 => v = .string (txt s)
        | 5 => v = .int .i64 (k : Int)
        | 6 => v = bv y
        | 7 => v = bv a
        | _ => v = .pointer (some ⟨g, k, none⟩)
        ) (regOk_of (by kernel_rfl)) rfl ?_ ?_ ?_
      · intro i v w1 w2 h1 h2
        split at h2 <;> exact h2
      · refine ⟨fun a w2 hle hd hf hs K hK => ?_, fun a w2 hle hd hf hs K hK => ?_, fun a w2 hle hd hf hs K hK => ?_, fun a w2 hle hd hf hs K hK => ?_, fun a w2 hle hd hf hs K hK => ?_, fun a w2 hle hd hf hs K hK => ?_, fun a w2 hle hd hf hs K hK => ?_, fun a w2 hle hd hf hs K hK => ?_, fun a w2 hle hd hf hs K hK => ?_, trivial⟩
        all_goals clear hd
        · -- 19 := Op.move t7
          have e7 := hf 7 rfl; simp [Act.eval] at e7
          go_simp; exact hK _ _ (Ext.refl _) rfl
        · -- 20 := Op.move t8
          have e8 := hf 8 rfl; simp [Act.eval] at e8
          go_simp; exact hK _ _ (Ext.refl _) rfl
        · -- 21 := Op.indexAddr 22 t19 t20
          have e19 := hs 0 19 (needs_direct (by kernel_rfl)) rfl; have e20 := hs 1 20 (needs_direct (by kernel_rfl)) rfl; simp [Act.eval] at e19 e20
          have hix := HIX.out
          go_simp; exact hK _ _ (Ext.refl _) rfl
        · -- 22 := Op.load 5 t21
          have e21 := hs 2 21 (needs_direct (by kernel_rfl)) rfl; simp [Act.eval] at e21
          have hcx := (cell_of_row w2 g k _ _ _ (hle.heap HG.out)).trans HCB.out
          go_simp; exact hK _ _ (Ext.refl _) rfl
        · -- 23 := Op.move t2
          have e2 := hf 2 rfl; simp [Act.eval] at e2
          go_simp; exact hK _ _ (Ext.refl _) rfl
        · -- 24 := Op.move t8
          have e8 := hf 8 rfl; simp [Act.eval] at e8
          go_simp; exact hK _ _ (Ext.refl _) rfl
        · -- 25 := Op.index 9 t23 t24
          have e23 := hs 4 23 (needs_direct (by kernel_rfl)) rfl; have e24 := hs 5 24 (needs_direct (by kernel_rfl)) rfl; simp [Act.eval] at e23 e24
          have hsx := HSX.out
          go_simp; exact hK _ _ (Ext.refl _) rfl
        · -- 26 := Op.binOp BinOp.xor 5 t22 t25 5
          have e22 := hs 3 22 (needs_direct (by kernel_rfl)) rfl; have e25 := hs 6 25 (needs_direct (by kernel_rfl)) rfl; simp [Act.eval] at e22 e25
          have hxx := HXY.out
          go_simp; exact hK _ _ (Ext.refl _) rfl
        · -- 27 := Op.indexAddr 22 t19 t20
          have e19 := hs 0 19 (needs_direct (by kernel_rfl)) rfl; have e20 := hs 1 20 (needs_direct (by kernel_rfl)) rfl; simp [Act.eval] at e19 e20
          have hix := HIX.out
          go_simp; exact hK _ _ (Ext.refl _) rfl
      intro vs w8 hle hs
      have v7 := hs 7 (by omega) rfl
      have v8 := hs 8 (by omega) rfl
      simp only at v7 v8
      clear hs
      have hg8 := hle.heap HG.out
      have hfz := frozen_of_row w8 g k _ _ hg8
      have hcx := (cell_of_row w8 g k _ _ _ hg8).trans HCB.out
      have HV2 := hide (HV1.out w8 hle)
      have HB2 := hide (bsetCell (HB.out.trans (hle.mono HWR.out)) HBG.out k (bv a))
      clear hg8 hle
      simp only [putN, dstAt]
      go_simp
      go_wp2_with fail
      go_roundw
      case rel => exact ⟨k + 1, hlt, by simp, HV2, HB2⟩
      case measure => simp [intOf]; omega
    · obtain rfl : k = n := by omega
      obtain ⟨A2, c2, e2, hr2⟩ := own_row HV.out
      have hme := mix_end (A := A) (B := B) (k := k) (HLA.out.trans HLB.out.symm) HLA.out.symm
      rw [hme, HA.out] at hr2
      rw [mix_len (HLA.out.trans HLB.out.symm), HLA.out] at e2
      rw [turnd_len, HN.out] at hr2
      injection e2 with e1 _ e3
      subst e1 e3
      have hst := row_string (P := Tryd.prog) Tryd.underlying22 Tryd.underlying5 Tryd.underlying9 hr2
      have HBE := hide (HB0.out.trans (HB.out.mono (by omega)))
      clear hr2 hme
      go_wp2_with fail
      go_ret
      exact ⟨rfl, HBE.out⟩
end Go.Proofs.YtdkeflhgengblaaDoor
namespace Go.Proofs.YtdkeflhgengblaaDoor
open Go.RowKit
attribute [local go_sem ↓] ld8 ld32 ld64 ld73
attribute [local go_sem] run_ldAgg run_storeAgg agg_alloc_at agg_alloc_past agg_drew agg_setCell row_alloc_at row_alloc_past row_drew setRow_alloc_at setRow_alloc_past setRow_drew agg_setRow_at agg_setRow_far cell_setRow_at cell_setRow_far row_setRow_far size_setRow s8C_size s8C_part s8C_one s8C_splice0 s8C_ne dgC_size dgC_72 dgC_part dgC_h dgC_r dgC_splice_h dgC_set dgC_one dgC_splice0 dgC_ne zero_dg
attribute [local go_sem] tgC_size tgC_one tgC_part tgC_splice tgC_splice_any zero_tg tgC_ne

theorem turnd_at {key nonce : Tg} {s : List UInt8} {k : Nat} {b y : UInt8} (hb : (strm key nonce s.length)[k]? = some b) (hy : s[k]? = some y) : (turnd key nonce s).take k ++ [y ^^^ b] = (turnd key nonce s).take (k + 1) := by
  rw [List.take_add_one, turnd, List.getElem?_zipWith, hb, hy]
  simp only [Option.toList, UInt8.xor_comm]
set_option maxRecDepth 100000 in
set_option maxHeartbeats 800000 in
theorem c_rsturned (key nonce : Tg) (s : List UInt8) (w : World) (hn : s.length < 1048576) :
    Calls Tryd.prog 81 #[tgV key, tgV nonce, .string (txt s)] w fun e w' => e = .returned (.string (txt (turnd key nonce s))) ∧ Below w.heap.size w w' := by
  obtain ⟨n, hnn⟩ : ∃ n, n = s.length := ⟨_, rfl⟩
  have hsz : (txt s).size = n := by rw [txt_size, hnn]
  have HN : Hid (s.length = n) := hide hnn.symm
  have HB1 : Hid (Below w.heap.size w ((w.alloc (.cells (tgC key) 29)).alloc (.cells (tgC nonce) 29))) := hide (below2 _ _ _)
  rw [← hnn] at hn
  clear hnn
  go_enter Tryd.func81, Tryd.ntmps81
  go_wp2_with fail
  refine (c_rstream key nonce _ n _ (by simp) hn).mono ?_
  rintro e w5 ⟨v5, rfl, h5, b5⟩
  obtain ⟨AV, cV, e5, hr5⟩ := own_row h5
  rw [strm_len] at e5 hr5
  rw [e5]
  have HR5 := hide hr5
  have HV0 : Hid (kU8.Own (fun _ => True) w5.heap.size (w5.alloc (.cells #[] 5)) 5 (.slice (some ⟨w5.heap.size, 0, none⟩) 0 0) ((turnd key nonce s).take 0)) := hide (bytes_lit w5 [] #[] rfl 0 rfl (Nat.zero_le _))
  have HB5 : Hid (Below w5.heap.size w5 (w5.alloc (.cells #[] 5))) := hide (below1 _ _)
  have HB0 : Hid (Below w.heap.size w w5) := hide (bnext HB1.out b5)
  have hw5 : w.heap.size ≤ w5.heap.size := HB0.out.size
  clear e5 h5 b5 hr5
  go_wp2_with fail
  go_loopw [8, 9] (fun v i wr => ∃ (k : Nat), k ≤ n ∧ i = .int .i64 (k : Int) ∧ Hid (kU8.Own (fun _ => True) w5.heap.size wr 5 v ((turnd key nonce s).take k)) ∧ Hid (Below w5.heap.size w5 wr)) (fun _ i _ => n - (intOf i).toNat)
  case atStart => exact ⟨0, Nat.zero_le _, rfl, HV0, HB5⟩
  case round =>
    clear HV0 HB5
    obtain ⟨k, hk, rfl, HV, HB⟩ := hrel
    have hlk : ((turnd key nonce s).take k).length = k := by rw [List.length_take, turnd_len, HN.out]; omega
    obtain ⟨AO, cO, hvf⟩ := HV.out.form
    rw [hlk] at hvf
    rw [hvf] at HV ⊢
    have HLK := hide hlk
    clear hvf hlk
    by_cases hlt : k < n
    · obtain ⟨b, hb⟩ : ∃ b, (strm key nonce n)[k]? = some b := ⟨_, List.getElem?_eq_getElem (by rw [strm_len]; exact hlt)⟩
      obtain ⟨y, hy⟩ : ∃ y, s[k]? = some y := ⟨_, List.getElem?_eq_getElem (by rw [HN.out]; exact hlt)⟩
      obtain ⟨x1, ha⟩ : ∃ a, a = y ^^^ b := ⟨_, rfl⟩
      have HST : Hid ((turnd key nonce s).take k ++ [x1] = (turnd key nonce s).take (k + 1)) := hide (by rw [ha]; exact turnd_at (by rw [HN.out]; exact hb) hy)
      have HSX := hide (str_byte (P := Tryd.prog) Tryd.underlying9 hy .i64)
      obtain ⟨p, o, hip, hcp, hpb⟩ := row_byte (HR5.out.below HB.out) hb
      have HIX := hide hip
      have HCB := hide hcp
      have HPB := hide hpb
      have HXY : Hid (bits .xor .u8 (y.toNat : Int) (b.toNat : Int) = (x1.toNat : Int)) := hide (by rw [ha]; exact b_xor y b)
      have HWR := hide HB.out.size
      clear hb hy ha hip hcp hpb
      go_wp2_with fail
      refine wp_region_ext mixed 10 (fun i v w' => match i with
        | 0 => v = .slice AO k cO
        | 1 => v = .string (txt s)
        | 2 => v = .int .i64 (k : Int)
        | 3 => v = bv y
        | 4 => v = .slice AV n cV
        | 5 => v = .int .i64 (k : Int)
        | 6 => v = .pointer (some ⟨p, o, none⟩)
        | 7 => v = bv b
        | 8 => v = bv x1
        | _ => ∃ A c, v = .slice A 1 c ∧ kU8.Row (fun _ => True) w' A 1 c [x1]
        ) (regOk_of (by kernel_rfl)) rfl ?_ ?_ ?_
      · intro i v w1 w2 h1 h2
        split at h2 <;> first | exact h2 | (obtain ⟨A, c, e, hr⟩ := h2; exact ⟨A, c, e, hr.below h1⟩)
      · refine ⟨fun a w2 hle hd hf hs K hK => ?_, fun a w2 hle hd hf hs K hK => ?_, fun a w2 hle hd hf hs K hK => ?_, fun a w2 hle hd hf hs K hK => ?_, fun a w2 hle hd hf hs K hK => ?_, fun a w2 hle hd hf hs K hK => ?_, fun a w2 hle hd hf hs K hK => ?_, fun a w2 hle hd hf hs K hK => ?_, fun a w2 hle hd hf hs K hK => ?_, fun a w2 hle hd hf hs K hK => ?_, trivial⟩
        all_goals clear hd
        · -- 22 := Op.move t8
          have e8 := hf 8 rfl; simp [Act.eval] at e8
          go_simp; exact hK _ _ (Ext.refl _) rfl
        · -- 23 := Op.move t2
          have e2 := hf 2 rfl; simp [Act.eval] at e2
          go_simp; exact hK _ _ (Ext.refl _) rfl
        · -- 24 := Op.move t9
          have e9 := hf 9 rfl; simp [Act.eval] at e9
          go_simp; exact hK _ _ (Ext.refl _) rfl
        · -- 25 := Op.index 9 t23 t24
          have e23 := hs 1 23 (needs_direct (by kernel_rfl)) rfl; have e24 := hs 2 24 (needs_direct (by kernel_rfl)) rfl; simp [Act.eval] at e23 e24
          have hsx := HSX.out
          go_simp; exact hK _ _ (Ext.refl _) rfl
        · -- 26 := Op.move t7
          have e7 := hf 7 rfl; simp [Act.eval] at e7
          go_simp; exact hK _ _ (Ext.refl _) rfl
        · -- 27 := Op.move t9
          have e9 := hf 9 rfl; simp [Act.eval] at e9
          go_simp; exact hK _ _ (Ext.refl _) rfl
        · -- 28 := Op.indexAddr 22 t26 t27
          have e26 := hs 4 26 (needs_direct (by kernel_rfl)) rfl; have e27 := hs 5 27 (needs_direct (by kernel_rfl)) rfl; simp [Act.eval] at e26 e27
          have hix := HIX.out
          go_simp; exact hK _ _ (Ext.refl _) rfl
        · -- 29 := Op.load 5 t28
          have e28 := hs 6 28 (needs_direct (by kernel_rfl)) rfl; simp [Act.eval] at e28
          have hcx := (World.cell?_of_block (a := ⟨p, o, none⟩) (hle.block _ HPB.out)).trans HCB.out
          go_simp; exact hK _ _ (Ext.refl _) rfl
        · -- 30 := Op.binOp BinOp.xor 5 t25 t29 5
          have e25 := hs 3 25 (needs_direct (by kernel_rfl)) rfl; have e29 := hs 7 29 (needs_direct (by kernel_rfl)) rfl; simp [Act.eval] at e25 e29
          have hxx := HXY.out
          go_simp; exact hK _ _ (Ext.refl _) rfl
        · -- 31 := Op.buildSlice 22 1 #[(0, t30)]
          have e30 := hs 8 30 (needs_direct (by kernel_rfl)) rfl; simp [Act.eval] at e30
          go_simp
          exact hK _ _ (Ext.alloc _ _) (by
            obtain ⟨A1, c1, e1, hr1⟩ := own_row (bytes_lit w2 [x1] #[bv x1] rfl 1 rfl (by decide))
            exact ⟨A1, c1, e1, hr1.more fun _ _ => trivial⟩)
      intro vs w8 hle hs
      have v0 := hs 0 (by omega) rfl
      have v9 := hs 9 (by omega) rfl
      simp only at v0 v9
      clear hs
      obtain ⟨A9, c9, e9, hr9⟩ := v9
      have HV8 := hide (HV.out.below hle)
      have HR9 := hide hr9
      have HB8 := hide (HB.out.trans (hle.mono HWR.out))
      have hw8 : w5.heap.size ≤ w8.heap.size := HB8.out.size
      clear hr9 hle
      simp only [putN, dstAt]
      go_simp
      go_wp2_with (at_builtin; go_loud (refine wpList_app (d := kU8) (ok := fun _ => True) (base := w5.heap.size) (ys := [x1]) rfl _ _ _ rfl Tryd.underlying22 u8_info rfl (by decide) c9 rfl rfl (.inl HV8.out) (src8 HR9.out.src) ?_ ?_ ?_ ?_))
      · exact hw8
      · rw [HLK.out]; simp only [maxLen]; omega
      · rw [HLK.out]; omega
      intro v11 w11 _ h11 b11 _ _
      rw [HST.out] at h11
      have HV11 := hide h11
      have HB11 := hide (HB8.out.trans b11)
      clear h11 b11
      go_wp2_with fail
      go_roundw
      case rel => exact ⟨k + 1, hlt, by simp, HV11, HB11⟩
      case measure => simp [intOf]; omega
    · obtain rfl : k = n := by omega
      obtain ⟨A2, c2, e2, hr2⟩ := own_row HV.out
      rw [HLK.out] at e2 hr2
      injection e2 with e1 _ e3
      subst e1 e3
      rw [List.take_of_length_le (by rw [turnd_len, HN.out]; exact Nat.le_refl _)] at hr2
      have hst := row_string (P := Tryd.prog) Tryd.underlying22 Tryd.underlying5 Tryd.underlying9 hr2
      have HBE := hide (HB0.out.trans (HB.out.mono (by omega)))
      clear hr2
      go_wp2_with fail
      go_ret
      exact ⟨rfl, HBE.out⟩
end Go.Proofs.YtdkeflhgengblaaDoor
namespace Go.Proofs.YtdkeflhgengblaaDoor
open Go.RowKit
attribute [local go_sem ↓] ld8 ld32 ld64 ld73
attribute [local go_sem] run_ldAgg run_storeAgg agg_alloc_at agg_alloc_past agg_drew agg_setCell row_alloc_at row_alloc_past row_drew setRow_alloc_at setRow_alloc_past setRow_drew agg_setRow_at agg_setRow_far cell_setRow_at cell_setRow_far row_setRow_far size_setRow s8C_size s8C_part s8C_one s8C_splice0 s8C_ne dgC_size dgC_72 dgC_part dgC_h dgC_r dgC_splice_h dgC_set dgC_one dgC_splice0 dgC_ne zero_dg
attribute [local go_sem] tgC_size tgC_one tgC_part tgC_splice tgC_splice_any zero_tg tgC_ne

theorem two_sizes {a c : List UInt8} (ha : a.length < 1048576) (hc : c.length < 1048576) : ∀ s ∈ [txt a, txt c], s.size ≤ maxLen := by
  intro s hs
  simp only [List.mem_cons, List.not_mem_nil, or_false] at hs
  rcases hs with rfl | rfl <;> (rw [txt_size]; simp only [maxLen]; omega)
theorem mark_len {a c : List UInt8} (ha : a.length < 1048576) (hc : c.length < 1048576) : (frames (uSeal :: [txt a, txt c])).length < 1073741824 := by
  simp only [frames_cons, frames_nil, List.length_append, frm_len, txt_size, List.length_nil]
  rw [show uSeal.size = 4 from rfl]
  omega
theorem txt_add (a b : List UInt8) : txt a ++ txt b = txt (a ++ b) := by
  apply ByteArray.ext
  rw [ByteArray.data_append]
  simp
set_option maxRecDepth 100000 in
set_option maxHeartbeats 800000 in
theorem c_smark (key : Tg) (a c : List UInt8) (w : World) (ha : a.length < 1048576) (hc : c.length < 1048576) (hP : PrimesAt w) :
    Calls Tryd.prog 79 #[tgV key, .string (txt a), .string (txt c)] w fun e w' => e = .returned (.string (txt (markT key a c).l)) ∧ Below w.heap.size w w' := by
  have HP := hide hP
  have hw0 := hP.1
  have HSZ := hide (two_sizes ha hc)
  have HFL := hide (mark_len ha hc)
  obtain ⟨t, htt⟩ : ∃ t, t = markT key a c := ⟨_, rfl⟩
  have HT : Hid (dkey key uSeal [txt a, txt c] = t) := hide (by rw [htt]; rfl)
  have HTT := hide htt
  obtain ⟨W2, hW2⟩ : ∃ W2, W2 = (w.alloc (.cells (tgC key) 29)).alloc (.cells #[.string (txt a), .string (txt c)] 9) := ⟨_, rfl⟩
  have HB2 : Hid (Below w.heap.size w W2) := hide (by rw [hW2]; exact below2 _ _ _)
  have HS2 : Hid (kStr.Row (fun _ => True) W2 (some ⟨w.heap.size + 1, 0, none⟩) 2 2 [txt a, txt c]) := hide (by
    rw [hW2]
    have := strs_row (w := (w.alloc (.cells (tgC key) 29)).alloc (.cells #[.string (txt a), .string (txt c)] 9)) (g := w.heap.size + 1) [txt a, txt c] (by have := heap_alloc_new (w.alloc (.cells (tgC key) 29)) (.cells #[.string (txt a), .string (txt c)] 9); rwa [World.size_alloc] at this) rfl HSZ.out (by simp [maxLen])
    exact this)
  clear hP ha hc htt
  go_enter Tryd.func79, Tryd.ntmps79
  go_wp2_with fail
  rw [← hW2]
  clear hW2
  refine (c_dkey key uSeal _ 2 2 [txt a, txt c] _ W2 HS2.out (by decide) (HP.out.ext HB2.out) HFL.out).mono ?_
  rintro e w5 ⟨rfl, b5⟩
  rw [HT.out]
  have hst := row_string (P := Tryd.prog) Tryd.underlying22 Tryd.underlying5 Tryd.underlying9 (tag_row t (heap_alloc_new w5 (.cells (tgC t) 29)))
  have HB5 := hide (bnext HB2.out b5)
  have HBE : Hid (Below w.heap.size w (w5.alloc (.cells (tgC t) 29))) := hide (HB5.out.alloc HB5.out.size _)
  clear b5
  go_wp2_with fail
  go_ret
  exact ⟨by rw [HTT.out]; rfl, HBE.out⟩
set_option maxRecDepth 100000 in
set_option maxHeartbeats 800000 in
theorem c_seal (key nonce : Tg) (s : List UInt8) (w : World) (hn : s.length < 1048576) (hP : PrimesAt w) :
    Calls Tryd.prog 36 #[tgV key, tgV nonce, .string (txt s)] w fun e w' => e = .returned (.string (txt (sealB key nonce s))) ∧ Below w.heap.size w w' := by
  have HPR : Hid (PrimesAt ((w.alloc (.cells (tgC key) 29)).alloc (.cells (tgC nonce) 29))) := hide (hP.ext (below2 _ _ _))
  have hw0 := hP.1
  have HSL := hide hn
  obtain ⟨W1, hW1⟩ : ∃ W1, W1 = (w.alloc (.cells (tgC key) 29)).alloc (.cells (tgC nonce) 29) := ⟨_, rfl⟩
  rw [← hW1] at HPR
  have HB1 : Hid (Below w.heap.size w W1) := hide (by rw [hW1]; exact below2 _ _ _)
  have HK1 : Hid (W1.heap[w.heap.size]? = some (.cells (tgC key) 29)) := hide (by
    rw [hW1, Below.heap_alloc _ _ _ (by simp only [World.size_alloc]; omega)]; exact heap_alloc_new _ _)
  have HN1 : Hid (W1.heap[w.heap.size + 1]? = some (.cells (tgC nonce) 29)) := hide (by
    rw [hW1]
    have := heap_alloc_new (w.alloc (.cells (tgC key) 29)) (.cells (tgC nonce) 29)
    rwa [World.size_alloc] at this)
  have HNR := hide (tag_row nonce HN1.out)
  obtain ⟨sc, hsc⟩ : ∃ sc, sc = turnd key nonce s := ⟨_, rfl⟩
  have HSC : Hid (turnd key nonce s = sc) := hide hsc.symm
  have HLC : Hid (sc.length < 1048576) := hide (by rw [hsc, turnd_len]; exact hn)
  have HSB : Hid (sealB key nonce s = nonce.l ++ sc ++ (markT key nonce.l sc).l) := hide (by rw [hsc]; rfl)
  clear hP hsc hn
  go_enter Tryd.func36, Tryd.ntmps36
  go_wp2_with fail
  rw [← hW1]
  clear hW1
  refine wp_region_ext mixed 6 (fun i v w' => match i with
    | 0 => v = .slice (some ⟨w.heap.size + 1, 0, none⟩) 32 32
    | 1 => v = .string (txt nonce.l)
    | 2 => v = tgV key
    | 3 => v = tgV nonce
    | 4 => v = .string (txt s)
    | _ => v = .string (txt sc)
    ) (regOk_of (by kernel_rfl)) rfl ?_ ?_ ?_
  · intro i v w1 w2 h1 h2
    split at h2 <;> exact h2
  · refine ⟨fun a w2 hle hd hf hs K hK => ?_, fun a w2 hle hd hf hs K hK => ?_, fun a w2 hle hd hf hs K hK => ?_, fun a w2 hle hd hf hs K hK => ?_, fun a w2 hle hd hf hs K hK => ?_, fun a w2 hle hd hf hs K hK => ?_, trivial⟩
    all_goals clear hd
    · -- 9 := Op.slice 29 t4 none none none
      have e4 := hf 4 rfl; simp [Act.eval] at e4
      go_simp; exact hK _ _ (Ext.refl _) rfl
    · -- 10 := Op.convert 22 9 t9
      have e9 := hs 0 9 (needs_direct (by kernel_rfl)) rfl; simp [Act.eval] at e9
      have hq := row_string (P := Tryd.prog) Tryd.underlying22 Tryd.underlying5 Tryd.underlying9 (HNR.out.below hle)
      go_simp; exact hK _ _ (Ext.refl _) rfl
    · -- 11 := Op.load 29 t3
      have e3 := hf 3 rfl; simp [Act.eval] at e3
      have hq : agg? w2 ⟨w.heap.size, 0, none⟩ 32 = some (tgC key) := (agg_of_row (hle.heap HK1.out) 0 32 (by decide)).trans (tgC_part key)
      go_simp; exact hK _ _ (Ext.refl _) rfl
    · -- 12 := Op.load 29 t4
      have e4 := hf 4 rfl; simp [Act.eval] at e4
      have hq : agg? w2 ⟨w.heap.size + 1, 0, none⟩ 32 = some (tgC nonce) := (agg_of_row (hle.heap HN1.out) 0 32 (by decide)).trans (tgC_part nonce)
      go_simp; exact hK _ _ (Ext.refl _) rfl
    · -- 13 := Op.move t2
      have e2 := hf 2 rfl; simp [Act.eval] at e2
      go_simp; exact hK _ _ (Ext.refl _) rfl
    · -- 14 := Op.call { value (Operand.func 80), args := #[t11, t12, t13], argTypes := #[29, 29, 9] }
      have e11 := hs 2 11 (needs_direct (by kernel_rfl)) rfl; have e12 := hs 3 12 (needs_direct (by kernel_rfl)) rfl; have e13 := hs 4 13 (needs_direct (by kernel_rfl)) rfl; simp [Act.eval] at e11 e12 e13
      go_simp
      refine (c_sturned key nonce s w2 HSL.out (HPR.out.ext hle)).mono ?_
      rintro z w9 ⟨rfl, b9⟩
      rw [HSC.out]
      exact hK _ _ b9 rfl
  intro vs w8 hle hs
  have v1 := hs 1 (by omega) rfl
  have v5 := hs 5 (by omega) rfl
  simp only at v1 v5
  clear hs
  have hag := (agg_of_row (hle.heap HK1.out) 0 32 (by decide)).trans (tgC_part key)
  have HP8 := hide (HPR.out.ext hle)
  have HB8 := hide (HB1.out.trans (hle.mono HB1.out.size))
  clear hle
  have hz1 : (txt nonce.l).size = 32 := by rw [txt_size, nonce.len]
  have hz2 : (txt sc).size < 1048576 := by rw [txt_size]; exact HLC.out
  have hz3 : (txt (markT key nonce.l sc).l).size = 32 := by rw [txt_size, (markT key nonce.l sc).len]
  simp only [putN, dstAt]
  go_simp
  go_wp2_with fail
  refine (c_smark key nonce.l sc w8 (by rw [nonce.len]; decide) HLC.out HP8.out).mono ?_
  rintro e w9 ⟨rfl, b9⟩
  have HB9 := hide (HB8.out.trans (b9.mono HB8.out.size))
  clear b9
  have hz4 : (txt nonce.l ++ txt sc).size < 2097152 := by rw [txt_add, txt_size, List.length_append, nonce.len]; have := HLC.out; omega
  go_wp2_with fail
  go_ret
  refine ⟨?_, HB9.out⟩
  rw [HSB.out, ← txt_add, ← txt_add]
  rfl
end Go.Proofs.YtdkeflhgengblaaDoor
namespace Go.Proofs.YtdkeflhgengblaaDoor
open Go.RowKit
attribute [local go_sem ↓] ld8 ld32 ld64 ld73
attribute [local go_sem] run_ldAgg run_storeAgg agg_alloc_at agg_alloc_past agg_drew agg_setCell row_alloc_at row_alloc_past row_drew setRow_alloc_at setRow_alloc_past setRow_drew agg_setRow_at agg_setRow_far cell_setRow_at cell_setRow_far row_setRow_far size_setRow s8C_size s8C_part s8C_one s8C_splice0 s8C_ne dgC_size dgC_72 dgC_part dgC_h dgC_r dgC_splice_h dgC_set dgC_one dgC_splice0 dgC_ne zero_dg
attribute [local go_sem] tgC_size tgC_one tgC_part tgC_splice tgC_splice_any zero_tg tgC_ne

theorem or_zero8 (u z : UInt8) : u ||| z = 0 ↔ u = 0 ∧ z = 0 := by
  rw [← UInt8.toNat_inj, ← UInt8.toNat_inj, ← UInt8.toNat_inj, UInt8.toNat_or]
  exact Nat.or_eq_zero_iff
theorem xor_zero8 (x y : UInt8) : x ^^^ y = 0 ↔ x = y := UInt8.xor_eq_zero_iff
theorem b_or (u z : UInt8) : bits .or .u8 (u.toNat : Int) (z.toNat : Int) = ((u ||| z).toNat : Int) := u8_or_nat _ _ u.toNat_lt z.toNat_lt
theorem take_eq_next {xs ys : List UInt8} {k : Nat} {x y : UInt8} (hx : xs[k]? = some x) (hy : ys[k]? = some y) : xs.take (k + 1) = ys.take (k + 1) ↔ xs.take k = ys.take k ∧ x = y := by
  rw [List.take_add_one, List.take_add_one, hx, hy]
  have hk1 : k < xs.length := (List.getElem?_eq_some_iff.1 hx).1
  have hk2 : k < ys.length := (List.getElem?_eq_some_iff.1 hy).1
  constructor
  · intro h
    obtain ⟨h1, h2⟩ := List.append_inj h (by rw [List.length_take, List.length_take]; omega)
    exact ⟨h1, by simpa using h2⟩
  · rintro ⟨h1, rfl⟩
    rw [h1]
set_option maxRecDepth 100000 in
set_option maxHeartbeats 800000 in
theorem c_tagequal (A B : Option Addr) (n c m d : Nat) (xs ys : List UInt8) (ok ok' : Nat → Prop) (w : World) (hR : kU8.Row ok w A n c xs) (hS : kU8.Row ok' w B m d ys) :
    Calls Tryd.prog 78 #[.slice A n c, .slice B m d] w fun e w' => e = .returned (.bool (decide (xs = ys))) ∧ Below w.heap.size w w' := by
  have hlx := hR.1
  have hly := hS.1
  have HLX := hide hlx
  have HLY := hide hly
  have HR := hide hR
  have HS := hide hS
  have hbx : n ≤ maxLen := Nat.le_trans hR.2.1 hR.2.2.1
  simp only [maxLen] at hbx
  clear hR hS hlx hly
  by_cases hl : n = m
  · subst hl
    go_enter Tryd.func78, Tryd.ntmps78
    go_wp2_with fail
    go_loopw [5, 15] (fun v i wr => ∃ (k : Nat) (u : UInt8), k ≤ n ∧ i = .int .i64 (k : Int) ∧ v = bv u ∧ Hid (u = 0 ↔ xs.take k = ys.take k) ∧ Hid (Below w.heap.size w wr)) (fun _ i _ => n - (intOf i).toNat)
    case atStart => exact ⟨0, 0, Nat.zero_le _, rfl, rfl, hide (by simp), hide (Below.refl _ _)⟩
    case round =>
      obtain ⟨k, u, hk, rfl, rfl, HE, HB⟩ := hrel
      by_cases hlt : k < n
      · obtain ⟨x, hx⟩ : ∃ x, xs[k]? = some x := ⟨_, List.getElem?_eq_getElem (by have := HLX.out; omega)⟩
        obtain ⟨y, hy⟩ : ∃ y, ys[k]? = some y := ⟨_, List.getElem?_eq_getElem (by have := HLY.out; omega)⟩
        obtain ⟨b1, q1, cs1, hix1, -, hbl1, hK1, hra1⟩ := (HR.out.below HB.out).index (P := Tryd.prog) Tryd.underlying22 (E := 5) u8_info1 hx
        obtain ⟨b2, q2, cs2, hix2, -, hbl2, hK2, hra2⟩ := (HS.out.below HB.out).index (P := Tryd.prog) Tryd.underlying22 (E := 5) u8_info1 hy
        obtain ⟨rfl, -⟩ := hK1
        obtain ⟨rfl, -⟩ := hK2
        have a0 := hra1 0 _ rfl
        have a1 := hra2 0 _ rfl
        simp only [Nat.add_zero] at a0 a1
        obtain ⟨z, hz⟩ : ∃ z, z = x ^^^ y := ⟨_, rfl⟩
        obtain ⟨o, ho⟩ : ∃ o, o = u ||| z := ⟨_, rfl⟩
        have h1 : bits .xor .u8 (x.toNat : Int) (y.toNat : Int) = (z.toNat : Int) := by rw [hz]; exact b_xor x y
        have h2 : bits .or .u8 (u.toNat : Int) (z.toNat : Int) = (o.toNat : Int) := by rw [ho]; exact b_or u z
        have HE2 : Hid (o = 0 ↔ xs.take (k + 1) = ys.take (k + 1)) := hide (by rw [ho, hz, or_zero8, xor_zero8, take_eq_next hx hy, HE.out])
        clear hx hy hra1 hra2 hz ho
        go_wp2_with fail
        go_roundw
        case rel => exact ⟨k + 1, _, hlt, by simp, rfl, HE2, HB⟩
        case measure => simp [intOf]; omega
      · obtain rfl : k = n := by omega
        have HF : Hid (decide (xs = ys) = decide (u = 0)) := hide (by
          have := HE.out
          rw [List.take_of_length_le (Nat.le_of_eq HLX.out), List.take_of_length_le (Nat.le_of_eq HLY.out)] at this
          simp only [this])
        go_wp2_with fail
        go_ret
        refine ⟨?_, HB.out⟩
        rw [HF.out]
        refine congrArg Ending.returned (congrArg Value.bool ?_)
        have e : u = 0 ↔ u.toNat = 0 := by rw [← UInt8.toNat_inj]; rfl
        rw [Bool.eq_iff_iff]
        simp [e]
  · have HF : Hid (decide (xs = ys) = false) := hide (decide_eq_false fun e => by
      subst e
      exact hl (HLX.out.symm.trans HLY.out))
    go_enter Tryd.func78, Tryd.ntmps78
    go_wp2_with fail
    go_ret
    exact ⟨by rw [HF.out]; rfl, Below.refl _ _⟩
end Go.Proofs.YtdkeflhgengblaaDoor
namespace Go.Proofs.YtdkeflhgengblaaDoor
open Go.RowKit
attribute [local go_sem ↓] ld8 ld32 ld64 ld73
attribute [local go_sem] run_ldAgg run_storeAgg agg_alloc_at agg_alloc_past agg_drew agg_setCell row_alloc_at row_alloc_past row_drew setRow_alloc_at setRow_alloc_past setRow_drew agg_setRow_at agg_setRow_far cell_setRow_at cell_setRow_far row_setRow_far size_setRow s8C_size s8C_part s8C_one s8C_splice0 s8C_ne dgC_size dgC_72 dgC_part dgC_h dgC_r dgC_splice_h dgC_set dgC_one dgC_splice0 dgC_ne zero_dg
attribute [local go_sem] tgC_size tgC_one tgC_part tgC_splice tgC_splice_any zero_tg tgC_ne

/-- What is opened, as a value. -/
def openV (o : Option (List UInt8)) : Value := .tuple #[.string (txt (o.getD [])), .bool o.isSome]
theorem openB_parts {key : Tg} {s nb cb tb : List UInt8} {E : Nat} (hm : s.length = E + 32) (hE : 32 ≤ E) (h1 : (s.drop 0).take (32 - 0) = nb) (h2 : (s.drop 32).take (E - 32) = cb) (h3 : (s.drop E).take (E + 32 - E) = tb) :
    nb.length = 32 ∧ cb.length = E - 32 ∧ tb.length = 32 ∧ openB key s = if (markT key nb cb).l = tb then some (turnd key (tagL nb) cb) else none := by
  have e1 : s.take 32 = nb := h1
  have e3 : s.drop (s.length - 32) = tb := by
    rw [← h3, List.take_of_length_le (by rw [List.length_drop]; omega), hm, Nat.add_sub_cancel]
  refine ⟨by rw [← e1, List.length_take]; omega, by rw [← h2, List.length_take, List.length_drop]; omega, by rw [← e3, List.length_drop]; omega, ?_⟩
  rw [openB, if_neg (by omega), e1, e3, hm, show E + 32 - 64 = E - 32 by omega, h2]
set_option maxRecDepth 100000 in
set_option maxHeartbeats 1600000 in
theorem c_open (key : Tg) (s : List UInt8) (w : World) (hn : s.length < 1048576) (hP : PrimesAt w) :
    Calls Tryd.prog 34 #[tgV key, .string (txt s)] w fun e w' => e = .returned (openV (openB key s)) ∧ Below w.heap.size w w' := by
  have hw0 := hP.1
  obtain ⟨m, hmm⟩ : ∃ m, m = s.length := ⟨_, rfl⟩
  have hsz : (txt s).size = m := by rw [txt_size, hmm]
  obtain ⟨W1, hW1⟩ : ∃ W1, W1 = w.alloc (.cells (tgC key) 29) := ⟨_, rfl⟩
  have HB1 : Hid (Below w.heap.size w W1) := hide (by rw [hW1]; exact below1 _ _)
  have HK1 : Hid (W1.heap[w.heap.size]? = some (.cells (tgC key) 29)) := hide (by rw [hW1]; exact heap_alloc_new _ _)
  have HP1 : Hid (PrimesAt W1) := hide (hP.ext HB1.out)
  rw [← hmm] at hn
  by_cases h64 : m < 64
  · have HOB : Hid (openB key s = none) := hide (by rw [openB, if_pos (by omega)])
    clear hP hmm
    go_enter Tryd.func34, Tryd.ntmps34
    go_wp2_with fail
    rw [← hW1]
    exact bodyPost_ret (v := openV none) (by simp [results, Tryd.results34, go_sem, openV]) rfl ⟨by rw [HOB.out], HB1.out⟩
  · obtain ⟨E, hE⟩ : ∃ E, m = E + 32 := ⟨m - 32, by omega⟩
    subst hE
    obtain ⟨nb, hnb⟩ : ∃ nb, (s.drop 0).take (32 - 0) = nb := ⟨_, rfl⟩
    obtain ⟨cb, hcb⟩ : ∃ cb, (s.drop 32).take (E - 32) = cb := ⟨_, rfl⟩
    obtain ⟨tb, htb⟩ : ∃ tb, (s.drop E).take (E + 32 - E) = tb := ⟨_, rfl⟩
    obtain ⟨l1, l2, l3, hob⟩ := openB_parts (key := key) hmm.symm (by omega) hnb hcb htb
    obtain ⟨mk, hmk⟩ : ∃ mk, (markT key nb cb).l = mk := ⟨_, rfl⟩
    obtain ⟨tn, htn⟩ : ∃ tn, tagL nb = tn := ⟨_, rfl⟩
    obtain ⟨pl, hpl⟩ : ∃ pl, turnd key tn cb = pl := ⟨_, rfl⟩
    obtain ⟨bq, hbq⟩ : ∃ bq, decide (mk = tb) = bq := ⟨_, rfl⟩
    have hzm : (txt mk).size = 32 := by rw [txt_size, ← hmk, (markT key nb cb).len]
    have hzt : (txt tb).size = 32 := by rw [txt_size, l3]
    have hzn : (txt nb).size = 32 := by rw [txt_size, l1]
    rw [hmk, htn, hpl] at hob
    have hE1 : (32 : Int) ≤ (E : Int) + 32 := by omega
    have hE2 : (32 : Int) ≤ (E : Int) := by omega
    have hE3 : (E : Int) ≤ (E : Int) + 32 := by omega
    have HOB : Hid (openB key s = if bq = true then some pl else none) := hide (by rw [hob, ← hbq]; simp only [decide_eq_true_eq])
    have HNB := hide hnb
    have HCB := hide hcb
    have HTB := hide htb
    have HMK := hide hmk
    have HPL := hide hpl
    have HBQ := hide hbq
    have HL32 := hide l1
    have HTN : Hid ((nb.map bv).toArray = tgC tn) := hide (by rw [← htn, tgC, tagL_l l1])
    have HLN : Hid (nb.length < 1048576) := hide (by omega)
    have HLC : Hid (cb.length < 1048576) := hide (by omega)
    clear hP hmm hnb hcb htb hmk htn hpl hbq l1 l2 l3 hob
    go_enter Tryd.func34, Tryd.ntmps34
    go_wp2_with fail
    rw [← hW1]
    clear hW1
    refine wp_region_ext mixed 7 (fun i v w' => match i with
      | 0 => v = .string (txt s)
      | 1 => v = .string (txt nb)
      | 2 => v = .string (txt s)
      | 3 => v = .int .i64 (E : Int)
      | 4 => v = .string (txt cb)
      | 5 => v = .string (txt nb)
      | _ => v = .string (txt cb)
      ) (regOk_of (by kernel_rfl)) rfl ?_ ?_ ?_
    · intro i v w1 w2 h1 h2
      split at h2 <;> exact h2
    · refine ⟨fun a w2 hle hd hf hs K hK => ?_, fun a w2 hle hd hf hs K hK => ?_, fun a w2 hle hd hf hs K hK => ?_, fun a w2 hle hd hf hs K hK => ?_, fun a w2 hle hd hf hs K hK => ?_, fun a w2 hle hd hf hs K hK => ?_, fun a w2 hle hd hf hs K hK => ?_, trivial⟩
      all_goals clear hd
      · -- 15 := Op.move t1
        have e1 := hf 1 rfl; simp [Act.eval] at e1
        go_simp; exact hK _ _ (Ext.refl _) rfl
      · -- 16 := Op.slice 9 t15 none (some (const (32:i64))) none
        have e15 := hs 0 15 (needs_direct (by kernel_rfl)) rfl; simp [Act.eval] at e15
        go_simp
        exact hK _ _ (Ext.refl _) (ext_is HNB.out rfl rfl)
      · -- 17 := Op.move t1
        have e1 := hf 1 rfl; simp [Act.eval] at e1
        go_simp; exact hK _ _ (Ext.refl _) rfl
      · -- 18 := Op.move t6
        have e6 := hf 6 rfl; simp [Act.eval] at e6
        go_simp; exact hK _ _ (Ext.refl _) rfl
      · -- 19 := Op.slice 9 t17 (some (const (32:i64))) (some t18) none
        have e17 := hs 2 17 (needs_direct (by kernel_rfl)) rfl; have e18 := hs 3 18 (needs_direct (by kernel_rfl)) rfl; simp [Act.eval] at e17 e18
        go_simp
        exact hK _ _ (Ext.refl _) (ext_is HCB.out rfl rfl)
      · -- 7 := Op.assign t16
        have e16 := hs 1 16 (needs_direct (by kernel_rfl)) rfl; simp [Act.eval] at e16
        go_simp; exact hK _ _ (Ext.refl _) rfl
      · -- 8 := Op.assign t19
        have e19 := hs 4 19 (needs_direct (by kernel_rfl)) rfl; simp [Act.eval] at e19
        go_simp; exact hK _ _ (Ext.refl _) rfl
    intro vs w8 hle hs
    have v5 := hs 5 (by omega) rfl
    have v6 := hs 6 (by omega) rfl
    simp only at v5 v6
    clear hs
    have HB2 := hide (HB1.out.trans (hle.mono HB1.out.size))
    have HK2 := hide (hle.heap HK1.out)
    have HP2 := hide (HP1.out.ext hle)
    obtain ⟨W2, hW2⟩ : ∃ W2, W2 = w8 := ⟨_, rfl⟩
    rw [← hW2] at HB2 HK2 HP2 ⊢
    clear hW2 hle HB1 HK1 HP1
    simp only [putN, dstAt]
    go_simp
    go_wp2_with fail
    refine wp_region_ext mixed 11 (fun i v w' => match i with
      | 0 => v = tgV key
      | 1 => v = .string (txt nb)
      | 2 => v = .string (txt cb)
      | 3 => v = .string (txt mk)
      | 4 => ∃ A c, v = .slice A 32 c ∧ kU8.Row (fun _ => True) w' A 32 c mk
      | 5 => v = .string (txt s)
      | 6 => v = .int .i64 (E : Int)
      | 7 => v = .string (txt tb)
      | 8 => ∃ A c, v = .slice A 32 c ∧ kU8.Row (fun _ => True) w' A 32 c tb
      | 9 => v = .bool bq
      | _ => v = .bool (!bq)
      ) (regOk_of (by kernel_rfl)) rfl ?_ ?_ ?_
    · intro i v w1 w2 h1 h2
      split at h2 <;> first | exact h2 | (obtain ⟨A, c, e, hr⟩ := h2; exact ⟨A, c, e, hr.below h1⟩)
    · refine ⟨fun a w2 hle hd hf hs K hK => ?_, fun a w2 hle hd hf hs K hK => ?_, fun a w2 hle hd hf hs K hK => ?_, fun a w2 hle hd hf hs K hK => ?_, fun a w2 hle hd hf hs K hK => ?_, fun a w2 hle hd hf hs K hK => ?_, fun a w2 hle hd hf hs K hK => ?_, fun a w2 hle hd hf hs K hK => ?_, fun a w2 hle hd hf hs K hK => ?_, fun a w2 hle hd hf hs K hK => ?_, fun a w2 hle hd hf hs K hK => ?_, trivial⟩
      all_goals clear hd
      · -- 20 := Op.load 29 t2
        have e2 := hf 2 rfl; simp [Act.eval] at e2
        have hq : agg? w2 ⟨w.heap.size, 0, none⟩ 32 = some (tgC key) := (agg_of_row (hle.heap HK2.out) 0 32 (by decide)).trans (tgC_part key)
        go_simp; exact hK _ _ (Ext.refl _) rfl
      · -- 21 := Op.move t7
        have e7 := hf 7 rfl; simp [Act.eval] at e7
        go_simp; exact hK _ _ (Ext.refl _) rfl
      · -- 22 := Op.move t8
        have e8 := hf 8 rfl; simp [Act.eval] at e8
        go_simp; exact hK _ _ (Ext.refl _) rfl
      · -- 23 := Op.call { value (Operand.func 79), args := #[t20, t21, t22], argTypes := #[29, 9, 9] }
        have e20 := hs 0 20 (needs_direct (by kernel_rfl)) rfl; have e21 := hs 1 21 (needs_direct (by kernel_rfl)) rfl; have e22 := hs 2 22 (needs_direct (by kernel_rfl)) rfl; simp [Act.eval] at e20 e21 e22
        go_simp
        refine (c_smark key nb cb w2 HLN.out HLC.out (HP2.out.ext hle)).mono ?_
        rintro z w9 ⟨rfl, b9⟩
        rw [HMK.out]
        exact hK _ _ b9 rfl
      · -- 24 := Op.convert 9 22 t23
        have e23 := hs 3 23 (needs_direct (by kernel_rfl)) rfl; simp [Act.eval] at e23
        have f23 := hs 3 23 (needs_direct (by kernel_rfl)) rfl
        refine wp_tobytes 9 22 _ rfl (txt mk) f23 Tryd.underlying9 Tryd.underlying22 Tryd.underlying5 (by rw [hzm]; decide) ?_
        intro c w' h1 h2
        rw [byt_txt, hzm] at h1
        rw [hzm]
        exact hK _ _ h2 ⟨_, c, rfl, h1.more fun _ _ => trivial⟩
      · -- 25 := Op.move t1
        have e1 := hf 1 rfl; simp [Act.eval] at e1
        go_simp; exact hK _ _ (Ext.refl _) rfl
      · -- 26 := Op.move t6
        have e6 := hf 6 rfl; simp [Act.eval] at e6
        go_simp; exact hK _ _ (Ext.refl _) rfl
      · -- 27 := Op.slice 9 t25 (some t26) none none
        have e25 := hs 5 25 (needs_direct (by kernel_rfl)) rfl; have e26 := hs 6 26 (needs_direct (by kernel_rfl)) rfl; simp [Act.eval] at e25 e26
        go_simp
        exact hK _ _ (Ext.refl _) (ext_is HTB.out rfl rfl)
      · -- 28 := Op.convert 9 22 t27
        have e27 := hs 7 27 (needs_direct (by kernel_rfl)) rfl; simp [Act.eval] at e27
        have f27 := hs 7 27 (needs_direct (by kernel_rfl)) rfl
        refine wp_tobytes 9 22 _ rfl (txt tb) f27 Tryd.underlying9 Tryd.underlying22 Tryd.underlying5 (by rw [hzt]; decide) ?_
        intro c w' h1 h2
        rw [byt_txt, hzt] at h1
        rw [hzt]
        exact hK _ _ h2 ⟨_, c, rfl, h1.more fun _ _ => trivial⟩
      · -- 29 := Op.call { value (Operand.func 78), args := #[t24, t28], argTypes := #[22, 22] }
        obtain ⟨A24, c24, e24, hr24⟩ := hs 4 24 (needs_direct (by kernel_rfl)) rfl; obtain ⟨A28, c28, e28, hr28⟩ := hs 8 28 (needs_direct (by kernel_rfl)) rfl; simp [Act.eval] at e24 e28
        go_simp
        refine (c_tagequal _ _ 32 c24 32 c28 mk tb _ _ w2 hr24 hr28).mono ?_
        rintro z w9 ⟨rfl, b9⟩
        rw [HBQ.out]
        exact hK _ _ b9 rfl
      · -- 30 := Op.unOp UnOp.not 4 t29
        have e29 := hs 9 29 (needs_direct (by kernel_rfl)) rfl; simp [Act.eval] at e29
        go_simp; exact hK _ _ (Ext.refl _) rfl
    intro vs w8 hle hs
    have v10 := hs 10 (by omega) rfl
    simp only at v10
    clear hs
    have HB3 := hide (HB2.out.trans (hle.mono HB2.out.size))
    have HK3 := hide (hle.heap HK2.out)
    have HP3 := hide (HP2.out.ext hle)
    obtain ⟨W3, hW3⟩ : ∃ W3, W3 = w8 := ⟨_, rfl⟩
    rw [← hW3] at HB3 HK3 HP3 ⊢
    clear hW3 hle HB2 HK2 HP2
    simp only [putN, dstAt]
    go_simp
    cases bq with
    | false =>
      go_wp2_with fail
      exact bodyPost_ret (v := openV none) (by simp [results, Tryd.results34, go_sem, openV]) rfl ⟨by rw [HOB.out]; rfl, HB3.out⟩
    | true =>
      go_wp2_with fail
      refine wp_region_ext mixed 9 (fun i v w' => match i with
        | 0 => v = tgV key
        | 1 => v = .string (txt nb)
        | 2 => ∃ A c, v = .slice A 32 c ∧ kU8.Row (fun _ => True) w' A 32 c nb
        | 3 => ∃ A c, v = .pointer A ∧ kU8.Row (fun _ => True) w' A 32 c nb
        | 4 => v = tgV tn
        | 5 => v = .string (txt cb)
        | 6 => v = .string (txt pl)
        | 7 => v = .string (txt pl)
        | _ => v = .bool true
        ) (regOk_of (by kernel_rfl)) rfl ?_ ?_ ?_
      · intro i v w1 w2 h1 h2
        split at h2 <;> first | exact h2 | (obtain ⟨A, c, e, hr⟩ := h2; exact ⟨A, c, e, hr.below h1⟩)
      · refine ⟨fun a w2 hle hd hf hs K hK => ?_, fun a w2 hle hd hf hs K hK => ?_, fun a w2 hle hd hf hs K hK => ?_, fun a w2 hle hd hf hs K hK => ?_, fun a w2 hle hd hf hs K hK => ?_, fun a w2 hle hd hf hs K hK => ?_, fun a w2 hle hd hf hs K hK => ?_, fun a w2 hle hd hf hs K hK => ?_, fun a w2 hle hd hf hs K hK => ?_, trivial⟩
        all_goals clear hd
        · -- 31 := Op.load 29 t2
          have e2 := hf 2 rfl; simp [Act.eval] at e2
          have hq : agg? w2 ⟨w.heap.size, 0, none⟩ 32 = some (tgC key) := (agg_of_row (hle.heap HK3.out) 0 32 (by decide)).trans (tgC_part key)
          go_simp; exact hK _ _ (Ext.refl _) rfl
        · -- 32 := Op.move t7
          have e7 := hf 7 rfl; simp [Act.eval] at e7
          go_simp; exact hK _ _ (Ext.refl _) rfl
        · -- 33 := Op.convert 9 22 t32
          have e32 := hs 1 32 (needs_direct (by kernel_rfl)) rfl; simp [Act.eval] at e32
          have f32 := hs 1 32 (needs_direct (by kernel_rfl)) rfl
          refine wp_tobytes 9 22 _ rfl (txt nb) f32 Tryd.underlying9 Tryd.underlying22 Tryd.underlying5 (by rw [hzn]; decide) ?_
          intro c w' h1 h2
          rw [byt_txt, hzn] at h1
          rw [hzn]
          exact hK _ _ h2 ⟨_, c, rfl, h1.more fun _ _ => trivial⟩
        · -- 34 := Op.sliceToArrayPointer 29 t33
          obtain ⟨A33, c33, e33, hr33⟩ := hs 2 33 (needs_direct (by kernel_rfl)) rfl; simp [Act.eval] at e33
          obtain ⟨p, o, rfl, -, hb, hc⟩ := row_bytes hr33 (by decide)
          have hap : ∀ wx : World, (Instr.arrayAt 29 (.slice (some ⟨p, o, none⟩) 32 c33)).run Tryd.prog wx = .ok (.pointer (some ⟨p, o, none⟩)) wx := fun wx => by simp [Instr.arrayAt, run_underlying Tryd.underlying29]
          go_simp
          exact hK _ _ (Ext.refl _) ⟨_, c33, rfl, hr33⟩
        · -- 35 := Op.load 29 t34
          obtain ⟨A34, c34, e34, hr34⟩ := hs 3 34 (needs_direct (by kernel_rfl)) rfl; simp [Act.eval] at e34
          obtain ⟨p, o, rfl, -, hb, hc⟩ := row_bytes hr34 (by decide)
          have hag : agg? w2 ⟨p, o, none⟩ 32 = some (tgC tn) := by
            have := agg_range (w := w2) (b := p) (o := o) (cs := nb.map bv) (fun j v hv => by
              rw [List.getElem?_map] at hv
              obtain ⟨x, hx, rfl⟩ := Option.map_eq_some_iff.1 hv
              exact hc j x hx) 32 (by rw [List.length_map]; exact HL32.out)
            rw [this, HTN.out]
          go_simp
          exact hK _ _ (Ext.refl _) rfl
        · -- 36 := Op.move t8
          have e8 := hf 8 rfl; simp [Act.eval] at e8
          go_simp; exact hK _ _ (Ext.refl _) rfl
        · -- 37 := Op.call { value (Operand.func 80), args := #[t31, t35, t36], argTypes := #[29, 29, 9] }
          have e31 := hs 0 31 (needs_direct (by kernel_rfl)) rfl; have e35 := hs 4 35 (needs_direct (by kernel_rfl)) rfl; have e36 := hs 5 36 (needs_direct (by kernel_rfl)) rfl; simp [Act.eval] at e31 e35 e36
          go_simp
          refine (c_sturned key tn cb w2 HLC.out (HP3.out.ext hle)).mono ?_
          rintro z w9 ⟨rfl, b9⟩
          rw [HPL.out]
          exact hK _ _ b9 rfl
        · -- 4 := Op.assign t37
          have e37 := hs 6 37 (needs_direct (by kernel_rfl)) rfl; simp [Act.eval] at e37
          go_simp; exact hK _ _ (Ext.refl _) rfl
        · -- 5 := Op.assign (const (Value.bool true))
          go_simp; exact hK _ _ (Ext.refl _) rfl
      intro vs w8 hle hs
      have v7 := hs 7 (by omega) rfl
      have v8 := hs 8 (by omega) rfl
      simp only at v7 v8
      clear hs
      have HB4 := hide (HB3.out.trans (hle.mono HB3.out.size))
      clear hle
      simp only [putN, dstAt]
      go_simp
      go_wp2_with fail
      exact bodyPost_ret (v := openV (some pl)) (by simp [results, Tryd.results34, go_sem, openV]) rfl ⟨by rw [HOB.out]; rfl, HB4.out⟩
end Go.Proofs.YtdkeflhgengblaaDoor
namespace Go.Proofs.YtdkeflhgengblaaDoor
open Go.RowKit
attribute [local go_sem ↓] ld8 ld32 ld64 ld73
attribute [local go_sem] run_ldAgg run_storeAgg agg_alloc_at agg_alloc_past agg_drew agg_setCell row_alloc_at row_alloc_past row_drew setRow_alloc_at setRow_alloc_past setRow_drew agg_setRow_at agg_setRow_far cell_setRow_at cell_setRow_far row_setRow_far size_setRow s8C_size s8C_part s8C_one s8C_splice0 s8C_ne dgC_size dgC_72 dgC_part dgC_h dgC_r dgC_splice_h dgC_set dgC_one dgC_splice0 dgC_ne zero_dg
attribute [local go_sem] tgC_size tgC_one tgC_part tgC_splice tgC_splice_any zero_tg tgC_ne

set_option maxRecDepth 100000 in
set_option maxHeartbeats 800000 in
theorem c_rseal (key nonce : Tg) (s : List UInt8) (w : World) (hn : s.length < 1048576) :
    Calls Tryd.prog 37 #[tgV key, tgV nonce, .string (txt s)] w fun e w' => e = .returned (.string (txt (sealB key nonce s))) ∧ Below w.heap.size w w' := by
  obtain ⟨W1, hW1⟩ : ∃ W1, W1 = (w.alloc (.cells (tgC key) 29)).alloc (.cells (tgC nonce) 29) := ⟨_, rfl⟩
  have HB1 : Hid (Below w.heap.size w W1) := hide (by rw [hW1]; exact below2 _ _ _)
  have hs1 : W1.heap.size = w.heap.size + 2 := by rw [hW1]; simp only [World.size_alloc]
  have HK1 : Hid (W1.heap[w.heap.size]? = some (.cells (tgC key) 29)) := hide (by
    rw [hW1, Below.heap_alloc _ _ _ (by simp only [World.size_alloc]; omega)]; exact heap_alloc_new _ _)
  have HN1 : Hid (W1.heap[w.heap.size + 1]? = some (.cells (tgC nonce) 29)) := hide (by
    rw [hW1]
    have := heap_alloc_new (w.alloc (.cells (tgC key) 29)) (.cells (tgC nonce) 29)
    rwa [World.size_alloc] at this)
  have HNR1 := hide (tag_row nonce HN1.out)
  obtain ⟨sc, hsc⟩ : ∃ sc, sc = turnd key nonce s := ⟨_, rfl⟩
  have HSC : Hid (turnd key nonce s = sc) := hide hsc.symm
  have hlc : sc.length < 1048576 := by rw [hsc, turnd_len]; exact hn
  have HLC := hide hlc
  obtain ⟨t, htt⟩ : ∃ t, t = markT key nonce.l sc := ⟨_, rfl⟩
  have HT : Hid (dkey key uSeal [txt nonce.l, txt sc] = t) := hide (by rw [htt]; rfl)
  have HSB : Hid (sealB key nonce s = nonce.l ++ sc ++ t.l) := hide (by rw [htt, hsc]; rfl)
  have HSZ := hide (two_sizes (a := nonce.l) (c := sc) (by rw [nonce.len]; decide) hlc)
  have HFL := hide (mark_len (a := nonce.l) (c := sc) (by rw [nonce.len]; decide) hlc)
  have HSL := hide hn
  clear hsc htt hlc hn
  go_enter Tryd.func37, Tryd.ntmps37
  go_wp2_with fail
  rw [← hW1]
  clear hW1
  have hag1 : agg? W1 ⟨w.heap.size, 0, none⟩ 32 = some (tgC key) := (agg_of_row HK1.out 0 32 (by decide)).trans (tgC_part key)
  have hag2 : agg? W1 ⟨w.heap.size + 1, 0, none⟩ 32 = some (tgC nonce) := (agg_of_row HN1.out 0 32 (by decide)).trans (tgC_part nonce)
  go_wp2_with fail
  refine (c_rsturned key nonce s W1 HSL.out).mono ?_
  rintro e w5 ⟨rfl, b5⟩
  rw [HSC.out]
  have HK5 := hide ((b5.block _ (by omega)).trans HK1.out)
  have HNR := hide (HNR1.out.below b5)
  have HB5 := hide (HB1.out.trans (b5.mono (by omega)))
  clear b5 hag1 hag2 HK1 HN1 HNR1 HB1
  go_wp2_with fail
  refine wp_region_ext mixed 7 (fun i v w' => match i with
    | 0 => v = tgV key
    | 1 => v = .slice (some ⟨w.heap.size + 1, 0, none⟩) 32 32
    | 2 => v = .string (txt nonce.l)
    | 3 => v = .string (txt sc)
    | 4 => ∃ A c, v = .slice A 2 c ∧ kStr.Row (fun _ => True) w' A 2 c [txt nonce.l, txt sc]
    | 5 => v = tgV t
    | _ => ∃ g, v = .pointer (some ⟨g, 0, none⟩) ∧ w5.heap.size ≤ g ∧ w'.heap[g]? = some (.cells (tgC Tg.zero) 29)
    ) (regOk_of (by kernel_rfl)) rfl ?_ ?_ ?_
  · intro i v w1 w2 h1 h2
    split at h2 <;> first | exact h2 | (obtain ⟨g, rfl, hg⟩ := h2; exact ⟨g, rfl, h1.heap hg⟩) | (obtain ⟨g, rfl, hgl, hg⟩ := h2; exact ⟨g, rfl, hgl, h1.heap hg⟩) | (obtain ⟨A, c, e, hr⟩ := h2; exact ⟨A, c, e, hr.below h1⟩)
  · refine ⟨fun a w2 hle hd hf hs K hK => ?_, fun a w2 hle hd hf hs K hK => ?_, fun a w2 hle hd hf hs K hK => ?_, fun a w2 hle hd hf hs K hK => ?_, fun a w2 hle hd hf hs K hK => ?_, fun a w2 hle hd hf hs K hK => ?_, fun a w2 hle hd hf hs K hK => ?_, trivial⟩
    all_goals clear hd
    · -- 13 := Op.load 29 t3
      have e3 := hf 3 rfl; simp [Act.eval] at e3
      have hq : agg? w2 ⟨w.heap.size, 0, none⟩ 32 = some (tgC key) := (agg_of_row (hle.heap HK5.out) 0 32 (by decide)).trans (tgC_part key)
      go_simp; exact hK _ _ (Ext.refl _) rfl
    · -- 14 := Op.slice 29 t4 none none none
      have e4 := hf 4 rfl; simp [Act.eval] at e4
      go_simp; exact hK _ _ (Ext.refl _) rfl
    · -- 15 := Op.convert 22 9 t14
      have e14 := hs 1 14 (needs_direct (by kernel_rfl)) rfl; simp [Act.eval] at e14
      have hq := row_string (P := Tryd.prog) Tryd.underlying22 Tryd.underlying5 Tryd.underlying9 (HNR.out.below hle)
      go_simp; exact hK _ _ (Ext.refl _) rfl
    · -- 16 := Op.move t7
      have e7 := hf 7 rfl; simp [Act.eval] at e7
      go_simp; exact hK _ _ (Ext.refl _) rfl
    · -- 17 := Op.buildSlice 34 2 #[(0, t15), (1, t16)]
      have e15 := hs 2 15 (needs_direct (by kernel_rfl)) rfl; have e16 := hs 3 16 (needs_direct (by kernel_rfl)) rfl; simp [Act.eval] at e15 e16
      go_simp
      exact hK _ _ (Ext.alloc _ _) ⟨_, _, rfl, strs_row [txt nonce.l, txt sc] (heap_alloc_new _ _) rfl HSZ.out (by simp [maxLen])⟩
    · -- 18 := Op.call { value (Operand.func 23), args := #[t13, const (Value.string { data := #[115, 101, 97, 108] }), t17], argTypes := #[29, 9, 34] }
      have e13 := hs 0 13 (needs_direct (by kernel_rfl)) rfl; obtain ⟨A17, c17, e17, hr17⟩ := hs 4 17 (needs_direct (by kernel_rfl)) rfl; simp [Act.eval] at e13 e17
      go_simp
      refine (c_rkey key uSeal A17 2 c17 [txt nonce.l, txt sc] _ w2 hr17 (by decide) HFL.out).mono ?_
      rintro z w9 ⟨rfl, b9⟩
      rw [HT.out]
      exact hK _ _ b9 rfl
    · -- 8 := Op.alloc 29
      go_simp
      exact hK _ _ (Ext.alloc _ _) ⟨_, rfl, by have := hle.size; omega, heap_alloc_new _ _⟩
  intro vs w8 hle hs
  have v5 := hs 5 (by omega) rfl
  have v6 := hs 6 (by omega) rfl
  simp only at v5 v6
  clear hs
  obtain ⟨g, e6, hgl, hg⟩ := v6
  obtain ⟨W9, hW9⟩ : ∃ W9, W9 = w8.setRow g (tgC t) := ⟨_, rfl⟩
  have hrz := row_of hg
  have hb9 : Below w5.heap.size w5 W9 := by rw [hW9]; exact bsetRow hle hgl _
  have HG9 : W9.heap[g]? = some (.cells (tgC t) 29) := by rw [hW9]; exact setRow_heap w8 g (tgC Tg.zero) (tgC t) 29 _ hg
  have HTR9 := hide (tag_row t HG9)
  have HNR9 := hide (HNR.out.below hb9)
  have HB9 := hide (HB5.out.trans (hb9.mono HB5.out.size))
  have hz1 : (txt nonce.l).size = 32 := by rw [txt_size, nonce.len]
  have hz2 : (txt sc).size < 1048576 := by rw [txt_size]; exact HLC.out
  have hz3 : (txt t.l).size = 32 := by rw [txt_size, t.len]
  have hlc3 : ¬ 9223372036854775807 < 32 + sc.length := by have := HLC.out; omega
  have hlc4 : ¬ 9223372036854775807 < 32 + sc.length + 32 := by have := HLC.out; omega
  have hz4 : (txt nonce.l ++ txt sc).size < 2097152 := by rw [txt_add, txt_size, List.length_append, nonce.len]; have := HLC.out; omega
  clear hg hgl hle hb9 HG9 HK5 HB5 HNR
  simp only [putN, dstAt]
  go_simp
  go_wp2_with fail
  rw [← hW9]
  clear hW9
  refine wp_region_ext mixed 7 (fun i v w' => match i with
    | 0 => v = .slice (some ⟨w.heap.size + 1, 0, none⟩) 32 32
    | 1 => v = .string (txt nonce.l)
    | 2 => v = .string (txt sc)
    | 3 => v = .string (txt nonce.l ++ txt sc)
    | 4 => v = .slice (some ⟨g, 0, none⟩) 32 32
    | 5 => v = .string (txt t.l)
    | _ => v = .string (txt nonce.l ++ txt sc ++ txt t.l)
    ) (regOk_of (by kernel_rfl)) rfl ?_ ?_ ?_
  · intro i v w1 w2 h1 h2
    split at h2 <;> exact h2
  · refine ⟨fun a w2 hle hd hf hs K hK => ?_, fun a w2 hle hd hf hs K hK => ?_, fun a w2 hle hd hf hs K hK => ?_, fun a w2 hle hd hf hs K hK => ?_, fun a w2 hle hd hf hs K hK => ?_, fun a w2 hle hd hf hs K hK => ?_, fun a w2 hle hd hf hs K hK => ?_, trivial⟩
    all_goals clear hd
    · -- 19 := Op.slice 29 t4 none none none
      have e4 := hf 4 rfl; simp [Act.eval] at e4
      go_simp; exact hK _ _ (Ext.refl _) rfl
    · -- 20 := Op.convert 22 9 t19
      have e19 := hs 0 19 (needs_direct (by kernel_rfl)) rfl; simp [Act.eval] at e19
      have hq := row_string (P := Tryd.prog) Tryd.underlying22 Tryd.underlying5 Tryd.underlying9 (HNR9.out.below hle)
      go_simp; exact hK _ _ (Ext.refl _) rfl
    · -- 21 := Op.move t7
      have e7 := hf 7 rfl; simp [Act.eval] at e7
      go_simp; exact hK _ _ (Ext.refl _) rfl
    · -- 22 := Op.binOp BinOp.add 9 t20 t21 9
      have e20 := hs 1 20 (needs_direct (by kernel_rfl)) rfl; have e21 := hs 2 21 (needs_direct (by kernel_rfl)) rfl; simp [Act.eval] at e20 e21
      go_simp; exact hK _ _ (Ext.refl _) rfl
    · -- 23 := Op.slice 29 t8 none none none
      have e8 := hf 8 rfl; simp [Act.eval] at e8
      go_simp; exact hK _ _ (Ext.refl _) rfl
    · -- 24 := Op.convert 22 9 t23
      have e23 := hs 4 23 (needs_direct (by kernel_rfl)) rfl; simp [Act.eval] at e23
      have hq := row_string (P := Tryd.prog) Tryd.underlying22 Tryd.underlying5 Tryd.underlying9 (HTR9.out.below hle)
      go_simp; exact hK _ _ (Ext.refl _) rfl
    · -- 25 := Op.binOp BinOp.add 9 t22 t24 9
      have e22 := hs 3 22 (needs_direct (by kernel_rfl)) rfl; have e24 := hs 5 24 (needs_direct (by kernel_rfl)) rfl; simp [Act.eval] at e22 e24
      go_simp; exact hK _ _ (Ext.refl _) rfl
  intro vs w8 hle hs
  have v6 := hs 6 (by omega) rfl
  simp only at v6
  clear hs
  have HBE := hide (HB9.out.trans (hle.mono HB9.out.size))
  clear hle
  simp only [putN, dstAt]
  go_simp
  go_wp2_with fail
  go_ret
  refine ⟨?_, HBE.out⟩
  rw [HSB.out, ← txt_add, ← txt_add]
  rfl
set_option maxRecDepth 100000 in
set_option maxHeartbeats 800000 in
theorem c_ropen (key : Tg) (s : List UInt8) (w : World) (hn : s.length < 1048576) :
    Calls Tryd.prog 35 #[tgV key, .string (txt s)] w fun e w' => e = .returned (openV (openB key s)) ∧ Below w.heap.size w w' := by
  obtain ⟨m, hmm⟩ : ∃ m, m = s.length := ⟨_, rfl⟩
  have hsz : (txt s).size = m := by rw [txt_size, hmm]
  obtain ⟨W1, hW1⟩ : ∃ W1, W1 = w.alloc (.cells (tgC key) 29) := ⟨_, rfl⟩
  have HB1 : Hid (Below w.heap.size w W1) := hide (by rw [hW1]; exact below1 _ _)
  have HK1 : Hid (W1.heap[w.heap.size]? = some (.cells (tgC key) 29)) := hide (by rw [hW1]; exact heap_alloc_new _ _)
  have hs1 : W1.heap.size = w.heap.size + 1 := by rw [hW1]; simp only [World.size_alloc]
  rw [← hmm] at hn
  by_cases h64 : m < 64
  · have HOB : Hid (openB key s = none) := hide (by rw [openB, if_pos (by omega)])
    clear hmm
    go_enter Tryd.func35, Tryd.ntmps35
    go_wp2_with fail
    rw [← hW1]
    exact bodyPost_ret (v := openV none) (by simp [results, Tryd.results35, go_sem, openV]) rfl ⟨by rw [HOB.out], HB1.out⟩
  · obtain ⟨E, hE⟩ : ∃ E, m = E + 32 := ⟨m - 32, by omega⟩
    subst hE
    obtain ⟨nb, hnb⟩ : ∃ nb, (s.drop 0).take (32 - 0) = nb := ⟨_, rfl⟩
    obtain ⟨cb, hcb⟩ : ∃ cb, (s.drop 32).take (E - 32) = cb := ⟨_, rfl⟩
    obtain ⟨tb, htb⟩ : ∃ tb, (s.drop E).take (E + 32 - E) = tb := ⟨_, rfl⟩
    obtain ⟨l1, l2, l3, hob⟩ := openB_parts (key := key) hmm.symm (by omega) hnb hcb htb
    obtain ⟨tn, htn⟩ : ∃ tn, tagL nb = tn := ⟨_, rfl⟩
    obtain ⟨pl, hpl⟩ : ∃ pl, turnd key tn cb = pl := ⟨_, rfl⟩
    obtain ⟨X, hX⟩ : ∃ X, sealB key tn pl = X := ⟨_, rfl⟩
    have hzn : (txt nb).size = 32 := by rw [txt_size, l1]
    have htl : tn.l = nb := by rw [← htn, tagL_l l1]
    have hbq : X = s ↔ (markT key nb cb).l = tb := by
      have := open_seal (key := key) (s := s) (by omega)
      have e1 : s.take 32 = nb := hnb
      have e2 : (s.drop 32).take (s.length - 64) = cb := by rw [← hcb, ← hmm]; congr 1 <;> omega
      have e3 : s.drop (s.length - 32) = tb := by
        rw [← htb, List.take_of_length_le (by rw [List.length_drop]; omega), ← hmm, Nat.add_sub_cancel]
      rw [e1, e2, e3, htn, hpl, hX] at this
      exact this
    rw [htn, hpl] at hob
    have hE1 : (32 : Int) ≤ (E : Int) + 32 := by omega
    have hE2 : (32 : Int) ≤ (E : Int) := by omega
    have hE3 : (E : Int) ≤ (E : Int) + 32 := by omega
    have HNB := hide hnb
    have HCB := hide hcb
    have HPL := hide hpl
    have HXX := hide hX
    have HL32 := hide l1
    have HTL := hide htl
    have HLC : Hid (cb.length < 1048576) := hide (by omega)
    have HLP : Hid (pl.length < 1048576) := hide (by rw [← hpl, turnd_len]; omega)
    have HOB : Hid (openB key s = if X = s then some pl else none) := hide (by rw [hob]; by_cases h : X = s; rw [if_pos h, if_pos (hbq.1 h)]; rw [if_neg h, if_neg (fun e => h (hbq.2 e))])
    have hn63 : (txt nb).size ≤ 9223372036854775807 := by rw [hzn]; decide
    clear hmm hnb hcb htb htn hpl hX l1 l2 l3 hob htl hbq
    go_enter Tryd.func35, Tryd.ntmps35
    go_wp2_with ((with_reducible show wpList _ _ _ (Oper.mk (some 13) _ _ _ _ _ :: _) _ _); rw [← hW1]; go_loud (refine at_tobytes (P := Tryd.prog) 9 22 (txt nb) (ext_is HNB.out rfl rfl) Tryd.underlying9 Tryd.underlying22 Tryd.underlying5 hn63 (w.heap.size + 1) hs1 ?_))
    clear hW1
    intro c13 w13 h13 b13 _
    rw [byt_txt, hzn, ← HTL.out] at h13
    rw [hzn]
    have HR13 := hide h13
    have HB13 : Hid (Below W1.heap.size W1 w13) := hide (by rw [hs1]; exact b13)
    clear h13 b13
    go_wp2_with fail
    refine (c_rtag tn _ c13 _ w13 HR13.out).mono ?_
    rintro e w14 ⟨rfl, b14⟩
    obtain ⟨G, hG⟩ : ∃ G, G = w14.heap.size := ⟨_, rfl⟩
    obtain ⟨W6, hW6⟩ : ∃ W6, W6 = w14.alloc (.cells (tgC tn) 29) := ⟨_, rfl⟩
    have b16 : Below W1.heap.size W1 W6 := by rw [hW6]; exact (HB13.out.trans (b14.mono HB13.out.size)).alloc (Nat.le_trans HB13.out.size b14.size) _
    have HB6 := hide (HB1.out.trans (b16.mono HB1.out.size))
    have HK6 := hide ((b16.block _ (by omega)).trans HK1.out)
    have HG6 : Hid (W6.heap[G]? = some (.cells (tgC tn) 29)) := hide (by rw [hW6, hG]; exact heap_alloc_new _ _)
    clear b14 b16
    go_wp2_with fail
    rw [← hW6, ← hG]
    clear hW6 hG HB1 HK1 HB13 HR13
    refine wp_region_ext mixed 9 (fun i v w' => match i with
      | 0 => v = tgV key
      | 1 => v = tgV tn
      | 2 => v = .string (txt s)
      | 3 => v = .string (txt s)
      | 4 => v = .int .i64 ((E + 32 : Nat) : Int)
      | 5 => v = .int .i64 (E : Int)
      | 6 => v = .string (txt cb)
      | 7 => v = .string (txt pl)
      | _ => v = .string (txt pl)
      ) (regOk_of (by kernel_rfl)) rfl ?_ ?_ ?_
    · intro i v w1 w2 h1 h2
      split at h2 <;> exact h2
    · refine ⟨fun a w2 hle hd hf hs K hK => ?_, fun a w2 hle hd hf hs K hK => ?_, fun a w2 hle hd hf hs K hK => ?_, fun a w2 hle hd hf hs K hK => ?_, fun a w2 hle hd hf hs K hK => ?_, fun a w2 hle hd hf hs K hK => ?_, fun a w2 hle hd hf hs K hK => ?_, fun a w2 hle hd hf hs K hK => ?_, fun a w2 hle hd hf hs K hK => ?_, trivial⟩
      all_goals clear hd
      · -- 15 := Op.load 29 t2
        have e2 := hf 2 rfl; simp [Act.eval] at e2
        have hq : agg? w2 ⟨w.heap.size, 0, none⟩ 32 = some (tgC key) := (agg_of_row (hle.heap HK6.out) 0 32 (by decide)).trans (tgC_part key)
        go_simp; exact hK _ _ (Ext.refl _) rfl
      · -- 16 := Op.load 29 t6
        have e6 := hf 6 rfl; simp [Act.eval] at e6
        have hq : agg? w2 ⟨G, 0, none⟩ 32 = some (tgC tn) := (agg_of_row (hle.heap HG6.out) 0 32 (by decide)).trans (tgC_part tn)
        go_simp; exact hK _ _ (Ext.refl _) rfl
      · -- 17 := Op.move t1
        have e1 := hf 1 rfl; simp [Act.eval] at e1
        go_simp; exact hK _ _ (Ext.refl _) rfl
      · -- 18 := Op.move t1
        have e1 := hf 1 rfl; simp [Act.eval] at e1
        go_simp; exact hK _ _ (Ext.refl _) rfl
      · -- 19 := Op.call { builtin len, args := #[t18], argTypes := #[9] }
        have e18 := hs 3 18 (needs_direct (by kernel_rfl)) rfl; simp [Act.eval] at e18
        go_simp
        exact hK _ _ (Ext.refl _) (by simp)
      · -- 20 := Op.binOp BinOp.sub 3 t19 (const (32:i64)) 3
        have e19 := hs 4 19 (needs_direct (by kernel_rfl)) rfl; simp [Act.eval] at e19
        go_simp
        exact hK _ _ (Ext.refl _) (by simp; exact wrap64s (by omega) (by omega))
      · -- 21 := Op.slice 9 t17 (some (const (32:i64))) (some t20) none
        have e17 := hs 2 17 (needs_direct (by kernel_rfl)) rfl; have e20 := hs 5 20 (needs_direct (by kernel_rfl)) rfl; simp [Act.eval] at e17 e20
        go_simp
        exact hK _ _ (Ext.refl _) (ext_is HCB.out rfl rfl)
      · -- 22 := Op.call { value (Operand.func 81), args := #[t15, t16, t21], argTypes := #[29, 29, 9] }
        have e15 := hs 0 15 (needs_direct (by kernel_rfl)) rfl; have e16 := hs 1 16 (needs_direct (by kernel_rfl)) rfl; have e21 := hs 6 21 (needs_direct (by kernel_rfl)) rfl; simp [Act.eval] at e15 e16 e21
        go_simp
        refine (c_rsturned key tn cb w2 HLC.out).mono ?_
        rintro z w9 ⟨rfl, b9⟩
        rw [HPL.out]
        exact hK _ _ b9 rfl
      · -- 7 := Op.assign t22
        have e22 := hs 7 22 (needs_direct (by kernel_rfl)) rfl; simp [Act.eval] at e22
        go_simp; exact hK _ _ (Ext.refl _) rfl
    intro vs w8 hle hs
    have v8 := hs 8 (by omega) rfl
    simp only at v8
    clear hs
    have HB8 := hide (HB6.out.trans (hle.mono HB6.out.size))
    have HK8 := hide (hle.heap HK6.out)
    have HG8 := hide (hle.heap HG6.out)
    have hag1 : agg? w8 ⟨w.heap.size, 0, none⟩ 32 = some (tgC key) := (agg_of_row HK8.out 0 32 (by decide)).trans (tgC_part key)
    have hag2 : agg? w8 ⟨G, 0, none⟩ 32 = some (tgC tn) := (agg_of_row HG8.out 0 32 (by decide)).trans (tgC_part tn)
    clear hle
    simp only [putN, dstAt]
    go_simp
    go_wp2_with fail
    refine (c_rseal key tn pl w8 HLP.out).mono ?_
    rintro e w9 ⟨rfl, b9⟩
    rw [HXX.out]
    have HB9 := hide (HB8.out.trans (b9.mono HB8.out.size))
    clear b9 hag1 hag2
    by_cases hq : X = s
    · have HOB2 : Hid (openB key s = some pl) := hide (by rw [HOB.out, if_pos hq])
      subst hq
      clear HOB
      go_wp2_with fail
      exact bodyPost_ret (v := openV (some pl)) (by simp [results, Tryd.results35, go_sem, openV]) rfl ⟨by rw [HOB2.out], HB9.out⟩
    · have HOB2 : Hid (openB key s = none) := hide (by rw [HOB.out, if_neg hq])
      have hq2 : (X == s) = false := by simp [hq]
      clear HOB hq
      go_wp2_with fail
      exact bodyPost_ret (v := openV none) (by simp [results, Tryd.results35, go_sem, openV]) rfl ⟨by rw [HOB2.out], HB9.out⟩
end Go.Proofs.YtdkeflhgengblaaDoor
namespace Go.Proofs.YtdkeflhgengblaaDoor
open Go.RowKit
attribute [local go_sem ↓] ld8 ld32 ld64 ld73
attribute [local go_sem] run_ldAgg run_storeAgg agg_alloc_at agg_alloc_past agg_drew agg_setCell row_alloc_at row_alloc_past row_drew setRow_alloc_at setRow_alloc_past setRow_drew agg_setRow_at agg_setRow_far cell_setRow_at cell_setRow_far row_setRow_far size_setRow s8C_size s8C_part s8C_one s8C_splice0 s8C_ne dgC_size dgC_72 dgC_part dgC_h dgC_r dgC_splice_h dgC_set dgC_one dgC_splice0 dgC_ne zero_dg
attribute [local go_sem] tgC_size tgC_one tgC_part tgC_splice tgC_splice_any zero_tg tgC_ne

def uParty : ByteArray := { data := #[112, 97, 114, 116, 121] }
def uVault : ByteArray := { data := #[118, 97, 117, 108, 116] }
def lockB (key nonce root : Tg) (cond : List UInt8) : List UInt8 := sealB (dkey key uParty []) nonce (root.l ++ cond)
def hideB (t nonce root : Tg) : List UInt8 := sealB (dkey t uVault []) nonce root.l
theorem party_len : (frames (uParty :: [])).length < 1073741824 := by
  simp only [frames_cons, frames_nil, List.length_append, frm_len, List.length_nil]
  decide
theorem vault_len : (frames (uVault :: [])).length < 1073741824 := by
  simp only [frames_cons, frames_nil, List.length_append, frm_len, List.length_nil]
  decide
set_option maxRecDepth 100000 in
set_option maxHeartbeats 800000 in
theorem c_tlock (key nonce root : Tg) (cond : List UInt8) (w : World) (hc : cond.length < 1000000) (hP : PrimesAt w) :
    Calls Tryd.prog 51 #[tgV key, tgV nonce, tgV root, .string (txt cond)] w fun e w' => e = .returned (.string (txt (lockB key nonce root cond))) ∧ Below w.heap.size w w' := by
  obtain ⟨W1, hW1⟩ : ∃ W1, W1 = ((w.alloc (.cells (tgC key) 29)).alloc (.cells (tgC nonce) 29)).alloc (.cells (tgC root) 29) := ⟨_, rfl⟩
  obtain ⟨g1, g2, g3⟩ := heap3 w (tgC key) (tgC nonce) (tgC root) 29
  rw [← hW1] at g1 g2 g3
  have HB1 : Hid (Below w.heap.size w W1) := hide (by rw [hW1]; exact below3 _ _ _ _)
  have Hkey := hide g1
  have Hnonce := hide g2
  have HRR := hide (tag_row root g3)
  clear g1 g2 g3
  have HP1 := hide (hP.ext HB1.out)
  have hw0 := hP.1
  clear hP
  obtain ⟨kt, hkt⟩ : ∃ kt, dkey key uParty [] = kt := ⟨_, rfl⟩
  obtain ⟨rc, hrc⟩ : ∃ rc, rc = root.l ++ cond := ⟨_, rfl⟩
  obtain ⟨sx, hsx⟩ : ∃ sx, sealB kt nonce rc = sx := ⟨_, rfl⟩
  have HKT := hide hkt
  have HRC := hide hrc
  have HSX := hide hsx
  have HRES : Hid (lockB key nonce root cond = sx) := hide (by rw [lockB, hkt, ← hrc, hsx])
  have HFL := hide party_len
  have HLR : Hid (rc.length < 1048576) := hide (by rw [hrc, List.length_append, root.len]; omega)
  have hz1 : (txt root.l).size = 32 := by rw [txt_size, root.len]
  have hz2 : (txt cond).size < 1000000 := by rw [txt_size]; exact hc
  have hz3 : ¬ 9223372036854775807 < 32 + cond.length := by omega
  clear hkt hrc hsx
  go_enter Tryd.func51, Tryd.ntmps51
  go_wp2_with fail
  rw [← hW1]
  clear hW1
  refine wp_region_ext mixed 8 (fun i v w' => match i with
    | 0 => v = tgV key
    | 1 => v = tgV kt
    | 2 => v = tgV nonce
    | 3 => v = .slice (some ⟨w.heap.size + 2, 0, none⟩) 32 32
    | 4 => v = .string (txt root.l)
    | 5 => v = .string (txt cond)
    | 6 => v = .string (txt rc)
    | _ => v = .string (txt sx)
    ) (regOk_of (by kernel_rfl)) rfl ?_ ?_ ?_
  · intro i v w1 w2 h1 h2
    split at h2 <;> exact h2
  · refine ⟨fun a w2 hle hd hf hs K hK => ?_, fun a w2 hle hd hf hs K hK => ?_, fun a w2 hle hd hf hs K hK => ?_, fun a w2 hle hd hf hs K hK => ?_, fun a w2 hle hd hf hs K hK => ?_, fun a w2 hle hd hf hs K hK => ?_, fun a w2 hle hd hf hs K hK => ?_, fun a w2 hle hd hf hs K hK => ?_, trivial⟩
    all_goals clear hd
    · -- 9 := Op.load 29 t4
      have e4 := hf 4 rfl; simp [Act.eval] at e4
      have hq : agg? w2 ⟨w.heap.size, 0, none⟩ 32 = some (tgC key) := (agg_of_row (hle.heap Hkey.out) 0 32 (by decide)).trans (tgC_part key)
      go_simp; exact hK _ _ (Ext.refl _) rfl
    · -- 10 := Op.call { value (Operand.func 22), args := #[t9, const (Value.string { data := #[112, 97, 114, 116, 121] }), const (Value.slice none 0 0)], argTypes := #[29, 9, 34] }
      have e9 := hs 0 9 (needs_direct (by kernel_rfl)) rfl; simp [Act.eval] at e9
      go_simp
      refine (c_dkey key uParty none 0 0 [] _ w2 (Kd.Row.nil kStr (fun _ => True) w2 none 0 (Nat.zero_le _)) (by decide) (HP1.out.ext hle) HFL.out).mono ?_
      rintro z w9 ⟨rfl, b9⟩
      rw [HKT.out]
      exact hK _ _ b9 rfl
    · -- 11 := Op.load 29 t5
      have e5 := hf 5 rfl; simp [Act.eval] at e5
      have hq : agg? w2 ⟨w.heap.size + 1, 0, none⟩ 32 = some (tgC nonce) := (agg_of_row (hle.heap Hnonce.out) 0 32 (by decide)).trans (tgC_part nonce)
      go_simp; exact hK _ _ (Ext.refl _) rfl
    · -- 12 := Op.slice 29 t6 none none none
      have e6 := hf 6 rfl; simp [Act.eval] at e6
      go_simp; exact hK _ _ (Ext.refl _) rfl
    · -- 13 := Op.convert 22 9 t12
      have e12 := hs 3 12 (needs_direct (by kernel_rfl)) rfl; simp [Act.eval] at e12
      have hq := row_string (P := Tryd.prog) Tryd.underlying22 Tryd.underlying5 Tryd.underlying9 (HRR.out.below hle)
      go_simp; exact hK _ _ (Ext.refl _) rfl
    · -- 14 := Op.move t3
      have e3 := hf 3 rfl; simp [Act.eval] at e3
      go_simp; exact hK _ _ (Ext.refl _) rfl
    · -- 15 := Op.binOp BinOp.add 9 t13 t14 9
      have e13 := hs 4 13 (needs_direct (by kernel_rfl)) rfl; have e14 := hs 5 14 (needs_direct (by kernel_rfl)) rfl; simp [Act.eval] at e13 e14
      go_simp
      exact hK _ _ (Ext.refl _) (by show Value.string _ = Value.string _; rw [HRC.out, txt_add])
    · -- 16 := Op.call { value (Operand.func 36), args := #[t10, t11, t15], argTypes := #[29, 29, 9] }
      have e10 := hs 1 10 (needs_direct (by kernel_rfl)) rfl; have e11 := hs 2 11 (needs_direct (by kernel_rfl)) rfl; have e15 := hs 6 15 (needs_direct (by kernel_rfl)) rfl; simp [Act.eval] at e10 e11 e15
      go_simp
      refine (c_seal kt nonce rc w2 HLR.out (HP1.out.ext hle)).mono ?_
      rintro z w9 ⟨rfl, b9⟩
      rw [HSX.out]
      exact hK _ _ b9 rfl
  intro vs w8 hle hs
  have v7 := hs 7 (by omega) rfl
  simp only at v7
  clear hs
  have HB9 := hide (HB1.out.trans (hle.mono HB1.out.size))
  clear hle
  simp only [putN, dstAt]
  go_simp
  go_wp2_with fail
  go_ret
  exact ⟨by rw [HRES.out]; rfl, HB9.out⟩
set_option maxRecDepth 100000 in
set_option maxHeartbeats 800000 in
theorem c_rlock (key nonce root : Tg) (cond : List UInt8) (w : World) (hc : cond.length < 1000000) :
    Calls Tryd.prog 52 #[tgV key, tgV nonce, tgV root, .string (txt cond)] w fun e w' => e = .returned (.string (txt (lockB key nonce root cond))) ∧ Below w.heap.size w w' := by
  obtain ⟨W1, hW1⟩ : ∃ W1, W1 = ((w.alloc (.cells (tgC key) 29)).alloc (.cells (tgC nonce) 29)).alloc (.cells (tgC root) 29) := ⟨_, rfl⟩
  obtain ⟨g1, g2, g3⟩ := heap3 w (tgC key) (tgC nonce) (tgC root) 29
  rw [← hW1] at g1 g2 g3
  have HB1 : Hid (Below w.heap.size w W1) := hide (by rw [hW1]; exact below3 _ _ _ _)
  have Hkey := hide g1
  have Hnonce := hide g2
  have HRR := hide (tag_row root g3)
  clear g1 g2 g3
  obtain ⟨kt, hkt⟩ : ∃ kt, dkey key uParty [] = kt := ⟨_, rfl⟩
  obtain ⟨rc, hrc⟩ : ∃ rc, rc = root.l ++ cond := ⟨_, rfl⟩
  obtain ⟨sx, hsx⟩ : ∃ sx, sealB kt nonce rc = sx := ⟨_, rfl⟩
  have HKT := hide hkt
  have HRC := hide hrc
  have HSX := hide hsx
  have HRES : Hid (lockB key nonce root cond = sx) := hide (by rw [lockB, hkt, ← hrc, hsx])
  have HFL := hide party_len
  have HLR : Hid (rc.length < 1048576) := hide (by rw [hrc, List.length_append, root.len]; omega)
  have hz1 : (txt root.l).size = 32 := by rw [txt_size, root.len]
  have hz2 : (txt cond).size < 1000000 := by rw [txt_size]; exact hc
  have hz3 : ¬ 9223372036854775807 < 32 + cond.length := by omega
  clear hkt hrc hsx
  go_enter Tryd.func52, Tryd.ntmps52
  go_wp2_with fail
  rw [← hW1]
  clear hW1
  refine wp_region_ext mixed 8 (fun i v w' => match i with
    | 0 => v = tgV key
    | 1 => v = tgV kt
    | 2 => v = tgV nonce
    | 3 => v = .slice (some ⟨w.heap.size + 2, 0, none⟩) 32 32
    | 4 => v = .string (txt root.l)
    | 5 => v = .string (txt cond)
    | 6 => v = .string (txt rc)
    | _ => v = .string (txt sx)
    ) (regOk_of (by kernel_rfl)) rfl ?_ ?_ ?_
  · intro i v w1 w2 h1 h2
    split at h2 <;> exact h2
  · refine ⟨fun a w2 hle hd hf hs K hK => ?_, fun a w2 hle hd hf hs K hK => ?_, fun a w2 hle hd hf hs K hK => ?_, fun a w2 hle hd hf hs K hK => ?_, fun a w2 hle hd hf hs K hK => ?_, fun a w2 hle hd hf hs K hK => ?_, fun a w2 hle hd hf hs K hK => ?_, fun a w2 hle hd hf hs K hK => ?_, trivial⟩
    all_goals clear hd
    · -- 9 := Op.load 29 t4
      have e4 := hf 4 rfl; simp [Act.eval] at e4
      have hq : agg? w2 ⟨w.heap.size, 0, none⟩ 32 = some (tgC key) := (agg_of_row (hle.heap Hkey.out) 0 32 (by decide)).trans (tgC_part key)
      go_simp; exact hK _ _ (Ext.refl _) rfl
    · -- 10 := Op.call { value (Operand.func 23), args := #[t9, const (Value.string { data := #[112, 97, 114, 116, 121] }), const (Value.slice none 0 0)], argTypes := #[29, 9, 34] }
      have e9 := hs 0 9 (needs_direct (by kernel_rfl)) rfl; simp [Act.eval] at e9
      go_simp
      refine (c_rkey key uParty none 0 0 [] _ w2 (Kd.Row.nil kStr (fun _ => True) w2 none 0 (Nat.zero_le _)) (by decide) HFL.out).mono ?_
      rintro z w9 ⟨rfl, b9⟩
      rw [HKT.out]
      exact hK _ _ b9 rfl
    · -- 11 := Op.load 29 t5
      have e5 := hf 5 rfl; simp [Act.eval] at e5
      have hq : agg? w2 ⟨w.heap.size + 1, 0, none⟩ 32 = some (tgC nonce) := (agg_of_row (hle.heap Hnonce.out) 0 32 (by decide)).trans (tgC_part nonce)
      go_simp; exact hK _ _ (Ext.refl _) rfl
    · -- 12 := Op.slice 29 t6 none none none
      have e6 := hf 6 rfl; simp [Act.eval] at e6
      go_simp; exact hK _ _ (Ext.refl _) rfl
    · -- 13 := Op.convert 22 9 t12
      have e12 := hs 3 12 (needs_direct (by kernel_rfl)) rfl; simp [Act.eval] at e12
      have hq := row_string (P := Tryd.prog) Tryd.underlying22 Tryd.underlying5 Tryd.underlying9 (HRR.out.below hle)
      go_simp; exact hK _ _ (Ext.refl _) rfl
    · -- 14 := Op.move t3
      have e3 := hf 3 rfl; simp [Act.eval] at e3
      go_simp; exact hK _ _ (Ext.refl _) rfl
    · -- 15 := Op.binOp BinOp.add 9 t13 t14 9
      have e13 := hs 4 13 (needs_direct (by kernel_rfl)) rfl; have e14 := hs 5 14 (needs_direct (by kernel_rfl)) rfl; simp [Act.eval] at e13 e14
      go_simp
      exact hK _ _ (Ext.refl _) (by show Value.string _ = Value.string _; rw [HRC.out, txt_add])
    · -- 16 := Op.call { value (Operand.func 37), args := #[t10, t11, t15], argTypes := #[29, 29, 9] }
      have e10 := hs 1 10 (needs_direct (by kernel_rfl)) rfl; have e11 := hs 2 11 (needs_direct (by kernel_rfl)) rfl; have e15 := hs 6 15 (needs_direct (by kernel_rfl)) rfl; simp [Act.eval] at e10 e11 e15
      go_simp
      refine (c_rseal kt nonce rc w2 HLR.out).mono ?_
      rintro z w9 ⟨rfl, b9⟩
      rw [HSX.out]
      exact hK _ _ b9 rfl
  intro vs w8 hle hs
  have v7 := hs 7 (by omega) rfl
  simp only at v7
  clear hs
  have HB9 := hide (HB1.out.trans (hle.mono HB1.out.size))
  clear hle
  simp only [putN, dstAt]
  go_simp
  go_wp2_with fail
  go_ret
  exact ⟨by rw [HRES.out]; rfl, HB9.out⟩
set_option maxRecDepth 100000 in
set_option maxHeartbeats 800000 in
theorem c_thide (key nonce root : Tg) (w : World) (hP : PrimesAt w) :
    Calls Tryd.prog 53 #[tgV key, tgV nonce, tgV root] w fun e w' => e = .returned (.string (txt (hideB key nonce root))) ∧ Below w.heap.size w w' := by
  obtain ⟨W1, hW1⟩ : ∃ W1, W1 = ((w.alloc (.cells (tgC key) 29)).alloc (.cells (tgC nonce) 29)).alloc (.cells (tgC root) 29) := ⟨_, rfl⟩
  obtain ⟨g1, g2, g3⟩ := heap3 w (tgC key) (tgC nonce) (tgC root) 29
  rw [← hW1] at g1 g2 g3
  have HB1 : Hid (Below w.heap.size w W1) := hide (by rw [hW1]; exact below3 _ _ _ _)
  have Hkey := hide g1
  have Hnonce := hide g2
  have HRR := hide (tag_row root g3)
  clear g1 g2 g3
  have HP1 := hide (hP.ext HB1.out)
  have hw0 := hP.1
  clear hP
  obtain ⟨kt, hkt⟩ : ∃ kt, dkey key uVault [] = kt := ⟨_, rfl⟩
  obtain ⟨sx, hsx⟩ : ∃ sx, sealB kt nonce root.l = sx := ⟨_, rfl⟩
  have HKT := hide hkt
  have HSX := hide hsx
  have HRES : Hid (hideB key nonce root = sx) := hide (by rw [hideB, hkt, hsx])
  have HFL := hide vault_len
  have HLR : Hid (root.l.length < 1048576) := hide (by rw [root.len]; decide)
  clear hkt hsx
  go_enter Tryd.func53, Tryd.ntmps53
  go_wp2_with fail
  rw [← hW1]
  clear hW1
  refine wp_region_ext mixed 6 (fun i v w' => match i with
    | 0 => v = tgV key
    | 1 => v = tgV kt
    | 2 => v = tgV nonce
    | 3 => v = .slice (some ⟨w.heap.size + 2, 0, none⟩) 32 32
    | 4 => v = .string (txt root.l)
    | _ => v = .string (txt sx)
    ) (regOk_of (by kernel_rfl)) rfl ?_ ?_ ?_
  · intro i v w1 w2 h1 h2
    split at h2 <;> exact h2
  · refine ⟨fun a w2 hle hd hf hs K hK => ?_, fun a w2 hle hd hf hs K hK => ?_, fun a w2 hle hd hf hs K hK => ?_, fun a w2 hle hd hf hs K hK => ?_, fun a w2 hle hd hf hs K hK => ?_, fun a w2 hle hd hf hs K hK => ?_, trivial⟩
    all_goals clear hd
    · -- 7 := Op.load 29 t3
      have e3 := hf 3 rfl; simp [Act.eval] at e3
      have hq : agg? w2 ⟨w.heap.size, 0, none⟩ 32 = some (tgC key) := (agg_of_row (hle.heap Hkey.out) 0 32 (by decide)).trans (tgC_part key)
      go_simp; exact hK _ _ (Ext.refl _) rfl
    · -- 8 := Op.call { value (Operand.func 22), args := #[t7, const (Value.string { data := #[118, 97, 117, 108, 116] }), const (Value.slice none 0 0)], argTypes := #[29, 9, 34] }
      have e7 := hs 0 7 (needs_direct (by kernel_rfl)) rfl; simp [Act.eval] at e7
      go_simp
      refine (c_dkey key uVault none 0 0 [] _ w2 (Kd.Row.nil kStr (fun _ => True) w2 none 0 (Nat.zero_le _)) (by decide) (HP1.out.ext hle) HFL.out).mono ?_
      rintro z w9 ⟨rfl, b9⟩
      rw [HKT.out]
      exact hK _ _ b9 rfl
    · -- 9 := Op.load 29 t4
      have e4 := hf 4 rfl; simp [Act.eval] at e4
      have hq : agg? w2 ⟨w.heap.size + 1, 0, none⟩ 32 = some (tgC nonce) := (agg_of_row (hle.heap Hnonce.out) 0 32 (by decide)).trans (tgC_part nonce)
      go_simp; exact hK _ _ (Ext.refl _) rfl
    · -- 10 := Op.slice 29 t5 none none none
      have e5 := hf 5 rfl; simp [Act.eval] at e5
      go_simp; exact hK _ _ (Ext.refl _) rfl
    · -- 11 := Op.convert 22 9 t10
      have e10 := hs 3 10 (needs_direct (by kernel_rfl)) rfl; simp [Act.eval] at e10
      have hq := row_string (P := Tryd.prog) Tryd.underlying22 Tryd.underlying5 Tryd.underlying9 (HRR.out.below hle)
      go_simp; exact hK _ _ (Ext.refl _) rfl
    · -- 12 := Op.call { value (Operand.func 36), args := #[t8, t9, t11], argTypes := #[29, 29, 9] }
      have e8 := hs 1 8 (needs_direct (by kernel_rfl)) rfl; have e9 := hs 2 9 (needs_direct (by kernel_rfl)) rfl; have e11 := hs 4 11 (needs_direct (by kernel_rfl)) rfl; simp [Act.eval] at e8 e9 e11
      go_simp
      refine (c_seal kt nonce root.l w2 HLR.out (HP1.out.ext hle)).mono ?_
      rintro z w9 ⟨rfl, b9⟩
      rw [HSX.out]
      exact hK _ _ b9 rfl
  intro vs w8 hle hs
  have v5 := hs 5 (by omega) rfl
  simp only at v5
  clear hs
  have HB9 := hide (HB1.out.trans (hle.mono HB1.out.size))
  clear hle
  simp only [putN, dstAt]
  go_simp
  go_wp2_with fail
  go_ret
  exact ⟨by rw [HRES.out]; rfl, HB9.out⟩
set_option maxRecDepth 100000 in
set_option maxHeartbeats 800000 in
theorem c_rhide (key nonce root : Tg) (w : World) :
    Calls Tryd.prog 54 #[tgV key, tgV nonce, tgV root] w fun e w' => e = .returned (.string (txt (hideB key nonce root))) ∧ Below w.heap.size w w' := by
  obtain ⟨W1, hW1⟩ : ∃ W1, W1 = ((w.alloc (.cells (tgC key) 29)).alloc (.cells (tgC nonce) 29)).alloc (.cells (tgC root) 29) := ⟨_, rfl⟩
  obtain ⟨g1, g2, g3⟩ := heap3 w (tgC key) (tgC nonce) (tgC root) 29
  rw [← hW1] at g1 g2 g3
  have HB1 : Hid (Below w.heap.size w W1) := hide (by rw [hW1]; exact below3 _ _ _ _)
  have Hkey := hide g1
  have Hnonce := hide g2
  have HRR := hide (tag_row root g3)
  clear g1 g2 g3
  obtain ⟨kt, hkt⟩ : ∃ kt, dkey key uVault [] = kt := ⟨_, rfl⟩
  obtain ⟨sx, hsx⟩ : ∃ sx, sealB kt nonce root.l = sx := ⟨_, rfl⟩
  have HKT := hide hkt
  have HSX := hide hsx
  have HRES : Hid (hideB key nonce root = sx) := hide (by rw [hideB, hkt, hsx])
  have HFL := hide vault_len
  have HLR : Hid (root.l.length < 1048576) := hide (by rw [root.len]; decide)
  clear hkt hsx
  go_enter Tryd.func54, Tryd.ntmps54
  go_wp2_with fail
  rw [← hW1]
  clear hW1
  refine wp_region_ext mixed 6 (fun i v w' => match i with
    | 0 => v = tgV key
    | 1 => v = tgV kt
    | 2 => v = tgV nonce
    | 3 => v = .slice (some ⟨w.heap.size + 2, 0, none⟩) 32 32
    | 4 => v = .string (txt root.l)
    | _ => v = .string (txt sx)
    ) (regOk_of (by kernel_rfl)) rfl ?_ ?_ ?_
  · intro i v w1 w2 h1 h2
    split at h2 <;> exact h2
  · refine ⟨fun a w2 hle hd hf hs K hK => ?_, fun a w2 hle hd hf hs K hK => ?_, fun a w2 hle hd hf hs K hK => ?_, fun a w2 hle hd hf hs K hK => ?_, fun a w2 hle hd hf hs K hK => ?_, fun a w2 hle hd hf hs K hK => ?_, trivial⟩
    all_goals clear hd
    · -- 7 := Op.load 29 t3
      have e3 := hf 3 rfl; simp [Act.eval] at e3
      have hq : agg? w2 ⟨w.heap.size, 0, none⟩ 32 = some (tgC key) := (agg_of_row (hle.heap Hkey.out) 0 32 (by decide)).trans (tgC_part key)
      go_simp; exact hK _ _ (Ext.refl _) rfl
    · -- 8 := Op.call { value (Operand.func 23), args := #[t7, const (Value.string { data := #[118, 97, 117, 108, 116] }), const (Value.slice none 0 0)], argTypes := #[29, 9, 34] }
      have e7 := hs 0 7 (needs_direct (by kernel_rfl)) rfl; simp [Act.eval] at e7
      go_simp
      refine (c_rkey key uVault none 0 0 [] _ w2 (Kd.Row.nil kStr (fun _ => True) w2 none 0 (Nat.zero_le _)) (by decide) HFL.out).mono ?_
      rintro z w9 ⟨rfl, b9⟩
      rw [HKT.out]
      exact hK _ _ b9 rfl
    · -- 9 := Op.load 29 t4
      have e4 := hf 4 rfl; simp [Act.eval] at e4
      have hq : agg? w2 ⟨w.heap.size + 1, 0, none⟩ 32 = some (tgC nonce) := (agg_of_row (hle.heap Hnonce.out) 0 32 (by decide)).trans (tgC_part nonce)
      go_simp; exact hK _ _ (Ext.refl _) rfl
    · -- 10 := Op.slice 29 t5 none none none
      have e5 := hf 5 rfl; simp [Act.eval] at e5
      go_simp; exact hK _ _ (Ext.refl _) rfl
    · -- 11 := Op.convert 22 9 t10
      have e10 := hs 3 10 (needs_direct (by kernel_rfl)) rfl; simp [Act.eval] at e10
      have hq := row_string (P := Tryd.prog) Tryd.underlying22 Tryd.underlying5 Tryd.underlying9 (HRR.out.below hle)
      go_simp; exact hK _ _ (Ext.refl _) rfl
    · -- 12 := Op.call { value (Operand.func 37), args := #[t8, t9, t11], argTypes := #[29, 29, 9] }
      have e8 := hs 1 8 (needs_direct (by kernel_rfl)) rfl; have e9 := hs 2 9 (needs_direct (by kernel_rfl)) rfl; have e11 := hs 4 11 (needs_direct (by kernel_rfl)) rfl; simp [Act.eval] at e8 e9 e11
      go_simp
      refine (c_rseal kt nonce root.l w2 HLR.out).mono ?_
      rintro z w9 ⟨rfl, b9⟩
      rw [HSX.out]
      exact hK _ _ b9 rfl
  intro vs w8 hle hs
  have v5 := hs 5 (by omega) rfl
  simp only at v5
  clear hs
  have HB9 := hide (HB1.out.trans (hle.mono HB1.out.size))
  clear hle
  simp only [putN, dstAt]
  go_simp
  go_wp2_with fail
  go_ret
  exact ⟨by rw [HRES.out]; rfl, HB9.out⟩
end Go.Proofs.YtdkeflhgengblaaDoor
namespace Go.Proofs.YtdkeflhgengblaaDoor
open Go.RowKit

section
variable {P : Program} {ops : Array Oper}

/-- THE LAW. S i: what is known of the value that operation i yields, and goes on to hold; Le: how worlds grow. -/
theorem wp_region_two {Q : Exit → Act → World → Prop} {id : Nat} {a0 : Act} {w0 : World} (hm : P.follows .mixedOrders = true) (n : Nat) (hok : regOk ops n = true)
    (hslots : ((List.range n).all fun i => (dstAt ops i).all fun d => decide (d < a0.tmps.size)) = true)
    (Le : World → World → Prop) (hrefl : ∀ w, Le w w) (htrans : ∀ w w' w'', Le w w' → Le w' w'' → Le w w'')
    (e : Nat) (T : World → Prop) (Lt : World → World → Prop) (hlt : ∀ w w', Lt w w' → Le w w') (hT0 : T w0.drew) (hT : ∀ w w', Lt w w' → T w → T w')
    (S : Nat → Value → World → Prop) (hS : ∀ i v w w', i ≠ e → Le w w' → S i v w → S i v w') (hSe : ∀ v w w', Lt w w' → S e v w → S e v w') (U : World → Prop) (hU : ∀ w w', Lt w w' → U w → U w') (hSU : ∀ v w, S e v w → U w) (hen : e < n)
    (hop : ∀ i, i < n → ∀ o, ops[i]? = some o → ∀ (a : Act) (w : World), Le w0.drew w → a.defers = a0.defers → (∀ t, freeSlot ops n t = true → a.tmps.getD t undef = a0.tmps.getD t undef) →
      (∀ j d, (needs ops ops.size i).contains j = true → dstAt ops j = some d → S j (a.tmps.getD d undef) w) →
      (i = e → T w) → ∀ K : Act → World → Prop, (∀ v w', (Lt w w' ∨ i = e ∧ Le w w') → S i v w' → K (a.put o.dst v) w') → if Region.wanted o (yielded ops a.tmps) = true then o.wp P a w K Q else K (a.put o.dst undef) w)
    (hQ : ∀ (vs : Nat → Value) (w : World), Le w0.drew w → (∀ i, i < n → (dstAt ops i).isSome = true → S i (vs i) w) → U w → wpList P ops Q (ops.toList.drop n) (putN ops vs n a0) w) :
    (Code.region id ops true).wp P Q a0 w0 := by
  refine wp_region_any hm ?_
  have hnsz : n ≤ ops.size := by simp only [regOk, Bool.and_eq_true, decide_eq_true_eq] at hok; exact hok.2
  have hslot : ∀ i d, i < n → dstAt ops i = some d → d < a0.tmps.size := by
    intro i d hi hd
    have := List.all_eq_true.1 hslots i (by simpa using hi)
    rw [hd] at this
    simpa using this
  have key : ∀ (fuel : Nat) (l : Array Bool) (a : Act) (w : World), (l.getD e false = false → T w) → (l.getD e false = true → U w) → l.size = ops.size → cnt l ops.size ≤ fuel → Closed ops l → (∀ i, n ≤ i → i < ops.size → l.getD i false = false) → Le w0.drew w → a.defers = a0.defers → a.tmps.size = a0.tmps.size →
      (∀ t, (∀ i, i < n → l.getD i false = true → dstAt ops i ≠ some t) → a.tmps.getD t undef = a0.tmps.getD t undef) →
      (∀ i d, i < n → l.getD i false = true → dstAt ops i = some d → S i (a.tmps.getD d undef) w) → wpAny P .any ops Q fuel l a w := by
    intro fuel
    -- all of the first n are listed: the tail
    have tail : ∀ (fuel : Nat) (l : Array Bool) (a : Act) (w : World), (l.getD e false = true → U w) → l.size = ops.size → cnt l ops.size ≤ fuel → (∀ i, n ≤ i → i < ops.size → l.getD i false = false) → (∀ i, i < n → l.getD i false = true) → Le w0.drew w → a.defers = a0.defers → a.tmps.size = a0.tmps.size →
        (∀ t, (∀ i, i < n → l.getD i false = true → dstAt ops i ≠ some t) → a.tmps.getD t undef = a0.tmps.getD t undef) →
        (∀ i d, i < n → l.getD i false = true → dstAt ops i = some d → S i (a.tmps.getD d undef) w) → wpAny P .any ops Q fuel l a w := by
      intro fuel l a w hUl hs hc ht hall hle hd hsz hfree hSi
      have hcn : ∀ m, m ≤ ops.size → n ≤ m → cnt l m = m - n := by
        intro m
        induction m with
        | zero => intro _ h; rw [cnt]; omega
        | succ m ih =>
          intro h1 h2
          rw [cnt]
          by_cases e : n = m + 1
          · have : ∀ q, q ≤ m + 1 → cnt l q = 0 := by
              intro q
              induction q with
              | zero => intro _; rfl
              | succ q ihq => intro hq; rw [cnt, ihq (by omega), if_pos (hall q (by omega))]
            have h3 := this m (by omega)
            rw [h3, if_pos (hall m (by omega))]; omega
          · rw [ih (by omega) (by omega), ht m (by omega) (by omega)]
            simp; omega
      refine wpAny_tail hok fuel n l a w hs (Nat.le_refl _) hnsz (by have := hcn ops.size (Nat.le_refl _) hnsz; omega) (fun i hi => ⟨fun h => ?_, fun h => hall i h⟩) ?_
      · rcases Nat.lt_or_ge i n with h' | h'
        · exact h'
        · rw [ht i h' hi] at h; cases h
      · have ha : a = putN ops (fun i => ((dstAt ops i).map fun d => a.tmps.getD d undef).getD undef) n a0 := by
          have h1 := putN_size (ops := ops) (fun i => ((dstAt ops i).map fun d => a.tmps.getD d undef).getD undef) a0 n
          have ht : a.tmps = (putN ops (fun i => ((dstAt ops i).map fun d => a.tmps.getD d undef).getD undef) n a0).tmps := by
            apply Array.ext
            · rw [h1.1, hsz]
            · intro t ht1 ht2
              have hg : a.tmps.getD t undef = (putN ops (fun i => ((dstAt ops i).map fun d => a.tmps.getD d undef).getD undef) n a0).tmps.getD t undef := by
                by_cases hex : ∃ i, i < n ∧ dstAt ops i = some t
                · obtain ⟨i, hi, hdi⟩ := hex
                  rw [putN_at _ a0 (hsz ▸ ht1) hdi n hi (fun j hj hne hdj => regOk_dst hok hj hi hne hdj hdi)]
                  simp only [hdi, Option.map_some, Option.getD_some]
                · rw [putN_free _ a0 n (fun i hi hdi => hex ⟨i, hi, hdi⟩)]
                  exact hfree t fun i hi _ hdi => hex ⟨i, hi, hdi⟩
              have e1 : ∀ (A : Array Value) (h : t < A.size), A.getD t undef = A[t] := fun A h => by unfold Array.getD; rw [dif_pos h]; rfl
              rw [e1 _ ht1, e1 _ ht2] at hg
              exact hg
          cases a with
          | mk ta da =>
            cases hp : putN ops (fun i => ((dstAt ops i).map fun d => (Act.mk ta da).tmps.getD d undef).getD undef) n a0 with
            | mk tb db =>
              rw [hp] at ht h1
              simp only at ht h1 hd
              rw [ht, hd, h1.2]
        rw [ha]
        refine hQ _ w hle (fun i hi hsome => ?_) (hUl (hall e hen))
        obtain ⟨d, hdi⟩ := Option.isSome_iff_exists.1 hsome
        simp only [hdi, Option.map_some, Option.getD_some]
        exact hSi i d hi (hall i hi) hdi
    induction fuel with
    | zero =>
      intro l a w hTl hUl hs hc hcl ht hle hd hsz hfree hSi
      have hz := cnt_zero (l := l) (n := ops.size) (by omega)
      exact tail 0 l a w hUl hs hc ht (fun i hi => hz i (by omega)) hle hd hsz hfree hSi
    | succ fuel ih =>
      intro l a w hTl hUl hs hc hcl ht hle hd hsz hfree hSi
      by_cases hall : ∀ i, i < n → l.getD i false = true
      · exact tail _ l a w hUl hs hc ht hall hle hd hsz hfree hSi
      · refine ⟨fun h0 => absurd ?_ hall, fun i hi => ?_⟩
        · -- nothing is ready: all are listed
          intro i
          induction i using Nat.strongRecOn with
          | _ i ihi =>
            intro hi
            by_cases hb : l.getD i false = true
            · exact hb
            · exfalso
              have hi' : i < ops.size := by omega
              have : i ∈ Region.ready .any ops l := mem_ready.2 ⟨by simp [hs, hi'] at hb ⊢; exact hb, _, Array.getElem?_eq_getElem hi', fun e he hbd => by
                have hlt := regOk_edges hok (Array.getElem?_eq_getElem hi') e he hbd
                exact ihi e.on hlt (by omega)⟩
              rw [h0] at this
              simp at this
        · obtain ⟨h0, o, ho, hallo⟩ := mem_ready.1 hi
          have hi' : i < ops.size := (Array.getElem?_eq_some_iff.1 ho).1
          have h0' : l.getD i false = false := by simp [hs, hi'] at h0 ⊢; exact h0
          have hin : i < n := by
            rcases Nat.lt_or_ge i n with h' | h'
            · exact h'
            · exfalso
              refine hall fun j hj => needs_listed hcl ops.size i o ho hallo j (regOk_tail hok hi' h' (by omega))
          have hneeds := needs_listed hcl ops.size i o ho hallo
          have hdst : dstAt ops i = o.dst := by simp [dstAt, ho]
          have hnext : ∀ v w', (Lt w w' ∨ i = e ∧ Le w w') → S i v w' → wpAny P .any ops Q fuel (l.setIfInBounds i true) (a.put o.dst v) w' := by
            intro v w' hlo hSv
            have hlw : Le w w' := hlo.elim (hlt _ _) And.right
            refine ih _ _ _ (fun hfe => ?_) (fun hfe => ?_) (by simpa using hs) (by have := cnt_set (by omega) h0' hi'; omega) ?_ ?_ (htrans _ _ _ hle hlw) (by rw [put_defers']; exact hd) (by rw [put_size]; exact hsz) ?_ ?_
            · have hne : i ≠ e := fun h => by
                subst h
                rw [getD_set_same (by omega)] at hfe
                cases hfe
              rw [getD_set_ne false hne] at hfe
              rcases hlo with h | ⟨h, -⟩
              · exact hT _ _ h (hTl hfe)
              · exact absurd h hne
            · by_cases hne : i = e
              · subst hne
                exact hSU v w' hSv
              · rw [getD_set_ne false hne] at hfe
                rcases hlo with h | ⟨h, -⟩
                · exact hU _ _ h (hUl hfe)
                · exact absurd h hne
            · intro i' o' ho' hl' e he hb
              by_cases e' : i = i'
              · subst e'
                rw [ho] at ho'
                have := Option.some.inj ho'
                subst this
                exact getD_set_true (hallo e he hb)
              · rw [getD_set_ne false e'] at hl'
                exact getD_set_true (hcl i' o' ho' hl' e he hb)
            · intro j hj hj'
              rw [getD_set_ne false (by omega)]
              exact ht j hj hj'
            · intro t hft
              rw [getD_put_ne]
              · exact hfree t fun j hj hlj => hft j hj (getD_set_true hlj)
              · rw [← hdst]
                exact hft i hin (getD_set_same (by omega) _)
            · intro j d hj hlj hdj
              by_cases eij : i = j
              · subst eij
                rw [← hdst, hdj, getD_put_same (by rw [hsz]; exact hslot i d hin hdj)]
                exact hSv
              · rw [getD_set_ne false eij] at hlj
                rw [getD_put_ne]
                · by_cases hje : j = e
                  · subst hje
                    rcases hlo with h | ⟨h, -⟩
                    · exact hSe _ w w' h (hSi j d hj hlj hdj)
                    · exact absurd h eij
                  · exact hS j _ w w' hje hlw (hSi j d hj hlj hdj)
                · rw [← hdst]
                  exact fun h => regOk_dst hok hin hj eij h hdj
          have := hop i hin o ho a w hle hd (fun t hft => hfree t fun j hj _ hdj => by
              simp only [freeSlot, List.all_eq_true, List.mem_range, bne_iff_ne] at hft
              exact hft j hj hdj)
            (fun j d hj hdj => by
              have hjm : j ∈ needs ops ops.size i := by simpa using hj
              have hlj := hneeds j hjm
              have hjn : j < n := by
                rcases Nat.lt_or_ge j n with h' | h'
                · exact h'
                · exfalso
                  rcases Nat.lt_or_ge j ops.size with h'' | h''
                  · rw [ht j h' h''] at hlj; cases hlj
                  · simp [dstAt, Array.getElem?_eq_none h''] at hdj
              exact hSi j d hjn hlj hdj)
            (fun h => hTl (h ▸ h0')) (wpAny P .any ops Q fuel (l.setIfInBounds i true)) hnext
          unfold wpOp
          rw [ho]
          simp only
          split
          · rename_i hw; rw [if_pos hw] at this; exact .inl this
          · rename_i hw; rw [if_neg hw] at this; exact this
  refine key ops.size _ a0 w0.drew (fun _ => hT0) (fun h => by
    have he : e < ops.size := by omega
    simp [he] at h) (by simp) ?_ ?_ ?_ (hrefl _) rfl rfl (fun _ _ => rfl) ?_
  · have : ∀ (l : Array Bool) m, cnt l m ≤ m := by
      intro l m
      induction m with
      | zero => exact Nat.le_refl _
      | succ m ih => rw [cnt]; split <;> omega
    exact this _ _
  · intro i o ho hl
    have hi : i < ops.size := (Array.getElem?_eq_some_iff.1 ho).1
    simp [hi] at hl
  · intro i _ hi
    simp [hi]
  · intro i d hi hl
    have : i < ops.size := by omega
    simp [this] at hl

/-- b: the block that operation e may change; T: what holds until e is done. -/
theorem wp_region_st {Q : Exit → Act → World → Prop} {id : Nat} {a0 : Act} {w0 : World} (hm : P.follows .mixedOrders = true) (n : Nat) (b : Option Nat) (e : Nat) (T : World → Prop) (S : Nat → Value → World → Prop) (hok : regOk ops n = true)
    (hslots : ((List.range n).all fun i => (dstAt ops i).all fun d => decide (d < a0.tmps.size)) = true) (hT0 : T w0) (hT : ∀ w w', Ext w w' → T w → T w')
    (hS : ∀ i v w w', i ≠ e → w.grownBy w' b → S i v w → S i v w') (hSe : ∀ v w w', Ext w w' → S e v w → S e v w') (U : World → Prop) (hU : ∀ w w', Ext w w' → U w → U w') (hSU : ∀ v w, S e v w → U w) (hen : e < n) (hop : Hops1 P ops n a0 w0 b e T S Q (ops.toList.take n) 0)
    (hQ : ∀ (vs : Nat → Value) (w : World), w0.grownBy w b → (∀ i, i < n → (dstAt ops i).isSome = true → S i (vs i) w) → U w → wpList P ops Q (ops.toList.drop n) (putN ops vs n a0) w) :
    (Code.region id ops true).wp P Q a0 w0 := by
  refine wp_region_two hm n hok hslots (fun w w' => w.grownBy w' b) (fun w => grownBy_refl w b) (fun _ _ _ => grownBy_trans) e T Ext (fun _ _ => grownBy_ext) (hT _ _ (Ext.drew _) hT0) hT S hS hSe U hU hSU hen (fun i hi o ho a w hle hd hf hs hTi K hK => ?_) (fun vs w hle => hQ vs w (grownBy_trans (grownBy_ext (Ext.drew _)) hle))
  have h := hops1_at _ 0 i o hop (by rw [List.getElem?_take, if_pos hi]; simpa using ho)
  rw [Nat.zero_add] at h
  have h := h a w (grownBy_trans (grownBy_ext (Ext.drew _)) hle) hd hf hs hTi K hK
  cases hg : o.guard with
  | none =>
    rw [hg] at h
    rw [if_pos (by simp [Region.wanted, hg])]
    exact h
  | some jw =>
    obtain ⟨j, want⟩ := jw
    rw [hg] at h
    simp only at h
    split
    · rename_i hw
      rw [if_pos (by simpa [Region.wanted, hg] using hw)] at h
      exact h
    · rename_i hw
      rw [if_neg (by simpa [Region.wanted, hg] using hw)] at h
      exact h
end
end Go.Proofs.YtdkeflhgengblaaDoor
namespace Go.Proofs.YtdkeflhgengblaaDoor
open Go.RowKit
structure Deal where
  party : Nat
  key : Tg
  root : Tg
  cond : List UInt8
  ask : Tg
  vault : Tg
/-- A deal's cells. -/
def dealC (p : Value) (k r : Tg) (c : Value) (a v : Tg) : Array Value := #[p] ++ tgC k ++ tgC r ++ #[c] ++ tgC a ++ tgC v
abbrev dealA (d : Deal) : Array Value := dealC (.int .u64 (d.party : Int)) d.key d.root (.string (txt d.cond)) d.ask d.vault
theorem part_mid (A B C : Array Value) (o n : Nat) (ho : A.size = o) (hn : B.size = n) : part? (A ++ B ++ C) o n = some B := by
  subst ho hn
  rw [part?, if_pos (by simp only [Array.size_append]; omega)]
  congr 1
  apply Array.toList_inj.1
  rw [Array.toList_extract, Array.toList_append, Array.toList_append, List.extract_eq_take_drop, List.append_assoc, show A.size = A.toList.length from Array.length_toList.symm, List.drop_left, Nat.add_sub_cancel_left, show B.size = B.toList.length from Array.length_toList.symm, List.take_left]
theorem at_mid (A C : Array Value) (x : Value) (o : Nat) (ho : A.size = o) : (A ++ #[x] ++ C)[o]? = some x := by
  subst ho
  rw [Array.getElem?_append, if_pos (by simp), Array.getElem?_append, if_neg (by omega), Nat.sub_self]
  rfl
variable (p c : Value) (k r a v : Tg)
theorem dealC_size : (dealC p k r c a v).size = 130 := by simp [dealC, tgC_size]
theorem dealC_0 : (dealC p k r c a v)[0]? = some p := by
  have := at_mid #[] (tgC k ++ tgC r ++ #[c] ++ tgC a ++ tgC v) p 0 rfl
  rw [← this, dealC]
  simp only [Array.append_assoc, Array.empty_append]
theorem dealC_65 : (dealC p k r c a v)[65]? = some c := by
  have := at_mid (#[p] ++ tgC k ++ tgC r) (tgC a ++ tgC v) c 65 (by simp [tgC_size])
  rw [← this, dealC]
  simp only [Array.append_assoc]
theorem dealC_key : part? (dealC p k r c a v) 1 32 = some (tgC k) := by
  have := part_mid #[p] (tgC k) (tgC r ++ #[c] ++ tgC a ++ tgC v) 1 32 rfl (tgC_size k)
  rw [← this, dealC]
  simp only [Array.append_assoc]
theorem dealC_root : part? (dealC p k r c a v) 33 32 = some (tgC r) := by
  have := part_mid (#[p] ++ tgC k) (tgC r) (#[c] ++ tgC a ++ tgC v) 33 32 (by simp [tgC_size]) (tgC_size r)
  rw [← this, dealC]
  simp only [Array.append_assoc]
theorem dealC_ask : part? (dealC p k r c a v) 66 32 = some (tgC a) := by
  have := part_mid (#[p] ++ tgC k ++ tgC r ++ #[c]) (tgC a) (tgC v) 66 32 (by simp [tgC_size]) (tgC_size a)
  rw [← this, dealC]
theorem dealC_vault : part? (dealC p k r c a v) 98 32 = some (tgC v) := by
  have := part_mid (#[p] ++ tgC k ++ tgC r ++ #[c] ++ tgC a) (tgC v) #[] 98 32 (by simp [tgC_size]) (tgC_size v)
  rw [← this, dealC]
  simp only [Array.append_empty]
theorem dealC_all : dealC p k r c a v = dealC p k r c a v := rfl
end Go.Proofs.YtdkeflhgengblaaDoor
