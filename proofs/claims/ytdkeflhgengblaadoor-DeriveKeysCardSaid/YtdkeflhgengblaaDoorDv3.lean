/- Layer 6: a key for one use, and its answer. No condition. -/
import Derived.Test.YtdkeflhgengblaaDoorDv2
import Derived.Test.YtdkeflhgengblaaDoorRs7
import Derived.Test.YtdkeflhgengblaaDoorReg3
namespace Go.Proofs.YtdkeflhgengblaaDoor
open Go.RowKit
attribute [local go_sem ↓] ld8 ld32 ld64 ld73
attribute [local go_sem] run_ldAgg run_storeAgg agg_alloc_at agg_alloc_past agg_drew agg_setCell row_alloc_at row_alloc_past row_drew setRow_alloc_at setRow_alloc_past setRow_drew agg_setRow_at agg_setRow_far cell_setRow_at cell_setRow_far row_setRow_far size_setRow s8C_size s8C_part s8C_one s8C_splice0 s8C_ne dgC_size dgC_72 dgC_part dgC_h dgC_r dgC_splice_h dgC_set dgC_one dgC_splice0 dgC_ne zero_dg
attribute [local go_sem] tgC_size tgC_one tgC_part tgC_splice tgC_splice_any zero_tg tgC_ne

theorem srcS {ok ok' : Nat → Prop} {w : World} {A : Option Addr} {m : Nat} {xs : List ByteArray} (h : kStr.Src ok w A m xs) : kStr.Src ok' w A m xs := let ⟨h1, css, he, hc⟩ := h; ⟨h1, css, ⟨he.1, fun i x cs hx hcs => he.2 i x cs hx hcs⟩, hc⟩
theorem strs_info : (Tryd.prog.info? 9).map (fun i => (i.zero, i.size, i.bytes)) = some (some (.string ByteArray.empty), kStr.sz, 16) := by kernel_rfl
theorem str_lit (w : World) (s : ByteArray) (hs : s.size ≤ maxLen) : kStr.Own (fun _ => True) w.heap.size (w.alloc (.cells #[.string s] 9)) 9 (.slice (some ⟨w.heap.size, 0, none⟩) 1 1) [s] :=
  Kd.Own.lit (d := kStr) (css := [[.string s]]) (Kd.Els.single (d := kStr) ⟨rfl, hs⟩) _ rfl 1 rfl (by decide) _ rfl (Nat.le_refl _)
theorem str_one (w : World) (s : ByteArray) (E : TypeId) (hs : s.size ≤ maxLen) : kStr.Row (fun _ => True) (w.alloc (.cells #[.string s] E)) (some ⟨w.heap.size, 0, none⟩) 1 1 [s] := by
  have hg := heap_alloc_new w (.cells #[.string s] E)
  refine ⟨rfl, Nat.le_refl _, by decide, fun _ => ⟨w.heap.size, 0, rfl, trivial, (Array.getElem?_eq_some_iff.1 hg).1, fun i y hy => ?_⟩⟩
  have hi : i = 0 := by have := (List.getElem?_eq_some_iff.1 hy).1; simp at this; omega
  subst hi
  have hy' : y = s := by simpa using hy.symm
  subst hy'
  refine ⟨[.string y], ⟨rfl, hs⟩, fun j u hu => ?_⟩
  have hj : j = 0 := by have := (List.getElem?_eq_some_iff.1 hu).1; simp at this; omega
  subst hj
  have hu' : u = .string y := by simpa using hu.symm
  subst hu'
  rw [cell_of_row _ _ _ _ _ _ hg]
  rfl
theorem row8_two (w : World) (E : TypeId) {ok ok' : Nat → Prop} {A B : Option Addr} {n c m d : Nat} {x y : List UInt8} (hx : kU8.Row ok w A n c x) (hy : kU8.Row ok' w B m d y) : kRow8.Row (fun _ => True) (w.alloc (.cells #[.slice A n c, .slice B m d] E)) (some ⟨w.heap.size, 0, none⟩) 2 2 [x, y] := by
  have hg := heap_alloc_new w (.cells #[.slice A n c, .slice B m d] E)
  have hx' := (hx.below (below1 w (.cells #[.slice A n c, .slice B m d] E))).more (ok' := fun _ => True) fun _ _ => trivial
  have hy' := (hy.below (below1 w (.cells #[.slice A n c, .slice B m d] E))).more (ok' := fun _ => True) fun _ _ => trivial
  refine ⟨rfl, Nat.le_refl _, by decide, fun _ => ⟨w.heap.size, 0, rfl, trivial, (Array.getElem?_eq_some_iff.1 hg).1, fun i z hz => ?_⟩⟩
  have hi : i < 2 := (List.getElem?_eq_some_iff.1 hz).1
  have : i = 0 ∨ i = 1 := by omega
  rcases this with rfl | rfl
  · have e : z = x := by simpa using hz.symm
    subst e
    refine ⟨[.slice A n c], ⟨A, n, c, rfl, hx'⟩, fun j u hu => ?_⟩
    have hj : j = 0 := by have := (List.getElem?_eq_some_iff.1 hu).1; simp at this; omega
    subst hj
    have hu' : u = .slice A n c := by simpa using hu.symm
    subst hu'
    rw [cell_of_row _ _ _ _ _ _ hg]
    rfl
  · have e : z = y := by simpa using hz.symm
    subst e
    refine ⟨[.slice B m d], ⟨B, m, d, rfl, hy'⟩, fun j u hu => ?_⟩
    have hj : j = 0 := by have := (List.getElem?_eq_some_iff.1 hu).1; simp at this; omega
    subst hj
    have hu' : u = .slice B m d := by simpa using hu.symm
    subst hu'
    rw [cell_of_row _ _ _ _ _ _ hg]
    rfl
theorem frames_len (l : List ByteArray) : 8 * l.length ≤ (frames l).length := by
  induction l with
  | nil => exact Nat.zero_le _
  | cons s l ih => rw [frames_cons, List.length_append, frm_len, List.length_cons]; omega
theorem frames_one (s : ByteArray) : frames [s] = frm s := by rw [frames_cons, frames_nil, List.append_nil]
/-- A key, or a mac, for one use. -/
def dkey (key : Tg) (use : ByteArray) (parts : List ByteArray) : Tg := macT key.l (frames (use :: parts))
theorem tag_row {w : World} {g : Nat} {T : TypeId} {fr : Nat × Nat} (t : Tg) (hg : w.heap[g]? = some (.cells (tgC t) T fr)) : kU8.Row (fun _ => True) w (some ⟨g, 0, none⟩) 32 32 t.l := by
  rw [tgC_bl] at hg
  have := row_all (ok := fun _ => True) hg trivial (by rw [t.len]; decide)
  rwa [t.len] at this
set_option maxRecDepth 100000 in
set_option maxHeartbeats 800000 in
theorem c_dkey (key : Tg) (use : ByteArray) (B : Option Addr) (m d : Nat) (parts : List ByteArray) (ok : Nat → Prop) (w : World) (hR : kStr.Row ok w B m d parts) (hU : use.size ≤ maxLen) (hP : PrimesAt w) (hn : (frames (use :: parts)).length < 1073741824) :
    Calls Tryd.prog 22 #[tgV key, .string use, .slice B m d] w fun e w' => e = .returned (tgV (dkey key use parts)) ∧ Below w.heap.size w w' := by
  obtain ⟨t, htt⟩ : ∃ t, t = dkey key use parts := ⟨_, rfl⟩
  obtain ⟨F1, hF1⟩ : ∃ F, F = frames [use] := ⟨_, rfl⟩
  obtain ⟨F2, hF2⟩ : ∃ F, F = frames parts := ⟨_, rfl⟩
  obtain ⟨f1, hf1⟩ : ∃ f, f = F1.length := ⟨_, rfl⟩
  obtain ⟨f2, hf2⟩ : ∃ f, f = F2.length := ⟨_, rfl⟩
  have hfl : frames (use :: parts) = F1 ++ F2 := by rw [hF1, hF2, frames_one, frames_cons]
  have HT : Hid (macT key.l [F1, F2].flatten = t) := hide (by rw [htt, dkey, hfl]; simp)
  have HTT : Hid (dkey key use parts = t) := hide htt.symm
  have HF1 : Hid (frames [use] = F1) := hide hF1.symm
  have HF2 : Hid (frames parts = F2) := hide hF2.symm
  have HL1 : Hid (F1.length = f1) := hide hf1.symm
  have HL2 : Hid (F2.length = f2) := hide hf2.symm
  have HN1 : Hid (f1 + f2 < 1073741824) := hide (by rw [hfl, List.length_append] at hn; omega)
  have HU := hide hU
  have HR := hide (hR.bound.more (ok' := fun k => k < w.heap.size) fun k h => h.2)
  have HP := hide hP
  clear hR hU hP hn htt hF1 hF2 hf1 hf2 hfl
  go_enter Tryd.func22, Tryd.ntmps22
  go_wp2_with fail
  obtain ⟨W1, hW1⟩ : ∃ W1, W1 = (w.alloc (.cells (tgC key) 29)).alloc (.cells (tgC Tg.zero) 29) := ⟨_, rfl⟩
  have HB1 : Hid (Below w.heap.size w W1) := hide (by rw [hW1]; exact below2 _ _ _)
  have HK1 : Hid (kU8.Row (fun _ => True) W1 (some ⟨w.heap.size, 0, none⟩) 32 32 key.l) := hide (tag_row key (by
    rw [hW1, Below.heap_alloc _ _ _ (by simp only [World.size_alloc]; omega)]; exact heap_alloc_new _ _))
  have HZ1 : Hid (W1.heap[w.heap.size + 1]? = some (.cells (tgC Tg.zero) 29)) := hide (by
    rw [hW1]
    have := heap_alloc_new (w.alloc (.cells (tgC key) 29)) (.cells (tgC Tg.zero) 29)
    rwa [World.size_alloc] at this)
  rw [← hW1]
  have HR1 := hide (HR.out.belowB HB1.out)
  have HP1 := hide (HP.out.ext HB1.out)
  clear hW1 HR HP
  refine wp_region_ext mixed 8 (fun i v w' => match i with
    | 0 => v = .slice (some ⟨w.heap.size, 0, none⟩) 32 32
    | 1 => v = .string use
    | 2 => ∃ A c, v = .slice A 1 c ∧ kStr.Row (fun _ => True) w' A 1 c [use]
    | 3 => ∃ A c, v = .slice A f1 c ∧ kU8.Row (fun _ => True) w' A f1 c F1
    | 4 => v = .slice B m d
    | 5 => ∃ A c, v = .slice A f2 c ∧ kU8.Row (fun _ => True) w' A f2 c F2
    | 6 => ∃ A c, v = .slice A 2 c ∧ kRow8.Row (fun _ => True) w' A 2 c [F1, F2]
    | _ => v = tgV t
    ) (regOk_of (by kernel_rfl)) rfl ?_ ?_ ?_
  · intro i v w1 w2 h1 h2
    split at h2 <;> first | exact h2 | (obtain ⟨A, c, e, hr⟩ := h2; exact ⟨A, c, e, hr.below h1⟩)
  · refine ⟨fun a w2 hle hd hf hs K hK => ?_, fun a w2 hle hd hf hs K hK => ?_, fun a w2 hle hd hf hs K hK => ?_, fun a w2 hle hd hf hs K hK => ?_, fun a w2 hle hd hf hs K hK => ?_, fun a w2 hle hd hf hs K hK => ?_, fun a w2 hle hd hf hs K hK => ?_, fun a w2 hle hd hf hs K hK => ?_, trivial⟩
    all_goals clear hd
    · -- 7 := Op.slice 29 t3 none none none
      have e3 := hf 3 rfl; simp [Act.eval] at e3
      go_simp; exact hK _ _ (Ext.refl _) rfl
    · -- 8 := Op.move t1
      have e1 := hf 1 rfl; simp [Act.eval] at e1
      go_simp; exact hK _ _ (Ext.refl _) rfl
    · -- 9 := Op.buildSlice 34 1 #[(0, t8)]
      have e8 := hs 1 8 (needs_direct (by kernel_rfl)) rfl; simp [Act.eval] at e8
      go_simp
      exact hK _ _ (Ext.alloc _ _) ⟨_, _, rfl, str_one w2 use _ HU.out⟩
    · -- 10 := Op.call { value (Operand.func 20), args := #[t9], argTypes := #[34] }
      obtain ⟨A9, c9, e9, hr9⟩ := hs 2 9 (needs_direct (by kernel_rfl)) rfl; simp [Act.eval] at e9
      go_simp
      refine (c_frame A9 1 c9 [use] _ w2 hr9 (by rw [HF1.out]; have := HN1.out; have := HL1.out; omega)).mono ?_
      rintro z w9 ⟨v9, rfl, h9, b9⟩
      obtain ⟨A8, c8, rfl, hr8⟩ := own_row h9
      rw [HF1.out] at hr8 ⊢
      rw [HL1.out] at hr8 ⊢
      exact hK _ _ b9 ⟨A8, c8, rfl, hr8.more fun _ _ => trivial⟩
    · -- 11 := Op.move t2
      have e2 := hf 2 rfl; simp [Act.eval] at e2
      go_simp; exact hK _ _ (Ext.refl _) rfl
    · -- 12 := Op.call { value (Operand.func 20), args := #[t11], argTypes := #[34] }
      have e11 := hs 4 11 (needs_direct (by kernel_rfl)) rfl; simp [Act.eval] at e11
      go_simp
      refine (c_frame B m d parts _ w2 (HR1.out.below hle) (by rw [HF2.out]; have := HN1.out; have := HL2.out; omega)).mono ?_
      rintro z w9 ⟨v9, rfl, h9, b9⟩
      obtain ⟨A8, c8, rfl, hr8⟩ := own_row h9
      rw [HF2.out] at hr8 ⊢
      rw [HL2.out] at hr8 ⊢
      exact hK _ _ b9 ⟨A8, c8, rfl, hr8.more fun _ _ => trivial⟩
    · -- 13 := Op.buildSlice 23 2 #[(0, t10), (1, t12)]
      obtain ⟨A10, c10, e10, hr10⟩ := hs 3 10 (needs_direct (by kernel_rfl)) rfl; obtain ⟨A12, c12, e12, hr12⟩ := hs 5 12 (needs_direct (by kernel_rfl)) rfl; simp [Act.eval] at e10 e12
      go_simp
      exact hK _ _ (Ext.alloc _ _) ⟨_, _, rfl, row8_two w2 _ hr10 hr12⟩
    · -- 14 := Op.call { value (Operand.func 17), args := #[t7, t13], argTypes := #[22, 23] }
      have e7 := hs 0 7 (needs_direct (by kernel_rfl)) rfl; obtain ⟨A13, c13, e13, hr13⟩ := hs 6 13 (needs_direct (by kernel_rfl)) rfl; simp [Act.eval] at e7 e13
      go_simp
      refine (c_mof _ A13 32 32 2 c13 key.l [F1, F2] _ _ w2 (HK1.out.below hle) hr13 (HP1.out.ext hle) (by decide) (by have := HN1.out; have := HL1.out; have := HL2.out; simp only [List.flatten_cons, List.flatten_nil, List.append_nil, List.length_append]; omega)).mono ?_
      rintro z w9 ⟨rfl, b9⟩
      rw [HT.out]
      exact hK _ _ b9 rfl
  intro vs w8 hle hs
  have v7 := hs 7 (by omega) rfl
  simp only at v7
  clear hs
  have hz8 := hle.heap HZ1.out
  have hrz := row_of hz8
  have HB9 := hide (bsetRow (HB1.out.trans (hle.mono HB1.out.size)) (Nat.le_succ _) (tgC t))
  have hag9 : agg? (w8.setRow (w.heap.size + 1) (tgC t)) ⟨w.heap.size + 1, 0, none⟩ 32 = some (tgC t) := (agg_setRow_at _ _ _ _ _ (by rw [hrz]; rfl) (by decide)).trans (tgC_part t)
  clear hle hz8
  simp only [putN, dstAt]
  go_simp
  go_wp2_with fail
  exact bodyPost_ret (v := tgV t) (by simp [results, Tryd.results22, go_sem, hag9]) rfl ⟨by rw [HTT.out], HB9.out⟩

set_option maxRecDepth 100000 in
set_option maxHeartbeats 800000 in
theorem c_rkey (key : Tg) (use : ByteArray) (B : Option Addr) (m d : Nat) (parts : List ByteArray) (ok : Nat → Prop) (w : World) (hR : kStr.Row ok w B m d parts) (hU : use.size ≤ maxLen) (hn : (frames (use :: parts)).length < 1073741824) :
    Calls Tryd.prog 23 #[tgV key, .string use, .slice B m d] w fun e w' => e = .returned (tgV (dkey key use parts)) ∧ Below w.heap.size w w' := by
  obtain ⟨t, htt⟩ : ∃ t, t = dkey key use parts := ⟨_, rfl⟩
  obtain ⟨F, hF⟩ : ∃ F, F = frames (use :: parts) := ⟨_, rfl⟩
  obtain ⟨f, hf⟩ : ∃ f, f = F.length := ⟨_, rfl⟩
  have HT : Hid (mac key.l F = t.l) := hide (by rw [htt, dkey, hF]; rfl)
  have HTT : Hid (dkey key use parts = t) := hide htt.symm
  have HF : Hid (frames (use :: parts) = F) := hide hF.symm
  have HL : Hid (F.length = f) := hide hf.symm
  have hf30 : f < 1073741824 := by rw [hf, hF]; exact hn
  have hm : m ≤ 1073741824 := by have := frames_len (use :: parts); have := hR.1; rw [List.length_cons] at *; omega
  have HU := hide hU
  have HR := hide (hR.bound.more (ok' := fun k => k < w.heap.size) fun k h => h.2)
  clear hR hU hn htt hF hf
  have HB2 : Hid (Below w.heap.size w (((w.alloc (.cells (tgC key) 29)).alloc (.cells (tgC Tg.zero) 29)).alloc (.cells #[.string use] 9))) := hide (below3 _ _ _ _)
  have HG2 : Hid ((((w.alloc (.cells (tgC key) 29)).alloc (.cells (tgC Tg.zero) 29)).alloc (.cells #[.string use] 9)).heap[w.heap.size]? = some (.cells (tgC key) 29)) := hide (by
    rw [Below.heap_alloc _ _ _ (by simp only [World.size_alloc]; omega), Below.heap_alloc _ _ _ (by simp only [World.size_alloc]; omega)]; exact heap_alloc_new _ _)
  have HZ2 : Hid ((((w.alloc (.cells (tgC key) 29)).alloc (.cells (tgC Tg.zero) 29)).alloc (.cells #[.string use] 9)).heap[w.heap.size + 1]? = some (.cells (tgC Tg.zero) 29)) := hide (by
    rw [Below.heap_alloc _ _ _ (by simp only [World.size_alloc]; omega)]
    have := heap_alloc_new (w.alloc (.cells (tgC key) 29)) (.cells (tgC Tg.zero) 29)
    rwa [World.size_alloc] at this)
  have HO2 : Hid (kStr.Own (fun _ => True) (w.heap.size + 1 + 1) (((w.alloc (.cells (tgC key) 29)).alloc (.cells (tgC Tg.zero) 29)).alloc (.cells #[.string use] 9)) 9 (.slice (some ⟨w.heap.size + 1 + 1, 0, none⟩) 1 1) [use]) := hide (by
    have := str_lit ((w.alloc (.cells (tgC key) 29)).alloc (.cells (tgC Tg.zero) 29)) use HU.out
    simpa only [World.size_alloc] using this)
  have HR2 := hide (HR.out.belowB HB2.out)
  clear HR
  go_enter Tryd.func23, Tryd.ntmps23
  go_wp2_with (at_builtin; go_loud (refine wpList_app (d := kStr) (ok := fun _ => True) (base := w.heap.size + 1 + 1) rfl _ _ _ rfl Tryd.underlying34 strs_info rfl (by decide) d rfl rfl (.inl HO2.out) (srcS HR2.out.src) ?_ ?_ ?_ ?_))
  · simp only [World.size_alloc]; omega
  · simp only [maxLen, List.length_cons, List.length_nil]; omega
  · simp only [List.length_cons, List.length_nil]; omega
  intro v7 w7 _ h7 b7 _ _
  have h7 := h7 (.inr HO2.out)
  obtain ⟨A7, c7, hv, hr7⟩ := h7.row
  obtain ⟨n7, hn7⟩ : ∃ n, n = (use :: parts).length := ⟨_, rfl⟩
  have HR7 : Hid (kStr.Row (fun _ => True) w7 A7 n7 c7 (use :: parts)) := hide (by
    rw [hn7]; exact hr7.more fun _ _ => trivial)
  have hv' : v7 = .slice A7 n7 c7 := hv.trans (by rw [hn7])
  clear hv
  subst hv'
  have HB1 := hide (HB2.out.trans (b7.mono (by omega)))
  have HK1 := hide (tag_row key ((b7.block w.heap.size (by omega)).trans HG2.out))
  have HZ1 := hide ((b7.block (w.heap.size + 1) (by omega)).trans HZ2.out)
  clear h7 hr7 b7 hn7 HO2 HR2 HB2 HZ2 HG2
  go_wp2_with fail
  refine wp_region_ext mixed 5 (fun i v w' => match i with
    | 0 => v = .slice (some ⟨w.heap.size, 0, none⟩) 32 32
    | 1 => v = .slice A7 n7 c7
    | 2 => ∃ A c, v = .slice A f c ∧ kU8.Row (fun _ => True) w' A f c F
    | 3 => ∃ A c, v = .slice A 32 c ∧ kU8.Row (fun _ => True) w' A 32 c t.l
    | _ => v = tgV t
    ) (regOk_of (by kernel_rfl)) rfl ?_ ?_ ?_
  · intro i v w1 w2 h1 h2
    split at h2 <;> first | exact h2 | (obtain ⟨A, c, e, hr⟩ := h2; exact ⟨A, c, e, hr.below h1⟩)
  · refine ⟨fun a w2 hle hd hf hs K hK => ?_, fun a w2 hle hd hf hs K hK => ?_, fun a w2 hle hd hf hs K hK => ?_, fun a w2 hle hd hf hs K hK => ?_, fun a w2 hle hd hf hs K hK => ?_, trivial⟩
    all_goals clear hd
    · -- 12 := Op.slice 29 t3 none none none
      have e3 := hf 3 rfl; simp [Act.eval] at e3
      go_simp; exact hK _ _ (Ext.refl _) rfl
    · -- 13 := Op.move t7
      have e7 := hf 7 rfl; simp [Act.eval] at e7
      go_simp; exact hK _ _ (Ext.refl _) rfl
    · -- 14 := Op.call { value (Operand.func 21), args := #[t13], argTypes := #[34] }
      have e13 := hs 1 13 (needs_direct (by kernel_rfl)) rfl; simp [Act.eval] at e13
      go_simp
      refine (c_rframe A7 n7 c7 (use :: parts) _ w2 (HR7.out.below hle) (by rw [HF.out, HL.out]; omega)).mono ?_
      rintro z w9 ⟨v9, rfl, h9, b9⟩
      obtain ⟨A8, c8, rfl, hr8⟩ := own_row h9
      rw [HF.out] at hr8 ⊢
      rw [HL.out] at hr8 ⊢
      exact hK _ _ b9 ⟨A8, c8, rfl, hr8.more fun _ _ => trivial⟩
    · -- 15 := Op.call { value (Operand.func 16), args := #[t12, t14], argTypes := #[22, 22] }
      have e12 := hs 0 12 (needs_direct (by kernel_rfl)) rfl; obtain ⟨A14, c14, e14, hr14⟩ := hs 2 14 (needs_direct (by kernel_rfl)) rfl; simp [Act.eval] at e12 e14
      go_simp
      refine (c_rmac _ A14 32 32 f c14 key.l F _ _ w2 (HK1.out.below hle) hr14 (by decide) (by omega)).mono ?_
      rintro z w9 ⟨v9, rfl, h9, b9⟩
      obtain ⟨A8, c8, rfl, hr8⟩ := own_row h9
      rw [HT.out, t.len] at hr8
      rw [HT.out, t.len]
      exact hK _ _ b9 ⟨A8, c8, rfl, hr8.more fun _ _ => trivial⟩
    · -- 16 := Op.call { value (Operand.func 76), args := #[t15], argTypes := #[22] }
      obtain ⟨A15, c15, e15, hr15⟩ := hs 3 15 (needs_direct (by kernel_rfl)) rfl; simp [Act.eval] at e15
      go_simp
      refine (c_rtag t A15 c15 _ w2 hr15).mono ?_
      rintro z w9 ⟨rfl, b9⟩
      exact hK _ _ b9 rfl
  intro vs w8 hle hs
  have v4 := hs 4 (by omega) rfl
  simp only at v4
  clear hs
  have hz8 := hle.heap HZ1.out
  have hrz := row_of hz8
  have HB9 := hide (bsetRow (HB1.out.trans (hle.mono HB1.out.size)) (Nat.le_succ _) (tgC t))
  have hag9 : agg? (w8.setRow (w.heap.size + 1) (tgC t)) ⟨w.heap.size + 1, 0, none⟩ 32 = some (tgC t) := (agg_setRow_at _ _ _ _ _ (by rw [hrz]; rfl) (by decide)).trans (tgC_part t)
  clear hle hz8
  simp only [putN, dstAt]
  go_simp
  go_wp2_with fail
  exact bodyPost_ret (v := tgV t) (by simp [results, Tryd.results23, go_sem, hag9]) rfl ⟨by rw [HTT.out], HB9.out⟩
end Go.Proofs.YtdkeflhgengblaaDoor
