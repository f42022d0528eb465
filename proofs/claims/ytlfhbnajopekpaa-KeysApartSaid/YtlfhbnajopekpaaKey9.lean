/- The walks of layer 23: keys cloned. No condition. -/
import Derived.Test.YtlfhbnajopekpaaKey6
import Derived.Shelf.SlMaps.Clone
namespace Go.Proofs.Ytlfhbnajopekpaa
open Go.RowKit
open Go.Maps (Keyed)
attribute [local go_sem ↓] ld32 ld35
attribute [local go_sem] run_ldAgg run_storeAgg agg_alloc_at agg_alloc_past agg_drew agg_setCell row_alloc_at row_alloc_past row_drew setRow_alloc_at setRow_alloc_past setRow_drew agg_setRow_at agg_setRow_far cell_setRow_at cell_setRow_far row_setRow_far size_setRow tgC_size tgC_one tgC_part tgC_splice tgC_splice_any zero_tg tgC_ne keyC_size keyC_g0 keyC_g33 keyC_g34 keyC_0 keyC_33 keyC_34 keyC_part keyC_tag keyC_splice0 keyC_set33 keyC_set34 zero_key keyC_all keyC_ne

theorem needs_direct {ops : Array Oper} {i j : Nat} (h : ((ops[i]?).map fun o => o.after.toList.any fun e => Region.binds .any e && e.on == j) = some true) : (needs ops ops.size i).contains j = true := by
  cases ho : ops[i]? with
  | none => rw [ho] at h; cases h
  | some o =>
    rw [ho] at h
    simp only [Option.map_some, Option.some.injEq, List.any_eq_true, Bool.and_eq_true, beq_iff_eq] at h
    obtain ⟨e, he, h1, h2⟩ := h
    have hi : i < ops.size := (Array.getElem?_eq_some_iff.1 ho).1
    obtain ⟨f, hf⟩ : ∃ f, ops.size = f + 1 := ⟨ops.size - 1, by omega⟩
    rw [hf, needs, ho]
    simp only [List.contains_iff_mem, List.mem_flatMap, List.mem_filter]
    exact ⟨e, ⟨he, h1⟩, by simp [h2]⟩
set_option maxRecDepth 100000 in
set_option maxHeartbeats 400000 in
theorem c_mclone0 (b : Nat) (es : Array MapEntry) (clock : Nat) (w : World) (hb : w.heap[b]? = some (.map es clock)) :
    Calls Try.prog 59 #[.map (some b)] w fun e w' => e = .returned (.map (some w.heap.size)) ∧ w' = w.alloc (.map es clock) := by
  have hq := fun w => run_eql_map_nil_sl (P := Try.prog) w 107 _ _ (some b) Try.underlying107
  go_enter Try.func59, Try.ntmps59
  go_wp2
  rw [run_callFunc_extern Try.func83 (by kernel_rfl) (by kernel_rfl) (by kernel_rfl) (e := Extern.MapsClone.clone) (by kernel_rfl), run_maps_clone_sl w 107 hb]
  simp only [Result.andThen]
  rw [Oper.upon_value]
  go_wp2
  rw [run_typeAssert_map_sl _ 107 _ _ _ _ Try.underlying107]
  simp only [Result.andThen]
  rw [Oper.upon_value]
  go_wp2
  go_ret
  exact ⟨rfl, rfl⟩
theorem c_mclone {b s : Nat} {F : Nat → Option Ky} (w : World) (h : KMap w b F s) :
    Calls Try.prog 59 #[.map (some b)] w fun e w' => ∃ b', e = .returned (.map (some b')) ∧ w.heap.size ≤ b' ∧ KMap w' b' F s ∧ Below w.heap.size w w' := by
  obtain ⟨D, ⟨es, clock, hb, h2⟩, h3⟩ := h
  refine (c_mclone0 b es clock w hb).mono ?_
  rintro e w' ⟨rfl, rfl⟩
  exact ⟨_, rfl, Nat.le_refl _, ⟨D, ⟨es, clock, heap_alloc_new _ _, h2⟩, h3⟩, below1 _ _⟩
def MapOwn (n : Nat) (S : Ks) (v : Value) (w : World) : Prop := ∃ b, v = .map (some b) ∧ n ≤ b ∧ KMap w b S.F S.s
def AggOwn (n : Nat) (S : Ks) (v : Value) (w : World) : Prop := ∃ b, v = .agg #[.int .i64 (S.most : Int), .int .u64 (S.last : Int), .map (some b)] ∧ n ≤ b ∧ KMap w b S.F S.s
def PtrOwn (n : Nat) (S : Ks) (v : Value) (w : World) : Prop := ∃ g b, v = .pointer (some ⟨g, 0, none⟩) ∧ n ≤ g ∧ n ≤ b ∧ KeysAt w g b S
theorem MapOwn.below {n : Nat} {S : Ks} {v : Value} {w w' : World} (h : MapOwn n S v w) (e : Ext w w') : MapOwn n S v w' := let ⟨b, h1, h2, h3⟩ := h; ⟨b, h1, h2, h3.ext e⟩
theorem AggOwn.below {n : Nat} {S : Ks} {v : Value} {w w' : World} (h : AggOwn n S v w) (e : Ext w w') : AggOwn n S v w' := let ⟨b, h1, h2, h3⟩ := h; ⟨b, h1, h2, h3.ext e⟩
theorem PtrOwn.below {n : Nat} {S : Ks} {v : Value} {w w' : World} (h : PtrOwn n S v w) (e : Ext w w') : PtrOwn n S v w' := let ⟨g, b, h1, h2, h3, h4⟩ := h; ⟨g, b, h1, h2, h3, h4.ext e⟩
set_option maxRecDepth 100000 in
set_option maxHeartbeats 400000 in
theorem c_kclone {S : Ks} {g b : Nat} (w : World) (h : KeysAt w g b S) : Calls Try.prog 22 #[.pointer (some ⟨g, 0, none⟩)] w fun e w' =>
    ∃ g' b', e = .returned (.pointer (some ⟨g', 0, none⟩)) ∧ KeysAt w' g' b' S ∧ w.heap.size ≤ g' ∧ w.heap.size ≤ b' ∧ Below w.heap.size w w' := by
  have hgs := (Array.getElem?_eq_some_iff.1 h.1).1
  obtain ⟨hc0, hc1, hc2, hf⟩ := h.cells
  have H := hide h
  clear h
  go_enter Try.func22, Try.ntmps22
  go_wp2_with fail
  refine wp_region_ext mixed 15 (fun i v w' => match i with
    | 0 => v = .pointer (some ⟨g, 0, none⟩)
    | 1 => v = .pointer (some ⟨g, 0, none⟩)
    | 2 => v = .pointer (some ⟨g, 0, none⟩)
    | 3 => v = .int .i64 (S.most : Int)
    | 4 => v = .pointer (some ⟨g, 0, none⟩)
    | 5 => v = .pointer (some ⟨g, 0, none⟩)
    | 6 => v = .pointer (some ⟨g, 1, none⟩)
    | 7 => v = .int .u64 (S.last : Int)
    | 8 => v = .pointer (some ⟨g, 0, none⟩)
    | 9 => v = .pointer (some ⟨g, 0, none⟩)
    | 10 => v = .pointer (some ⟨g, 2, none⟩)
    | 11 => v = .map (some b)
    | 12 => MapOwn w.heap.size S v w'
    | 13 => AggOwn w.heap.size S v w'
    | _ => PtrOwn w.heap.size S v w'
    ) (by kernel_rfl) rfl ?_ ?_ ?_
  · intro i v w1 w2 h1 h2
    split at h2 <;> first | exact h2 | exact h2.below h1
  · refine ⟨fun a w2 hle hd hf hs K hK => ?_, fun a w2 hle hd hf hs K hK => ?_, fun a w2 hle hd hf hs K hK => ?_, fun a w2 hle hd hf hs K hK => ?_, fun a w2 hle hd hf hs K hK => ?_, fun a w2 hle hd hf hs K hK => ?_, fun a w2 hle hd hf hs K hK => ?_, fun a w2 hle hd hf hs K hK => ?_, fun a w2 hle hd hf hs K hK => ?_, fun a w2 hle hd hf hs K hK => ?_, fun a w2 hle hd hf hs K hK => ?_, fun a w2 hle hd hf hs K hK => ?_, fun a w2 hle hd hf hs K hK => ?_, fun a w2 hle hd hf hs K hK => ?_, fun a w2 hle hd hf hs K hK => ?_, trivial⟩
    all_goals clear hd
    · -- 3 := Op.move t0
      have e0 := hf 0 rfl; simp [Act.eval] at e0
      go_simp; exact hK _ _ (Ext.refl _) rfl
    · -- 4 := Op.nilCheck t3
      have e3 := hs 0 3 (needs_direct (by kernel_rfl)) rfl; simp [Act.eval] at e3
      go_simp; exact hK _ _ (Ext.refl _) rfl
    · -- 5 := Op.fieldAddr 109 t4 0
      have e4 := hs 1 4 (needs_direct (by kernel_rfl)) rfl; simp [Act.eval] at e4
      go_simp; exact hK _ _ (Ext.refl _) rfl
    · -- 6 := Op.load 3 t5
      have e5 := hs 2 5 (needs_direct (by kernel_rfl)) rfl; simp [Act.eval] at e5
      have hq := hle.cell hc0
      go_simp; exact hK _ _ (Ext.refl _) rfl
    · -- 7 := Op.move t0
      have e0 := hf 0 rfl; simp [Act.eval] at e0
      go_simp; exact hK _ _ (Ext.refl _) rfl
    · -- 8 := Op.nilCheck t7
      have e7 := hs 4 7 (needs_direct (by kernel_rfl)) rfl; simp [Act.eval] at e7
      go_simp; exact hK _ _ (Ext.refl _) rfl
    · -- 9 := Op.fieldAddr 109 t8 1
      have e8 := hs 5 8 (needs_direct (by kernel_rfl)) rfl; simp [Act.eval] at e8
      go_simp; exact hK _ _ (Ext.refl _) rfl
    · -- 10 := Op.load 39 t9
      have e9 := hs 6 9 (needs_direct (by kernel_rfl)) rfl; simp [Act.eval] at e9
      have hq := hle.cell hc1
      go_simp; exact hK _ _ (Ext.refl _) rfl
    · -- 11 := Op.move t0
      have e0 := hf 0 rfl; simp [Act.eval] at e0
      go_simp; exact hK _ _ (Ext.refl _) rfl
    · -- 12 := Op.nilCheck t11
      have e11 := hs 8 11 (needs_direct (by kernel_rfl)) rfl; simp [Act.eval] at e11
      go_simp; exact hK _ _ (Ext.refl _) rfl
    · -- 13 := Op.fieldAddr 109 t12 2
      have e12 := hs 9 12 (needs_direct (by kernel_rfl)) rfl; simp [Act.eval] at e12
      go_simp; exact hK _ _ (Ext.refl _) rfl
    · -- 14 := Op.load 107 t13
      have e13 := hs 10 13 (needs_direct (by kernel_rfl)) rfl; simp [Act.eval] at e13
      have hq := hle.cell hc2
      go_simp; exact hK _ _ (Ext.refl _) rfl
    · -- 15 := Op.call { value (Operand.func 59), args := #[t14], argTypes := #[107] }
      have e14 := hs 11 14 (needs_direct (by kernel_rfl)) rfl; simp [Act.eval] at e14
      go_simp
      refine (c_mclone w2 (H.out.2.ext hle)).mono ?_
      rintro e w3 ⟨b', rfl, hb', hk', b3⟩
      exact hK _ _ b3 ⟨b', rfl, Nat.le_trans hle.size hb', hk'⟩
    · -- 16 := Op.build 109 #[(0, t6), (1, t10), (2, t15)]
      have e6 := hs 3 6 (needs_direct (by kernel_rfl)) rfl; have e10 := hs 7 10 (needs_direct (by kernel_rfl)) rfl; have e15 := hs 12 15 (needs_direct (by kernel_rfl)) rfl; simp [Act.eval] at e6 e10 e15
      obtain ⟨b', e15, hb', hk'⟩ := e15
      go_simp
      exact hK _ _ (Ext.refl _) ⟨b', rfl, hb', hk'⟩
    · -- 17 := Op.box 109 t16
      have e16 := hs 13 16 (needs_direct (by kernel_rfl)) rfl; simp [Act.eval] at e16
      obtain ⟨b', e16, hb', hk'⟩ := e16
      go_simp
      exact hK _ _ (Ext.alloc _ _) ⟨w2.heap.size, b', rfl, hle.size, hb', heap_alloc_new _ _, hk'.ext (below1 _ _)⟩
  intro vs w8 hle hs
  have v14 := hs 14 (by omega) rfl
  simp only at v14
  clear hs
  obtain ⟨g', b', v14, hg', hb', hk'⟩ := v14
  have HK := hide hk'
  clear hk'
  simp only [putN, dstAt]
  go_simp
  go_wp2_with fail
  exact bodyPost_ret (v := .pointer (some ⟨g', 0, none⟩)) (by simp [results, Try.results22, go_sem]) rfl ⟨g', b', rfl, HK.out, hg', hb', hle⟩
end Go.Proofs.Ytlfhbnajopekpaa
