/- The walks of layers 8 and 9, further: a field's bytes. No condition. -/
import Derived.Test.YtdkeflhgengblaaDoorFld
import Derived.Test.YtdkeflhgengblaaDoorReg
namespace Go.Proofs.YtdkeflhgengblaaDoor
open Go.RowKit

theorem mixed : Tryd.prog.follows .mixedOrders = true := by kernel_rfl

/-- A field. -/
structure Fld where
  kind : UInt8
  value : ByteArray
  deriving DecidableEq
def Fld.cells (f : Fld) : List Value := [bv f.kind, .string f.value]
def kFld : Kd Fld where
  sz := 2
  K _ _ f cs := cs = f.cells ∧ f.value.size ≤ maxLen
  len h := by rw [h.1]; rfl
  one h u hu := by
    rw [h.1] at hu
    simp [Fld.cells] at hu
    rcases hu with rfl | rfl <;> rfl
  keep _ h := h
  more _ h := h
  bound h := h
def fput (f : Fld) : List UInt8 := f.kind :: (vput f.value.size ++ byt f.value)

set_option maxRecDepth 100000 in
set_option maxHeartbeats 800000 in
theorem c_fput (A : Option Addr) (n c : Nat) (xs : List UInt8) (k : UInt8) (s : ByteArray) (ok : Nat → Prop) (w : World) (hR : kU8.Row ok w A n c xs) (hn : n ≤ 1099511627776) (hs : s.size ≤ 1099511627776) :
    Calls Tryd.prog 114 #[.slice A n c, .agg #[bv k, .string s]] w fun e w' => ∃ v, e = .returned v ∧ kU8.Own (fun _ => True) w.heap.size w' 5 v (xs ++ fput ⟨k, s⟩) ∧ Below w.heap.size w w' := by
  have HR := hide hR
  have hc : n ≤ c := hR.2.1
  have hm : c ≤ 9223372036854775807 := hR.2.2.1
  have HN := hide hn
  have HS := hide hs
  clear hR hn hs
  go_enter Tryd.func114, Tryd.ntmps114
  go_wp2
  refine wp_region_ext mixed 9 (fun i v w' => match i with
    | 0 => v = .slice A n c
    | 1 => v = .slice A n c
    | 2 => v = .int .i64 (n : Int)
    | 3 => v = .slice A n c
    | 4 => v = .int .i64 (n : Int)
    | 5 => v = .slice A n n
    | 6 => v = .pointer (some ⟨w.heap.size, 0, none⟩)
    | 7 => v = bv k
    | _ => ∃ g, v = .slice (some ⟨g, 0, none⟩) 1 1 ∧ w'.heap[g]? = some (.cells #[bv k] 5)
    ) (by kernel_rfl) rfl ?_ ?_ ?_
  · intro i v w1 w2 h1 h2
    split at h2 <;> first | exact h2 | (obtain ⟨g, rfl, hg⟩ := h2; exact ⟨g, rfl, h1.heap hg⟩)
  · refine ⟨fun a w1 hle hd hf hs K hK => ?_, fun a w1 hle hd hf hs K hK => ?_, fun a w1 hle hd hf hs K hK => ?_, fun a w1 hle hd hf hs K hK => ?_, fun a w1 hle hd hf hs K hK => ?_, fun a w1 hle hd hf hs K hK => ?_, fun a w1 hle hd hf hs K hK => ?_, fun a w1 hle hd hf hs K hK => ?_, fun a w1 hle hd hf hs K hK => ?_, trivial⟩
    all_goals clear hd
    · -- 5 := Op.move t0
      have e0 := hf 0 rfl; simp [Act.eval] at e0
      go_simp; exact hK _ _ (Ext.refl _) rfl
    · -- 6 := Op.move t0
      have e0 := hf 0 rfl; simp [Act.eval] at e0
      go_simp; exact hK _ _ (Ext.refl _) rfl
    · -- 7 := Op.call { builtin len, args := #[t6], argTypes := #[60] }
      have e6 := hs 1 6 (by kernel_rfl) rfl; simp [Act.eval] at e6
      go_simp; exact hK _ _ (Ext.refl _) rfl
    · -- 8 := Op.move t0
      have e0 := hf 0 rfl; simp [Act.eval] at e0
      go_simp; exact hK _ _ (Ext.refl _) rfl
    · -- 9 := Op.call { builtin len, args := #[t8], argTypes := #[60] }
      have e8 := hs 3 8 (by kernel_rfl) rfl; simp [Act.eval] at e8
      go_simp; exact hK _ _ (Ext.refl _) rfl
    · -- 10 := Op.slice 60 t5 none (some t7) (some t9)
      have e5 := hs 0 5 (by kernel_rfl) rfl; have e7 := hs 2 7 (by kernel_rfl) rfl; have e9 := hs 4 9 (by kernel_rfl) rfl; simp [Act.eval] at e5 e7 e9
      go_simp; exact hK _ _ (Ext.refl _) rfl
    · -- 11 := Op.fieldAddr 117 t3 0
      have e3 := hf 3 rfl; simp [Act.eval] at e3
      go_simp; exact hK _ _ (Ext.refl _) rfl
    · -- 12 := Op.load 5 t11
      have e11 := hs 6 11 (by kernel_rfl) rfl; simp [Act.eval] at e11
      have hc := hle.cell (a := ⟨w.heap.size, 0, none⟩) (v := bv k) (by go_simp)
      go_simp; exact hK _ _ (Ext.refl _) rfl
    · -- 13 := Op.buildSlice 60 1 #[(0, t12)]
      have e12 := hs 7 12 (by kernel_rfl) rfl; simp [Act.eval] at e12
      go_simp; exact hK _ _ (Ext.alloc _ _) ⟨_, rfl, heap_alloc_new _ _⟩
  · intro vs w1 hle hs
    have v0 := hs 0 (by omega) rfl
    have v1 := hs 1 (by omega) rfl
    have v2 := hs 2 (by omega) rfl
    have v3 := hs 3 (by omega) rfl
    have v4 := hs 4 (by omega) rfl
    have v5 := hs 5 (by omega) rfl
    have v6 := hs 6 (by omega) rfl
    have v7 := hs 7 (by omega) rfl
    have v8 := hs 8 (by omega) rfl
    simp only at v0 v1 v2 v3 v4 v5 v6 v7 v8
    clear hs
    obtain ⟨g, v8, hg⟩ := v8
    simp only [putN, dstAt]
    go_simp
    have hle2 : Ext w w1 := (Ext.alloc _ _).trans hle
    have HR1 := hide (row8 (ok' := fun _ => True) (HR.out.clip.below hle2) (fun _ _ _ => trivial))
    have HS1 := hide (src8 (ok := fun _ => True) (ok' := fun _ => True) (Kd.Src.blk (d := kU8) (x := k) hg ⟨rfl, trivial⟩ rfl))
    have HL := hide hle2
    have hcell : w1.heap[w.heap.size]? = some (.cells #[bv k, .string s] 144) := hle.heap (heap_alloc_new _ _)
    have HC := hide hcell
    clear hg hle hle2 hcell v0 v1 v2 v3 v4 v5 v6 v7 v8
    go_wp2_with (at_builtin; go_must (refine wpList_full (d := kU8) rfl _ _ _ rfl Tryd.underlying22 u8_info rfl (by decide) 1 rfl rfl HR1.out HS1.out (by decide) ?_ ?_ ?_))
    · have := HN.out; simp only [maxLen]; omega
    · have := HN.out; omega
    intro v1 w2 h2 h3
    have hcell2 := Ext.heap h3 HC.out
    have hc2 : w2.cell? ⟨w.heap.size, 1, none⟩ = some (.string s) := by rw [cell_of_row w2 _ _ _ _ _ hcell2]; rfl
    obtain ⟨A1, c1, hv1, hr2⟩ := h2.row
    have hl : xs.length = n := HR.out.1
    rw [List.length_append, List.length_cons, List.length_nil, hl] at hv1 hr2
    have HB1 := hide (HL.out.trans h3)
    have HR2 := hide hr2
    have HW := hide (show IntKind.u64.wrap (s.size : Int) = (s.size : Int) by have := HS.out; rw [IntKind.wrap_u64]; omega)
    clear h2 h3 hcell2 hr2
    rw [hv1]
    clear hv1
    go_wp2
    refine wp_region_ext mixed 8 (fun i v w' => match i with
      | 0 => v = .slice A1 (n + 1) c1
      | 1 => v = .pointer (some ⟨w.heap.size, 1, none⟩)
      | 2 => v = .string s
      | 3 => v = .int .i64 (s.size : Int)
      | 4 => v = .int .u64 (s.size : Int)
      | 5 => ∃ A2 c2, v = .slice A2 (n + 1 + (vput s.size).length) c2 ∧ kU8.Own (fun _ => True) w.heap.size w' 5 v ((xs ++ [k]) ++ vput s.size)
      | 6 => v = .pointer (some ⟨w.heap.size, 1, none⟩)
      | _ => v = .string s
      ) (by kernel_rfl) rfl ?_ ?_ ?_
    · intro i v w1 w2 h1 h2
      split at h2 <;> first | exact h2 | (obtain ⟨A2, c2, h3, h4⟩ := h2; exact ⟨A2, c2, h3, h4.below h1⟩)
    · refine ⟨fun a w1 hle hd hf hs K hK => ?_, fun a w1 hle hd hf hs K hK => ?_, fun a w1 hle hd hf hs K hK => ?_, fun a w1 hle hd hf hs K hK => ?_, fun a w1 hle hd hf hs K hK => ?_, fun a w1 hle hd hf hs K hK => ?_, fun a w1 hle hd hf hs K hK => ?_, fun a w1 hle hd hf hs K hK => ?_, trivial⟩
      all_goals clear hd
      · -- 15 := Op.move t0
        have e0 := hf 0 rfl; simp [Act.eval] at e0
        go_simp; exact hK _ _ (Ext.refl _) rfl
      · -- 16 := Op.fieldAddr 117 t3 1
        have e3 := hf 3 rfl; simp [Act.eval] at e3
        go_simp; exact hK _ _ (Ext.refl _) rfl
      · -- 17 := Op.load 9 t16
        have e16 := hs 1 16 (by kernel_rfl) rfl; simp [Act.eval] at e16
        have hc := hle.cell hc2
        go_simp; exact hK _ _ (Ext.refl _) rfl
      · -- 18 := Op.call { builtin len, args := #[t17], argTypes := #[9] }
        have e17 := hs 2 17 (by kernel_rfl) rfl; simp [Act.eval] at e17
        go_simp; exact hK _ _ (Ext.refl _) rfl
      · -- 19 := Op.convert 3 39 t18
        have e18 := hs 3 18 (by kernel_rfl) rfl; simp [Act.eval] at e18
        have hw := HW.out
        go_simp; exact hK _ _ (Ext.refl _) rfl
      · -- 20 := Op.call { value (Operand.func 84), args := #[t15, t19], argTypes := #[60, 39] }
        have e15 := hs 0 15 (by kernel_rfl) rfl; have e19 := hs 4 19 (by kernel_rfl) rfl; simp [Act.eval] at e15 e19
        go_simp
        refine (c_vput A1 (n + 1) c1 (xs ++ [k]) s.size _ _ _ rfl (HR2.out.below hle) (by have := HN.out; omega) (by have := HS.out; omega)).mono ?_
        rintro e w4 ⟨v, rfl, ho, hb⟩
        obtain ⟨A2, c2, hv⟩ := ho.form
        refine hK _ _ hb ⟨A2, c2, by rw [hv]; simp only [List.length_append, List.length_cons, List.length_nil, hl], ho.lower ?_⟩
        have := hle.size
        have := HB1.out.size
        simp at *
        omega
      · -- 21 := Op.fieldAddr 117 t3 1
        have e3 := hf 3 rfl; simp [Act.eval] at e3
        go_simp; exact hK _ _ (Ext.refl _) rfl
      · -- 22 := Op.load 9 t21
        have e21 := hs 6 21 (by kernel_rfl) rfl; simp [Act.eval] at e21
        have hc := hle.cell hc2
        go_simp; exact hK _ _ (Ext.refl _) rfl
    · intro vs w1 hle hs
      have v0 := hs 0 (by omega) rfl
      have v1 := hs 1 (by omega) rfl
      have v2 := hs 2 (by omega) rfl
      have v3 := hs 3 (by omega) rfl
      have v4 := hs 4 (by omega) rfl
      have v5 := hs 5 (by omega) rfl
      have v6 := hs 6 (by omega) rfl
      have v7 := hs 7 (by omega) rfl
      simp only at v0 v1 v2 v3 v4 v5 v6 v7
      clear hs
  
      obtain ⟨A2, c2, v5, ho⟩ := v5
      simp only [putN, dstAt]
      go_simp
      have HB2 := hide (HB1.out.trans hle)
      rw [v5] at ho
      have HO := hide ho
      clear hle ho v0 v1 v2 v3 v4 v5 v6 v7
      go_wp2_with (at_builtin; go_must (refine wpList_app_str rfl _ _ _ _ rfl Tryd.underlying22 Tryd.underlying9 u8_info s rfl rfl (.inl HO.out) HB2.out.size ?_ ?_))
      · have h1 := HN.out; have h2 := HS.out; have h3 := vput_len10 (n := s.size) (by omega); simp only [List.length_append, List.length_cons, List.length_nil]; omega
      intro v1 w4 _ h1 h3 _ _
      have H1 := hide (h1 (.inr (by simpa using HO.out)))
      have H3 := hide h3
      clear h1 h3
      go_wp2
      go_ret
      refine ⟨_, rfl, ?_, Below.trans HB2.out H3.out⟩
      have := H1.out
      simpa [fput] using this
end Go.Proofs.YtdkeflhgengblaaDoor
