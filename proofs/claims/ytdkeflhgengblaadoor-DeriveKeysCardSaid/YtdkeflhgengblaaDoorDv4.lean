/- The walk of the statement DeriveKeys. No condition. -/
import Derived.Test.YtdkeflhgengblaaDoorDv3
import Derived.Test.YtdkeflhgengblaaDoorTagEq
namespace Go.Proofs.YtdkeflhgengblaaDoor
open Go.RowKit
attribute [local go_sem ↓] ld8 ld32 ld64 ld73
attribute [local go_sem] run_ldAgg run_storeAgg agg_alloc_at agg_alloc_past agg_drew agg_setCell row_alloc_at row_alloc_past row_drew setRow_alloc_at setRow_alloc_past setRow_drew agg_setRow_at agg_setRow_far cell_setRow_at cell_setRow_far row_setRow_far size_setRow s8C_size s8C_part s8C_one s8C_splice0 s8C_ne dgC_size dgC_72 dgC_part dgC_h dgC_r dgC_splice_h dgC_set dgC_one dgC_splice0 dgC_ne zero_dg
attribute [local go_sem] tgC_size tgC_one tgC_part tgC_splice tgC_splice_any zero_tg tgC_ne

/-- The weight of parts. -/
def wsum (l : List ByteArray) : Nat := (l.map fun s => s.size + 1).sum
theorem wsum_step {l : List ByteArray} {k : Nat} {s : ByteArray} (h : l[k]? = some s) : wsum (l.take (k + 1)) = wsum (l.take k) + (s.size + 1) := by
  rw [wsum, wsum, List.take_add_one, h]; simp
theorem wsum_le (l : List ByteArray) (k : Nat) : wsum (l.take k) ≤ wsum l := by
  have := congrArg wsum (List.take_append_drop k l).symm
  simp only [wsum, List.map_append, List.sum_append] at this ⊢
  omega
theorem wsum_frames (l : List ByteArray) : (frames l).length ≤ 8 * wsum l := by
  induction l with
  | nil => exact Nat.zero_le _
  | cons s l ih => rw [frames_cons, List.length_append, frm_len]; simp only [wsum, List.map_cons, List.sum_cons] at ih ⊢; omega
set_option maxRecDepth 100000 in
set_option maxHeartbeats 400000 in
theorem c_great (B : Option Addr) (m d : Nat) (l : List ByteArray) (ok : Nat → Prop) (w : World) (hR : kStr.Row ok w B m d l) (hs47 : ∀ s ∈ l, s.size ≤ 140737488355328) :
    Calls Tryd.prog 19 #[.slice B m d] w fun e w' => e = .returned (.bool (decide (300 < wsum l))) ∧ w' = w := by
  have HR := hide hR
  have HLL := hide hR.1
  have hm63 : m ≤ 9223372036854775807 := Nat.le_trans hR.2.1 hR.2.2.1
  have HS47 := hide hs47
  clear hR hs47
  go_enter Tryd.func19, Tryd.ntmps19
  go_wp2_with fail
  go_loopw [3, 8] (fun v i wr => ∃ (k : Nat) (q : Nat), k ≤ m ∧ v = .int .i64 (q : Int) ∧ i = .int .i64 (k : Int) ∧ Hid (wsum (l.take k) = q) ∧ q ≤ 300 ∧ wr = w) (fun _ i _ => m - (intOf i).toNat)
  case atStart => exact ⟨0, 0, Nat.zero_le _, rfl, rfl, hide rfl, Nat.zero_le _, rfl⟩
  case round =>
    obtain ⟨k, q, hk, rfl, rfl, HQ, hq, rfl⟩ := hrel
    by_cases hlt : k < m
    · obtain ⟨s, hs⟩ : ∃ s, l[k]? = some s := ⟨_, List.getElem?_eq_getElem (by have := HLL.out; omega)⟩
      obtain ⟨p, o, hip, hcp, hpb, hsm⟩ := row_str HR.out hs
      have hst := wsum_step hs
      rw [HQ.out] at hst
      have HST := hide hst
      have HLE := hide (wsum_le l (k + 1))
      have hsm' : s.size ≤ 140737488355328 := HS47.out s (List.mem_of_getElem? hs)
      clear hs hst hsm
      by_cases h300 : 300 < q + (s.size + 1)
      · have HT : Hid ((decide (300 < wsum l)) = true) := hide (decide_eq_true (by have := HST.out; have := HLE.out; omega))
        have h3 : (300 : Int) < (q : Int) + ((s.size : Int) + 1) := by omega
        go_wp2_with fail
        go_ret
        exact ⟨by rw [HT.out]; rfl, by trivial⟩
      · have h3 : ¬ (300 : Int) < (q : Int) + ((s.size : Int) + 1) := by omega
        go_wp2_with fail
        go_roundw
        case rel => exact ⟨k + 1, q + (s.size + 1), by omega, by simp, by simp, HST, by omega, by trivial⟩
        case measure => simp [intOf]; omega
    · obtain rfl : m = k := by omega
      have HT : Hid ((decide (300 < wsum l)) = false) := hide (decide_eq_false (by
        have := HQ.out
        rw [List.take_of_length_le (by rw [HLL.out]; exact Nat.le_refl _)] at this
        omega))
      go_wp2_with fail
      go_ret
      exact ⟨by rw [HT.out]; rfl, by trivial⟩
def sA : ByteArray := { data := #[97] }
def sE : ByteArray := { data := #[] }
theorem strs_row {w : World} {g : Nat} {C : Array Value} {t : TypeId} {fr : Nat × Nat} (l : List ByteArray) (hg : w.heap[g]? = some (.cells C t fr)) (hC : C.toList = l.map Value.string) (hs : ∀ s ∈ l, s.size ≤ maxLen) (hm : l.length ≤ maxLen) : kStr.Row (fun _ => True) w (some ⟨g, 0, none⟩) l.length l.length l := by
  refine ⟨rfl, Nat.le_refl _, hm, fun _ => ⟨g, 0, rfl, trivial, (Array.getElem?_eq_some_iff.1 hg).1, fun i y hy => ⟨[.string y], ⟨rfl, hs y (List.mem_of_getElem? hy)⟩, fun j u hu => ?_⟩⟩⟩
  have hj : j = 0 := by have := (List.getElem?_eq_some_iff.1 hu).1; simp at this; omega
  subst hj
  have hu' : u = .string y := by simpa using hu.symm
  subst hu'
  rw [cell_of_row _ _ _ _ _ _ hg, ← Array.getElem?_toList, hC, List.getElem?_map]
  simp only [kStr, Kd.cell, Nat.zero_add, Nat.mul_one, Nat.add_zero, hy, Option.map_some]
theorem alive_frame : frames [sA, sE] = [0, 0, 0, 0, 0, 0, 0, 1, 97, 0, 0, 0, 0, 0, 0, 0, 0] := by decide +kernel
set_option maxRecDepth 100000 in
set_option maxHeartbeats 400000 in
theorem c_dalive (w : World) : Calls Tryd.prog 18 #[] w fun e w' => e = .returned (.bool true) ∧ Below w.heap.size w w' := by
  have HR : Hid (kStr.Row (fun _ => True) (w.alloc (.cells #[.string sA, .string sE] 9)) (some ⟨w.heap.size, 0, none⟩) 2 2 [sA, sE]) := hide (strs_row [sA, sE] (heap_alloc_new _ _) rfl (by decide) (by decide))
  have HB := hide (below1 w (.cells #[.string sA, .string sE] 9))
  go_enter Tryd.func18, Tryd.ntmps18
  go_wp2_with fail
  refine (c_frame _ 2 2 [sA, sE] _ _ HR.out (by rw [alive_frame]; decide)).mono ?_
  rintro e w1 ⟨v1, rfl, h1, b1⟩
  rw [alive_frame] at h1
  obtain ⟨A1, c1, rfl, hr1⟩ := own_row h1
  obtain ⟨p7, o7, i7, d7, -⟩ := row_byte hr1 (i := 7) (x := 1) rfl
  obtain ⟨p8, o8, i8, d8, -⟩ := row_byte hr1 (i := 8) (x := 97) rfl
  obtain ⟨p9, o9, i9, d9, -⟩ := row_byte hr1 (i := 16) (x := 0) rfl
  have j7 : ∀ wx : World, (Instr.indexAt 22 (.slice A1 17 c1) (.int .i64 7)).run Tryd.prog wx = .ok (.pointer (some ⟨p7, o7, none⟩)) wx := i7
  have j8 : ∀ wx : World, (Instr.indexAt 22 (.slice A1 17 c1) (.int .i64 8)).run Tryd.prog wx = .ok (.pointer (some ⟨p8, o8, none⟩)) wx := i8
  have j9 : ∀ wx : World, (Instr.indexAt 22 (.slice A1 17 c1) (.int .i64 16)).run Tryd.prog wx = .ok (.pointer (some ⟨p9, o9, none⟩)) wx := i9
  have HB1 := hide (HB.out.trans (b1.mono HB.out.size))
  clear h1 hr1 b1 HR HB i7 i8 i9
  go_wp2_with fail
  go_ret
  exact ⟨rfl, HB1.out⟩
set_option maxRecDepth 100000 in
set_option maxHeartbeats 1600000 in
theorem c_dkeys (key : Tg) (use : ByteArray) (B : Option Addr) (m d : Nat) (parts : List ByteArray) (ok : Nat → Prop) (w : World) (hR : kStr.Row ok w B m d parts) (hU : use.size ≤ 140737488355328) (hs47 : ∀ s ∈ parts, s.size ≤ 140737488355328) (hP : PrimesAt w) :
    Calls Tryd.prog 4 #[tgV key, .string use, .slice B m d] w fun e w' => e = .returned (.bool true) ∧ Below w.heap.size w w' := by
  have HU : Hid (use.size ≤ maxLen) := hide (by simp only [maxLen]; omega)
  have hU1 := hU
  have HS47 := hide hs47
  have HR := hide (hR.bound.more (ok' := fun k => k < w.heap.size) fun k h => h.2)
  have HP := hide hP
  clear hR hU hP hs47
  go_enter Tryd.func4, Tryd.ntmps4
  go_wp2_with fail
  refine (c_dalive _).mono ?_
  rintro e w1 ⟨rfl, b1⟩
  have HB1 := hide (bnext (below1 w (.cells (tgC key) 29)) b1)
  have HG0 := hide ((b1.block w.heap.size (by simp only [World.size_alloc]; omega)).trans (heap_alloc_new w (.cells (tgC key) 29)))
  clear b1
  go_wp2_with fail
  refine (c_great B m d parts _ w1 (HR.out.belowB HB1.out) HS47.out).mono ?_
  rintro e w2 ⟨rfl, rfl⟩
  by_cases hg : 300 < wsum parts
  · rw [decide_eq_true hg]
    clear hg
    go_wp2_with fail
    go_ret
    exact ⟨rfl, HB1.out⟩
  rw [decide_eq_false hg]
  by_cases hu2 : 200 < use.size
  · clear hg
    have hu3 : (200 : Int) < (use.size : Int) := by omega
    go_wp2_with fail
    go_ret
    exact ⟨rfl, HB1.out⟩
  have hu3 : ¬ (200 : Int) < (use.size : Int) := by omega
  obtain ⟨t, htt⟩ : ∃ t, t = dkey key use parts := ⟨_, rfl⟩
  have HT : Hid (dkey key use parts = t) := hide htt.symm
  obtain ⟨F, hF⟩ : ∃ F, F = frames parts := ⟨_, rfl⟩
  obtain ⟨f, hf⟩ : ∃ f, f = F.length := ⟨_, rfl⟩
  have HF : Hid (frames parts = F) := hide hF.symm
  have HL : Hid (F.length = f) := hide hf.symm
  have hf30 : f < 1073741824 := by rw [hf, hF]; have := wsum_frames parts; omega
  have HN1 : Hid ((frames (use :: parts)).length < 1073741824) := hide (by rw [frames_cons, List.length_append, frm_len, ← hF, ← hf]; have := wsum_frames parts; rw [← hF, ← hf] at this; omega)
  have HP1 := hide (HP.out.ext HB1.out)
  have HR1 := hide (HR.out.belowB HB1.out)
  have HG1 := HG0
  clear hg htt hF hf HP HR hu2 hU1
  go_wp2_with fail
  refine wp_region_ext mixed 19 (fun i v w' => match i with
    | 0 => v = .slice B m d
    | 1 => ∃ A c, v = .slice A f c ∧ kU8.Row (fun _ => True) w' A f c F
    | 2 => v = .string (txt F)
    | 3 => v = .slice B m d
    | 4 => ∃ A c, v = .slice A f c ∧ kU8.Row (fun _ => True) w' A f c F
    | 5 => v = .string (txt F)
    | 6 => v = .bool true
    | 7 => v = .bool true
    | 8 => v = tgV key
    | 9 => v = .string use
    | 10 => v = .slice B m d
    | 11 => v = tgV t
    | 12 => v = tgV key
    | 13 => v = .string use
    | 14 => v = .slice B m d
    | 15 => v = tgV t
    | 16 => v = .bool true
    | 17 => v = .bool true
    | _ => v = .bool true
    ) (regOk_of (by kernel_rfl)) rfl ?_ ?_ ?_
  · intro i v w1 w2 h1 h2
    split at h2 <;> first | exact h2 | (obtain ⟨A, c, e, hr⟩ := h2; exact ⟨A, c, e, hr.below h1⟩)
  · refine ⟨fun a w2 hle hd hf hs K hK => ?_, fun a w2 hle hd hf hs K hK => ?_, fun a w2 hle hd hf hs K hK => ?_, fun a w2 hle hd hf hs K hK => ?_, fun a w2 hle hd hf hs K hK => ?_, fun a w2 hle hd hf hs K hK => ?_, fun a w2 hle hd hf hs K hK => ?_, fun a w2 hle hd hf hs K hK => ?_, fun a w2 hle hd hf hs K hK => ?_, fun a w2 hle hd hf hs K hK => ?_, fun a w2 hle hd hf hs K hK => ?_, fun a w2 hle hd hf hs K hK => ?_, fun a w2 hle hd hf hs K hK => ?_, fun a w2 hle hd hf hs K hK => ?_, fun a w2 hle hd hf hs K hK => ?_, fun a w2 hle hd hf hs K hK => ?_, fun a w2 hle hd hf hs K hK => ?_, fun a w2 hle hd hf hs K hK => ?_, fun a w2 hle hd hf hs K hK => ?_, trivial⟩
    all_goals clear hd
    · -- 16 := Op.move t2
      have e2 := hf 2 rfl; simp [Act.eval] at e2
      go_simp; exact hK _ _ (Ext.refl _) rfl
    · -- 17 := Op.call { value (Operand.func 20), args := #[t16], argTypes := #[34] }
      have e16 := hs 0 16 (needs_direct (by kernel_rfl)) rfl; simp [Act.eval] at e16
      go_simp
      refine (c_frame B m d parts _ w2 (HR1.out.below hle) (by rw [HF.out, HL.out]; omega)).mono ?_
      rintro z w9 ⟨v9, rfl, h9, b9⟩
      obtain ⟨A8, c8, rfl, hr8⟩ := own_row h9
      rw [HF.out] at hr8 ⊢
      rw [HL.out] at hr8 ⊢
      exact hK _ _ b9 ⟨A8, c8, rfl, hr8.more fun _ _ => trivial⟩
    · -- 18 := Op.convert 22 9 t17
      obtain ⟨A17, c17, e17, hr17⟩ := hs 1 17 (needs_direct (by kernel_rfl)) rfl; simp [Act.eval] at e17
      have hq := row_string (P := Tryd.prog) Tryd.underlying22 Tryd.underlying5 Tryd.underlying9 hr17
      go_simp; exact hK _ _ (Ext.refl _) rfl
    · -- 19 := Op.move t2
      have e2 := hf 2 rfl; simp [Act.eval] at e2
      go_simp; exact hK _ _ (Ext.refl _) rfl
    · -- 20 := Op.call { value (Operand.func 21), args := #[t19], argTypes := #[34] }
      have e19 := hs 3 19 (needs_direct (by kernel_rfl)) rfl; simp [Act.eval] at e19
      go_simp
      refine (c_rframe B m d parts _ w2 (HR1.out.below hle) (by rw [HF.out, HL.out]; omega)).mono ?_
      rintro z w9 ⟨v9, rfl, h9, b9⟩
      obtain ⟨A8, c8, rfl, hr8⟩ := own_row h9
      rw [HF.out] at hr8 ⊢
      rw [HL.out] at hr8 ⊢
      exact hK _ _ b9 ⟨A8, c8, rfl, hr8.more fun _ _ => trivial⟩
    · -- 21 := Op.convert 22 9 t20
      obtain ⟨A20, c20, e20, hr20⟩ := hs 4 20 (needs_direct (by kernel_rfl)) rfl; simp [Act.eval] at e20
      have hq := row_string (P := Tryd.prog) Tryd.underlying22 Tryd.underlying5 Tryd.underlying9 hr20
      go_simp; exact hK _ _ (Ext.refl _) rfl
    · -- 22 := Op.binOp BinOp.eql 9 t18 t21 9
      have e18 := hs 2 18 (needs_direct (by kernel_rfl)) rfl; have e21 := hs 5 21 (needs_direct (by kernel_rfl)) rfl; simp [Act.eval] at e18 e21
      go_simp; exact hK _ _ (Ext.refl _) rfl
    · -- 23 := Op.move t22
      have e22 := hs 6 22 (needs_direct (by kernel_rfl)) rfl; simp [Act.eval] at e22
      go_simp; exact hK _ _ (Ext.refl _) rfl
    · -- 24 := Op.load 29 t3
      have e3 := hf 3 rfl; have gg := hs 7 23 (needs_direct (by kernel_rfl)) rfl; simp [Act.eval] at e3 gg; replace gg := opt_bool gg
      have hq : agg? w2 ⟨w.heap.size, 0, none⟩ 32 = some (tgC key) := (agg_of_row (hle.heap HG1.out) 0 32 (by decide)).trans (tgC_part key)
      go_simp; exact hK _ _ (Ext.refl _) rfl
    · -- 25 := Op.move t1
      have e1 := hf 1 rfl; have gg := hs 7 23 (needs_direct (by kernel_rfl)) rfl; simp [Act.eval] at e1 gg; replace gg := opt_bool gg
      go_simp; exact hK _ _ (Ext.refl _) rfl
    · -- 26 := Op.move t2
      have e2 := hf 2 rfl; have gg := hs 7 23 (needs_direct (by kernel_rfl)) rfl; simp [Act.eval] at e2 gg; replace gg := opt_bool gg
      go_simp; exact hK _ _ (Ext.refl _) rfl
    · -- 27 := Op.call { value (Operand.func 22), args := #[t24, t25, t26], argTypes := #[29, 9, 34] }
      have e24 := hs 8 24 (needs_direct (by kernel_rfl)) rfl; have e25 := hs 9 25 (needs_direct (by kernel_rfl)) rfl; have e26 := hs 10 26 (needs_direct (by kernel_rfl)) rfl; have gg := hs 7 23 (needs_direct (by kernel_rfl)) rfl; simp [Act.eval] at e24 e25 e26 gg; replace gg := opt_bool gg
      go_simp
      refine (c_dkey key use B m d parts _ w2 (HR1.out.below hle) HU.out (HP1.out.ext hle) (by have := HN1.out; omega)).mono ?_
      rintro z w9 ⟨rfl, b9⟩
      rw [HT.out]
      exact hK _ _ b9 rfl
    · -- 28 := Op.load 29 t3
      have e3 := hf 3 rfl; have gg := hs 7 23 (needs_direct (by kernel_rfl)) rfl; simp [Act.eval] at e3 gg; replace gg := opt_bool gg
      have hq : agg? w2 ⟨w.heap.size, 0, none⟩ 32 = some (tgC key) := (agg_of_row (hle.heap HG1.out) 0 32 (by decide)).trans (tgC_part key)
      go_simp; exact hK _ _ (Ext.refl _) rfl
    · -- 29 := Op.move t1
      have e1 := hf 1 rfl; have gg := hs 7 23 (needs_direct (by kernel_rfl)) rfl; simp [Act.eval] at e1 gg; replace gg := opt_bool gg
      go_simp; exact hK _ _ (Ext.refl _) rfl
    · -- 30 := Op.move t2
      have e2 := hf 2 rfl; have gg := hs 7 23 (needs_direct (by kernel_rfl)) rfl; simp [Act.eval] at e2 gg; replace gg := opt_bool gg
      go_simp; exact hK _ _ (Ext.refl _) rfl
    · -- 31 := Op.call { value (Operand.func 23), args := #[t28, t29, t30], argTypes := #[29, 9, 34] }
      have e28 := hs 12 28 (needs_direct (by kernel_rfl)) rfl; have e29 := hs 13 29 (needs_direct (by kernel_rfl)) rfl; have e30 := hs 14 30 (needs_direct (by kernel_rfl)) rfl; have gg := hs 7 23 (needs_direct (by kernel_rfl)) rfl; simp [Act.eval] at e28 e29 e30 gg; replace gg := opt_bool gg
      go_simp
      refine (c_rkey key use B m d parts _ w2 (HR1.out.below hle) HU.out (by have := HN1.out; omega)).mono ?_
      rintro z w9 ⟨rfl, b9⟩
      rw [HT.out]
      exact hK _ _ b9 rfl
    · -- 32 := Op.binOp BinOp.eql 29 t27 t31 29
      have e27 := hs 11 27 (needs_direct (by kernel_rfl)) rfl; have e31 := hs 15 31 (needs_direct (by kernel_rfl)) rfl; have gg := hs 7 23 (needs_direct (by kernel_rfl)) rfl; simp [Act.eval] at e27 e31 gg; replace gg := opt_bool gg
      have hq := tg_in w2 t t
      rw [decide_eq_true rfl] at hq
      go_simp; exact hK _ _ (Ext.refl _) rfl
    · -- 33 := Op.pick t23 t32 (const (Value.bool false))
      have e23 := hs 7 23 (needs_direct (by kernel_rfl)) rfl; have e32 := hs 16 32 (needs_direct (by kernel_rfl)) rfl; simp [Act.eval] at e23 e32
      go_simp; exact hK _ _ (Ext.refl _) rfl
    · -- 6 := Op.assign t33
      have e33 := hs 17 33 (needs_direct (by kernel_rfl)) rfl; simp [Act.eval] at e33
      go_simp; exact hK _ _ (Ext.refl _) rfl
  intro vs w8 hle hs
  have v18 := hs 18 (by omega) rfl
  simp only at v18
  clear hs
  have HB9 := hide (HB1.out.trans (hle.mono HB1.out.size))
  clear hle
  simp only [putN, dstAt]
  go_simp
  go_wp2_with fail
  go_ret
  exact ⟨rfl, HB9.out⟩
end Go.Proofs.YtdkeflhgengblaaDoor
