/- The walks of layer 23: keys rotated. No condition. -/
import Derived.Test.YtlfhbnajopekpaaKey3
namespace Go.Proofs.Ytlfhbnajopekpaa
open Go.RowKit
open Go.Maps (Keyed)
attribute [local go_sem ↓] ld32 ld35
attribute [local go_sem] run_ldAgg run_storeAgg agg_alloc_at agg_alloc_past agg_drew agg_setCell row_alloc_at row_alloc_past row_drew setRow_alloc_at setRow_alloc_past setRow_drew agg_setRow_at agg_setRow_far cell_setRow_at cell_setRow_far row_setRow_far size_setRow tgC_size tgC_one tgC_part tgC_splice tgC_splice_any zero_tg tgC_ne keyC_size keyC_g0 keyC_g33 keyC_g34 keyC_0 keyC_33 keyC_34 keyC_part keyC_tag keyC_splice0 keyC_set33 keyC_set34 zero_key keyC_all keyC_ne

def Ks.rotate (S : Ks) (k : Nat) (t : Tg) (til grace clock : Nat) : Ks × Nat × Nat :=
  match S.F k with
  | none => (S, 0, 5)
  | some x => if x.live clock then
      (if (S.make x.kind t til).2.2 = 0 then (⟨(S.make x.kind t til).1.most, (S.make x.kind t til).1.last, fun j => if j = k then some ⟨x.kind, x.tag, min x.til grace, x.rev⟩ else (S.make x.kind t til).1.F j, (S.make x.kind t til).1.s⟩, (S.make x.kind t til).2.1, 0)
      else ((S.make x.kind t til).1, 0, (S.make x.kind t til).2.2))
    else (S, 0, 5)
theorem But.trans' {g b : Nat} {w w' w'' : World} (h : But g b w w') (k : ∀ i, i < w.heap.size → w''.heap[i]? = w'.heap[i]?) (e : w''.os = w'.os ∧ w''.tape = w'.tape ∧ w''.output = w'.output ∧ w'.heap.size ≤ w''.heap.size) : But g b w w'' :=
  ⟨e.1.trans h.os, e.2.1.trans h.tape, e.2.2.1.trans h.output, Nat.le_trans h.size e.2.2.2, fun i hi h1 h2 => (k i hi).trans (h.block i hi h1 h2)⟩
theorem make_keeps {S : Ks} {kind : Int} {t : Tg} {til k : Nat} (h : (S.F k).isSome = true) : ((S.make kind t til).1.F k).isSome = true := by
  unfold Ks.make
  split
  · split
    · exact h
    · show (if k = S.last + 1 then _ else S.F k).isSome = true
      split
      · rfl
      · exact h
  · exact h
theorem make_size (S : Ks) (kind : Int) (t : Tg) (til : Nat) : (S.make kind t til).1.s ≤ S.s + 1 := by
  unfold Ks.make
  split
  · split
    · exact Nat.le_succ _
    · show (if (S.F (S.last + 1)).isSome = true then S.s else S.s + 1) ≤ S.s + 1
      split
      · exact Nat.le_succ _
      · exact Nat.le_refl _
  · exact Nat.le_succ _
set_option maxRecDepth 100000 in
set_option maxHeartbeats 600000 in
theorem c_krotate {S : Ks} {g b : Nat} (k : Nat) (t : Tg) (til grace clock : Nat) (w : World) (h : KeysAt w g b S) (hk : k < 18446744073709551616) (hl : S.last + 1 < 18446744073709551616) (hs : S.s + 1 < maxLen) (ht : til < 18446744073709551616) :
    Calls Try.prog 27 #[.pointer (some ⟨g, 0, none⟩), .int .u64 (k : Int), tgV t, .int .u64 (til : Int), .int .u64 (grace : Int), .int .u64 (clock : Int)] w fun e w' =>
      e = .returned (.tuple #[.int .u64 ((S.rotate k t til grace clock).2.1 : Int), .int .i64 ((S.rotate k t til grace clock).2.2 : Int)]) ∧ KeysAt w' g b (S.rotate k t til grace clock).1 ∧ But g b w w' := by
  have hgs := (Array.getElem?_eq_some_iff.1 h.1).1
  have hbs := h.2.lt
  obtain ⟨hc0, hc1, hc2, hf⟩ := (h.ext (below1 w (.cells (tgC t) 44))).cells
  have H := hide h
  have HKN := hide hk
  have HS0 := hide hs
  have HL0 := hide hl
  have HT0 := hide ht
  have hgb := h.ne
  clear h hk hs hl ht
  cases hF : S.F k with
  | none =>
    have HP : Hid (S.rotate k t til grace clock = (S, 0, 5)) := hide (by simp [Ks.rotate, hF])
    have HF := hide hF
    clear hF
    go_enter Try.func27, Try.ntmps27
    go_wp2_with (at_lookup; go_must (refine wpList_klook rfl _ _ rfl rfl (H.out.2.ext (below1 _ _)) k rfl HKN.out none HF.out ?_))
    go_ret2
    exact ⟨by rw [HP.out]; rfl, by rw [HP.out]; exact H.out.ext (below2 _ _ _), But.ext (below2 _ _ _)⟩
  | some x =>
    have HSM := hide (make_keeps (S := S) (kind := x.kind) (t := t) (til := til) (k := k) (by rw [hF]; rfl))
    cases hv : x.live clock with
    | false =>
      have HP : Hid (S.rotate k t til grace clock = (S, 0, 5)) := hide (by simp [Ks.rotate, hF, hv])
      have HF := hide hF
      have HV := hide hv
      clear hF hv
      go_enter Try.func27, Try.ntmps27
      go_wp2_with (at_lookup; go_must (refine wpList_klook rfl _ _ rfl rfl (H.out.2.ext (below1 _ _)) k rfl HKN.out (some x) HF.out ?_))
      refine (c_klive x clock _).mono ?_
      rintro e w1 ⟨rfl, b1⟩
      rw [HV.out]
      have HK1 := hide ((H.out.ext (below2 _ _ _)).ext b1)
      have HB1 := hide (bnext (below2 w _ _) b1)
      clear b1
      go_wp2_with fail
      go_ret2
      exact ⟨by rw [HP.out]; rfl, by rw [HP.out]; exact HK1.out, But.ext HB1.out⟩
    | true =>
      have hrv : x.rev = false := by
        cases h : x.rev
        · rfl
        · simp [Ky.live, h] at hv
      obtain ⟨kd, tg, tl, rv⟩ := x
      simp only at hrv
      subst hrv
      obtain ⟨⟨S1, n1, c1⟩, hmk⟩ : ∃ r, S.make kd t til = r := ⟨_, rfl⟩
      have HMK := hide hmk
      have hss := make_size S kd t til
      rw [hmk] at hss
      have HSS := hide hss
      have HP : Hid (S.rotate k t til grace clock = if c1 = 0 then (⟨S1.most, S1.last, fun j => if j = k then some ⟨kd, tg, min tl grace, false⟩ else S1.F j, S1.s⟩, n1, 0) else (S1, 0, c1)) := hide (by simp only [Ks.rotate, hF, hv, if_true, hmk])
      have HF := hide hF
      have HV := hide hv
      have HSM1 := hide (show (S1.F k).isSome = true by have := HSM.out; simp only [hmk] at this; exact this)
      clear hF hv hmk hss HSM
      go_enter Try.func27, Try.ntmps27
      go_wp2_with (at_lookup; go_must (refine wpList_klook rfl _ _ rfl rfl (H.out.2.ext (below1 _ _)) k rfl HKN.out (some ⟨kd, tg, tl, false⟩) HF.out ?_))
      refine (c_klive ⟨kd, tg, tl, false⟩ clock _).mono ?_
      rintro e w1 ⟨rfl, b1⟩
      rw [HV.out]
      have HK1 := hide ((H.out.ext (below2 _ _ _)).ext b1)
      have HB1 := hide (bnext (below2 w _ _) b1)
      have hq0 : w1.heap[w.heap.size]? = some (.cells (tgC t) 44) := (b1.block _ (by simp; omega)).trans ((Below.heap_alloc _ _ _ (by simp)).trans (heap_alloc_new _ _))
      have hq1 : w1.heap[w.heap.size + 1]? = some (.cells (kyC ⟨kd, tg, tl, false⟩) 111) := (b1.block _ (by simp)).trans (heap_new2 _ _ _)
      have HQ1 := hide hq1
      have hk0 : w1.cell? ⟨w.heap.size + 1, 0, none⟩ = some (.int .i64 kd) := (cell_of_row w1 _ _ _ _ _ hq1).trans (keyC_0 _ _ _ _)
      have hagt : agg? w1 ⟨w.heap.size, 0, none⟩ 32 = some (tgC t) := by
        rw [agg_of_row hq0 0 32 (by decide)]
        exact tgC_part _
      have hws1 := (Array.getElem?_eq_some_iff.1 hq1).1
      clear b1 hq0 hq1 hc0 hc1 hc2 hf
      go_wp2_with fail
      refine (c_kmake kd t til w1 HK1.out HL0.out (by have := HS0.out; omega) HT0.out).mono ?_
      rw [HMK.out]
      rintro e w5 ⟨rfl, hk5, hb5⟩
      have HK5 := hide hk5
      have hq5 := (hb5.block (w.heap.size + 1) hws1 (by omega) (by omega)).trans HQ1.out
      have HQ5 := hide hq5
      have HB5 := hide ((But.ext HB1.out : But g b w w1).trans hb5)
      have hk33 : w5.cell? ⟨w.heap.size + 1, 33, none⟩ = some (.int .u64 (tl : Int)) := (cell_of_row w5 _ _ _ _ _ hq5).trans (keyC_33 _ _ _ _)
      have hfk : ∀ j, w5.frozen? ⟨w.heap.size + 1, j, none⟩ = false := fun j => frozen_of_row w5 _ _ _ _ hq5
      have hws5 := (Array.getElem?_eq_some_iff.1 hq5).1
      clear hk5 hb5 hq5 hk0 hagt
      by_cases hc : c1 = 0
      · subst hc
        have HP1 : Hid (S.rotate k t til grace clock = (⟨S1.most, S1.last, fun j => if j = k then some ⟨kd, tg, min tl grace, false⟩ else S1.F j, S1.s⟩, n1, 0)) := hide (by rw [HP.out, if_pos rfl])
        by_cases hg : tl ≤ grace
        · have HM : Hid (min tl grace = tl) := hide (Nat.min_eq_left hg)
          go_wp2_with fail
          obtain ⟨w9, hw9⟩ : ∃ w9, w9 = w5.setCell ⟨w.heap.size + 1, 33, none⟩ (.int .u64 (tl : Int)) := ⟨_, rfl⟩
          rw [← hw9]
          have hq9 : w9.heap[w.heap.size + 1]? = some (.cells (kyC ⟨kd, tg, tl, false⟩) 111) := by
            rw [hw9, heap_setCell_at HQ5.out, keyC_set33]
          have HK9 : Hid (KeysAt w9 g b S1) := hide ⟨by rw [hw9, Below.heap_setCell _ _ _ _ (by show ¬ g = w.heap.size + 1; omega)]; exact HK5.out.1, HK5.out.2.of_heap (by rw [hw9]; exact Below.heap_setCell _ _ _ _ (by show ¬ b = w.heap.size + 1; omega))⟩
          have HB9 : Hid (But g b w w9) := hide (HB5.out.trans' (fun i hi => by rw [hw9]; exact Below.heap_setCell _ _ _ _ (by show ¬ i = w.heap.size + 1; omega)) (by rw [hw9]; exact ⟨rfl, rfl, rfl, by simp⟩))
          obtain ⟨hd0, hd1, hd2, hf9⟩ := HK9.out.cells
          have hwk := (Array.getElem?_eq_some_iff.1 hq9).1
          have hagk : agg? w9 ⟨w.heap.size + 1, 0, none⟩ 35 = some (kyC ⟨kd, tg, tl, false⟩) := by
            rw [agg_of_row hq9 0 35 (by decide)]
            exact keyC_part _ _ _ _
          clear hw9 hq9 hd0 hd1 hf9 hk33 hfk hws5 HK5 HB5 HQ5 HQ1 HK1 HB1
          refine wp_region_ext mixed 6 (fun i v w' => match i with
            | 0 => v = .pointer (some ⟨g, 0, none⟩)
            | 1 => v = .pointer (some ⟨g, 0, none⟩)
            | 2 => v = .pointer (some ⟨g, 2, none⟩)
            | 3 => v = .map (some b)
            | 4 => v = .int .u64 (k : Int)
            | _ => v = kyV ⟨kd, tg, tl, false⟩
            ) (by kernel_rfl) rfl ?_ ?_ ?_
          · intro i v w1 w2 h1 h2
            split at h2 <;> exact h2
          · refine ⟨fun a w2 hle hd hf hs K hK => ?_, fun a w2 hle hd hf hs K hK => ?_, fun a w2 hle hd hf hs K hK => ?_, fun a w2 hle hd hf hs K hK => ?_, fun a w2 hle hd hf hs K hK => ?_, fun a w2 hle hd hf hs K hK => ?_, trivial⟩
            all_goals clear hd
            · -- 52 := Op.move t0
              have e0 := hf 0 rfl; simp [Act.eval] at e0
              go_simp; exact hK _ _ (Ext.refl _) rfl
            · -- 53 := Op.nilCheck t52
              have e52 := hs 0 52 (by kernel_rfl) rfl; simp [Act.eval] at e52
              go_simp; exact hK _ _ (Ext.refl _) rfl
            · -- 54 := Op.fieldAddr 109 t53 2
              have e53 := hs 1 53 (by kernel_rfl) rfl; simp [Act.eval] at e53
              go_simp; exact hK _ _ (Ext.refl _) rfl
            · -- 55 := Op.load 107 t54
              have e54 := hs 2 54 (by kernel_rfl) rfl; simp [Act.eval] at e54
              have hc2' := hle.cell hd2
              go_simp; exact hK _ _ (Ext.refl _) rfl
            · -- 56 := Op.move t1
              have e1 := hf 1 rfl; simp [Act.eval] at e1
              go_simp; exact hK _ _ (Ext.refl _) rfl
            · -- 57 := Op.load 111 t14
              have e14 := hf 14 rfl; simp [Act.eval] at e14
              have hq : agg? w2 ⟨w.heap.size + 1, 0, none⟩ 35 = some (kyC ⟨kd, tg, tl, false⟩) := (agg_block (hle.block _ hwk)).trans hagk
              go_simp; exact hK _ _ (Ext.refl _) rfl
          intro vs w8 hle hs
          have v3 := hs 3 (by omega) rfl
          have v4 := hs 4 (by omega) rfl
          have v5 := hs 5 (by omega) rfl
          simp only at v3 v4 v5
          clear hs
          have HK10 := hide (HK9.out.ext hle)
          have HB10 := hide (HB9.out.trans (But.ext hle))
          clear hle hagk hd2
          simp only [putN, dstAt, List.getElem?_toArray, List.getElem?_cons_succ, List.getElem?_cons_zero, Option.bind_some, Act.put, List.setIfInBounds_toArray, List.set_cons_succ, List.set_cons_zero, List.drop_succ_cons, List.drop_zero, v3, v4, v5]
          refine wpList_kstore rfl (.tmp 55) (.tmp 56) (.tmp 57) rfl rfl HK10.out.2 k rfl HKN.out (by have := HSS.out; have := HS0.out; omega) ⟨kd, tg, tl, false⟩ rfl ?_
          intro w11 hm11 hg11
          rw [if_pos HSM1.out] at hm11
          have hq11 := (hg11.block g (Array.getElem?_eq_some_iff.1 HK10.out.1).1 (fun e => hgb (Option.some.inj e))).trans HK10.out.1
          have HB11 := hide (HB10.out.trans (But.grown hg11))
          have HK11 : Hid (KeysAt w11 g b ⟨S1.most, S1.last, fun j => if j = k then some ⟨kd, tg, tl, false⟩ else S1.F j, S1.s⟩) := hide ⟨hq11, hm11⟩
          clear hm11 hg11 hq11 v3 v4 v5
          simp only [Act.put]
          go_wp2_with fail
          go_ret2
          exact ⟨by rw [HP1.out]; rfl, by rw [HP1.out, HM.out]; exact HK11.out, HB11.out⟩
        · have HM : Hid (min tl grace = grace) := hide (Nat.min_eq_right (by omega))
          go_wp2_with fail
          obtain ⟨w9, hw9⟩ : ∃ w9, w9 = w5.setCell ⟨w.heap.size + 1, 33, none⟩ (.int .u64 (grace : Int)) := ⟨_, rfl⟩
          rw [← hw9]
          have hq9 : w9.heap[w.heap.size + 1]? = some (.cells (kyC ⟨kd, tg, grace, false⟩) 111) := by
            rw [hw9, heap_setCell_at HQ5.out, keyC_set33]
          have HK9 : Hid (KeysAt w9 g b S1) := hide ⟨by rw [hw9, Below.heap_setCell _ _ _ _ (by show ¬ g = w.heap.size + 1; omega)]; exact HK5.out.1, HK5.out.2.of_heap (by rw [hw9]; exact Below.heap_setCell _ _ _ _ (by show ¬ b = w.heap.size + 1; omega))⟩
          have HB9 : Hid (But g b w w9) := hide (HB5.out.trans' (fun i hi => by rw [hw9]; exact Below.heap_setCell _ _ _ _ (by show ¬ i = w.heap.size + 1; omega)) (by rw [hw9]; exact ⟨rfl, rfl, rfl, by simp⟩))
          obtain ⟨hd0, hd1, hd2, hf9⟩ := HK9.out.cells
          have hwk := (Array.getElem?_eq_some_iff.1 hq9).1
          have hagk : agg? w9 ⟨w.heap.size + 1, 0, none⟩ 35 = some (kyC ⟨kd, tg, grace, false⟩) := by
            rw [agg_of_row hq9 0 35 (by decide)]
            exact keyC_part _ _ _ _
          clear hw9 hq9 hd0 hd1 hf9 hk33 hfk hws5 HK5 HB5 HQ5 HQ1 HK1 HB1
          refine wp_region_ext mixed 6 (fun i v w' => match i with
            | 0 => v = .pointer (some ⟨g, 0, none⟩)
            | 1 => v = .pointer (some ⟨g, 0, none⟩)
            | 2 => v = .pointer (some ⟨g, 2, none⟩)
            | 3 => v = .map (some b)
            | 4 => v = .int .u64 (k : Int)
            | _ => v = kyV ⟨kd, tg, grace, false⟩
            ) (by kernel_rfl) rfl ?_ ?_ ?_
          · intro i v w1 w2 h1 h2
            split at h2 <;> exact h2
          · refine ⟨fun a w2 hle hd hf hs K hK => ?_, fun a w2 hle hd hf hs K hK => ?_, fun a w2 hle hd hf hs K hK => ?_, fun a w2 hle hd hf hs K hK => ?_, fun a w2 hle hd hf hs K hK => ?_, fun a w2 hle hd hf hs K hK => ?_, trivial⟩
            all_goals clear hd
            · -- 52 := Op.move t0
              have e0 := hf 0 rfl; simp [Act.eval] at e0
              go_simp; exact hK _ _ (Ext.refl _) rfl
            · -- 53 := Op.nilCheck t52
              have e52 := hs 0 52 (by kernel_rfl) rfl; simp [Act.eval] at e52
              go_simp; exact hK _ _ (Ext.refl _) rfl
            · -- 54 := Op.fieldAddr 109 t53 2
              have e53 := hs 1 53 (by kernel_rfl) rfl; simp [Act.eval] at e53
              go_simp; exact hK _ _ (Ext.refl _) rfl
            · -- 55 := Op.load 107 t54
              have e54 := hs 2 54 (by kernel_rfl) rfl; simp [Act.eval] at e54
              have hc2' := hle.cell hd2
              go_simp; exact hK _ _ (Ext.refl _) rfl
            · -- 56 := Op.move t1
              have e1 := hf 1 rfl; simp [Act.eval] at e1
              go_simp; exact hK _ _ (Ext.refl _) rfl
            · -- 57 := Op.load 111 t14
              have e14 := hf 14 rfl; simp [Act.eval] at e14
              have hq : agg? w2 ⟨w.heap.size + 1, 0, none⟩ 35 = some (kyC ⟨kd, tg, grace, false⟩) := (agg_block (hle.block _ hwk)).trans hagk
              go_simp; exact hK _ _ (Ext.refl _) rfl
          intro vs w8 hle hs
          have v3 := hs 3 (by omega) rfl
          have v4 := hs 4 (by omega) rfl
          have v5 := hs 5 (by omega) rfl
          simp only at v3 v4 v5
          clear hs
          have HK10 := hide (HK9.out.ext hle)
          have HB10 := hide (HB9.out.trans (But.ext hle))
          clear hle hagk hd2
          simp only [putN, dstAt, List.getElem?_toArray, List.getElem?_cons_succ, List.getElem?_cons_zero, Option.bind_some, Act.put, List.setIfInBounds_toArray, List.set_cons_succ, List.set_cons_zero, List.drop_succ_cons, List.drop_zero, v3, v4, v5]
          refine wpList_kstore rfl (.tmp 55) (.tmp 56) (.tmp 57) rfl rfl HK10.out.2 k rfl HKN.out (by have := HSS.out; have := HS0.out; omega) ⟨kd, tg, grace, false⟩ rfl ?_
          intro w11 hm11 hg11
          rw [if_pos HSM1.out] at hm11
          have hq11 := (hg11.block g (Array.getElem?_eq_some_iff.1 HK10.out.1).1 (fun e => hgb (Option.some.inj e))).trans HK10.out.1
          have HB11 := hide (HB10.out.trans (But.grown hg11))
          have HK11 : Hid (KeysAt w11 g b ⟨S1.most, S1.last, fun j => if j = k then some ⟨kd, tg, grace, false⟩ else S1.F j, S1.s⟩) := hide ⟨hq11, hm11⟩
          clear hm11 hg11 hq11 v3 v4 v5
          simp only [Act.put]
          go_wp2_with fail
          go_ret2
          exact ⟨by rw [HP1.out]; rfl, by rw [HP1.out, HM.out]; exact HK11.out, HB11.out⟩
      · have HP1 : Hid (S.rotate k t til grace clock = (S1, 0, c1)) := hide (by rw [HP.out, if_neg hc])
        have hc' : ¬ (c1 : Int) = 0 := by omega
        have hc2 : ((c1 : Int) == 0) = false := by simpa using hc'
        go_wp2_with fail
        go_ret2
        exact ⟨by rw [HP1.out]; rfl, by rw [HP1.out]; exact HK5.out, HB5.out⟩

end Go.Proofs.Ytlfhbnajopekpaa
