/- Texts of one proof, one behind the other: Se1, Se2, Bd1, Cln, Bd2, Cvt, Rj, Rcv, Ch1, Mt1, Rp1, Dl, Rp2, Se3, Ow8, Se4, Se5, Se6, Se7, Se8. No condition. -/
import Derived.Test.YtdkeflhgengblaaDoorRgd
import Derived.Test.YtdkeflhgengblaaDoorRgb
import Derived.Test.YtdkeflhgengblaaDoorRga
import Derived.Lib.SliceRun
import Derived.Test.YtdkeflhgengblaaDoorRgc
namespace Go.Proofs.YtdkeflhgengblaaDoor
open Go.RowKit
attribute [local go_sem ↓] ld8 ld32 ld64 ld73
attribute [local go_sem] run_ldAgg run_storeAgg agg_alloc_at agg_alloc_past agg_drew agg_setCell row_alloc_at row_alloc_past row_drew setRow_alloc_at setRow_alloc_past setRow_drew agg_setRow_at agg_setRow_far cell_setRow_at cell_setRow_far row_setRow_far size_setRow s8C_size s8C_part s8C_one s8C_splice0 s8C_ne dgC_size dgC_72 dgC_part dgC_h dgC_r dgC_splice_h dgC_set dgC_one dgC_splice0 dgC_ne zero_dg
attribute [local go_sem] tgC_size tgC_one tgC_part tgC_splice tgC_splice_any zero_tg tgC_ne

theorem arr_upto {P : Program} {t E : TypeId} {N : Nat} (ht : P.underlying t = some (.array N E)) (hE : (P.info? E).map (·.size) = some 1) (b o k : Nat) (hk : k ≤ N) (kd : IntKind) (i : Int) (hi : i = k) :
    ∀ W : World, (Instr.sliceAt t (.pointer (some ⟨b, o, none⟩)) none (some (.int kd i)) none).run P W = .ok (.slice (some ⟨b, o, none⟩) k N) W := fun W => by
  subst hi
  have hs : (sizeOf E).run P W = .ok 1 W := by
    cases hq : P.info? E with
    | none => rw [hq] at hE; cases hE
    | some x =>
      rw [hq] at hE
      have : x.size = 1 := by simpa using hE
      simp [sizeOf, typeInfo, hq, this]
  have hle : ((k : Int) ≤ (N : Int)) := by omega
  simp [Instr.sliceAt, Instr.sureAddr, run_underlying ht, Instr.sliceBounds, run_sliceBound, hs, hle, Result.andThen, add_lit']
theorem at_min {P : Program} {ops : Array Oper} {rest : List Oper} {a : Act} {w : World} {Q : Exit → Act → World → Prop} {dst : Option Tmp} {ty : TypeId} {pos : String} {after : Array Edge} {x y : Operand} {T1 T2 : TypeId} (k : IntKind) (u v m : Int) (hx : a.eval x = .int k u) (hy : a.eval y = .int k v) (hm : (if v < u then v else u) = m)
    (h : wpList P ops Q rest (a.put dst (.int k m)) w) : wpList P ops Q (⟨dst, .call { callee := .builtin .min, args := #[x, y], argTypes := #[T1, T2] }, ty, pos, after, none⟩ :: rest) a w := by
  subst hm
  refine wpList_plain rfl fun K hK => ?_
  unfold Oper.wp execOp
  simp only [resolve, invoke, builtin, Builtin.min_, Builtin.min2, Sem.run_bind, Sem.run_pure, Result.andThen_ok, List.map_toArray, List.map_cons, List.map_nil, hx, hy, List.foldlM_cons, List.foldlM_nil]
  exact hK _ _ h
theorem skey_sizes (nonce : Tg) (k : Nat) : ∀ s ∈ [txt nonce.l, txt (num8 k)], s.size ≤ maxLen := by
  intro s hs
  simp only [List.mem_cons, List.not_mem_nil, or_false] at hs
  rcases hs with rfl | rfl
  · rw [txt_size, nonce.len]; decide
  · rw [txt_size, num8_len]; decide
theorem skey_len (nonce : Tg) (k : Nat) : (frames (uStream :: [txt nonce.l, txt (num8 k)])).length < 1073741824 := by
  simp only [frames_cons, frames_nil, List.length_append, frm_len, txt_size, nonce.len, num8_len, List.length_nil]
  decide
set_option maxRecDepth 100000 in
set_option maxHeartbeats 800000 in
theorem c_stream (key nonce : Tg) (z : Int) (n : Nat) (w : World) (hz : z.toNat = n) (hn : n < 1048576) (hP : PrimesAt w) :
    Calls Tryd.prog 38 #[tgV key, tgV nonce, .int .i64 z] w fun e w' => ∃ v, e = .returned v ∧ kU8.Own (fun _ => True) w.heap.size w' 5 v (strm key nonce n) ∧ Below w.heap.size w w' := by
  have HP := hide hP
  have HZ := hide hz
  have hw0 := hP.1
  clear hP hz
  obtain ⟨W1, hW1⟩ : ∃ W1, W1 = (w.alloc (.cells (tgC key) 29)).alloc (.cells (tgC nonce) 29) := ⟨_, rfl⟩
  have HB1 : Hid (Below w.heap.size w W1) := hide (by rw [hW1]; exact below2 _ _ _)
  have hs1 : W1.heap.size = w.heap.size + 2 := by rw [hW1]; simp only [World.size_alloc]
  have HK1 : Hid (W1.heap[w.heap.size]? = some (.cells (tgC key) 29)) := hide (by
    rw [hW1, Below.heap_alloc _ _ _ (by simp only [World.size_alloc]; omega)]; exact heap_alloc_new _ _)
  have HN1 : Hid (W1.heap[w.heap.size + 1]? = some (.cells (tgC nonce) 29)) := hide (by
    rw [hW1]
    have := heap_alloc_new (w.alloc (.cells (tgC key) 29)) (.cells (tgC nonce) 29)
    rwa [World.size_alloc] at this)
  have HV0 : Hid (kU8.Own (fun _ => True) (w.heap.size + 2) W1 5 (.slice none 0 0) ((strmB key nonce 0).take n)) := hide (by
    rw [strmB, List.take_nil]; exact Kd.Own.nil kU8 _ _ _ _)
  have HBB : Hid (Below (w.heap.size + 2) W1 W1) := hide (Below.refl _ _)
  go_enter Tryd.func38, Tryd.ntmps38
  go_wp2_with fail
  rw [← hW1]
  clear hW1
  go_loopw [7, 8] (fun v i wr => ∃ (k : Nat), i = .int .u64 (k : Int) ∧ (k = 0 ∨ 32 * k < n + 32) ∧ Hid (kU8.Own (fun _ => True) (w.heap.size + 2) wr 5 v ((strmB key nonce k).take n)) ∧ Hid (Below (w.heap.size + 2) W1 wr)) (fun _ i _ => n + 32 - 32 * (intOf i).toNat)
  case atStart => exact ⟨0, rfl, .inl rfl, HV0, HBB⟩
  case round =>
    clear HV0 HBB
    obtain ⟨k, rfl, hkn, HV, HB⟩ := hrel
    have hwr := HB.out.size
    have hwr1 : w.heap.size + 2 ≤ wr.heap.size := by omega
    have hB0 : Below w.heap.size w wr := HB1.out.trans (HB.out.mono (by omega))
    obtain ⟨q, hq⟩ : ∃ q, q = min (32 * k) n := ⟨_, rfl⟩
    have hlq : ((strmB key nonce k).take n).length = q := by rw [List.length_take, strmB_len, hq]; omega
    obtain ⟨AV, cV, hvf⟩ := HV.out.form
    rw [hlq] at hvf
    rw [hvf] at HV ⊢
    have HLQ := hide hlq
    clear hvf hlq
    by_cases hlt : 32 * k < n
    · have HQK : Hid (q = 32 * k) := hide (by omega)
      have hzq : z = (n : Int) := by have := HZ.out; omega
      subst hzq
      have hlti : (q : Int) < (n : Int) := by have := HQK.out; omega
      have hk64 : k < 18446744073709551616 := by omega
      obtain ⟨t, htt⟩ : ∃ t, t = sKey key nonce k := ⟨_, rfl⟩
      have HT : Hid (dkey key uStream [txt nonce.l, txt (num8 k)] = t) := hide (by rw [htt]; rfl)
      have HRD : Hid ((strmB key nonce k).take n ++ t.l.take (n - 32 * k) = (strmB key nonce (k + 1)).take n) := hide (by rw [htt]; exact strm_round key nonce hlt)
      have HSZ := hide (skey_sizes nonce k)
      have HFL := hide (skey_len nonce k)
      have HPR := hide (HP.out.ext hB0)
      have HKC := hide ((HB.out.block w.heap.size (by omega)).trans HK1.out)
      have HNC := hide ((HB.out.block (w.heap.size + 1) (by omega)).trans HN1.out)
      have HNR := hide (tag_row nonce HNC.out)
      have HB0 := hide hB0
      clear htt hB0 hq
      go_wp2_with fail
      refine wp_region_ext mixed 9 (fun i v w' => match i with
        | 0 => v = tgV key
        | 1 => v = .slice (some ⟨w.heap.size + 1, 0, none⟩) 32 32
        | 2 => v = .string (txt nonce.l)
        | 3 => v = .int .u64 (k : Int)
        | 4 => ∃ A c, v = .slice A 8 c ∧ kU8.Row (fun _ => True) w' A 8 c (num8 k)
        | 5 => v = .string (txt (num8 k))
        | 6 => ∃ A c, v = .slice A 2 c ∧ kStr.Row (fun _ => True) w' A 2 c [txt nonce.l, txt (num8 k)]
        | 7 => v = tgV t
        | _ => ∃ g, v = .pointer (some ⟨g, 0, none⟩) ∧ wr.heap.size ≤ g ∧ w'.heap[g]? = some (.cells (tgC Tg.zero) 29)
        ) (regOk_of (by kernel_rfl)) rfl ?_ ?_ ?_
      · intro i v w1 w2 h1 h2
        split at h2 <;> first | exact h2 | (obtain ⟨g, rfl, hg⟩ := h2; exact ⟨g, rfl, h1.heap hg⟩) | (obtain ⟨g, rfl, hgl, hg⟩ := h2; exact ⟨g, rfl, hgl, h1.heap hg⟩) | (obtain ⟨A, c, e, hr⟩ := h2; exact ⟨A, c, e, hr.below h1⟩)
      · refine ⟨fun a w2 hle hd hf hs K hK => ?_, fun a w2 hle hd hf hs K hK => ?_, fun a w2 hle hd hf hs K hK => ?_, fun a w2 hle hd hf hs K hK => ?_, fun a w2 hle hd hf hs K hK => ?_, fun a w2 hle hd hf hs K hK => ?_, fun a w2 hle hd hf hs K hK => ?_, fun a w2 hle hd hf hs K hK => ?_, fun a w2 hle hd hf hs K hK => ?_, trivial⟩
        all_goals clear hd
        · -- 16 := Op.load 29 t3
          have e3 := hf 3 rfl; simp [Act.eval] at e3
          have hq : agg? w2 ⟨w.heap.size, 0, none⟩ 32 = some (tgC key) := (agg_of_row (hle.heap HKC.out) 0 32 (by decide)).trans (tgC_part key)
          go_simp; exact hK _ _ (Ext.refl _) rfl
        · -- 17 := Op.slice 29 t4 none none none
          have e4 := hf 4 rfl; simp [Act.eval] at e4
          go_simp; exact hK _ _ (Ext.refl _) rfl
        · -- 18 := Op.convert 22 9 t17
          have e17 := hs 1 17 (needs_direct (by kernel_rfl)) rfl; simp [Act.eval] at e17
          have hq := row_string (P := Tryd.prog) Tryd.underlying22 Tryd.underlying5 Tryd.underlying9 (HNR.out.below hle)
          go_simp; exact hK _ _ (Ext.refl _) rfl
        · -- 19 := Op.move t8
          have e8 := hf 8 rfl; simp [Act.eval] at e8
          go_simp; exact hK _ _ (Ext.refl _) rfl
        · -- 20 := Op.call { value (Operand.func 74), args := #[t19], argTypes := #[41] }
          have e19 := hs 3 19 (needs_direct (by kernel_rfl)) rfl; simp [Act.eval] at e19
          go_simp
          refine (c_number k w2 (by omega)).mono ?_
          rintro z w9 ⟨v9, rfl, h9, b9⟩
          obtain ⟨A8, c8, rfl, hr8⟩ := own_row h9
          rw [num8_len] at hr8 ⊢
          exact hK _ _ b9 ⟨A8, c8, rfl, hr8.more fun _ _ => trivial⟩
        · -- 21 := Op.convert 22 9 t20
          obtain ⟨A20, c20, e20, hr20⟩ := hs 4 20 (needs_direct (by kernel_rfl)) rfl; simp [Act.eval] at e20
          have hq := row_string (P := Tryd.prog) Tryd.underlying22 Tryd.underlying5 Tryd.underlying9 hr20
          go_simp; exact hK _ _ (Ext.refl _) rfl
        · -- 22 := Op.buildSlice 34 2 #[(0, t18), (1, t21)]
          have e18 := hs 2 18 (needs_direct (by kernel_rfl)) rfl; have e21 := hs 5 21 (needs_direct (by kernel_rfl)) rfl; simp [Act.eval] at e18 e21
          go_simp
          exact hK _ _ (Ext.alloc _ _) ⟨_, _, rfl, strs_row [txt nonce.l, txt (num8 k)] (heap_alloc_new _ _) rfl HSZ.out (by simp [maxLen])⟩
        · -- 23 := Op.call { value (Operand.func 22), args := #[t16, const (Value.string { data := #[115, 116, 114, 101, 97, 109] }), t22], argTypes := #[29, 9, 34] }
          have e16 := hs 0 16 (needs_direct (by kernel_rfl)) rfl; obtain ⟨A22, c22, e22, hr22⟩ := hs 6 22 (needs_direct (by kernel_rfl)) rfl; simp [Act.eval] at e16 e22
          go_simp
          refine (c_dkey key uStream A22 2 c22 [txt nonce.l, txt (num8 k)] _ w2 hr22 (by decide) (HPR.out.ext hle) HFL.out).mono ?_
          rintro z w9 ⟨rfl, b9⟩
          rw [HT.out]
          exact hK _ _ b9 rfl
        · -- 9 := Op.alloc 29
          go_simp
          exact hK _ _ (Ext.alloc _ _) ⟨_, rfl, by have := hle.size; omega, heap_alloc_new _ _⟩
      intro vs w8 hle hs
      have v8 := hs 8 (by omega) rfl
      have v7 := hs 7 (by omega) rfl
      simp only at v8 v7
      clear hs
      obtain ⟨g, e8, hgl, hg⟩ := v8
      obtain ⟨W9, hW9⟩ : ∃ W9, W9 = w8.setRow g (tgC t) := ⟨_, rfl⟩
      have hrz := row_of hg
      have hb9 : Below wr.heap.size wr W9 := by rw [hW9]; exact bsetRow hle hgl _
      have HG9 : W9.heap[g]? = some (.cells (tgC t) 29) := by rw [hW9]; exact setRow_heap w8 g (tgC Tg.zero) (tgC t) 29 _ hg
      have HV9 := hide (HV.out.below hb9)
      have HB9 := hide (HB.out.trans (hb9.mono hwr1))
      obtain ⟨j, hj⟩ : ∃ j, j = min 32 (n - q) := ⟨_, rfl⟩
      have hj32 : j ≤ 32 := by omega
      have HR9 := hide ((tag_row t HG9).take hj32)
      have hmn : (if (n : Int) - (q : Int) < 32 then (n : Int) - (q : Int) else 32) = (j : Int) := by split <;> omega
      have HTJ : Hid (t.l.take j = t.l.take (n - 32 * k)) := hide (by rw [hj, HQK.out, ← List.take_take, List.take_of_length_le (l := t.l.take (n - 32 * k)) (by rw [List.length_take, t.len]; omega)])
      have HMN := hide hmn
      have hqn : q ≤ n := by have := HQK.out; omega
      have hsl := arr_upto (P := Tryd.prog) Tryd.underlying29 u8_info1 g 0 j hj32 .i64 (j : Int) rfl
      have hw9 : w.heap.size + 2 ≤ W9.heap.size := Nat.le_trans hwr1 hb9.size
      clear hg hgl hle hb9 HG9 hmn hj
      simp only [putN, dstAt]
      go_simp
      go_wp2_with (first
        | ((with_reducible show wpList _ _ _ (Oper.mk (some 29) _ _ _ _ _ :: _) _ _); go_loud (refine at_min .i64 32 _ (j : Int) rfl rfl HMN.out ?_))
        | (at_builtin; (try rw [← hW9]); go_loud (refine wpList_app (d := kU8) (ok := fun _ => True) (base := w.heap.size + 2) rfl _ _ _ rfl Tryd.underlying22 u8_info rfl (by decide) 32 rfl rfl (.inl HV9.out) (src8 HR9.out.src) ?_ ?_ ?_ ?_)))
      · exact hw9
      · rw [HLQ.out]; simp only [maxLen]; omega
      · rw [HLQ.out]; omega
      rw [← hW9]
      intro v11 w11 _ h11 b11 _ _
      have h11 := h11 (.inr HV9.out)
      rw [HTJ.out, HRD.out] at h11
      have HV11 := hide h11
      have HB11 := hide (HB9.out.trans b11)
      clear h11 b11 hW9 hrz hsl
      go_wp2_with fail
      go_roundw
      case rel => exact ⟨k + 1, by simp, .inr (by omega), HV11, HB11⟩
      case measure => simp [intOf]; omega
    · have hnl : ¬ (q : Int) < z := by have := HZ.out; omega
      have HV1 := hide (HV.out.lower (base' := w.heap.size) (by omega))
      have HST := hide (strm_of key nonce (n := n) (k := k) (by omega))
      have HB0 := hide hB0
      clear hB0 hq
      go_wp2_with fail
      go_ret
      exact ⟨_, rfl, by rw [← HST.out]; exact HV1.out, HB0.out⟩
end Go.Proofs.YtdkeflhgengblaaDoor
namespace Go.Proofs.YtdkeflhgengblaaDoor
open Go.RowKit
attribute [local go_sem ↓] ld8 ld32 ld64 ld73
attribute [local go_sem] run_ldAgg run_storeAgg agg_alloc_at agg_alloc_past agg_drew agg_setCell row_alloc_at row_alloc_past row_drew setRow_alloc_at setRow_alloc_past setRow_drew agg_setRow_at agg_setRow_far cell_setRow_at cell_setRow_far row_setRow_far size_setRow s8C_size s8C_part s8C_one s8C_splice0 s8C_ne dgC_size dgC_72 dgC_part dgC_h dgC_r dgC_splice_h dgC_set dgC_one dgC_splice0 dgC_ne zero_dg
attribute [local go_sem] tgC_size tgC_one tgC_part tgC_splice tgC_splice_any zero_tg tgC_ne

theorem heap3 (w : World) (a b c : Array Value) (T : TypeId) : ((((w.alloc (.cells a T)).alloc (.cells b T)).alloc (.cells c T)).heap[w.heap.size]? = some (.cells a T)) ∧ ((((w.alloc (.cells a T)).alloc (.cells b T)).alloc (.cells c T)).heap[w.heap.size + 1]? = some (.cells b T)) ∧ ((((w.alloc (.cells a T)).alloc (.cells b T)).alloc (.cells c T)).heap[w.heap.size + 2]? = some (.cells c T)) := by
  refine ⟨?_, ?_, ?_⟩
  · rw [Below.heap_alloc _ _ _ (by simp only [World.size_alloc]; omega), Below.heap_alloc _ _ _ (by simp only [World.size_alloc]; omega)]; exact heap_alloc_new _ _
  · rw [Below.heap_alloc _ _ _ (by simp only [World.size_alloc]; omega)]
    have := heap_alloc_new (w.alloc (.cells a T)) (.cells b T)
    rwa [World.size_alloc] at this
  · have := heap_alloc_new ((w.alloc (.cells a T)).alloc (.cells b T)) (.cells c T)
    rwa [World.size_alloc, World.size_alloc] at this
set_option maxRecDepth 100000 in
set_option maxHeartbeats 800000 in
theorem c_rblock (key nonce : Tg) (k : Nat) (w : World) (hk : k < 1048576) :
    Calls Tryd.prog 82 #[tgV key, tgV nonce, .int .i64 (k : Int)] w fun e w' => e = .returned (tgV (sKey key nonce k)) ∧ Below w.heap.size w w' := by
  obtain ⟨W1, hW1⟩ : ∃ W1, W1 = ((w.alloc (.cells (tgC key) 29)).alloc (.cells (tgC nonce) 29)).alloc (.cells (tgC Tg.zero) 29) := ⟨_, rfl⟩
  obtain ⟨g1, g2, g3⟩ := heap3 w (tgC key) (tgC nonce) (tgC Tg.zero) 29
  rw [← hW1] at g1 g2 g3
  have HB1 : Hid (Below w.heap.size w W1) := hide (by rw [hW1]; exact below3 _ _ _ _)
  have HK1 := hide g1
  have HNR := hide (tag_row nonce g2)
  have HZ1 := hide g3
  obtain ⟨t, htt⟩ : ∃ t, t = sKey key nonce k := ⟨_, rfl⟩
  have HT : Hid (dkey key uStream [txt nonce.l, txt (num8 k)] = t) := hide (by rw [htt]; rfl)
  have HTT : Hid (sKey key nonce k = t) := hide htt.symm
  have HSZ := hide (skey_sizes nonce k)
  have HFL := hide (skey_len nonce k)
  have HWZ := hide (wrapU64 k (by simp only [maxLen]; omega))
  clear htt g1 g2 g3
  go_enter Tryd.func82, Tryd.ntmps82
  go_wp2_with fail
  rw [← hW1]
  clear hW1
  refine wp_region_ext mixed 9 (fun i v w' => match i with
    | 0 => v = tgV key
    | 1 => v = .slice (some ⟨w.heap.size + 1, 0, none⟩) 32 32
    | 2 => v = .string (txt nonce.l)
    | 3 => v = .int .i64 (k : Int)
    | 4 => v = .int .u64 (k : Int)
    | 5 => ∃ A c, v = .slice A 8 c ∧ kU8.Row (fun _ => True) w' A 8 c (num8 k)
    | 6 => v = .string (txt (num8 k))
    | 7 => ∃ A c, v = .slice A 2 c ∧ kStr.Row (fun _ => True) w' A 2 c [txt nonce.l, txt (num8 k)]
    | _ => v = tgV t
    ) (regOk_of (by kernel_rfl)) rfl ?_ ?_ ?_
  · intro i v w1 w2 h1 h2
    split at h2 <;> first | exact h2 | (obtain ⟨A, c, e, hr⟩ := h2; exact ⟨A, c, e, hr.below h1⟩)
  · refine ⟨fun a w2 hle hd hf hs K hK => ?_, fun a w2 hle hd hf hs K hK => ?_, fun a w2 hle hd hf hs K hK => ?_, fun a w2 hle hd hf hs K hK => ?_, fun a w2 hle hd hf hs K hK => ?_, fun a w2 hle hd hf hs K hK => ?_, fun a w2 hle hd hf hs K hK => ?_, fun a w2 hle hd hf hs K hK => ?_, fun a w2 hle hd hf hs K hK => ?_, trivial⟩
    all_goals clear hd
    · -- 7 := Op.load 29 t3
      have e3 := hf 3 rfl; simp [Act.eval] at e3
      have hq : agg? w2 ⟨w.heap.size, 0, none⟩ 32 = some (tgC key) := (agg_of_row (hle.heap HK1.out) 0 32 (by decide)).trans (tgC_part key)
      go_simp; exact hK _ _ (Ext.refl _) rfl
    · -- 8 := Op.slice 29 t4 none none none
      have e4 := hf 4 rfl; simp [Act.eval] at e4
      go_simp; exact hK _ _ (Ext.refl _) rfl
    · -- 9 := Op.convert 22 9 t8
      have e8 := hs 1 8 (needs_direct (by kernel_rfl)) rfl; simp [Act.eval] at e8
      have hq := row_string (P := Tryd.prog) Tryd.underlying22 Tryd.underlying5 Tryd.underlying9 (HNR.out.below hle)
      go_simp; exact hK _ _ (Ext.refl _) rfl
    · -- 10 := Op.move t2
      have e2 := hf 2 rfl; simp [Act.eval] at e2
      go_simp; exact hK _ _ (Ext.refl _) rfl
    · -- 11 := Op.convert 3 41 t10
      have e10 := hs 3 10 (needs_direct (by kernel_rfl)) rfl; simp [Act.eval] at e10
      have hwz := HWZ.out
      go_simp; exact hK _ _ (Ext.refl _) rfl
    · -- 12 := Op.call { value (Operand.func 75), args := #[t11], argTypes := #[41] }
      have e11 := hs 4 11 (needs_direct (by kernel_rfl)) rfl; simp [Act.eval] at e11
      go_simp
      refine (c_rnumber k w2 (by omega)).mono ?_
      rintro z w9 ⟨v9, rfl, h9, b9⟩
      obtain ⟨A8, c8, rfl, hr8⟩ := own_row h9
      rw [num8_len] at hr8 ⊢
      exact hK _ _ b9 ⟨A8, c8, rfl, hr8.more fun _ _ => trivial⟩
    · -- 13 := Op.convert 22 9 t12
      obtain ⟨A12, c12, e12, hr12⟩ := hs 5 12 (needs_direct (by kernel_rfl)) rfl; simp [Act.eval] at e12
      have hq := row_string (P := Tryd.prog) Tryd.underlying22 Tryd.underlying5 Tryd.underlying9 hr12
      go_simp; exact hK _ _ (Ext.refl _) rfl
    · -- 14 := Op.buildSlice 34 2 #[(0, t9), (1, t13)]
      have e9 := hs 2 9 (needs_direct (by kernel_rfl)) rfl; have e13 := hs 6 13 (needs_direct (by kernel_rfl)) rfl; simp [Act.eval] at e9 e13
      go_simp
      exact hK _ _ (Ext.alloc _ _) ⟨_, _, rfl, strs_row [txt nonce.l, txt (num8 k)] (heap_alloc_new _ _) rfl HSZ.out (by simp [maxLen])⟩
    · -- 15 := Op.call { value (Operand.func 23), args := #[t7, const (Value.string { data := #[115, 116, 114, 101, 97, 109] }), t14], argTypes := #[29, 9, 34] }
      have e7 := hs 0 7 (needs_direct (by kernel_rfl)) rfl; obtain ⟨A14, c14, e14, hr14⟩ := hs 7 14 (needs_direct (by kernel_rfl)) rfl; simp [Act.eval] at e7 e14
      go_simp
      refine (c_rkey key uStream A14 2 c14 [txt nonce.l, txt (num8 k)] _ w2 hr14 (by decide) HFL.out).mono ?_
      rintro z w9 ⟨rfl, b9⟩
      rw [HT.out]
      exact hK _ _ b9 rfl
  intro vs w8 hle hs
  have v8 := hs 8 (by omega) rfl
  simp only at v8
  clear hs
  have hz8 := hle.heap HZ1.out
  have hrz := row_of hz8
  have HB9 := hide (bsetRow (HB1.out.trans (hle.mono HB1.out.size)) (Nat.le_add_right _ 2) (tgC t))
  have hag9 : agg? (w8.setRow (w.heap.size + 2) (tgC t)) ⟨w.heap.size + 2, 0, none⟩ 32 = some (tgC t) := (agg_setRow_at _ _ _ _ _ (by rw [hrz]; rfl) (by decide)).trans (tgC_part t)
  clear hle hz8
  simp only [putN, dstAt]
  go_simp
  go_wp2_with fail
  exact bodyPost_ret (v := tgV t) (by simp [results, Tryd.results82, go_sem, hag9]) rfl ⟨by rw [HTT.out], HB9.out⟩
end Go.Proofs.YtdkeflhgengblaaDoor
namespace Go.Proofs.YtdkeflhgengblaaDoor
open Go.RowKit
attribute [local go_sem ↓] ld8 ld32 ld64 ld73
attribute [local go_sem] run_ldAgg run_storeAgg agg_alloc_at agg_alloc_past agg_drew agg_setCell row_alloc_at row_alloc_past row_drew setRow_alloc_at setRow_alloc_past setRow_drew agg_setRow_at agg_setRow_far cell_setRow_at cell_setRow_far row_setRow_far size_setRow s8C_size s8C_part s8C_one s8C_splice0 s8C_ne dgC_size dgC_72 dgC_part dgC_h dgC_r dgC_splice_h dgC_set dgC_one dgC_splice0 dgC_ne zero_dg
attribute [local go_sem] tgC_size tgC_one tgC_part tgC_splice tgC_splice_any zero_tg tgC_ne

def uBind : ByteArray := { data := #[98, 105, 110, 100] }
def bindT (root en : Tg) : Tg := dkey root uBind [txt en.l]
theorem bind_sizes (en : Tg) : ∀ s ∈ [txt en.l], s.size ≤ maxLen := by
  intro s hs
  simp only [List.mem_cons, List.not_mem_nil, or_false] at hs
  subst hs
  rw [txt_size, en.len]
  decide
theorem bind_len (en : Tg) : (frames (uBind :: [txt en.l])).length < 1073741824 := by
  simp only [frames_cons, frames_nil, List.length_append, frm_len, txt_size, en.len, List.length_nil]
  decide
set_option maxRecDepth 100000 in
set_option maxHeartbeats 800000 in
theorem c_btag (root en : Tg) (w : World) (hP : PrimesAt w) :
    Calls Tryd.prog 29 #[tgV root, tgV en] w fun e w' => e = .returned (tgV (bindT root en)) ∧ Below w.heap.size w w' := by
  obtain ⟨W1, hW1⟩ : ∃ W1, W1 = ((w.alloc (.cells (tgC root) 29)).alloc (.cells (tgC en) 29)).alloc (.cells (tgC Tg.zero) 29) := ⟨_, rfl⟩
  obtain ⟨g1, g2, g3⟩ := heap3 w (tgC root) (tgC en) (tgC Tg.zero) 29
  rw [← hW1] at g1 g2 g3
  have HB1 : Hid (Below w.heap.size w W1) := hide (by rw [hW1]; exact below3 _ _ _ _)
  have HP1 := hide (hP.ext HB1.out)
  have hw0 := hP.1
  clear hP
  have HK1 := hide g1
  have HNR := hide (tag_row en g2)
  have HZ1 := hide g3
  obtain ⟨t, htt⟩ : ∃ t, t = bindT root en := ⟨_, rfl⟩
  have HT : Hid (dkey root uBind [txt en.l] = t) := hide (by rw [htt]; rfl)
  have HTT := hide htt
  have HSZ := hide (bind_sizes en)
  have HFL := hide (bind_len en)
  clear htt g1 g2 g3
  go_enter Tryd.func29, Tryd.ntmps29
  go_wp2_with fail
  rw [← hW1]
  clear hW1
  refine wp_region_ext mixed 5 (fun i v w' => match i with
    | 0 => v = tgV root
    | 1 => v = .slice (some ⟨w.heap.size + 1, 0, none⟩) 32 32
    | 2 => v = .string (txt en.l)
    | 3 => ∃ A c, v = .slice A 1 c ∧ kStr.Row (fun _ => True) w' A 1 c [txt en.l]
    | _ => v = tgV t
    ) (regOk_of (by kernel_rfl)) rfl ?_ ?_ ?_
  · intro i v w1 w2 h1 h2
    split at h2 <;> first | exact h2 | (obtain ⟨A, c, e, hr⟩ := h2; exact ⟨A, c, e, hr.below h1⟩)
  · refine ⟨fun a w2 hle hd hf hs K hK => ?_, fun a w2 hle hd hf hs K hK => ?_, fun a w2 hle hd hf hs K hK => ?_, fun a w2 hle hd hf hs K hK => ?_, fun a w2 hle hd hf hs K hK => ?_, trivial⟩
    all_goals clear hd
    · -- 5 := Op.load 29 t2
      have e2 := hf 2 rfl; simp [Act.eval] at e2
      have hq : agg? w2 ⟨w.heap.size, 0, none⟩ 32 = some (tgC root) := (agg_of_row (hle.heap HK1.out) 0 32 (by decide)).trans (tgC_part root)
      go_simp; exact hK _ _ (Ext.refl _) rfl
    · -- 6 := Op.slice 29 t3 none none none
      have e3 := hf 3 rfl; simp [Act.eval] at e3
      go_simp; exact hK _ _ (Ext.refl _) rfl
    · -- 7 := Op.convert 22 9 t6
      have e6 := hs 1 6 (needs_direct (by kernel_rfl)) rfl; simp [Act.eval] at e6
      have hq := row_string (P := Tryd.prog) Tryd.underlying22 Tryd.underlying5 Tryd.underlying9 (HNR.out.below hle)
      go_simp; exact hK _ _ (Ext.refl _) rfl
    · -- 8 := Op.buildSlice 34 1 #[(0, t7)]
      have e7 := hs 2 7 (needs_direct (by kernel_rfl)) rfl; simp [Act.eval] at e7
      go_simp
      exact hK _ _ (Ext.alloc _ _) ⟨_, _, rfl, strs_row [txt en.l] (heap_alloc_new _ _) rfl HSZ.out (by simp [maxLen])⟩
    · -- 9 := Op.call { value (Operand.func 22), args := #[t5, const (Value.string { data := #[98, 105, 110, 100] }), t8], argTypes := #[29, 9, 34] }
      have e5 := hs 0 5 (needs_direct (by kernel_rfl)) rfl; obtain ⟨A8, c8, e8, hr8⟩ := hs 3 8 (needs_direct (by kernel_rfl)) rfl; simp [Act.eval] at e5 e8
      go_simp
      refine (c_dkey root uBind A8 1 c8 [txt en.l] _ w2 hr8 (by decide) (HP1.out.ext hle) HFL.out).mono ?_
      rintro z w9 ⟨rfl, b9⟩
      rw [HT.out]
      exact hK _ _ b9 rfl
  intro vs w8 hle hs
  have v4 := hs 4 (by omega) rfl
  simp only at v4
  clear hs
  have hz8 := hle.heap HZ1.out
  have hrz := row_of hz8
  have HB9 := hide (bsetRow (HB1.out.trans (hle.mono HB1.out.size)) (Nat.le_add_right _ 2) (tgC t))
  have hag9 : agg? (w8.setRow (w.heap.size + 2) (tgC t)) ⟨w.heap.size + 2, 0, none⟩ 32 = some (tgC t) := (agg_setRow_at _ _ _ _ _ (by rw [hrz]; rfl) (by decide)).trans (tgC_part t)
  clear hle hz8
  simp only [putN, dstAt]
  go_simp
  go_wp2_with fail
  exact bodyPost_ret (v := tgV t) (by simp [results, Tryd.results29, go_sem, hag9]) rfl ⟨by rw [HTT.out], HB9.out⟩
set_option maxRecDepth 100000 in
set_option maxHeartbeats 800000 in
theorem c_r21tag (root en : Tg) (w : World) :
    Calls Tryd.prog 30 #[tgV root, tgV en] w fun e w' => e = .returned (tgV (bindT root en)) ∧ Below w.heap.size w w' := by
  obtain ⟨W1, hW1⟩ : ∃ W1, W1 = ((w.alloc (.cells (tgC root) 29)).alloc (.cells (tgC en) 29)).alloc (.cells (tgC Tg.zero) 29) := ⟨_, rfl⟩
  obtain ⟨g1, g2, g3⟩ := heap3 w (tgC root) (tgC en) (tgC Tg.zero) 29
  rw [← hW1] at g1 g2 g3
  have HB1 : Hid (Below w.heap.size w W1) := hide (by rw [hW1]; exact below3 _ _ _ _)
  have HK1 := hide g1
  have HNR := hide (tag_row en g2)
  have HZ1 := hide g3
  obtain ⟨t, htt⟩ : ∃ t, t = bindT root en := ⟨_, rfl⟩
  have HT : Hid (dkey root uBind [txt en.l] = t) := hide (by rw [htt]; rfl)
  have HTT := hide htt
  have HSZ := hide (bind_sizes en)
  have HFL := hide (bind_len en)
  clear htt g1 g2 g3
  go_enter Tryd.func30, Tryd.ntmps30
  go_wp2_with fail
  rw [← hW1]
  clear hW1
  refine wp_region_ext mixed 5 (fun i v w' => match i with
    | 0 => v = tgV root
    | 1 => v = .slice (some ⟨w.heap.size + 1, 0, none⟩) 32 32
    | 2 => v = .string (txt en.l)
    | 3 => ∃ A c, v = .slice A 1 c ∧ kStr.Row (fun _ => True) w' A 1 c [txt en.l]
    | _ => v = tgV t
    ) (regOk_of (by kernel_rfl)) rfl ?_ ?_ ?_
  · intro i v w1 w2 h1 h2
    split at h2 <;> first | exact h2 | (obtain ⟨A, c, e, hr⟩ := h2; exact ⟨A, c, e, hr.below h1⟩)
  · refine ⟨fun a w2 hle hd hf hs K hK => ?_, fun a w2 hle hd hf hs K hK => ?_, fun a w2 hle hd hf hs K hK => ?_, fun a w2 hle hd hf hs K hK => ?_, fun a w2 hle hd hf hs K hK => ?_, trivial⟩
    all_goals clear hd
    · -- 5 := Op.load 29 t2
      have e2 := hf 2 rfl; simp [Act.eval] at e2
      have hq : agg? w2 ⟨w.heap.size, 0, none⟩ 32 = some (tgC root) := (agg_of_row (hle.heap HK1.out) 0 32 (by decide)).trans (tgC_part root)
      go_simp; exact hK _ _ (Ext.refl _) rfl
    · -- 6 := Op.slice 29 t3 none none none
      have e3 := hf 3 rfl; simp [Act.eval] at e3
      go_simp; exact hK _ _ (Ext.refl _) rfl
    · -- 7 := Op.convert 22 9 t6
      have e6 := hs 1 6 (needs_direct (by kernel_rfl)) rfl; simp [Act.eval] at e6
      have hq := row_string (P := Tryd.prog) Tryd.underlying22 Tryd.underlying5 Tryd.underlying9 (HNR.out.below hle)
      go_simp; exact hK _ _ (Ext.refl _) rfl
    · -- 8 := Op.buildSlice 34 1 #[(0, t7)]
      have e7 := hs 2 7 (needs_direct (by kernel_rfl)) rfl; simp [Act.eval] at e7
      go_simp
      exact hK _ _ (Ext.alloc _ _) ⟨_, _, rfl, strs_row [txt en.l] (heap_alloc_new _ _) rfl HSZ.out (by simp [maxLen])⟩
    · -- 9 := Op.call { value (Operand.func 23), args := #[t5, const (Value.string { data := #[98, 105, 110, 100] }), t8], argTypes := #[29, 9, 34] }
      have e5 := hs 0 5 (needs_direct (by kernel_rfl)) rfl; obtain ⟨A8, c8, e8, hr8⟩ := hs 3 8 (needs_direct (by kernel_rfl)) rfl; simp [Act.eval] at e5 e8
      go_simp
      refine (c_rkey root uBind A8 1 c8 [txt en.l] _ w2 hr8 (by decide) HFL.out).mono ?_
      rintro z w9 ⟨rfl, b9⟩
      rw [HT.out]
      exact hK _ _ b9 rfl
  intro vs w8 hle hs
  have v4 := hs 4 (by omega) rfl
  simp only at v4
  clear hs
  have hz8 := hle.heap HZ1.out
  have hrz := row_of hz8
  have HB9 := hide (bsetRow (HB1.out.trans (hle.mono HB1.out.size)) (Nat.le_add_right _ 2) (tgC t))
  have hag9 : agg? (w8.setRow (w.heap.size + 2) (tgC t)) ⟨w.heap.size + 2, 0, none⟩ 32 = some (tgC t) := (agg_setRow_at _ _ _ _ _ (by rw [hrz]; rfl) (by decide)).trans (tgC_part t)
  clear hle hz8
  simp only [putN, dstAt]
  go_simp
  go_wp2_with fail
  exact bodyPost_ret (v := tgV t) (by simp [results, Tryd.results30, go_sem, hag9]) rfl ⟨by rw [HTT.out], HB9.out⟩
end Go.Proofs.YtdkeflhgengblaaDoor
namespace Go.Proofs.YtdkeflhgengblaaDoor
open Go.RowKit
attribute [local go_sem ↓] ld16 ld17 ld32 ld36
attribute [local go_sem] run_ldAgg run_storeAgg agg_alloc_at agg_alloc_past agg_drew agg_setCell row_alloc_at row_alloc_past row_drew setRow_alloc_at setRow_alloc_past setRow_drew agg_setRow_at agg_setRow_far cell_setRow_at cell_setRow_far row_setRow_far size_setRow tgC_size tgC_one tgC_part tgC_splice tokC_size tokC_0 tokC_1 tokC_2 tokC_3 tokC_g0 tokC_g1 tokC_g2 tokC_g3 tokC_part tokC_tag tokC_set0 tokC_set1 tokC_set2 tokC_set3 tokC_splice tokC_splice0 tgC_splice_any zero_tg zero_tok tokC_all tokC_ne tgC_ne
set_option maxRecDepth 100000 in
set_option maxHeartbeats 400000 in
theorem c_ccloneO (A : Option Addr) (n c : Nat) (xs : List Cav) (ok : Nat → Prop) (w : World) (hR : kCav.Row ok w A n c xs) (hn : n ≤ 1099511627776) :
    Calls Tryd.prog 108 #[.slice A n c] w fun e w' => ∃ A' c', e = .returned (.slice A' n c') ∧ kCav.Own (fun _ => False) w.heap.size w' 83 (.slice A' n c') xs ∧ Below w.heap.size w w' := by
  have HR := hide hR
  have HN := hide hn
  have HL := hide hR.1
  have heq := fun wx : World => Lib.run_eql_slice_nil (P := Tryd.prog) wx _ _ A n c 0 0 Tryd.underlying42
  clear hR hn
  cases A with
  | none =>
    have hn0 : n = 0 := by
      rcases Nat.eq_zero_or_pos n with h | h
      · exact h
      · obtain ⟨b, o, e, _⟩ := HR.out.2.2.2 h; cases e
    have HX : Hid (xs = []) := hide (List.eq_nil_of_length_eq_zero (by rw [HL.out, hn0]))
    subst hn0
    go_enter Tryd.func108, Tryd.ntmps108
    go_wp2_with fail
    go_ret
    exact ⟨none, 0, rfl, by rw [HX.out]; exact Kd.Own.nil kCav _ _ _ _, Below.refl _ _⟩
  | some a =>
    have HO : Hid (kCav.Own (fun _ => False) w.heap.size (w.alloc (.cells #[] 83)) 83 (.slice (some ⟨w.heap.size, 0, none⟩) 0 0) []) := hide (Kd.Own.lit (.nil _ _ _) #[] rfl 0 rfl (Nat.zero_le _) _ rfl (Nat.le_refl _))
    go_enter Tryd.func108, Tryd.ntmps108
    go_wp2_with (at_builtin; go_must (refine wpList_app (d := kCav) (ys := xs) rfl _ _ _ rfl Tryd.underlying42 cav_info rfl (by decide) c rfl rfl (.inl HO.out) (src_cav (HR.out.alloc _).src) ?_ ?_ ?_ ?_))
    · exact Nat.le_trans (Nat.le_succ _) (by simp)
    · have := HN.out; simp only [maxLen, List.length_nil]; omega
    · have := HN.out; simp only [List.length_nil]; omega
    · intro v1 w1 _ h2 h3 _ _
      have ho : kCav.Own (fun _ => False) w.heap.size w1 83 v1 xs := by first | simpa using h2 (.inr HO.out) | simpa using h2
      obtain ⟨A1, c1, rfl, hr⟩ := ho.row
      rw [HL.out] at ho
      have HOW := hide ho
      have HB := hide (((below1 w (.cells #[] 83))).trans h3)
      have hl1 := HL.out
      clear h2 h3 ho hr
      go_wp2_with fail
      go_ret
      exact ⟨A1, c1, by rw [hl1]; rfl, HOW.out, HB.out⟩
set_option maxRecDepth 100000 in
set_option maxHeartbeats 400000 in
theorem c_pcloneO (t : Tok) (A : Option Addr) (n c : Nat) (ok : Nat → Prop) (w : World) (hR : kCav.Row ok w A n c t.cavs) (hn : n ≤ 1099511627776) :
    Calls Tryd.prog 77 #[tokV t A n c] w fun e w' => ∃ A' c', e = .returned (tokV t A' n c') ∧ kCav.Own (fun _ => False) w.heap.size w' 83 (.slice A' n c') t.cavs ∧ Below w.heap.size w w' := by
  have HR := hide hR
  have HN := hide hn
  clear hR hn
  go_enter Tryd.func77, Tryd.ntmps77
  go_wp2_with fail
  refine (c_ccloneO A n c t.cavs ok _ (HR.out.below (below2 _ _ _)) HN.out).mono ?_
  rintro e w1 ⟨A1, c1, rfl, hr, b1⟩
  have HB := hide (bnext (below2 _ _ _) b1)
  have hg1 : w1.heap[w.heap.size]? = some (.cells (tokA t A n c) 44) := (b1.block _ (by simp; omega)).trans ((Below.heap_alloc _ _ _ (by simp)).trans (heap_alloc_new _ _))
  have hz1 : w1.heap[w.heap.size + 1]? = some (.cells tokZ 44) := (b1.block _ (by simp)).trans (heap_new2 _ _ _)
  have hc2 : w1.cell? ⟨w.heap.size, 2, none⟩ = some (.slice A n c) := (cell_of_row w1 _ _ _ _ _ hg1).trans (tokC_2 _ _ _ _ _)
  have hfz : ∀ j, w1.frozen? ⟨w.heap.size, j, none⟩ = false := fun j => frozen_of_row w1 _ _ _ _ hg1
  have hag : agg? (w1.setCell ⟨w.heap.size, 2, none⟩ (.slice A1 n c1)) ⟨w.heap.size, 0, none⟩ 36 = some (tokA t A1 n c1) := by
    rw [agg_of_row (heap_setCell_at _ hg1) 0 36 (by decide), tokC_set2]
    exact tokC_part _ _ _ _ _
  have hz2 : (w1.setCell ⟨w.heap.size, 2, none⟩ (.slice A1 n c1)).heap[w.heap.size + 1]? = some (.cells tokZ 44) := (Below.heap_setCell _ _ _ _ (by show w.heap.size + 1 ≠ w.heap.size; omega)).trans hz1
  have hrw := row_of hz2
  have hbl := fun k e => (hr.base_le k e).1
  simp only [World.size_alloc] at hbl
  have HBL := hide hbl
  have HR1 := hide (hr.keep (w' := w1.setCell ⟨w.heap.size, 2, none⟩ (.slice A1 n c1)) fun k _ hk => Below.heap_setCell _ _ _ _ (by
    rcases hk with hk | hk
    · exact hk.elim
    · have := hbl k hk.symm; show k ≠ w.heap.size; omega))
  have HB2 := hide (HB.out.setCell (show w.heap.size ≤ (⟨w.heap.size, 2, none⟩ : Addr).block from Nat.le_refl _) (.slice A1 n c1))
  clear b1 hr hg1 hz1 hz2 hbl
  go_wp2_with fail
  exact bodyPost_ret (v := .agg (tokA t A1 n c1)) (by simp [results, Tryd.results77, go_sem, hrw]) rfl ⟨A1, c1, rfl, (HR1.out.keep fun k _ hk => heap_setRow_far _ _ _ (by
    rcases hk with hk | hk
    · exact hk.elim
    · have := HBL.out k hk.symm; omega)).lower (base' := w.heap.size) (by simp only [World.size_alloc]; omega), bsetRow HB2.out (Nat.le_succ _) _⟩
theorem own_rowCv {base : Nat} {w : World} {A : Option Addr} {n c : Nat} {xs : List Cav} (h : kCav.Own (fun _ => False) base w 83 (.slice A n c) xs) : kCav.Row (fun k => base ≤ k) w A n c xs := by
  obtain ⟨A', c', e, hr⟩ := h.row
  have hb := h.base_le
  injection e with e1 e2 e3
  subst e1 e2 e3
  exact hr.more fun k hk => by
    rcases hk with hk | hk
    · exact hk.elim
    · exact (hb k hk.symm).1
theorem c_cclone (A : Option Addr) (n c : Nat) (xs : List Cav) (ok : Nat → Prop) (w : World) (hR : kCav.Row ok w A n c xs) (hn : n ≤ 1099511627776) :
    Calls Tryd.prog 108 #[.slice A n c] w fun e w' => ∃ A' c', e = .returned (.slice A' n c') ∧ kCav.Row (fun k => w.heap.size ≤ k) w' A' n c' xs ∧ Below w.heap.size w w' :=
  (c_ccloneO A n c xs ok w hR hn).mono fun _ _ ⟨A', c', e, h1, h2⟩ => ⟨A', c', e, own_rowCv h1, h2⟩
theorem c_pclone (t : Tok) (A : Option Addr) (n c : Nat) (ok : Nat → Prop) (w : World) (hR : kCav.Row ok w A n c t.cavs) (hn : n ≤ 1099511627776) :
    Calls Tryd.prog 77 #[tokV t A n c] w fun e w' => ∃ A' c', e = .returned (tokV t A' n c') ∧ kCav.Row (fun k => w.heap.size ≤ k) w' A' n c' t.cavs ∧ Below w.heap.size w w' :=
  (c_pcloneO t A n c ok w hR hn).mono fun _ _ ⟨A', c', e, h1, h2⟩ => ⟨A', c', e, own_rowCv h1, h2⟩
end Go.Proofs.YtdkeflhgengblaaDoor
namespace Go.Proofs.YtdkeflhgengblaaDoor
open Go.RowKit
attribute [local go_sem ↓] ld8 ld32 ld64 ld73
attribute [local go_sem] run_ldAgg run_storeAgg agg_alloc_at agg_alloc_past agg_drew agg_setCell row_alloc_at row_alloc_past row_drew setRow_alloc_at setRow_alloc_past setRow_drew agg_setRow_at agg_setRow_far cell_setRow_at cell_setRow_far row_setRow_far size_setRow s8C_size s8C_part s8C_one s8C_splice0 s8C_ne dgC_size dgC_72 dgC_part dgC_h dgC_r dgC_splice_h dgC_set dgC_one dgC_splice0 dgC_ne zero_dg
attribute [local go_sem] tgC_size tgC_one tgC_part tgC_splice tgC_splice_any zero_tg tgC_ne
attribute [local go_sem ↓] ld36
attribute [local go_sem] tokC_size tokC_0 tokC_1 tokC_2 tokC_3 tokC_g0 tokC_g1 tokC_g2 tokC_g3 tokC_part tokC_tag tokC_set0 tokC_set1 tokC_set2 tokC_set3 tokC_splice tokC_splice0 zero_tok tokC_all tokC_ne

/-- A discharge bound, and the error's number. -/
def bindR (root : Tg) (d : Tok) : Tok := if d.bnd = true then Tok.zero else { d with bnd := true, tag := bindT root d.tag }
def bindE (d : Tok) : Int := if d.bnd = true then 6 else 0
theorem heap3g (w : World) (a b c : Array Value) (T U V : TypeId) : ((((w.alloc (.cells a T)).alloc (.cells b U)).alloc (.cells c V)).heap[w.heap.size]? = some (.cells a T)) ∧ ((((w.alloc (.cells a T)).alloc (.cells b U)).alloc (.cells c V)).heap[w.heap.size + 1]? = some (.cells b U)) ∧ ((((w.alloc (.cells a T)).alloc (.cells b U)).alloc (.cells c V)).heap[w.heap.size + 2]? = some (.cells c V)) := by
  refine ⟨?_, ?_, ?_⟩
  · rw [Below.heap_alloc _ _ _ (by simp only [World.size_alloc]; omega), Below.heap_alloc _ _ _ (by simp only [World.size_alloc]; omega)]; exact heap_alloc_new _ _
  · rw [Below.heap_alloc _ _ _ (by simp only [World.size_alloc]; omega)]
    have := heap_alloc_new (w.alloc (.cells a T)) (.cells b U)
    rwa [World.size_alloc] at this
  · have := heap_alloc_new ((w.alloc (.cells a T)).alloc (.cells b U)) (.cells c V)
    rwa [World.size_alloc, World.size_alloc] at this
def Bound (w : World) (root : Tg) (d : Tok) (e : Ending) (w' : World) : Prop :=
  ∃ A n c, e = .returned (.tuple #[tokV (bindR root d) A n c, .int .i64 (bindE d)]) ∧ kCav.Row (fun k => w.heap.size ≤ k) w' A n c (bindR root d).cavs ∧ Below w.heap.size w w'
set_option maxRecDepth 100000 in
set_option maxHeartbeats 800000 in
theorem c_bind (root : Tg) (d : Tok) (A : Option Addr) (n c : Nat) (ok : Nat → Prop) (w : World) (hR : kCav.Row ok w A n c d.cavs) (hn : n ≤ 1099511627776) (hP : PrimesAt w) :
    Calls Tryd.prog 26 #[tgV root, tokV d A n c] w (Bound w root d) := by
  obtain ⟨key, id, cavs, bnd, tag⟩ := d
  have hw0 := hP.1
  have HP := hide hP
  have HR := hide hR
  have HN := hide hn
  clear hR hn hP
  cases bnd with
  | true =>
    go_enter Tryd.func26, Tryd.ntmps26
    go_wp2_with fail
    exact bodyPost_ret (v := .tuple #[.agg tokZ, .int .i64 6]) (by simp [results, Tryd.results26, go_sem]) rfl ⟨none, 0, 0, rfl, .nil _ _ _ _ _ (Nat.zero_le _), below3 _ _ _ _⟩
  | false =>
    obtain ⟨W3, hW3⟩ : ∃ W3, W3 = ((w.alloc (.cells (tgC root) 29)).alloc (.cells (tokC (.int .u64 (key : Int)) (.string id) (.slice A n c) (.bool false) tag) 44)).alloc (.cells tokZ 44) := ⟨_, rfl⟩
    obtain ⟨g0, g1, g2⟩ := heap3g w (tgC root) (tokC (.int .u64 (key : Int)) (.string id) (.slice A n c) (.bool false) tag) tokZ 29 44 44
    rw [← hW3] at g0 g1 g2
    have hs3 : W3.heap.size = w.heap.size + 3 := by rw [hW3]; simp only [World.size_alloc]
    have HB3 : Hid (Below w.heap.size w W3) := hide (by rw [hW3]; exact below3 _ _ _ _)
    have hag1 : agg? W3 ⟨w.heap.size + 1, 0, none⟩ 36 = some (tokC (.int .u64 (key : Int)) (.string id) (.slice A n c) (.bool false) tag) := (agg_of_row g1 0 36 (by decide)).trans (tokC_part _ _ _ _ _)
    have hb1 : W3.cell? ⟨w.heap.size + 1, 3, none⟩ = some (.bool false) := (cell_of_row W3 _ _ _ _ _ g1).trans (tokC_3 _ _ _ _ _)
    have HR3 := hide (HR.out.below HB3.out)
    have G0 := hide g0
    have G1 := hide g1
    have G2 := hide g2
    clear g0 g1 g2 HR
    go_enter Tryd.func26, Tryd.ntmps26
    go_wp2_with fail
    rw [← hW3]
    go_wp2_with fail
    refine (c_pclone ⟨key, id, cavs, false, tag⟩ A n c ok W3 HR3.out HN.out).mono ?_
    rintro e w1 ⟨A1, c1, rfl, hr1, b1⟩
    obtain ⟨G, hG⟩ : ∃ G, G = w1.heap.size := ⟨_, rfl⟩
    have hs1 := b1.size
    have HG0 := hide ((b1.block _ (by omega)).trans G0.out)
    have HG1 := hide ((b1.block _ (by omega)).trans G1.out)
    have HG2 := hide ((b1.block _ (by omega)).trans G2.out)
    have HB1 := hide (HB3.out.trans (b1.mono (by omega)))
    have HR1 := hide hr1
    obtain ⟨t, ht⟩ : ∃ t, bindT root tag = t := ⟨_, rfl⟩
    have HT := hide ht
    obtain ⟨C0, hC0⟩ : ∃ C0, C0 = tokC (.int .u64 (key : Int)) (.string id) (.slice A1 n c1) (.bool false) tag := ⟨_, rfl⟩
    obtain ⟨C1, hC1⟩ : ∃ C1, C1 = tokC (.int .u64 (key : Int)) (.string id) (.slice A1 n c1) (.bool true) tag := ⟨_, rfl⟩
    obtain ⟨C2, hC2⟩ : ∃ C2, C2 = tokC (.int .u64 (key : Int)) (.string id) (.slice A1 n c1) (.bool true) t := ⟨_, rfl⟩
    obtain ⟨W4, hW4⟩ : ∃ W4, W4 = w1.alloc (.cells C0 44) := ⟨_, rfl⟩
    have b4 : Below w1.heap.size w1 W4 := by rw [hW4]; exact below1 _ _
    have hs4 : W4.heap.size = G + 1 := by rw [hW4, World.size_alloc, hG]
    have hsG : w.heap.size + 3 ≤ G := by omega
    have hagr : agg? w1 ⟨w.heap.size, 0, none⟩ 32 = some (tgC root) := (agg_of_row HG0.out 0 32 (by decide)).trans (tgC_part root)
    have hagt : agg? w1 ⟨w.heap.size + 1, 4, none⟩ 32 = some (tgC tag) := (agg_of_row HG1.out 4 32 (by decide)).trans (tokC_tag _ _ _ _ _)
    have HB4 := hide (HB1.out.trans (b4.mono (by omega)))
    have HG4 : Hid (W4.heap[G]? = some (.cells C0 44)) := hide (by rw [hW4, hG]; exact heap_alloc_new _ _)
    have HZ4 := hide ((b4.block _ (by omega)).trans HG2.out)
    have HP4 := hide (HP.out.ext HB4.out)
    have HW14 : Hid (∀ k, k < G → W4.heap[k]? = w1.heap[k]?) := hide (fun k hk => b4.block k (by omega))
    have hagr4 : agg? W4 ⟨w.heap.size, 0, none⟩ 32 = some (tgC root) := (agg_of_row ((b4.block _ (by omega)).trans HG0.out) 0 32 (by decide)).trans (tgC_part root)
    have hagt4 : agg? W4 ⟨w.heap.size + 1, 4, none⟩ 32 = some (tgC tag) := (agg_of_row ((b4.block _ (by omega)).trans HG1.out) 4 32 (by decide)).trans (tokC_tag _ _ _ _ _)
    rw [hW4, hC0] at hagr4 hagt4
    clear ht b1 hr1 b4 hag1 hb1
    go_wp2_with fail
    rw [← hC0, ← hW4, ← hG]
    have HGE := hide hG
    clear hG
    refine (c_btag root tag W4 HP4.out).mono ?_
    rintro e w5 ⟨rfl, b5⟩
    rw [HT.out]
    have k6 := (b5.block G (by omega)).trans HG4.out
    have k2 := (b5.block _ (by omega)).trans HZ4.out
    have hs5 := b5.size
    obtain ⟨W5, hW5⟩ : ∃ W5, W5 = w5.setRow G C1 := ⟨_, rfl⟩
    obtain ⟨W6, hW6⟩ : ∃ W6, W6 = W5.setRow G C2 := ⟨_, rfl⟩
    obtain ⟨W7, hW7⟩ : ∃ W7, W7 = W6.setRow (w.heap.size + 2) C2 := ⟨_, rfl⟩
    have hsc : w5.setCell ⟨G, 3, none⟩ (.bool true) = W5 := by rw [setCell_eq_setRow w5 G 3 C0 _ _ _ k6, hW5, hC0, tokC_set3, hC1]
    have hcx : w5.cell? ⟨G, 3, none⟩ = some (.bool false) := (cell_of_row w5 _ _ _ _ _ k6).trans (by rw [hC0]; exact tokC_3 _ _ _ _ _)
    have hfz := frozen_of_row w5 G 3 _ _ k6
    have k5 : W5.heap[G]? = some (.cells C1 44) := by rw [hW5]; exact setRow_heap w5 G C0 C1 44 _ k6
    have k62 : W6.heap[G]? = some (.cells C2 44) := by rw [hW6]; exact setRow_heap W5 G C1 C2 44 _ k5
    have k72 : W6.heap[w.heap.size + 2]? = some (.cells tokZ 44) := by rw [hW6, heap_setRow_far _ _ _ (by omega), hW5, heap_setRow_far _ _ _ (by omega)]; exact k2
    have k8 : W7.heap[w.heap.size + 2]? = some (.cells C2 44) := by rw [hW7]; exact setRow_heap W6 (w.heap.size + 2) tokZ C2 44 _ k72
    have hr5 := row_of k5
    have hr6 := row_of k72
    have hz1 : C1.size = 36 := by rw [hC1]; exact tokC_size _ _ _ _ _
    have hz2 : C2.size = 36 := by rw [hC2]; exact tokC_size _ _ _ _ _
    have hsp : splice C1 4 (tgC t) = C2 := by rw [hC1, hC2]; exact tokC_splice _ _ _ _ _ _
    have hsp2 : splice tokZ 0 C2 = C2 := by rw [hC2]; exact tokC_splice0 _ _ _ _ _ _ (tokC_size _ _ _ _ _)
    have ho2 : oneAll C2 = true := by rw [hC2]; exact tokC_all _ _ _ _ _ _ _ _
    have hag6 : agg? W6 ⟨G, 0, none⟩ 36 = some C2 := (agg_of_row k62 0 36 (by decide)).trans (by rw [hC2]; exact tokC_part _ _ _ _ _)
    have hag7 : agg? W7 ⟨w.heap.size + 2, 0, none⟩ 36 = some C2 := (agg_of_row k8 0 36 (by decide)).trans (by rw [hC2]; exact tokC_part _ _ _ _ _)
    have HB7 : Hid (Below w.heap.size w W7) := hide (by
      rw [hW7, hW6, hW5]
      exact bsetRow (bsetRow (bsetRow (HB4.out.trans (b5.mono (by omega))) (by omega) _) (by omega) _) (by omega) _)
    have hgx := HGE.out
    have HRE : Hid (kCav.Row (fun k => w.heap.size ≤ k) W7 A1 n c1 cavs) := hide ((HR1.out.keep fun k hk hlt => by
      rw [hW7, heap_setRow_far _ _ _ (by omega), hW6, heap_setRow_far _ _ _ (by omega), hW5, heap_setRow_far _ _ _ (by omega)]
      exact (b5.block k (by omega)).trans (HW14.out k (by omega))).more fun k hk => by omega)
    have hss := hW6.symm
    have hs7 := hW7.symm
    have HCE : Hid (Value.agg C2 = tokV (bindR root ⟨key, id, cavs, false, tag⟩) A1 n c1) := hide (by rw [hC2, ← HT.out]; rfl)
    clear hgx hagr4 hagt4 hW5 hW6 hW7 hC0 hC1 hC2 k6 k2 k5 k62 k72 k8 b5 hagr hagt hW4
    go_wp2_with fail
    exact bodyPost_ret (v := .tuple #[.agg C2, .int .i64 0]) (by simp [results, Tryd.results26, go_sem, hag7]) rfl ⟨A1, n, c1, by rw [HCE.out]; rfl, HRE.out, HB7.out⟩
set_option maxRecDepth 100000 in
set_option maxHeartbeats 800000 in
theorem c_rbind (root : Tg) (d : Tok) (A : Option Addr) (n c : Nat) (ok : Nat → Prop) (w : World) (hR : kCav.Row ok w A n c d.cavs) (hn : n ≤ 1099511627776) :
    Calls Tryd.prog 27 #[tgV root, tokV d A n c] w (Bound w root d) := by
  obtain ⟨key, id, cavs, bnd, tag⟩ := d
  have HR := hide hR
  have HN := hide hn
  have HL := hide hR.1
  clear hR hn
  cases bnd with
  | true =>
    go_enter Tryd.func27, Tryd.ntmps27
    go_wp2_with fail
    exact bodyPost_ret (v := .tuple #[.agg tokZ, .int .i64 6]) (by simp [results, Tryd.results27, go_sem]) rfl ⟨none, 0, 0, rfl, .nil _ _ _ _ _ (Nat.zero_le _), below3 _ _ _ _⟩
  | false =>
    obtain ⟨C0, hC0⟩ : ∃ C0, C0 = tokC (.int .u64 (key : Int)) (.string id) (.slice A n c) (.bool false) tag := ⟨_, rfl⟩
    obtain ⟨W3, hW3⟩ : ∃ W3, W3 = ((w.alloc (.cells (tgC root) 29)).alloc (.cells C0 44)).alloc (.cells tokZ 44) := ⟨_, rfl⟩
    obtain ⟨g0, g1, g2⟩ := heap3g w (tgC root) C0 tokZ 29 44 44
    rw [← hW3] at g0 g1 g2
    have hs3 : W3.heap.size = w.heap.size + 3 := by rw [hW3]; simp only [World.size_alloc]
    have HB3 : Hid (Below w.heap.size w W3) := hide (by rw [hW3]; exact below3 _ _ _ _)
    have hb1 : W3.cell? ⟨w.heap.size + 1, 3, none⟩ = some (.bool false) := (cell_of_row W3 _ _ _ _ _ g1).trans (by rw [hC0]; exact tokC_3 _ _ _ _ _)
    have hb2 : W3.cell? ⟨w.heap.size + 1, 2, none⟩ = some (.slice A n c) := (cell_of_row W3 _ _ _ _ _ g1).trans (by rw [hC0]; exact tokC_2 _ _ _ _ _)
    have HR3 := hide (HR.out.below HB3.out)
    have HO : Hid (kCav.Own (fun _ => False) W3.heap.size (W3.alloc (.cells #[] 83)) 83 (.slice (some ⟨W3.heap.size, 0, none⟩) 0 0) []) := hide (Kd.Own.lit (.nil _ _ _) #[] rfl 0 rfl (Nat.zero_le _) _ rfl (Nat.le_refl _))
    rw [hs3] at HO
    have HC0 := hide hC0
    have G0 := hide g0
    have G1 := hide g1
    have G2 := hide g2
    clear g0 g1 g2 HR
    go_enter Tryd.func27, Tryd.ntmps27
    go_wp2_with (at_builtin; go_loud (rw [← hC0, ← hW3]; clear hW3 hC0; refine wpList_app (d := kCav) (ys := cavs) rfl _ _ _ rfl Tryd.underlying42 cav_info rfl (by decide) c rfl rfl (.inl HO.out) (src_cav (HR3.out.alloc _).src) ?_ ?_ ?_ ?_))
    · have := HN.out; simp only [maxLen]; omega
    · have := HN.out; omega
    intro v1 w4 _ h2 h3 _ _
    have ho : kCav.Own (fun _ => False) (w.heap.size + 3) w4 83 v1 cavs := by first | simpa using h2 (.inr HO.out) | simpa using h2
    obtain ⟨A1, c1, rfl, hr⟩ := ho.row
    have hbb := ho.base_le
    have hr2 := hr.more (ok' := fun k => w.heap.size + 3 ≤ k) fun k hk => by
      rcases hk with hk | hk
      · exact hk.elim
      · exact (hbb k hk.symm).1
    rw [HL.out] at hr2
    rw [HL.out]
    have HR4 := hide hr2
    have hsz4 : w.heap.size + 4 ≤ w4.heap.size := by have := h3.size; simp only [World.size_alloc] at this; omega
    have ka : ∀ j, j < w.heap.size + 3 → w4.heap[j]? = W3.heap[j]? := fun j hj => (h3.block j hj).trans (Below.heap_alloc _ _ _ (by omega))
    have k0 := (ka _ (by omega)).trans G0.out
    have k1 := (ka _ (by omega)).trans G1.out
    have k2 := (ka _ (by omega)).trans G2.out
    have HB4 : Hid (Below w.heap.size w w4) := hide ((HB3.out.alloc (by omega) _).trans (h3.mono (by omega)))
    clear h2 h3 ho hr hbb hr2 ka HR3 HO G0 G1 G2 hb1 hb2
    obtain ⟨t, ht⟩ : ∃ t, bindT root tag = t := ⟨_, rfl⟩
    have HT := hide ht
    obtain ⟨C1, hC1⟩ : ∃ C1, C1 = tokC (.int .u64 (key : Int)) (.string id) (.slice A1 n c1) (.bool false) tag := ⟨_, rfl⟩
    obtain ⟨C2, hC2⟩ : ∃ C2, C2 = tokC (.int .u64 (key : Int)) (.string id) (.slice A1 n c1) (.bool false) t := ⟨_, rfl⟩
    obtain ⟨C3, hC3⟩ : ∃ C3, C3 = tokC (.int .u64 (key : Int)) (.string id) (.slice A1 n c1) (.bool true) t := ⟨_, rfl⟩
    obtain ⟨W5, hW5⟩ : ∃ W5, W5 = w4.setRow (w.heap.size + 1) C1 := ⟨_, rfl⟩
    have hsc : w4.setCell ⟨w.heap.size + 1, 2, none⟩ (.slice A1 n c1) = W5 := by rw [setCell_eq_setRow w4 _ 2 C0 _ _ _ k1, hW5, HC0.out, tokC_set2, hC1]
    have hcx : w4.cell? ⟨w.heap.size + 1, 2, none⟩ = some (.slice A n c) := (cell_of_row w4 _ _ _ _ _ k1).trans (by rw [HC0.out]; exact tokC_2 _ _ _ _ _)
    have hfz := frozen_of_row w4 (w.heap.size + 1) 2 _ _ k1
    have k5 : W5.heap[w.heap.size + 1]? = some (.cells C1 44) := by rw [hW5]; exact setRow_heap w4 (w.heap.size + 1) C0 C1 44 _ k1
    have k50 : W5.heap[w.heap.size]? = some (.cells (tgC root) 29) := by rw [hW5, heap_setRow_far _ _ _ (by omega)]; exact k0
    have k52 : W5.heap[w.heap.size + 2]? = some (.cells tokZ 44) := by rw [hW5, heap_setRow_far _ _ _ (by omega)]; exact k2
    have hs5 : W5.heap.size = w4.heap.size := by rw [hW5, size_setRow]
    have hagr : agg? W5 ⟨w.heap.size, 0, none⟩ 32 = some (tgC root) := (agg_of_row k50 0 32 (by decide)).trans (tgC_part root)
    have hagt : agg? W5 ⟨w.heap.size + 1, 4, none⟩ 32 = some (tgC tag) := (agg_of_row k5 4 32 (by decide)).trans (by rw [hC1]; exact tokC_tag _ _ _ _ _)
    have HB5 : Hid (Below w.heap.size w W5) := hide (by rw [hW5]; exact bsetRow HB4.out (by omega) _)
    have HR5 : Hid (kCav.Row (fun k => w.heap.size + 3 ≤ k) W5 A1 n c1 cavs) := hide (HR4.out.keep fun k hk _ => by rw [hW5, heap_setRow_far _ _ _ (by omega)])
    have K5 := hide k5
    have K52 := hide k52
    have HC1 := hide hC1
    clear hW5 k5 k50 k52 k0 k1 k2 ht hC1
    go_wp2_with fail
    refine (c_r21tag root tag W5).mono ?_
    rintro e w6 ⟨rfl, b6⟩
    rw [HT.out]
    have hs6 := b6.size
    have j1 := (b6.block _ (by omega)).trans K5.out
    have j2 := (b6.block _ (by omega)).trans K52.out
    obtain ⟨W7, hW7⟩ : ∃ W7, W7 = w6.setRow (w.heap.size + 1) C2 := ⟨_, rfl⟩
    obtain ⟨W8, hW8⟩ : ∃ W8, W8 = W7.setRow (w.heap.size + 1) C3 := ⟨_, rfl⟩
    obtain ⟨W9, hW9⟩ : ∃ W9, W9 = W8.setRow (w.heap.size + 2) C3 := ⟨_, rfl⟩
    have k7 : W7.heap[w.heap.size + 1]? = some (.cells C2 44) := by rw [hW7]; exact setRow_heap w6 (w.heap.size + 1) C1 C2 44 _ j1
    have k72 : W7.heap[w.heap.size + 2]? = some (.cells tokZ 44) := by rw [hW7, heap_setRow_far _ _ _ (by omega)]; exact j2
    have k8 : W8.heap[w.heap.size + 1]? = some (.cells C3 44) := by rw [hW8]; exact setRow_heap W7 (w.heap.size + 1) C2 C3 44 _ k7
    have k82 : W8.heap[w.heap.size + 2]? = some (.cells tokZ 44) := by rw [hW8, heap_setRow_far _ _ _ (by omega)]; exact k72
    have k9 : W9.heap[w.heap.size + 2]? = some (.cells C3 44) := by rw [hW9]; exact setRow_heap W8 (w.heap.size + 2) tokZ C3 44 _ k82
    have hr6 := row_of j1
    have hr8 := row_of k82
    have hz1 : C1.size = 36 := by rw [HC1.out]; exact tokC_size _ _ _ _ _
    have hz3 : C3.size = 36 := by rw [hC3]; exact tokC_size _ _ _ _ _
    have hsp : splice C1 4 (tgC t) = C2 := by rw [HC1.out, hC2]; exact tokC_splice _ _ _ _ _ _
    have hsp2 : splice tokZ 0 C3 = C3 := by rw [hC3]; exact tokC_splice0 _ _ _ _ _ _ (tokC_size _ _ _ _ _)
    have ho3 : oneAll C3 = true := by rw [hC3]; exact tokC_all _ _ _ _ _ _ _ _
    have hsc7 : W7.setCell ⟨w.heap.size + 1, 3, none⟩ (.bool true) = W8 := by rw [setCell_eq_setRow W7 _ 3 C2 _ _ _ k7, hW8, hC2, tokC_set3, hC3]
    have hcx7 : W7.cell? ⟨w.heap.size + 1, 3, none⟩ = some (.bool false) := (cell_of_row W7 _ _ _ _ _ k7).trans (by rw [hC2]; exact tokC_3 _ _ _ _ _)
    have hfz7 := frozen_of_row W7 (w.heap.size + 1) 3 _ _ k7
    have hag8 : agg? W8 ⟨w.heap.size + 1, 0, none⟩ 36 = some C3 := (agg_of_row k8 0 36 (by decide)).trans (by rw [hC3]; exact tokC_part _ _ _ _ _)
    have hag9 : agg? W9 ⟨w.heap.size + 2, 0, none⟩ 36 = some C3 := (agg_of_row k9 0 36 (by decide)).trans (by rw [hC3]; exact tokC_part _ _ _ _ _)
    have HB9 : Hid (Below w.heap.size w W9) := hide (by
      rw [hW9, hW8, hW7]
      exact bsetRow (bsetRow (bsetRow (HB5.out.trans (b6.mono (by omega))) (by omega) _) (by omega) _) (by omega) _)
    have HRE : Hid (kCav.Row (fun k => w.heap.size ≤ k) W9 A1 n c1 cavs) := hide ((HR5.out.keep fun k hk hlt => by
      rw [hW9, heap_setRow_far _ _ _ (by omega), hW8, heap_setRow_far _ _ _ (by omega), hW7, heap_setRow_far _ _ _ (by omega)]
      exact b6.block k (by omega)).more fun k hk => by omega)
    have hs7 := hW7.symm
    have hs9 := hW9.symm
    have HCE : Hid (Value.agg C3 = tokV (bindR root ⟨key, id, cavs, false, tag⟩) A1 n c1) := hide (by rw [hC3, ← HT.out]; rfl)
    clear hagr hagt hW7 hW8 hW9 hC2 hC3 j1 j2 k7 k72 k8 k82 k9 b6 hcx hfz hsc
    go_wp2_with fail
    exact bodyPost_ret (v := .tuple #[.agg C3, .int .i64 0]) (by simp [results, Tryd.results27, go_sem, hag9]) rfl ⟨A1, n, c1, by rw [HCE.out]; rfl, HRE.out, HB9.out⟩
end Go.Proofs.YtdkeflhgengblaaDoor
namespace Go.Proofs.YtdkeflhgengblaaDoor
open Go.RowKit
/-- []byte(text), at the operation. -/
theorem wp_tobytes {P : Program} {E : TypeId} {w : World} {op : Oper} {a : Act} {K : Act → World → Prop} {Q : Exit → Act → World → Prop} (S D : TypeId) (x : Operand) (ho : op.op = .convert S D x) (s : ByteArray) (hx : a.eval x = .string s)
    (hS : P.underlying S = some .string) (hD : P.underlying D = some (.slice E)) (hE : P.underlying E = some (.int .u8)) (hs : s.size ≤ 9223372036854775807)
    (k : ∀ c w', kU8.Row (fun k => k = w.heap.size) w' (some ⟨w.heap.size, 0, none⟩) s.size c (byt s) → Below w.heap.size w w' → K (a.put op.dst (.slice (some ⟨w.heap.size, 0, none⟩) s.size c)) w') : op.wp P a w K Q := by
  unfold Oper.wp execOp
  simp only [ho, hx, Sem.run_bind, Sem.run_pure, Result.andThen_ok, Lib.run_convert_string_bytes w S D E s hS hD hE]
  exact k _ _ (bytes_new w E s hs) (bytesWorld_below w E s)

/-- A part of a text. -/
theorem ext_txt (s : List UInt8) (i j : Nat) : (txt s).extract i j = txt ((s.drop i).take (j - i)) := by
  apply ByteArray.ext
  rw [ByteArray.data_extract]
  apply Array.toList_inj.1
  simp [List.extract_eq_take_drop]
theorem ext_is {s l : List UInt8} {i j a b : Nat} (h : (s.drop a).take (b - a) = l) (hi : i = a) (hj : j = b) : Value.string ((txt s).extract i j) = .string (txt l) := by
  subst hi hj
  rw [ext_txt, h]
end Go.Proofs.YtdkeflhgengblaaDoor
namespace Go.Proofs.YtdkeflhgengblaaDoor
open Go.RowKit

set_option maxRecDepth 100000 in
set_option maxHeartbeats 800000 in
theorem c_rfbytes (k : UInt8) (s : ByteArray) (w : World) (hs : s.size ≤ 1099511627776) :
    Calls Tryd.prog 137 #[.agg #[bv k, .string s]] w fun e w' => ∃ v, e = .returned v ∧ kU8.Own (fun _ => True) w.heap.size w' 5 v (fput ⟨k, s⟩) ∧ Below w.heap.size w w' := by
  have HS := hide hs
  have HW := hide (show IntKind.u64.wrap (s.size : Int) = (s.size : Int) by rw [IntKind.wrap_u64]; omega)
  have HVL := hide (vput_len10 (n := s.size) (by omega))
  clear hs
  go_enter Tryd.func137, Tryd.ntmps137
  go_wp2
  have hcell : (w.alloc (.cells #[bv k, .string s] 191)).heap[w.heap.size]? = some (.cells #[bv k, .string s] 191) := heap_alloc_new _ _
  have hc0 : (w.alloc (.cells #[bv k, .string s] 191)).cell? ⟨w.heap.size, 0, none⟩ = some (bv k) := (cell_of_row _ _ _ _ _ _ hcell).trans rfl
  have hc1 : (w.alloc (.cells #[bv k, .string s] 191)).cell? ⟨w.heap.size, 1, none⟩ = some (.string s) := (cell_of_row _ _ _ _ _ _ hcell).trans rfl
  clear hcell
  refine wp_region_ext mixed 12 (fun i v w' => match i with
    | 0 => v = .pointer (some ⟨w.heap.size, 0, none⟩)
    | 1 => v = bv k
    | 2 => ∃ g, v = .slice (some ⟨g, 0, none⟩) 1 1 ∧ w'.heap[g]? = some (.cells #[bv k] 5)
    | 3 => v = .pointer (some ⟨w.heap.size, 1, none⟩)
    | 4 => v = .string s
    | 5 => v = .int .i64 (s.size : Int)
    | 6 => v = .int .u64 (s.size : Int)
    | 7 => ∃ A c, v = .slice A (vput s.size).length c ∧ kU8.Row (fun _ => True) w' A (vput s.size).length c (vput s.size)
    | 8 => kU8.Own (fun _ => True) w.heap.size w' 5 v ([k] ++ vput s.size)
    | 9 => v = .pointer (some ⟨w.heap.size, 1, none⟩)
    | 10 => v = .string s
    | _ => ∃ A c, v = .slice A s.size c ∧ kU8.Row (fun _ => True) w' A s.size c (byt s)
    ) (by kernel_rfl) rfl ?_ ?_ ?_
  · intro i v w1 w2 h1 h2
    split at h2 <;> first | exact h2 | (obtain ⟨g, rfl, hg⟩ := h2; exact ⟨g, rfl, h1.heap hg⟩) | (obtain ⟨A, c, e, hr⟩ := h2; exact ⟨A, c, e, hr.below h1⟩) | exact h2.below h1
  · refine ⟨fun a w1 hle hd hf hs K hK => ?_, fun a w1 hle hd hf hs K hK => ?_, fun a w1 hle hd hf hs K hK => ?_, fun a w1 hle hd hf hs K hK => ?_, fun a w1 hle hd hf hs K hK => ?_, fun a w1 hle hd hf hs K hK => ?_, fun a w1 hle hd hf hs K hK => ?_, fun a w1 hle hd hf hs K hK => ?_, fun a w1 hle hd hf hs K hK => ?_, fun a w1 hle hd hf hs K hK => ?_, fun a w1 hle hd hf hs K hK => ?_, fun a w1 hle hd hf hs K hK => ?_, trivial⟩
    all_goals clear hd
    · -- 3 := Op.fieldAddr 134 t1 0
      have e1 := hf 1 rfl; simp [Act.eval] at e1
      go_simp; exact hK _ _ (Ext.refl _) rfl
    · -- 4 := Op.load 5 t3
      have e3 := hs 0 3 (by kernel_rfl) rfl; simp [Act.eval] at e3
      have hc := hle.cell hc0
      go_simp; exact hK _ _ (Ext.refl _) rfl
    · -- 5 := Op.buildSlice 60 1 #[(0, t4)]
      have e4 := hs 1 4 (by kernel_rfl) rfl; simp [Act.eval] at e4
      go_simp; exact hK _ _ (Ext.alloc _ _) ⟨_, rfl, heap_alloc_new _ _⟩
    · -- 6 := Op.fieldAddr 134 t1 1
      have e1 := hf 1 rfl; simp [Act.eval] at e1
      go_simp; exact hK _ _ (Ext.refl _) rfl
    · -- 7 := Op.load 9 t6
      have e6 := hs 3 6 (by kernel_rfl) rfl; simp [Act.eval] at e6
      have hc := hle.cell hc1
      go_simp; exact hK _ _ (Ext.refl _) rfl
    · -- 8 := Op.call { builtin len, args := #[t7], argTypes := #[9] }
      have e7 := hs 4 7 (by kernel_rfl) rfl; simp [Act.eval] at e7
      go_simp; exact hK _ _ (Ext.refl _) rfl
    · -- 9 := Op.convert 3 39 t8
      have e8 := hs 5 8 (by kernel_rfl) rfl; simp [Act.eval] at e8
      have hw := HW.out
      go_simp; exact hK _ _ (Ext.refl _) rfl
    · -- 10 := Op.call { value (Operand.func 89), args := #[t9], argTypes := #[39] }
      have e9 := hs 6 9 (by kernel_rfl) rfl; simp [Act.eval] at e9
      go_simp
      refine (c_r8bytes 9 s.size _ _ rfl (by have := HS.out; omega) (by have := HS.out; omega)).mono ?_
      rintro e w4 ⟨v, rfl, ho, hb⟩
      obtain ⟨A2, c2, rfl, hr⟩ := ho.row
      exact hK _ _ hb ⟨A2, c2, rfl, hr.more fun _ _ => trivial⟩
    · -- 11 := Op.call { builtin append, args := #[t5, t10], argTypes := #[60, 60] }
      obtain ⟨g5, e5, hg5⟩ := hs 2 5 (by kernel_rfl) rfl
      obtain ⟨A10, c10, e10, hr10⟩ := hs 7 10 (by kernel_rfl) rfl
      have hrow : kU8.Row (fun _ => True) w1 (some ⟨g5, 0, none⟩) 1 1 [k] := ⟨rfl, Nat.le_refl _, by decide, fun _ => ⟨g5, 0, rfl, trivial, (Array.getElem?_eq_some_iff.1 hg5).1, fun i x hx => ⟨[bv x], ⟨rfl, trivial⟩, fun j u hu => by
        match i, hx with
        | 0, hx =>
          simp at hx
          subst hx
          match j, hu with
          | 0, hu => simp at hu; subst hu; exact (cell_of_row w1 _ _ _ _ _ hg5).trans rfl
          | j + 1, hu => simp at hu
        | i + 1, hx => simp at hx⟩⟩⟩
      refine wp_full (d := kU8) (ys := vput s.size) _ _ _ rfl Tryd.underlying22 u8_info rfl (by decide) c10 e5 e10 hrow hr10.src (vput_pos _) ?_ ?_ ?_
      · have := HVL.out; simp only [maxLen]; omega
      · have := HVL.out; omega
      · intro v' w' h1 h2
        exact hK _ _ h2 (h1.lower (by have := hle.size; simp only [World.size_alloc] at this; omega))
    · -- 12 := Op.fieldAddr 134 t1 1
      have e1 := hf 1 rfl; simp [Act.eval] at e1
      go_simp; exact hK _ _ (Ext.refl _) rfl
    · -- 13 := Op.load 9 t12
      have e12 := hs 9 12 (by kernel_rfl) rfl; simp [Act.eval] at e12
      have hc := hle.cell hc1
      go_simp; exact hK _ _ (Ext.refl _) rfl
    · -- 14 := Op.convert 9 60 t13
      have e13 := hs 10 13 (by kernel_rfl) rfl
      refine wp_tobytes 9 22 _ rfl s e13 Tryd.underlying9 Tryd.underlying22 Tryd.underlying5 (by have := HS.out; omega) ?_
      intro c w' h1 h2
      exact hK _ _ h2 ⟨_, c, rfl, h1.more fun _ _ => trivial⟩
  · intro vs w1 hle hs
    have v8 := hs 8 (by omega) rfl
    have v11 := hs 11 (by omega) rfl
    simp only at v8 v11
    clear hs
    obtain ⟨A11, c11, v11, hr11⟩ := v11
    obtain ⟨A8, c8, v8e⟩ := v8.form
    rw [v8e] at v8
    have HO8 := hide v8
    have HR11 := hide hr11
    have HB1 := hide ((below1 w (.cells #[bv k, .string s] 191)).trans (hle.mono (by simp)))
    clear hle hr11 v8
    simp only [putN, dstAt]
    go_simp
    go_wp2_with (at_builtin; go_must (refine wpList_app (d := kU8) (ys := byt s) rfl _ _ _ rfl Tryd.underlying22 u8_info rfl (by decide) c11 rfl rfl (.inl HO8.out) (src8 HR11.out.src) HB1.out.size ?_ ?_ ?_))
    · have := HVL.out; have := HS.out; simp only [maxLen, List.length_append, List.length_cons, List.length_nil]; omega
    · have := HVL.out; have := HS.out; simp only [List.length_append, List.length_cons, List.length_nil]; omega
    · intro v1 w4 _ h2 h3 _ _
      have H2 := hide (h2 (.inr HO8.out))
      have H3 := hide h3
      clear h2 h3
      go_wp2_with fail
      go_ret
      refine ⟨_, rfl, ?_, HB1.out.trans H3.out⟩
      have := H2.out
      simpa [fput] using this
theorem rfld_size : (Tryd.prog.info? 191).map (·.size) = some kFld.sz := by kernel_rfl
theorem rfld_info : (Tryd.prog.info? 191).map (fun i => (i.zero, i.size, i.bytes)) = some (some (.agg #[.int .u8 0, .string ByteArray.empty]), 2, 24) := by kernel_rfl

set_option maxRecDepth 100000 in
set_option maxHeartbeats 400000 in
theorem c_rjoin (A : Option Addr) (n c : Nat) (l : List Fld) (ok : Nat → Prop) (w : World) (hR : kFld.Row ok w A n c l) (hn : (fjoin l).length ≤ 1099511627776) (hv : ∀ f ∈ l, f.value.size ≤ 1099511627776) :
    Calls Tryd.prog 127 #[.slice A n c] w fun e w' => ∃ v, e = .returned v ∧ kU8.Own (fun _ => True) w.heap.size w' 5 v (fjoin l) ∧ Below w.heap.size w w' := by
  have HL := hide hR.1
  have hcap : n ≤ maxLen := Nat.le_trans hR.2.1 hR.2.2.1
  simp only [maxLen] at hcap
  have HR := hide hR
  have HN := hide hn
  have HV := hide hv
  clear hR hn hv
  go_enter Tryd.func127, Tryd.ntmps127
  go_wp2_with fail
  go_loopw [9, 3] (fun i p wr => ∃ (k : Nat) (lp : List UInt8), k ≤ n ∧ i = .int .i64 (k : Int) ∧ Hid (lp = fjoin (l.take k)) ∧ Hid (kU8.Own (fun _ => True) w.heap.size wr 5 p lp) ∧ Hid (Below w.heap.size w wr)) (fun i _ _ => n - (intOf i).toNat)
  case atStart => exact ⟨0, [], Nat.zero_le _, rfl, hide rfl, hide (Kd.Own.lit (.nil _ _ _) #[] rfl 0 rfl (Nat.zero_le _) _ rfl (Nat.le_refl _)), hide (below1 _ _)⟩
  case round =>
    obtain ⟨k, lp, hk, rfl, HLP, HO, HB⟩ := hrel
    by_cases hlt : k < n
    · obtain ⟨f, hf⟩ : ∃ f, l[k]? = some f := ⟨_, List.getElem?_eq_getElem (by have := HL.out; omega)⟩
      obtain ⟨b, q, cs, hix, -, hbl, hK, hra⟩ := (HR.out.below HB.out).index (P := Tryd.prog) Tryd.underlying182 (E := 191) rfld_size hf
      have hKe := hK.1
      subst hKe
      have hc0 := hra 0 _ rfl
      have hc1 := hra 1 _ rfl
      simp only [Nat.add_zero] at hc0
      have HT : Hid (l.take (k + 1) = l.take k ++ [f]) := hide (by rw [List.take_add_one, hf]; rfl)
      have HFV := hide (HV.out f (List.mem_of_getElem? hf))
      have hsb := HB.out.size
      have HLN : Hid ((lp ++ fput f).length ≤ 1099511627776) := hide (by
        have h1 : lp ++ fput f = fjoin (l.take (k + 1)) := by rw [HT.out, fjoin_app, ← HLP.out]; simp [fjoin]
        rw [h1]
        exact Nat.le_trans (fjoin_take l (k + 1)) HN.out)
      clear hf hK hra
      go_wp2_with fail
      refine (c_rfbytes f.kind f.value _ HFV.out).mono ?_
      rintro e w1 ⟨v1, rfl, h1, b1⟩
      have b1' := bnext (below1 wr _) b1
      have HB1 := hide (HB.out.trans (b1'.mono hsb))
      have HO1 := hide (HO.out.below b1')
      have hsb1 := HB1.out.size
      obtain ⟨A1, c1, rfl, hr1⟩ := h1.row
      have HR1 := hide hr1
      clear h1 b1 b1' hr1
      go_wp2_with (at_builtin; go_must (refine wpList_app (d := kU8) (ys := fput f) rfl _ _ _ rfl Tryd.underlying22 u8_info rfl (by decide) c1 rfl rfl (.inl HO1.out) (src8 HR1.out.src) hsb1 ?_ ?_ ?_))
      · have := HLN.out; rw [List.length_append] at this; simp only [maxLen]; show _ ≤ 9223372036854775807; have e : (fput ⟨f.kind, f.value⟩).length = (fput f).length := rfl; omega
      · have := HLN.out; rw [List.length_append] at this; have e : (fput ⟨f.kind, f.value⟩).length = (fput f).length := rfl; omega
      · intro v2 w2 _ h2 h3 _ _
        have H2 := hide (h2 (.inr HO1.out))
        have HB2 := hide (HB1.out.trans h3)
        clear h2 h3
        go_wp2_with fail
        go_roundw
        case rel =>
          refine ⟨k + 1, _, by omega, by simp, hide ?_, H2, HB2⟩
          rw [HT.out, fjoin_app, ← HLP.out]
          simp [fjoin]
        case measure => simp [intOf]; omega
    · obtain rfl : k = n := by omega
      have HE : Hid (lp = fjoin l) := hide (by rw [HLP.out, List.take_of_length_le (Nat.le_of_eq HL.out)])
      go_wp2_with fail
      go_ret
      exact ⟨_, rfl, by rw [← HE.out]; exact HO.out, HB.out⟩

end Go.Proofs.YtdkeflhgengblaaDoor
namespace Go.Proofs.YtdkeflhgengblaaDoor
open Go.RowKit
attribute [local go_sem ↓] ld16 ld17 ld32 ld36
attribute [local go_sem] run_ldAgg run_storeAgg agg_alloc_at agg_alloc_past agg_drew agg_setCell row_alloc_at row_alloc_past row_drew setRow_alloc_at setRow_alloc_past setRow_drew agg_setRow_at agg_setRow_far cell_setRow_at cell_setRow_far row_setRow_far size_setRow tgC_size tgC_one tgC_part tgC_splice tokC_size tokC_0 tokC_1 tokC_2 tokC_3 tokC_g0 tokC_g1 tokC_g2 tokC_g3 tokC_part tokC_tag tokC_set0 tokC_set1 tokC_set2 tokC_set3 tokC_splice tokC_splice0 tgC_splice_any zero_tg zero_tok tokC_all tokC_ne tgC_ne
set_option maxRecDepth 100000 in
theorem c_rnum (x : Nat) (i : Int) (w : World) (hi : i = (x : Int)) (hx : x < 18446744073709551616) :
    Calls Tryd.prog 138 #[.int .u64 i] w fun e w' => e = .returned (.string (txt (vput x))) ∧ Below w.heap.size w w' := by
  subst hi
  have HX := hide hx
  clear hx
  go_enter Tryd.func138, Tryd.ntmps138
  go_wp2_with fail
  refine (c_r8bytes 9 x _ _ rfl (by have := HX.out; omega) HX.out).mono ?_
  rintro e w1 ⟨v, rfl, ho, hb⟩
  obtain ⟨A, c, rfl, hr⟩ := ho.row
  have hs := row_string (P := Tryd.prog) Tryd.underlying22 Tryd.underlying5 Tryd.underlying9 hr
  have HB := hide hb
  clear ho hr hb
  go_wp2_with fail
  go_ret
  exact ⟨rfl, HB.out⟩

theorem row_of_cells {ok : Nat → Prop} {w : World} {l : List Fld} {g : Nat} {C : Array Value} {E : TypeId} {fr : Nat × Nat} (hl : ∀ f ∈ l, f.value.size ≤ maxLen) (hg : w.heap[g]? = some (.cells C E fr)) (hC : C.toList = (l.map Fld.cells).flatten) (hok : ok g) (n : Nat) (hn : l.length = n) (hm : n ≤ maxLen) :
    kFld.Row ok w (some ⟨g, 0, none⟩) n n l := by
  subst hn
  exact (flds_els hl).rowAt hg hC hok hm

set_option maxRecDepth 100000 in
set_option maxHeartbeats 600000 in
theorem c_rcav (x : Cav) (w : World) (hp : x.party < 18446744073709551616) (ht : x.text.size ≤ maxLen) (hi : x.id.size ≤ maxLen) (hv : x.vault.size ≤ maxLen) :
    Calls Tryd.prog 128 #[cavV x] w fun e w' => (∃ A n c, e = .returned (.slice A n c) ∧ kFld.Row (fun _ => True) w' A n c (cavFlds x)) ∧ Below w.heap.size w w' := by
  have HP := hide hp
  have HT := hide ht
  have HI := hide hi
  have HV := hide hv
  clear hp ht hi hv
  unfold cavV
  cases h3 : x.third with
  | false =>
    have HF : Hid (cavFlds x = [⟨3, x.text⟩]) := hide (by simp [cavFlds, h3])
    clear h3
    go_enter Tryd.func128, Tryd.ntmps128
    go_wp2_with fail
    go_ret
    rw [HF.out]
    refine ⟨⟨_, 1, 1, rfl, row_of_cells (C := #[.int .u8 3, .string x.text]) (E := 191) ?_ (heap_new2 _ _ _) rfl trivial 1 rfl (by decide)⟩, below2 _ _ _⟩
    intro f hf
    simp only [List.mem_singleton] at hf
    subst hf
    exact HT.out
  | true =>
    have HF : Hid (cavFlds x = [⟨4, txt (vput x.party)⟩, ⟨5, x.id⟩, ⟨6, x.vault⟩]) := hide (by simp [cavFlds, h3])
    clear h3
    go_enter Tryd.func128, Tryd.ntmps128
    go_wp2_with fail
    have hcell : (w.alloc (.cells #[.bool true, .string x.text, .int .u64 (x.party : Int), .string x.id, .string x.vault] 83)).heap[w.heap.size]? = some (.cells #[.bool true, .string x.text, .int .u64 (x.party : Int), .string x.id, .string x.vault] 83) := heap_alloc_new _ _
    have hc2 : (w.alloc (.cells #[.bool true, .string x.text, .int .u64 (x.party : Int), .string x.id, .string x.vault] 83)).cell? ⟨w.heap.size, 2, none⟩ = some (.int .u64 (x.party : Int)) := (cell_of_row _ _ _ _ _ _ hcell).trans rfl
    have hc3 : (w.alloc (.cells #[.bool true, .string x.text, .int .u64 (x.party : Int), .string x.id, .string x.vault] 83)).cell? ⟨w.heap.size, 3, none⟩ = some (.string x.id) := (cell_of_row _ _ _ _ _ _ hcell).trans rfl
    have hc4 : (w.alloc (.cells #[.bool true, .string x.text, .int .u64 (x.party : Int), .string x.id, .string x.vault] 83)).cell? ⟨w.heap.size, 4, none⟩ = some (.string x.vault) := (cell_of_row _ _ _ _ _ _ hcell).trans rfl
    clear hcell
    refine wp_region_ext mixed 11 (fun i v w' => match i with
      | 0 => v = .pointer (some ⟨w.heap.size, 2, none⟩)
      | 1 => v = .int .u64 (x.party : Int)
      | 2 => v = .string (txt (vput x.party))
      | 3 => v = .agg #[.int .u8 4, .string (txt (vput x.party))]
      | 4 => v = .pointer (some ⟨w.heap.size, 3, none⟩)
      | 5 => v = .string x.id
      | 6 => v = .agg #[.int .u8 5, .string x.id]
      | 7 => v = .pointer (some ⟨w.heap.size, 4, none⟩)
      | 8 => v = .string x.vault
      | 9 => v = .agg #[.int .u8 6, .string x.vault]
      | _ => ∃ g, v = .slice (some ⟨g, 0, none⟩) 3 3 ∧ w'.heap[g]? = some (.cells #[.int .u8 4, .string (txt (vput x.party)), .int .u8 5, .string x.id, .int .u8 6, .string x.vault] 191)
      ) (by kernel_rfl) rfl ?_ ?_ ?_
    · intro i v w1 w2 h1 h2
      split at h2 <;> first | exact h2 | (obtain ⟨g, rfl, hg⟩ := h2; exact ⟨g, rfl, h1.heap hg⟩)
    · refine ⟨fun a w1 hle hd hf hs K hK => ?_, fun a w1 hle hd hf hs K hK => ?_, fun a w1 hle hd hf hs K hK => ?_, fun a w1 hle hd hf hs K hK => ?_, fun a w1 hle hd hf hs K hK => ?_, fun a w1 hle hd hf hs K hK => ?_, fun a w1 hle hd hf hs K hK => ?_, fun a w1 hle hd hf hs K hK => ?_, fun a w1 hle hd hf hs K hK => ?_, fun a w1 hle hd hf hs K hK => ?_, fun a w1 hle hd hf hs K hK => ?_, trivial⟩
      all_goals clear hd
      · have e1 := hf 1 rfl; simp [Act.eval] at e1
        go_simp; exact hK _ _ (Ext.refl _) rfl
      · have e5 := hs 0 5 (by kernel_rfl) rfl; simp [Act.eval] at e5
        have hc := hle.cell hc2
        go_simp; exact hK _ _ (Ext.refl _) rfl
      · have e6 := hs 1 6 (by kernel_rfl) rfl; simp [Act.eval] at e6
        go_simp
        refine (c_rnum x.party _ w1 rfl HP.out).mono ?_
        rintro e w3 ⟨rfl, b⟩
        exact hK _ _ b rfl
      · have e7 := hs 2 7 (by kernel_rfl) rfl; simp [Act.eval] at e7
        go_simp; exact hK _ _ (Ext.refl _) rfl
      · have e1 := hf 1 rfl; simp [Act.eval] at e1
        go_simp; exact hK _ _ (Ext.refl _) rfl
      · have e9 := hs 4 9 (by kernel_rfl) rfl; simp [Act.eval] at e9
        have hc := hle.cell hc3
        go_simp; exact hK _ _ (Ext.refl _) rfl
      · have e10 := hs 5 10 (by kernel_rfl) rfl; simp [Act.eval] at e10
        go_simp; exact hK _ _ (Ext.refl _) rfl
      · have e1 := hf 1 rfl; simp [Act.eval] at e1
        go_simp; exact hK _ _ (Ext.refl _) rfl
      · have e12 := hs 7 12 (by kernel_rfl) rfl; simp [Act.eval] at e12
        have hc := hle.cell hc4
        go_simp; exact hK _ _ (Ext.refl _) rfl
      · have e13 := hs 8 13 (by kernel_rfl) rfl; simp [Act.eval] at e13
        go_simp; exact hK _ _ (Ext.refl _) rfl
      · have e8 := hs 3 8 (by kernel_rfl) rfl; have e11 := hs 6 11 (by kernel_rfl) rfl; have e14 := hs 9 14 (by kernel_rfl) rfl; simp [Act.eval] at e8 e11 e14
        go_simp; exact hK _ _ (Ext.alloc _ _) ⟨_, rfl, heap_alloc_new _ _⟩
    intro vs w2 hle hs
    have v10 := hs 10 (by omega) rfl
    simp only at v10
    clear hs
    obtain ⟨g, v10, hg⟩ := v10
    simp only [putN, dstAt]
    have HLE := hide (Ext.trans (Ext.alloc w _) hle)
    have HG := hide hg
    clear hle hg hc2 hc3 hc4
    go_simp
    go_wp2_with fail
    go_ret
    rw [HF.out]
    refine ⟨⟨_, 3, 3, rfl, row_of_cells ?_ HG.out rfl trivial 3 rfl (by decide)⟩, HLE.out⟩
    intro f hf
    simp only [List.mem_cons, List.not_mem_nil, or_false] at hf
    have := vput_len10 HP.out
    rcases hf with rfl | rfl | rfl
    · simp only [txt_size, maxLen]; omega
    · exact HI.out
    · exact HV.out
end Go.Proofs.YtdkeflhgengblaaDoor
namespace Go.Proofs.YtdkeflhgengblaaDoor
open Go.RowKit
attribute [local go_sem ↓] ld8 ld32 ld64 ld73
attribute [local go_sem] run_ldAgg run_storeAgg agg_alloc_at agg_alloc_past agg_drew agg_setCell row_alloc_at row_alloc_past row_drew setRow_alloc_at setRow_alloc_past setRow_drew agg_setRow_at agg_setRow_far cell_setRow_at cell_setRow_far row_setRow_far size_setRow s8C_size s8C_part s8C_one s8C_splice0 s8C_ne dgC_size dgC_72 dgC_part dgC_h dgC_r dgC_splice_h dgC_set dgC_one dgC_splice0 dgC_ne zero_dg
attribute [local go_sem] tgC_size tgC_one tgC_part tgC_splice tgC_splice_any zero_tg tgC_ne
attribute [local go_sem ↓] ld36
attribute [local go_sem] tokC_size tokC_0 tokC_1 tokC_2 tokC_3 tokC_g0 tokC_g1 tokC_g2 tokC_g3 tokC_part tokC_tag tokC_set0 tokC_set1 tokC_set2 tokC_set3 tokC_splice tokC_splice0 zero_tok tokC_all tokC_ne

def uCav : ByteArray := { data := #[99, 97, 118, 101, 97, 116] }
def nextT (t : Tg) (x : Cav) : Tg := dkey t uCav [txt (fjoin (cavFlds x))]
def Cav.small (x : Cav) : Prop := x.text.size ≤ 100000 ∧ x.party < 18446744073709551616 ∧ x.id.size ≤ 100000 ∧ x.vault.size ≤ 100000
theorem small_vals {x : Cav} (h : x.small) : ∀ f ∈ cavFlds x, f.value.size ≤ 100000 := by
  intro f hf
  have hv := vput_len10 h.2.1
  unfold cavFlds at hf
  split at hf
  · simp only [List.mem_cons, List.not_mem_nil, or_false] at hf
    rcases hf with rfl | rfl | rfl
    · show (txt (vput x.party)).size ≤ _; rw [txt_size]; omega
    · exact h.2.2.1
    · exact h.2.2.2
  · simp only [List.mem_cons, List.not_mem_nil, or_false] at hf
    subst hf
    exact h.1
theorem small_len {x : Cav} (h : x.small) : (fjoin (cavFlds x)).length < 1000000 := by
  have hb : ∀ l : List Fld, (∀ f ∈ l, f.value.size ≤ 100000) → (fjoin l).length ≤ l.length * 100011 := by
    intro l
    induction l with
    | nil => intro _; simp [fjoin]
    | cons f r ih =>
      intro hl
      have h1 := fput_len f (by have := hl f (by simp); omega)
      have h2 := ih (fun g hg => hl g (by simp [hg]))
      have h3 := hl f (by simp)
      have e : fjoin (f :: r) = fput f ++ fjoin r := by simp [fjoin]
      rw [e, List.length_append, List.length_cons, Nat.add_mul]
      omega
  have h1 := hb _ (small_vals h)
  have h2 : (cavFlds x).length ≤ 3 := by unfold cavFlds; split <;> simp
  have h3 : (cavFlds x).length * 100011 ≤ 3 * 100011 := Nat.mul_le_mul_right _ h2
  omega
set_option maxRecDepth 100000 in
set_option maxHeartbeats 800000 in
theorem c_next (t : Tg) (x : Cav) (w : World) (hs : x.small) (hP : PrimesAt w) :
    Calls Tryd.prog 90 #[tgV t, cavV x] w fun e w' => e = .returned (tgV (nextT t x)) ∧ Below w.heap.size w w' := by
  obtain ⟨W1, hW1⟩ : ∃ W1, W1 = ((w.alloc (.cells (tgC t) 29)).alloc (.cells #[.bool x.third, .string x.text, .int .u64 (x.party : Int), .string x.id, .string x.vault] 83)).alloc (.cells (tgC Tg.zero) 29) := ⟨_, rfl⟩
  obtain ⟨g1, g2, g3⟩ := heap3g w (tgC t) #[.bool x.third, .string x.text, .int .u64 (x.party : Int), .string x.id, .string x.vault] (tgC Tg.zero) 29 83 29
  rw [← hW1] at g1 g2 g3
  have HB1 : Hid (Below w.heap.size w W1) := hide (by rw [hW1]; exact below3 _ _ _ _)
  have HP1 := hide (hP.ext HB1.out)
  have hw0 := hP.1
  clear hP
  have HK1 := hide g1
  have HC1 := hide g2
  have HZ1 := hide g3
  have HS := hide hs
  obtain ⟨fl, hfl⟩ : ∃ fl, cavFlds x = fl := ⟨_, rfl⟩
  obtain ⟨q, hq⟩ : ∃ q, fl.length = q := ⟨_, rfl⟩
  obtain ⟨fb, hfb⟩ : ∃ fb, fjoin fl = fb := ⟨_, rfl⟩
  obtain ⟨m, hm⟩ : ∃ m, fb.length = m := ⟨_, rfl⟩
  obtain ⟨nt, hnt⟩ : ∃ nt, nextT t x = nt := ⟨_, rfl⟩
  have hlen : m < 1000000 := by rw [← hm, ← hfb, ← hfl]; exact small_len hs
  have HFLD := hide hfl
  have HQ := hide hq
  have HFJ := hide hfb
  have HFB : Hid (fjoin (cavFlds x) = fb) := hide (by rw [hfl, hfb])
  have HM := hide hm
  have HML := hide hlen
  have HNT := hide hnt
  have HT : Hid (dkey t uCav [txt fb] = nt) := hide (by rw [← hnt, nextT, hfl, hfb])
  have HSZ : Hid (∀ s ∈ [txt fb], s.size ≤ maxLen) := hide (by
    intro s hs
    simp only [List.mem_cons, List.not_mem_nil, or_false] at hs
    subst hs
    rw [txt_size]
    simp only [maxLen]; omega)
  have HFL : Hid ((frames (uCav :: [txt fb])).length < 1073741824) := hide (by
    simp only [frames_cons, frames_nil, List.length_append, frm_len, txt_size, List.length_nil]
    rw [show uCav.size = 6 from rfl]; omega)
  have HFV : Hid (∀ f ∈ fl, f.value.size ≤ 1099511627776) := hide (by rw [← hfl]; intro f hf; have := small_vals hs f hf; omega)
  clear hs hfl hq hfb hm hnt g1 g2 g3 hlen
  go_enter Tryd.func90, Tryd.ntmps90
  go_wp2_with fail
  rw [← hW1]
  clear hW1
  refine wp_region_ext mixed 6 (fun i v w' => match i with
    | 0 => v = tgV t
    | 1 => v = cavV x
    | 2 => ∃ A c, v = .slice A m c ∧ kU8.Row (fun _ => True) w' A m c fb
    | 3 => v = .string (txt fb)
    | 4 => ∃ A c, v = .slice A 1 c ∧ kStr.Row (fun _ => True) w' A 1 c [txt fb]
    | _ => v = tgV nt
    ) (regOk_of (by kernel_rfl)) rfl ?_ ?_ ?_
  · intro i v w1 w2 h1 h2
    split at h2 <;> first | exact h2 | (obtain ⟨A, c, e, hr⟩ := h2; exact ⟨A, c, e, hr.below h1⟩)
  · refine ⟨fun a w2 hle hd hf hs K hK => ?_, fun a w2 hle hd hf hs K hK => ?_, fun a w2 hle hd hf hs K hK => ?_, fun a w2 hle hd hf hs K hK => ?_, fun a w2 hle hd hf hs K hK => ?_, fun a w2 hle hd hf hs K hK => ?_, trivial⟩
    all_goals clear hd
    · -- 5 := Op.load 29 t2
      have e2 := hf 2 rfl; simp [Act.eval] at e2
      have hq : agg? w2 ⟨w.heap.size, 0, none⟩ 32 = some (tgC t) := (agg_of_row (hle.heap HK1.out) 0 32 (by decide)).trans (tgC_part t)
      go_simp; exact hK _ _ (Ext.refl _) rfl
    · -- 6 := Op.load 83 t3
      have e3 := hf 3 rfl; simp [Act.eval] at e3
      have c0 : w2.cell? ⟨w.heap.size + 1, 0, none⟩ = some (.bool x.third) := (cell_of_row w2 _ _ _ _ _ (hle.heap HC1.out)).trans rfl
      have c1 : w2.cell? ⟨w.heap.size + 1, 1, none⟩ = some (.string x.text) := (cell_of_row w2 _ _ _ _ _ (hle.heap HC1.out)).trans rfl
      have c2 : w2.cell? ⟨w.heap.size + 1, 2, none⟩ = some (.int .u64 (x.party : Int)) := (cell_of_row w2 _ _ _ _ _ (hle.heap HC1.out)).trans rfl
      have c3 : w2.cell? ⟨w.heap.size + 1, 3, none⟩ = some (.string x.id) := (cell_of_row w2 _ _ _ _ _ (hle.heap HC1.out)).trans rfl
      have c4 : w2.cell? ⟨w.heap.size + 1, 4, none⟩ = some (.string x.vault) := (cell_of_row w2 _ _ _ _ _ (hle.heap HC1.out)).trans rfl
      go_simp; exact hK _ _ (Ext.refl _) rfl
    · -- 7 := Op.call { value (Operand.func 63), args := #[t6], argTypes := #[83] }
      have e6 := hs 1 6 (needs_direct (by kernel_rfl)) rfl; simp [Act.eval] at e6
      go_simp
      refine (c_caveat x w2 (by have := HS.out.1; omega) HS.out.2.1 (by have := HS.out.2.2.1; omega) (by have := HS.out.2.2.2; omega)).mono ?_
      rintro z w9 ⟨v9, rfl, h9, b9⟩
      rw [HFB.out] at h9
      obtain ⟨A8, c8, rfl, hr8⟩ := own_row h9
      rw [HM.out] at hr8 ⊢
      exact hK _ _ b9 ⟨A8, c8, rfl, hr8.more fun _ _ => trivial⟩
    · -- 8 := Op.convert 22 9 t7
      obtain ⟨A7, c7, e7, hr7⟩ := hs 2 7 (needs_direct (by kernel_rfl)) rfl; simp [Act.eval] at e7
      have hq := row_string (P := Tryd.prog) Tryd.underlying22 Tryd.underlying5 Tryd.underlying9 hr7
      go_simp; exact hK _ _ (Ext.refl _) rfl
    · -- 9 := Op.buildSlice 34 1 #[(0, t8)]
      have e8 := hs 3 8 (needs_direct (by kernel_rfl)) rfl; simp [Act.eval] at e8
      go_simp
      exact hK _ _ (Ext.alloc _ _) ⟨_, _, rfl, strs_row [txt fb] (heap_alloc_new _ _) rfl HSZ.out (by simp [maxLen])⟩
    · -- 10 := Op.call { value (Operand.func 22), args := #[t5, const (Value.string { data := #[99, 97, 118, 101, 97, 116] }), t9], argTypes := #[29, 9, 34] }
      have e5 := hs 0 5 (needs_direct (by kernel_rfl)) rfl; obtain ⟨A9, c9, e9, hr9⟩ := hs 4 9 (needs_direct (by kernel_rfl)) rfl; simp [Act.eval] at e5 e9
      go_simp
      refine (c_dkey t uCav A9 1 c9 [txt fb] _ w2 hr9 (by decide) (HP1.out.ext hle) HFL.out).mono ?_
      rintro z w9 ⟨rfl, b9⟩
      rw [HT.out]
      exact hK _ _ b9 rfl
  intro vs w8 hle hs
  have v5 := hs 5 (by omega) rfl
  simp only at v5
  clear hs
  have hz8 := hle.heap HZ1.out
  have hrz := row_of hz8
  have HB9 := hide (bsetRow (HB1.out.trans (hle.mono HB1.out.size)) (Nat.le_add_right _ 2) (tgC nt))
  have hag9 : agg? (w8.setRow (w.heap.size + 2) (tgC nt)) ⟨w.heap.size + 2, 0, none⟩ 32 = some (tgC nt) := (agg_setRow_at _ _ _ _ _ (by rw [hrz]; rfl) (by decide)).trans (tgC_part nt)
  clear hle hz8
  simp only [putN, dstAt]
  go_simp
  go_wp2_with fail
  exact bodyPost_ret (v := tgV nt) (by simp [results, Tryd.results90, go_sem, hag9]) rfl ⟨by rw [HNT.out], HB9.out⟩
set_option maxRecDepth 100000 in
set_option maxHeartbeats 800000 in
theorem c_rnext (t : Tg) (x : Cav) (w : World) (hs : x.small) :
    Calls Tryd.prog 109 #[tgV t, cavV x] w fun e w' => e = .returned (tgV (nextT t x)) ∧ Below w.heap.size w w' := by
  obtain ⟨W1, hW1⟩ : ∃ W1, W1 = ((w.alloc (.cells (tgC t) 29)).alloc (.cells #[.bool x.third, .string x.text, .int .u64 (x.party : Int), .string x.id, .string x.vault] 83)).alloc (.cells (tgC Tg.zero) 29) := ⟨_, rfl⟩
  obtain ⟨g1, g2, g3⟩ := heap3g w (tgC t) #[.bool x.third, .string x.text, .int .u64 (x.party : Int), .string x.id, .string x.vault] (tgC Tg.zero) 29 83 29
  rw [← hW1] at g1 g2 g3
  have HB1 : Hid (Below w.heap.size w W1) := hide (by rw [hW1]; exact below3 _ _ _ _)
  have HK1 := hide g1
  have HC1 := hide g2
  have HZ1 := hide g3
  have HS := hide hs
  obtain ⟨fl, hfl⟩ : ∃ fl, cavFlds x = fl := ⟨_, rfl⟩
  obtain ⟨q, hq⟩ : ∃ q, fl.length = q := ⟨_, rfl⟩
  obtain ⟨fb, hfb⟩ : ∃ fb, fjoin fl = fb := ⟨_, rfl⟩
  obtain ⟨m, hm⟩ : ∃ m, fb.length = m := ⟨_, rfl⟩
  obtain ⟨nt, hnt⟩ : ∃ nt, nextT t x = nt := ⟨_, rfl⟩
  have hlen : m < 1000000 := by rw [← hm, ← hfb, ← hfl]; exact small_len hs
  have HFLD := hide hfl
  have HQ := hide hq
  have HFJ := hide hfb
  have HFB : Hid (fjoin (cavFlds x) = fb) := hide (by rw [hfl, hfb])
  have HM := hide hm
  have HML := hide hlen
  have HNT := hide hnt
  have HT : Hid (dkey t uCav [txt fb] = nt) := hide (by rw [← hnt, nextT, hfl, hfb])
  have HSZ : Hid (∀ s ∈ [txt fb], s.size ≤ maxLen) := hide (by
    intro s hs
    simp only [List.mem_cons, List.not_mem_nil, or_false] at hs
    subst hs
    rw [txt_size]
    simp only [maxLen]; omega)
  have HFL : Hid ((frames (uCav :: [txt fb])).length < 1073741824) := hide (by
    simp only [frames_cons, frames_nil, List.length_append, frm_len, txt_size, List.length_nil]
    rw [show uCav.size = 6 from rfl]; omega)
  have HFV : Hid (∀ f ∈ fl, f.value.size ≤ 1099511627776) := hide (by rw [← hfl]; intro f hf; have := small_vals hs f hf; omega)
  clear hs hfl hq hfb hm hnt g1 g2 g3 hlen
  go_enter Tryd.func109, Tryd.ntmps109
  go_wp2_with fail
  rw [← hW1]
  clear hW1
  refine wp_region_ext mixed 7 (fun i v w' => match i with
    | 0 => v = tgV t
    | 1 => v = cavV x
    | 2 => ∃ A c, v = .slice A q c ∧ kFld.Row (fun _ => True) w' A q c fl
    | 3 => ∃ A c, v = .slice A m c ∧ kU8.Row (fun _ => True) w' A m c fb
    | 4 => v = .string (txt fb)
    | 5 => ∃ A c, v = .slice A 1 c ∧ kStr.Row (fun _ => True) w' A 1 c [txt fb]
    | _ => v = tgV nt
    ) (regOk_of (by kernel_rfl)) rfl ?_ ?_ ?_
  · intro i v w1 w2 h1 h2
    split at h2 <;> first | exact h2 | (obtain ⟨A, c, e, hr⟩ := h2; exact ⟨A, c, e, hr.below h1⟩)
  · refine ⟨fun a w2 hle hd hf hs K hK => ?_, fun a w2 hle hd hf hs K hK => ?_, fun a w2 hle hd hf hs K hK => ?_, fun a w2 hle hd hf hs K hK => ?_, fun a w2 hle hd hf hs K hK => ?_, fun a w2 hle hd hf hs K hK => ?_, fun a w2 hle hd hf hs K hK => ?_, trivial⟩
    all_goals clear hd
    · -- 5 := Op.load 29 t2
      have e2 := hf 2 rfl; simp [Act.eval] at e2
      have hq : agg? w2 ⟨w.heap.size, 0, none⟩ 32 = some (tgC t) := (agg_of_row (hle.heap HK1.out) 0 32 (by decide)).trans (tgC_part t)
      go_simp; exact hK _ _ (Ext.refl _) rfl
    · -- 6 := Op.load 83 t3
      have e3 := hf 3 rfl; simp [Act.eval] at e3
      have c0 : w2.cell? ⟨w.heap.size + 1, 0, none⟩ = some (.bool x.third) := (cell_of_row w2 _ _ _ _ _ (hle.heap HC1.out)).trans rfl
      have c1 : w2.cell? ⟨w.heap.size + 1, 1, none⟩ = some (.string x.text) := (cell_of_row w2 _ _ _ _ _ (hle.heap HC1.out)).trans rfl
      have c2 : w2.cell? ⟨w.heap.size + 1, 2, none⟩ = some (.int .u64 (x.party : Int)) := (cell_of_row w2 _ _ _ _ _ (hle.heap HC1.out)).trans rfl
      have c3 : w2.cell? ⟨w.heap.size + 1, 3, none⟩ = some (.string x.id) := (cell_of_row w2 _ _ _ _ _ (hle.heap HC1.out)).trans rfl
      have c4 : w2.cell? ⟨w.heap.size + 1, 4, none⟩ = some (.string x.vault) := (cell_of_row w2 _ _ _ _ _ (hle.heap HC1.out)).trans rfl
      go_simp; exact hK _ _ (Ext.refl _) rfl
    · -- 7 := Op.call { value (Operand.func 128), args := #[t6], argTypes := #[83] }
      have e6 := hs 1 6 (needs_direct (by kernel_rfl)) rfl; simp [Act.eval] at e6
      go_simp
      refine (c_rcav x w2 HS.out.2.1 (by have := HS.out.1; simp only [maxLen]; omega) (by have := HS.out.2.2.1; simp only [maxLen]; omega) (by have := HS.out.2.2.2; simp only [maxLen]; omega)).mono ?_
      rintro z w9 ⟨⟨A8, n8, c8, rfl, hr8⟩, b9⟩
      rw [HFLD.out] at hr8
      obtain rfl : n8 = q := by have := hr8.1; have := HQ.out; omega
      exact hK _ _ b9 ⟨A8, c8, rfl, hr8⟩
    · -- 8 := Op.call { value (Operand.func 127), args := #[t7], argTypes := #[182] }
      obtain ⟨A7, c7, e7, hr7⟩ := hs 2 7 (needs_direct (by kernel_rfl)) rfl; simp [Act.eval] at e7
      go_simp
      refine (c_rjoin A7 q c7 fl _ w2 hr7 (by rw [HFJ.out]; have := HM.out; have := HML.out; omega) HFV.out).mono ?_
      rintro z w9 ⟨v9, rfl, h9, b9⟩
      rw [HFJ.out] at h9
      obtain ⟨A8, c8, rfl, hr8⟩ := own_row h9
      rw [HM.out] at hr8 ⊢
      exact hK _ _ b9 ⟨A8, c8, rfl, hr8.more fun _ _ => trivial⟩
    · -- 9 := Op.convert 22 9 t8
      obtain ⟨A8, c8, e8, hr8⟩ := hs 3 8 (needs_direct (by kernel_rfl)) rfl; simp [Act.eval] at e8
      have hq := row_string (P := Tryd.prog) Tryd.underlying22 Tryd.underlying5 Tryd.underlying9 hr8
      go_simp; exact hK _ _ (Ext.refl _) rfl
    · -- 10 := Op.buildSlice 34 1 #[(0, t9)]
      have e9 := hs 4 9 (needs_direct (by kernel_rfl)) rfl; simp [Act.eval] at e9
      go_simp
      exact hK _ _ (Ext.alloc _ _) ⟨_, _, rfl, strs_row [txt fb] (heap_alloc_new _ _) rfl HSZ.out (by simp [maxLen])⟩
    · -- 11 := Op.call { value (Operand.func 23), args := #[t5, const (Value.string { data := #[99, 97, 118, 101, 97, 116] }), t10], argTypes := #[29, 9, 34] }
      have e5 := hs 0 5 (needs_direct (by kernel_rfl)) rfl; obtain ⟨A10, c10, e10, hr10⟩ := hs 5 10 (needs_direct (by kernel_rfl)) rfl; simp [Act.eval] at e5 e10
      go_simp
      refine (c_rkey t uCav A10 1 c10 [txt fb] _ w2 hr10 (by decide) HFL.out).mono ?_
      rintro z w9 ⟨rfl, b9⟩
      rw [HT.out]
      exact hK _ _ b9 rfl
  intro vs w8 hle hs
  have v6 := hs 6 (by omega) rfl
  simp only at v6
  clear hs
  have hz8 := hle.heap HZ1.out
  have hrz := row_of hz8
  have HB9 := hide (bsetRow (HB1.out.trans (hle.mono HB1.out.size)) (Nat.le_add_right _ 2) (tgC nt))
  have hag9 : agg? (w8.setRow (w.heap.size + 2) (tgC nt)) ⟨w.heap.size + 2, 0, none⟩ 32 = some (tgC nt) := (agg_setRow_at _ _ _ _ _ (by rw [hrz]; rfl) (by decide)).trans (tgC_part nt)
  clear hle hz8
  simp only [putN, dstAt]
  go_simp
  go_wp2_with fail
  exact bodyPost_ret (v := tgV nt) (by simp [results, Tryd.results109, go_sem, hag9]) rfl ⟨by rw [HNT.out], HB9.out⟩
end Go.Proofs.YtdkeflhgengblaaDoor
namespace Go.Proofs.YtdkeflhgengblaaDoor
open Go.RowKit
attribute [local go_sem ↓] ld8 ld32 ld64 ld73
attribute [local go_sem] run_ldAgg run_storeAgg agg_alloc_at agg_alloc_past agg_drew agg_setCell row_alloc_at row_alloc_past row_drew setRow_alloc_at setRow_alloc_past setRow_drew agg_setRow_at agg_setRow_far cell_setRow_at cell_setRow_far row_setRow_far size_setRow s8C_size s8C_part s8C_one s8C_splice0 s8C_ne dgC_size dgC_72 dgC_part dgC_h dgC_r dgC_splice_h dgC_set dgC_one dgC_splice0 dgC_ne zero_dg
attribute [local go_sem] tgC_size tgC_one tgC_part tgC_splice tgC_splice_any zero_tg tgC_ne
attribute [local go_sem ↓] ld36
attribute [local go_sem] tokC_size tokC_0 tokC_1 tokC_2 tokC_3 tokC_g0 tokC_g1 tokC_g2 tokC_g3 tokC_part tokC_tag tokC_set0 tokC_set1 tokC_set2 tokC_set3 tokC_splice tokC_splice0 zero_tok tokC_all tokC_ne

theorem list_fold_set (o : Nat) : ∀ (l : List Value) (k : Nat) (C : Array Value), o + k + l.length ≤ C.size → (l.zipIdx k).foldl (fun cs x => cs.setIfInBounds (o + x.2) x.1) C = (C.toList.take (o + k) ++ l ++ C.toList.drop (o + k + l.length)).toArray := by
  intro l
  induction l with
  | nil => intro k C _; simp
  | cons a l ih =>
    intro k C h
    rw [List.length_cons] at h
    rw [List.zipIdx_cons, List.foldl_cons, ih (k + 1) _ (by simp only [Array.size_setIfInBounds]; omega)]
    congr 1
    have e1 : (C.setIfInBounds (o + k) a).toList = C.toList.set (o + k) a := by simp
    have hl : o + k < C.toList.length := by rw [Array.length_toList]; omega
    rw [e1, List.drop_set_of_lt (by omega), List.length_cons, show o + (k + 1) = o + k + 1 from by omega, show o + k + 1 + l.length = o + k + (l.length + 1) from by omega, List.take_succ_eq_append_getElem (by rw [List.length_set]; exact hl), List.take_set_of_le (Nat.le_refl _), List.getElem_set_self, List.append_assoc, List.append_assoc, List.append_assoc]
    rfl
theorem fold_set (o n : Nat) (c C : Array Value) (hn : c.size = n) (h : o + c.size ≤ C.size) : Array.foldl (fun cs x => cs.setIfInBounds (o + x.2) x.1) C c.zipIdx 0 n = splice C o c := by
  subst hn
  have h1 := list_fold_set o c.toList 0 C (by rw [Array.length_toList]; exact h)
  rw [← Array.toList_zipIdx, Array.foldl_toList, Array.size_zipIdx] at h1
  rw [h1, splice, Array.length_toList]
  rfl
theorem tokC_fold (k i v b : Value) (t u : Tg) : Array.foldl (fun cs x => cs.setIfInBounds (4 + x.2) x.1) (tokC k i v b t) (tgC u).zipIdx 0 32 = tokC k i v b u :=
  (fold_set 4 32 _ _ (tgC_size u) (by rw [tgC_size, tokC_size]; decide)).trans (tokC_splice _ _ _ _ _ _)
attribute [local go_sem] tokC_fold
def uMint : ByteArray := { data := #[109, 105, 110, 116] }
def startT (t : Tg) (n : Nat) (id : ByteArray) : Tg := dkey t uMint [txt (num8 n), id]
set_option maxRecDepth 100000 in
set_option maxHeartbeats 800000 in
theorem c_cstart (t : Tg) (n : Nat) (id : ByteArray) (w : World) (hn : n < 18446744073709551616) (hi : id.size ≤ 1000000) (hP : PrimesAt w) :
    Calls Tryd.prog 110 #[tgV t, .int .u64 (n : Int), .string id] w fun e w' => e = .returned (tgV (startT t n id)) ∧ Below w.heap.size w w' := by
  obtain ⟨W1, hW1⟩ : ∃ W1, W1 = (w.alloc (.cells (tgC t) 29)).alloc (.cells (tgC Tg.zero) 29) := ⟨_, rfl⟩
  have HB1 : Hid (Below w.heap.size w W1) := hide (by rw [hW1]; exact below2 _ _ _)
  have HK1 : Hid (W1.heap[w.heap.size]? = some (.cells (tgC t) 29)) := hide (by
    rw [hW1, Below.heap_alloc _ _ _ (by simp only [World.size_alloc]; omega)]; exact heap_alloc_new _ _)
  have HZ1 : Hid (W1.heap[w.heap.size + 1]? = some (.cells (tgC Tg.zero) 29)) := hide (by rw [hW1]; exact heap_new2 _ _ _)
  have HP1 := hide (hP.ext HB1.out)
  have hw0 := hP.1
  have HN := hide hn
  obtain ⟨nt, hnt⟩ : ∃ nt, startT t n id = nt := ⟨_, rfl⟩
  have HNT : Hid (dkey t uMint [txt (num8 n), id] = nt) := hide hnt
  have HNS := hide hnt
  have HSZ : Hid (∀ s ∈ [txt (num8 n), id], s.size ≤ maxLen) := hide (by
    intro s hs
    simp only [List.mem_cons, List.not_mem_nil, or_false] at hs
    rcases hs with rfl | rfl
    · rw [txt_size, num8_len]; simp only [maxLen]; omega
    · simp only [maxLen]; omega)
  have HFL : Hid ((frames (uMint :: [txt (num8 n), id])).length < 1073741824) := hide (by
    simp only [frames_cons, frames_nil, List.length_append, frm_len, txt_size, num8_len, List.length_nil]
    rw [show uMint.size = 4 from rfl]; omega)
  clear hP hn hnt hi
  go_enter Tryd.func110, Tryd.ntmps110
  go_wp2_with fail
  rw [← hW1]
  clear hW1
  refine wp_region_ext mixed 7 (fun i v w' => match i with
    | 0 => v = tgV t
    | 1 => v = .int .u64 (n : Int)
    | 2 => ∃ A c, v = .slice A 8 c ∧ kU8.Row (fun _ => True) w' A 8 c (num8 n)
    | 3 => v = .string (txt (num8 n))
    | 4 => v = .string id
    | 5 => ∃ A c, v = .slice A 2 c ∧ kStr.Row (fun _ => True) w' A 2 c [txt (num8 n), id]
    | _ => v = tgV nt
    ) (regOk_of (by kernel_rfl)) rfl ?_ ?_ ?_
  · intro i v w1 w2 h1 h2
    split at h2 <;> first | exact h2 | (obtain ⟨A, c, e, hr⟩ := h2; exact ⟨A, c, e, hr.below h1⟩)
  · refine ⟨fun a w2 hle hd hf hs K hK => ?_, fun a w2 hle hd hf hs K hK => ?_, fun a w2 hle hd hf hs K hK => ?_, fun a w2 hle hd hf hs K hK => ?_, fun a w2 hle hd hf hs K hK => ?_, fun a w2 hle hd hf hs K hK => ?_, fun a w2 hle hd hf hs K hK => ?_, trivial⟩
    all_goals clear hd
    · -- 7 := Op.load 29 t3
      have e3 := hf 3 rfl; simp [Act.eval] at e3
      have hq : agg? w2 ⟨w.heap.size, 0, none⟩ 32 = some (tgC t) := (agg_of_row (hle.heap HK1.out) 0 32 (by decide)).trans (tgC_part t)
      go_simp; exact hK _ _ (Ext.refl _) rfl
    · -- 8 := Op.move t1
      have e1 := hf 1 rfl; simp [Act.eval] at e1
      go_simp; exact hK _ _ (Ext.refl _) rfl
    · -- 9 := Op.call { value (Operand.func 74), args := #[t8], argTypes := #[41] }
      have e8 := hs 1 8 (needs_direct (by kernel_rfl)) rfl; simp [Act.eval] at e8
      go_simp
      refine (c_number n w2 HN.out).mono ?_
      rintro z w9 ⟨v9, rfl, h9, b9⟩
      obtain ⟨A8, c8, rfl, hr8⟩ := own_row h9
      rw [num8_len] at hr8 ⊢
      exact hK _ _ b9 ⟨A8, c8, rfl, hr8.more fun _ _ => trivial⟩
    · -- 10 := Op.convert 22 9 t9
      obtain ⟨A9, c9, e9, hr9⟩ := hs 2 9 (needs_direct (by kernel_rfl)) rfl; simp [Act.eval] at e9
      have hq := row_string (P := Tryd.prog) Tryd.underlying22 Tryd.underlying5 Tryd.underlying9 hr9
      go_simp; exact hK _ _ (Ext.refl _) rfl
    · -- 11 := Op.move t2
      have e2 := hf 2 rfl; simp [Act.eval] at e2
      go_simp; exact hK _ _ (Ext.refl _) rfl
    · -- 12 := Op.buildSlice 34 2 #[(0, t10), (1, t11)]
      have e10 := hs 3 10 (needs_direct (by kernel_rfl)) rfl; have e11 := hs 4 11 (needs_direct (by kernel_rfl)) rfl; simp [Act.eval] at e10 e11
      go_simp
      exact hK _ _ (Ext.alloc _ _) ⟨_, _, rfl, strs_row [txt (num8 n), id] (heap_alloc_new _ _) rfl HSZ.out (by simp [maxLen])⟩
    · -- 13 := Op.call { value (Operand.func 22), args := #[t7, const (Value.string { data := #[109, 105, 110, 116] }), t12], argTypes := #[29, 9, 34] }
      have e7 := hs 0 7 (needs_direct (by kernel_rfl)) rfl; obtain ⟨A12, c12, e12, hr12⟩ := hs 5 12 (needs_direct (by kernel_rfl)) rfl; simp [Act.eval] at e7 e12
      go_simp
      refine (c_dkey t uMint A12 2 c12 [txt (num8 n), id] _ w2 hr12 (by decide) (HP1.out.ext hle) HFL.out).mono ?_
      rintro z w9 ⟨rfl, b9⟩
      rw [HNT.out]
      exact hK _ _ b9 rfl
  intro vs w8 hle hs
  have v6 := hs 6 (by omega) rfl
  simp only at v6
  clear hs
  have hz8 := hle.heap HZ1.out
  have hrz := row_of hz8
  have HB9 := hide (bsetRow (HB1.out.trans (hle.mono HB1.out.size)) (Nat.le_add_right _ 1) (tgC nt))
  have hag9 : agg? (w8.setRow (w.heap.size + 1) (tgC nt)) ⟨w.heap.size + 1, 0, none⟩ 32 = some (tgC nt) := (agg_setRow_at _ _ _ _ _ (by rw [hrz]; rfl) (by decide)).trans (tgC_part nt)
  clear hle hz8
  simp only [putN, dstAt]
  go_simp
  go_wp2_with fail
  exact bodyPost_ret (v := tgV nt) (by simp [results, Tryd.results110, go_sem, hag9]) rfl ⟨by rw [HNS.out], HB9.out⟩
/-- A token without caveats. -/
def mintT (t : Tg) (n : Nat) (id : ByteArray) : Tok := ⟨n, id, [], false, startT t n id⟩
def mintR (t : Tg) (n : Nat) (id : ByteArray) : Tok := if checkT (mintT t n id) = true then mintT t n id else Tok.zero
def mintE (t : Tg) (n : Nat) (id : ByteArray) : Int := if checkT (mintT t n id) = true then 0 else 1
set_option maxRecDepth 100000 in
set_option maxHeartbeats 800000 in
theorem c_cmint (t : Tg) (n : Nat) (id : ByteArray) (w : World) (hn : n < 18446744073709551616) (hi : id.size ≤ 1000000) (hP : PrimesAt w) :
    Calls Tryd.prog 89 #[tgV t, .int .u64 (n : Int), .string id] w fun e w' => e = .returned (.tuple #[tokV (mintR t n id) none 0 0, .int .i64 (mintE t n id)]) ∧ Below w.heap.size w w' := by
  have HP := hide hP
  have hw0 := hP.1
  have HN := hide hn
  have HI := hide hi
  have hagt : agg? ((w.alloc (.cells (tgC t) 29)).alloc (.cells tokZ 44)) ⟨w.heap.size, 0, none⟩ 32 = some (tgC t) := (agg_of_row (by rw [Below.heap_alloc _ _ _ (by simp only [World.size_alloc]; omega)]; exact heap_alloc_new _ _) 0 32 (by decide)).trans (tgC_part t)
  clear hP hn hi
  go_enter Tryd.func89, Tryd.ntmps89
  go_wp2_with fail
  refine (c_cstart t n id _ HN.out HI.out (HP.out.ext (below2 _ _ _))).mono ?_
  rintro e w1 ⟨rfl, b1⟩
  obtain ⟨nt, hnt⟩ : ∃ nt, startT t n id = nt := ⟨_, rfl⟩
  rw [hnt]
  have hs1 := b1.size
  simp only [World.size_alloc] at hs1
  obtain ⟨T, hT⟩ : ∃ T, mintT t n id = T := ⟨_, rfl⟩
  have htv : tokV T none 0 0 = .agg (tokC (.int .u64 (n : Int)) (.string id) (.slice none 0 0) (.bool false) nt) := by rw [← hT, mintT, hnt]
  have HR1 : Hid (mintR t n id = if checkT T = true then T else Tok.zero) := hide (by rw [← hT]; rfl)
  have HR2 : Hid (mintE t n id = if checkT T = true then 0 else 1) := hide (by rw [← hT]; rfl)
  have HCV : Hid (T.cavs = []) := hide (by rw [← hT]; rfl)
  have hz1 := (b1.block _ (by simp only [World.size_alloc]; omega)).trans (heap_new2 w (.cells (tgC t) 29) (.cells tokZ 44))
  have HB1 : Hid (Below w.heap.size w w1) := hide ((below2 _ _ _).trans (b1.mono (by simp only [World.size_alloc]; omega)))
  obtain ⟨CT, hCT⟩ : ∃ CT, CT = tokA T none 0 0 := ⟨_, rfl⟩
  have hce : tokC (.int .u64 (n : Int)) (.string id) (.slice none 0 0) (.bool false) nt = CT := by rw [hCT]; exact (Value.agg.inj htv).symm
  have hzT : CT.size = 36 := by rw [hCT]; exact tokC_size _ _ _ _ _
  have hoT : oneAll CT = true := by rw [hCT]; exact tokC_all _ _ _ _ _ _ _ _
  have hspT : splice tokZ 0 CT = CT := by rw [hCT]; exact tokC_splice0 _ _ _ _ _ _ (tokC_size _ _ _ _ _)
  have HZ1 := hide hz1
  have HCT := hide hCT
  have HTV : Hid (Value.agg CT = tokV T none 0 0) := hide (by rw [hCT])
  have HCE := hide hce
  clear b1 hT htv hagt hz1 hCT hce hnt
  go_wp2_with fail
  rw [HCE.out, HTV.out]
  refine (c_check T none 0 0 (fun _ => True) _ (by rw [HCV.out]; exact .nil _ _ _ _ _ (Nat.zero_le _))).mono ?_
  rintro e w2 ⟨rfl, b2⟩
  have hs2 := b2.size
  simp only [World.size_alloc] at hs2
  have b12 : Below w1.heap.size w1 w2 := (below1 w1 _).trans (b2.mono (by simp only [World.size_alloc]; omega))
  have k2 := (b2.block _ (by simp only [World.size_alloc]; omega)).trans (heap_alloc_new w1 (.cells CT 44))
  have k1 := (b12.block _ (by omega)).trans HZ1.out
  have hr1 := row_of k1
  have hag2 : agg? w2 ⟨w1.heap.size, 0, none⟩ 36 = some CT := (agg_of_row k2 0 36 (by decide)).trans (by rw [HCT.out]; exact tokC_part _ _ _ _ _)
  have HB2 := hide (HB1.out.trans (b12.mono (by omega)))
  cases hck : checkT T with
  | true =>
    have HE1 : Hid (mintR t n id = T) := hide (by rw [HR1.out, if_pos hck])
    have HE2 : Hid (mintE t n id = 0) := hide (by rw [HR2.out, if_pos hck])
    have hage : agg? (w2.setRow (w.heap.size + 1) CT) ⟨w.heap.size + 1, 0, none⟩ 36 = some CT := (agg_of_row (setRow_heap w2 (w.heap.size + 1) tokZ CT 44 _ k1) 0 36 (by decide)).trans (by rw [HCT.out]; exact tokC_part _ _ _ _ _)
    have HBE := hide (bsetRow HB2.out (Nat.le_add_right w.heap.size 1) CT)
    clear hck b2 b12 k1 k2
    simp only [errV, if_true]
    go_wp2_with fail
    exact bodyPost_ret (v := .tuple #[.agg CT, .int .i64 0]) (by simp [results, Tryd.results89, go_sem, hage]) rfl ⟨by rw [HE1.out, HE2.out, HTV.out], HBE.out⟩
  | false =>
    have HE1 : Hid (mintR t n id = Tok.zero) := hide (by rw [HR1.out, if_neg (by rw [hck]; decide)])
    have HE2 : Hid (mintE t n id = 1) := hide (by rw [HR2.out, if_neg (by rw [hck]; decide)])
    have hage : agg? (w2.setRow (w.heap.size + 1) tokZ) ⟨w.heap.size + 1, 0, none⟩ 36 = some tokZ := (agg_setRow_at _ _ _ _ _ (by rw [hr1]; rfl) (by decide)).trans (tokC_part _ _ _ _ _)
    have HBE := hide (bsetRow HB2.out (Nat.le_add_right w.heap.size 1) tokZ)
    clear hck b2 b12 k1 k2
    simp only [errV, Bool.false_eq_true, if_false]
    go_wp2_with fail
    exact bodyPost_ret (v := .tuple #[.agg tokZ, .int .i64 1]) (by simp [results, Tryd.results89, go_sem, hage]) rfl ⟨by rw [HE1.out, HE2.out]; rfl, HBE.out⟩
end Go.Proofs.YtdkeflhgengblaaDoor
namespace Go.Proofs.YtdkeflhgengblaaDoor
open Go.RowKit
attribute [local go_sem ↓] ld8 ld32 ld64 ld73
attribute [local go_sem] run_ldAgg run_storeAgg agg_alloc_at agg_alloc_past agg_drew agg_setCell row_alloc_at row_alloc_past row_drew setRow_alloc_at setRow_alloc_past setRow_drew agg_setRow_at agg_setRow_far cell_setRow_at cell_setRow_far row_setRow_far size_setRow s8C_size s8C_part s8C_one s8C_splice0 s8C_ne dgC_size dgC_72 dgC_part dgC_h dgC_r dgC_splice_h dgC_set dgC_one dgC_splice0 dgC_ne zero_dg
attribute [local go_sem] tgC_size tgC_one tgC_part tgC_splice tgC_splice_any zero_tg tgC_ne
attribute [local go_sem ↓] ld36
attribute [local go_sem] tokC_size tokC_0 tokC_1 tokC_2 tokC_3 tokC_g0 tokC_g1 tokC_g2 tokC_g3 tokC_part tokC_tag tokC_set0 tokC_set1 tokC_set2 tokC_set3 tokC_splice tokC_splice0 zero_tok tokC_all tokC_ne
attribute [local go_sem ↓] ld37
attribute [local go_sem] bunC_size bunC_0 bunC_1 bunC_2 bunC_3 bunC_36 bunC_g3 bunC_g36 bunC_part bunC_root bunC_set36 bunC_splice bunC_splice0 zero_bun bunC_all bunC_ne

/-- A part of what is loaded whole. -/
theorem agg_sub {w : World} {b o n k m : Nat} {c p : Array Value} (h : agg? w ⟨b, o, none⟩ n = some c) (hp : part? c k m = some p) : agg? w ⟨b, o + k, none⟩ m = some p := by
  unfold agg? at h
  split at h
  · rename_i hc
    have he := Option.some.inj h
    have hsz : c.size = n := by rw [← he]; simp
    unfold part? at hp
    split at hp
    · rename_i hl
      have hq := Option.some.inj hp
      have hj : ∀ j, j < m → (w.cell? ((⟨b, o + k, none⟩ : Addr).add j)).isSome := fun j hj => by
        have := hc (k + j) (by omega)
        rw [add_lit'] at this ⊢
        rwa [show o + k + j = o + (k + j) from by omega]
      unfold agg?
      rw [if_pos hj, ← hq, ← he]
      congr 1
      apply Array.ext
      · simp; omega
      · intro i h1 h2
        simp only [List.size_toArray, List.length_map, List.length_range] at h1
        simp only [List.getElem_toArray, List.getElem_map, List.getElem_range, Array.getElem_extract, add_lit', show o + k + i = o + (k + i) from by omega]
    · cases hp
  · cases h
theorem agg_tag {w : World} {b o : Nat} {x : Tok} {A : Option Addr} {n c : Nat} (h : agg? w ⟨b, o, none⟩ 36 = some (tokA x A n c)) : agg? w ⟨b, o + 4, none⟩ 32 = some (tgC x.tag) := agg_sub h (tokC_tag _ _ _ _ _)
theorem part_part {C c p : Array Value} {o n k m : Nat} (h : part? C o n = some c) (hp : part? c k m = some p) : part? C (o + k) m = some p := by
  unfold part? at h
  split at h
  · rename_i hl
    obtain rfl := Option.some.inj h
    unfold part? at hp
    split at hp
    · rename_i hk
      simp only [Array.size_extract] at hk
      rw [← Option.some.inj hp, part?, if_pos (by omega)]
      congr 1
      rw [Array.extract_extract]
      congr 1 <;> omega
    · cases hp
  · cases h
theorem bunC_tag (a b c d s : Value) (t : Tg) : part? (bunC a b c d t s) 4 32 = some (tgC t) := by
  have := part_part (bunC_root a b c d s t) (tokC_tag a b c d t)
  simpa using this
/-- A token's tag of a public out, and whether there is one. -/
def pubR (l : List Out) (n k : Int) : Tg × Bool := match ostr l n with
  | none => (Tg.zero, false)
  | some o => if o.pub = false then (Tg.zero, false) else if tCode l n = 0 then (((tVal l n).getD Tok.zero).tag, k == 0) else
    if bCode l n ≠ 0 ∨ k < 0 ∨ (((bVal l n).getD Bun.zero).dis.length : Int) < k then (Tg.zero, false) else
    if k = 0 then (((bVal l n).getD Bun.zero).root.tag, true) else ((((bVal l n).getD Bun.zero).dis.getD (k - 1).toNat Tok.zero).tag, true)
set_option maxRecDepth 100000 in
set_option maxHeartbeats 1600000 in
theorem c_public (base : Nat) (w : World) (g : Nat) (v : Value) (l : List Out) (n k : Int) (h : StoreAt base w g v l) (hn : l.length ≤ 1099511627776) (hsz : ∀ o ∈ l, o.bytes.size ≤ 1000000) :
    Calls Tryd.prog 116 #[.pointer (some ⟨g, 0, none⟩), .int .i64 n, .int .i64 k] w fun e w' => e = .returned (.tuple #[tgV (pubR l n k).1, .bool (pubR l n k).2]) ∧ Below w.heap.size w w' := by
  have H := hide h
  have HN := hide hn
  have HSZ := hide hsz
  clear h hn hsz
  have H1 := hide (H.out.below (below1 w (.cells (tgC Tg.zero) 29)))
  cases ho : ostr l n with
  | none =>
    have HV : Hid (pubR l n k = (Tg.zero, false)) := hide (by rw [pubR, ho])
    have HX := hide (ostr_none ho)
    clear ho
    go_enter Tryd.func116, Tryd.ntmps116
    go_wp2_with fail
    refine (c_sget_out base _ g v l n H1.out HN.out HX.out).mono ?_
    rintro e w1 ⟨rfl, b1⟩
    have HB1 := hide (bnext (below1 _ _) b1)
    have hz1 := (b1.block w.heap.size (by simp)).trans (heap_alloc_new w (.cells (tgC Tg.zero) 29))
    have hl1 : w.heap.size < w1.heap.size := by have := b1.size; simp only [World.size_alloc] at this; omega
    have hr1 := row_of hz1
    have hage : agg? ((w1.setRow w.heap.size (tgC Tg.zero)).alloc (.cells #[.string ByteArray.empty, .bool false, .bool false] 93)) ⟨w.heap.size, 0, none⟩ 32 = some (tgC Tg.zero) := (agg_alloc_past _ _ _ _ _ (by rw [size_setRow]; exact hl1)).trans ((agg_setRow_at _ _ _ _ _ (by rw [hr1]; rfl) (by decide)).trans (tgC_part _))
    have HBE := hide ((bsetRow HB1.out (Nat.le_refl w.heap.size) (tgC Tg.zero)).alloc (by rw [size_setRow]; omega) (.cells #[.string ByteArray.empty, .bool false, .bool false] 93))
    clear b1 hz1
    go_wp2_with fail
    exact bodyPost_ret (v := .tuple #[tgV Tg.zero, .bool false]) (by simp [results, Tryd.results116, go_sem, hage]) rfl ⟨by rw [HV.out], HBE.out⟩
  | some o =>
    obtain ⟨q, hq, hlq⟩ := ostr_some ho
    have HLQ := hide hlq
    have HQ := hide hq
    clear hlq hq
    obtain ⟨ob, hob⟩ : ∃ ob, o.bytes = ob := ⟨_, rfl⟩
    obtain ⟨ow, how⟩ : ∃ ow, o.whole = ow := ⟨_, rfl⟩
    cases hp : o.pub with
    | false =>
      have HV : Hid (pubR l n k = (Tg.zero, false)) := hide (by rw [pubR, ho]; exact if_pos hp)
      have HO : Hid (o.bytes = ob ∧ o.whole = ow ∧ o.pub = false) := hide ⟨hob, how, hp⟩
      clear ho hob how hp
      go_enter Tryd.func116, Tryd.ntmps116
      go_wp2_with fail
      refine (c_sget_in base _ g v l n q o H1.out HQ.out HLQ.out).mono ?_
      rintro e w1 ⟨rfl, b1⟩
      rw [HO.out.1, HO.out.2.1, HO.out.2.2]
      have HB1 := hide (bnext (below1 _ _) b1)
      have hz1 := (b1.block w.heap.size (by simp)).trans (heap_alloc_new w (.cells (tgC Tg.zero) 29))
      have hl1 : w.heap.size < w1.heap.size := by have := b1.size; simp only [World.size_alloc] at this; omega
      have hr1 := row_of hz1
      have hage : agg? ((w1.setRow w.heap.size (tgC Tg.zero)).alloc (.cells #[.string ob, .bool ow, .bool false] 93)) ⟨w.heap.size, 0, none⟩ 32 = some (tgC Tg.zero) := (agg_alloc_past _ _ _ _ _ (by rw [size_setRow]; exact hl1)).trans ((agg_setRow_at _ _ _ _ _ (by rw [hr1]; rfl) (by decide)).trans (tgC_part _))
      have HBE := hide ((bsetRow HB1.out (Nat.le_refl w.heap.size) (tgC Tg.zero)).alloc (by rw [size_setRow]; omega) (.cells #[.string ob, .bool ow, .bool false] 93))
      clear b1 hz1
      go_wp2_with fail
      exact bodyPost_ret (v := .tuple #[tgV Tg.zero, .bool false]) (by simp [results, Tryd.results116, go_sem, hage]) rfl ⟨by rw [HV.out], HBE.out⟩
    | true =>
      have HV : Hid (pubR l n k = if tCode l n = 0 then (((tVal l n).getD Tok.zero).tag, k == 0) else
        if bCode l n ≠ 0 ∨ k < 0 ∨ (((bVal l n).getD Bun.zero).dis.length : Int) < k then (Tg.zero, false) else
        if k = 0 then (((bVal l n).getD Bun.zero).root.tag, true) else ((((bVal l n).getD Bun.zero).dis.getD (k - 1).toNat Tok.zero).tag, true)) := hide (by rw [pubR, ho]; exact if_neg (by rw [hp]; decide))
      have HO : Hid (o.bytes = ob ∧ o.whole = ow ∧ o.pub = true) := hide ⟨hob, how, hp⟩
      clear ho hob how hp
      go_enter Tryd.func116, Tryd.ntmps116
      go_wp2_with fail
      refine (c_sget_in base _ g v l n q o H1.out HQ.out HLQ.out).mono ?_
      rintro e w1 ⟨rfl, b1⟩
      rw [HO.out.1, HO.out.2.1, HO.out.2.2]
      obtain ⟨W2, hW2⟩ : ∃ W2, W2 = w1.alloc (.cells #[.string ob, .bool ow, .bool true] 93) := ⟨_, rfl⟩
      have hs1 := b1.size
      simp only [World.size_alloc] at hs1
      have b12 : Below (w.heap.size + 1) (w.alloc (.cells (tgC Tg.zero) 29)) W2 := by rw [hW2]; simp only [World.size_alloc] at b1; exact b1.alloc hs1 _
      have hs2 : W2.heap.size = w1.heap.size + 1 := by rw [hW2, World.size_alloc]
      have HZ2 := hide ((b12.block w.heap.size (by omega)).trans (heap_alloc_new w (.cells (tgC Tg.zero) 29)))
      have HB2 : Hid (Below w.heap.size w W2) := hide ((below1 _ _).trans (b12.mono (by omega)))
      have H2 := hide (H1.out.below (by simp only [World.size_alloc]; exact b12))
      have HW2 := hide hW2
      clear b1 b12 hW2
      go_wp2_with fail
      rw [← HW2.out]
      clear HW2
      refine (c_sT base W2 g v l n H2.out HN.out HSZ.out).mono ?_
      rintro e w3 ⟨A3, n3, c3, rfl, -, b3⟩
      obtain ⟨y, hy⟩ : ∃ y, (tVal l n).getD Tok.zero = y := ⟨_, rfl⟩
      rw [hy] at HV ⊢
      obtain ⟨kd, hkd⟩ : ∃ kd, tCode l n = kd := ⟨_, rfl⟩
      rw [hkd] at HV ⊢
      clear hy hkd
      have hs3 := b3.size
      obtain ⟨CT, hCT⟩ : ∃ CT, CT = tokA y A3 n3 c3 := ⟨_, rfl⟩
      rw [show tokV y A3 n3 c3 = .agg CT from by rw [hCT]]
      have hzT : CT.size = 36 := by rw [hCT]; exact tokC_size _ _ _ _ _
      have hoT : oneAll CT = true := by rw [hCT]; exact tokC_all _ _ _ _ _ _ _ _
      have hspT : splice tokZ 0 CT = CT := by rw [hCT]; exact tokC_splice0 _ _ _ _ _ _ (tokC_size _ _ _ _ _)
      have hpt : part? CT 4 32 = some (tgC y.tag) := by rw [hCT]; exact tokC_tag _ _ _ _ _
      have HZ3 := hide ((b3.block w.heap.size (by omega)).trans HZ2.out)
      have hr3 := row_of HZ3.out
      have HB3 := hide (HB2.out.trans (b3.mono (by omega)))
      have b34 : Below W2.heap.size W2 (w3.alloc (.cells CT 44)) := b3.alloc hs3 _
      have HZ4 := hide ((b34.block w.heap.size (by omega)).trans HZ2.out)
      have hr4 := row_of HZ4.out
      have HB4 := hide (HB2.out.trans (b34.mono (by omega)))
      have H4 := hide (H2.out.below b34)
      have hagt : agg? (w3.alloc (.cells CT 44)) ⟨w3.heap.size, 4, none⟩ 32 = some (tgC y.tag) := (agg_of_row (heap_alloc_new _ _) 4 32 (by decide)).trans hpt
      clear b3 b34 HZ2 HB2 H2 H1 hCT
      cases kd with
      | zero =>
        have HV' : Hid (pubR l n k = (y.tag, k == 0)) := hide (HV.out.trans (if_pos rfl))
        have hage : agg? ((w3.alloc (.cells CT 44)).setRow w.heap.size (tgC y.tag)) ⟨w.heap.size, 0, none⟩ 32 = some (tgC y.tag) := (agg_setRow_at _ _ _ _ _ (by rw [hr4]; rfl) (by decide)).trans (tgC_part _)
        have HBE := hide (bsetRow HB4.out (Nat.le_refl w.heap.size) (tgC y.tag))
        clear HV
        go_wp2_with fail
        exact bodyPost_ret (v := .tuple #[tgV y.tag, .bool (k == 0)]) (by simp [results, Tryd.results116, go_sem, hage]) rfl ⟨by rw [HV'.out], HBE.out⟩
      | succ kd =>
        have HV' := hide (HV.out.trans (if_neg (Nat.succ_ne_zero kd)))
        obtain ⟨z, hz⟩ : ∃ z : Int, ((kd + 1 : Nat) : Int) = z := ⟨_, rfl⟩
        have hz0 : z ≠ 0 := by omega
        rw [hz]
        clear HV hz
        go_wp2_with fail
        refine (c_sB base _ g v l n H4.out HN.out HSZ.out).mono ?_
        rintro e w5 ⟨A5, n5, c5, B5, m5, d5, rfl, -, hr5, b5⟩
        obtain ⟨u, hu⟩ : ∃ u, (bVal l n).getD Bun.zero = u := ⟨_, rfl⟩
        rw [hu] at HV' hr5 ⊢
        obtain ⟨kb, hkb⟩ : ∃ kb, bCode l n = kb := ⟨_, rfl⟩
        rw [hkb] at HV' ⊢
        clear hu hkb
        have hs5 := b5.size
        simp only [World.size_alloc] at hs5
        obtain ⟨CB, hCB⟩ : ∃ CB, CB = bunA u A5 n5 c5 B5 m5 d5 := ⟨_, rfl⟩
        rw [show bunV u A5 n5 c5 B5 m5 d5 = .agg CB from by rw [hCB]]
        have hzB : CB.size = 37 := by rw [hCB]; exact bunC_size _ _ _ _ _ _
        have hoB : oneAll CB = true := by rw [hCB]; exact bunC_all _ _ _ _ _ _ _ _ _ _ _
        have hspB : splice bunZ 0 CB = CB := by rw [hCB]; exact bunC_splice0 _ _ _ _ _ _ _ (bunC_size _ _ _ _ _ _)
        have b56 : Below (w3.heap.size + 1) (w3.alloc (.cells CT 44)) (w5.alloc (.cells CB 61)) := by simp only [World.size_alloc] at b5; exact b5.alloc hs5 _
        have HZ6 := hide ((b56.block w.heap.size (by omega)).trans HZ4.out)
        have hr6 := row_of HZ6.out
        have HB6 := hide (HB4.out.trans (b56.mono (by omega)))
        have hcl : (w5.alloc (.cells CB 61)).cell? ⟨w5.heap.size, 36, none⟩ = some (.slice B5 m5 d5) := (cell_of_row _ _ _ _ _ _ (heap_alloc_new _ _)).trans (by rw [hCB]; exact bunC_36 _ _ _ _ _ _)
        have hg36 : CB[36]'(by rw [hzB]; decide) = .slice B5 m5 d5 := by
          have h3 : CB[36]? = some (.slice B5 m5 d5) := by rw [hCB]; exact bunC_36 _ _ _ _ _ _
          rw [Array.getElem?_eq_getElem (by rw [hzB]; decide)] at h3
          exact Option.some.inj h3
        have hagr : agg? (w5.alloc (.cells CB 61)) ⟨w5.heap.size, 4, none⟩ 32 = some (tgC u.root.tag) := (agg_of_row (heap_alloc_new _ _) 4 32 (by decide)).trans (by rw [hCB]; exact bunC_tag _ _ _ _ _ _)
        have hlm := hr5.1
        have HR6 := hide ((hr5.more (ok' := fun _ => True) fun _ _ => trivial).alloc (.cells CB 61))
        have hagz : ∀ t : Tg, agg? ((w5.alloc (.cells CB 61)).setRow w.heap.size (tgC t)) ⟨w.heap.size, 0, none⟩ 32 = some (tgC t) := fun t => (agg_setRow_at _ _ _ _ _ (by rw [hr6]; rfl) (by decide)).trans (tgC_part _)
        have HBZ : Hid (∀ t : Tg, Below w.heap.size w ((w5.alloc (.cells CB 61)).setRow w.heap.size (tgC t))) := hide (fun t => bsetRow HB6.out (Nat.le_refl w.heap.size) (tgC t))
        have hm63 : m5 ≤ 9223372036854775807 := Nat.le_trans hr5.2.1 hr5.2.2.1
        clear b5 b56 hr5 hCB HZ4 HB4 H4
        have hno : (kb ≠ 0 ∨ k < 0 ∨ (u.dis.length : Int) < k) → pubR l n k = (Tg.zero, false) := fun h => HV'.out.trans (if_pos h)
        have hyes : ¬ (kb ≠ 0 ∨ k < 0 ∨ (u.dis.length : Int) < k) → pubR l n k = if k = 0 then (u.root.tag, true) else ((u.dis.getD (k - 1).toNat Tok.zero).tag, true) := fun h => HV'.out.trans (if_neg h)
        rw [hlm] at hno hyes
        have HNO := hide hno
        have HYES := hide hyes
        have HLM := hide hlm
        clear HV' hno hyes hlm
        cases kb with
        | succ kb =>
          have HVE := hide (HNO.out (.inl (Nat.succ_ne_zero kb)))
          obtain ⟨z, hz⟩ : ∃ z : Int, ((kb + 1 : Nat) : Int) = z := ⟨_, rfl⟩
          have hz1 : z ≠ 0 := by omega
          rw [hz]
          clear hz
          go_wp2_with fail
          exact bodyPost_ret (v := .tuple #[tgV Tg.zero, .bool false]) (by simp [results, Tryd.results116, go_sem, hagz]) rfl ⟨by rw [HVE.out], HBZ.out _⟩
        | zero =>
          by_cases hk0 : k < 0
          · have HVE := hide (HNO.out (.inr (.inl hk0)))
            go_wp2_with fail
            exact bodyPost_ret (v := .tuple #[tgV Tg.zero, .bool false]) (by simp [results, Tryd.results116, go_sem, hagz]) rfl ⟨by rw [HVE.out], HBZ.out _⟩
          by_cases hkm : (m5 : Int) < k
          · have HVE := hide (HNO.out (.inr (.inr hkm)))
            go_wp2_with fail
            exact bodyPost_ret (v := .tuple #[tgV Tg.zero, .bool false]) (by simp [results, Tryd.results116, go_sem, hagz]) rfl ⟨by rw [HVE.out], HBZ.out _⟩
          have HYE := hide (HYES.out (by omega))
          by_cases hke : k = 0
          · have HVE : Hid (pubR l n k = (u.root.tag, true)) := hide (HYE.out.trans (if_pos hke))
            subst hke
            go_wp2_with fail
            exact bodyPost_ret (v := .tuple #[tgV u.root.tag, .bool true]) (by simp [results, Tryd.results116, go_sem, hagz]) rfl ⟨by rw [HVE.out], HBZ.out _⟩
          · obtain ⟨i, hi⟩ : ∃ i : Nat, k - 1 = (i : Int) := ⟨(k - 1).toNat, by omega⟩
            have hil : i < u.dis.length := by have := HLM.out; omega
            obtain ⟨x, hx⟩ : ∃ x, u.dis[i]? = some x := ⟨_, List.getElem?_eq_getElem hil⟩
            have HVE : Hid (pubR l n k = (x.tag, true)) := hide (HYE.out.trans ((if_neg hke).trans (by
              rw [hi, Int.toNat_natCast, List.getD_eq_getElem?_getD, hx]; rfl)))
            obtain ⟨b, o', A1, n1, c1, hix, hbl, hagx, -, -⟩ := tok_at HR6.out hx
            have hagx4 := agg_tag hagx
            have hi63 : (i : Int) ≤ 9223372036854775807 := by omega
            clear hx hagx hil
            go_wp2_with fail
            trace_state
            exact bodyPost_ret (v := .tuple #[tgV x.tag, .bool true]) (by simp [results, Tryd.results116, go_sem, hagz]) rfl ⟨by rw [HVE.out], HBZ.out _⟩
end Go.Proofs.YtdkeflhgengblaaDoor
namespace Go.Proofs.YtdkeflhgengblaaDoor
open Go.RowKit
structure Deal where
  party : Nat
  key : Tg
  root : Tg
  cond : List UInt8
  ask : Tg
  vault : Tg
/-- A deal's cells. -/
def dealC (p : Value) (k r : Tg) (c : Value) (a v : Tg) : Array Value := #[p] ++ tgC k ++ tgC r ++ #[c] ++ tgC a ++ tgC v
abbrev dealA (d : Deal) : Array Value := dealC (.int .u64 (d.party : Int)) d.key d.root (.string (txt d.cond)) d.ask d.vault
theorem part_mid (A B C : Array Value) (o n : Nat) (ho : A.size = o) (hn : B.size = n) : part? (A ++ B ++ C) o n = some B := by
  subst ho hn
  rw [part?, if_pos (by simp only [Array.size_append]; omega)]
  congr 1
  apply Array.toList_inj.1
  rw [Array.toList_extract, Array.toList_append, Array.toList_append, List.extract_eq_take_drop, List.append_assoc, show A.size = A.toList.length from Array.length_toList.symm, List.drop_left, Nat.add_sub_cancel_left, show B.size = B.toList.length from Array.length_toList.symm, List.take_left]
theorem at_mid (A C : Array Value) (x : Value) (o : Nat) (ho : A.size = o) : (A ++ #[x] ++ C)[o]? = some x := by
  subst ho
  rw [Array.getElem?_append, if_pos (by simp), Array.getElem?_append, if_neg (by omega), Nat.sub_self]
  rfl
variable (p c : Value) (k r a v : Tg)
theorem dealC_size : (dealC p k r c a v).size = 130 := by simp [dealC, tgC_size]
theorem dealC_0 : (dealC p k r c a v)[0]? = some p := by
  have := at_mid #[] (tgC k ++ tgC r ++ #[c] ++ tgC a ++ tgC v) p 0 rfl
  rw [← this, dealC]
  simp only [Array.append_assoc, Array.empty_append]
theorem dealC_65 : (dealC p k r c a v)[65]? = some c := by
  have := at_mid (#[p] ++ tgC k ++ tgC r) (tgC a ++ tgC v) c 65 (by simp [tgC_size])
  rw [← this, dealC]
  simp only [Array.append_assoc]
theorem dealC_key : part? (dealC p k r c a v) 1 32 = some (tgC k) := by
  have := part_mid #[p] (tgC k) (tgC r ++ #[c] ++ tgC a ++ tgC v) 1 32 rfl (tgC_size k)
  rw [← this, dealC]
  simp only [Array.append_assoc]
theorem dealC_root : part? (dealC p k r c a v) 33 32 = some (tgC r) := by
  have := part_mid (#[p] ++ tgC k) (tgC r) (#[c] ++ tgC a ++ tgC v) 33 32 (by simp [tgC_size]) (tgC_size r)
  rw [← this, dealC]
  simp only [Array.append_assoc]
theorem dealC_ask : part? (dealC p k r c a v) 66 32 = some (tgC a) := by
  have := part_mid (#[p] ++ tgC k ++ tgC r ++ #[c]) (tgC a) (tgC v) 66 32 (by simp [tgC_size]) (tgC_size a)
  rw [← this, dealC]
theorem dealC_vault : part? (dealC p k r c a v) 98 32 = some (tgC v) := by
  have := part_mid (#[p] ++ tgC k ++ tgC r ++ #[c] ++ tgC a) (tgC v) #[] 98 32 (by simp [tgC_size]) (tgC_size v)
  rw [← this, dealC]
  simp only [Array.append_empty]
theorem dealC_all : dealC p k r c a v = dealC p k r c a v := rfl
end Go.Proofs.YtdkeflhgengblaaDoor
namespace Go.Proofs.YtdkeflhgengblaaDoor
open Go.RowKit
/-- A recipe. -/
inductive Atm where
  | mk (kind : Int) (tag : Tg) (out tok : Int) (use : ByteArray) (parts : List ByteArray) (sub : List Atm)
namespace Atm
def kind : Atm → Int | mk k _ _ _ _ _ _ => k
def tag : Atm → Tg | mk _ t _ _ _ _ _ => t
def out : Atm → Int | mk _ _ o _ _ _ _ => o
def tok : Atm → Int | mk _ _ _ o _ _ _ => o
def use : Atm → ByteArray | mk _ _ _ _ u _ _ => u
def parts : Atm → List ByteArray | mk _ _ _ _ _ p _ => p
def sub : Atm → List Atm | mk _ _ _ _ _ _ s => s
end Atm
/-- A recipe's cells. -/
def atmC (k : Value) (t : Tg) (o n u p s : Value) : Array Value := #[k] ++ tgC t ++ #[o, n, u, p, s]
section
variable (k o n u p s : Value) (t : Tg)
theorem atmC_size : (atmC k t o n u p s).size = 38 := by simp [atmC, tgC_size]
theorem atmC_0 : (atmC k t o n u p s)[0]? = some k := by
  have := at_mid #[] (tgC t ++ #[o, n, u, p, s]) k 0 rfl
  rw [← this, atmC]
  simp only [Array.append_assoc, Array.empty_append]
theorem atmC_tag : part? (atmC k t o n u p s) 1 32 = some (tgC t) := part_mid #[k] (tgC t) #[o, n, u, p, s] 1 32 rfl (tgC_size t)
theorem atmC_behind (i : Nat) : (atmC k t o n u p s)[33 + i]? = (#[o, n, u, p, s] : Array Value)[i]? := by
  have hz : (#[k] ++ tgC t : Array Value).size = 33 := by simp [tgC_size]
  rw [atmC, Array.getElem?_append, if_neg (by rw [hz]; omega), hz, Nat.add_sub_cancel_left]
theorem atmC_33 : (atmC k t o n u p s)[33]? = some o := atmC_behind k o n u p s t 0
theorem atmC_34 : (atmC k t o n u p s)[34]? = some n := atmC_behind k o n u p s t 1
theorem atmC_35 : (atmC k t o n u p s)[35]? = some u := atmC_behind k o n u p s t 2
theorem atmC_36 : (atmC k t o n u p s)[36]? = some p := atmC_behind k o n u p s t 3
theorem atmC_37 : (atmC k t o n u p s)[37]? = some s := atmC_behind k o n u p s t 4
theorem atmC_part : part? (atmC k t o n u p s) 0 38 = some (atmC k t o n u p s) := part_self _ _ (atmC_size _ _ _ _ _ _ _)
end
theorem atmC_all (t : Tg) (k : Int) (o n : Int) (u : ByteArray) (A B : Option Addr) (a b c d : Nat) : oneAll (atmC (.int .i64 k) t (.int .i64 o) (.int .i64 n) (.string u) (.slice A a b) (.slice B c d)) = true := by
  have h := tgC_one t
  simp only [oneAll, atmC, Array.all_append, Bool.and_eq_true]
  exact ⟨⟨by simp [one_int], h⟩, by simp [one_int, one_str, one_slice]⟩
abbrev atmA (a : Atm) (A : Option Addr) (p q : Nat) (B : Option Addr) (m r : Nat) : Array Value := atmC (.int .i64 a.kind) a.tag (.int .i64 a.out) (.int .i64 a.tok) (.string a.use) (.slice A p q) (.slice B m r)
abbrev atmV (a : Atm) (A : Option Addr) (p q : Nat) (B : Option Addr) (m r : Nat) : Value := .agg (atmA a A p q B m r)
/-- Recipes, so deep. -/
def kAtm : Nat → Kd Atm
  | 0 => { sz := 38, K := fun _ _ _ _ => False, len := fun h => h.elim, one := fun h => h.elim, keep := fun _ h => h, more := fun _ h => h, bound := fun h => h }
  | D + 1 => {
    sz := 38
    K := fun ok w a cs => ∃ A p q B m r, cs = (atmA a A p q B m r).toList ∧ kStr.Row ok w A p q a.parts ∧ (kAtm D).Row ok w B m r a.sub
    len := by rintro ok w x cs ⟨A, p, q, B, m, r, rfl, -⟩; rw [Array.length_toList, atmC_size]
    one := by
      rintro ok w x cs ⟨A, p, q, B, m, r, rfl, -⟩ u hu
      exact (Array.all_eq_true_iff_forall_mem.1 (atmC_all x.tag x.kind x.out x.tok x.use A B p q m r)) u (by simpa using hu)
    keep := by rintro ok w w' x cs hk ⟨A, p, q, B, m, r, e, h1, h2⟩; exact ⟨A, p, q, B, m, r, e, h1.keep fun k h _ => hk k h, h2.keep fun k h _ => hk k h⟩
    more := by rintro ok ok' w x cs hk ⟨A, p, q, B, m, r, e, h1, h2⟩; exact ⟨A, p, q, B, m, r, e, h1.more hk, h2.more hk⟩
    bound := by rintro ok w x cs ⟨A, p, q, B, m, r, e, h1, h2⟩; exact ⟨A, p, q, B, m, r, e, h1.bound, h2.bound⟩ }
theorem kAtm_sz (D : Nat) : (kAtm D).sz = 38 := by cases D <;> rfl
theorem atm_size (D : Nat) : (Tryd.prog.info? 98).map (·.size) = some (kAtm D).sz := by
  rw [kAtm_sz]
  kernel_rfl
/-- What is opened of a part, as a tag. -/
def openT (key : Tg) (p : List UInt8) : Option Tg := match tagOf (((openB key p).getD []).take 32) with
  | some t => if (openB key p).isSome then some t else none
  | none => none
/-- A recipe's value. -/
def valT (l : List Out) : Nat → Atm → Option Tg
  | 0, _ => none
  | d + 1, a =>
    if a.kind = 1 then some a.tag
    else if a.kind = 2 then (if (pubR l a.out a.tok).2 = true then some (pubR l a.out a.tok).1 else none)
    else if a.kind = 3 ∨ a.kind = 4 then
      match a.sub with
      | [x] => match valT l d x with
        | some key => if a.kind = 3 then some (dkey key a.use a.parts) else match a.parts with
          | [p] => openT key (byt p)
          | _ => none
        | none => none
      | _ => none
    else none
/-- Few bytes, so deep. -/
def smallA : Nat → Atm → Prop
  | 0, _ => True
  | d + 1, a => a.use.size ≤ 1000000 ∧ (frames (a.use :: a.parts)).length < 1000000 ∧ ∀ x ∈ a.sub, smallA d x
end Go.Proofs.YtdkeflhgengblaaDoor
namespace Go.Proofs.YtdkeflhgengblaaDoor
open Go.RowKit
attribute [local go_sem ↓] ld8 ld32 ld64 ld73
attribute [local go_sem] run_ldAgg run_storeAgg agg_alloc_at agg_alloc_past agg_drew agg_setCell row_alloc_at row_alloc_past row_drew setRow_alloc_at setRow_alloc_past setRow_drew agg_setRow_at agg_setRow_far cell_setRow_at cell_setRow_far row_setRow_far size_setRow s8C_size s8C_part s8C_one s8C_splice0 s8C_ne dgC_size dgC_72 dgC_part dgC_h dgC_r dgC_splice_h dgC_set dgC_one dgC_splice0 dgC_ne zero_dg
attribute [local go_sem] tgC_size tgC_one tgC_part tgC_splice tgC_splice_any zero_tg tgC_ne

theorem heap4 (w : World) (a b c d : Array Value) (T E : TypeId) : (((((w.alloc (.cells a T)).alloc (.cells b T)).alloc (.cells c E)).alloc (.cells d T)).heap[w.heap.size]? = some (.cells a T)) ∧ (((((w.alloc (.cells a T)).alloc (.cells b T)).alloc (.cells c E)).alloc (.cells d T)).heap[w.heap.size + 1]? = some (.cells b T)) ∧ (((((w.alloc (.cells a T)).alloc (.cells b T)).alloc (.cells c E)).alloc (.cells d T)).heap[w.heap.size + 3]? = some (.cells d T)) := by
  refine ⟨?_, ?_, ?_⟩
  · rw [Below.heap_alloc _ _ _ (by simp only [World.size_alloc]; omega), Below.heap_alloc _ _ _ (by simp only [World.size_alloc]; omega), Below.heap_alloc _ _ _ (by simp only [World.size_alloc]; omega)]; exact heap_alloc_new _ _
  · rw [Below.heap_alloc _ _ _ (by simp only [World.size_alloc]; omega), Below.heap_alloc _ _ _ (by simp only [World.size_alloc]; omega)]
    have := heap_alloc_new (w.alloc (.cells a T)) (.cells b T)
    rwa [World.size_alloc] at this
  · have := heap_alloc_new (((w.alloc (.cells a T)).alloc (.cells b T)).alloc (.cells c E)) (.cells d T)
    rwa [World.size_alloc, World.size_alloc, World.size_alloc] at this
/-- What the loop of the document's stream keeps. -/
def RsAt (w wr : World) (G : Nat) (key nonce : Tg) (i : Nat) (v : Value) : Prop :=
  kU8.Own (fun _ => False) (w.heap.size + 2) wr 5 v (strm key nonce i) ∧ v.ownBlock ≠ some G ∧ (∃ u : Tg, wr.heap[G]? = some (.cells (tgC u) 29) ∧ (i % 32 ≠ 0 → u = sKey key nonce (i / 32))) ∧
  wr.heap[w.heap.size]? = some (.cells (tgC key) 29) ∧ wr.heap[w.heap.size + 1]? = some (.cells (tgC nonce) 29) ∧ w.heap.size + 4 ≤ wr.heap.size ∧ Below w.heap.size w wr
theorem rs_next {w W6 w11 : World} {G : Nat} {key nonce t : Tg} {k : Nat} {v v11 c : Value} {T : TypeId} (hgs : w.heap.size + 3 = G) (htt : sKey key nonce (k / 32) = t)
    (hk : W6.heap[w.heap.size]? = some (.cells (tgC key) 29)) (hn : W6.heap[w.heap.size + 1]? = some (.cells (tgC nonce) 29)) (hg : W6.heap[G]? = some (.cells (tgC t) 29)) (hs : w.heap.size + 4 ≤ W6.heap.size) (hB : Below w.heap.size w W6)
    (hv : v.ownBlock ≠ some G) (ho : kU8.Own (fun _ => True) (w.heap.size + 2) w11 5 v11 (strm key nonce (k + 1))) (b11 : Below (w.heap.size + 2) (W6.alloc (.cells #[c] T)) w11)
    (f11 : ∀ j, j < W6.heap.size + 1 → ¬ some j = v.ownBlock → w11.heap[j]? = (W6.alloc (.cells #[c] T)).heap[j]?) (o11 : v11.ownBlock = v.ownBlock ∨ ∃ j, v11.ownBlock = some j ∧ W6.heap.size + 1 ≤ j) : RsAt w w11 G key nonce (k + 1) v11 := by
  have h7 : (W6.alloc (.cells #[c] T)).heap.size = W6.heap.size + 1 := World.size_alloc _ _
  have hb : ∀ j, j < w.heap.size + 2 → w11.heap[j]? = W6.heap[j]? := fun j hj => (b11.block j hj).trans (Below.heap_alloc _ _ _ (by omega))
  refine ⟨own8 ho, ?_, ⟨t, ?_, fun h => ?_⟩, (hb _ (by omega)).trans hk, (hb _ (by omega)).trans hn, ?_, ?_⟩
  · rcases o11 with e | ⟨j, e, hj⟩
    · rw [e]; exact hv
    · rw [e]; intro e'; have := Option.some.inj e'; omega
  · exact ((f11 G (by omega) (fun e => hv e.symm)).trans (Below.heap_alloc _ _ _ (by omega))).trans hg
  · rw [← htt]; congr 1; omega
  · have := b11.size; omega
  · exact (hB.alloc (by omega) _).trans (b11.mono (by omega))
set_option maxRecDepth 100000 in
set_option maxHeartbeats 800000 in
theorem c_rstream (key nonce : Tg) (z : Int) (n : Nat) (w : World) (hz : z.toNat = n) (hn : n < 1048576) :
    Calls Tryd.prog 39 #[tgV key, tgV nonce, .int .i64 z] w fun e w' => ∃ v, e = .returned v ∧ kU8.Own (fun _ => True) w.heap.size w' 5 v (strm key nonce n) ∧ Below w.heap.size w w' := by
  have HZ := hide hz
  clear hz
  obtain ⟨W1, hW1⟩ : ∃ W1, W1 = (((w.alloc (.cells (tgC key) 29)).alloc (.cells (tgC nonce) 29)).alloc (.cells #[] 5)).alloc (.cells (tgC Tg.zero) 29) := ⟨_, rfl⟩
  obtain ⟨g1, g2, g3⟩ := heap4 w (tgC key) (tgC nonce) #[] (tgC Tg.zero) 29 5
  rw [← hW1] at g1 g2 g3
  have hs1 : W1.heap.size = w.heap.size + 4 := by rw [hW1]; simp only [World.size_alloc]
  have hO : kU8.Own (fun _ => True) (w.heap.size + 2) W1 5 (.slice (some ⟨w.heap.size + 2, 0, none⟩) 0 0) [] := by
    have := bytes_lit ((w.alloc (.cells (tgC key) 29)).alloc (.cells (tgC nonce) 29)) [] #[] rfl 0 rfl (Nat.zero_le _)
    rw [World.size_alloc, World.size_alloc] at this
    rw [hW1]
    exact this.below (below1 _ _)
  have HR0 : Hid (RsAt w W1 (w.heap.size + 3) key nonce 0 (.slice (some ⟨w.heap.size + 2, 0, none⟩) 0 0)) := hide ⟨own8 hO, (fun e => by have := Option.some.inj (show some (w.heap.size + 2) = some (w.heap.size + 3) from e); omega), ⟨Tg.zero, g3, fun h => absurd rfl h⟩, g1, g2, by omega, by rw [hW1]; exact (below3 _ _ _ _).alloc (by simp only [World.size_alloc]; omega) _⟩
  clear g1 g2 g3 hO hs1
  go_enter Tryd.func39, Tryd.ntmps39
  go_wp2_with fail
  rw [← hW1]
  clear hW1
  obtain ⟨G, hG⟩ : ∃ G, G = w.heap.size + 1 + 1 + 1 := ⟨_, rfl⟩
  rw [← hG]
  rw [show w.heap.size + 3 = G from hG.symm] at HR0
  have hGs : w.heap.size + 3 = G := hG.symm
  have HGS := hide hGs
  clear hG hGs
  go_loopw [7, 9] (fun v i wr => ∃ (k : Nat), k ≤ n ∧ i = .int .i64 (k : Int) ∧ Hid (RsAt w wr G key nonce k v)) (fun _ i _ => n - (intOf i).toNat)
  case atStart => exact ⟨0, Nat.zero_le _, rfl, HR0⟩
  case round =>
    clear HR0
    obtain ⟨k, hk, rfl, HR⟩ := hrel
    obtain ⟨hO, hown, ⟨u, hu, hu2⟩, hkc, hnc, hsz, hB⟩ := HR.out
    obtain ⟨AV, cV, hvf⟩ := hO.form
    rw [strm_len] at hvf
    rw [hvf] at hO hown ⊢
    clear HR hvf
    by_cases hlt : k < n
    · have hzn : z = (n : Int) := by have := HZ.out; omega
      subst hzn
      have hrm : (k : Int).tmod 32 = ((k % 32 : Nat) : Int) := by rw [Int.tmod_eq_emod_of_nonneg (by omega)]; omega
      have hk63 : k < 1048576 := by omega
      obtain ⟨t, htt⟩ : ∃ t, t = sKey key nonce (k / 32) := ⟨_, rfl⟩
      obtain ⟨r, hr⟩ : ∃ r, r = k % 32 := ⟨_, rfl⟩
      have hr32 : r < 32 := by omega
      obtain ⟨x, hx⟩ : ∃ x, t.l[r]? = some x := ⟨_, List.getElem?_eq_getElem (by rw [t.len]; exact hr32)⟩
      have HX : Hid (strm key nonce k ++ [x] = strm key nonce (k + 1)) := hide (strm_next key nonce (by rw [← htt, ← hr]; exact hx))
      have HTT : Hid (sKey key nonce (k / 32) = t) := hide htt.symm
      have HXX := hide hx
      rw [← hr] at hrm
      have HO := hide hO
      have HOW := hide hown
      have HB := hide hB
      by_cases h0 : r = 0
      · subst h0
        have hq0 : ((k : Int).tmod 32 == 0) = true := by rw [hrm]; rfl
        have hqd : (k : Int).tdiv 32 = ((k / 32 : Nat) : Int) := by rw [Int.tdiv_eq_ediv_of_nonneg (by omega)]; omega
        have hag1 : agg? wr ⟨w.heap.size, 0, none⟩ 32 = some (tgC key) := (agg_of_row hkc 0 32 (by decide)).trans (tgC_part key)
        have hag2 : agg? wr ⟨w.heap.size + 1, 0, none⟩ 32 = some (tgC nonce) := (agg_of_row hnc 0 32 (by decide)).trans (tgC_part nonce)
        have HU := hide hu
        have HKC := hide hkc
        have HNC := hide hnc
        clear htt hr hx hO hown hB hu2 hu hkc hnc
        go_wp2_with fail
        rw [show ((k : Int) / 32) = ((k / 32 : Nat) : Int) by omega]
        refine (c_rblock key nonce (k / 32) wr (by omega)).mono ?_
        rintro e w5 ⟨rfl, b5⟩
        rw [HTT.out]
        have hu5 := (b5.block G (by have := HGS.out; omega)).trans HU.out
        have hrz := row_of hu5
        obtain ⟨W6, hW6⟩ : ∃ W6, W6 = w5.setRow G (tgC t) := ⟨_, rfl⟩
        have hgx : (tgC t)[0]? = some (bv x) := by rw [tgC_bl]; exact blC_at _ HXX.out
        have hgz : (tgC t)[0]'(by rw [tgC_size]; decide) = bv x := by
          rw [Array.getElem?_eq_getElem (by rw [tgC_size]; decide)] at hgx
          exact Option.some.inj hgx
        have HG6 : Hid (W6.heap[G]? = some (.cells (tgC t) 29)) := hide (by rw [hW6]; exact setRow_heap w5 G (tgC u) (tgC t) 29 _ hu5)
        have hs65 : W6.heap.size = w5.heap.size := by rw [hW6, size_setRow]
        have h56 : Below G w5 W6 := by rw [hW6]; exact bsetRow (Below.refl _ _) (Nat.le_refl _) _
        have h06 : Below w.heap.size w W6 := (HB.out.trans (b5.mono (by omega))).trans (h56.mono (by have := HGS.out; omega))
        have HS6 : Hid (w.heap.size + 4 ≤ W6.heap.size) := hide (by have := b5.size; have := h56.size; omega)
        have HK6 : Hid (W6.heap[w.heap.size]? = some (.cells (tgC key) 29)) := hide ((h56.block _ (by have := HGS.out; omega)).trans ((b5.block _ (by omega)).trans HKC.out))
        have HN6 : Hid (W6.heap[w.heap.size + 1]? = some (.cells (tgC nonce) 29)) := hide ((h56.block _ (by have := HGS.out; omega)).trans ((b5.block _ (by omega)).trans HNC.out))
        have HO6 : Hid (kU8.Own (fun _ => True) (w.heap.size + 2) W6 5 (.slice AV k cV) (strm key nonce k)) := hide (own8 (HO.out.keep fun j hj hj' => by
          by_cases hjg : j = G
          · subst hjg; exact absurd (hj'.resolve_left id).symm HOW.out
          · rw [hW6, heap_setRow_far _ _ _ hjg]; exact b5.block j hj))
        have HB6 := hide h06
        clear hu5 b5 hag1 hag2 h56 h06
        have HO8 : Hid (kU8.Own (fun _ => True) (w.heap.size + 2) (W6.alloc (.cells #[bv x] 5)) 5 (.slice AV k cV) (strm key nonce k)) := hide ((own8 HO6.out).below (below1 _ _))
        go_wp2_with (at_builtin; (try rw [← hW6, ← hs65]); go_loud (refine wpList_app (d := kU8) (ok := fun _ => True) (base := w.heap.size + 2) (ys := [x]) rfl _ _ _ rfl Tryd.underlying22 u8_info rfl (by decide) 1 rfl rfl (.inl HO8.out) (Kd.Src.new (d := kU8) (x := x) (cs := [bv x]) ⟨rfl, trivial⟩ _ rfl _ rfl) ?_ ?_ ?_ ?_))
        · have := HS6.out; simp only [World.size_alloc]; omega
        · rw [strm_len]; simp only [maxLen]; omega
        · rw [strm_len]; omega
        intro v11 w11 _ h11 b11 f11 o11
        rw [← hW6] at b11 f11
        rw [← hs65] at f11 o11
        rw [HX.out] at h11
        have HR11 := hide (rs_next HGS.out HTT.out HK6.out HN6.out HG6.out HS6.out HB6.out HOW.out h11 b11 f11 o11)
        clear h11 b11 f11 o11
        go_wp2_with fail
        go_roundw
        case rel => exact ⟨k + 1, hlt, by simp, HR11⟩
        case measure => simp [intOf]; omega
      · obtain rfl : u = t := by rw [htt]; exact hu2 (by rw [← hr]; exact h0)
        have hq0 : (((r : Nat) : Int) == 0) = false := by simp [h0]
        have HK6 := hide hkc
        have HN6 := hide hnc
        have HG6 := hide hu
        have HS6 := hide hsz
        have HB6 := hide hB
        have HO6 := HO
        have hgx : (tgC u)[r]? = some (bv x) := by rw [tgC_bl]; exact blC_at _ hx
        have hcx := (cell_of_row wr _ r _ _ _ hu).trans hgx
        clear htt hr hx hO hown hB hu2 hkc hnc
        have HO8 : Hid (kU8.Own (fun _ => True) (w.heap.size + 2) (wr.alloc (.cells #[bv x] 5)) 5 (.slice AV k cV) (strm key nonce k)) := hide ((own8 HO6.out).below (below1 _ _))
        go_wp2_with (at_builtin; go_loud (refine wpList_app (d := kU8) (ok := fun _ => True) (base := w.heap.size + 2) (ys := [x]) rfl _ _ _ rfl Tryd.underlying22 u8_info rfl (by decide) 1 rfl rfl (.inl HO8.out) (Kd.Src.new (d := kU8) (x := x) (cs := [bv x]) ⟨rfl, trivial⟩ _ rfl _ rfl) ?_ ?_ ?_ ?_))
        · have := HS6.out; simp only [World.size_alloc]; omega
        · rw [strm_len]; simp only [maxLen]; omega
        · rw [strm_len]; omega
        intro v11 w11 _ h11 b11 f11 o11
        rw [HX.out] at h11
        have HR11 := hide (rs_next HGS.out HTT.out HK6.out HN6.out HG6.out HS6.out HB6.out HOW.out h11 b11 f11 o11)
        clear h11 b11 f11 o11
        go_wp2_with fail
        go_roundw
        case rel => exact ⟨k + 1, hlt, by simp, HR11⟩
        case measure => simp [intOf]; omega
    · obtain rfl : k = n := by omega
      have hnl : ¬ (k : Int) < z := by have := HZ.out; omega
      have HV1 := hide ((own8 (ok' := fun _ => True) hO).lower (base' := w.heap.size) (by omega))
      have HB0 := hide hB
      clear hO hown hB hu2 hu hkc hnc
      go_wp2_with fail
      go_ret
      exact ⟨_, rfl, HV1.out, HB0.out⟩
end Go.Proofs.YtdkeflhgengblaaDoor
namespace Go.Proofs.YtdkeflhgengblaaDoor
open Go.RowKit
variable {base g n cap i : Nat} {w : World} {E : TypeId} {v : Value} {xs : List UInt8} {ok : Nat → Prop}
theorem own8_open (h : kU8.Own ok base w E v xs) (hn : 0 < xs.length) : ∃ g cap cur, v = .slice (some ⟨g, 0, none⟩) xs.length cap ∧ base ≤ g ∧ w.heap[g]? = some (.cells cur E (0, 0)) ∧ xs.length ≤ cap ∧ cap ≤ maxLen ∧ ∀ (i : Nat) (x : UInt8), xs[i]? = some x → cur[i]? = some (bv x) := by
  obtain ⟨css, he, ho⟩ := h
  rw [els8 he] at ho
  rcases ho.2 with ⟨_, h0⟩ | ⟨g, cap, cur, e, hb, hg, hnc, hm, hs, ht⟩
  · omega
  · refine ⟨g, cap, cur, e, hb, hg, hnc, hm, fun i x hx => ?_⟩
    have hi : i < xs.length := (List.getElem?_eq_some_iff.1 hx).1
    have h1 : (cur.toList.take (xs.length * kU8.sz))[i]? = some (bv x) := by rw [ht, List.getElem?_map, hx]; rfl
    rw [List.getElem?_take] at h1
    split at h1
    · rwa [Array.getElem?_toList] at h1
    · cases h1
theorem flat_bv (l : List UInt8) : (l.map fun x => [bv x]).flatten = l.map bv := by
  induction l <;> simp_all
theorem own8_set (h : kU8.Own ok base w E (.slice (some ⟨g, 0, none⟩) n cap) xs) (y : UInt8) : kU8.Own ok base (w.setCell ⟨g, i, none⟩ (bv y)) E (.slice (some ⟨g, 0, none⟩) n cap) (xs.set i y) := by
  obtain ⟨css, he, ho⟩ := h
  rw [els8 he] at ho
  rcases ho.2 with ⟨e, _⟩ | ⟨g', cap', cur, e, hb, hg, hnc, hm, hs, ht⟩
  · cases e
  · cases e
    refine ⟨(xs.set i y).map fun x => [bv x], ⟨by simp, fun j x cs hx hc => ?_⟩, ?_⟩
    · rw [List.getElem?_map, hx] at hc
      exact ⟨(Option.some.inj hc).symm, trivial⟩
    · rw [flat_bv]
      refine ⟨by simp [kU8, Kd.cell], .inr ⟨g, cap, cur.setIfInBounds i (bv y), by rw [List.length_set], hb, heap_setCell_at _ hg, by rw [List.length_set]; exact hnc, hm, by rw [Array.size_setIfInBounds]; exact hs, ?_⟩⟩
      rw [List.length_set, Array.toList_setIfInBounds, List.take_set, ht, List.map_set]
/-- The first k of one list, the others of another one. -/
def mix (A B : List UInt8) (k : Nat) : List UInt8 := A.take k ++ B.drop k
section
variable {A B : List UInt8} {k : Nat} {a : UInt8}
theorem mix_start : mix A B 0 = B := rfl
theorem mix_end (h : A.length = B.length) (hk : k = A.length) : mix A B k = A := by
  rw [mix, List.drop_eq_nil_of_le (by omega), List.append_nil, List.take_of_length_le (by omega)]
theorem mix_len (h : A.length = B.length) : (mix A B k).length = A.length := by
  simp only [mix, List.length_append, List.length_take, List.length_drop]; omega
theorem mix_at (h : A.length = B.length) (hk : k ≤ A.length) : (mix A B k)[k]? = B[k]? := by
  rw [mix, List.getElem?_append_right (by rw [List.length_take]; omega), List.getElem?_drop]
  congr 1
  rw [List.length_take]; omega
theorem mix_set (h : A.length = B.length) (ha : A[k]? = some a) : (mix A B k).set k a = mix A B (k + 1) := by
  have hk : k < A.length := (List.getElem?_eq_some_iff.1 ha).1
  apply List.ext_getElem?
  intro j
  rw [List.getElem?_set, mix_len h]
  by_cases hj : k = j
  · subst hj
    rw [if_pos rfl, if_pos hk, mix, List.getElem?_append_left (by rw [List.length_take]; omega), List.getElem?_take, if_pos (Nat.lt_succ_self _), ha]
  · rw [if_neg hj, mix, mix]
    rcases Nat.lt_or_ge j k with h2 | h2
    · rw [List.getElem?_append_left (by rw [List.length_take]; omega), List.getElem?_append_left (by rw [List.length_take]; omega), List.getElem?_take, List.getElem?_take, if_pos h2, if_pos (by omega)]
    · rw [List.getElem?_append_right (by rw [List.length_take]; omega), List.getElem?_append_right (by rw [List.length_take]; omega), List.getElem?_drop, List.getElem?_drop]
      congr 1
      simp only [List.length_take]; omega
end
end Go.Proofs.YtdkeflhgengblaaDoor
namespace Go.Proofs.YtdkeflhgengblaaDoor
open Go.RowKit
attribute [local go_sem ↓] ld8 ld32 ld64 ld73
attribute [local go_sem] run_ldAgg run_storeAgg agg_alloc_at agg_alloc_past agg_drew agg_setCell row_alloc_at row_alloc_past row_drew setRow_alloc_at setRow_alloc_past setRow_drew agg_setRow_at agg_setRow_far cell_setRow_at cell_setRow_far row_setRow_far size_setRow s8C_size s8C_part s8C_one s8C_splice0 s8C_ne dgC_size dgC_72 dgC_part dgC_h dgC_r dgC_splice_h dgC_set dgC_one dgC_splice0 dgC_ne zero_dg
attribute [local go_sem] tgC_size tgC_one tgC_part tgC_splice tgC_splice_any zero_tg tgC_ne

theorem str_byte {P : Program} {T : TypeId} (h : P.underlying T = some .string) {s : List UInt8} {k : Nat} {y : UInt8} (hy : s[k]? = some y) (kd : IntKind) : ∀ W : World, (Instr.index T (.string (txt s)) (.int kd (k : Int))).run P W = .ok (bv y) W := fun W => by
  have hk : k < s.length := (List.getElem?_eq_some_iff.1 hy).1
  have hi : 0 ≤ (k : Int) ∧ (k : Int) < ((txt s).size : Int) := by rw [txt_size]; omega
  rw [run_index_string W T (txt s) kd k h, dif_pos hi]
  have : (txt s)[(k : Int).toNat]'(by rw [txt_size]; omega) = y := by
    rw [List.getElem?_eq_getElem hk] at hy
    exact Option.some.inj hy
  rw [this]
theorem idx_k {P : Program} {T E : TypeId} (hT : P.underlying T = some (.slice E)) (hE : (P.info? E).map (·.size) = some 1) (g n c k : Nat) (hk : k < n) : ∀ wx : World, (Instr.indexAt T (.slice (some ⟨g, 0, none⟩) n c) (.int .i64 (k : Int))).run P wx = .ok (.pointer (some ⟨g, k, none⟩)) wx := fun wx => by
  cases hq : P.info? E with
  | none => rw [hq] at hE; cases hE
  | some x =>
    rw [hq] at hE
    have : x.size = 1 := by simpa using hE
    simp [Instr.indexAt, asIntOf, run_underlying hT, sizeOf, typeInfo, hq, this, hk, Addr.add]
    omega
set_option maxRecDepth 100000 in
set_option maxHeartbeats 800000 in
theorem c_sturned (key nonce : Tg) (s : List UInt8) (w : World) (hn : s.length < 1048576) (hP : PrimesAt w) :
    Calls Tryd.prog 80 #[tgV key, tgV nonce, .string (txt s)] w fun e w' => e = .returned (.string (txt (turnd key nonce s))) ∧ Below w.heap.size w w' := by
  have HP := hide hP
  have hw0 := hP.1
  obtain ⟨n, hnn⟩ : ∃ n, n = s.length := ⟨_, rfl⟩
  have hsz : (txt s).size = n := by rw [txt_size, hnn]
  have HN : Hid (s.length = n) := hide hnn.symm
  have HB1 : Hid (Below w.heap.size w ((w.alloc (.cells (tgC key) 29)).alloc (.cells (tgC nonce) 29))) := hide (below2 _ _ _)
  rw [← hnn] at hn
  clear hP hnn
  go_enter Tryd.func80, Tryd.ntmps80
  go_wp2_with fail
  refine (c_stream key nonce _ n _ (by simp) hn (HP.out.ext HB1.out)).mono ?_
  rintro e w5 ⟨v5, rfl, h5, b5⟩
  obtain ⟨A, hA⟩ : ∃ A, A = turnd key nonce s := ⟨_, rfl⟩
  obtain ⟨B, hBB⟩ : ∃ B, B = strm key nonce n := ⟨_, rfl⟩
  have hlA : A.length = n := by rw [hA, turnd_len, HN.out]
  have hlB : B.length = n := by rw [hBB, strm_len]
  have HAZ : Hid (A = List.zipWith (· ^^^ ·) B s) := hide (by rw [hA, hBB, turnd, HN.out])
  obtain ⟨AV, cV, hvf⟩ := h5.form
  rw [strm_len] at hvf
  rw [hvf] at h5 ⊢
  have HV0 : Hid (kU8.Own (fun _ => True) (w.heap.size + 2) w5 5 (.slice AV n cV) (mix A B 0)) := hide (by
    rw [mix_start, hBB]; simp only [World.size_alloc] at h5; exact h5)
  have HB5 : Hid (Below (w.heap.size + 2) w5 w5) := hide (Below.refl _ _)
  have HB0 : Hid (Below w.heap.size w w5) := hide (bnext HB1.out b5)
  have hw5 : w.heap.size + 2 ≤ w5.heap.size := by have := b5.size; simpa only [World.size_alloc] using this
  have HA := hide hA
  have HLA := hide hlA
  have HLB := hide hlB
  clear hA hBB hlA hlB hvf h5 b5
  go_wp2_with fail
  go_loopw [16] (fun i wr => ∃ (k : Nat), k ≤ n ∧ i = .int .i64 (k : Int) ∧ Hid (kU8.Own (fun _ => True) (w.heap.size + 2) wr 5 (.slice AV n cV) (mix A B k)) ∧ Hid (Below (w.heap.size + 2) w5 wr)) (fun i _ => n - (intOf i).toNat)
  case atStart => exact ⟨0, Nat.zero_le _, rfl, HV0, HB5⟩
  case round =>
    clear HV0 HB5
    obtain ⟨k, hk, rfl, HV, HB⟩ := hrel
    by_cases hlt : k < n
    · obtain ⟨b, hb⟩ : ∃ b, B[k]? = some b := ⟨_, List.getElem?_eq_getElem (by rw [HLB.out]; exact hlt)⟩
      obtain ⟨y, hy⟩ : ∃ y, s[k]? = some y := ⟨_, List.getElem?_eq_getElem (by rw [HN.out]; exact hlt)⟩
      obtain ⟨a, ha⟩ : ∃ a, a = b ^^^ y := ⟨_, rfl⟩
      have hAa : A[k]? = some a := by rw [HAZ.out, List.getElem?_zipWith, hb, hy, ha]
      have hml : (mix A B k).length = n := by rw [mix_len (HLA.out.trans HLB.out.symm), HLA.out]
      obtain ⟨g, cap, cur, e, hbg, hg, hnc, hm, hcu⟩ := own8_open HV.out (by omega)
      rw [hml] at e hnc
      injection e with e1 _ e3
      subst e1 e3
      have HSX := hide (str_byte (P := Tryd.prog) Tryd.underlying9 hy .i64)
      have HCB : Hid (cur[k]? = some (bv b)) := hide (hcu k b ((mix_at (HLA.out.trans HLB.out.symm) (by rw [HLA.out]; exact hk)).trans hb))
      have HIX := hide (idx_k (P := Tryd.prog) Tryd.underlying22 u8_info1 g n cV k hlt)
      have HXY : Hid (bits .xor .u8 (b.toNat : Int) (y.toNat : Int) = (a.toNat : Int)) := hide (by rw [ha]; exact b_xor b y)
      have HG := hide hg
      have HV1 : Hid (∀ w8, Below wr.heap.size wr w8 → kU8.Own (fun _ => True) (w.heap.size + 2) (w8.setCell ⟨g, k, none⟩ (bv a)) 5 (.slice (some ⟨g, 0, none⟩) n cV) (mix A B (k + 1))) := hide (fun w8 h8 => by
        rw [← mix_set (HLA.out.trans HLB.out.symm) hAa]
        exact own8_set (HV.out.below h8) a)
      have HBG : Hid (w.heap.size + 2 ≤ g) := hide hbg
      have HWR := hide (Nat.le_trans hw5 HB.out.size)
      clear hb hy ha hAa hml hcu hg hbg hm hnc
      go_wp2_with fail
      refine wp_region_ext mixed 9 (fun i v w' => match i with
        | 0 => v = .slice (some ⟨g, 0, none⟩) n cV
        | 1 => v = .int .i64 (k : Int)
        | 2 => v = .pointer (some ⟨g, k, none⟩)
        | 3 => v = bv b
        | 4 => v = .string (txt s)
        | 5 => v = .int .i64 (k : Int)
        | 6 => v = bv y
        | 7 => v = bv a
        | _ => v = .pointer (some ⟨g, k, none⟩)
        ) (regOk_of (by kernel_rfl)) rfl ?_ ?_ ?_
      · intro i v w1 w2 h1 h2
        split at h2 <;> exact h2
      · refine ⟨fun a w2 hle hd hf hs K hK => ?_, fun a w2 hle hd hf hs K hK => ?_, fun a w2 hle hd hf hs K hK => ?_, fun a w2 hle hd hf hs K hK => ?_, fun a w2 hle hd hf hs K hK => ?_, fun a w2 hle hd hf hs K hK => ?_, fun a w2 hle hd hf hs K hK => ?_, fun a w2 hle hd hf hs K hK => ?_, fun a w2 hle hd hf hs K hK => ?_, trivial⟩
        all_goals clear hd
        · -- 19 := Op.move t7
          have e7 := hf 7 rfl; simp [Act.eval] at e7
          go_simp; exact hK _ _ (Ext.refl _) rfl
        · -- 20 := Op.move t8
          have e8 := hf 8 rfl; simp [Act.eval] at e8
          go_simp; exact hK _ _ (Ext.refl _) rfl
        · -- 21 := Op.indexAddr 22 t19 t20
          have e19 := hs 0 19 (needs_direct (by kernel_rfl)) rfl; have e20 := hs 1 20 (needs_direct (by kernel_rfl)) rfl; simp [Act.eval] at e19 e20
          have hix := HIX.out
          go_simp; exact hK _ _ (Ext.refl _) rfl
        · -- 22 := Op.load 5 t21
          have e21 := hs 2 21 (needs_direct (by kernel_rfl)) rfl; simp [Act.eval] at e21
          have hcx := (cell_of_row w2 g k _ _ _ (hle.heap HG.out)).trans HCB.out
          go_simp; exact hK _ _ (Ext.refl _) rfl
        · -- 23 := Op.move t2
          have e2 := hf 2 rfl; simp [Act.eval] at e2
          go_simp; exact hK _ _ (Ext.refl _) rfl
        · -- 24 := Op.move t8
          have e8 := hf 8 rfl; simp [Act.eval] at e8
          go_simp; exact hK _ _ (Ext.refl _) rfl
        · -- 25 := Op.index 9 t23 t24
          have e23 := hs 4 23 (needs_direct (by kernel_rfl)) rfl; have e24 := hs 5 24 (needs_direct (by kernel_rfl)) rfl; simp [Act.eval] at e23 e24
          have hsx := HSX.out
          go_simp; exact hK _ _ (Ext.refl _) rfl
        · -- 26 := Op.binOp BinOp.xor 5 t22 t25 5
          have e22 := hs 3 22 (needs_direct (by kernel_rfl)) rfl; have e25 := hs 6 25 (needs_direct (by kernel_rfl)) rfl; simp [Act.eval] at e22 e25
          have hxx := HXY.out
          go_simp; exact hK _ _ (Ext.refl _) rfl
        · -- 27 := Op.indexAddr 22 t19 t20
          have e19 := hs 0 19 (needs_direct (by kernel_rfl)) rfl; have e20 := hs 1 20 (needs_direct (by kernel_rfl)) rfl; simp [Act.eval] at e19 e20
          have hix := HIX.out
          go_simp; exact hK _ _ (Ext.refl _) rfl
      intro vs w8 hle hs
      have v7 := hs 7 (by omega) rfl
      have v8 := hs 8 (by omega) rfl
      simp only at v7 v8
      clear hs
      have hg8 := hle.heap HG.out
      have hfz := frozen_of_row w8 g k _ _ hg8
      have hcx := (cell_of_row w8 g k _ _ _ hg8).trans HCB.out
      have HV2 := hide (HV1.out w8 hle)
      have HB2 := hide (bsetCell (HB.out.trans (hle.mono HWR.out)) HBG.out k (bv a))
      clear hg8 hle
      simp only [putN, dstAt]
      go_simp
      go_wp2_with fail
      go_roundw
      case rel => exact ⟨k + 1, hlt, by simp, HV2, HB2⟩
      case measure => simp [intOf]; omega
    · obtain rfl : k = n := by omega
      obtain ⟨A2, c2, e2, hr2⟩ := own_row HV.out
      have hme := mix_end (A := A) (B := B) (k := k) (HLA.out.trans HLB.out.symm) HLA.out.symm
      rw [hme, HA.out] at hr2
      rw [mix_len (HLA.out.trans HLB.out.symm), HLA.out] at e2
      rw [turnd_len, HN.out] at hr2
      injection e2 with e1 _ e3
      subst e1 e3
      have hst := row_string (P := Tryd.prog) Tryd.underlying22 Tryd.underlying5 Tryd.underlying9 hr2
      have HBE := hide (HB0.out.trans (HB.out.mono (by omega)))
      clear hr2 hme
      go_wp2_with fail
      go_ret
      exact ⟨rfl, HBE.out⟩
end Go.Proofs.YtdkeflhgengblaaDoor
namespace Go.Proofs.YtdkeflhgengblaaDoor
open Go.RowKit
attribute [local go_sem ↓] ld8 ld32 ld64 ld73
attribute [local go_sem] run_ldAgg run_storeAgg agg_alloc_at agg_alloc_past agg_drew agg_setCell row_alloc_at row_alloc_past row_drew setRow_alloc_at setRow_alloc_past setRow_drew agg_setRow_at agg_setRow_far cell_setRow_at cell_setRow_far row_setRow_far size_setRow s8C_size s8C_part s8C_one s8C_splice0 s8C_ne dgC_size dgC_72 dgC_part dgC_h dgC_r dgC_splice_h dgC_set dgC_one dgC_splice0 dgC_ne zero_dg
attribute [local go_sem] tgC_size tgC_one tgC_part tgC_splice tgC_splice_any zero_tg tgC_ne

theorem turnd_at {key nonce : Tg} {s : List UInt8} {k : Nat} {b y : UInt8} (hb : (strm key nonce s.length)[k]? = some b) (hy : s[k]? = some y) : (turnd key nonce s).take k ++ [y ^^^ b] = (turnd key nonce s).take (k + 1) := by
  rw [List.take_add_one, turnd, List.getElem?_zipWith, hb, hy]
  simp only [Option.toList, UInt8.xor_comm]
set_option maxRecDepth 100000 in
set_option maxHeartbeats 800000 in
theorem c_rsturned (key nonce : Tg) (s : List UInt8) (w : World) (hn : s.length < 1048576) :
    Calls Tryd.prog 81 #[tgV key, tgV nonce, .string (txt s)] w fun e w' => e = .returned (.string (txt (turnd key nonce s))) ∧ Below w.heap.size w w' := by
  obtain ⟨n, hnn⟩ : ∃ n, n = s.length := ⟨_, rfl⟩
  have hsz : (txt s).size = n := by rw [txt_size, hnn]
  have HN : Hid (s.length = n) := hide hnn.symm
  have HB1 : Hid (Below w.heap.size w ((w.alloc (.cells (tgC key) 29)).alloc (.cells (tgC nonce) 29))) := hide (below2 _ _ _)
  rw [← hnn] at hn
  clear hnn
  go_enter Tryd.func81, Tryd.ntmps81
  go_wp2_with fail
  refine (c_rstream key nonce _ n _ (by simp) hn).mono ?_
  rintro e w5 ⟨v5, rfl, h5, b5⟩
  obtain ⟨AV, cV, e5, hr5⟩ := own_row h5
  rw [strm_len] at e5 hr5
  rw [e5]
  have HR5 := hide hr5
  have HV0 : Hid (kU8.Own (fun _ => True) w5.heap.size (w5.alloc (.cells #[] 5)) 5 (.slice (some ⟨w5.heap.size, 0, none⟩) 0 0) ((turnd key nonce s).take 0)) := hide (bytes_lit w5 [] #[] rfl 0 rfl (Nat.zero_le _))
  have HB5 : Hid (Below w5.heap.size w5 (w5.alloc (.cells #[] 5))) := hide (below1 _ _)
  have HB0 : Hid (Below w.heap.size w w5) := hide (bnext HB1.out b5)
  have hw5 : w.heap.size ≤ w5.heap.size := HB0.out.size
  clear e5 h5 b5 hr5
  go_wp2_with fail
  go_loopw [8, 9] (fun v i wr => ∃ (k : Nat), k ≤ n ∧ i = .int .i64 (k : Int) ∧ Hid (kU8.Own (fun _ => True) w5.heap.size wr 5 v ((turnd key nonce s).take k)) ∧ Hid (Below w5.heap.size w5 wr)) (fun _ i _ => n - (intOf i).toNat)
  case atStart => exact ⟨0, Nat.zero_le _, rfl, HV0, HB5⟩
  case round =>
    clear HV0 HB5
    obtain ⟨k, hk, rfl, HV, HB⟩ := hrel
    have hlk : ((turnd key nonce s).take k).length = k := by rw [List.length_take, turnd_len, HN.out]; omega
    obtain ⟨AO, cO, hvf⟩ := HV.out.form
    rw [hlk] at hvf
    rw [hvf] at HV ⊢
    have HLK := hide hlk
    clear hvf hlk
    by_cases hlt : k < n
    · obtain ⟨b, hb⟩ : ∃ b, (strm key nonce n)[k]? = some b := ⟨_, List.getElem?_eq_getElem (by rw [strm_len]; exact hlt)⟩
      obtain ⟨y, hy⟩ : ∃ y, s[k]? = some y := ⟨_, List.getElem?_eq_getElem (by rw [HN.out]; exact hlt)⟩
      obtain ⟨x1, ha⟩ : ∃ a, a = y ^^^ b := ⟨_, rfl⟩
      have HST : Hid ((turnd key nonce s).take k ++ [x1] = (turnd key nonce s).take (k + 1)) := hide (by rw [ha]; exact turnd_at (by rw [HN.out]; exact hb) hy)
      have HSX := hide (str_byte (P := Tryd.prog) Tryd.underlying9 hy .i64)
      obtain ⟨p, o, hip, hcp, hpb⟩ := row_byte (HR5.out.below HB.out) hb
      have HIX := hide hip
      have HCB := hide hcp
      have HPB := hide hpb
      have HXY : Hid (bits .xor .u8 (y.toNat : Int) (b.toNat : Int) = (x1.toNat : Int)) := hide (by rw [ha]; exact b_xor y b)
      have HWR := hide HB.out.size
      clear hb hy ha hip hcp hpb
      go_wp2_with fail
      refine wp_region_ext mixed 10 (fun i v w' => match i with
        | 0 => v = .slice AO k cO
        | 1 => v = .string (txt s)
        | 2 => v = .int .i64 (k : Int)
        | 3 => v = bv y
        | 4 => v = .slice AV n cV
        | 5 => v = .int .i64 (k : Int)
        | 6 => v = .pointer (some ⟨p, o, none⟩)
        | 7 => v = bv b
        | 8 => v = bv x1
        | _ => ∃ A c, v = .slice A 1 c ∧ kU8.Row (fun _ => True) w' A 1 c [x1]
        ) (regOk_of (by kernel_rfl)) rfl ?_ ?_ ?_
      · intro i v w1 w2 h1 h2
        split at h2 <;> first | exact h2 | (obtain ⟨A, c, e, hr⟩ := h2; exact ⟨A, c, e, hr.below h1⟩)
      · refine ⟨fun a w2 hle hd hf hs K hK => ?_, fun a w2 hle hd hf hs K hK => ?_, fun a w2 hle hd hf hs K hK => ?_, fun a w2 hle hd hf hs K hK => ?_, fun a w2 hle hd hf hs K hK => ?_, fun a w2 hle hd hf hs K hK => ?_, fun a w2 hle hd hf hs K hK => ?_, fun a w2 hle hd hf hs K hK => ?_, fun a w2 hle hd hf hs K hK => ?_, fun a w2 hle hd hf hs K hK => ?_, trivial⟩
        all_goals clear hd
        · -- 22 := Op.move t8
          have e8 := hf 8 rfl; simp [Act.eval] at e8
          go_simp; exact hK _ _ (Ext.refl _) rfl
        · -- 23 := Op.move t2
          have e2 := hf 2 rfl; simp [Act.eval] at e2
          go_simp; exact hK _ _ (Ext.refl _) rfl
        · -- 24 := Op.move t9
          have e9 := hf 9 rfl; simp [Act.eval] at e9
          go_simp; exact hK _ _ (Ext.refl _) rfl
        · -- 25 := Op.index 9 t23 t24
          have e23 := hs 1 23 (needs_direct (by kernel_rfl)) rfl; have e24 := hs 2 24 (needs_direct (by kernel_rfl)) rfl; simp [Act.eval] at e23 e24
          have hsx := HSX.out
          go_simp; exact hK _ _ (Ext.refl _) rfl
        · -- 26 := Op.move t7
          have e7 := hf 7 rfl; simp [Act.eval] at e7
          go_simp; exact hK _ _ (Ext.refl _) rfl
        · -- 27 := Op.move t9
          have e9 := hf 9 rfl; simp [Act.eval] at e9
          go_simp; exact hK _ _ (Ext.refl _) rfl
        · -- 28 := Op.indexAddr 22 t26 t27
          have e26 := hs 4 26 (needs_direct (by kernel_rfl)) rfl; have e27 := hs 5 27 (needs_direct (by kernel_rfl)) rfl; simp [Act.eval] at e26 e27
          have hix := HIX.out
          go_simp; exact hK _ _ (Ext.refl _) rfl
        · -- 29 := Op.load 5 t28
          have e28 := hs 6 28 (needs_direct (by kernel_rfl)) rfl; simp [Act.eval] at e28
          have hcx := (World.cell?_of_block (a := ⟨p, o, none⟩) (hle.block _ HPB.out)).trans HCB.out
          go_simp; exact hK _ _ (Ext.refl _) rfl
        · -- 30 := Op.binOp BinOp.xor 5 t25 t29 5
          have e25 := hs 3 25 (needs_direct (by kernel_rfl)) rfl; have e29 := hs 7 29 (needs_direct (by kernel_rfl)) rfl; simp [Act.eval] at e25 e29
          have hxx := HXY.out
          go_simp; exact hK _ _ (Ext.refl _) rfl
        · -- 31 := Op.buildSlice 22 1 #[(0, t30)]
          have e30 := hs 8 30 (needs_direct (by kernel_rfl)) rfl; simp [Act.eval] at e30
          go_simp
          exact hK _ _ (Ext.alloc _ _) (by
            obtain ⟨A1, c1, e1, hr1⟩ := own_row (bytes_lit w2 [x1] #[bv x1] rfl 1 rfl (by decide))
            exact ⟨A1, c1, e1, hr1.more fun _ _ => trivial⟩)
      intro vs w8 hle hs
      have v0 := hs 0 (by omega) rfl
      have v9 := hs 9 (by omega) rfl
      simp only at v0 v9
      clear hs
      obtain ⟨A9, c9, e9, hr9⟩ := v9
      have HV8 := hide (HV.out.below hle)
      have HR9 := hide hr9
      have HB8 := hide (HB.out.trans (hle.mono HWR.out))
      have hw8 : w5.heap.size ≤ w8.heap.size := HB8.out.size
      clear hr9 hle
      simp only [putN, dstAt]
      go_simp
      go_wp2_with (at_builtin; go_loud (refine wpList_app (d := kU8) (ok := fun _ => True) (base := w5.heap.size) (ys := [x1]) rfl _ _ _ rfl Tryd.underlying22 u8_info rfl (by decide) c9 rfl rfl (.inl HV8.out) (src8 HR9.out.src) ?_ ?_ ?_ ?_))
      · exact hw8
      · rw [HLK.out]; simp only [maxLen]; omega
      · rw [HLK.out]; omega
      intro v11 w11 _ h11 b11 _ _
      rw [HST.out] at h11
      have HV11 := hide h11
      have HB11 := hide (HB8.out.trans b11)
      clear h11 b11
      go_wp2_with fail
      go_roundw
      case rel => exact ⟨k + 1, hlt, by simp, HV11, HB11⟩
      case measure => simp [intOf]; omega
    · obtain rfl : k = n := by omega
      obtain ⟨A2, c2, e2, hr2⟩ := own_row HV.out
      rw [HLK.out] at e2 hr2
      injection e2 with e1 _ e3
      subst e1 e3
      rw [List.take_of_length_le (by rw [turnd_len, HN.out]; exact Nat.le_refl _)] at hr2
      have hst := row_string (P := Tryd.prog) Tryd.underlying22 Tryd.underlying5 Tryd.underlying9 hr2
      have HBE := hide (HB0.out.trans (HB.out.mono (by omega)))
      clear hr2
      go_wp2_with fail
      go_ret
      exact ⟨rfl, HBE.out⟩
end Go.Proofs.YtdkeflhgengblaaDoor
namespace Go.Proofs.YtdkeflhgengblaaDoor
open Go.RowKit
attribute [local go_sem ↓] ld8 ld32 ld64 ld73
attribute [local go_sem] run_ldAgg run_storeAgg agg_alloc_at agg_alloc_past agg_drew agg_setCell row_alloc_at row_alloc_past row_drew setRow_alloc_at setRow_alloc_past setRow_drew agg_setRow_at agg_setRow_far cell_setRow_at cell_setRow_far row_setRow_far size_setRow s8C_size s8C_part s8C_one s8C_splice0 s8C_ne dgC_size dgC_72 dgC_part dgC_h dgC_r dgC_splice_h dgC_set dgC_one dgC_splice0 dgC_ne zero_dg
attribute [local go_sem] tgC_size tgC_one tgC_part tgC_splice tgC_splice_any zero_tg tgC_ne

theorem two_sizes {a c : List UInt8} (ha : a.length < 1048576) (hc : c.length < 1048576) : ∀ s ∈ [txt a, txt c], s.size ≤ maxLen := by
  intro s hs
  simp only [List.mem_cons, List.not_mem_nil, or_false] at hs
  rcases hs with rfl | rfl <;> (rw [txt_size]; simp only [maxLen]; omega)
theorem mark_len {a c : List UInt8} (ha : a.length < 1048576) (hc : c.length < 1048576) : (frames (uSeal :: [txt a, txt c])).length < 1073741824 := by
  simp only [frames_cons, frames_nil, List.length_append, frm_len, txt_size, List.length_nil]
  rw [show uSeal.size = 4 from rfl]
  omega
theorem txt_add (a b : List UInt8) : txt a ++ txt b = txt (a ++ b) := by
  apply ByteArray.ext
  rw [ByteArray.data_append]
  simp
set_option maxRecDepth 100000 in
set_option maxHeartbeats 800000 in
theorem c_smark (key : Tg) (a c : List UInt8) (w : World) (ha : a.length < 1048576) (hc : c.length < 1048576) (hP : PrimesAt w) :
    Calls Tryd.prog 79 #[tgV key, .string (txt a), .string (txt c)] w fun e w' => e = .returned (.string (txt (markT key a c).l)) ∧ Below w.heap.size w w' := by
  have HP := hide hP
  have hw0 := hP.1
  have HSZ := hide (two_sizes ha hc)
  have HFL := hide (mark_len ha hc)
  obtain ⟨t, htt⟩ : ∃ t, t = markT key a c := ⟨_, rfl⟩
  have HT : Hid (dkey key uSeal [txt a, txt c] = t) := hide (by rw [htt]; rfl)
  have HTT := hide htt
  obtain ⟨W2, hW2⟩ : ∃ W2, W2 = (w.alloc (.cells (tgC key) 29)).alloc (.cells #[.string (txt a), .string (txt c)] 9) := ⟨_, rfl⟩
  have HB2 : Hid (Below w.heap.size w W2) := hide (by rw [hW2]; exact below2 _ _ _)
  have HS2 : Hid (kStr.Row (fun _ => True) W2 (some ⟨w.heap.size + 1, 0, none⟩) 2 2 [txt a, txt c]) := hide (by
    rw [hW2]
    have := strs_row (w := (w.alloc (.cells (tgC key) 29)).alloc (.cells #[.string (txt a), .string (txt c)] 9)) (g := w.heap.size + 1) [txt a, txt c] (by have := heap_alloc_new (w.alloc (.cells (tgC key) 29)) (.cells #[.string (txt a), .string (txt c)] 9); rwa [World.size_alloc] at this) rfl HSZ.out (by simp [maxLen])
    exact this)
  clear hP ha hc htt
  go_enter Tryd.func79, Tryd.ntmps79
  go_wp2_with fail
  rw [← hW2]
  clear hW2
  refine (c_dkey key uSeal _ 2 2 [txt a, txt c] _ W2 HS2.out (by decide) (HP.out.ext HB2.out) HFL.out).mono ?_
  rintro e w5 ⟨rfl, b5⟩
  rw [HT.out]
  have hst := row_string (P := Tryd.prog) Tryd.underlying22 Tryd.underlying5 Tryd.underlying9 (tag_row t (heap_alloc_new w5 (.cells (tgC t) 29)))
  have HB5 := hide (bnext HB2.out b5)
  have HBE : Hid (Below w.heap.size w (w5.alloc (.cells (tgC t) 29))) := hide (HB5.out.alloc HB5.out.size _)
  clear b5
  go_wp2_with fail
  go_ret
  exact ⟨by rw [HTT.out]; rfl, HBE.out⟩
set_option maxRecDepth 100000 in
set_option maxHeartbeats 800000 in
theorem c_seal (key nonce : Tg) (s : List UInt8) (w : World) (hn : s.length < 1048576) (hP : PrimesAt w) :
    Calls Tryd.prog 36 #[tgV key, tgV nonce, .string (txt s)] w fun e w' => e = .returned (.string (txt (sealB key nonce s))) ∧ Below w.heap.size w w' := by
  have HPR : Hid (PrimesAt ((w.alloc (.cells (tgC key) 29)).alloc (.cells (tgC nonce) 29))) := hide (hP.ext (below2 _ _ _))
  have hw0 := hP.1
  have HSL := hide hn
  obtain ⟨W1, hW1⟩ : ∃ W1, W1 = (w.alloc (.cells (tgC key) 29)).alloc (.cells (tgC nonce) 29) := ⟨_, rfl⟩
  rw [← hW1] at HPR
  have HB1 : Hid (Below w.heap.size w W1) := hide (by rw [hW1]; exact below2 _ _ _)
  have HK1 : Hid (W1.heap[w.heap.size]? = some (.cells (tgC key) 29)) := hide (by
    rw [hW1, Below.heap_alloc _ _ _ (by simp only [World.size_alloc]; omega)]; exact heap_alloc_new _ _)
  have HN1 : Hid (W1.heap[w.heap.size + 1]? = some (.cells (tgC nonce) 29)) := hide (by
    rw [hW1]
    have := heap_alloc_new (w.alloc (.cells (tgC key) 29)) (.cells (tgC nonce) 29)
    rwa [World.size_alloc] at this)
  have HNR := hide (tag_row nonce HN1.out)
  obtain ⟨sc, hsc⟩ : ∃ sc, sc = turnd key nonce s := ⟨_, rfl⟩
  have HSC : Hid (turnd key nonce s = sc) := hide hsc.symm
  have HLC : Hid (sc.length < 1048576) := hide (by rw [hsc, turnd_len]; exact hn)
  have HSB : Hid (sealB key nonce s = nonce.l ++ sc ++ (markT key nonce.l sc).l) := hide (by rw [hsc]; rfl)
  clear hP hsc hn
  go_enter Tryd.func36, Tryd.ntmps36
  go_wp2_with fail
  rw [← hW1]
  clear hW1
  refine wp_region_ext mixed 6 (fun i v w' => match i with
    | 0 => v = .slice (some ⟨w.heap.size + 1, 0, none⟩) 32 32
    | 1 => v = .string (txt nonce.l)
    | 2 => v = tgV key
    | 3 => v = tgV nonce
    | 4 => v = .string (txt s)
    | _ => v = .string (txt sc)
    ) (regOk_of (by kernel_rfl)) rfl ?_ ?_ ?_
  · intro i v w1 w2 h1 h2
    split at h2 <;> exact h2
  · refine ⟨fun a w2 hle hd hf hs K hK => ?_, fun a w2 hle hd hf hs K hK => ?_, fun a w2 hle hd hf hs K hK => ?_, fun a w2 hle hd hf hs K hK => ?_, fun a w2 hle hd hf hs K hK => ?_, fun a w2 hle hd hf hs K hK => ?_, trivial⟩
    all_goals clear hd
    · -- 9 := Op.slice 29 t4 none none none
      have e4 := hf 4 rfl; simp [Act.eval] at e4
      go_simp; exact hK _ _ (Ext.refl _) rfl
    · -- 10 := Op.convert 22 9 t9
      have e9 := hs 0 9 (needs_direct (by kernel_rfl)) rfl; simp [Act.eval] at e9
      have hq := row_string (P := Tryd.prog) Tryd.underlying22 Tryd.underlying5 Tryd.underlying9 (HNR.out.below hle)
      go_simp; exact hK _ _ (Ext.refl _) rfl
    · -- 11 := Op.load 29 t3
      have e3 := hf 3 rfl; simp [Act.eval] at e3
      have hq : agg? w2 ⟨w.heap.size, 0, none⟩ 32 = some (tgC key) := (agg_of_row (hle.heap HK1.out) 0 32 (by decide)).trans (tgC_part key)
      go_simp; exact hK _ _ (Ext.refl _) rfl
    · -- 12 := Op.load 29 t4
      have e4 := hf 4 rfl; simp [Act.eval] at e4
      have hq : agg? w2 ⟨w.heap.size + 1, 0, none⟩ 32 = some (tgC nonce) := (agg_of_row (hle.heap HN1.out) 0 32 (by decide)).trans (tgC_part nonce)
      go_simp; exact hK _ _ (Ext.refl _) rfl
    · -- 13 := Op.move t2
      have e2 := hf 2 rfl; simp [Act.eval] at e2
      go_simp; exact hK _ _ (Ext.refl _) rfl
    · -- 14 := Op.call { value (Operand.func 80), args := #[t11, t12, t13], argTypes := #[29, 29, 9] }
      have e11 := hs 2 11 (needs_direct (by kernel_rfl)) rfl; have e12 := hs 3 12 (needs_direct (by kernel_rfl)) rfl; have e13 := hs 4 13 (needs_direct (by kernel_rfl)) rfl; simp [Act.eval] at e11 e12 e13
      go_simp
      refine (c_sturned key nonce s w2 HSL.out (HPR.out.ext hle)).mono ?_
      rintro z w9 ⟨rfl, b9⟩
      rw [HSC.out]
      exact hK _ _ b9 rfl
  intro vs w8 hle hs
  have v1 := hs 1 (by omega) rfl
  have v5 := hs 5 (by omega) rfl
  simp only at v1 v5
  clear hs
  have hag := (agg_of_row (hle.heap HK1.out) 0 32 (by decide)).trans (tgC_part key)
  have HP8 := hide (HPR.out.ext hle)
  have HB8 := hide (HB1.out.trans (hle.mono HB1.out.size))
  clear hle
  have hz1 : (txt nonce.l).size = 32 := by rw [txt_size, nonce.len]
  have hz2 : (txt sc).size < 1048576 := by rw [txt_size]; exact HLC.out
  have hz3 : (txt (markT key nonce.l sc).l).size = 32 := by rw [txt_size, (markT key nonce.l sc).len]
  simp only [putN, dstAt]
  go_simp
  go_wp2_with fail
  refine (c_smark key nonce.l sc w8 (by rw [nonce.len]; decide) HLC.out HP8.out).mono ?_
  rintro e w9 ⟨rfl, b9⟩
  have HB9 := hide (HB8.out.trans (b9.mono HB8.out.size))
  clear b9
  have hz4 : (txt nonce.l ++ txt sc).size < 2097152 := by rw [txt_add, txt_size, List.length_append, nonce.len]; have := HLC.out; omega
  go_wp2_with fail
  go_ret
  refine ⟨?_, HB9.out⟩
  rw [HSB.out, ← txt_add, ← txt_add]
  rfl
end Go.Proofs.YtdkeflhgengblaaDoor
namespace Go.Proofs.YtdkeflhgengblaaDoor
open Go.RowKit
attribute [local go_sem ↓] ld8 ld32 ld64 ld73
attribute [local go_sem] run_ldAgg run_storeAgg agg_alloc_at agg_alloc_past agg_drew agg_setCell row_alloc_at row_alloc_past row_drew setRow_alloc_at setRow_alloc_past setRow_drew agg_setRow_at agg_setRow_far cell_setRow_at cell_setRow_far row_setRow_far size_setRow s8C_size s8C_part s8C_one s8C_splice0 s8C_ne dgC_size dgC_72 dgC_part dgC_h dgC_r dgC_splice_h dgC_set dgC_one dgC_splice0 dgC_ne zero_dg
attribute [local go_sem] tgC_size tgC_one tgC_part tgC_splice tgC_splice_any zero_tg tgC_ne

theorem or_zero8 (u z : UInt8) : u ||| z = 0 ↔ u = 0 ∧ z = 0 := by
  rw [← UInt8.toNat_inj, ← UInt8.toNat_inj, ← UInt8.toNat_inj, UInt8.toNat_or]
  exact Nat.or_eq_zero_iff
theorem xor_zero8 (x y : UInt8) : x ^^^ y = 0 ↔ x = y := UInt8.xor_eq_zero_iff
theorem b_or (u z : UInt8) : bits .or .u8 (u.toNat : Int) (z.toNat : Int) = ((u ||| z).toNat : Int) := u8_or_nat _ _ u.toNat_lt z.toNat_lt
theorem take_eq_next {xs ys : List UInt8} {k : Nat} {x y : UInt8} (hx : xs[k]? = some x) (hy : ys[k]? = some y) : xs.take (k + 1) = ys.take (k + 1) ↔ xs.take k = ys.take k ∧ x = y := by
  rw [List.take_add_one, List.take_add_one, hx, hy]
  have hk1 : k < xs.length := (List.getElem?_eq_some_iff.1 hx).1
  have hk2 : k < ys.length := (List.getElem?_eq_some_iff.1 hy).1
  constructor
  · intro h
    obtain ⟨h1, h2⟩ := List.append_inj h (by rw [List.length_take, List.length_take]; omega)
    exact ⟨h1, by simpa using h2⟩
  · rintro ⟨h1, rfl⟩
    rw [h1]
set_option maxRecDepth 100000 in
set_option maxHeartbeats 800000 in
theorem c_tagequal (A B : Option Addr) (n c m d : Nat) (xs ys : List UInt8) (ok ok' : Nat → Prop) (w : World) (hR : kU8.Row ok w A n c xs) (hS : kU8.Row ok' w B m d ys) :
    Calls Tryd.prog 78 #[.slice A n c, .slice B m d] w fun e w' => e = .returned (.bool (decide (xs = ys))) ∧ Below w.heap.size w w' := by
  have hlx := hR.1
  have hly := hS.1
  have HLX := hide hlx
  have HLY := hide hly
  have HR := hide hR
  have HS := hide hS
  have hbx : n ≤ maxLen := Nat.le_trans hR.2.1 hR.2.2.1
  simp only [maxLen] at hbx
  clear hR hS hlx hly
  by_cases hl : n = m
  · subst hl
    go_enter Tryd.func78, Tryd.ntmps78
    go_wp2_with fail
    go_loopw [5, 15] (fun v i wr => ∃ (k : Nat) (u : UInt8), k ≤ n ∧ i = .int .i64 (k : Int) ∧ v = bv u ∧ Hid (u = 0 ↔ xs.take k = ys.take k) ∧ Hid (Below w.heap.size w wr)) (fun _ i _ => n - (intOf i).toNat)
    case atStart => exact ⟨0, 0, Nat.zero_le _, rfl, rfl, hide (by simp), hide (Below.refl _ _)⟩
    case round =>
      obtain ⟨k, u, hk, rfl, rfl, HE, HB⟩ := hrel
      by_cases hlt : k < n
      · obtain ⟨x, hx⟩ : ∃ x, xs[k]? = some x := ⟨_, List.getElem?_eq_getElem (by have := HLX.out; omega)⟩
        obtain ⟨y, hy⟩ : ∃ y, ys[k]? = some y := ⟨_, List.getElem?_eq_getElem (by have := HLY.out; omega)⟩
        obtain ⟨b1, q1, cs1, hix1, -, hbl1, hK1, hra1⟩ := (HR.out.below HB.out).index (P := Tryd.prog) Tryd.underlying22 (E := 5) u8_info1 hx
        obtain ⟨b2, q2, cs2, hix2, -, hbl2, hK2, hra2⟩ := (HS.out.below HB.out).index (P := Tryd.prog) Tryd.underlying22 (E := 5) u8_info1 hy
        obtain ⟨rfl, -⟩ := hK1
        obtain ⟨rfl, -⟩ := hK2
        have a0 := hra1 0 _ rfl
        have a1 := hra2 0 _ rfl
        simp only [Nat.add_zero] at a0 a1
        obtain ⟨z, hz⟩ : ∃ z, z = x ^^^ y := ⟨_, rfl⟩
        obtain ⟨o, ho⟩ : ∃ o, o = u ||| z := ⟨_, rfl⟩
        have h1 : bits .xor .u8 (x.toNat : Int) (y.toNat : Int) = (z.toNat : Int) := by rw [hz]; exact b_xor x y
        have h2 : bits .or .u8 (u.toNat : Int) (z.toNat : Int) = (o.toNat : Int) := by rw [ho]; exact b_or u z
        have HE2 : Hid (o = 0 ↔ xs.take (k + 1) = ys.take (k + 1)) := hide (by rw [ho, hz, or_zero8, xor_zero8, take_eq_next hx hy, HE.out])
        clear hx hy hra1 hra2 hz ho
        go_wp2_with fail
        go_roundw
        case rel => exact ⟨k + 1, _, hlt, by simp, rfl, HE2, HB⟩
        case measure => simp [intOf]; omega
      · obtain rfl : k = n := by omega
        have HF : Hid (decide (xs = ys) = decide (u = 0)) := hide (by
          have := HE.out
          rw [List.take_of_length_le (Nat.le_of_eq HLX.out), List.take_of_length_le (Nat.le_of_eq HLY.out)] at this
          simp only [this])
        go_wp2_with fail
        go_ret
        refine ⟨?_, HB.out⟩
        rw [HF.out]
        refine congrArg Ending.returned (congrArg Value.bool ?_)
        have e : u = 0 ↔ u.toNat = 0 := by rw [← UInt8.toNat_inj]; rfl
        rw [Bool.eq_iff_iff]
        simp [e]
  · have HF : Hid (decide (xs = ys) = false) := hide (decide_eq_false fun e => by
      subst e
      exact hl (HLX.out.symm.trans HLY.out))
    go_enter Tryd.func78, Tryd.ntmps78
    go_wp2_with fail
    go_ret
    exact ⟨by rw [HF.out]; rfl, Below.refl _ _⟩
end Go.Proofs.YtdkeflhgengblaaDoor
namespace Go.Proofs.YtdkeflhgengblaaDoor
open Go.RowKit
attribute [local go_sem ↓] ld8 ld32 ld64 ld73
attribute [local go_sem] run_ldAgg run_storeAgg agg_alloc_at agg_alloc_past agg_drew agg_setCell row_alloc_at row_alloc_past row_drew setRow_alloc_at setRow_alloc_past setRow_drew agg_setRow_at agg_setRow_far cell_setRow_at cell_setRow_far row_setRow_far size_setRow s8C_size s8C_part s8C_one s8C_splice0 s8C_ne dgC_size dgC_72 dgC_part dgC_h dgC_r dgC_splice_h dgC_set dgC_one dgC_splice0 dgC_ne zero_dg
attribute [local go_sem] tgC_size tgC_one tgC_part tgC_splice tgC_splice_any zero_tg tgC_ne

/-- What is opened, as a value. -/
def openV (o : Option (List UInt8)) : Value := .tuple #[.string (txt (o.getD [])), .bool o.isSome]
theorem openB_parts {key : Tg} {s nb cb tb : List UInt8} {E : Nat} (hm : s.length = E + 32) (hE : 32 ≤ E) (h1 : (s.drop 0).take (32 - 0) = nb) (h2 : (s.drop 32).take (E - 32) = cb) (h3 : (s.drop E).take (E + 32 - E) = tb) :
    nb.length = 32 ∧ cb.length = E - 32 ∧ tb.length = 32 ∧ openB key s = if (markT key nb cb).l = tb then some (turnd key (tagL nb) cb) else none := by
  have e1 : s.take 32 = nb := h1
  have e3 : s.drop (s.length - 32) = tb := by
    rw [← h3, List.take_of_length_le (by rw [List.length_drop]; omega), hm, Nat.add_sub_cancel]
  refine ⟨by rw [← e1, List.length_take]; omega, by rw [← h2, List.length_take, List.length_drop]; omega, by rw [← e3, List.length_drop]; omega, ?_⟩
  rw [openB, if_neg (by omega), e1, e3, hm, show E + 32 - 64 = E - 32 by omega, h2]
set_option maxRecDepth 100000 in
set_option maxHeartbeats 1600000 in
theorem c_open (key : Tg) (s : List UInt8) (w : World) (hn : s.length < 1048576) (hP : PrimesAt w) :
    Calls Tryd.prog 34 #[tgV key, .string (txt s)] w fun e w' => e = .returned (openV (openB key s)) ∧ Below w.heap.size w w' := by
  have hw0 := hP.1
  obtain ⟨m, hmm⟩ : ∃ m, m = s.length := ⟨_, rfl⟩
  have hsz : (txt s).size = m := by rw [txt_size, hmm]
  obtain ⟨W1, hW1⟩ : ∃ W1, W1 = w.alloc (.cells (tgC key) 29) := ⟨_, rfl⟩
  have HB1 : Hid (Below w.heap.size w W1) := hide (by rw [hW1]; exact below1 _ _)
  have HK1 : Hid (W1.heap[w.heap.size]? = some (.cells (tgC key) 29)) := hide (by rw [hW1]; exact heap_alloc_new _ _)
  have HP1 : Hid (PrimesAt W1) := hide (hP.ext HB1.out)
  rw [← hmm] at hn
  by_cases h64 : m < 64
  · have HOB : Hid (openB key s = none) := hide (by rw [openB, if_pos (by omega)])
    clear hP hmm
    go_enter Tryd.func34, Tryd.ntmps34
    go_wp2_with fail
    rw [← hW1]
    exact bodyPost_ret (v := openV none) (by simp [results, Tryd.results34, go_sem, openV]) rfl ⟨by rw [HOB.out], HB1.out⟩
  · obtain ⟨E, hE⟩ : ∃ E, m = E + 32 := ⟨m - 32, by omega⟩
    subst hE
    obtain ⟨nb, hnb⟩ : ∃ nb, (s.drop 0).take (32 - 0) = nb := ⟨_, rfl⟩
    obtain ⟨cb, hcb⟩ : ∃ cb, (s.drop 32).take (E - 32) = cb := ⟨_, rfl⟩
    obtain ⟨tb, htb⟩ : ∃ tb, (s.drop E).take (E + 32 - E) = tb := ⟨_, rfl⟩
    obtain ⟨l1, l2, l3, hob⟩ := openB_parts (key := key) hmm.symm (by omega) hnb hcb htb
    obtain ⟨mk, hmk⟩ : ∃ mk, (markT key nb cb).l = mk := ⟨_, rfl⟩
    obtain ⟨tn, htn⟩ : ∃ tn, tagL nb = tn := ⟨_, rfl⟩
    obtain ⟨pl, hpl⟩ : ∃ pl, turnd key tn cb = pl := ⟨_, rfl⟩
    obtain ⟨bq, hbq⟩ : ∃ bq, decide (mk = tb) = bq := ⟨_, rfl⟩
    have hzm : (txt mk).size = 32 := by rw [txt_size, ← hmk, (markT key nb cb).len]
    have hzt : (txt tb).size = 32 := by rw [txt_size, l3]
    have hzn : (txt nb).size = 32 := by rw [txt_size, l1]
    rw [hmk, htn, hpl] at hob
    have hE1 : (32 : Int) ≤ (E : Int) + 32 := by omega
    have hE2 : (32 : Int) ≤ (E : Int) := by omega
    have hE3 : (E : Int) ≤ (E : Int) + 32 := by omega
    have HOB : Hid (openB key s = if bq = true then some pl else none) := hide (by rw [hob, ← hbq]; simp only [decide_eq_true_eq])
    have HNB := hide hnb
    have HCB := hide hcb
    have HTB := hide htb
    have HMK := hide hmk
    have HPL := hide hpl
    have HBQ := hide hbq
    have HL32 := hide l1
    have HTN : Hid ((nb.map bv).toArray = tgC tn) := hide (by rw [← htn, tgC, tagL_l l1])
    have HLN : Hid (nb.length < 1048576) := hide (by omega)
    have HLC : Hid (cb.length < 1048576) := hide (by omega)
    clear hP hmm hnb hcb htb hmk htn hpl hbq l1 l2 l3 hob
    go_enter Tryd.func34, Tryd.ntmps34
    go_wp2_with fail
    rw [← hW1]
    clear hW1
    refine wp_region_ext mixed 7 (fun i v w' => match i with
      | 0 => v = .string (txt s)
      | 1 => v = .string (txt nb)
      | 2 => v = .string (txt s)
      | 3 => v = .int .i64 (E : Int)
      | 4 => v = .string (txt cb)
      | 5 => v = .string (txt nb)
      | _ => v = .string (txt cb)
      ) (regOk_of (by kernel_rfl)) rfl ?_ ?_ ?_
    · intro i v w1 w2 h1 h2
      split at h2 <;> exact h2
    · refine ⟨fun a w2 hle hd hf hs K hK => ?_, fun a w2 hle hd hf hs K hK => ?_, fun a w2 hle hd hf hs K hK => ?_, fun a w2 hle hd hf hs K hK => ?_, fun a w2 hle hd hf hs K hK => ?_, fun a w2 hle hd hf hs K hK => ?_, fun a w2 hle hd hf hs K hK => ?_, trivial⟩
      all_goals clear hd
      · -- 15 := Op.move t1
        have e1 := hf 1 rfl; simp [Act.eval] at e1
        go_simp; exact hK _ _ (Ext.refl _) rfl
      · -- 16 := Op.slice 9 t15 none (some (const (32:i64))) none
        have e15 := hs 0 15 (needs_direct (by kernel_rfl)) rfl; simp [Act.eval] at e15
        go_simp
        exact hK _ _ (Ext.refl _) (ext_is HNB.out rfl rfl)
      · -- 17 := Op.move t1
        have e1 := hf 1 rfl; simp [Act.eval] at e1
        go_simp; exact hK _ _ (Ext.refl _) rfl
      · -- 18 := Op.move t6
        have e6 := hf 6 rfl; simp [Act.eval] at e6
        go_simp; exact hK _ _ (Ext.refl _) rfl
      · -- 19 := Op.slice 9 t17 (some (const (32:i64))) (some t18) none
        have e17 := hs 2 17 (needs_direct (by kernel_rfl)) rfl; have e18 := hs 3 18 (needs_direct (by kernel_rfl)) rfl; simp [Act.eval] at e17 e18
        go_simp
        exact hK _ _ (Ext.refl _) (ext_is HCB.out rfl rfl)
      · -- 7 := Op.assign t16
        have e16 := hs 1 16 (needs_direct (by kernel_rfl)) rfl; simp [Act.eval] at e16
        go_simp; exact hK _ _ (Ext.refl _) rfl
      · -- 8 := Op.assign t19
        have e19 := hs 4 19 (needs_direct (by kernel_rfl)) rfl; simp [Act.eval] at e19
        go_simp; exact hK _ _ (Ext.refl _) rfl
    intro vs w8 hle hs
    have v5 := hs 5 (by omega) rfl
    have v6 := hs 6 (by omega) rfl
    simp only at v5 v6
    clear hs
    have HB2 := hide (HB1.out.trans (hle.mono HB1.out.size))
    have HK2 := hide (hle.heap HK1.out)
    have HP2 := hide (HP1.out.ext hle)
    obtain ⟨W2, hW2⟩ : ∃ W2, W2 = w8 := ⟨_, rfl⟩
    rw [← hW2] at HB2 HK2 HP2 ⊢
    clear hW2 hle HB1 HK1 HP1
    simp only [putN, dstAt]
    go_simp
    go_wp2_with fail
    refine wp_region_ext mixed 11 (fun i v w' => match i with
      | 0 => v = tgV key
      | 1 => v = .string (txt nb)
      | 2 => v = .string (txt cb)
      | 3 => v = .string (txt mk)
      | 4 => ∃ A c, v = .slice A 32 c ∧ kU8.Row (fun _ => True) w' A 32 c mk
      | 5 => v = .string (txt s)
      | 6 => v = .int .i64 (E : Int)
      | 7 => v = .string (txt tb)
      | 8 => ∃ A c, v = .slice A 32 c ∧ kU8.Row (fun _ => True) w' A 32 c tb
      | 9 => v = .bool bq
      | _ => v = .bool (!bq)
      ) (regOk_of (by kernel_rfl)) rfl ?_ ?_ ?_
    · intro i v w1 w2 h1 h2
      split at h2 <;> first | exact h2 | (obtain ⟨A, c, e, hr⟩ := h2; exact ⟨A, c, e, hr.below h1⟩)
    · refine ⟨fun a w2 hle hd hf hs K hK => ?_, fun a w2 hle hd hf hs K hK => ?_, fun a w2 hle hd hf hs K hK => ?_, fun a w2 hle hd hf hs K hK => ?_, fun a w2 hle hd hf hs K hK => ?_, fun a w2 hle hd hf hs K hK => ?_, fun a w2 hle hd hf hs K hK => ?_, fun a w2 hle hd hf hs K hK => ?_, fun a w2 hle hd hf hs K hK => ?_, fun a w2 hle hd hf hs K hK => ?_, fun a w2 hle hd hf hs K hK => ?_, trivial⟩
      all_goals clear hd
      · -- 20 := Op.load 29 t2
        have e2 := hf 2 rfl; simp [Act.eval] at e2
        have hq : agg? w2 ⟨w.heap.size, 0, none⟩ 32 = some (tgC key) := (agg_of_row (hle.heap HK2.out) 0 32 (by decide)).trans (tgC_part key)
        go_simp; exact hK _ _ (Ext.refl _) rfl
      · -- 21 := Op.move t7
        have e7 := hf 7 rfl; simp [Act.eval] at e7
        go_simp; exact hK _ _ (Ext.refl _) rfl
      · -- 22 := Op.move t8
        have e8 := hf 8 rfl; simp [Act.eval] at e8
        go_simp; exact hK _ _ (Ext.refl _) rfl
      · -- 23 := Op.call { value (Operand.func 79), args := #[t20, t21, t22], argTypes := #[29, 9, 9] }
        have e20 := hs 0 20 (needs_direct (by kernel_rfl)) rfl; have e21 := hs 1 21 (needs_direct (by kernel_rfl)) rfl; have e22 := hs 2 22 (needs_direct (by kernel_rfl)) rfl; simp [Act.eval] at e20 e21 e22
        go_simp
        refine (c_smark key nb cb w2 HLN.out HLC.out (HP2.out.ext hle)).mono ?_
        rintro z w9 ⟨rfl, b9⟩
        rw [HMK.out]
        exact hK _ _ b9 rfl
      · -- 24 := Op.convert 9 22 t23
        have e23 := hs 3 23 (needs_direct (by kernel_rfl)) rfl; simp [Act.eval] at e23
        have f23 := hs 3 23 (needs_direct (by kernel_rfl)) rfl
        refine wp_tobytes 9 22 _ rfl (txt mk) f23 Tryd.underlying9 Tryd.underlying22 Tryd.underlying5 (by rw [hzm]; decide) ?_
        intro c w' h1 h2
        rw [byt_txt, hzm] at h1
        rw [hzm]
        exact hK _ _ h2 ⟨_, c, rfl, h1.more fun _ _ => trivial⟩
      · -- 25 := Op.move t1
        have e1 := hf 1 rfl; simp [Act.eval] at e1
        go_simp; exact hK _ _ (Ext.refl _) rfl
      · -- 26 := Op.move t6
        have e6 := hf 6 rfl; simp [Act.eval] at e6
        go_simp; exact hK _ _ (Ext.refl _) rfl
      · -- 27 := Op.slice 9 t25 (some t26) none none
        have e25 := hs 5 25 (needs_direct (by kernel_rfl)) rfl; have e26 := hs 6 26 (needs_direct (by kernel_rfl)) rfl; simp [Act.eval] at e25 e26
        go_simp
        exact hK _ _ (Ext.refl _) (ext_is HTB.out rfl rfl)
      · -- 28 := Op.convert 9 22 t27
        have e27 := hs 7 27 (needs_direct (by kernel_rfl)) rfl; simp [Act.eval] at e27
        have f27 := hs 7 27 (needs_direct (by kernel_rfl)) rfl
        refine wp_tobytes 9 22 _ rfl (txt tb) f27 Tryd.underlying9 Tryd.underlying22 Tryd.underlying5 (by rw [hzt]; decide) ?_
        intro c w' h1 h2
        rw [byt_txt, hzt] at h1
        rw [hzt]
        exact hK _ _ h2 ⟨_, c, rfl, h1.more fun _ _ => trivial⟩
      · -- 29 := Op.call { value (Operand.func 78), args := #[t24, t28], argTypes := #[22, 22] }
        obtain ⟨A24, c24, e24, hr24⟩ := hs 4 24 (needs_direct (by kernel_rfl)) rfl; obtain ⟨A28, c28, e28, hr28⟩ := hs 8 28 (needs_direct (by kernel_rfl)) rfl; simp [Act.eval] at e24 e28
        go_simp
        refine (c_tagequal _ _ 32 c24 32 c28 mk tb _ _ w2 hr24 hr28).mono ?_
        rintro z w9 ⟨rfl, b9⟩
        rw [HBQ.out]
        exact hK _ _ b9 rfl
      · -- 30 := Op.unOp UnOp.not 4 t29
        have e29 := hs 9 29 (needs_direct (by kernel_rfl)) rfl; simp [Act.eval] at e29
        go_simp; exact hK _ _ (Ext.refl _) rfl
    intro vs w8 hle hs
    have v10 := hs 10 (by omega) rfl
    simp only at v10
    clear hs
    have HB3 := hide (HB2.out.trans (hle.mono HB2.out.size))
    have HK3 := hide (hle.heap HK2.out)
    have HP3 := hide (HP2.out.ext hle)
    obtain ⟨W3, hW3⟩ : ∃ W3, W3 = w8 := ⟨_, rfl⟩
    rw [← hW3] at HB3 HK3 HP3 ⊢
    clear hW3 hle HB2 HK2 HP2
    simp only [putN, dstAt]
    go_simp
    cases bq with
    | false =>
      go_wp2_with fail
      exact bodyPost_ret (v := openV none) (by simp [results, Tryd.results34, go_sem, openV]) rfl ⟨by rw [HOB.out]; rfl, HB3.out⟩
    | true =>
      go_wp2_with fail
      refine wp_region_ext mixed 9 (fun i v w' => match i with
        | 0 => v = tgV key
        | 1 => v = .string (txt nb)
        | 2 => ∃ A c, v = .slice A 32 c ∧ kU8.Row (fun _ => True) w' A 32 c nb
        | 3 => ∃ A c, v = .pointer A ∧ kU8.Row (fun _ => True) w' A 32 c nb
        | 4 => v = tgV tn
        | 5 => v = .string (txt cb)
        | 6 => v = .string (txt pl)
        | 7 => v = .string (txt pl)
        | _ => v = .bool true
        ) (regOk_of (by kernel_rfl)) rfl ?_ ?_ ?_
      · intro i v w1 w2 h1 h2
        split at h2 <;> first | exact h2 | (obtain ⟨A, c, e, hr⟩ := h2; exact ⟨A, c, e, hr.below h1⟩)
      · refine ⟨fun a w2 hle hd hf hs K hK => ?_, fun a w2 hle hd hf hs K hK => ?_, fun a w2 hle hd hf hs K hK => ?_, fun a w2 hle hd hf hs K hK => ?_, fun a w2 hle hd hf hs K hK => ?_, fun a w2 hle hd hf hs K hK => ?_, fun a w2 hle hd hf hs K hK => ?_, fun a w2 hle hd hf hs K hK => ?_, fun a w2 hle hd hf hs K hK => ?_, trivial⟩
        all_goals clear hd
        · -- 31 := Op.load 29 t2
          have e2 := hf 2 rfl; simp [Act.eval] at e2
          have hq : agg? w2 ⟨w.heap.size, 0, none⟩ 32 = some (tgC key) := (agg_of_row (hle.heap HK3.out) 0 32 (by decide)).trans (tgC_part key)
          go_simp; exact hK _ _ (Ext.refl _) rfl
        · -- 32 := Op.move t7
          have e7 := hf 7 rfl; simp [Act.eval] at e7
          go_simp; exact hK _ _ (Ext.refl _) rfl
        · -- 33 := Op.convert 9 22 t32
          have e32 := hs 1 32 (needs_direct (by kernel_rfl)) rfl; simp [Act.eval] at e32
          have f32 := hs 1 32 (needs_direct (by kernel_rfl)) rfl
          refine wp_tobytes 9 22 _ rfl (txt nb) f32 Tryd.underlying9 Tryd.underlying22 Tryd.underlying5 (by rw [hzn]; decide) ?_
          intro c w' h1 h2
          rw [byt_txt, hzn] at h1
          rw [hzn]
          exact hK _ _ h2 ⟨_, c, rfl, h1.more fun _ _ => trivial⟩
        · -- 34 := Op.sliceToArrayPointer 29 t33
          obtain ⟨A33, c33, e33, hr33⟩ := hs 2 33 (needs_direct (by kernel_rfl)) rfl; simp [Act.eval] at e33
          obtain ⟨p, o, rfl, -, hb, hc⟩ := row_bytes hr33 (by decide)
          have hap : ∀ wx : World, (Instr.arrayAt 29 (.slice (some ⟨p, o, none⟩) 32 c33)).run Tryd.prog wx = .ok (.pointer (some ⟨p, o, none⟩)) wx := fun wx => by simp [Instr.arrayAt, run_underlying Tryd.underlying29]
          go_simp
          exact hK _ _ (Ext.refl _) ⟨_, c33, rfl, hr33⟩
        · -- 35 := Op.load 29 t34
          obtain ⟨A34, c34, e34, hr34⟩ := hs 3 34 (needs_direct (by kernel_rfl)) rfl; simp [Act.eval] at e34
          obtain ⟨p, o, rfl, -, hb, hc⟩ := row_bytes hr34 (by decide)
          have hag : agg? w2 ⟨p, o, none⟩ 32 = some (tgC tn) := by
            have := agg_range (w := w2) (b := p) (o := o) (cs := nb.map bv) (fun j v hv => by
              rw [List.getElem?_map] at hv
              obtain ⟨x, hx, rfl⟩ := Option.map_eq_some_iff.1 hv
              exact hc j x hx) 32 (by rw [List.length_map]; exact HL32.out)
            rw [this, HTN.out]
          go_simp
          exact hK _ _ (Ext.refl _) rfl
        · -- 36 := Op.move t8
          have e8 := hf 8 rfl; simp [Act.eval] at e8
          go_simp; exact hK _ _ (Ext.refl _) rfl
        · -- 37 := Op.call { value (Operand.func 80), args := #[t31, t35, t36], argTypes := #[29, 29, 9] }
          have e31 := hs 0 31 (needs_direct (by kernel_rfl)) rfl; have e35 := hs 4 35 (needs_direct (by kernel_rfl)) rfl; have e36 := hs 5 36 (needs_direct (by kernel_rfl)) rfl; simp [Act.eval] at e31 e35 e36
          go_simp
          refine (c_sturned key tn cb w2 HLC.out (HP3.out.ext hle)).mono ?_
          rintro z w9 ⟨rfl, b9⟩
          rw [HPL.out]
          exact hK _ _ b9 rfl
        · -- 4 := Op.assign t37
          have e37 := hs 6 37 (needs_direct (by kernel_rfl)) rfl; simp [Act.eval] at e37
          go_simp; exact hK _ _ (Ext.refl _) rfl
        · -- 5 := Op.assign (const (Value.bool true))
          go_simp; exact hK _ _ (Ext.refl _) rfl
      intro vs w8 hle hs
      have v7 := hs 7 (by omega) rfl
      have v8 := hs 8 (by omega) rfl
      simp only at v7 v8
      clear hs
      have HB4 := hide (HB3.out.trans (hle.mono HB3.out.size))
      clear hle
      simp only [putN, dstAt]
      go_simp
      go_wp2_with fail
      exact bodyPost_ret (v := openV (some pl)) (by simp [results, Tryd.results34, go_sem, openV]) rfl ⟨by rw [HOB.out]; rfl, HB4.out⟩
end Go.Proofs.YtdkeflhgengblaaDoor
