/- The walk of digest.Write. No condition. -/
import Derived.Test.YtdkeflhgengblaaDoorDig2
namespace Go.Proofs.YtdkeflhgengblaaDoor
open Go.RowKit
attribute [local go_sem ↓] ld8 ld64 ld73
attribute [local go_sem] run_ldAgg run_storeAgg agg_alloc_at agg_alloc_past agg_drew agg_setCell row_alloc_at row_alloc_past row_drew setRow_alloc_at setRow_alloc_past setRow_drew agg_setRow_at agg_setRow_far cell_setRow_at cell_setRow_far row_setRow_far size_setRow s8C_size s8C_part s8C_one s8C_splice0 s8C_ne dgC_size dgC_72 dgC_part dgC_h dgC_r dgC_splice_h dgC_set dgC_one dgC_splice0 dgC_ne zero_dg
theorem PrimesAt.grown {w w' : World} {g : Nat} (h : PrimesAt w) (hb : w.grownBy w' (some g)) (hg : g ≠ 0) : PrimesAt w' :=
  ⟨Nat.lt_of_lt_of_le h.1 hb.size, fun i p hi => (World.cell?_of_block (a := ⟨0, i, none⟩) (hb.block 0 h.1 (fun e => hg (Option.some.inj e).symm))).trans (h.2 i p hi)⟩
theorem grown_setCell {w w' : World} {g : Nat} (h : w.grownBy w' (some g)) (i : Nat) (v : Value) : w.grownBy (w'.setCell ⟨g, i, none⟩ v) (some g) :=
  ⟨h.os, h.tape, h.output, by simp only [size_setCell]; exact h.size, fun k hk hne => (Below.heap_setCell _ _ _ _ (show ¬ k = g from fun e => hne (e ▸ rfl))).trans (h.block k hk hne)⟩
theorem grown_setRow {w w' : World} {g : Nat} (h : w.grownBy w' (some g)) (C : Array Value) : w.grownBy (w'.setRow g C) (some g) :=
  ⟨h.os, h.tape, h.output, by simp only [size_setRow]; exact h.size, fun k hk hne => (heap_setRow_far _ _ _ (show ¬ k = g from fun e => hne (e ▸ rfl))).trans (h.block k hk hne)⟩
theorem grown_ext {w w' w'' : World} {g : Option Nat} (h : w.grownBy w' g) (b : Below w'.heap.size w' w'') : w.grownBy w'' g :=
  ⟨b.os.trans h.os, b.tape.trans h.tape, b.output.trans h.output, Nat.le_trans h.size b.size, fun k hk hne => (b.block k (Nat.lt_of_lt_of_le hk h.size)).trans (h.block k hk hne)⟩
theorem row_grown {α : Type} {d : Kd α} {ok : Nat → Prop} {w w' : World} {A : Option Addr} {n c : Nat} {xs : List α} {g : Nat} (h : d.Row ok w A n c xs) (hb : w.grownBy w' (some g)) (hok : ∀ k, ok k → k ≠ g) : d.Row ok w' A n c xs :=
  h.keep fun k hk hlt => hb.block k hlt (fun e => hok k hk (Option.some.inj e))
theorem at_copy8g {P : Program} {ops : Array Oper} {rest : List Oper} {a : Act} {w : World} {Q : Exit → Act → World → Prop} {dst : Option Tmp} {ty : TypeId} {pos : String} {after : Array Edge} {d s : Operand} {dT sT : TypeId} (elem : TypeId) (hu : P.underlying dT = some (.slice elem)) (hsz : (P.info? elem).map (·.size) = some 1)
    (g off dLen dCap : Nat) {A : Option Addr} {n c : Nat} {xs : List UInt8} {ok : Nat → Prop} (hR : kU8.Row ok w A n c xs) (hd : a.eval d = .slice (some ⟨g, off, none⟩) dLen dCap) (hs : a.eval s = .slice A n c)
    (C : Array Value) (t : TypeId) (hg : w.heap[g]? = some (.cells C t (0, 0))) (k : Nat) (hk : min n dLen = k) (hfit : off + k ≤ C.size) (C' : Array Value) (hC : splice C off (blC (xs.take k)) = C')
    (h : ∀ w', Hid (w'.heap[g]? = some (.cells C' t (0, 0))) → w.grownBy w' (some g) → wpList P ops Q rest (a.put dst (.int .i64 (k : Int))) w') : wpList P ops Q (⟨dst, .call { callee := .builtin .copy, args := #[d, s], argTypes := #[dT, sT] }, ty, pos, after, none⟩ :: rest) a w :=
  at_copy8 elem hu hsz g off dLen dCap hR hd hs C t hg k hk hfit C' hC (h _ (hide (setRow_heap w g C C' t _ hg)) (grown_setRow (grownBy_refl _ _) _))
/-- A step: of what is written so much fits. -/
theorem dig_step {xs todo tail : List UInt8} {h : S8} {r : B64} (hs : Split xs h tail) (ht : r.l.take tail.length = tail) (m : Nat) (hm : m = min todo.length (64 - tail.length)) :
    ∃ r2 : B64, r2.l = r.l.take tail.length ++ todo.take m ++ r.l.drop (tail.length + (todo.take m).length) ∧ tail.length + (todo.take m).length ≤ 64 ∧
      ((tail.length + m ≠ 64 → Split (xs ++ todo.take m) h (tail ++ todo.take m) ∧ r2.l.take (tail ++ todo.take m).length = tail ++ todo.take m) ∧ (tail.length + m = 64 → Split (xs ++ todo.take m) (compress h r2.l) [])) := by
  have hl := r.len
  have h64 : tail.length < 64 := let ⟨_, _, _, _, _, h⟩ := hs; h
  have htm : (todo.take m).length = m := by rw [List.length_take]; omega
  refine ⟨⟨r.l.take tail.length ++ todo.take m ++ r.l.drop (tail.length + (todo.take m).length), ?_⟩, rfl, by omega, fun h1 => ⟨hs.more (by omega), ?_⟩, fun h1 => ?_⟩
  · simp only [List.length_append, List.length_take, List.length_drop]; omega
  · show List.take _ (r.l.take tail.length ++ todo.take m ++ _) = _
    rw [ht, List.take_left]
  · have e : r.l.take tail.length ++ todo.take m ++ r.l.drop (tail.length + (todo.take m).length) = tail ++ todo.take m := by
      rw [ht, List.drop_eq_nil_of_le (by omega), List.append_nil]
    show Split _ (compress h (r.l.take tail.length ++ todo.take m ++ r.l.drop (tail.length + (todo.take m).length))) []
    rw [e]
    exact hs.full (by omega)
theorem arr_from2 {P : Program} {t E : TypeId} {N : Nat} (ht : P.underlying t = some (.array N E)) (hE : (P.info? E).map (·.size) = some 1) (b o k : Nat) (hk : k < N) (kd : IntKind) (i : Int) (hi : i = k) :
    ∀ W : World, (Instr.sliceAt t (.pointer (some ⟨b, o, none⟩)) (some (.int kd i)) none none).run P W = .ok (.slice (some ⟨b, o + k, none⟩) (N - k) (N - k)) W := arr_from ht hE b o k hk kd i hi
set_option maxRecDepth 100000 in
set_option maxHeartbeats 1600000 in
theorem c_dwrite (g : Nat) (xs ys : List UInt8) (A : Option Addr) (n c : Nat) (ok : Nat → Prop) (w : World) (hD : DigAt w g xs) (hR : kU8.Row ok w A n c ys) (hok : ∀ k, ok k → k ≠ g) (hP : PrimesAt w) (hg0 : g ≠ 0) (hn : xs.length + n < 2305843009213693952) :
    Calls Tryd.prog 69 #[.pointer (some ⟨g, 0, none⟩), .slice A n c] w fun e w' => e = .returned (.tuple #[]) ∧ DigAt w' g (xs ++ ys) ∧ w.grownBy w' (some g) := by
  have HD := hide hD
  have HR := hide hR
  have HP := hide hP
  have HN := hide hn
  have HOK := hide hok
  clear hD hR hP hn hok
  go_enter Tryd.func69, Tryd.ntmps69
  go_wp2_with fail
  go_loopw [1] (fun v wr => ∃ (dn todo : List UInt8) (A1 : Option Addr) (n1 c1 : Nat), v = .slice A1 n1 c1 ∧ Hid (ys = dn ++ todo) ∧ Hid (kU8.Row ok wr A1 n1 c1 todo) ∧ Hid (DigAt wr g (xs ++ dn)) ∧ Hid (w.grownBy wr (some g))) (fun v _ => (match v with | .slice _ n _ => n | _ => 0))
  case atStart => exact ⟨[], ys, A, n, c, rfl, hide rfl, HR, hide (by rw [List.append_nil]; exact HD.out), hide (grownBy_refl _ _)⟩
  case round =>
    obtain ⟨dn, todo, A1, n1, c1, rfl, HYS, HR1, HD1, HG1⟩ := hrel
    by_cases hpos : 0 < n1
    · obtain ⟨h, tail, r, hg, hsp, htl⟩ := HD1.out
      obtain ⟨q, hq⟩ : ∃ q, q = (xs ++ dn).length := ⟨_, rfl⟩
      have hq61 : q < 2305843009213693952 := by
        have h1 := HN.out; have h2 := HR.out.1; have h3 := congrArg List.length HYS.out
        rw [hq, List.length_append]
        rw [List.length_append] at h3
        omega
      rw [← hq] at hg
      obtain ⟨t, ht⟩ : ∃ t, t = tail.length := ⟨_, rfl⟩
      have htq : t = q % 64 := by rw [ht, hsp.len, hq]
      have ht64 : t < 64 := by omega
      have hn1 : todo.length = n1 := HR1.out.1
      obtain ⟨m, hm⟩ : ∃ m, m = min todo.length (64 - tail.length) := ⟨_, rfl⟩
      obtain ⟨r2, hr2, hfit, hA, hB⟩ := dig_step (todo := todo) hsp htl m hm
      have hmm : min n1 (64 - t) = m := by omega
      have hc72 := (cell_of_row wr g 72 _ _ _ hg).trans (dgC_72 _ _ _)
      have hfz := frozen_of_row wr g 72 _ _ hg
      have hgs := (Array.getElem?_eq_some_iff.1 hg).1
      have hmod : (q : Int).tmod 64 = (t : Int) := by rw [Int.tmod_eq_emod_of_nonneg (by omega)]; omega
      have hsl := arr_from (P := Tryd.prog) Tryd.underlying153 u8_info1 g 8 t ht64 .i64 (t : Int) rfl
      have HGG := hide hg
      have HQ := hide hq61
      have HSP := hide hsp
      have HTL := hide htl
      have HFIT := hide hfit
      have HR2 := hide hr2
      have HA := hide hA
      have HB := hide hB
      have HT := hide ht
      have HM := hide hm
      have HQX := hide hq
      have HN1 := hide hn1
      have HMM := hide hmm
      clear hmm hn1 hq hg hq61 hsp htl hfit hr2 hA hB hm htq ht
      have HSPL : Hid (splice (dgC h r (.int .u64 (q : Int))) (8 + t) (blC (todo.take m)) = dgC h r2 (.int .u64 (q : Int))) := hide (by
        have := HT.out
        rw [this]
        exact dgC_splice_r h r r2 _ _ _ HR2.out HFIT.out)
      have HF : Hid (8 + t + m ≤ (dgC h r (.int .u64 (q : Int))).size) := hide (by rw [dgC_size]; have := HFIT.out; have := HM.out; have := HT.out; have := HN1.out; omega)
      obtain ⟨B, hs1, hB⟩ := HR1.out.from (P := Tryd.prog) Tryd.underlying22 (E := 5) (by kernel_rfl) (k := m) (by have := HM.out; have := HN1.out; omega) .i64 (m : Int) rfl
      have HB2 := hide hB
      have hm64 : m ≤ 64 := by have := HM.out; omega
      have hw1 : IntKind.u64.wrap (m : Int) = (m : Int) := by rw [IntKind.wrap_u64]; omega
      have hw2 : IntKind.u64.wrap ((q : Int) + (m : Int)) = ((q + m : Nat) : Int) := by rw [IntKind.wrap_u64]; have := HQ.out; omega
      have HM1 : Hid (1 ≤ m ∧ m ≤ n1) := hide (by have := HM.out; have := HN1.out; have := HT.out; omega)
      have HLEN : Hid ((xs ++ (dn ++ todo.take m)).length = q + m) := hide (by
        have := HM1.out; have := HN1.out; have := HQX.out
        rw [← List.append_assoc, List.length_append, ← this, List.length_take]; omega)
      have HYS2 : Hid (ys = (dn ++ todo.take m) ++ todo.drop m) := hide (by rw [List.append_assoc, List.take_append_drop]; exact HYS.out)
      clear hB
      by_cases h64 : t + m = 64
      · have hd : ((t : Int) + (m : Int) == 64) = true := by
          have : (t : Int) + (m : Int) = 64 := by omega
          rw [this]; rfl
        go_wp2_with ((with_reducible show wpList _ _ _ (Oper.mk (some 21) _ _ _ _ _ :: _) _ _); go_loud (refine at_copy8g (P := Tryd.prog) 5 Tryd.underlying22 (by kernel_rfl) g (8 + t) (64 - t) (64 - t) HR1.out rfl rfl _ _ HGG.out m HMM.out HF.out _ HSPL.out ?_; intro w2 HG2 hgr2; have hd72 := (cell_of_row w2 g 72 _ _ _ HG2.out).trans (dgC_72 _ _ _); have hfz2 := frozen_of_row w2 g 72 _ _ HG2.out))
        obtain ⟨w6, hw6⟩ : ∃ w6, w6 = w2.setCell ⟨g, 72, none⟩ (.int .u64 ((q : Int) + (m : Int))) := ⟨_, rfl⟩
        rw [← hw6]
        have hg6 : w6.heap[g]? = some (.cells (dgC h r2 (.int .u64 ((q + m : Nat) : Int))) 158) := by
          rw [hw6, heap_setCell_at _ HG2.out, dgC_set, Int.natCast_add]
        have hgr6 : wr.grownBy w6 (some g) := by rw [hw6]; exact grown_setCell hgr2 _ _
        have HG6 := hide hg6
        have hgs6 := (Array.getElem?_eq_some_iff.1 hg6).1
        have HGR6 := hide (grownBy_trans HG1.out hgr6)
        have HB6 := hide (row_grown HB2.out hgr6 HOK.out)
        have HPR6 := hide (HP.out.grown HGR6.out hg0)
        clear hw6 hg6 hgr6 hd72 hfz2
        refine wp_region_ext mixed 12 (fun i v w' => match i with
          | 0 => v = .pointer (some ⟨g, 0, none⟩)
          | 1 => v = .pointer (some ⟨g, 0, none⟩)
          | 2 => v = .pointer (some ⟨g, 0, none⟩)
          | 3 => v = .pointer (some ⟨g, 0, none⟩)
          | 4 => v = .agg (s8C h)
          | 5 => v = .pointer (some ⟨g, 0, none⟩)
          | 6 => v = .pointer (some ⟨g, 0, none⟩)
          | 7 => v = .pointer (some ⟨g, 8, none⟩)
          | 8 => v = .agg (blC r2.l)
          | 9 => v = .agg (s8C (compress h r2.l))
          | 10 => v = .pointer (some ⟨g, 0, none⟩)
          | _ => v = .pointer (some ⟨g, 0, none⟩)
          ) (regOk_of (by kernel_rfl)) rfl ?_ ?_ ?_
        · intro i v w1 w2 h1 h2
          split at h2 <;> exact h2
        · refine ⟨fun a w7 hle hd hf hs K hK => ?_, fun a w7 hle hd hf hs K hK => ?_, fun a w7 hle hd hf hs K hK => ?_, fun a w7 hle hd hf hs K hK => ?_, fun a w7 hle hd hf hs K hK => ?_, fun a w7 hle hd hf hs K hK => ?_, fun a w7 hle hd hf hs K hK => ?_, fun a w7 hle hd hf hs K hK => ?_, fun a w7 hle hd hf hs K hK => ?_, fun a w7 hle hd hf hs K hK => ?_, fun a w7 hle hd hf hs K hK => ?_, fun a w7 hle hd hf hs K hK => ?_, trivial⟩
          all_goals clear hd
          · -- 38 := Op.move t0
            have e0 := hf 0 rfl; simp [Act.eval] at e0
            go_simp; exact hK _ _ (Ext.refl _) rfl
          · -- 39 := Op.move t0
            have e0 := hf 0 rfl; simp [Act.eval] at e0
            go_simp; exact hK _ _ (Ext.refl _) rfl
          · -- 40 := Op.nilCheck t39
            have e39 := hs 1 39 (needs_direct (by kernel_rfl)) rfl; simp [Act.eval] at e39
            go_simp; exact hK _ _ (Ext.refl _) rfl
          · -- 41 := Op.fieldAddr 158 t40 0
            have e40 := hs 2 40 (needs_direct (by kernel_rfl)) rfl; simp [Act.eval] at e40
            go_simp; exact hK _ _ (Ext.refl _) rfl
          · -- 42 := Op.load 156 t41
            have e41 := hs 3 41 (needs_direct (by kernel_rfl)) rfl; simp [Act.eval] at e41
            have hq : agg? w7 ⟨g, 0, none⟩ 8 = some (s8C h) := (agg_block (hle.block _ hgs6)).trans ((agg_of_row HG6.out 0 8 (by decide)).trans (dgC_h _ _ _))
            go_simp; exact hK _ _ (Ext.refl _) rfl
          · -- 43 := Op.move t0
            have e0 := hf 0 rfl; simp [Act.eval] at e0
            go_simp; exact hK _ _ (Ext.refl _) rfl
          · -- 44 := Op.nilCheck t43
            have e43 := hs 5 43 (needs_direct (by kernel_rfl)) rfl; simp [Act.eval] at e43
            go_simp; exact hK _ _ (Ext.refl _) rfl
          · -- 45 := Op.fieldAddr 158 t44 1
            have e44 := hs 6 44 (needs_direct (by kernel_rfl)) rfl; simp [Act.eval] at e44
            go_simp; exact hK _ _ (Ext.refl _) rfl
          · -- 46 := Op.load 153 t45
            have e45 := hs 7 45 (needs_direct (by kernel_rfl)) rfl; simp [Act.eval] at e45
            have hq : agg? w7 ⟨g, 8, none⟩ 64 = some (blC r2.l) := (agg_block (hle.block _ hgs6)).trans ((agg_of_row HG6.out 8 64 (by decide)).trans (dgC_r _ _ _))
            go_simp; exact hK _ _ (Ext.refl _) rfl
          · -- 47 := Op.call { value (Operand.func 101), args := #[t42, t46], argTypes := #[156, 153] }
            have e42 := hs 4 42 (needs_direct (by kernel_rfl)) rfl; have e46 := hs 8 46 (needs_direct (by kernel_rfl)) rfl; simp [Act.eval] at e42 e46
            go_simp
            refine (c_compress h r2.l w7 r2.len (HPR6.out.ext hle)).mono ?_
            rintro e w9 ⟨rfl, b3⟩
            exact hK _ _ b3 rfl
          · -- 48 := Op.nilCheck t38
            have e38 := hs 0 38 (needs_direct (by kernel_rfl)) rfl; simp [Act.eval] at e38
            go_simp; exact hK _ _ (Ext.refl _) rfl
          · -- 49 := Op.fieldAddr 158 t48 0
            have e48 := hs 10 48 (needs_direct (by kernel_rfl)) rfl; simp [Act.eval] at e48
            go_simp; exact hK _ _ (Ext.refl _) rfl
        intro vs w8 hle hs
        have v9 := hs 9 (by omega) rfl
        have v11 := hs 11 (by omega) rfl
        simp only at v9 v11
        clear hs
        have hg8 := (hle.block _ hgs6).trans HG6.out
        have HR8 := hide (HB6.out.below hle)
        have HGR8 := hide (grown_ext HGR6.out hle)
        have hr8 := row_of hg8
        have hfz8 := frozen_of_row w8 g 0 _ _ hg8
        have HG8 := hide hg8
        clear hg8 hle
        simp only [putN, dstAt]
        go_simp
        go_wp2_with fail
        go_roundw
        case rel =>
          refine ⟨dn ++ todo.take m, todo.drop m, B, n1 - m, c1 - m, rfl, HYS2, ?_, ?_, hide (grown_setRow HGR8.out _)⟩
          · exact hide (row_grown HR8.out (grown_setRow (grownBy_refl _ _) _) HOK.out)
          · refine hide ⟨compress h r2.l, [], r2, ?_, ?_, rfl⟩
            · rw [HLEN.out, setRow_heap w8 g _ _ _ _ HG8.out, Int.natCast_add]
            · rw [← List.append_assoc]
              exact HB.out (by have := HT.out; omega)
        case measure => have := HM1.out; simp; omega
      · have hd : ((t : Int) + (m : Int) == 64) = false := by
          have : ¬ (t : Int) + (m : Int) = 64 := by omega
          simpa using this
        go_wp2_with ((with_reducible show wpList _ _ _ (Oper.mk (some 21) _ _ _ _ _ :: _) _ _); go_loud (refine at_copy8g (P := Tryd.prog) 5 Tryd.underlying22 (by kernel_rfl) g (8 + t) (64 - t) (64 - t) HR1.out rfl rfl _ _ HGG.out m HMM.out HF.out _ HSPL.out ?_; intro w2 HG2 hgr2; have hd72 := (cell_of_row w2 g 72 _ _ _ HG2.out).trans (dgC_72 _ _ _); have hfz2 := frozen_of_row w2 g 72 _ _ HG2.out))
        go_roundw
        case rel =>
          have hgr6 : wr.grownBy (w2.setCell ⟨g, 72, none⟩ (.int .u64 ((q : Int) + (m : Int)))) (some g) := grown_setCell hgr2 _ _
          refine ⟨dn ++ todo.take m, todo.drop m, B, n1 - m, c1 - m, rfl, HYS2, hide (row_grown HB2.out hgr6 HOK.out), ?_, hide (grownBy_trans HG1.out hgr6)⟩
          obtain ⟨h1, h2⟩ := HA.out (by have := HT.out; omega)
          refine hide ⟨h, tail ++ todo.take m, r2, ?_, ?_, h2⟩
          · rw [HLEN.out, heap_setCell_at _ HG2.out, dgC_set, Int.natCast_add]
          · rw [← List.append_assoc]
            exact h1
        case measure => have := HM1.out; simp; omega
    · have hn0 : n1 = 0 := by omega
      have HT0 : Hid (todo = []) := hide (List.eq_nil_of_length_eq_zero (by rw [HR1.out.1]; exact hn0))
      have HFIN : Hid (DigAt wr g (xs ++ ys)) := hide (by rw [HYS.out, HT0.out, List.append_nil]; exact HD1.out)
      go_wp2_with fail
      exact bodyPost_end (v := .tuple #[]) (by simp [results, Tryd.results69, go_sem]) rfl ⟨rfl, HFIN.out, HG1.out⟩
end Go.Proofs.YtdkeflhgengblaaDoor
