/- The walks of layer 11: a bundle of tokens, a bundle cloned, Large told. No condition. -/
import Derived.Test.YtlfhbnajopekpaaRb3
import Derived.Test.YtlfhbnajopekpaaPk11
import Derived.Test.YtlfhbnajopekpaaReg2
namespace Go.Proofs.Ytlfhbnajopekpaa
open Go.RowKit
attribute [local go_sem ↓] ld16 ld17 ld32 ld36 ld37
attribute [local go_sem] run_ldAgg run_storeAgg agg_alloc_at agg_alloc_past agg_drew agg_setCell row_alloc_at row_alloc_past row_drew setRow_alloc_at setRow_alloc_past setRow_drew agg_setRow_at agg_setRow_far cell_setRow_at cell_setRow_far row_setRow_far size_setRow tgC_size tgC_one tgC_part tgC_splice tokC_size tokC_0 tokC_1 tokC_2 tokC_3 tokC_g0 tokC_g1 tokC_g2 tokC_g3 tokC_part tokC_tag tokC_set0 tokC_set1 tokC_set2 tokC_set3 tokC_splice tokC_splice0 tgC_splice_any zero_tg zero_tok tokC_all tokC_ne tgC_ne
attribute [local go_sem] bunC_size bunC_0 bunC_1 bunC_2 bunC_3 bunC_36 bunC_g3 bunC_g36 bunC_part bunC_root bunC_set36 bunC_splice bunC_splice0 zero_bun bunC_all bunC_ne

/-- A bundle's nothing, cell by cell. -/
def bunZL : Array Value := #[.int .u64 0, .string ByteArray.empty, .slice none 0 0, .bool false, .int .u8 0, .int .u8 0, .int .u8 0, .int .u8 0, .int .u8 0, .int .u8 0, .int .u8 0, .int .u8 0, .int .u8 0, .int .u8 0, .int .u8 0, .int .u8 0, .int .u8 0, .int .u8 0, .int .u8 0, .int .u8 0, .int .u8 0, .int .u8 0, .int .u8 0, .int .u8 0, .int .u8 0, .int .u8 0, .int .u8 0, .int .u8 0, .int .u8 0, .int .u8 0, .int .u8 0, .int .u8 0, .int .u8 0, .int .u8 0, .int .u8 0, .int .u8 0, .slice none 0 0]
theorem bun_info : (Try.prog.info? 70).map (fun i => (i.zero, i.size)) = some (some (.agg bunZL), 37) := by kernel_rfl
theorem bunZL_eq : bunZL = bunZ := by
  unfold bunZL
  rw [zero_bun]
  rfl
theorem fill_root {v cells : Array Value} (hv : v.size = 36) (hc : cells.size = 37) : Instr.fill (#[(0, 36), (36, 1)][·]?) cells [(0, .agg v)] = some (splice cells 0 v) := by
  obtain ⟨h1, h2⟩ := Great.foldl_set 0 v.toList 0 cells
  unfold Instr.fill
  simp only [List.getElem?_toArray, List.getElem?_cons_zero, Value.cells]
  rw [if_neg (by simp [hv, hc])]
  unfold Instr.fill
  congr 1
  apply Array.ext_getElem?
  intro k
  have h3 := h2 k
  rw [← Array.foldl_toList]
  simp only [Array.toList_zipIdx]
  rw [h3]
  simp only [splice, Array.length_toList, hv, Nat.add_zero, Nat.zero_add, List.take_zero, List.nil_append, Nat.sub_zero]
  have e : (v.toList ++ List.drop 36 cells.toList).toArray[k]? = (v.toList ++ List.drop 36 cells.toList)[k]? := by simp only [List.getElem?_toArray]
  rw [e, List.getElem?_append]
  rcases Nat.lt_or_ge k 36 with h | h
  · rw [if_pos (by omega), if_pos (by rw [Array.length_toList, hv]; omega)]
  · rw [if_neg (by omega), if_neg (by rw [Array.length_toList, hv]; omega), List.getElem?_drop, Array.length_toList, hv, show 36 + (k - 36) = k by omega]
    simp
/-- A bundle's literal of one token, where the walk stands at it. -/
theorem at_buildBun {ops : Array Oper} {rest : List Oper} {dst : Option Tmp} {ty : TypeId} {pos : String} {after : Array Edge} {a0 : Act} {w : World} {Q : Exit → Act → World → Prop} (x : Operand) (a b c d : Value) (t : Tg) (hx : a0.eval x = .agg (tokC a b c d t))
    (k : wpList Try.prog ops Q rest (a0.put dst (.agg (bunC a b c d t (.slice none 0 0)))) w) :
    wpList Try.prog ops Q (⟨dst, .build 70 #[(0, x)], ty, pos, after, none⟩ :: rest) a0 w := by
  refine wpList_buildTo rfl 70 #[(0, x)] rfl dst rfl _ ?_ k
  obtain ⟨i0, hi, hzz⟩ := Option.map_eq_some_iff.1 bun_info
  simp only [Prod.mk.injEq] at hzz
  obtain ⟨hz0, hz1⟩ := hzz
  have e : (Array.map (fun x => (x.fst, a0.eval x.snd)) #[(0, x)]).toList = [(0, .agg (tokC a b c d t))] := by simp [hx]
  have hp : (#[(⟨"Root", 59, 0, false, "", "", 0⟩ : Field), ⟨"Discharges", 68, 36, false, "", "", 88⟩]).toList.mapM (fun f => (Try.prog.info? f.type).map fun i => (f.offset, i.size)) = some [(0, 36), (36, 1)] := by kernel_rfl
  refine (congrArg _ e).trans ?_
  unfold Program.built
  rw [hi, Try.underlying70]
  simp only [hz0]
  rw [hp]
  simp only [Value.cells]
  rw [fill_root (tokC_size _ _ _ _ _) (by rw [bunZL_eq, bunC_size])]
  rw [bunZL_eq, bunC_splice]

theorem ev_of {a : Act} {t : Tmp} {v : Value} (h : a.tmps[t]?.getD undef = v) : a.eval (.tmp t) = v := by
  simp only [Act.eval]
  simpa using h
theorem wp_buildTok {o : Oper} {a0 : Act} {w : World} {K : Act → World → Prop} {Q : Exit → Act → World → Prop} (x : Operand) (ho : o.op = .buildSlice 68 1 #[(0, x)]) (a b c d : Value) (t : Tg) (hx : a0.eval x = .agg (tokC a b c d t))
    (k : K (a0.put o.dst (.slice (some ⟨w.heap.size, 0, none⟩) 1 1)) (w.alloc (.cells (tokC a b c d t) 59))) : o.wp Try.prog a0 w K Q := by
  obtain ⟨i0, hi, hzz⟩ := Option.map_eq_some_iff.1 tok_info
  simp only [Prod.mk.injEq] at hzz
  obtain ⟨hz0, hz1, -⟩ := hzz
  refine wp_buildSlice 68 59 1 #[(0, x)] ho (tokC a b c d t) i0 _ Try.underlying68 hi hz0 (by rw [hz1]; decide) (by rw [hz1]; decide) ?_ k
  rw [hz1]
  have e : (Array.map (fun x => (x.fst, a0.eval x.snd)) #[(0, x)]).toList = [(0, .agg (tokC a b c d t))] := by simp [hx]
  exact (congrArg _ e).trans (fill_tok (tokC_size _ _ _ _ _) (by simp))

def large (x : Bun) : Bool := great x.root || decide (40 < x.dis.length) || x.dis.any great
def Tok.fits (t : Tok) : Prop := t.id.size ≤ 140737488355328 ∧ ∀ c ∈ t.cavs, c.fits
set_option maxRecDepth 100000 in
set_option maxHeartbeats 400000 in
theorem c_large2 (x : Bun) (A B : Option Addr) (n c m d : Nat) (ok ok' : Nat → Prop) (w : World) (hR : kCav.Row ok w A n c x.root.cavs) (hS : kTok.Row ok' w B m d x.dis) (hf : x.root.fits) (hg : ∀ y ∈ x.dis, y.fits) :
    Calls Try.prog 48 #[bunV x A n c B m d] w fun e w' => e = .returned (greatV (large x)) ∧ Below w.heap.size w w' := by
  have HL := hide hS.1
  have hm : m ≤ 9223372036854775807 := Nat.le_trans hS.2.1 hS.2.2.1
  have HR := hide hR
  have HS := hide hS
  have HF := hide hf
  have HG := hide hg
  clear hR hS hf hg
  go_enter Try.func48, Try.ntmps48
  go_wp2_with fail
  refine (c_great2 x.root A n c _ _ (HR.out.below (below1 _ _)) HF.out.1 HF.out.2).mono ?_
  rintro e w1 ⟨rfl, b1⟩
  have HB1 := hide (bnext (below1 _ _) b1)
  have hX : BunIn w1 w.heap.size x A n c B m d := (b1.block _ (by simp)).trans (heap_alloc_new _ _)
  have hx := hX.dis
  clear b1 hX
  cases hgr : great x.root with
  | true =>
    have HLG : Hid (large x = true) := hide (by simp [large, hgr])
    clear hgr
    simp only [greatV, if_true]
    go_wp2_with fail
    go_ret
    exact ⟨by rw [HLG.out]; rfl, HB1.out⟩
  | false =>
    by_cases h40 : 40 < m
    · have HLG : Hid (large x = true) := hide (by have := HL.out; simp [large]; exact .inl (.inr (by omega)))
      clear hgr
      simp only [greatV, Bool.false_eq_true, if_false]
      go_wp2_with fail
      go_ret
      exact ⟨by rw [HLG.out]; rfl, HB1.out⟩
    · have HLG : Hid (large x = x.dis.any great) := hide (by
        have := HL.out
        have h : decide (40 < x.dis.length) = false := decide_eq_false (by omega)
        simp only [large, hgr, h, Bool.false_or])
      clear hgr
      simp only [greatV, Bool.false_eq_true, if_false]
      go_wp2_with fail
      go_loopw [18] (fun i wr => ∃ k : Nat, k ≤ m ∧ i = .int .i64 (k : Int) ∧ Hid ((x.dis.take k).any great = false) ∧ Hid (Below w.heap.size w wr)) (fun i _ => m - (intOf i).toNat)
      case atStart => exact ⟨0, Nat.zero_le _, rfl, hide rfl, HB1⟩
      case round =>
        obtain ⟨k, hk, rfl, HA, HB⟩ := hrel
        by_cases hlt : k < m
        · obtain ⟨y, hx⟩ : ∃ y, x.dis[k]? = some y := ⟨_, List.getElem?_eq_getElem (by have := HL.out; omega)⟩
          obtain ⟨b, q, A1, n1, c1, hix, hbl, hag, hr1, hk1⟩ := tok_at (HS.out.below HB.out) hx
          have HR1 := hide hr1
          have HX := hide hx
          have HFY := hide (HG.out y (List.mem_of_getElem? hx))
          have hsb := HB.out.size
          clear hx hr1
          go_wp2_with fail
          refine (c_great2 y A1 n1 c1 _ _ (HR1.out.below (below1 _ _)) HFY.out.1 HFY.out.2).mono ?_
          rintro e w2 ⟨rfl, b2⟩
          have HB2 := hide (HB.out.trans ((bnext (below1 _ _) b2).mono hsb))
          clear b2
          cases hgy : great y with
          | true =>
            have HA1 : Hid (x.dis.any great = true) := hide (List.any_eq_true.2 ⟨y, List.mem_of_getElem? HX.out, hgy⟩)
            clear hgy
            simp only [greatV, if_true]
            go_wp2_with fail
            go_ret
            exact ⟨by rw [HLG.out, HA1.out]; rfl, HB2.out⟩
          | false =>
            have HA1 : Hid ((x.dis.take (k + 1)).any great = false) := hide (by rw [List.take_add_one, HX.out, List.any_append, HA.out]; simp [hgy])
            clear hgy
            simp only [greatV, Bool.false_eq_true, if_false]
            go_wp2_with fail
            go_roundw
            case rel => exact ⟨k + 1, by omega, by simp, HA1, HB2⟩
            case measure => simp [intOf]; omega
        · obtain rfl : k = m := by omega
          have HA1 : Hid (x.dis.any great = false) := hide (by
            have := HA.out
            rwa [List.take_of_length_le (Nat.le_of_eq HL.out)] at this)
          go_wp2_with fail
          go_ret
          exact ⟨by rw [HLG.out, HA1.out]; rfl, HB.out⟩

set_option maxRecDepth 100000 in
set_option maxHeartbeats 1000000 in
theorem c_bof (t : Tok) (ds : List Tok) (A B : Option Addr) (n c m d : Nat) (ok ok' : Nat → Prop) (w : World) (hR : kCav.Row ok w A n c t.cavs) (hS : kTok.Row ok' w B m d ds) (hn : n ≤ 1099511627776) (hm : m ≤ 1000) (hds : ∀ y ∈ ds, y.cavs.length ≤ 1099511627776) :
    Calls Try.prog 57 #[tokV t A n c, .slice B m d] w fun e w' => ∃ A' c' B' d', e = .returned (bunV ⟨t, ds⟩ A' n c' B' m d') ∧ kCav.Row (fun k => w.heap.size ≤ k) w' A' n c' t.cavs ∧ kTok.Row (fun k => w.heap.size ≤ k) w' B' m d' ds ∧ Below w.heap.size w w' := by
  have HR := hide hR
  have HS := hide hS
  have HL := hide hS.1
  have HDS := hide hds
  clear hR hS hds
  go_enter Try.func57, Try.ntmps57
  go_wp2_with fail
  refine (c_pclone t A n c ok _ (HR.out.below (below2 _ _ _)) hn).mono ?_
  rintro e w1 ⟨A0, c0, rfl, hr0, b1⟩
  have HB1 := hide (bnext (below2 _ _ _) b1)
  have hz1 : w1.heap[w.heap.size + 1]? = some (.cells bunZ 70) := (b1.block _ (by simp)).trans (heap_new2 _ _ _)
  have hw1 : w.heap.size + 1 < w1.heap.size := (Array.getElem?_eq_some_iff.1 hz1).1
  have HZ1 := hide hz1
  have HR0 := hide (hr0.bound.more (ok' := fun k => w.heap.size + 1 < k ∧ k < w1.heap.size) fun k hk => ⟨by have := hk.1; simp only [World.size_alloc] at this; omega, hk.2⟩)
  clear b1 hr0 hz1
  go_wp2_with (refine at_buildBun _ _ _ _ _ _ rfl ?_)
  go_wp2_with fail
  go_loopw [13] (fun i wr => ∃ (k : Nat) (V : Value) (dk : List Tok), k ≤ m ∧ i = .int .i64 (k : Int) ∧ Hid (dk = ds.take k) ∧ Hid (wr.heap[w1.heap.size]? = some (.cells (bunC (.int .u64 (t.key : Int)) (.string t.id) (.slice A0 n c0) (.bool t.bnd) t.tag V) 70)) ∧
    Hid (kTok.Own (fun k => w1.heap.size < k) (w1.heap.size + 1) wr 59 V dk) ∧ Hid (Below w1.heap.size w1 wr)) (fun i _ => m - (intOf i).toNat)
  case atStart => exact ⟨0, .slice none 0 0, [], Nat.zero_le _, rfl, hide rfl, hide (heap_alloc_new _ _), hide (.nil _ _ _ _ _), hide (below1 _ _)⟩
  case round =>
    obtain ⟨k, V, dk, hk, rfl, HDK, HQ, HOD, HB⟩ := hrel
    have hgs : w1.heap.size < wr.heap.size := (Array.getElem?_eq_some_iff.1 HQ.out).1
    have HBW : Hid (Below w.heap.size w wr) := hide (HB1.out.trans (HB.out.mono (by omega)))
    by_cases hlt : k < m
    · obtain ⟨y, hx⟩ : ∃ y, ds[k]? = some y := ⟨_, List.getElem?_eq_getElem (by have := HL.out; omega)⟩
      obtain ⟨b, q, A1, n1, c1, hix, hbl, hag, hr1, hk1⟩ := tok_at (HS.out.bound.below HBW.out) hx
      have hn1 : n1 ≤ 1099511627776 := by have := HDS.out y (List.mem_of_getElem? hx); have := hr1.1; omega
      have HTK : Hid (dk ++ [y] = ds.take (k + 1)) := hide (by rw [HDK.out, List.take_add_one, hx]; rfl)
      have HYK := hide hk1
      have HLK : Hid (dk.length = k) := hide (by rw [HDK.out, List.length_take]; have := HL.out; omega)
      have HR1 := hide hr1
      obtain ⟨B', d', rfl⟩ := HOD.out.form
      have hdis : (wr.alloc (.cells (tokA y A1 n1 c1) 59)).cell? ⟨w1.heap.size, 36, none⟩ = some (.slice B' dk.length d') := (cell_of_row _ _ _ _ _ _ (((below1 wr _).block _ hgs).trans HQ.out)).trans (bunC_36 _ _ _ _ _ _)
      have hagn : agg? (wr.alloc (.cells (tokA y A1 n1 c1) 59)) ⟨wr.heap.size, 0, none⟩ 36 = some (tokA y A1 n1 c1) := by
        rw [agg_of_row (heap_alloc_new wr _) 0 36 (by decide)]
        exact tokC_part _ _ _ _ _
      clear hx hr1
      go_wp2_with fail
      refine wp_region_own mixed 7 ((Value.slice B' dk.length d').ownBlock) 5 (fun w' => wr.heap.size < w'.heap.size ∧ kTok.Own (fun q => w1.heap.size < q) (w1.heap.size + 1) w' 59 (.slice B' dk.length d') dk) (fun i v w' => match i with
        | 0 => v = .pointer (some ⟨w1.heap.size, 36, none⟩)
        | 1 => v = .slice B' dk.length d'
        | 2 => v = tokV y A1 n1 c1
        | 3 => ∃ A c, v = tokV y A n1 c ∧ kCav.Row (fun q => w1.heap.size < q ∧ some q ≠ (Value.slice B' dk.length d').ownBlock) w' A n1 c y.cavs
        | 4 => ∃ q A c, v = .slice (some ⟨q, 0, none⟩) 1 1 ∧ (w1.heap.size < q ∧ some q ≠ (Value.slice B' dk.length d').ownBlock) ∧ w'.heap[q]? = some (.cells (tokA y A n1 c) 59) ∧ kCav.Row (fun q => w1.heap.size < q ∧ some q ≠ (Value.slice B' dk.length d').ownBlock) w' A n1 c y.cavs
        | 5 => ∃ Bv dv, v = .slice Bv (dk ++ [y]).length dv ∧ kTok.Own (fun q => w1.heap.size < q) (w1.heap.size + 1) w' 59 (.slice Bv (dk ++ [y]).length dv) (dk ++ [y])
        | _ => v = .pointer (some ⟨w1.heap.size, 36, none⟩)
        ) (by kernel_rfl) rfl ?_ ?_ ?_ ?_ ?_ ?_
      · exact ⟨by simp, HOD.out.below (below1 _ _)⟩
      · intro w1 w2 h1 h2
        exact ⟨Nat.lt_of_lt_of_le h2.1 h1.size, h2.2.below h1⟩
      · intro i v w1 w2 hne h1 h2
        split at h2 <;> first | exact h2 | exact absurd rfl hne | (obtain ⟨A, c, e, hr⟩ := h2; exact ⟨A, c, e, hr.keep fun q hq hlt => h1.block q hlt hq.2⟩) | (obtain ⟨q, A, c, e, hq, hb, hr⟩ := h2; exact ⟨q, A, c, e, hq, (h1.block q (Array.getElem?_eq_some_iff.1 hb).1 hq.2).trans hb, hr.keep fun q hq hlt => h1.block q hlt hq.2⟩)
      · intro v w1 w2 h1 h2
        obtain ⟨Bv, dv, e, ho⟩ := h2
        exact ⟨Bv, dv, e, ho.below h1⟩
      · refine ⟨fun a w2 hle hd hf hs hT K hK => ?_, fun a w2 hle hd hf hs hT K hK => ?_, fun a w2 hle hd hf hs hT K hK => ?_, fun a w2 hle hd hf hs hT K hK => ?_, fun a w2 hle hd hf hs hT K hK => ?_, fun a w2 hle hd hf hs hT K hK => ?_, fun a w2 hle hd hf hs hT K hK => ?_, trivial⟩
        all_goals clear hd
        · -- 17 := Op.fieldAddr 70 t5 1
          have e5 := hf 5 rfl; simp [Act.eval] at e5
          go_simp; exact hK _ _ (.inl (Ext.refl _)) rfl
        · -- 18 := Op.load 68 t17
          have e17 := hs 0 17 (by kernel_rfl) rfl; simp [Act.eval] at e17
          have hob : some w1.heap.size ≠ (Value.slice B' dk.length d').ownBlock := fun e => by have := (HOD.out.base_le _ e.symm).1; omega
          have hc : w2.cell? ⟨w1.heap.size, 36, none⟩ = some (.slice B' dk.length d') := (cell_of_row _ _ _ _ _ _ ((hle.block _ (by simp only [World.size_alloc]; omega) hob).trans (((below1 wr _).block _ hgs).trans HQ.out))).trans (bunC_36 _ _ _ _ _ _)
          go_simp; exact hK _ _ (.inl (Ext.refl _)) rfl
        · -- 19 := Op.load 59 t7
          have e7 := hf 7 rfl; simp [Act.eval] at e7
          have hob2 : some wr.heap.size ≠ (Value.slice B' dk.length d').ownBlock := fun e => by have := own_block_lt HOD.out _ e.symm; omega
          have hq : agg? w2 ⟨wr.heap.size, 0, none⟩ 36 = some (tokA y A1 n1 c1) := (agg_block (hle.block _ (by simp) hob2)).trans hagn
          go_simp; exact hK _ _ (.inl (Ext.refl _)) rfl
        · -- 20 := Op.call { value (Operand.func 46), args := #[t19], argTypes := #[59] }
          have e19 := hs 2 19 (by kernel_rfl) rfl; simp [Act.eval] at e19
          go_simp
          refine (c_pclone y A1 n1 c1 _ w2 ((HR1.out.below (below1 _ _)).keep fun q hq hlt => hle.block q hlt fun e => by have := (HOD.out.base_le q e.symm).1; have := hq.2; omega) (by omega)).mono ?_
          rintro e w3 ⟨A3, c3, rfl, hr, hb⟩
          have hsz2 := hle.size
          simp only [World.size_alloc] at hsz2
          exact hK _ _ (.inl hb) ⟨A3, c3, rfl, hr.more fun q hq => ⟨by omega, fun e => by have := own_block_lt HOD.out q e.symm; omega⟩⟩
        · -- 21 := Op.buildSlice 68 1 #[(0, t20)]
          obtain ⟨A20, c20, e20, hr20⟩ := hs 3 20 (by kernel_rfl) rfl; simp [Act.eval] at e20
          refine wp_buildTok _ rfl _ _ _ _ _ (ev_of e20) ?_
          have hsz2 := hle.size
          simp only [World.size_alloc] at hsz2
          exact hK _ _ (.inl (Ext.alloc _ _)) ⟨_, _, _, rfl, ⟨by omega, fun e => by have := own_block_lt HOD.out _ e.symm; omega⟩, heap_alloc_new _ _, hr20.below (below1 _ _)⟩
        · -- 22 := Op.call { builtin append, args := #[t18, t21], argTypes := #[68, 68] }
          have e18 := hs 1 18 (by kernel_rfl) rfl; obtain ⟨q21, A21, c21, e21, hq21, hb21, hr21⟩ := hs 4 21 (by kernel_rfl) rfl; simp [Act.eval] at e18 e21
          obtain ⟨hwz, hown⟩ := hT rfl
          refine wp_app (d := kTok) (ys := [y]) _ _ _ rfl Try.underlying68 tok_info rfl (by decide) 1 (ev_of e18) (ev_of e21) (.inl hown) (Kd.Src.blk (d := kTok) hb21 ⟨_, _, _, rfl, hr21, HYK.out⟩ rfl) (by omega) (by have := HLK.out; simp only [maxLen]; omega) (by have := HLK.out; omega) ?_
          intro v1 w6 h1 h2 h3 h4 h5
          have h2 := h2 (.inl (by decide))
          obtain ⟨Bv, dv, rfl⟩ := h2.form
          exact hK _ _ (.inr ⟨rfl, h3.os, h3.tape, h3.output, h3.size, h4⟩) ⟨Bv, dv, rfl, h2⟩
        · -- 23 := Op.fieldAddr 70 t5 1
          have e5 := hf 5 rfl; simp [Act.eval] at e5
          go_simp; exact hK _ _ (.inl (Ext.refl _)) rfl
      intro vs w8 hle hs
      have v5 := hs 5 (by omega) rfl
      have v6 := hs 6 (by omega) rfl
      simp only at v5 v6
      clear hs

      obtain ⟨Bv, dv, v5, ho5⟩ := v5
      obtain ⟨dk', hdk'⟩ : ∃ dk', dk' = dk ++ [y] := ⟨_, rfl⟩
      rw [← hdk'] at v5 ho5
      have HDK' : Hid (dk' = ds.take (k + 1)) := hide (by rw [hdk']; exact HTK.out)
      clear hdk'
      have hb8 : Below (w1.heap.size + 1) wr w8 := ((below1 wr _).mono (by omega)).grown hle (by simp only [World.size_alloc]; omega) (fun q e => (HOD.out.base_le q e).1)
      have hq6 : w8.heap[w1.heap.size]? = some (.cells (bunC (.int .u64 (t.key : Int)) (.string t.id) (.slice A0 n c0) (.bool t.bnd) t.tag (.slice B' dk.length d')) 70) := (hb8.block _ (Nat.lt_succ_self _)).trans HQ.out
      have hfz : ∀ j, w8.frozen? ⟨w1.heap.size, j, none⟩ = false := fun j => frozen_of_row w8 _ _ _ _ hq6
      have hc6 : w8.cell? ⟨w1.heap.size, 36, none⟩ = some (.slice B' dk.length d') := (cell_of_row w8 _ _ _ _ _ hq6).trans (bunC_36 _ _ _ _ _ _)
      have HQ6 := hide hq6
      have H2 := hide ho5
      have HB6 : Hid (Below w1.heap.size w1 w8) := hide (HB.out.trans (hb8.mono (Nat.le_succ _)))
      clear hle hdis hagn hb8 hq6 ho5
      simp only [putN, dstAt]
      go_simp
      go_wp2_with fail
      go_roundw
      case rel =>
        refine ⟨k + 1, .slice Bv dk'.length dv, dk', by omega, by simp, HDK', hide ?_, hide ?_, hide ?_⟩
        · exact (heap_setCell_at HQ6.out _).trans (by rw [bunC_set36])
        · exact own_setCell H2.out (Nat.lt_succ_self _) _ _
        · exact HB6.out.setCell (Nat.le_refl _) _
      case measure => simp [intOf]; omega
    · obtain rfl : k = m := by omega
      have hdk : dk = ds := by rw [HDK.out, List.take_of_length_le (Nat.le_of_eq HL.out)]
      subst hdk
      obtain ⟨B', d', rfl, hrd⟩ := HOD.out.row
      rw [HL.out] at hrd HQ
      have hob := HOD.out.base_le
      have hag : agg? wr ⟨w1.heap.size, 0, none⟩ 37 = some (bunA ⟨t, dk⟩ A0 n c0 B' k d') := by
        rw [agg_of_row HQ.out 0 37 (by decide)]
        exact bunC_part _ _ _ _ _ _
      have hzr : row? wr (w.heap.size + 1) = some bunZ := row_of ((HB.out.block _ hw1).trans HZ1.out)
      have HRD := hide (hrd.more (ok' := fun q => w1.heap.size < q) fun q hq => by
        rcases hq with hq | hq
        · exact hq
        · have := (hob q (by rw [HL.out]; exact hq.symm)).1; omega)
      have HRT := hide (HR0.out.keep (w' := wr) fun q hq _ => HB.out.block q hq.2)
      clear hrd hob
      go_wp2_with fail
      exact bodyPost_ret (v := .agg (bunA ⟨t, dk⟩ A0 n c0 B' k d')) (by simp [results, Try.results57, go_sem, hzr]) rfl ⟨A0, c0, B', d', rfl,
        (HRT.out.keep fun q hq _ => heap_setRow_far _ _ _ (by have := hq.1; omega)).more (fun q hq => by have := hq.1; omega), (HRD.out.keep fun q hq _ => heap_setRow_far _ _ _ (by omega)).more (fun q hq => by omega), bsetRow HBW.out (Nat.le_succ _) _⟩

set_option maxRecDepth 100000 in
set_option maxHeartbeats 400000 in
theorem c_bclone (x : Bun) (A B : Option Addr) (n c m d : Nat) (ok ok' : Nat → Prop) (w : World) (hR : kCav.Row ok w A n c x.root.cavs) (hS : kTok.Row ok' w B m d x.dis) (hn : n ≤ 1099511627776) (hm : m ≤ 1000) (hds : ∀ y ∈ x.dis, y.cavs.length ≤ 1099511627776) :
    Calls Try.prog 56 #[bunV x A n c B m d] w fun e w' => ∃ A' c' B' d', e = .returned (bunV x A' n c' B' m d') ∧ kCav.Row (fun k => w.heap.size ≤ k) w' A' n c' x.root.cavs ∧ kTok.Row (fun k => w.heap.size ≤ k) w' B' m d' x.dis ∧ Below w.heap.size w w' := by
  have HR := hide hR
  have HS := hide hS
  have HDS := hide hds
  clear hR hS hds
  go_enter Try.func56, Try.ntmps56
  go_wp2_with fail
  refine (c_bof x.root x.dis A B n c m d ok ok' _ (HR.out.below (below2 _ _ _)) (HS.out.below (below2 _ _ _)) hn hm HDS.out).mono ?_
  rintro e w1 ⟨A0, c0, B0, d0, rfl, hr0, hs0, b1⟩
  have HB1 := hide (bnext (below2 _ _ _) b1)
  have hz1 : row? w1 (w.heap.size + 1) = some bunZ := row_of ((b1.block _ (by simp)).trans (heap_new2 _ _ _))
  have HR0 := hide hr0
  have HS0 := hide hs0
  clear b1 hr0 hs0
  go_wp2_with fail
  exact bodyPost_ret (v := .agg (bunA x A0 n c0 B0 m d0)) (by simp [results, Try.results56, go_sem, hz1]) rfl ⟨A0, c0, B0, d0, rfl,
    (HR0.out.keep fun q hq _ => heap_setRow_far _ _ _ (by simp only [World.size_alloc] at hq; omega)).more (fun q hq => by simp only [World.size_alloc] at hq; omega),
    (HS0.out.keep fun q hq _ => heap_setRow_far _ _ _ (by simp only [World.size_alloc] at hq; omega)).more (fun q hq => by simp only [World.size_alloc] at hq; omega), bsetRow HB1.out (Nat.le_succ _) _⟩
end Go.Proofs.Ytlfhbnajopekpaa
