/- The walks of layer 11: a bundle out of its bytes. No condition. -/
import Derived.Test.YtlfhbnajopekpaaBunL
import Derived.Great.BuildSlice
namespace Go.Proofs.Ytlfhbnajopekpaa
open Go.RowKit
attribute [local go_sem ↓] ld16 ld17 ld32 ld36 ld37
attribute [local go_sem] run_ldAgg run_storeAgg agg_alloc_at agg_alloc_past agg_drew agg_setCell row_alloc_at row_alloc_past row_drew setRow_alloc_at setRow_alloc_past setRow_drew agg_setRow_at agg_setRow_far cell_setRow_at cell_setRow_far row_setRow_far size_setRow tgC_size tgC_one tgC_part tgC_splice tokC_size tokC_0 tokC_1 tokC_2 tokC_3 tokC_g0 tokC_g1 tokC_g2 tokC_g3 tokC_part tokC_tag tokC_set0 tokC_set1 tokC_set2 tokC_set3 tokC_splice tokC_splice0 tgC_splice_any zero_tg zero_tok tokC_all tokC_ne tgC_ne
attribute [local go_sem] bunC_size bunC_0 bunC_1 bunC_2 bunC_3 bunC_36 bunC_g3 bunC_g36 bunC_part bunC_root bunC_set36 bunC_splice bunC_splice0 zero_bun bunC_all bunC_ne

abbrev bunZ : Array Value := bunC (.int .u64 0) (.string ⟨#[]⟩) (.slice none 0 0) (.bool false) Tg.zero (.slice none 0 0)
def BDecoded (w : World) (xs : List UInt8) (e : Ending) (w' : World) : Prop :=
  ∃ A n c B m d, e = .returned (.tuple #[bunV ((bvalD xs).getD Bun.zero) A n c B m d, .int .i64 (bcodeD xs : Int)]) ∧ kCav.Row (fun k => w.heap.size ≤ k) w' A n c ((bvalD xs).getD Bun.zero).root.cavs ∧
    kTok.Row (fun k => w.heap.size ≤ k) w' B m d ((bvalD xs).getD Bun.zero).dis ∧ Below w.heap.size w w'
theorem bdec_fail {xs : List UInt8} {k : Nat} {w W : World} (h1 : bvalD xs = none) (h2 : bcodeD xs = k) (i : Int) (hi : i = (k : Int)) (hB : Below w.heap.size w W) : BDecoded w xs (.returned (.tuple #[.agg bunZ, .int .i64 i])) W := by
  subst hi
  unfold BDecoded
  rw [h1, h2]
  exact ⟨none, 0, 0, none, 0, 0, rfl, .nil _ _ _ _ _ (Nat.zero_le _), .nil _ _ _ _ _ (Nat.zero_le _), hB⟩
theorem bdec_none {xs : List UInt8} (h : ¬ 65536 < xs.length) (hd : bdec xs = none) : bvalD xs = none ∧ bcodeD xs = 2 := by
  simp [bvalD, bcodeD, h, hd]
theorem tok_info : (Try.prog.info? 59).map (fun i => (i.zero, i.size, i.bytes)) = some (some (.agg #[.int .u64 0, .string ByteArray.empty, .slice none 0 0, .bool false, .int .u8 0, .int .u8 0, .int .u8 0, .int .u8 0, .int .u8 0, .int .u8 0, .int .u8 0, .int .u8 0, .int .u8 0, .int .u8 0, .int .u8 0, .int .u8 0, .int .u8 0, .int .u8 0, .int .u8 0, .int .u8 0, .int .u8 0, .int .u8 0, .int .u8 0, .int .u8 0, .int .u8 0, .int .u8 0, .int .u8 0, .int .u8 0, .int .u8 0, .int .u8 0, .int .u8 0, .int .u8 0, .int .u8 0, .int .u8 0, .int .u8 0, .int .u8 0]), 36, 88) := by kernel_rfl
theorem fill_tok {v cells : Array Value} (hv : v.size = 36) (hc : cells.size = 36) : Instr.fill (fun i => some (i * 36, 36)) cells [(0, .agg v)] = some v := by
  obtain ⟨r, h1, h2, h3⟩ := Great.fill_dense (s := 36) (by decide) [.agg v] 0 cells (by simp [Value.cells, hv]) (by simp [hc])
  have e : r = v := by
    apply Array.ext
    · rw [h2, hc, hv]
    · intro i hi1 hi2
      have hi : i < 36 := by rw [← hv]; exact hi2
      have := h3 i
      rw [if_pos (by simp; omega)] at this
      have e1 : i / 36 = 0 := by omega
      have e2 : i % 36 = i := by omega
      rw [e1, e2] at this
      simpa [Value.cells, hi1, hi2] using this
  subst e
  exact h1
/-- A slice literal of one token, where the walk stands at it. -/
theorem at_buildTok {ops : Array Oper} {rest : List Oper} {dst : Option Tmp} {ty : TypeId} {pos : String} {after : Array Edge} {a0 : Act} {w : World} {Q : Exit → Act → World → Prop} (x : Operand) (a b c d : Value) (t : Tg) (hx : a0.eval x = .agg (tokC a b c d t)) (H : Nat) (hH : w.heap.size = H)
    (k : wpList Try.prog ops Q rest (a0.put dst (.slice (some ⟨H, 0, none⟩) 1 1)) (w.alloc (.cells (tokC a b c d t) 59))) :
    wpList Try.prog ops Q (⟨dst, .buildSlice 68 1 #[(0, x)], ty, pos, after, none⟩ :: rest) a0 w := by
  subst hH
  obtain ⟨i0, hi, hzz⟩ := Option.map_eq_some_iff.1 tok_info
  simp only [Prod.mk.injEq] at hzz
  obtain ⟨hz0, hz1, -⟩ := hzz
  refine wpList_buildSlice rfl 68 59 1 #[(0, x)] rfl (tokC a b c d t) i0 _ Try.underlying68 hi hz0 (by rw [hz1]; decide) (by rw [hz1]; decide) ?_ k
  rw [hz1]
  have e : (Array.map (fun x => (x.fst, a0.eval x.snd)) #[(0, x)]).toList = [(0, .agg (tokC a b c d t))] := by simp [hx]
  exact (congrArg _ e).trans (fill_tok (tokC_size _ _ _ _ _) (by simp))
theorem own_block_lt {α : Type} {d : Kd α} {ok : Nat → Prop} {base : Nat} {w : World} {E : TypeId} {v : Value} {xs : List α} (h : d.Own ok base w E v xs) : ∀ k, v.ownBlock = some k → k < w.heap.size := fun k hk => (h.base_le k hk).2
section
variable {α : Type} {d : Kd α} {base g : Nat} {w w' : World} {E : TypeId} {v : Value} {xs : List α} {A : Option Addr} {n c : Nat} {p : Nat → Prop}
theorem own_setRow (h : d.Own (g < ·) base w E v xs) (hg : g < base) (q : Nat) (hq : q ≤ g) (C : Array Value) : d.Own (g < ·) base (w.setRow q C) E v xs :=
  h.keep fun k _ hk => heap_setRow_far _ _ _ (by
    rcases hk with hk | hk
    · omega
    · have := (h.base_le k hk.symm).1; omega)
theorem own_setCell (h : d.Own (g < ·) base w E v xs) (hg : g < base) (o : Nat) (u : Value) : d.Own (g < ·) base (w.setCell ⟨g, o, none⟩ u) E v xs :=
  h.keep fun k _ hk => Below.heap_setCell _ _ _ _ (by
    rcases hk with hk | hk
    · show k ≠ g; omega
    · have := (h.base_le k hk.symm).1; show k ≠ g; omega)
theorem row_setRow (h : d.Row (fun k => g < k ∧ p k) w A n c xs) (q : Nat) (hq : q ≤ g) (C : Array Value) : d.Row (fun k => g < k ∧ p k) (w.setRow q C) A n c xs :=
  h.keep fun k hk _ => heap_setRow_far _ _ _ (by have := hk.1; omega)
theorem row_setCell (h : d.Row (fun k => g < k ∧ p k) w A n c xs) (o : Nat) (u : Value) : d.Row (fun k => g < k ∧ p k) (w.setCell ⟨g, o, none⟩ u) A n c xs :=
  h.keep fun k hk _ => Below.heap_setCell _ _ _ _ (by have := hk.1; show k ≠ g; omega)
end
set_option maxRecDepth 100000 in
set_option maxHeartbeats 1000000 in
theorem c_bdecode (A : Option Addr) (n c : Nat) (xs : List UInt8) (ok : Nat → Prop) (w : World) (hR : kU8.Row ok w A n c xs) :
    Calls Try.prog 50 #[.slice A n c] w (BDecoded w xs) := by
  have HR := hide hR
  have hnm : n ≤ 9223372036854775807 := Nat.le_trans hR.2.1 hR.2.2.1
  have HL := hide hR.1
  clear hR
  by_cases hlong : 65536 < n
  · have HV : Hid (bvalD xs = none) := hide (by have := HL.out; simp [bvalD]; omega)
    have HC : Hid (bcodeD xs = 3) := hide (by have := HL.out; simp [bcodeD]; omega)
    go_enter Try.func50, Try.ntmps50
    go_wp2_with fail
    exact bodyPost_ret (v := .tuple #[.agg bunZ, .int .i64 3]) (by simp [results, Try.results50, go_sem]) rfl (bdec_fail HV.out HC.out 3 rfl (below1 _ _))
  · have HNL : Hid (¬ 65536 < xs.length) := hide (by rw [HL.out]; exact hlong)
    have hn : n ≤ 65536 := by omega
    go_enter Try.func50, Try.ntmps50
    go_wp2_with fail
    refine (c_fall A n c xs ok _ (HR.out.alloc _) (by omega)).mono ?_
    rintro e w1 ⟨b1, v, b, rfl, hb, ho⟩
    have HB1 := hide (bnext (below1 _ _) b1)
    have hz1 : row? w1 w.heap.size = some bunZ := row_of ((b1.block w.heap.size (by simp)).trans (heap_alloc_new _ _))
    have hw1 : w.heap.size < w1.heap.size := by have := b1.size; simp only [World.size_alloc] at this; omega
    clear b1
    cases hf : fall xs with
    | none =>
      rw [hf] at hb ho
      have HPN := hide (bdec_none HNL.out (by rw [bdec, hf]; rfl))
      obtain ⟨A1, c1, rfl⟩ := ho.form
      subst hb
      clear hf ho
      simp only [Option.isSome_none]
      go_wp2_with fail
      exact bodyPost_ret (v := .tuple #[.agg bunZ, .int .i64 2]) (by simp [results, Try.results50, go_sem, hz1]) rfl (bdec_fail HPN.out.1 HPN.out.2 2 rfl (bsetRow HB1.out (Nat.le_refl _) _))
    | some l =>
      rw [hf] at hb ho
      obtain ⟨A1, c1, rfl, hr1⟩ := ho.row
      subst hb
      simp only [Option.getD_some] at hr1
      have HFA := hide hf
      have HFS := hide (fall_size hf)
      have HFL := hide (fall_len _ xs l (Nat.le_refl _) hf)
      clear hf ho
      simp only [Option.isSome_some, Option.getD_some]
      by_cases hl0 : l.length = 0
      · have HPN := hide (bdec_none HNL.out (by rw [bdec, HFA.out, Option.bind_some, if_pos (List.eq_nil_of_length_eq_zero hl0)]))
        go_wp2_with fail
        exact bodyPost_ret (v := .tuple #[.agg bunZ, .int .i64 2]) (by simp [results, Try.results50, go_sem, hz1]) rfl (bdec_fail HPN.out.1 HPN.out.2 2 rfl (bsetRow HB1.out (Nat.le_refl _) _))
      · have hl0i : ¬ (l.length : Int) = 0 := by omega
        have hl0b : ((l.length : Int) == 0) = false := beq_eq_false_iff_ne.2 hl0i
        have HNE : Hid (l ≠ []) := hide (fun e => hl0 (by rw [e]; rfl))
        have HBD : Hid (bdec xs = (bparse l).bind fun x => if checkB x then some x else none) := hide (by rw [bdec, HFA.out, Option.bind_some, if_neg HNE.out])
        have HRL := hide (hr1.bound.more (ok' := (· < w1.heap.size)) fun k hk => hk.2)
        have hll : l.length ≤ 65536 := by have := HFL.out; have := HL.out; omega
        clear hr1
        go_wp2_with fail
        go_loopw [30] (fun i wr => ∃ (k : Nat) (t : Tok) (ds : List Tok) (A2 : Option Addr) (n2 c2 : Nat) (V : Value), k ≤ l.length ∧ i = .int .i64 (k : Int) ∧
          Hid (wr.heap[w1.heap.size]? = some (.cells (bunC (.int .u64 (t.key : Int)) (.string t.id) (.slice A2 n2 c2) (.bool t.bnd) t.tag V) 70)) ∧
          Hid (kCav.Row (fun k => w1.heap.size < k ∧ some k ≠ V.ownBlock) wr A2 n2 c2 t.cavs) ∧ Hid (kTok.Own (fun k => w1.heap.size < k) (w1.heap.size + 1) wr 59 V ds) ∧ Hid (bparse (l.take k) = some ⟨t, ds⟩) ∧ Hid (ds.length ≤ k) ∧ Hid (Below w1.heap.size w1 wr)) (fun i _ => l.length - (intOf i).toNat)
        case atStart =>
          refine ⟨0, Tok.zero, [], none, 0, 0, .slice none 0 0, Nat.zero_le _, rfl, hide ?_, hide (.nil _ _ _ _ _ (Nat.zero_le _)), hide (.nil _ _ _ _ _), hide rfl, hide (Nat.le_refl _), hide ?_⟩
          · exact heap_alloc_new _ _
          · exact below1 _ _
        case round =>
          obtain ⟨k, t, ds, A2, n2, c2, V, hk, rfl, HQ, HRT, HOD, HBP, HDL, HB⟩ := hrel
          have hgs : w1.heap.size < wr.heap.size := (Array.getElem?_eq_some_iff.1 HQ.out).1
          have hzg : w.heap.size < w1.heap.size := hw1
          have hzr : row? wr w.heap.size = some bunZ := by
            have := hz1
            unfold row? at this ⊢
            rw [HB.out.block _ hzg]
            exact this
          have HBW : Hid (Below w.heap.size w wr) := hide (HB1.out.trans (HB.out.mono (by omega)))
          by_cases hlt : k < l.length
          · obtain ⟨f, hx⟩ : ∃ f, l[k]? = some f := ⟨_, List.getElem?_eq_getElem hlt⟩
            obtain ⟨b, q, cs, hix, -, hbl, hK, hra⟩ := (HRL.out.belowB (w' := wr) HB.out).index (P := Try.prog) Try.underlying118 (E := 117) fld_size hx
            have hKe := hK.1
            subst hKe
            have hc0 := hra 0 _ rfl
            have hc1 := hra 1 _ rfl
            simp only [Nat.add_zero] at hc0
            have HTK : Hid (l.take (k + 1) = l.take k ++ [f]) := hide (by rw [List.take_add_one, hx]; rfl)
            have HFV := hide (HFS.out f (List.mem_of_getElem? hx))
            clear hx hK hra
            go_wp2_with (refine at_tobytes (P := Try.prog) 9 60 f.value rfl Try.underlying9 Try.underlying60 Try.underlying5 ?_ (wr.heap.size + 1) (by simp) ?_)
            · have := HFV.out; have := HL.out; omega
            intro c4 w4 hr4 b4 hl4
            have HR4 := hide hr4
            have HB4 := hide b4
            have hg4 := (b4.block wr.heap.size (by omega)).trans (heap_alloc_new _ _)
            have HG4 := hide hg4
            clear hr4 b4 hg4 hc0 hc1 hix hbl
            go_wp2_with fail
            refine (c_decode _ _ c4 _ _ w4 HR4.out (by have := HFV.out; have := HL.out; omega)).mono ?_
            rintro e w5 ⟨A5, n5, c5, rfl, ho5, b5⟩
            have hw45 := b5.size
            have HB5 := hide (HB.out.trans ((below1 wr _).mono (by omega) |>.trans ((HB4.out.mono (by omega)).trans (b5.mono (by omega)))))
            have HW5 := hide ((below1 wr _).trans ((HB4.out.mono (by omega)).trans (b5.mono (by omega))))
            have hg5 := (b5.block _ (by omega)).trans HG4.out
            have hk0 : w5.cell? ⟨wr.heap.size, 0, none⟩ = some (bv f.kind) := (cell_of_row w5 _ _ _ _ _ hg5).trans rfl
            have hs5 : wr.heap.size < w5.heap.size := by omega
            have hg5' : w1.heap.size < w5.heap.size := by omega
            have hz5' : w.heap.size < w5.heap.size := by omega
            have hgz : ¬ w1.heap.size = w.heap.size := by omega
            have hzg' : ¬ w.heap.size = w1.heap.size := by omega
            have hzr5 : row? w5 w.heap.size = some bunZ := by
              unfold row? at hzr ⊢
              rw [HW5.out.block _ (by omega)]
              exact hzr
            have HQ5 : Hid (w5.heap[w1.heap.size]? = some (.cells (bunC (.int .u64 (t.key : Int)) (.string t.id) (.slice A2 n2 c2) (.bool t.bnd) t.tag V) 70)) := hide ((HW5.out.block _ hgs).trans HQ.out)
            have HBW5 : Hid (Below w.heap.size w w5) := hide (HB1.out.trans (HB5.out.mono (by omega)))
            clear b5 hg5 hzr
            cases hp : pdec (byt f.value) with
            | none =>
              have HPN := hide (bdec_none HNL.out (by
                rw [HBD.out, bparse_none (k := k + 1) (by
                  rw [HTK.out]
                  cases hlk : l.take k with
                  | nil => rw [List.nil_append, bparse_one, hp]; split <;> rfl
                  | cons a r =>
                    rw [← hlk, bparse_snoc _ (by rw [hlk]; simp), HBP.out, Option.bind_some, hp]
                    split <;> rfl)]
                rfl))
              rw [hp] at ho5
              clear hp ho5
              simp only [Option.getD_none, Option.isSome_none, Bool.false_eq_true, if_false]
              go_wp2_with fail
              exact bodyPost_ret (v := .tuple #[.agg bunZ, .int .i64 2]) (by simp [results, Try.results50, go_sem, hzr5, hz5']) rfl (bdec_fail HPN.out.1 HPN.out.2 2 rfl (by repeat (first | exact HBW5.out | refine Below.alloc ?_ (by simp; omega) _ | refine bsetRow ?_ (by omega) _)))
            | some y =>
              rw [hp] at ho5
              simp only [Option.getD_some] at ho5
              simp only [Option.getD_some, Option.isSome_some, if_true]
              have HYR : Hid (kCav.Row (fun k => w1.heap.size < k ∧ some k ≠ V.ownBlock) w5 A5 n5 c5 y.cavs) := hide ((own_row_of ho5).more fun k hk => by
                rcases hk with hk | hk
                · exact hk.elim
                · have h1 := ho5.base_le k hk.symm
                  refine ⟨by omega, fun e => ?_⟩
                  have h2 := own_block_lt HOD.out k e.symm
                  omega)
              by_cases hk0' : k = 0
              · subst hk0'
                by_cases h16 : f.kind = 16
                · have h16' : (f.kind.toNat : Int) = 16 := by rw [h16]; rfl
                  have HNX : Hid (bparse (l.take (0 + 1)) = some ⟨y, []⟩) := hide (by
                    rw [HTK.out]
                    simp only [List.take_zero, List.nil_append]
                    rw [bparse_one, hp, if_pos h16]
                    rfl)
                  have hds : ds = [] := List.eq_nil_of_length_eq_zero (by have := HDL.out; omega)
                  subst hds
                  have HOD5 := hide (HOD.out.below HW5.out)
                  have hrg : row? w5 w1.heap.size = some (bunC (.int .u64 (t.key : Int)) (.string t.id) (.slice A2 n2 c2) (.bool t.bnd) t.tag V) := row_of HQ5.out
                  clear hp ho5 h16
                  go_wp2_with fail
                  go_roundw
                  case rel =>
                    refine ⟨1, y, [], A5, n5, c5, V, by omega, by simp, hide ?_, hide ?_, hide ?_, HNX, hide (by simp), hide ?_⟩
                    · exact (Below.heap_alloc _ _ _ (by simp only [size_setRow]; omega)).trans (setRow_heap _ _ _ _ _ _ HQ5.out)
                    · exact (row_setRow HYR.out _ (Nat.le_refl _) _).alloc _
                    · exact (own_setRow HOD5.out (Nat.lt_succ_self _) _ (Nat.le_refl _) _).below (below1 _ _)
                    · exact (bsetRow HB5.out (Nat.le_refl _) _).alloc (by simp only [size_setRow]; omega) _
                  case measure => simp [intOf]; omega
                · have h16' : ¬ (f.kind.toNat : Int) = 16 := fun e => h16 (UInt8.toNat_inj.1 (by have h : (16 : UInt8).toNat = 16 := rfl; omega))
                  have HPN := hide (bdec_none HNL.out (by
                    rw [HBD.out, bparse_none (k := 0 + 1) (by
                      rw [HTK.out, List.take_zero, List.nil_append, bparse_one, if_neg h16])]
                    rfl))
                  clear hp ho5 h16
                  go_wp2_with fail
                  exact bodyPost_ret (v := .tuple #[.agg bunZ, .int .i64 2]) (by simp [results, Try.results50, go_sem, hzr5, hz5']) rfl (bdec_fail HPN.out.1 HPN.out.2 2 rfl (by repeat (first | exact HBW5.out | refine Below.alloc ?_ (by simp; omega) _ | refine bsetRow ?_ (by omega) _)))
              · have hkp : 0 < k := by omega
                have hk0i : ¬ (k : Int) = 0 := by omega
                by_cases h17 : f.kind = 17
                · have h17' : (f.kind.toNat : Int) = 17 := by rw [h17]; rfl
                  have HNX : Hid (bparse (l.take (k + 1)) = some ⟨t, ds ++ [y]⟩) := hide (by
                    rw [HTK.out, bparse_snoc _ (fun e => by have := congrArg List.length e; rw [List.length_take] at this; simp only [List.length_nil] at this; omega), HBP.out, Option.bind_some, if_pos h17, hp]
                    rfl)
                  have HYK := hide (pdec_back hp).2.2.1
                  obtain ⟨B, d, rfl⟩ := HOD.out.form
                  have hdis : w5.cell? ⟨w1.heap.size, 36, none⟩ = some (.slice B ds.length d) := (cell_of_row w5 _ _ _ _ _ HQ5.out).trans (bunC_36 _ _ _ _ _ _)
                  have HOD5 := hide (HOD.out.below HW5.out)
                  clear hp h17 ho5
                  go_wp2_with (first | refine at_buildTok _ _ _ _ _ _ rfl _ rfl ?_ | at_builtin; go_must (refine wpList_app (d := kTok) (ys := [y]) rfl _ _ _ rfl Try.underlying68 tok_info rfl (by decide) 1 rfl rfl (.inl ((HOD5.out.below (below1 _ _)).below (below1 _ _))) (Kd.Src.new (d := kTok) (ok := fun k => w1.heap.size < k ∧ some k ≠ (Value.slice B ds.length d).ownBlock) (cs := (tokA y A5 n5 c5).toList) ⟨A5, n5, c5, rfl, ?_, HYK.out⟩ _ rfl _ ?_) ?_ ?_ ?_ ?_))
                  · exact (HYR.out.alloc _)
                  · simp
                  · simp only [World.size_alloc]; omega
                  · have := HDL.out; simp only [maxLen]; omega
                  · have := HDL.out; omega
                  · intro v1 w6 _ h2 h3 h4 h5
                    have hq6 : w6.heap[w1.heap.size]? = some (.cells (bunC (.int .u64 (t.key : Int)) (.string t.id) (.slice A2 n2 c2) (.bool t.bnd) t.tag (.slice B ds.length d)) 70) :=
                      (h3.block _ (Nat.lt_succ_self _)).trans ((below2 w5 _ _).block _ hg5' |>.trans HQ5.out)
                    have hfz : ∀ j, w6.frozen? ⟨w1.heap.size, j, none⟩ = false := fun j => frozen_of_row w6 _ _ _ _ hq6
                    have hc6 : w6.cell? ⟨w1.heap.size, 36, none⟩ = some (.slice B ds.length d) := (cell_of_row w6 _ _ _ _ _ hq6).trans (bunC_36 _ _ _ _ _ _)
                    have hk6 : ∀ k, k < w5.heap.size → some k ≠ (Value.slice B ds.length d).ownBlock → w6.heap[k]? = w5.heap[k]? := fun k hk hne =>
                      (h4 k (by first | omega | (simp only [World.size_alloc]; omega)) hne).trans ((below2 w5 _ _).block k hk)
                    have hv1 : ∀ k, k < w5.heap.size → some k ≠ (Value.slice B ds.length d).ownBlock → some k ≠ v1.ownBlock := fun k hk hne e => by
                      rcases h5 with h5 | ⟨k', h5, h6⟩
                      · rw [h5] at e; exact hne e
                      · rw [h5] at e
                        have := Option.some.inj e
                        first | omega | (simp only [World.size_alloc] at h6; omega)
                    have HRT6 : Hid (kCav.Row (fun k => w1.heap.size < k ∧ some k ≠ v1.ownBlock) w6 A2 n2 c2 t.cavs) := hide (
                      (((HRT.out.below HW5.out).bound.more (ok' := fun k => (w1.heap.size < k ∧ some k ≠ v1.ownBlock) ∧ (k < w5.heap.size ∧ some k ≠ (Value.slice B ds.length d).ownBlock)) fun k hk => ⟨⟨hk.1.1, hv1 k hk.2 hk.1.2⟩, hk.2, hk.1.2⟩).keep fun k hk _ => hk6 k hk.2.1 hk.2.2).more fun k hk => hk.1)
                    have HQ6 := hide hq6
                    obtain ⟨Bv, dv, hve⟩ := h2.form
                    rw [List.length_append, List.length_singleton] at hve
                    subst hve
                    have H2 := hide h2
                    have HB6 : Hid (Below w1.heap.size w1 w6) := hide (HB5.out.trans (((below2 w5 _ _).mono (by omega)).trans (h3.mono (Nat.le_succ _))))
                    clear h2 h3 h4 h5 hq6 hk6 hv1
                    go_wp2_with fail
                    go_roundw
                    case rel =>
                      refine ⟨k + 1, t, ds ++ [y], A2, n2, c2, .slice Bv (ds.length + 1) dv, by omega, by simp, hide ?_, hide ?_, hide ?_, HNX, hide (by have := HDL.out; simp; omega), hide ?_⟩
                      · exact (heap_setCell_at HQ6.out _).trans (by rw [bunC_set36])
                      · exact row_setCell HRT6.out _ _
                      · exact own_setCell H2.out (Nat.lt_succ_self _) _ _
                      · exact HB6.out.setCell (Nat.le_refl _) _
                    case measure => simp [intOf]; omega
                · have h17' : ¬ (f.kind.toNat : Int) = 17 := fun e => h17 (UInt8.toNat_inj.1 (by have h : (17 : UInt8).toNat = 17 := rfl; omega))
                  have HPN := hide (bdec_none HNL.out (by
                    rw [HBD.out, bparse_none (k := k + 1) (by
                      rw [HTK.out, bparse_snoc _ (fun e => by have := congrArg List.length e; rw [List.length_take] at this; simp only [List.length_nil] at this; omega), HBP.out, Option.bind_some, if_neg h17])]
                    rfl))
                  clear hp ho5 h17
                  go_wp2_with fail
                  exact bodyPost_ret (v := .tuple #[.agg bunZ, .int .i64 2]) (by simp [results, Try.results50, go_sem, hzr5, hz5']) rfl (bdec_fail HPN.out.1 HPN.out.2 2 rfl (by repeat (first | exact HBW5.out | refine Below.alloc ?_ (by simp; omega) _ | refine bsetRow ?_ (by omega) _)))
          · obtain rfl : k = l.length := by omega
            rw [List.take_of_length_le (Nat.le_refl _)] at HBP
            obtain ⟨B, d, rfl, hrd⟩ := HOD.out.row
            have hag : agg? wr ⟨w1.heap.size, 0, none⟩ 37 = some (bunA ⟨t, ds⟩ A2 n2 c2 B ds.length d) := by
              rw [agg_of_row HQ.out 0 37 (by decide)]
              exact bunC_part _ _ _ _ _ _
            have HRD := hide hrd
            clear hrd
            go_wp2_with fail
            refine (c_bcheck ⟨t, ds⟩ A2 B n2 c2 ds.length d _ _ wr HRT.out HRD.out).mono ?_
            rintro e w9 ⟨rfl, b9⟩
            have hz9 : row? w9 w.heap.size = some bunZ := by
              unfold row? at hzr ⊢
              rw [b9.block _ (by omega)]
              exact hzr
            have hag9 : agg? w9 ⟨w1.heap.size, 0, none⟩ 37 = some (bunA ⟨t, ds⟩ A2 n2 c2 B ds.length d) := by
              rw [agg_of_row ((b9.block _ hgs).trans HQ.out) 0 37 (by decide)]
              exact bunC_part _ _ _ _ _ _
            have HB9 := hide (HBW.out.trans (b9.mono HBW.out.size))
            have HRT9 := hide (HRT.out.below b9)
            have HRD9 := hide (HRD.out.below b9)
            have HOB : Hid (∀ k, (w1.heap.size < k ∨ some k = (Value.slice B ds.length d).ownBlock) → w1.heap.size < k) := hide (fun k h => by
              rcases h with h | h
              · exact h
              · have := (HOD.out.base_le k h.symm).1; omega)
            clear b9 hzr hag
            cases hc : checkB ⟨t, ds⟩ with
            | true =>
              have hbd : bdec xs = some ⟨t, ds⟩ := by rw [HBD.out, HBP.out, Option.bind_some, if_pos hc]
              have HV : Hid (bvalD xs = some ⟨t, ds⟩) := hide (by rw [bvalD, if_neg HNL.out, hbd])
              have HCD : Hid (bcodeD xs = 0) := hide (by rw [bcodeD, if_neg HNL.out, hbd]; rfl)
              clear hc hbd
              simp only [errV]
              go_wp2_with fail
              exact bodyPost_ret (v := .tuple #[.agg (bunA ⟨t, ds⟩ A2 n2 c2 B ds.length d), .int .i64 0]) (by simp [results, Try.results50, go_sem, hz9]) rfl (by
                unfold BDecoded
                rw [HV.out, HCD.out]
                exact ⟨A2, n2, c2, B, ds.length, d, rfl, (row_setRow HRT9.out _ (by omega) _).more (fun k hk => by have := hk.1; omega), (row_setRow (p := fun _ => True) (HRD9.out.more fun k h => ⟨HOB.out k h, trivial⟩) _ (by omega) _).more (fun k hk => by have := hk.1; omega), bsetRow HB9.out (Nat.le_refl _) _⟩)
            | false =>
              have HPN := hide (bdec_none HNL.out (by rw [HBD.out, HBP.out, Option.bind_some, if_neg (by rw [hc]; decide)]))
              clear hc
              simp only [errV]
              go_wp2_with fail
              exact bodyPost_ret (v := .tuple #[.agg bunZ, .int .i64 2]) (by simp [results, Try.results50, go_sem, hz9]) rfl (bdec_fail HPN.out.1 HPN.out.2 2 rfl (bsetRow HB9.out (Nat.le_refl _) _))
end Go.Proofs.Ytlfhbnajopekpaa
