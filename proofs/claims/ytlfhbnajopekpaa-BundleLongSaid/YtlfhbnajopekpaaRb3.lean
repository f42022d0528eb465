/- The document's answer for layer 11: a bundle out of its bytes. No condition. -/
import Derived.Test.YtlfhbnajopekpaaRb2
import Derived.Test.YtlfhbnajopekpaaRf4
namespace Go.Proofs.Ytlfhbnajopekpaa
open Go.RowKit
attribute [local go_sem ↓] ld16 ld17 ld32 ld36 ld37
attribute [local go_sem] run_ldAgg run_storeAgg agg_alloc_at agg_alloc_past agg_drew agg_setCell row_alloc_at row_alloc_past row_drew setRow_alloc_at setRow_alloc_past setRow_drew agg_setRow_at agg_setRow_far cell_setRow_at cell_setRow_far row_setRow_far size_setRow tgC_size tgC_one tgC_part tgC_splice tokC_size tokC_0 tokC_1 tokC_2 tokC_3 tokC_g0 tokC_g1 tokC_g2 tokC_g3 tokC_part tokC_tag tokC_set0 tokC_set1 tokC_set2 tokC_set3 tokC_splice tokC_splice0 tgC_splice_any zero_tg zero_tok tokC_all tokC_ne tgC_ne
attribute [local go_sem] bunC_size bunC_0 bunC_1 bunC_2 bunC_3 bunC_36 bunC_g3 bunC_g36 bunC_part bunC_root bunC_set36 bunC_splice bunC_splice0 zero_bun bunC_all bunC_ne

/-- The token of a field, of one that has none: nothing. -/
def rbt (f : Fld) : Tok := (pdec (byt f.value)).getD Tok.zero
def rbun : List Fld → Bun
  | [] => Bun.zero
  | f :: r => ⟨rbt f, r.map rbt⟩
def rbok (l : List Fld) : Bool := l.all fun f => (pdec (byt f.value)).isSome
theorem rbun_snoc {l : List Fld} (f : Fld) (h : l ≠ []) : rbun (l ++ [f]) = ⟨(rbun l).root, (rbun l).dis ++ [rbt f]⟩ := by
  cases l with
  | nil => exact absurd rfl h
  | cons g r => simp [rbun]
theorem rbok_snoc (l : List Fld) (f : Fld) : rbok (l ++ [f]) = (rbok l && (pdec (byt f.value)).isSome) := by simp [rbok]
theorem rbt_ok (f : Fld) : (rbt f).ok := by
  unfold rbt
  cases h : pdec (byt f.value) with
  | none => exact zero_tok_ok
  | some t => exact (pdec_back h).2.2
theorem rbun_ok (l : List Fld) : (rbun l).ok := by
  cases l with
  | nil => exact zero_ok
  | cons g r =>
    refine ⟨rbt_ok g, fun d hd => ?_⟩
    obtain ⟨f, _, rfl⟩ := List.mem_map.1 hd
    exact rbt_ok f
theorem rbt_enc (k : UInt8) {t : Tok} (h : checkT t = true) (hk : t.ok) : rbt ⟨k, txt (enc t)⟩ = t := by
  rw [rbt, byt_txt, pdec_enc h hk]; rfl
theorem rb_some {xs : List UInt8} {b : Bun} (h : bdec xs = some b) : ∃ l, fall xs = some l ∧ rbok l = true ∧ rbun l = b := by
  obtain ⟨e, hc, hk⟩ := bdec_back h
  obtain ⟨-, h1, -, h2⟩ := check_parts hc
  refine ⟨bencFlds b, ?_, ?_, ?_⟩
  · rw [← e, benc, fall_join]
    intro f hf
    have := benc_vals hc hk f hf
    omega
  · simp only [rbok, bencFlds, List.all_cons, byt_txt, pdec_enc h1 hk.1, Option.isSome_some, Bool.true_and, List.all_map, List.all_eq_true, Function.comp]
    intro d hd
    rw [pdec_enc (h2 d hd).2 (hk.2 d hd)]
    rfl
  · have e2 : b.dis.map (rbt ∘ fun d => (⟨17, txt (enc d)⟩ : Fld)) = b.dis := by
      conv => rhs; rw [← List.map_id b.dis]
      apply List.map_congr_left
      intro d hd
      exact rbt_enc 17 (h2 d hd).2 (hk.2 d hd)
    rw [bencFlds, rbun, rbt_enc 16 h1 hk.1, List.map_map, e2]
theorem rb_none {xs : List UInt8} {l : List Fld} (h : bdec xs = none) : ¬ (checkB (rbun l) = true ∧ benc (rbun l) = xs) := by
  rintro ⟨h1, h2⟩
  have := bdec_enc h1 (rbun_ok l)
  rw [h2, h] at this
  cases this
theorem bdec_is {xs : List UInt8} {l : List Fld} (hf : fall xs = some l) : bdec xs = if rbok l = true ∧ checkB (rbun l) = true ∧ benc (rbun l) = xs then some (rbun l) else none := by
  cases h : bdec xs with
  | none =>
    rw [if_neg]
    rintro ⟨_, h2⟩
    exact rb_none h h2
  | some b =>
    obtain ⟨l', e, h1, h2⟩ := rb_some h
    rw [hf] at e
    cases e
    obtain ⟨e1, e2, -⟩ := bdec_back h
    rw [h2, if_pos ⟨h1, e2, e1⟩]
set_option maxRecDepth 100000 in
set_option maxHeartbeats 3000000 in
theorem c_rbdecode (A : Option Addr) (n c : Nat) (xs : List UInt8) (ok : Nat → Prop) (w : World) (hR : kU8.Row ok w A n c xs) :
    Calls Try.prog 53 #[.slice A n c] w (BDecoded w xs) := by
  have HR := hide hR
  have hnm : n ≤ 9223372036854775807 := Nat.le_trans hR.2.1 hR.2.2.1
  have HL := hide hR.1
  clear hR
  by_cases hlong : 65536 < n
  · have HV : Hid (bvalD xs = none) := hide (by have := HL.out; simp [bvalD]; omega)
    have HC : Hid (bcodeD xs = 3) := hide (by have := HL.out; simp [bcodeD]; omega)
    go_enter Try.func53, Try.ntmps53
    go_wp2_with fail
    exact bodyPost_ret (v := .tuple #[.agg bunZ, .int .i64 3]) (by simp [results, Try.results53, go_sem]) rfl (bdec_fail HV.out HC.out 3 rfl (below1 _ _))
  · have HNL : Hid (¬ 65536 < xs.length) := hide (by rw [HL.out]; exact hlong)
    have hn : n ≤ 65536 := by omega
    go_enter Try.func53, Try.ntmps53
    go_wp2_with fail
    refine (c_rall A n c xs ok _ (HR.out.alloc _) (by omega)).mono ?_
    rintro e w1 ⟨b1, v, b, rfl, hb, ho⟩
    have HB1 := hide (bnext (below1 _ _) b1)
    have hz1 : row? w1 w.heap.size = some bunZ := row_of ((b1.block w.heap.size (by simp)).trans (heap_alloc_new _ _))
    have hw1 : w.heap.size < w1.heap.size := by have := b1.size; simp only [World.size_alloc] at this; omega
    clear b1
    obtain ⟨l, hl⟩ : ∃ l, l = (fall xs).getD [] := ⟨_, rfl⟩
    rw [← hl] at ho
    have HBE := hide hb
    have HLE := hide hl
    clear hb
    obtain ⟨A1, c1, rfl, hr1⟩ := ho.row
    have hob := ho.base_le
    have HFS : Hid (∀ f ∈ l, f.value.size ≤ xs.length) := hide (by
      rw [hl]
      cases hf : fall xs with
      | none => intro f h; simp at h
      | some q => exact fall_size hf)
    have hll : l.length ≤ 65536 := by
      rw [hl]
      cases hf : fall xs with
      | none => simp
      | some q => have := fall_len _ xs q (Nat.le_refl _) hf; have := HL.out; simp only [Option.getD_some]; omega
    have HRL := hide (hr1.bound.more (ok' := (· < w1.heap.size)) fun k hk => hk.2)
    clear hr1 ho hob hl
    go_wp2_with fail
    go_loopw [23, 5] (fun i fb wr => ∃ (k : Nat) (t : Tok) (ds : List Tok) (A2 : Option Addr) (n2 c2 : Nat) (V : Value) (fl : Bool), k ≤ l.length ∧ i = .int .i64 (k : Int) ∧ fb = .bool fl ∧
      Hid (fl = (b && rbok (l.take k))) ∧
      Hid (wr.heap[w1.heap.size]? = some (.cells (bunC (.int .u64 (t.key : Int)) (.string t.id) (.slice A2 n2 c2) (.bool t.bnd) t.tag V) 70)) ∧
      Hid (kCav.Row (fun k => w1.heap.size < k ∧ some k ≠ V.ownBlock) wr A2 n2 c2 t.cavs) ∧ Hid (kTok.Own (fun k => w1.heap.size < k) (w1.heap.size + 1) wr 59 V ds) ∧ Hid (rbun (l.take k) = ⟨t, ds⟩) ∧ Hid (ds.length ≤ k) ∧ Hid (Below w1.heap.size w1 wr)) (fun i _ _ => l.length - (intOf i).toNat)
    case atStart =>
      refine ⟨0, Tok.zero, [], none, 0, 0, .slice none 0 0, b, Nat.zero_le _, rfl, rfl, hide (by simp [rbok]), hide ?_, hide (.nil _ _ _ _ _ (Nat.zero_le _)), hide (.nil _ _ _ _ _), hide rfl, hide (Nat.le_refl _), hide ?_⟩
      · exact heap_alloc_new _ _
      · exact below1 _ _
    case round =>
      obtain ⟨k, t, ds, A2, n2, c2, V, fl, hk, rfl, rfl, HFL, HQ, HRT, HOD, HBP, HDL, HB⟩ := hrel
      have hgs : w1.heap.size < wr.heap.size := (Array.getElem?_eq_some_iff.1 HQ.out).1
      have hzr : row? wr w.heap.size = some bunZ := by
        have := hz1
        unfold row? at this ⊢
        rw [HB.out.block _ hw1]
        exact this
      have HBW : Hid (Below w.heap.size w wr) := hide (HB1.out.trans (HB.out.mono (by omega)))
      by_cases hlt : k < l.length
      · obtain ⟨f, hx⟩ : ∃ f, l[k]? = some f := ⟨_, List.getElem?_eq_getElem hlt⟩
        obtain ⟨b', q, cs, hix, -, hbl, hK, hra⟩ := (HRL.out.belowB (w' := wr) HB.out).index (P := Try.prog) Try.underlying88 (E := 134) rfld_size hx
        have hKe := hK.1
        subst hKe
        have hc0 := hra 0 _ rfl
        have hc1 := hra 1 _ rfl
        simp only [Nat.add_zero] at hc0
        have HTK : Hid (l.take (k + 1) = l.take k ++ [f]) := hide (by rw [List.take_add_one, hx]; rfl)
        have HFV := hide (HFS.out f (List.mem_of_getElem? hx))
        clear hx hK hra
        go_wp2_with (refine at_tobytes (P := Try.prog) 9 60 f.value rfl Try.underlying9 Try.underlying60 Try.underlying5 ?_ (wr.heap.size + 1) (by simp) ?_)
        · have := HFV.out; have := HL.out; omega
        intro c4 w4 hr4 b4 hl4
        have HR4 := hide hr4
        have HB4 := hide b4
        clear hr4 b4 hc0 hc1 hix hbl
        go_wp2_with fail
        refine (c_rdecode _ _ c4 _ _ w4 HR4.out (by have := HFV.out; have := HL.out; omega)).mono ?_
        rintro e w5 ⟨A5, n5, c5, rfl, hr5, b5⟩
        rw [rdec_eq] at hr5 ⊢
        obtain ⟨y, hy⟩ : ∃ y, y = (pdec (byt f.value)).getD Tok.zero := ⟨_, rfl⟩
        obtain ⟨sb, hsb⟩ : ∃ sb, sb = (pdec (byt f.value)).isSome := ⟨_, rfl⟩
        rw [← hy] at hr5 ⊢
        rw [← hsb]
        have HYE : Hid (y = rbt f) := hide hy
        have HSB := hide hsb
        have hw45 := b5.size
        have HB5 := hide (HB.out.trans ((below1 wr (.cells #[bv f.kind, .string f.value] 134)).mono (by omega) |>.trans ((HB4.out.mono (by omega)).trans (b5.mono (by omega)))))
        have HW5 := hide ((below1 wr (.cells #[bv f.kind, .string f.value] 134)).trans ((HB4.out.mono (by omega)).trans (b5.mono (by omega))))
        have hs5 : wr.heap.size < w5.heap.size := by omega
        have hg5' : w1.heap.size < w5.heap.size := by omega
        have hgz : ¬ w1.heap.size = w.heap.size := by omega
        have HQ5 : Hid (w5.heap[w1.heap.size]? = some (.cells (bunC (.int .u64 (t.key : Int)) (.string t.id) (.slice A2 n2 c2) (.bool t.bnd) t.tag V) 70)) := hide ((HW5.out.block _ hgs).trans HQ.out)
        have HYR : Hid (kCav.Row (fun k => w1.heap.size < k ∧ some k ≠ V.ownBlock) w5 A5 n5 c5 y.cavs) := hide (hr5.bound.more fun k hk => ⟨by omega, fun e => by have := own_block_lt HOD.out k e.symm; omega⟩)
        have HYK := hide (show y.key < 18446744073709551616 by rw [HYE.out]; exact (rbt_ok f).1)
        clear b5 hr5 hzr hy hsb
        have HOD5 := hide (HOD.out.below HW5.out)
        by_cases hk0 : k = 0
        · subst hk0
          cases fl with
          | true =>
            have HFN : Hid ((sb) = (b && rbok (l.take (0 + 1)))) := hide (by
              rw [HTK.out, rbok_snoc, ← Bool.and_assoc, ← HFL.out, HSB.out]; simp)
            have HNX : Hid (rbun (l.take (0 + 1)) = ⟨y, []⟩) := hide (by
              rw [HTK.out]
              simp only [List.take_zero, List.nil_append]
              rw [rbun, HYE.out]
              rfl)
            have hds : ds = [] := List.eq_nil_of_length_eq_zero (by have := HDL.out; omega)
            subst hds
            have hrg : row? w5 w1.heap.size = some (bunC (.int .u64 (t.key : Int)) (.string t.id) (.slice A2 n2 c2) (.bool t.bnd) t.tag V) := row_of HQ5.out
            go_wp2_with fail
            go_roundw
            case rel =>
              refine ⟨1, y, [], A5, n5, c5, V, _, by omega, by simp, rfl, HFN, hide ?_, hide ?_, hide ?_, HNX, hide (by simp), hide ?_⟩
              · exact (Below.heap_alloc _ _ _ (by simp only [size_setRow]; omega)).trans (setRow_heap _ _ _ _ _ _ HQ5.out)
              · exact (row_setRow HYR.out _ (Nat.le_refl _) _).alloc _
              · exact (own_setRow HOD5.out (Nat.lt_succ_self _) _ (Nat.le_refl _) _).below (below1 _ _)
              · exact (bsetRow HB5.out (Nat.le_refl _) _).alloc (by simp only [size_setRow]; omega) _
            case measure => simp [intOf]; omega
          | false =>
            have HFN : Hid ((false) = (b && rbok (l.take (0 + 1)))) := hide (by
              rw [HTK.out, rbok_snoc, ← Bool.and_assoc, ← HFL.out]; simp)
            have HNX : Hid (rbun (l.take (0 + 1)) = ⟨y, []⟩) := hide (by
              rw [HTK.out]
              simp only [List.take_zero, List.nil_append]
              rw [rbun, HYE.out]
              rfl)
            have hds : ds = [] := List.eq_nil_of_length_eq_zero (by have := HDL.out; omega)
            subst hds
            have hrg : row? w5 w1.heap.size = some (bunC (.int .u64 (t.key : Int)) (.string t.id) (.slice A2 n2 c2) (.bool t.bnd) t.tag V) := row_of HQ5.out
            go_wp2_with fail
            go_roundw
            case rel =>
              refine ⟨1, y, [], A5, n5, c5, V, _, by omega, by simp, rfl, HFN, hide ?_, hide ?_, hide ?_, HNX, hide (by simp), hide ?_⟩
              · exact (Below.heap_alloc _ _ _ (by simp only [size_setRow]; omega)).trans (setRow_heap _ _ _ _ _ _ HQ5.out)
              · exact (row_setRow HYR.out _ (Nat.le_refl _) _).alloc _
              · exact (own_setRow HOD5.out (Nat.lt_succ_self _) _ (Nat.le_refl _) _).below (below1 _ _)
              · exact (bsetRow HB5.out (Nat.le_refl _) _).alloc (by simp only [size_setRow]; omega) _
            case measure => simp [intOf]; omega
        · cases fl with
          | true =>
            have HFN : Hid ((sb) = (b && rbok (l.take (k + 1)))) := hide (by
              rw [HTK.out, rbok_snoc, ← Bool.and_assoc, ← HFL.out, HSB.out]; simp)
            have hkp : 0 < k := by omega
            have hk0i : ¬ (k : Int) = 0 := by omega
            have hk0b : ((k : Int) == 0) = false := beq_eq_false_iff_ne.2 hk0i
            have HNX : Hid (rbun (l.take (k + 1)) = ⟨t, ds ++ [y]⟩) := hide (by
              rw [HTK.out, rbun_snoc _ (fun e => by have := congrArg List.length e; rw [List.length_take] at this; simp only [List.length_nil] at this; omega), HBP.out, HYE.out])
            obtain ⟨B, d, rfl⟩ := HOD.out.form
            have hdis : w5.cell? ⟨w1.heap.size, 36, none⟩ = some (.slice B ds.length d) := (cell_of_row w5 _ _ _ _ _ HQ5.out).trans (bunC_36 _ _ _ _ _ _)
            go_wp2_with (first | refine at_buildTok _ _ _ _ _ _ rfl _ rfl ?_ | at_builtin; go_must (refine wpList_app (d := kTok) (ys := [y]) rfl _ _ _ rfl Try.underlying68 tok_info rfl (by decide) 1 rfl rfl (.inl ((HOD5.out.below (below1 _ _)).below (below1 _ _))) (Kd.Src.new (d := kTok) (ok := fun k => w1.heap.size < k ∧ some k ≠ (Value.slice B ds.length d).ownBlock) (cs := (tokA y A5 n5 c5).toList) ⟨A5, n5, c5, rfl, ?_, HYK.out⟩ _ rfl _ ?_) ?_ ?_ ?_ ?_))
            · exact (HYR.out.alloc _)
            · simp
            · simp only [World.size_alloc]; omega
            · have := HDL.out; simp only [maxLen]; omega
            · have := HDL.out; omega
            · intro v1 w6 _ h2 h3 h4 h5
              have hq6 : w6.heap[w1.heap.size]? = some (.cells (bunC (.int .u64 (t.key : Int)) (.string t.id) (.slice A2 n2 c2) (.bool t.bnd) t.tag (.slice B ds.length d)) 70) :=
                (h3.block _ (Nat.lt_succ_self _)).trans ((below2 w5 _ _).block _ hg5' |>.trans HQ5.out)
              have hfz : ∀ j, w6.frozen? ⟨w1.heap.size, j, none⟩ = false := fun j => frozen_of_row w6 _ _ _ _ hq6
              have hc6 : w6.cell? ⟨w1.heap.size, 36, none⟩ = some (.slice B ds.length d) := (cell_of_row w6 _ _ _ _ _ hq6).trans (bunC_36 _ _ _ _ _ _)
              have hk6 : ∀ k, k < w5.heap.size → some k ≠ (Value.slice B ds.length d).ownBlock → w6.heap[k]? = w5.heap[k]? := fun k hk hne =>
                (h4 k (by first | omega | (simp only [World.size_alloc]; omega)) hne).trans ((below2 w5 _ _).block k hk)
              have hv1 : ∀ k, k < w5.heap.size → some k ≠ (Value.slice B ds.length d).ownBlock → some k ≠ v1.ownBlock := fun k hk hne e => by
                rcases h5 with h5 | ⟨k', h5, h6⟩
                · rw [h5] at e; exact hne e
                · rw [h5] at e
                  have := Option.some.inj e
                  first | omega | (simp only [World.size_alloc] at h6; omega)
              have HRT6 : Hid (kCav.Row (fun k => w1.heap.size < k ∧ some k ≠ v1.ownBlock) w6 A2 n2 c2 t.cavs) := hide (
                (((HRT.out.below HW5.out).bound.more (ok' := fun k => (w1.heap.size < k ∧ some k ≠ v1.ownBlock) ∧ (k < w5.heap.size ∧ some k ≠ (Value.slice B ds.length d).ownBlock)) fun k hk => ⟨⟨hk.1.1, hv1 k hk.2 hk.1.2⟩, hk.2, hk.1.2⟩).keep fun k hk _ => hk6 k hk.2.1 hk.2.2).more fun k hk => hk.1)
              have HQ6 := hide hq6
              obtain ⟨Bv, dv, hve⟩ := h2.form
              rw [List.length_append, List.length_singleton] at hve
              subst hve
              have H2 := hide h2
              have HB6 : Hid (Below w1.heap.size w1 w6) := hide (HB5.out.trans (((below2 w5 _ _).mono (by omega)).trans (h3.mono (Nat.le_succ _))))
              clear h2 h3 h4 h5 hq6 hk6 hv1
              go_wp2_with fail
              go_roundw
              case rel =>
                refine ⟨k + 1, t, ds ++ [y], A2, n2, c2, .slice Bv (ds.length + 1) dv, _, by omega, by simp, rfl, HFN, hide ?_, hide ?_, hide ?_, HNX, hide (by have := HDL.out; simp; omega), hide ?_⟩
                · exact (heap_setCell_at HQ6.out _).trans (by rw [bunC_set36])
                · exact row_setCell HRT6.out _ _
                · exact own_setCell H2.out (Nat.lt_succ_self _) _ _
                · exact HB6.out.setCell (Nat.le_refl _) _
              case measure => simp [intOf]; omega
          | false =>
            have HFN : Hid ((false) = (b && rbok (l.take (k + 1)))) := hide (by
              rw [HTK.out, rbok_snoc, ← Bool.and_assoc, ← HFL.out]; simp)
            have hkp : 0 < k := by omega
            have hk0i : ¬ (k : Int) = 0 := by omega
            have hk0b : ((k : Int) == 0) = false := beq_eq_false_iff_ne.2 hk0i
            have HNX : Hid (rbun (l.take (k + 1)) = ⟨t, ds ++ [y]⟩) := hide (by
              rw [HTK.out, rbun_snoc _ (fun e => by have := congrArg List.length e; rw [List.length_take] at this; simp only [List.length_nil] at this; omega), HBP.out, HYE.out])
            obtain ⟨B, d, rfl⟩ := HOD.out.form
            have hdis : w5.cell? ⟨w1.heap.size, 36, none⟩ = some (.slice B ds.length d) := (cell_of_row w5 _ _ _ _ _ HQ5.out).trans (bunC_36 _ _ _ _ _ _)
            go_wp2_with (first | refine at_buildTok _ _ _ _ _ _ rfl _ rfl ?_ | at_builtin; go_must (refine wpList_app (d := kTok) (ys := [y]) rfl _ _ _ rfl Try.underlying68 tok_info rfl (by decide) 1 rfl rfl (.inl ((HOD5.out.below (below1 _ _)).below (below1 _ _))) (Kd.Src.new (d := kTok) (ok := fun k => w1.heap.size < k ∧ some k ≠ (Value.slice B ds.length d).ownBlock) (cs := (tokA y A5 n5 c5).toList) ⟨A5, n5, c5, rfl, ?_, HYK.out⟩ _ rfl _ ?_) ?_ ?_ ?_ ?_))
            · exact (HYR.out.alloc _)
            · simp
            · simp only [World.size_alloc]; omega
            · have := HDL.out; simp only [maxLen]; omega
            · have := HDL.out; omega
            · intro v1 w6 _ h2 h3 h4 h5
              have hq6 : w6.heap[w1.heap.size]? = some (.cells (bunC (.int .u64 (t.key : Int)) (.string t.id) (.slice A2 n2 c2) (.bool t.bnd) t.tag (.slice B ds.length d)) 70) :=
                (h3.block _ (Nat.lt_succ_self _)).trans ((below2 w5 _ _).block _ hg5' |>.trans HQ5.out)
              have hfz : ∀ j, w6.frozen? ⟨w1.heap.size, j, none⟩ = false := fun j => frozen_of_row w6 _ _ _ _ hq6
              have hc6 : w6.cell? ⟨w1.heap.size, 36, none⟩ = some (.slice B ds.length d) := (cell_of_row w6 _ _ _ _ _ hq6).trans (bunC_36 _ _ _ _ _ _)
              have hk6 : ∀ k, k < w5.heap.size → some k ≠ (Value.slice B ds.length d).ownBlock → w6.heap[k]? = w5.heap[k]? := fun k hk hne =>
                (h4 k (by first | omega | (simp only [World.size_alloc]; omega)) hne).trans ((below2 w5 _ _).block k hk)
              have hv1 : ∀ k, k < w5.heap.size → some k ≠ (Value.slice B ds.length d).ownBlock → some k ≠ v1.ownBlock := fun k hk hne e => by
                rcases h5 with h5 | ⟨k', h5, h6⟩
                · rw [h5] at e; exact hne e
                · rw [h5] at e
                  have := Option.some.inj e
                  first | omega | (simp only [World.size_alloc] at h6; omega)
              have HRT6 : Hid (kCav.Row (fun k => w1.heap.size < k ∧ some k ≠ v1.ownBlock) w6 A2 n2 c2 t.cavs) := hide (
                (((HRT.out.below HW5.out).bound.more (ok' := fun k => (w1.heap.size < k ∧ some k ≠ v1.ownBlock) ∧ (k < w5.heap.size ∧ some k ≠ (Value.slice B ds.length d).ownBlock)) fun k hk => ⟨⟨hk.1.1, hv1 k hk.2 hk.1.2⟩, hk.2, hk.1.2⟩).keep fun k hk _ => hk6 k hk.2.1 hk.2.2).more fun k hk => hk.1)
              have HQ6 := hide hq6
              obtain ⟨Bv, dv, hve⟩ := h2.form
              rw [List.length_append, List.length_singleton] at hve
              subst hve
              have H2 := hide h2
              have HB6 : Hid (Below w1.heap.size w1 w6) := hide (HB5.out.trans (((below2 w5 _ _).mono (by omega)).trans (h3.mono (Nat.le_succ _))))
              clear h2 h3 h4 h5 hq6 hk6 hv1
              go_wp2_with fail
              go_roundw
              case rel =>
                refine ⟨k + 1, t, ds ++ [y], A2, n2, c2, .slice Bv (ds.length + 1) dv, _, by omega, by simp, rfl, HFN, hide ?_, hide ?_, hide ?_, HNX, hide (by have := HDL.out; simp; omega), hide ?_⟩
                · exact (heap_setCell_at HQ6.out _).trans (by rw [bunC_set36])
                · exact row_setCell HRT6.out _ _
                · exact own_setCell H2.out (Nat.lt_succ_self _) _ _
                · exact HB6.out.setCell (Nat.le_refl _) _
              case measure => simp [intOf]; omega
      · obtain rfl : k = l.length := by omega
        rw [List.take_of_length_le (Nat.le_refl _)] at HBP HFL
        obtain ⟨B, d, rfl, hrd⟩ := HOD.out.row
        have hag : agg? wr ⟨w1.heap.size, 0, none⟩ 37 = some (bunA ⟨t, ds⟩ A2 n2 c2 B ds.length d) := by
          rw [agg_of_row HQ.out 0 37 (by decide)]
          exact bunC_part _ _ _ _ _ _
        have HAG := hide hag
        have HRD := hide hrd
        have HXW := hide (HR.out.below HBW.out)
        have HOB : Hid (∀ k, (w1.heap.size < k ∨ some k = (Value.slice B ds.length d).ownBlock) → w1.heap.size < k) := hide (fun k h => by
          rcases h with h | h
          · exact h
          · have := (HOD.out.base_le k h.symm).1; omega)
        have HOK : Hid ((⟨t, ds⟩ : Bun).ok) := hide (by rw [← HBP.out]; exact rbun_ok l)
        have HIS : Hid (∀ q, fall xs = some q → q = l ∧ b = true) := hide (fun q hq => ⟨by rw [HLE.out, hq]; rfl, by rw [HBE.out, hq]; rfl⟩)
        have HNO : Hid (fall xs = none → b = false) := hide (fun hq => by rw [HBE.out, hq]; rfl)
        clear hrd hag
        have hcode : (¬ (fl = true ∧ checkB ⟨t, ds⟩ = true ∧ benc ⟨t, ds⟩ = xs)) → bvalD xs = none ∧ bcodeD xs = 2 := fun h => bdec_none HNL.out (by
          cases hf : fall xs with
          | none => rw [bdec, hf]; rfl
          | some q =>
            obtain ⟨rfl, hb⟩ := HIS.out q hf
            rw [bdec_is hf, HBP.out, if_neg]
            rintro ⟨h1, h2⟩
            exact h ⟨by rw [HFL.out, hb, h1]; rfl, h2⟩)
        have HCO := hide hcode
        have hgood : fl = true → checkB ⟨t, ds⟩ = true → benc ⟨t, ds⟩ = xs → bvalD xs = some ⟨t, ds⟩ ∧ bcodeD xs = 0 := fun h1 h2 h3 => by
          have hb : bdec xs = some ⟨t, ds⟩ := by
            cases hf : fall xs with
            | none =>
              have := HNO.out hf
              rw [HFL.out, this] at h1
              cases h1
            | some q =>
              obtain ⟨rfl, hb⟩ := HIS.out q hf
              rw [HFL.out, hb, Bool.true_and] at h1
              rw [bdec_is hf, HBP.out, if_pos ⟨h1, h2, h3⟩]
          exact ⟨by rw [bvalD, if_neg HNL.out, hb], by rw [bcodeD, if_neg HNL.out, hb]; rfl⟩
        have HGO := hide hgood
        clear hcode hgood
        cases fl with
        | false =>
          have HPN := hide (HCO.out (by rintro ⟨h, _⟩; cases h))
          go_wp2_with fail
          refine wp_region_ext mixed 14 (fun i v w' => match i with
            | 0 => v = .bool false
            | 1 => v = .bool true
            | 2 => v = .bool true
            | 3 => v = undef
            | 4 => v = undef
            | 5 => v = undef
            | 6 => v = .bool true
            | 7 => v = .bool true
            | 8 => v = undef
            | 9 => v = undef
            | 10 => v = undef
            | 11 => v = undef
            | 12 => v = undef
            | _ => v = undef
            ) (by kernel_rfl) rfl ?_ ?_ ?_
          · intro i v w1 w2 h1 h2
            split at h2 <;> exact h2
          · refine ⟨fun a w2 hle hd hf hs K hK => ?_, fun a w2 hle hd hf hs K hK => ?_, fun a w2 hle hd hf hs K hK => ?_, fun a w2 hle hd hf hs K hK => ?_, fun a w2 hle hd hf hs K hK => ?_, fun a w2 hle hd hf hs K hK => ?_, fun a w2 hle hd hf hs K hK => ?_, fun a w2 hle hd hf hs K hK => ?_, fun a w2 hle hd hf hs K hK => ?_, fun a w2 hle hd hf hs K hK => ?_, fun a w2 hle hd hf hs K hK => ?_, fun a w2 hle hd hf hs K hK => ?_, fun a w2 hle hd hf hs K hK => ?_, fun a w2 hle hd hf hs K hK => ?_, trivial⟩
            all_goals clear hd
            · -- 50 := Op.move t5
              have e5 := hf 5 rfl; simp [Act.eval] at e5
              go_simp; exact hK _ _ (Ext.refl _) rfl
            · -- 51 := Op.unOp UnOp.not 4 t50
              have e50 := hs 0 50 (by kernel_rfl) rfl; simp [Act.eval] at e50
              go_simp; exact hK _ _ (Ext.refl _) rfl
            · -- 52 := Op.move t51
              have e51 := hs 1 51 (by kernel_rfl) rfl; simp [Act.eval] at e51
              go_simp; exact hK _ _ (Ext.refl _) rfl
            · -- 53 := Op.load 70 t6
              have gg := hs 2 52 (by kernel_rfl) rfl; simp [Act.eval] at gg; replace gg := opt_bool gg
              go_simp; exact hK _ _ (Ext.refl _) rfl
            · -- 54 := Op.call { value (Operand.func 55), args := #[t53], argTypes := #[70] }
              have gg := hs 2 52 (by kernel_rfl) rfl; simp [Act.eval] at gg; replace gg := opt_bool gg
              go_simp; exact hK _ _ (Ext.refl _) rfl
            · -- 55 := Op.unOp UnOp.not 4 t54
              have gg := hs 2 52 (by kernel_rfl) rfl; simp [Act.eval] at gg; replace gg := opt_bool gg
              go_simp; exact hK _ _ (Ext.refl _) rfl
            · -- 56 := Op.pick t52 (const (Value.bool true)) t55
              have e52 := hs 2 52 (by kernel_rfl) rfl; have e55 := hs 5 55 (by kernel_rfl) rfl; simp [Act.eval] at e52 e55
              go_simp; exact hK _ _ (Ext.refl _) rfl
            · -- 57 := Op.move t56
              have e56 := hs 6 56 (by kernel_rfl) rfl; simp [Act.eval] at e56
              go_simp; exact hK _ _ (Ext.refl _) rfl
            · -- 58 := Op.load 70 t6
              have gg := hs 7 57 (by kernel_rfl) rfl; simp [Act.eval] at gg; replace gg := opt_bool gg
              go_simp; exact hK _ _ (Ext.refl _) rfl
            · -- 59 := Op.call { value (Operand.func 82), args := #[t58], argTypes := #[70] }
              have gg := hs 7 57 (by kernel_rfl) rfl; simp [Act.eval] at gg; replace gg := opt_bool gg
              go_simp; exact hK _ _ (Ext.refl _) rfl
            · -- 60 := Op.convert 60 9 t59
              have gg := hs 7 57 (by kernel_rfl) rfl; simp [Act.eval] at gg; replace gg := opt_bool gg
              go_simp; exact hK _ _ (Ext.refl _) rfl
            · -- 61 := Op.move t0
              have gg := hs 7 57 (by kernel_rfl) rfl; simp [Act.eval] at gg; replace gg := opt_bool gg
              go_simp; exact hK _ _ (Ext.refl _) rfl
            · -- 62 := Op.convert 60 9 t61
              have gg := hs 7 57 (by kernel_rfl) rfl; simp [Act.eval] at gg; replace gg := opt_bool gg
              go_simp; exact hK _ _ (Ext.refl _) rfl
            · -- 63 := Op.binOp BinOp.neq 9 t60 t62 9
              have gg := hs 7 57 (by kernel_rfl) rfl; simp [Act.eval] at gg; replace gg := opt_bool gg
              go_simp; exact hK _ _ (Ext.refl _) rfl
          intro vs w8 hle hs
          have v7 := hs 7 (by omega) rfl
          simp only at v7
          clear hs
          have hz9 : row? w8 w.heap.size = some bunZ := by
            unfold row? at hzr ⊢
            rw [hle.block _ (by omega)]
            exact hzr
          have hag9 : agg? w8 ⟨w1.heap.size, 0, none⟩ 37 = some (bunA ⟨t, ds⟩ A2 n2 c2 B ds.length d) := (agg_block (hle.block _ hgs)).trans HAG.out
          have HB9 := hide (HBW.out.trans (hle.mono HBW.out.size))
          have HRT9 := hide (HRT.out.below hle)
          have HRD9 := hide (HRD.out.below hle)
          clear hle
          simp only [putN, dstAt]
          go_simp
          go_wp2_with fail
          exact bodyPost_ret (v := .tuple #[.agg bunZ, .int .i64 2]) (by simp [results, Try.results53, go_sem, hz9]) rfl (bdec_fail HPN.out.1 HPN.out.2 2 rfl (bsetRow HB9.out (Nat.le_refl _) _))
        | true =>
          go_wp2_with fail
          cases hck : checkB ⟨t, ds⟩ with
          | false =>
            have HPN := hide (HCO.out (by rintro ⟨_, h, _⟩; rw [hck] at h; cases h))
            have HCK := hide hck
            clear hck
            refine wp_region_ext mixed 14 (fun i v w' => match i with
              | 0 => v = .bool true
              | 1 => v = .bool false
              | 2 => v = .bool false
              | 3 => v = bunV ⟨t, ds⟩ A2 n2 c2 B ds.length d
              | 4 => v = .bool false
              | 5 => v = .bool true
              | 6 => v = .bool true
              | 7 => v = .bool true
              | 8 => v = undef
              | 9 => v = undef
              | 10 => v = undef
              | 11 => v = undef
              | 12 => v = undef
              | _ => v = undef
              ) (by kernel_rfl) rfl ?_ ?_ ?_
            · intro i v w1 w2 h1 h2
              split at h2 <;> exact h2
            · refine ⟨fun a w2 hle hd hf hs K hK => ?_, fun a w2 hle hd hf hs K hK => ?_, fun a w2 hle hd hf hs K hK => ?_, fun a w2 hle hd hf hs K hK => ?_, fun a w2 hle hd hf hs K hK => ?_, fun a w2 hle hd hf hs K hK => ?_, fun a w2 hle hd hf hs K hK => ?_, fun a w2 hle hd hf hs K hK => ?_, fun a w2 hle hd hf hs K hK => ?_, fun a w2 hle hd hf hs K hK => ?_, fun a w2 hle hd hf hs K hK => ?_, fun a w2 hle hd hf hs K hK => ?_, fun a w2 hle hd hf hs K hK => ?_, fun a w2 hle hd hf hs K hK => ?_, trivial⟩
              all_goals clear hd
              · -- 50 := Op.move t5
                have e5 := hf 5 rfl; simp [Act.eval] at e5
                go_simp; exact hK _ _ (Ext.refl _) rfl
              · -- 51 := Op.unOp UnOp.not 4 t50
                have e50 := hs 0 50 (by kernel_rfl) rfl; simp [Act.eval] at e50
                go_simp; exact hK _ _ (Ext.refl _) rfl
              · -- 52 := Op.move t51
                have e51 := hs 1 51 (by kernel_rfl) rfl; simp [Act.eval] at e51
                go_simp; exact hK _ _ (Ext.refl _) rfl
              · -- 53 := Op.load 70 t6
                have e6 := hf 6 rfl; have gg := hs 2 52 (by kernel_rfl) rfl; simp [Act.eval] at e6 gg; replace gg := opt_bool gg
                have hq : agg? w2 ⟨w1.heap.size, 0, none⟩ 37 = some (bunA ⟨t, ds⟩ A2 n2 c2 B ds.length d) := (agg_block (hle.block _ hgs)).trans HAG.out
                go_simp; exact hK _ _ (Ext.refl _) rfl
              · -- 54 := Op.call { value (Operand.func 55), args := #[t53], argTypes := #[70] }
                have e53 := hs 3 53 (by kernel_rfl) rfl; have gg := hs 2 52 (by kernel_rfl) rfl; simp [Act.eval] at e53 gg; replace gg := opt_bool gg
                go_simp
                refine (c_rbcheck ⟨t, ds⟩ A2 B n2 c2 ds.length d _ _ w2 (HRT.out.below hle) (HRD.out.below hle)).mono ?_
                rintro e w3 ⟨rfl, b3⟩
                exact hK _ _ b3 (congrArg Value.bool HCK.out)
              · -- 55 := Op.unOp UnOp.not 4 t54
                have e54 := hs 4 54 (by kernel_rfl) rfl; have gg := hs 2 52 (by kernel_rfl) rfl; simp [Act.eval] at e54 gg; replace gg := opt_bool gg
                go_simp; exact hK _ _ (Ext.refl _) rfl
              · -- 56 := Op.pick t52 (const (Value.bool true)) t55
                have e52 := hs 2 52 (by kernel_rfl) rfl; have e55 := hs 5 55 (by kernel_rfl) rfl; simp [Act.eval] at e52 e55
                go_simp; exact hK _ _ (Ext.refl _) rfl
              · -- 57 := Op.move t56
                have e56 := hs 6 56 (by kernel_rfl) rfl; simp [Act.eval] at e56
                go_simp; exact hK _ _ (Ext.refl _) rfl
              · -- 58 := Op.load 70 t6
                have gg := hs 7 57 (by kernel_rfl) rfl; simp [Act.eval] at gg; replace gg := opt_bool gg
                go_simp; exact hK _ _ (Ext.refl _) rfl
              · -- 59 := Op.call { value (Operand.func 82), args := #[t58], argTypes := #[70] }
                have gg := hs 7 57 (by kernel_rfl) rfl; simp [Act.eval] at gg; replace gg := opt_bool gg
                go_simp; exact hK _ _ (Ext.refl _) rfl
              · -- 60 := Op.convert 60 9 t59
                have gg := hs 7 57 (by kernel_rfl) rfl; simp [Act.eval] at gg; replace gg := opt_bool gg
                go_simp; exact hK _ _ (Ext.refl _) rfl
              · -- 61 := Op.move t0
                have gg := hs 7 57 (by kernel_rfl) rfl; simp [Act.eval] at gg; replace gg := opt_bool gg
                go_simp; exact hK _ _ (Ext.refl _) rfl
              · -- 62 := Op.convert 60 9 t61
                have gg := hs 7 57 (by kernel_rfl) rfl; simp [Act.eval] at gg; replace gg := opt_bool gg
                go_simp; exact hK _ _ (Ext.refl _) rfl
              · -- 63 := Op.binOp BinOp.neq 9 t60 t62 9
                have gg := hs 7 57 (by kernel_rfl) rfl; simp [Act.eval] at gg; replace gg := opt_bool gg
                go_simp; exact hK _ _ (Ext.refl _) rfl
            intro vs w8 hle hs
            have v7 := hs 7 (by omega) rfl
            simp only at v7
            clear hs
            have hz9 : row? w8 w.heap.size = some bunZ := by
              unfold row? at hzr ⊢
              rw [hle.block _ (by omega)]
              exact hzr
            have hag9 : agg? w8 ⟨w1.heap.size, 0, none⟩ 37 = some (bunA ⟨t, ds⟩ A2 n2 c2 B ds.length d) := (agg_block (hle.block _ hgs)).trans HAG.out
            have HB9 := hide (HBW.out.trans (hle.mono HBW.out.size))
            have HRT9 := hide (HRT.out.below hle)
            have HRD9 := hide (HRD.out.below hle)
            clear hle
            simp only [putN, dstAt]
            go_simp
            go_wp2_with fail
            exact bodyPost_ret (v := .tuple #[.agg bunZ, .int .i64 2]) (by simp [results, Try.results53, go_sem, hz9]) rfl (bdec_fail HPN.out.1 HPN.out.2 2 rfl (bsetRow HB9.out (Nat.le_refl _) _))
          | true =>
            have HCK := hide hck
            clear hck
            refine wp_region_ext mixed 14 (fun i v w' => match i with
              | 0 => v = .bool true
              | 1 => v = .bool false
              | 2 => v = .bool false
              | 3 => v = bunV ⟨t, ds⟩ A2 n2 c2 B ds.length d
              | 4 => v = .bool true
              | 5 => v = .bool false
              | 6 => v = .bool false
              | 7 => v = .bool false
              | 8 => v = bunV ⟨t, ds⟩ A2 n2 c2 B ds.length d
              | 9 => ∃ A c, v = .slice A (benc ⟨t, ds⟩).length c ∧ kU8.Row (fun _ => True) w' A (benc ⟨t, ds⟩).length c (benc ⟨t, ds⟩)
              | 10 => v = .string (txt (benc ⟨t, ds⟩))
              | 11 => v = .slice A n c
              | 12 => v = .string (txt xs)
              | _ => v = .bool (!decide (benc ⟨t, ds⟩ = xs))
              ) (by kernel_rfl) rfl ?_ ?_ ?_
            · intro i v w1 w2 h1 h2
              split at h2 <;> first | exact h2 | (obtain ⟨A, c, e, hr⟩ := h2; exact ⟨A, c, e, hr.below h1⟩)
            · refine ⟨fun a w2 hle hd hf hs K hK => ?_, fun a w2 hle hd hf hs K hK => ?_, fun a w2 hle hd hf hs K hK => ?_, fun a w2 hle hd hf hs K hK => ?_, fun a w2 hle hd hf hs K hK => ?_, fun a w2 hle hd hf hs K hK => ?_, fun a w2 hle hd hf hs K hK => ?_, fun a w2 hle hd hf hs K hK => ?_, fun a w2 hle hd hf hs K hK => ?_, fun a w2 hle hd hf hs K hK => ?_, fun a w2 hle hd hf hs K hK => ?_, fun a w2 hle hd hf hs K hK => ?_, fun a w2 hle hd hf hs K hK => ?_, fun a w2 hle hd hf hs K hK => ?_, trivial⟩
              all_goals clear hd
              · -- 50 := Op.move t5
                have e5 := hf 5 rfl; simp [Act.eval] at e5
                go_simp; exact hK _ _ (Ext.refl _) rfl
              · -- 51 := Op.unOp UnOp.not 4 t50
                have e50 := hs 0 50 (by kernel_rfl) rfl; simp [Act.eval] at e50
                go_simp; exact hK _ _ (Ext.refl _) rfl
              · -- 52 := Op.move t51
                have e51 := hs 1 51 (by kernel_rfl) rfl; simp [Act.eval] at e51
                go_simp; exact hK _ _ (Ext.refl _) rfl
              · -- 53 := Op.load 70 t6
                have e6 := hf 6 rfl; have gg := hs 2 52 (by kernel_rfl) rfl; simp [Act.eval] at e6 gg; replace gg := opt_bool gg
                have hq : agg? w2 ⟨w1.heap.size, 0, none⟩ 37 = some (bunA ⟨t, ds⟩ A2 n2 c2 B ds.length d) := (agg_block (hle.block _ hgs)).trans HAG.out
                go_simp; exact hK _ _ (Ext.refl _) rfl
              · -- 54 := Op.call { value (Operand.func 55), args := #[t53], argTypes := #[70] }
                have e53 := hs 3 53 (by kernel_rfl) rfl; have gg := hs 2 52 (by kernel_rfl) rfl; simp [Act.eval] at e53 gg; replace gg := opt_bool gg
                go_simp
                refine (c_rbcheck ⟨t, ds⟩ A2 B n2 c2 ds.length d _ _ w2 (HRT.out.below hle) (HRD.out.below hle)).mono ?_
                rintro e w3 ⟨rfl, b3⟩
                exact hK _ _ b3 (congrArg Value.bool HCK.out)
              · -- 55 := Op.unOp UnOp.not 4 t54
                have e54 := hs 4 54 (by kernel_rfl) rfl; have gg := hs 2 52 (by kernel_rfl) rfl; simp [Act.eval] at e54 gg; replace gg := opt_bool gg
                go_simp; exact hK _ _ (Ext.refl _) rfl
              · -- 56 := Op.pick t52 (const (Value.bool true)) t55
                have e52 := hs 2 52 (by kernel_rfl) rfl; have e55 := hs 5 55 (by kernel_rfl) rfl; simp [Act.eval] at e52 e55
                go_simp; exact hK _ _ (Ext.refl _) rfl
              · -- 57 := Op.move t56
                have e56 := hs 6 56 (by kernel_rfl) rfl; simp [Act.eval] at e56
                go_simp; exact hK _ _ (Ext.refl _) rfl
              · -- 58 := Op.load 70 t6
                have e6 := hf 6 rfl; have gg := hs 7 57 (by kernel_rfl) rfl; simp [Act.eval] at e6 gg; replace gg := opt_bool gg
                have hq : agg? w2 ⟨w1.heap.size, 0, none⟩ 37 = some (bunA ⟨t, ds⟩ A2 n2 c2 B ds.length d) := (agg_block (hle.block _ hgs)).trans HAG.out
                go_simp; exact hK _ _ (Ext.refl _) rfl
              · -- 59 := Op.call { value (Operand.func 82), args := #[t58], argTypes := #[70] }
                have e58 := hs 8 58 (by kernel_rfl) rfl; have gg := hs 7 57 (by kernel_rfl) rfl; simp [Act.eval] at e58 gg; replace gg := opt_bool gg
                go_simp
                refine (c_rbbytes ⟨t, ds⟩ A2 B n2 c2 ds.length d _ _ w2 (HRT.out.below hle) (HRD.out.below hle) HCK.out HOK.out).mono ?_
                rintro e w3 ⟨v, rfl, ho, hb⟩
                obtain ⟨A3, c3, rfl, hr⟩ := ho.row
                exact hK _ _ hb ⟨A3, c3, rfl, hr.more fun _ _ => trivial⟩
              · -- 60 := Op.convert 60 9 t59
                obtain ⟨A59, c59, e59, hr59⟩ := hs 9 59 (by kernel_rfl) rfl; have gg := hs 7 57 (by kernel_rfl) rfl; simp [Act.eval] at e59 gg; replace gg := opt_bool gg
                have hq := row_string (P := Try.prog) Try.underlying60 Try.underlying5 Try.underlying9 hr59
                go_simp; exact hK _ _ (Ext.refl _) rfl
              · -- 61 := Op.move t0
                have e0 := hf 0 rfl; have gg := hs 7 57 (by kernel_rfl) rfl; simp [Act.eval] at e0 gg; replace gg := opt_bool gg
                go_simp; exact hK _ _ (Ext.refl _) rfl
              · -- 62 := Op.convert 60 9 t61
                have e61 := hs 11 61 (by kernel_rfl) rfl; have gg := hs 7 57 (by kernel_rfl) rfl; simp [Act.eval] at e61 gg; replace gg := opt_bool gg
                have hq := row_string (P := Try.prog) Try.underlying60 Try.underlying5 Try.underlying9 (HXW.out.below hle)
                go_simp; exact hK _ _ (Ext.refl _) rfl
              · -- 63 := Op.binOp BinOp.neq 9 t60 t62 9
                have e60 := hs 10 60 (by kernel_rfl) rfl; have e62 := hs 12 62 (by kernel_rfl) rfl; have gg := hs 7 57 (by kernel_rfl) rfl; simp [Act.eval] at e60 e62 gg; replace gg := opt_bool gg
                by_cases hv : benc ⟨t, ds⟩ = xs
                · have h1 : (txt (benc ⟨t, ds⟩)).toList = (txt xs).toList := by rw [hv]
                  go_simp; exact hK _ _ (Ext.refl _) (by simp [hv])
                · have h1 : ¬ (txt (benc ⟨t, ds⟩)).toList = (txt xs).toList := fun e => hv (by
                    have h' := congrArg byt ((bytes_inj _ _).1 e)
                    rwa [byt_txt, byt_txt] at h')
                  go_simp; exact hK _ _ (Ext.refl _) (by simp [hv])
            intro vs w8 hle hs
            have v7 := hs 7 (by omega) rfl
            have v13 := hs 13 (by omega) rfl
            simp only at v7 v13
            clear hs
            have hz9 : row? w8 w.heap.size = some bunZ := by
              unfold row? at hzr ⊢
              rw [hle.block _ (by omega)]
              exact hzr
            have hag9 : agg? w8 ⟨w1.heap.size, 0, none⟩ 37 = some (bunA ⟨t, ds⟩ A2 n2 c2 B ds.length d) := (agg_block (hle.block _ hgs)).trans HAG.out
            have HB9 := hide (HBW.out.trans (hle.mono HBW.out.size))
            have HRT9 := hide (HRT.out.below hle)
            have HRD9 := hide (HRD.out.below hle)
            clear hle
            by_cases hv : benc ⟨t, ds⟩ = xs
            · have HGD := hide (HGO.out (by trivial) HCK.out hv)
              rw [decide_eq_true hv] at v13
              clear hv
              simp only [putN, dstAt]
              go_simp
              go_wp2_with fail
              exact bodyPost_ret (v := .tuple #[.agg (bunA ⟨t, ds⟩ A2 n2 c2 B ds.length d), .int .i64 0]) (by simp [results, Try.results53, go_sem, hz9]) rfl (by
                unfold BDecoded
                rw [HGD.out.1, HGD.out.2]
                exact ⟨A2, n2, c2, B, ds.length, d, rfl, (row_setRow HRT9.out _ (by omega) _).more (fun k hk => by have := hk.1; omega), (row_setRow (p := fun _ => True) (HRD9.out.more fun k h => ⟨HOB.out k h, trivial⟩) _ (by omega) _).more (fun k hk => by have := hk.1; omega), bsetRow HB9.out (Nat.le_refl _) _⟩)
            · have HPN := hide (HCO.out (by rintro ⟨_, _, h⟩; exact hv h))
              rw [decide_eq_false hv] at v13
              clear hv
              simp only [putN, dstAt]
              go_simp
              go_wp2_with fail
              exact bodyPost_ret (v := .tuple #[.agg bunZ, .int .i64 2]) (by simp [results, Try.results53, go_sem, hz9]) rfl (bdec_fail HPN.out.1 HPN.out.2 2 rfl (bsetRow HB9.out (Nat.le_refl _) _))
end Go.Proofs.Ytlfhbnajopekpaa
