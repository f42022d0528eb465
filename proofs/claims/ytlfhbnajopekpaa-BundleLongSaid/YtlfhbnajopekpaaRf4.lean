/- The walk of the document's answer for layer 10: a token out of its bytes. No condition. -/
import Derived.Test.YtlfhbnajopekpaaRf4a
import Derived.Test.YtlfhbnajopekpaaBunL
namespace Go.Proofs.Ytlfhbnajopekpaa
open Go.RowKit
attribute [local go_sem ↓] ld16 ld17 ld32 ld36
attribute [local go_sem] run_ldAgg run_storeAgg agg_alloc_at agg_alloc_past agg_drew agg_setCell row_alloc_at row_alloc_past row_drew setRow_alloc_at setRow_alloc_past setRow_drew agg_setRow_at agg_setRow_far cell_setRow_at cell_setRow_far row_setRow_far size_setRow tgC_size tgC_one tgC_part tgC_splice tokC_size tokC_0 tokC_1 tokC_2 tokC_3 tokC_g0 tokC_g1 tokC_g2 tokC_g3 tokC_part tokC_tag tokC_set0 tokC_set1 tokC_set2 tokC_set3 tokC_splice tokC_splice0 tgC_splice_any zero_tg zero_tok tokC_all tokC_ne tgC_ne

abbrev tokZ : Array Value := tokC (.int .u64 0) (.string ⟨#[]⟩) (.slice none 0 0) (.bool false) Tg.zero
def RDecoded (w : World) (o : Option Tok) (e : Ending) (w' : World) : Prop :=
  ∃ A n c, e = .returned (.tuple #[tokV (o.getD Tok.zero) A n c, .bool o.isSome]) ∧ kCav.Row (fun k => w.heap.size ≤ k) w' A n c (o.getD Tok.zero).cavs ∧ Below w.heap.size w w'
theorem rdec_fail {o : Option Tok} {w W : World} (h : o = none) (hB : Below w.heap.size w W) : RDecoded w o (.returned (.tuple #[.agg tokZ, .bool false])) W := by
  subst h
  exact ⟨none, 0, 0, rfl, .nil _ _ _ _ _ (Nat.zero_le _), hB⟩
theorem key_ne {k : UInt8} {n : Nat} (hn : n < 256) (h : ¬ k = UInt8.ofNat n) : ((k.toNat : Int) == (n : Int)) = false := by
  apply beq_eq_false_iff_ne.2
  intro e
  apply h
  apply UInt8.toNat_inj.1
  have : (UInt8.ofNat n).toNat = n := ofNat_toNat hn
  omega
theorem key_is {k : UInt8} {n : Nat} (hn : n < 256) (h : k = UInt8.ofNat n) : (k.toNat : Int) = (n : Int) := by
  have : (UInt8.ofNat n).toNat = n := ofNat_toNat hn
  rw [h, this]
set_option maxRecDepth 100000 in
set_option maxHeartbeats 3000000 in
theorem c_rdecode (A : Option Addr) (n c : Nat) (xs : List UInt8) (ok : Nat → Prop) (w : World) (hR : kU8.Row ok w A n c xs) (hn : n ≤ 1099511627776) :
    Calls Try.prog 42 #[.slice A n c] w (RDecoded w (rdec xs)) := by
  have HR := hide hR
  have HN := hide hn
  have HL := hide hR.1
  clear hR hn
  go_enter Try.func42, Try.ntmps42
  go_wp2_with fail
  refine (c_rall A n c xs ok _ (HR.out.below (below2 _ _ _)) HN.out).mono ?_
  rintro e w1 ⟨b1, v, b, rfl, hb, ho⟩
  have HB1 := hide (bnext (below2 _ _ _) b1)
  have hz1 : row? w1 w.heap.size = some tokZ := row_of ((b1.block w.heap.size (by simp; omega)).trans ((Below.heap_alloc _ _ _ (by simp)).trans (heap_alloc_new _ _)))
  have hq1 : w1.heap[w.heap.size + 1]? = some (.cells tokZ 59) := (b1.block _ (by simp)).trans (heap_new2 _ _ _)
  have hw1 : w.heap.size + 1 < w1.heap.size := (Array.getElem?_eq_some_iff.1 hq1).1
  have hal : agg? w1 ⟨w.heap.size + 1, 0, none⟩ 36 = some tokZ := by
    rw [agg_of_row hq1 0 36 (by decide)]
    exact tokC_part _ _ _ _ _
  have HQ1 := hide hq1
  clear b1 hq1
  cases hf : fall xs with
  | none =>
    rw [hf] at hb ho
    have HPN : Hid (rdec xs = none) := hide (by rw [rdec, hf]; rfl)
    obtain ⟨A1, c1, rfl⟩ := ho.form
    subst hb
    clear hf ho
    simp only [Option.isSome_none]
    go_wp2_with fail
    exact bodyPost_ret (v := .tuple #[.agg tokZ, .bool false]) (by simp [results, Try.results42, go_sem, hz1]) rfl (rdec_fail HPN.out (bsetRow HB1.out (Nat.le_refl _) _))
  | some l =>
    rw [hf] at hb ho
    simp only [Option.getD_some] at ho
    have ho1 := own_fld ho
    obtain ⟨A1, c1, rfl, hr1⟩ := ho1.row
    have hob := ho1.base_le
    subst hb
    have HFA := hide hf
    have HFS := hide (fall_size hf)
    have HFL := hide (fall_len _ xs l (Nat.le_refl _) hf)
    have HRL := hide (hr1.bound.more (ok' := fun k => k ≠ w.heap.size + 1 ∧ k < w1.heap.size) fun k hk => ⟨fun e => by
      rcases hk.1 with h | h
      · exact h
      · have := (hob k h.symm).1; simp only [World.size_alloc] at this; omega, hk.2⟩)
    have HLB : Hid (l.length ≤ 1099511627776) := hide (by have := HFL.out; have := HL.out; have := HN.out; omega)
    clear hr1 ho ho1 hob hf hal
    simp only [Option.isSome_some]
    go_wp2_with fail
    go_loopw [24] (fun i wr => ∃ (k m : Nat) (t : Tok) (A2 : Option Addr) (c2 : Nat), k ≤ l.length ∧ i = .int .i64 (k : Int) ∧ Hid (wr.heap[w.heap.size + 1]? = some (.cells (tokA t A2 m c2) 59)) ∧
      Hid (kCav.Own (fun _ => False) w1.heap.size wr 85 (.slice A2 m c2) t.cavs) ∧ Hid (m = t.cavs.length) ∧ Hid (t = loose (l.take k)) ∧ Hid (m ≤ k) ∧ Hid (Only (w.heap.size + 1) w1 wr)) (fun i _ => l.length - (intOf i).toNat)
    case atStart => exact ⟨0, 0, Tok.zero, none, 0, Nat.zero_le _, rfl, hide HQ1.out, hide (.nil _ _ _ _ _), hide rfl, hide rfl, hide (Nat.le_refl _), hide (Only.refl _ _)⟩
    case round =>
      obtain ⟨k, m, t, A2, c2, hk, rfl, HQ, HO, HM, HT, HMK, HON⟩ := hrel
      have hgs : w.heap.size + 1 < wr.heap.size := (Array.getElem?_eq_some_iff.1 HQ.out).1
      have hsz := HON.out.size
      have hzr : row? wr w.heap.size = some tokZ := by
        have := hz1
        unfold row? at this ⊢
        rw [HON.out.2.2.2.2 _ (by omega) (by omega)]
        exact this
      have HBW : Hid (Below w.heap.size w wr) := hide (HB1.out.trans (HON.out.b (by omega) (by omega)))
      by_cases hlt : k < l.length
      · obtain ⟨f, hx⟩ : ∃ f, l[k]? = some f := ⟨_, List.getElem?_eq_getElem hlt⟩
        obtain ⟨b, q, cs, hix, -, hbl, hK, hra⟩ := (HRL.out.keep (w' := wr) (fun j hj _ => HON.out.2.2.2.2 j hj.2 hj.1)).index (P := Try.prog) Try.underlying88 (E := 134) rfld_size hx
        obtain ⟨fk, fv⟩ := f
        have hKe := hK.1
        subst hKe
        have hc0 := hra 0 _ rfl
        have hc1 := hra 1 _ rfl
        simp only [Nat.add_zero] at hc0 hc1
        have HTK : Hid (loose (l.take (k + 1)) = rstep t ⟨fk, fv⟩) := hide (by rw [List.take_add_one, hx, HT.out]; exact loose_snoc _ _)
        have HFV : Hid (fv.size ≤ 1099511627776) := hide (by
          have h1 : fv.size ≤ xs.length := HFS.out ⟨fk, fv⟩ (List.mem_of_getElem? hx)
          have := HL.out; have := HN.out; omega)
        have HMB : Hid (m ≤ 1099511627776) := hide (by have := HMK.out; have := HLB.out; omega)
        clear hx hK hra
        go_wp2_with (refine at_tobytes (P := Try.prog) 9 60 fv rfl Try.underlying9 Try.underlying60 Try.underlying5 ?_ (wr.heap.size + 1) (by simp) ?_)
        · have := HFV.out; omega
        intro c4 w4 hr4 b4 hl4
        have HR4 := hide hr4
        have HB4 := hide b4
        have hg4 := (b4.block wr.heap.size (by omega)).trans (heap_alloc_new _ _)
        have HG4 := hide hg4
        clear hr4 b4 hg4 hc0 hc1 hix hbl
        go_wp2_with fail
        refine (c_rget _ _ c4 _ _ w4 HR4.out).mono ?_
        rintro e w5 ⟨rfl, b5⟩
        obtain ⟨nv, hnv⟩ : ∃ nv, nv = (vget (byt fv)).1 := ⟨_, rfl⟩
        obtain ⟨kv, hkv⟩ : ∃ kv, kv = (vget (byt fv)).2 := ⟨_, rfl⟩
        rw [← hnv, ← hkv]
        have HNV := hide hnv
        have HNL := hide (vget_lt (byt fv))
        have hw45 := b5.size
        have HW5 := hide ((below1 wr (.cells #[bv fk, .string fv] 134)).trans ((HB4.out.mono (by omega)).trans (b5.mono (by omega))))
        have hg5 := (b5.block _ (by omega)).trans HG4.out
        have hk0 : w5.cell? ⟨wr.heap.size, 0, none⟩ = some (bv fk) := (cell_of_row w5 _ _ _ _ _ hg5).trans rfl
        have hk1 : w5.cell? ⟨wr.heap.size, 1, none⟩ = some (.string fv) := (cell_of_row w5 _ _ _ _ _ hg5).trans rfl
        have hs5 : wr.heap.size < w5.heap.size := by omega
        have hq5 := (HW5.out.block _ hgs).trans HQ.out
        have hy0 : w5.cell? ⟨w.heap.size + 1, 0, none⟩ = some (.int .u64 (t.key : Int)) := (cell_of_row w5 _ _ _ _ _ hq5).trans (tokC_0 _ _ _ _ _)
        have hy1 : w5.cell? ⟨w.heap.size + 1, 1, none⟩ = some (.string t.id) := (cell_of_row w5 _ _ _ _ _ hq5).trans (tokC_1 _ _ _ _ _)
        have hy2 : w5.cell? ⟨w.heap.size + 1, 2, none⟩ = some (.slice A2 m c2) := (cell_of_row w5 _ _ _ _ _ hq5).trans (tokC_2 _ _ _ _ _)
        have hy3 : w5.cell? ⟨w.heap.size + 1, 3, none⟩ = some (.bool t.bnd) := (cell_of_row w5 _ _ _ _ _ hq5).trans (tokC_3 _ _ _ _ _)
        have hyf : ∀ j, w5.frozen? ⟨w.heap.size + 1, j, none⟩ = false := fun j => frozen_of_row w5 _ _ _ _ hq5
        have hyn : ¬ wr.heap.size = w.heap.size + 1 := by omega
        have hyn' : ¬ w.heap.size + 1 = wr.heap.size := by omega
        have HQ5 := hide hq5
        have HG5 := hide hg5
        have HO5 := hide (HO.out.below HW5.out)
        have HON5 := hide (HON.out.trans (Only.of HW5.out (Nat.le_refl _)))
        have hmb := HMB.out
        have hllb := HLB.out
        clear b5 hg5 hq5 hnv hkv
        by_cases h1 : fk = 1
        · have hkk : (fk.toNat : Int) = 1 := key_is (n := 1) (by decide) h1
          have HST : Hid (rstep t ⟨fk, fv⟩ = { t with key := nv }) := hide (by rw [h1]; exact by rw [rstep1, ← HNV.out])
          clear h1
          go_wp2_with fail
          go_loopw [12] (fun i wq => i = .int .i64 0 ∧ wq = (w5.setCell ⟨w.heap.size + 1, 0, none⟩ (.int .u64 (nv : Int)))) (fun _ _ => 0)
          case atStart => exact ⟨rfl, rfl⟩
          case round =>
            obtain ⟨rfl, rfl⟩ := hrel
            go_wp2_with fail
            go_roundw
            case rel =>
              refine ⟨k + 1, m, { t with key := nv }, A2, c2, by omega, by simp, hide ?_, hide ?_, hide ?_, hide (HTK.out.trans HST.out).symm, hide (by have := HMK.out; omega), hide ?_⟩
              · exact (heap_setCell_at HQ5.out _).trans (by rw [tokC_set0])
              · exact own_set HO5.out (by omega) _ _
              · exact HM.out
              · exact HON5.out.set _ _
            case measure => simp [intOf]; omega
        by_cases h2 : fk = 2
        · have hkk : (fk.toNat : Int) = 2 := key_is (n := 2) (by decide) h2
          have HST : Hid (rstep t ⟨fk, fv⟩ = { t with id := fv }) := hide (by rw [h2]; exact rstep2 _ _)
          clear h1 h2
          go_wp2_with fail
          go_loopw [12] (fun i wq => i = .int .i64 0 ∧ wq = (w5.setCell ⟨w.heap.size + 1, 1, none⟩ (.string fv))) (fun _ _ => 0)
          case atStart => exact ⟨rfl, rfl⟩
          case round =>
            obtain ⟨rfl, rfl⟩ := hrel
            go_wp2_with fail
            go_roundw
            case rel =>
              refine ⟨k + 1, m, { t with id := fv }, A2, c2, by omega, by simp, hide ?_, hide ?_, hide ?_, hide (HTK.out.trans HST.out).symm, hide (by have := HMK.out; omega), hide ?_⟩
              · exact (heap_setCell_at HQ5.out _).trans (by rw [tokC_set1])
              · exact own_set HO5.out (by omega) _ _
              · exact HM.out
              · exact HON5.out.set _ _
            case measure => simp [intOf]; omega
        by_cases h3 : fk = 3
        · have hkk : (fk.toNat : Int) = 3 := key_is (n := 3) (by decide) h3
          have HST : Hid (rstep t ⟨fk, fv⟩ = { t with cavs := t.cavs ++ [⟨false, fv, 0, ByteArray.empty, ByteArray.empty⟩] }) := hide (by rw [h3]; rfl)
          have HML := hide (show t.cavs.length ≤ 1099511627776 by have := HM.out; omega)
          clear h1 h2 h3
          go_wp2_with (at_builtin; go_must (refine wpList_app (d := kCav) (ys := [⟨false, fv, 0, ByteArray.empty, ByteArray.empty⟩]) rfl _ _ _ rfl Try.underlying57 cav_info rfl (by decide) 1 rfl rfl (.inl (HO5.out.below (below1 _ _))) (src_cav (ok := fun _ => True) (Kd.Src.new (d := kCav) (cs := Cav.cells ⟨false, fv, 0, ByteArray.empty, ByteArray.empty⟩) ⟨rfl, ?_⟩ _ rfl _ ?_)) ?_ ?_ ?_ ?_))
          · exact text_ok (by have := HFV.out; simp only [maxLen]; omega)
          · simp
          · simp only [World.size_alloc]; omega
          · have := HML.out; simp only [maxLen]; omega
          · have := HML.out; omega
          · intro v1 w6 _ h2 h3 h4 h5
            obtain ⟨A6, c6, hve⟩ := h2.form
            rw [List.length_append, List.length_singleton, ← HM.out] at hve
            subst hve
            have hbb := (below1 w5 (.cells (Cav.cells ⟨false, fv, 0, ByteArray.empty, ByteArray.empty⟩).toArray 85))
            have hu6 : ∀ j, j < w1.heap.size → w6.heap[j]? = w5.heap[j]? := fun j hj => (h3.block j hj).trans (hbb.block j (by omega))
            have hg6 : w6.heap[wr.heap.size]? = some (.cells #[bv fk, .string fv] 134) := by
              rw [h4 _ (by first | omega | (simp only [World.size_alloc]; omega)) (fun e => by
                have := (HO.out.base_le wr.heap.size e.symm).2
                omega)]
              exact (hbb.block _ hs5).trans HG5.out
            have hq6 : w6.heap[w.heap.size + 1]? = some (.cells (tokA t A2 m c2) 59) := (hu6 _ (by omega)).trans HQ5.out
            have hk0' : w6.cell? ⟨wr.heap.size, 0, none⟩ = some (bv fk) := (cell_of_row w6 _ _ _ _ _ hg6).trans rfl
            have hk1' : w6.cell? ⟨wr.heap.size, 1, none⟩ = some (.string fv) := (cell_of_row w6 _ _ _ _ _ hg6).trans rfl
            have hy2' : w6.cell? ⟨w.heap.size + 1, 2, none⟩ = some (.slice A2 m c2) := (cell_of_row w6 _ _ _ _ _ hq6).trans (tokC_2 _ _ _ _ _)
            have hyf' : ∀ j, w6.frozen? ⟨w.heap.size + 1, j, none⟩ = false := fun j => frozen_of_row w6 _ _ _ _ hq6
            have HQ6 := hide hq6
            have H2 := hide h2
            have HON6 : Hid (Only (w.heap.size + 1) w1 w6) := hide ((HON5.out.trans (Only.of hbb (Nat.le_refl _))).more (h3.mono (Nat.le_refl _)))
            clear h2 h3 h4 h5 hg6 hq6 hu6 hbb
            go_wp2_with fail
            go_loopw [12] (fun i wq => i = .int .i64 0 ∧ wq = (w6.setCell ⟨w.heap.size + 1, 2, none⟩ (.slice A6 (m + 1) c6))) (fun _ _ => 0)
            case atStart => exact ⟨rfl, rfl⟩
            case round =>
              obtain ⟨rfl, rfl⟩ := hrel
              go_wp2_with fail
              go_roundw
              case rel =>
                refine ⟨k + 1, m + 1, { t with cavs := t.cavs ++ [⟨false, fv, 0, ByteArray.empty, ByteArray.empty⟩] }, A6, c6, by omega, by simp, hide ?_, hide ?_, hide ?_, hide (HTK.out.trans HST.out).symm, hide (by have := HMK.out; omega), hide ?_⟩
                · exact (heap_setCell_at HQ6.out _).trans (by rw [tokC_set2])
                · exact own_set H2.out (by omega) _ _
                · rw [List.length_append, ← HM.out]; rfl
                · exact HON6.out.set _ _
              case measure => simp [intOf]; omega
        by_cases h4 : fk = 4
        · have hkk : (fk.toNat : Int) = 4 := key_is (n := 4) (by decide) h4
          have HST : Hid (rstep t ⟨fk, fv⟩ = { t with cavs := t.cavs ++ [⟨true, ByteArray.empty, nv, ByteArray.empty, ByteArray.empty⟩] }) := hide (by rw [h4, HNV.out]; rfl)
          have HML := hide (show t.cavs.length ≤ 1099511627776 by have := HM.out; omega)
          clear h1 h2 h3 h4
          go_wp2_with (at_builtin; go_must (refine wpList_app (d := kCav) (ys := [⟨true, ByteArray.empty, nv, ByteArray.empty, ByteArray.empty⟩]) rfl _ _ _ rfl Try.underlying57 cav_info rfl (by decide) 1 rfl rfl (.inl (HO5.out.below (below1 _ _))) (src_cav (ok := fun _ => True) (Kd.Src.new (d := kCav) (cs := Cav.cells ⟨true, ByteArray.empty, nv, ByteArray.empty, ByteArray.empty⟩) ⟨rfl, ?_⟩ _ rfl _ ?_)) ?_ ?_ ?_ ?_))
          · exact third_ok (by rw [HNV.out]; exact HNL.out) (by show (0 : Nat) ≤ _; omega) (by show (0 : Nat) ≤ _; omega)
          · simp
          · simp only [World.size_alloc]; omega
          · have := HML.out; simp only [maxLen]; omega
          · have := HML.out; omega
          · intro v1 w6 _ h2 h3 h4 h5
            obtain ⟨A6, c6, hve⟩ := h2.form
            rw [List.length_append, List.length_singleton, ← HM.out] at hve
            subst hve
            have hbb := (below1 w5 (.cells (Cav.cells ⟨true, ByteArray.empty, nv, ByteArray.empty, ByteArray.empty⟩).toArray 85))
            have hu6 : ∀ j, j < w1.heap.size → w6.heap[j]? = w5.heap[j]? := fun j hj => (h3.block j hj).trans (hbb.block j (by omega))
            have hg6 : w6.heap[wr.heap.size]? = some (.cells #[bv fk, .string fv] 134) := by
              rw [h4 _ (by first | omega | (simp only [World.size_alloc]; omega)) (fun e => by
                have := (HO.out.base_le wr.heap.size e.symm).2
                omega)]
              exact (hbb.block _ hs5).trans HG5.out
            have hq6 : w6.heap[w.heap.size + 1]? = some (.cells (tokA t A2 m c2) 59) := (hu6 _ (by omega)).trans HQ5.out
            have hk0' : w6.cell? ⟨wr.heap.size, 0, none⟩ = some (bv fk) := (cell_of_row w6 _ _ _ _ _ hg6).trans rfl
            have hk1' : w6.cell? ⟨wr.heap.size, 1, none⟩ = some (.string fv) := (cell_of_row w6 _ _ _ _ _ hg6).trans rfl
            have hy2' : w6.cell? ⟨w.heap.size + 1, 2, none⟩ = some (.slice A2 m c2) := (cell_of_row w6 _ _ _ _ _ hq6).trans (tokC_2 _ _ _ _ _)
            have hyf' : ∀ j, w6.frozen? ⟨w.heap.size + 1, j, none⟩ = false := fun j => frozen_of_row w6 _ _ _ _ hq6
            have HQ6 := hide hq6
            have H2 := hide h2
            have HON6 : Hid (Only (w.heap.size + 1) w1 w6) := hide ((HON5.out.trans (Only.of hbb (Nat.le_refl _))).more (h3.mono (Nat.le_refl _)))
            clear h2 h3 h4 h5 hg6 hq6 hu6 hbb
            go_wp2_with fail
            go_loopw [12] (fun i wq => i = .int .i64 0 ∧ wq = (w6.setCell ⟨w.heap.size + 1, 2, none⟩ (.slice A6 (m + 1) c6))) (fun _ _ => 0)
            case atStart => exact ⟨rfl, rfl⟩
            case round =>
              obtain ⟨rfl, rfl⟩ := hrel
              go_wp2_with fail
              go_roundw
              case rel =>
                refine ⟨k + 1, m + 1, { t with cavs := t.cavs ++ [⟨true, ByteArray.empty, nv, ByteArray.empty, ByteArray.empty⟩] }, A6, c6, by omega, by simp, hide ?_, hide ?_, hide ?_, hide (HTK.out.trans HST.out).symm, hide (by have := HMK.out; omega), hide ?_⟩
                · exact (heap_setCell_at HQ6.out _).trans (by rw [tokC_set2])
                · exact own_set H2.out (by omega) _ _
                · rw [List.length_append, ← HM.out]; rfl
                · exact HON6.out.set _ _
              case measure => simp [intOf]; omega
        by_cases h5 : fk = 5
        · have hkk : (fk.toNat : Int) = 5 := key_is (n := 5) (by decide) h5
          have HST : Hid (rstep t ⟨fk, fv⟩ = { t with cavs := t.cavs.modify (t.cavs.length - 1) fun c => { c with id := fv } }) := hide (by rw [h5]; rfl)
          clear h1 h2 h3 h4 h5
          by_cases hm0 : m = 0
          · subst hm0
            have HCE : Hid (t.cavs = []) := hide (List.eq_nil_of_length_eq_zero HM.out.symm)
            go_wp2_with fail
            go_loopw [12] (fun i wq => i = .int .i64 0 ∧ wq = w5) (fun _ _ => 0)
            case atStart => exact ⟨rfl, rfl⟩
            case round =>
              obtain ⟨rfl, rfl⟩ := hrel
              go_wp2_with fail
              go_roundw
              case rel =>
                refine ⟨k + 1, 0, { t with cavs := t.cavs.modify (t.cavs.length - 1) fun c => { c with id := fv } }, A2, c2, by omega, by simp, hide ?_, hide ?_, hide ?_, hide (HTK.out.trans HST.out).symm, hide (by have := HMK.out; omega), hide ?_⟩
                · exact HQ5.out
                · exact own_same HO5.out (by rw [HCE.out]; rfl)
                · rw [HCE.out]; rfl
                · exact HON5.out
              case measure => simp [intOf]; omega
          · obtain ⟨m', rfl⟩ : ∃ m', m = m' + 1 := ⟨m - 1, by omega⟩
            have hne : t.cavs ≠ [] := fun e => by have := HM.out; rw [e] at this; simp at this
            obtain ⟨x, hx⟩ : ∃ x, t.cavs[m']? = some x := ⟨_, List.getElem?_eq_getElem (by have := HM.out; omega)⟩
            obtain ⟨gb, cur, hA2, hbg, hgb, hcc⟩ := own_open HO5.out hne
            subst hA2
            have HX := hide hx
            obtain ⟨qq, hqq⟩ : ∃ qq, qq = m' * 5 := ⟨_, rfl⟩
            have HQQ := hide hqq
            have hcq : w5.cell? ⟨gb, qq + 3, none⟩ = some (.string x.id) := (cell_of_row w5 _ _ _ _ _ hgb).trans (by rw [hqq]; exact hcc m' 3 x _ hx rfl)
            have hfq : ∀ j, w5.frozen? ⟨gb, j, none⟩ = false := fun j => frozen_of_row w5 _ _ _ _ hgb
            have hgl : gb < w5.heap.size := (Array.getElem?_eq_some_iff.1 hgb).1
            have hgl2 : gb < wr.heap.size := (HO.out.base_le gb rfl).2
            obtain ⟨b9, q9, cs9, hix9, -, -, -, -⟩ := (own_row_of HO5.out).index (P := Try.prog) Try.underlying57 (E := 85) cav_size hx
            have hix : ∀ wx : World, (Instr.indexAt 57 (.slice (some ⟨gb, 0, none⟩) (m' + 1) c2) (.int .i64 (m' : Int))).run Try.prog wx = .ok (.pointer (some ⟨gb, qq, none⟩)) wx := fun wx => by
              have hs5 : (Try.prog.info? 85).map (·.size) = some 5 := cav_size
              rw [hqq]
              cases hq : Try.prog.info? 85 with
              | none => rw [hq] at hs5; cases hs5
              | some inf =>
                have hsi : inf.size = 5 := by rw [hq] at hs5; simpa using hs5
                simp [Instr.indexAt, asIntOf, run_underlying Try.underlying57, sizeOf, typeInfo, hq, hsi, Addr.add]
                omega
            have hn1 : ¬ wr.heap.size = gb := by omega
            have hn2 : ¬ w.heap.size + 1 = gb := by omega
            have HFX : Hid (t.cavs.modify (t.cavs.length - 1) (fun c => { c with id := fv }) = t.cavs.set m' { x with id := fv }) := hide (modify_set _ HM.out.symm hx)
            have HOKX : Hid (x.ok) := hide (by
              obtain ⟨css, he, -⟩ := HO5.out
              exact els_ok he x (List.mem_of_getElem? hx))
            clear hgb hcc hix9 hqq hx hne
            go_wp2_with fail
            go_loopw [12] (fun i wq => i = .int .i64 0 ∧ wq = (w5.setCell ⟨gb, qq + 3, none⟩ (.string fv))) (fun _ _ => 0)
            case atStart => exact ⟨rfl, rfl⟩
            case round =>
              obtain ⟨rfl, rfl⟩ := hrel
              go_wp2_with fail
              go_roundw
              case rel =>
                refine ⟨k + 1, m' + 1, { t with cavs := t.cavs.modify (t.cavs.length - 1) fun c => { c with id := fv } }, some ⟨gb, 0, none⟩, c2, by omega, by simp, hide ?_, hide ?_, hide ?_, hide (HTK.out.trans HST.out).symm, hide (by have := HMK.out; omega), hide ?_⟩
                · exact (Below.heap_setCell _ _ _ _ (by show w.heap.size + 1 ≠ gb; omega)).trans HQ5.out
                · rw [HFX.out, HQQ.out]; exact own_field HO5.out HX.out (by decide) rfl (⟨HOKX.out.1, HOKX.out.2.1, by have := HFV.out; simp only [maxLen]; omega, HOKX.out.2.2.2⟩)
                · rw [HFX.out, List.length_set]; exact HM.out
                · exact HON5.out.setNew (by show w1.heap.size ≤ gb; exact hbg) _
              case measure => simp [intOf]; omega
        by_cases h6 : fk = 6
        · have hkk : (fk.toNat : Int) = 6 := key_is (n := 6) (by decide) h6
          have HST : Hid (rstep t ⟨fk, fv⟩ = { t with cavs := t.cavs.modify (t.cavs.length - 1) fun c => { c with vault := fv } }) := hide (by rw [h6]; rfl)
          clear h1 h2 h3 h4 h5 h6
          by_cases hm0 : m = 0
          · subst hm0
            have HCE : Hid (t.cavs = []) := hide (List.eq_nil_of_length_eq_zero HM.out.symm)
            go_wp2_with fail
            go_loopw [12] (fun i wq => i = .int .i64 0 ∧ wq = w5) (fun _ _ => 0)
            case atStart => exact ⟨rfl, rfl⟩
            case round =>
              obtain ⟨rfl, rfl⟩ := hrel
              go_wp2_with fail
              go_roundw
              case rel =>
                refine ⟨k + 1, 0, { t with cavs := t.cavs.modify (t.cavs.length - 1) fun c => { c with vault := fv } }, A2, c2, by omega, by simp, hide ?_, hide ?_, hide ?_, hide (HTK.out.trans HST.out).symm, hide (by have := HMK.out; omega), hide ?_⟩
                · exact HQ5.out
                · exact own_same HO5.out (by rw [HCE.out]; rfl)
                · rw [HCE.out]; rfl
                · exact HON5.out
              case measure => simp [intOf]; omega
          · obtain ⟨m', rfl⟩ : ∃ m', m = m' + 1 := ⟨m - 1, by omega⟩
            have hne : t.cavs ≠ [] := fun e => by have := HM.out; rw [e] at this; simp at this
            obtain ⟨x, hx⟩ : ∃ x, t.cavs[m']? = some x := ⟨_, List.getElem?_eq_getElem (by have := HM.out; omega)⟩
            obtain ⟨gb, cur, hA2, hbg, hgb, hcc⟩ := own_open HO5.out hne
            subst hA2
            have HX := hide hx
            obtain ⟨qq, hqq⟩ : ∃ qq, qq = m' * 5 := ⟨_, rfl⟩
            have HQQ := hide hqq
            have hcq : w5.cell? ⟨gb, qq + 4, none⟩ = some (.string x.vault) := (cell_of_row w5 _ _ _ _ _ hgb).trans (by rw [hqq]; exact hcc m' 4 x _ hx rfl)
            have hfq : ∀ j, w5.frozen? ⟨gb, j, none⟩ = false := fun j => frozen_of_row w5 _ _ _ _ hgb
            have hgl : gb < w5.heap.size := (Array.getElem?_eq_some_iff.1 hgb).1
            have hgl2 : gb < wr.heap.size := (HO.out.base_le gb rfl).2
            obtain ⟨b9, q9, cs9, hix9, -, -, -, -⟩ := (own_row_of HO5.out).index (P := Try.prog) Try.underlying57 (E := 85) cav_size hx
            have hix : ∀ wx : World, (Instr.indexAt 57 (.slice (some ⟨gb, 0, none⟩) (m' + 1) c2) (.int .i64 (m' : Int))).run Try.prog wx = .ok (.pointer (some ⟨gb, qq, none⟩)) wx := fun wx => by
              have hs5 : (Try.prog.info? 85).map (·.size) = some 5 := cav_size
              rw [hqq]
              cases hq : Try.prog.info? 85 with
              | none => rw [hq] at hs5; cases hs5
              | some inf =>
                have hsi : inf.size = 5 := by rw [hq] at hs5; simpa using hs5
                simp [Instr.indexAt, asIntOf, run_underlying Try.underlying57, sizeOf, typeInfo, hq, hsi, Addr.add]
                omega
            have hn1 : ¬ wr.heap.size = gb := by omega
            have hn2 : ¬ w.heap.size + 1 = gb := by omega
            have HFX : Hid (t.cavs.modify (t.cavs.length - 1) (fun c => { c with vault := fv }) = t.cavs.set m' { x with vault := fv }) := hide (modify_set _ HM.out.symm hx)
            have HOKX : Hid (x.ok) := hide (by
              obtain ⟨css, he, -⟩ := HO5.out
              exact els_ok he x (List.mem_of_getElem? hx))
            clear hgb hcc hix9 hqq hx hne
            go_wp2_with fail
            go_loopw [12] (fun i wq => i = .int .i64 0 ∧ wq = (w5.setCell ⟨gb, qq + 4, none⟩ (.string fv))) (fun _ _ => 0)
            case atStart => exact ⟨rfl, rfl⟩
            case round =>
              obtain ⟨rfl, rfl⟩ := hrel
              go_wp2_with fail
              go_roundw
              case rel =>
                refine ⟨k + 1, m' + 1, { t with cavs := t.cavs.modify (t.cavs.length - 1) fun c => { c with vault := fv } }, some ⟨gb, 0, none⟩, c2, by omega, by simp, hide ?_, hide ?_, hide ?_, hide (HTK.out.trans HST.out).symm, hide (by have := HMK.out; omega), hide ?_⟩
                · exact (Below.heap_setCell _ _ _ _ (by show w.heap.size + 1 ≠ gb; omega)).trans HQ5.out
                · rw [HFX.out, HQQ.out]; exact own_field HO5.out HX.out (by decide) rfl (⟨HOKX.out.1, HOKX.out.2.1, HOKX.out.2.2.1, by have := HFV.out; simp only [maxLen]; omega⟩)
                · rw [HFX.out, List.length_set]; exact HM.out
                · exact HON5.out.setNew (by show w1.heap.size ≤ gb; exact hbg) _
              case measure => simp [intOf]; omega
        by_cases h7 : fk = 7
        · have hkk : (fk.toNat : Int) = 7 := key_is (n := 7) (by decide) h7
          obtain ⟨fb, hfb⟩ : ∃ fb, fb = (fv.toList == [1]) := ⟨_, rfl⟩
          have HFB := hide (hfb.trans (flag_eq fv 1))
          have HST : Hid (rstep t ⟨fk, fv⟩ = { t with bnd := fb }) := hide (by rw [h7, rstep7, HFB.out]; rfl)
          have hst := row_string (P := Try.prog) Try.underlying60 Try.underlying5 Try.underlying9 (one_row (ok := fun _ => True) (b := 1) (E := 5) (fr := (0, 0)) (heap_alloc_new w5 _) trivial)
          have hst : (convert 60 9 (.slice (some ⟨w5.heap.size, 0, none⟩) 1 1)).run Try.prog (w5.alloc (.cells #[.int .u8 1] 5)) = .ok (.string ⟨#[1]⟩) (w5.alloc (.cells #[.int .u8 1] 5)) := hst
          have h1l : (⟨#[1]⟩ : ByteArray).toList = [1] := by rw [ByteArray.toList_eq]
          clear h1 h2 h3 h4 h5 h6 h7
          have hgs5 : w.heap.size + 1 < w5.heap.size := by omega
          go_wp2_with fail
          rw [← hfb]
          clear hfb
          go_loopw [12] (fun i wq => i = .int .i64 0 ∧ wq = ((w5.setCell ⟨w.heap.size + 1, 3, none⟩ (.bool fb)).alloc (.cells #[.int .u8 1] 5))) (fun _ _ => 0)
          case atStart => exact ⟨rfl, rfl⟩
          case round =>
            obtain ⟨rfl, rfl⟩ := hrel
            go_wp2_with fail
            go_roundw
            case rel =>
              refine ⟨k + 1, m, { t with bnd := fb }, A2, c2, by omega, by simp, hide ?_, hide ?_, hide ?_, hide (HTK.out.trans HST.out).symm, hide (by have := HMK.out; omega), hide ?_⟩
              · exact (Below.heap_alloc _ _ _ (by simp; omega)).trans ((heap_setCell_at HQ5.out _).trans (by rw [tokC_set3]))
              · exact (own_set HO5.out (by omega) _ _).below (below1 _ _)
              · exact HM.out
              · exact (HON5.out.set _ _).alloc _
            case measure => simp [intOf]; omega
        by_cases h8 : fk = 8
        · have hkk : (fk.toNat : Int) = 8 := key_is (n := 8) (by decide) h8
          have HST : Hid (rstep t ⟨fk, fv⟩ = { t with tag := overlay t.tag (byt fv) }) := hide (by rw [h8]; exact rstep8 _ _)
          clear h1 h2 h3 h4 h5 h6 h7 h8
          obtain ⟨L, hL⟩ : ∃ L, L = fv.size := ⟨_, rfl⟩
          have HLL := hide hL
          have hlen := HFV.out
          rw [← hL] at hlen
          have hlenr : ∀ ty wx, (Builtin.len_ #[9] ty #[.string fv]).run Try.prog wx = .ok (.int .i64 (L : Int)) wx := fun ty wx => by
            rw [run_len_string wx 9 ty fv Try.underlying9, hL]
            rfl
          clear hL
          have HKW : Hid (∀ W : World, Only (w.heap.size + 1) w5 W → W.cell? ⟨wr.heap.size, 0, none⟩ = some (bv fk) ∧ W.cell? ⟨wr.heap.size, 1, none⟩ = some (.string fv)) := hide (fun W hW => by
            have hgq : W.heap[wr.heap.size]? = some (.cells #[bv fk, .string fv] 134) := (hW.2.2.2.2 _ hs5 hyn).trans HG5.out
            exact ⟨(cell_of_row W _ _ _ _ _ hgq).trans rfl, (cell_of_row W _ _ _ _ _ hgq).trans rfl⟩)
          go_wp2_with fail
          go_loopw [12] (fun i wq => ∃ (j : Nat) (T : Tg), j ≤ 32 ∧ j ≤ L ∧ i = .int .i64 (j : Int) ∧ Hid (wq.heap[w.heap.size + 1]? = some (.cells (tokA { t with tag := T } A2 m c2) 59)) ∧ Hid (T.l = (byt fv).take j ++ t.tag.l.drop j) ∧ Hid (Only (w.heap.size + 1) w5 wq)) (fun i _ => 32 - (intOf i).toNat)
          case atStart => exact ⟨0, t.tag, by omega, by omega, rfl, hide HQ5.out, hide (by simp), hide (Only.refl _ _)⟩
          case round =>
            obtain ⟨j, T, hj, hjL, rfl, HQJ, HTL, HOJ⟩ := hrel
            obtain ⟨hk0', hk1'⟩ := HKW.out _ HOJ.out
            have hyf' : ∀ j, wr.frozen? ⟨w.heap.size + 1, j, none⟩ = false := fun j => frozen_of_row wr _ _ _ _ HQJ.out
            by_cases hgo : j < 32 ∧ j < L
            · obtain ⟨hj32, hjl⟩ := hgo
              obtain ⟨x, hx⟩ : ∃ x, (byt fv)[j]? = some x := ⟨_, List.getElem?_eq_getElem (by rw [byt_len, ← HLL.out]; exact hjl)⟩
              obtain ⟨y, hy⟩ : ∃ y, T.l[j]? = some y := ⟨_, List.getElem?_eq_getElem (by rw [T.len]; exact hj32)⟩
              have hixs := index_str (P := Try.prog) Try.underlying9 hx
              have hct : wr.cell? ⟨w.heap.size + 1, 4 + j, none⟩ = some (bv y) := (cell_of_row wr _ _ _ _ _ HQJ.out).trans (tokC_tagAt _ _ _ _ _ hy)
              have HTN : Hid ((T.l.set j x) = (byt fv).take (j + 1) ++ t.tag.l.drop (j + 1)) := hide (by rw [HTL.out]; exact part_set hx (by rw [t.tag.len]; exact hj32))
              clear hx hy
              go_wp2_with fail
              go_roundw
              case rel =>
                refine ⟨j + 1, ⟨T.l.set j x, by rw [List.length_set, T.len]⟩, by omega, by omega, by simp, hide ?_, HTN, hide (HOJ.out.set _ _)⟩
                exact (heap_setCell_at HQJ.out _).trans (by rw [tokC_setTag _ _ _ _ T ⟨T.l.set j x, by rw [List.length_set, T.len]⟩ j x rfl])
              case measure => simp [intOf]; omega
            · have HTE : Hid (T = overlay t.tag (byt fv)) := hide (by
                have e := HTL.out
                have hl : (byt fv).length = L := by rw [byt_len, HLL.out]
                cases T with
                | mk tl len =>
                  simp only [overlay, Tg.mk.injEq]
                  simp only at e
                  rw [e, hl]
                  rcases Nat.lt_or_ge j 32 with h | h
                  · have : j = L := by omega
                    subst this
                    rw [List.take_of_length_le (by omega), List.take_of_length_le (by omega), Nat.min_eq_right (by omega)]
                  · have : j = 32 := by omega
                    subst this
                    rw [Nat.min_eq_left (by omega)])
              have hgo1 : 32 ≤ j ∨ L ≤ j := by omega
              have hjd : decide ((j : Int) < 32) = true ∨ decide ((j : Int) < 32) = false := by cases decide ((j : Int) < 32) <;> simp
              by_cases hj32 : j < 32
              · have hjl : ¬ j < L := by omega
                clear hgo hgo1 hjd
                go_wp2_with fail
                go_roundw
                case rel =>
                  refine ⟨k + 1, m, { t with tag := T }, A2, c2, by omega, by simp, HQJ, hide (own_only HO5.out (by omega) HOJ.out), HM, hide ?_, hide (by have := HMK.out; omega), hide (HON5.out.trans HOJ.out)⟩
                  rw [HTE.out]; exact (HTK.out.trans HST.out).symm
                case measure => simp [intOf]; omega
              · clear hgo hgo1 hjd
                go_wp2_with fail
                go_roundw
                case rel =>
                  refine ⟨k + 1, m, { t with tag := T }, A2, c2, by omega, by simp, HQJ, hide (own_only HO5.out (by omega) HOJ.out), HM, hide ?_, hide (by have := HMK.out; omega), hide (HON5.out.trans HOJ.out)⟩
                  rw [HTE.out]; exact (HTK.out.trans HST.out).symm
                case measure => simp [intOf]; omega
        have hq1 : ((fk.toNat : Int) == 1) = false := key_ne (n := 1) (by decide) h1
        have hq2 : ((fk.toNat : Int) == 2) = false := key_ne (n := 2) (by decide) h2
        have hq3 : ((fk.toNat : Int) == 3) = false := key_ne (n := 3) (by decide) h3
        have hq4 : ((fk.toNat : Int) == 4) = false := key_ne (n := 4) (by decide) h4
        have hq5 : ((fk.toNat : Int) == 5) = false := key_ne (n := 5) (by decide) h5
        have hq6 : ((fk.toNat : Int) == 6) = false := key_ne (n := 6) (by decide) h6
        have hq7 : ((fk.toNat : Int) == 7) = false := key_ne (n := 7) (by decide) h7
        have hq8 : ((fk.toNat : Int) == 8) = false := key_ne (n := 8) (by decide) h8
        have HST : Hid (rstep t ⟨fk, fv⟩ = t) := hide (by
          unfold rstep
          rw [if_neg h1, if_neg h2, if_neg h3, if_neg h4, if_neg h5, if_neg h6, if_neg h7, if_neg h8])
        clear h1 h2 h3 h4 h5 h6 h7 h8
        go_wp2_with fail
        go_loopw [12] (fun i wq => i = .int .i64 0 ∧ wq = w5) (fun _ _ => 0)
        case atStart => exact ⟨rfl, rfl⟩
        case round =>
          obtain ⟨rfl, rfl⟩ := hrel
          go_wp2_with fail
          go_roundw
          case rel =>
            refine ⟨k + 1, m, t, A2, c2, by omega, by simp, hide ?_, hide ?_, hide ?_, hide (HTK.out.trans HST.out).symm, hide (by have := HMK.out; omega), hide ?_⟩
            · exact HQ5.out
            · exact HO5.out
            · exact HM.out
            · exact HON5.out
          case measure => simp [intOf]; omega
      · obtain rfl : k = l.length := by omega
        rw [List.take_of_length_le (Nat.le_refl _)] at HT
        have hok : t.ok := by rw [HT.out]; exact loose_ok l
        have hag : agg? wr ⟨w.heap.size + 1, 0, none⟩ 36 = some (tokA t A2 m c2) := by
          rw [agg_of_row HQ.out 0 36 (by decide)]
          exact tokC_part _ _ _ _ _
        have HOK := hide hok
        have HRC := hide (own_row_of HO.out)
        have HXW := hide (HR.out.below HBW.out)
        have HAG := hide hag
        clear hok hag
        go_wp2_with fail
        cases hck : checkT t with
        | false =>
          have HPN : Hid (rdec xs = none) := hide (by rw [rdec, HFA.out, Option.bind_some, ← HT.out, if_neg]; rintro ⟨h, -⟩; rw [hck] at h; cases h)
          have HCK := hide hck
          clear hck
          refine wp_region_ext mixed 10 (fun i v w' => match i with
            | 0 => v = tokV t A2 m c2
            | 1 => v = .bool false
            | 2 => v = .bool true
            | 3 => v = .bool true
            | _ => v = undef
            ) (by kernel_rfl) rfl ?_ ?_ ?_
          · intro i v w1 w2 h1 h2
            split at h2 <;> exact h2
          · refine ⟨fun a w2 hle hd hf hs K hK => ?_, fun a w2 hle hd hf hs K hK => ?_, fun a w2 hle hd hf hs K hK => ?_, fun a w2 hle hd hf hs K hK => ?_, fun a w2 hle hd hf hs K hK => ?_, fun a w2 hle hd hf hs K hK => ?_, fun a w2 hle hd hf hs K hK => ?_, fun a w2 hle hd hf hs K hK => ?_, fun a w2 hle hd hf hs K hK => ?_, fun a w2 hle hd hf hs K hK => ?_, trivial⟩
            all_goals clear hd
            · have e4 := hf 4 rfl; simp [Act.eval] at e4
              have hq : agg? w2 ⟨w.heap.size + 1, 0, none⟩ 36 = some (tokA t A2 m c2) := (agg_block (hle.block _ hgs)).trans HAG.out
              go_simp; exact hK _ _ (Ext.refl _) rfl
            · have e132 := hs 0 132 (by kernel_rfl) rfl; simp [Act.eval] at e132
              go_simp
              refine (c_rcheck t A2 m c2 _ w2 (HRC.out.below hle)).mono ?_
              rintro e w3 ⟨rfl, b3⟩
              exact hK _ _ b3 (congrArg Value.bool HCK.out)
            · have e133 := hs 1 133 (by kernel_rfl) rfl; simp [Act.eval] at e133
              go_simp; exact hK _ _ (Ext.refl _) rfl
            · have e134 := hs 2 134 (by kernel_rfl) rfl; simp [Act.eval] at e134
              go_simp; exact hK _ _ (Ext.refl _) rfl
            · have gg := hs 3 135 (by kernel_rfl) rfl; simp [Act.eval] at gg; replace gg := opt_bool gg
              go_simp; exact hK _ _ (Ext.refl _) rfl
            · have gg := hs 3 135 (by kernel_rfl) rfl; simp [Act.eval] at gg; replace gg := opt_bool gg
              go_simp; exact hK _ _ (Ext.refl _) rfl
            · have gg := hs 3 135 (by kernel_rfl) rfl; simp [Act.eval] at gg; replace gg := opt_bool gg
              go_simp; exact hK _ _ (Ext.refl _) rfl
            · have gg := hs 3 135 (by kernel_rfl) rfl; simp [Act.eval] at gg; replace gg := opt_bool gg
              go_simp; exact hK _ _ (Ext.refl _) rfl
            · have gg := hs 3 135 (by kernel_rfl) rfl; simp [Act.eval] at gg; replace gg := opt_bool gg
              go_simp; exact hK _ _ (Ext.refl _) rfl
            · have gg := hs 3 135 (by kernel_rfl) rfl; simp [Act.eval] at gg; replace gg := opt_bool gg
              go_simp; exact hK _ _ (Ext.refl _) rfl
          intro vs w8 hle hs
          have v3 := hs 3 (by omega) rfl
          simp only at v3
          clear hs
          have hz8 : row? w8 w.heap.size = some tokZ := by
            unfold row? at hzr ⊢
            rw [hle.block _ (by omega)]
            exact hzr
          have HB8 := hide (HBW.out.trans (hle.mono HBW.out.size))
          clear hle
          simp only [putN, dstAt]
          go_simp
          go_wp2_with fail
          exact bodyPost_ret (v := .tuple #[.agg tokZ, .bool false]) (by simp [results, Try.results42, go_sem, hz8]) rfl (rdec_fail HPN.out (bsetRow HB8.out (Nat.le_refl _) _))
        | true =>
          have HCK := hide hck
          clear hck
          refine wp_region_ext mixed 10 (fun i v w' => match i with
            | 0 => v = tokV t A2 m c2
            | 1 => v = .bool true
            | 2 => v = .bool false
            | 3 => v = .bool false
            | 4 => v = tokV t A2 m c2
            | 5 => ∃ A c, v = .slice A (enc t).length c ∧ kU8.Row (fun _ => True) w' A (enc t).length c (enc t)
            | 6 => v = .string (txt (enc t))
            | 7 => v = .slice A n c
            | 8 => v = .string (txt xs)
            | _ => v = .bool (!decide (enc t = xs))
            ) (by kernel_rfl) rfl ?_ ?_ ?_
          · intro i v w1 w2 h1 h2
            split at h2 <;> first | exact h2 | (obtain ⟨A, c, e, hr⟩ := h2; exact ⟨A, c, e, hr.below h1⟩)
          · refine ⟨fun a w2 hle hd hf hs K hK => ?_, fun a w2 hle hd hf hs K hK => ?_, fun a w2 hle hd hf hs K hK => ?_, fun a w2 hle hd hf hs K hK => ?_, fun a w2 hle hd hf hs K hK => ?_, fun a w2 hle hd hf hs K hK => ?_, fun a w2 hle hd hf hs K hK => ?_, fun a w2 hle hd hf hs K hK => ?_, fun a w2 hle hd hf hs K hK => ?_, fun a w2 hle hd hf hs K hK => ?_, trivial⟩
            all_goals clear hd
            · have e4 := hf 4 rfl; simp [Act.eval] at e4
              have hq : agg? w2 ⟨w.heap.size + 1, 0, none⟩ 36 = some (tokA t A2 m c2) := (agg_block (hle.block _ hgs)).trans HAG.out
              go_simp; exact hK _ _ (Ext.refl _) rfl
            · have e132 := hs 0 132 (by kernel_rfl) rfl; simp [Act.eval] at e132
              go_simp
              refine (c_rcheck t A2 m c2 _ w2 (HRC.out.below hle)).mono ?_
              rintro e w3 ⟨rfl, b3⟩
              exact hK _ _ b3 (congrArg Value.bool HCK.out)
            · have e133 := hs 1 133 (by kernel_rfl) rfl; simp [Act.eval] at e133
              go_simp; exact hK _ _ (Ext.refl _) rfl
            · have e134 := hs 2 134 (by kernel_rfl) rfl; simp [Act.eval] at e134
              go_simp; exact hK _ _ (Ext.refl _) rfl
            · have e4 := hf 4 rfl; have gg := hs 3 135 (by kernel_rfl) rfl; simp [Act.eval] at e4 gg; replace gg := opt_bool gg
              have hq : agg? w2 ⟨w.heap.size + 1, 0, none⟩ 36 = some (tokA t A2 m c2) := (agg_block (hle.block _ hgs)).trans HAG.out
              go_simp; exact hK _ _ (Ext.refl _) rfl
            · have e136 := hs 4 136 (by kernel_rfl) rfl; have gg := hs 3 135 (by kernel_rfl) rfl; simp [Act.eval] at e136 gg; replace gg := opt_bool gg
              go_simp
              refine (c_rbytes t A2 m c2 _ w2 (HRC.out.below hle) HCK.out HOK.out).mono ?_
              rintro e w3 ⟨v, rfl, ho, hb⟩
              obtain ⟨A3, c3, rfl, hr⟩ := ho.row
              exact hK _ _ hb ⟨A3, c3, rfl, hr.more fun _ _ => trivial⟩
            · obtain ⟨A3, c3, e137, hr3⟩ := hs 5 137 (by kernel_rfl) rfl; have gg := hs 3 135 (by kernel_rfl) rfl; simp [Act.eval] at e137 gg; replace gg := opt_bool gg
              have hq := row_string (P := Try.prog) Try.underlying60 Try.underlying5 Try.underlying9 hr3
              go_simp; exact hK _ _ (Ext.refl _) rfl
            · have e0 := hf 0 rfl; have gg := hs 3 135 (by kernel_rfl) rfl; simp [Act.eval] at e0 gg; replace gg := opt_bool gg
              go_simp; exact hK _ _ (Ext.refl _) rfl
            · have e139 := hs 7 139 (by kernel_rfl) rfl; have gg := hs 3 135 (by kernel_rfl) rfl; simp [Act.eval] at e139 gg; replace gg := opt_bool gg
              have hq := row_string (P := Try.prog) Try.underlying60 Try.underlying5 Try.underlying9 (HXW.out.below hle)
              go_simp; exact hK _ _ (Ext.refl _) rfl
            · have e138 := hs 6 138 (by kernel_rfl) rfl; have e140 := hs 8 140 (by kernel_rfl) rfl; have gg := hs 3 135 (by kernel_rfl) rfl; simp [Act.eval] at e138 e140 gg; replace gg := opt_bool gg
              by_cases hv : enc t = xs
              · have h1 : (txt (enc t)).toList = (txt xs).toList := by rw [hv]
                go_simp; exact hK _ _ (Ext.refl _) (by simp [hv])
              · have h1 : ¬ (txt (enc t)).toList = (txt xs).toList := fun e => hv (by
                  have h' := congrArg byt ((bytes_inj _ _).1 e)
                  rwa [byt_txt, byt_txt] at h')
                go_simp; exact hK _ _ (Ext.refl _) (by simp [hv])
          intro vs w8 hle hs
          have v3 := hs 3 (by omega) rfl
          have v9 := hs 9 (by omega) rfl
          simp only at v3 v9
          clear hs
          have hz8 : row? w8 w.heap.size = some tokZ := by
            unfold row? at hzr ⊢
            rw [hle.block _ (by omega)]
            exact hzr
          have hag8 : agg? w8 ⟨w.heap.size + 1, 0, none⟩ 36 = some (tokA t A2 m c2) := (agg_block (hle.block _ hgs)).trans HAG.out
          have HB8 := hide (HBW.out.trans (hle.mono HBW.out.size))
          have HRC8 := hide (HRC.out.below hle)
          have HOB : Hid (∀ k, (False ∨ some k = (Value.slice A2 m c2).ownBlock) → k ≠ w.heap.size) := hide (fun k h => by
            rcases h with h | h
            · exact h.elim
            · have := (HO.out.base_le k h.symm).1; omega)
          have HOC : Hid (∀ k, (False ∨ some k = (Value.slice A2 m c2).ownBlock) → w.heap.size ≤ k) := hide (fun k h => by
            rcases h with h | h
            · exact h.elim
            · have := (HO.out.base_le k h.symm).1; omega)
          clear hle
          by_cases hv : enc t = xs
          · have HPS : Hid (rdec xs = some t) := hide (by rw [rdec, HFA.out, Option.bind_some, ← HT.out, if_pos ⟨HCK.out, hv⟩])
            rw [decide_eq_true hv] at v9
            clear hv
            simp only [putN, dstAt]
            go_simp
            go_wp2_with fail
            exact bodyPost_ret (v := .tuple #[.agg (tokA t A2 m c2), .bool true]) (by simp [results, Try.results42, go_sem, hz8]) rfl (by
              rw [HPS.out]
              exact ⟨A2, m, c2, rfl, (HRC8.out.keep fun k hk _ => heap_setRow_far _ _ _ (HOB.out k hk)).more HOC.out, bsetRow HB8.out (Nat.le_refl _) _⟩)
          · have HPN : Hid (rdec xs = none) := hide (by rw [rdec, HFA.out, Option.bind_some, ← HT.out, if_neg (fun h => hv h.2)])
            rw [decide_eq_false hv] at v9
            clear hv
            simp only [putN, dstAt]
            go_simp
            go_wp2_with fail
            exact bodyPost_ret (v := .tuple #[.agg tokZ, .bool false]) (by simp [results, Try.results42, go_sem, hz8]) rfl (rdec_fail HPN.out (bsetRow HB8.out (Nat.le_refl _) _))
end Go.Proofs.Ytlfhbnajopekpaa
