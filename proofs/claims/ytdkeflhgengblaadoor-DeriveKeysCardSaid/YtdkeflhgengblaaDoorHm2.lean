/- The walks of layer 4: HMAC. No condition. -/
import Derived.Test.YtdkeflhgengblaaDoorHm1
namespace Go.Proofs.YtdkeflhgengblaaDoor
open Go.RowKit
attribute [local go_sem ↓] ld8 ld32 ld64 ld73
attribute [local go_sem] run_ldAgg run_storeAgg agg_alloc_at agg_alloc_past agg_drew agg_setCell row_alloc_at row_alloc_past row_drew setRow_alloc_at setRow_alloc_past setRow_drew agg_setRow_at agg_setRow_far cell_setRow_at cell_setRow_far row_setRow_far size_setRow s8C_size s8C_part s8C_one s8C_splice0 s8C_ne dgC_size dgC_72 dgC_part dgC_h dgC_r dgC_splice_h dgC_set dgC_one dgC_splice0 dgC_ne zero_dg
attribute [local go_sem] tgC_size tgC_one tgC_part tgC_splice tgC_splice_any zero_tg tgC_ne

theorem c_turned (A : Option Addr) (n c : Nat) (key : List UInt8) (by_ : UInt8) (ok : Nat → Prop) (w : World) (hR : kU8.Row ok w A n c key) (hP : PrimesAt w) (hn2 : n < 1152921504606846976) :
    Calls Tryd.prog 68 #[.slice A n c, bv by_] w fun e w' => ∃ g, e = .returned (.pointer (some ⟨g, 0, none⟩)) ∧ w.heap.size ≤ g ∧ DigAt w' g (keyX key by_) ∧ Below w.heap.size w w' := by
  by_cases h : n ≤ 64
  · exact c_turned0 A n c key by_ ok w hR hP h
  · exact c_turned1 A n c key by_ ok w hR hP (by omega) hn2
/-- A mac to which bytes were written; its blocks are from base on. -/
def MacAt (w : World) (base m : Nat) (key xs : List UInt8) : Prop :=
  ∃ gi go, w.heap[m]? = some (.cells #[.pointer (some ⟨gi, 0, none⟩), .pointer (some ⟨go, 0, none⟩)] 123) ∧ DigAt w gi (keyX key 54 ++ xs) ∧ DigAt w go (keyX key 92) ∧ gi ≠ go ∧ m ≠ gi ∧ m ≠ go ∧ base ≤ m ∧ base ≤ gi ∧ base ≤ go
theorem MacAt.ext {w w' : World} {base m : Nat} {key xs : List UInt8} (h : MacAt w base m key xs) (hb : Below w.heap.size w w') : MacAt w' base m key xs :=
  let ⟨gi, go, h1, h2, h3, h4⟩ := h; ⟨gi, go, (hb.block m (Array.getElem?_eq_some_iff.1 h1).1).trans h1, h2.ext hb, h3.ext hb, h4⟩
theorem below_of_grown {B g : Nat} {w w' : World} (h : w.grownBy w' (some g)) (hB : B ≤ w.heap.size) (hg : B ≤ g) : Below B w w' :=
  ⟨h.os, h.tape, h.output, h.size, fun k hk => h.block k (by omega) (fun e => by have := Option.some.inj e; omega)⟩
set_option maxRecDepth 100000 in
set_option maxHeartbeats 400000 in
theorem c_mnew (A : Option Addr) (n c : Nat) (key : List UInt8) (ok : Nat → Prop) (w : World) (hR : kU8.Row ok w A n c key) (hP : PrimesAt w) (hn2 : n < 1152921504606846976) :
    Calls Tryd.prog 13 #[.slice A n c] w fun e w' => ∃ m, e = .returned (.pointer (some ⟨m, 0, none⟩)) ∧ MacAt w' w.heap.size m key [] ∧ Below w.heap.size w w' := by
  have HR := hide hR
  have HP := hide hP
  have HN := hide hn2
  clear hR hP hn2
  go_enter Tryd.func13, Tryd.ntmps13
  go_wp2_with fail
  refine (c_turned A n c key 54 ok w HR.out HP.out HN.out).mono ?_
  rintro e w1 ⟨gi, rfl, hgi, hd1, b1⟩
  have HD1 := hide hd1
  have HB1 := hide b1
  have hws := b1.size
  have hgi1 := hd1.lt
  clear hd1 b1
  go_wp2_with fail
  refine (c_turned A n c key 92 ok w1 (HR.out.below HB1.out) (HP.out.ext HB1.out) HN.out).mono ?_
  rintro e w2 ⟨go, rfl, hgo, hd2, b2⟩
  have HD2 := hide hd2
  have HD12 := hide (HD1.out.ext b2)
  have HB2 := hide (bnext HB1.out b2)
  have hgo2 := hd2.lt
  have hws2 := b2.size
  clear hd2 b2
  go_wp2_with fail
  go_ret
  exact ⟨_, rfl, ⟨gi, go, heap_alloc_new _ _, by rw [List.append_nil]; exact HD12.out.ext (below1 _ _), HD2.out.ext (below1 _ _), by omega, by omega, by omega, by omega, by omega, by omega⟩, bnext HB2.out (below1 _ _)⟩
set_option maxRecDepth 100000 in
set_option maxHeartbeats 400000 in
theorem c_mwrite (base m : Nat) (key xs ys : List UInt8) (A : Option Addr) (n c : Nat) (w : World) (hM : MacAt w base m key xs) (hR : kU8.Row (· < base) w A n c ys) (hP : PrimesAt w) (hb : base ≤ w.heap.size) (hb0 : 0 < base) (hn : xs.length + n < 1152921504606846976) :
    Calls Tryd.prog 14 #[.pointer (some ⟨m, 0, none⟩), .slice A n c] w fun e w' => e = .returned (.tuple #[]) ∧ MacAt w' base m key (xs ++ ys) ∧ Below base w w' := by
  obtain ⟨gi, go, hm, hdi, hdo, n1, n2, n3, b1, b2, b3⟩ := hM
  have HM := hide hm
  have HDI := hide hdi
  have HDO := hide hdo
  have HR := hide hR
  have HP := hide hP
  have HN := hide hn
  have hms := (Array.getElem?_eq_some_iff.1 hm).1
  have hc0 : w.cell? ⟨m, 0, none⟩ = some (.pointer (some ⟨gi, 0, none⟩)) := (cell_of_row w m 0 _ _ _ hm).trans rfl
  have hos := hdo.lt
  clear hm hdi hdo hR hP hn
  go_enter Tryd.func14, Tryd.ntmps14
  go_wp2_with fail
  refine (c_dwrite gi _ ys A n c _ w HDI.out HR.out (fun k hk => by omega) HP.out (by omega) (by rw [List.length_append, keyX_len]; have := HN.out; omega)).mono ?_
  rintro e w2 ⟨rfl, hd2, gr⟩
  have HFIN : Hid (MacAt w2 base m key (xs ++ ys)) := hide ⟨gi, go, (gr.block m hms (fun e => n2 (Option.some.inj e))).trans HM.out, by rw [← List.append_assoc]; exact hd2, HDO.out.of_heap (gr.block go hos (fun e => n1 (Option.some.inj e).symm)), n1, n2, n3, b1, b2, b3⟩
  have HBB := hide (below_of_grown gr hb b2)
  clear hd2 gr
  go_wp2_with fail
  exact bodyPost_end (v := .tuple #[]) (by simp [results, Tryd.results14, go_sem]) rfl ⟨rfl, HFIN.out, HBB.out⟩
/-- A mac as a tag. -/
def macT (key xs : List UInt8) : Tg := ⟨mac key xs, rfl⟩
set_option maxRecDepth 100000 in
set_option maxHeartbeats 800000 in
theorem c_msum (base m : Nat) (key xs : List UInt8) (w : World) (hM : MacAt w base m key xs) (hP : PrimesAt w) (hn : xs.length < 576460752303423488) :
    Calls Tryd.prog 15 #[.pointer (some ⟨m, 0, none⟩)] w fun e w' => e = .returned (tgV (macT key xs)) ∧ Below w.heap.size w w' := by
  obtain ⟨gi, go, hm, hdi, hdo, -⟩ := hM
  have HDI := hide hdi
  have HDO := hide hdo
  have HP := hide hP
  have HN := hide hn
  have hms := (Array.getElem?_eq_some_iff.1 hm).1
  have hc0 : (w.alloc (.cells (tgC Tg.zero) 29)).cell? ⟨m, 0, none⟩ = some (.pointer (some ⟨gi, 0, none⟩)) := (cell_of_row _ m 0 _ _ _ ((Below.heap_alloc w _ m hms).trans hm)).trans rfl
  have HM := hide hm
  clear hm hdi hdo hP hn
  go_enter Tryd.func15, Tryd.ntmps15
  go_wp2_with fail
  obtain ⟨W1, hW1⟩ : ∃ W1, W1 = w.alloc (.cells (tgC Tg.zero) 29) := ⟨_, rfl⟩
  rw [← hW1]
  have hB1 : Below w.heap.size w W1 := by rw [hW1]; exact below1 _ _
  have hs1 : W1.heap.size = w.heap.size + 1 := by rw [hW1]; simp only [World.size_alloc]
  have hz1 : W1.heap[w.heap.size]? = some (.cells (tgC Tg.zero) 29) := by rw [hW1]; exact heap_alloc_new _ _
  clear hW1 hc0
  refine (c_dsum gi _ W1 (HDI.out.ext hB1) (HP.out.ext hB1) (by rw [List.length_append, keyX_len]; have := HN.out; omega)).mono ?_
  rintro e w2 ⟨rfl, b2⟩
  obtain ⟨t, htt⟩ : ∃ t, t = shaT (keyX key 54 ++ xs) := ⟨_, rfl⟩
  rw [← htt]
  have HTT := hide htt
  have hB2 := hB1.trans (b2.mono hB1.size)
  have hsz2 := b2.size
  have HB2 := hide (hB2.trans ((below1 w2 (.cells (tgC t) 29)).mono hB2.size))
  have HZ2 := hide ((Below.heap_alloc w2 (.cells (tgC t) 29) _ (by omega)).trans ((b2.block w.heap.size (by omega)).trans hz1))
  have hm2 : (w2.alloc (.cells (tgC t) 29)).heap[m]? = _ := (HB2.out.block m hms).trans HM.out
  have hc1 := (cell_of_row _ m 1 _ _ _ hm2).trans rfl
  have HDO2 := hide (HDO.out.of_heap (HB2.out.block go HDO.out.lt))
  have HT2 := hide (heap_alloc_new w2 (.cells (tgC t) 29))
  have hws1 := HB2.out.size
  clear htt hB2 hB1 hz1 b2 hm2
  go_wp2_with fail
  refine (c_dclone go _ _ HDO2.out).mono ?_
  rintro e w3 ⟨g', rfl, hg', hd3, b3⟩
  have HD3 := hide hd3
  have HB3 := hide (HB2.out.trans (b3.mono hws1))
  have hg2 : w2.heap.size + 1 ≤ g' := by simpa only [World.size_alloc] using hg'
  have hsz3 := b3.size
  rw [World.size_alloc] at hsz3
  have HZ3 := hide ((b3.block w.heap.size (by simp only [World.size_alloc]; omega)).trans HZ2.out)
  have ht3 := (b3.block w2.heap.size (by simp only [World.size_alloc]; omega)).trans HT2.out
  have hrow : kU8.Row (fun k => k = w2.heap.size) w3 (some ⟨w2.heap.size, 0, none⟩) 32 32 t.l := by
    rw [tgC_bl] at ht3
    have := row_all (ok := fun k => k = w2.heap.size) ht3 rfl (by rw [t.len]; decide)
    rwa [t.len] at this
  have HROW := hide hrow
  have hws3 := HB3.out.size
  clear hd3 b3 hg' ht3 hrow hc1
  go_wp2_with fail
  refine (c_dwrite g' _ t.l _ 32 32 _ w3 HD3.out HROW.out (fun k hk => by omega) (HP.out.ext HB3.out) (by omega) (by rw [keyX_len]; decide)).mono ?_
  rintro e w4 ⟨rfl, hd4, gr4⟩
  have HD4 : Hid (DigAt w4 g' (keyX key 92 ++ sha (keyX key 54 ++ xs))) := hide (by
    have h := hd4
    rw [HTT.out] at h
    exact h)
  have HB4 := hide (HB3.out.trans (below_of_grown (B := w.heap.size) gr4 hws3 (by omega)))
  have hg3 := HD3.out.lt
  have HZ4 := hide ((gr4.block w.heap.size (by omega) (fun e => by have := Option.some.inj e; omega)).trans HZ3.out)
  have hz4s := (Array.getElem?_eq_some_iff.1 HZ4.out).1
  have hws4 := HB4.out.size
  clear hd4 gr4
  go_wp2_with fail
  refine (c_dsum g' _ w4 HD4.out (HP.out.ext HB4.out) (by rw [List.length_append, keyX_len, sha_len]; decide)).mono ?_
  obtain ⟨u, huu⟩ : ∃ u, u = shaT (keyX key 92 ++ sha (keyX key 54 ++ xs)) := ⟨_, rfl⟩
  rw [← huu]
  have HUU : Hid (macT key xs = u) := hide (by rw [huu]; rfl)
  rintro e w5 ⟨rfl, b5⟩
  have hz5 := (b5.block w.heap.size hz4s).trans HZ4.out
  have hrz := row_of hz5
  have HB5 := hide (bsetRow (HB4.out.trans (b5.mono hws4)) (Nat.le_refl _) (tgC u))
  have hag9 : agg? (w5.setRow w.heap.size (tgC u)) ⟨w.heap.size, 0, none⟩ 32 = some (tgC u) := (agg_setRow_at _ _ _ _ _ (by rw [hrz]; rfl) (by decide)).trans (tgC_part u)
  clear b5 hz5 huu
  go_wp2_with fail
  exact bodyPost_ret (v := tgV u) (by simp [results, Tryd.results15, go_sem, hag9]) rfl ⟨by rw [HUU.out], HB5.out⟩
end Go.Proofs.YtdkeflhgengblaaDoor
