/- Texts of one proof, one behind the other: Bd2, Ba1, Ba2, Rc, Rbc, Ba3, Se7, Bd3, Se3, Ow8, Se4, Se5, Se6, Cvt, Se8, Se9, SeA, Rf3b. No condition. -/
import Derived.Test.YtdkeflhgengblaaDoorBlc
import Derived.Test.YtdkeflhgengblaaDoorBlb
import Derived.Test.YtdkeflhgengblaaDoorBla
namespace Go.Proofs.YtdkeflhgengblaaDoor
open Go.RowKit
attribute [local go_sem ↓] ld8 ld32 ld64 ld73
attribute [local go_sem] run_ldAgg run_storeAgg agg_alloc_at agg_alloc_past agg_drew agg_setCell row_alloc_at row_alloc_past row_drew setRow_alloc_at setRow_alloc_past setRow_drew agg_setRow_at agg_setRow_far cell_setRow_at cell_setRow_far row_setRow_far size_setRow s8C_size s8C_part s8C_one s8C_splice0 s8C_ne dgC_size dgC_72 dgC_part dgC_h dgC_r dgC_splice_h dgC_set dgC_one dgC_splice0 dgC_ne zero_dg
attribute [local go_sem] tgC_size tgC_one tgC_part tgC_splice tgC_splice_any zero_tg tgC_ne
attribute [local go_sem ↓] ld36
attribute [local go_sem] tokC_size tokC_0 tokC_1 tokC_2 tokC_3 tokC_g0 tokC_g1 tokC_g2 tokC_g3 tokC_part tokC_tag tokC_set0 tokC_set1 tokC_set2 tokC_set3 tokC_splice tokC_splice0 zero_tok tokC_all tokC_ne

/-- A discharge bound, and the error's number. -/
def bindR (root : Tg) (d : Tok) : Tok := if d.bnd = true then Tok.zero else { d with bnd := true, tag := bindT root d.tag }
def bindE (d : Tok) : Int := if d.bnd = true then 6 else 0
theorem heap3g (w : World) (a b c : Array Value) (T U V : TypeId) : ((((w.alloc (.cells a T)).alloc (.cells b U)).alloc (.cells c V)).heap[w.heap.size]? = some (.cells a T)) ∧ ((((w.alloc (.cells a T)).alloc (.cells b U)).alloc (.cells c V)).heap[w.heap.size + 1]? = some (.cells b U)) ∧ ((((w.alloc (.cells a T)).alloc (.cells b U)).alloc (.cells c V)).heap[w.heap.size + 2]? = some (.cells c V)) := by
  refine ⟨?_, ?_, ?_⟩
  · rw [Below.heap_alloc _ _ _ (by simp only [World.size_alloc]; omega), Below.heap_alloc _ _ _ (by simp only [World.size_alloc]; omega)]; exact heap_alloc_new _ _
  · rw [Below.heap_alloc _ _ _ (by simp only [World.size_alloc]; omega)]
    have := heap_alloc_new (w.alloc (.cells a T)) (.cells b U)
    rwa [World.size_alloc] at this
  · have := heap_alloc_new ((w.alloc (.cells a T)).alloc (.cells b U)) (.cells c V)
    rwa [World.size_alloc, World.size_alloc] at this
def Bound (w : World) (root : Tg) (d : Tok) (e : Ending) (w' : World) : Prop :=
  ∃ A n c, e = .returned (.tuple #[tokV (bindR root d) A n c, .int .i64 (bindE d)]) ∧ kCav.Row (fun k => w.heap.size ≤ k) w' A n c (bindR root d).cavs ∧ Below w.heap.size w w'
set_option maxRecDepth 100000 in
set_option maxHeartbeats 800000 in
theorem c_bind (root : Tg) (d : Tok) (A : Option Addr) (n c : Nat) (ok : Nat → Prop) (w : World) (hR : kCav.Row ok w A n c d.cavs) (hn : n ≤ 1099511627776) (hP : PrimesAt w) :
    Calls Tryd.prog 26 #[tgV root, tokV d A n c] w (Bound w root d) := by
  obtain ⟨key, id, cavs, bnd, tag⟩ := d
  have hw0 := hP.1
  have HP := hide hP
  have HR := hide hR
  have HN := hide hn
  clear hR hn hP
  cases bnd with
  | true =>
    go_enter Tryd.func26, Tryd.ntmps26
    go_wp2_with fail
    exact bodyPost_ret (v := .tuple #[.agg tokZ, .int .i64 6]) (by simp [results, Tryd.results26, go_sem]) rfl ⟨none, 0, 0, rfl, .nil _ _ _ _ _ (Nat.zero_le _), below3 _ _ _ _⟩
  | false =>
    obtain ⟨W3, hW3⟩ : ∃ W3, W3 = ((w.alloc (.cells (tgC root) 29)).alloc (.cells (tokC (.int .u64 (key : Int)) (.string id) (.slice A n c) (.bool false) tag) 44)).alloc (.cells tokZ 44) := ⟨_, rfl⟩
    obtain ⟨g0, g1, g2⟩ := heap3g w (tgC root) (tokC (.int .u64 (key : Int)) (.string id) (.slice A n c) (.bool false) tag) tokZ 29 44 44
    rw [← hW3] at g0 g1 g2
    have hs3 : W3.heap.size = w.heap.size + 3 := by rw [hW3]; simp only [World.size_alloc]
    have HB3 : Hid (Below w.heap.size w W3) := hide (by rw [hW3]; exact below3 _ _ _ _)
    have hag1 : agg? W3 ⟨w.heap.size + 1, 0, none⟩ 36 = some (tokC (.int .u64 (key : Int)) (.string id) (.slice A n c) (.bool false) tag) := (agg_of_row g1 0 36 (by decide)).trans (tokC_part _ _ _ _ _)
    have hb1 : W3.cell? ⟨w.heap.size + 1, 3, none⟩ = some (.bool false) := (cell_of_row W3 _ _ _ _ _ g1).trans (tokC_3 _ _ _ _ _)
    have HR3 := hide (HR.out.below HB3.out)
    have G0 := hide g0
    have G1 := hide g1
    have G2 := hide g2
    clear g0 g1 g2 HR
    go_enter Tryd.func26, Tryd.ntmps26
    go_wp2_with fail
    rw [← hW3]
    go_wp2_with fail
    refine (c_pclone ⟨key, id, cavs, false, tag⟩ A n c ok W3 HR3.out HN.out).mono ?_
    rintro e w1 ⟨A1, c1, rfl, hr1, b1⟩
    obtain ⟨G, hG⟩ : ∃ G, G = w1.heap.size := ⟨_, rfl⟩
    have hs1 := b1.size
    have HG0 := hide ((b1.block _ (by omega)).trans G0.out)
    have HG1 := hide ((b1.block _ (by omega)).trans G1.out)
    have HG2 := hide ((b1.block _ (by omega)).trans G2.out)
    have HB1 := hide (HB3.out.trans (b1.mono (by omega)))
    have HR1 := hide hr1
    obtain ⟨t, ht⟩ : ∃ t, bindT root tag = t := ⟨_, rfl⟩
    have HT := hide ht
    obtain ⟨C0, hC0⟩ : ∃ C0, C0 = tokC (.int .u64 (key : Int)) (.string id) (.slice A1 n c1) (.bool false) tag := ⟨_, rfl⟩
    obtain ⟨C1, hC1⟩ : ∃ C1, C1 = tokC (.int .u64 (key : Int)) (.string id) (.slice A1 n c1) (.bool true) tag := ⟨_, rfl⟩
    obtain ⟨C2, hC2⟩ : ∃ C2, C2 = tokC (.int .u64 (key : Int)) (.string id) (.slice A1 n c1) (.bool true) t := ⟨_, rfl⟩
    obtain ⟨W4, hW4⟩ : ∃ W4, W4 = w1.alloc (.cells C0 44) := ⟨_, rfl⟩
    have b4 : Below w1.heap.size w1 W4 := by rw [hW4]; exact below1 _ _
    have hs4 : W4.heap.size = G + 1 := by rw [hW4, World.size_alloc, hG]
    have hsG : w.heap.size + 3 ≤ G := by omega
    have hagr : agg? w1 ⟨w.heap.size, 0, none⟩ 32 = some (tgC root) := (agg_of_row HG0.out 0 32 (by decide)).trans (tgC_part root)
    have hagt : agg? w1 ⟨w.heap.size + 1, 4, none⟩ 32 = some (tgC tag) := (agg_of_row HG1.out 4 32 (by decide)).trans (tokC_tag _ _ _ _ _)
    have HB4 := hide (HB1.out.trans (b4.mono (by omega)))
    have HG4 : Hid (W4.heap[G]? = some (.cells C0 44)) := hide (by rw [hW4, hG]; exact heap_alloc_new _ _)
    have HZ4 := hide ((b4.block _ (by omega)).trans HG2.out)
    have HP4 := hide (HP.out.ext HB4.out)
    have HW14 : Hid (∀ k, k < G → W4.heap[k]? = w1.heap[k]?) := hide (fun k hk => b4.block k (by omega))
    have hagr4 : agg? W4 ⟨w.heap.size, 0, none⟩ 32 = some (tgC root) := (agg_of_row ((b4.block _ (by omega)).trans HG0.out) 0 32 (by decide)).trans (tgC_part root)
    have hagt4 : agg? W4 ⟨w.heap.size + 1, 4, none⟩ 32 = some (tgC tag) := (agg_of_row ((b4.block _ (by omega)).trans HG1.out) 4 32 (by decide)).trans (tokC_tag _ _ _ _ _)
    rw [hW4, hC0] at hagr4 hagt4
    clear ht b1 hr1 b4 hag1 hb1
    go_wp2_with fail
    rw [← hC0, ← hW4, ← hG]
    have HGE := hide hG
    clear hG
    refine (c_btag root tag W4 HP4.out).mono ?_
    rintro e w5 ⟨rfl, b5⟩
    rw [HT.out]
    have k6 := (b5.block G (by omega)).trans HG4.out
    have k2 := (b5.block _ (by omega)).trans HZ4.out
    have hs5 := b5.size
    obtain ⟨W5, hW5⟩ : ∃ W5, W5 = w5.setRow G C1 := ⟨_, rfl⟩
    obtain ⟨W6, hW6⟩ : ∃ W6, W6 = W5.setRow G C2 := ⟨_, rfl⟩
    obtain ⟨W7, hW7⟩ : ∃ W7, W7 = W6.setRow (w.heap.size + 2) C2 := ⟨_, rfl⟩
    have hsc : w5.setCell ⟨G, 3, none⟩ (.bool true) = W5 := by rw [setCell_eq_setRow w5 G 3 C0 _ _ _ k6, hW5, hC0, tokC_set3, hC1]
    have hcx : w5.cell? ⟨G, 3, none⟩ = some (.bool false) := (cell_of_row w5 _ _ _ _ _ k6).trans (by rw [hC0]; exact tokC_3 _ _ _ _ _)
    have hfz := frozen_of_row w5 G 3 _ _ k6
    have k5 : W5.heap[G]? = some (.cells C1 44) := by rw [hW5]; exact setRow_heap w5 G C0 C1 44 _ k6
    have k62 : W6.heap[G]? = some (.cells C2 44) := by rw [hW6]; exact setRow_heap W5 G C1 C2 44 _ k5
    have k72 : W6.heap[w.heap.size + 2]? = some (.cells tokZ 44) := by rw [hW6, heap_setRow_far _ _ _ (by omega), hW5, heap_setRow_far _ _ _ (by omega)]; exact k2
    have k8 : W7.heap[w.heap.size + 2]? = some (.cells C2 44) := by rw [hW7]; exact setRow_heap W6 (w.heap.size + 2) tokZ C2 44 _ k72
    have hr5 := row_of k5
    have hr6 := row_of k72
    have hz1 : C1.size = 36 := by rw [hC1]; exact tokC_size _ _ _ _ _
    have hz2 : C2.size = 36 := by rw [hC2]; exact tokC_size _ _ _ _ _
    have hsp : splice C1 4 (tgC t) = C2 := by rw [hC1, hC2]; exact tokC_splice _ _ _ _ _ _
    have hsp2 : splice tokZ 0 C2 = C2 := by rw [hC2]; exact tokC_splice0 _ _ _ _ _ _ (tokC_size _ _ _ _ _)
    have ho2 : oneAll C2 = true := by rw [hC2]; exact tokC_all _ _ _ _ _ _ _ _
    have hag6 : agg? W6 ⟨G, 0, none⟩ 36 = some C2 := (agg_of_row k62 0 36 (by decide)).trans (by rw [hC2]; exact tokC_part _ _ _ _ _)
    have hag7 : agg? W7 ⟨w.heap.size + 2, 0, none⟩ 36 = some C2 := (agg_of_row k8 0 36 (by decide)).trans (by rw [hC2]; exact tokC_part _ _ _ _ _)
    have HB7 : Hid (Below w.heap.size w W7) := hide (by
      rw [hW7, hW6, hW5]
      exact bsetRow (bsetRow (bsetRow (HB4.out.trans (b5.mono (by omega))) (by omega) _) (by omega) _) (by omega) _)
    have hgx := HGE.out
    have HRE : Hid (kCav.Row (fun k => w.heap.size ≤ k) W7 A1 n c1 cavs) := hide ((HR1.out.keep fun k hk hlt => by
      rw [hW7, heap_setRow_far _ _ _ (by omega), hW6, heap_setRow_far _ _ _ (by omega), hW5, heap_setRow_far _ _ _ (by omega)]
      exact (b5.block k (by omega)).trans (HW14.out k (by omega))).more fun k hk => by omega)
    have hss := hW6.symm
    have hs7 := hW7.symm
    have HCE : Hid (Value.agg C2 = tokV (bindR root ⟨key, id, cavs, false, tag⟩) A1 n c1) := hide (by rw [hC2, ← HT.out]; rfl)
    clear hgx hagr4 hagt4 hW5 hW6 hW7 hC0 hC1 hC2 k6 k2 k5 k62 k72 k8 b5 hagr hagt hW4
    go_wp2_with fail
    exact bodyPost_ret (v := .tuple #[.agg C2, .int .i64 0]) (by simp [results, Tryd.results26, go_sem, hag7]) rfl ⟨A1, n, c1, by rw [HCE.out]; rfl, HRE.out, HB7.out⟩
set_option maxRecDepth 100000 in
set_option maxHeartbeats 800000 in
theorem c_rbind (root : Tg) (d : Tok) (A : Option Addr) (n c : Nat) (ok : Nat → Prop) (w : World) (hR : kCav.Row ok w A n c d.cavs) (hn : n ≤ 1099511627776) :
    Calls Tryd.prog 27 #[tgV root, tokV d A n c] w (Bound w root d) := by
  obtain ⟨key, id, cavs, bnd, tag⟩ := d
  have HR := hide hR
  have HN := hide hn
  have HL := hide hR.1
  clear hR hn
  cases bnd with
  | true =>
    go_enter Tryd.func27, Tryd.ntmps27
    go_wp2_with fail
    exact bodyPost_ret (v := .tuple #[.agg tokZ, .int .i64 6]) (by simp [results, Tryd.results27, go_sem]) rfl ⟨none, 0, 0, rfl, .nil _ _ _ _ _ (Nat.zero_le _), below3 _ _ _ _⟩
  | false =>
    obtain ⟨C0, hC0⟩ : ∃ C0, C0 = tokC (.int .u64 (key : Int)) (.string id) (.slice A n c) (.bool false) tag := ⟨_, rfl⟩
    obtain ⟨W3, hW3⟩ : ∃ W3, W3 = ((w.alloc (.cells (tgC root) 29)).alloc (.cells C0 44)).alloc (.cells tokZ 44) := ⟨_, rfl⟩
    obtain ⟨g0, g1, g2⟩ := heap3g w (tgC root) C0 tokZ 29 44 44
    rw [← hW3] at g0 g1 g2
    have hs3 : W3.heap.size = w.heap.size + 3 := by rw [hW3]; simp only [World.size_alloc]
    have HB3 : Hid (Below w.heap.size w W3) := hide (by rw [hW3]; exact below3 _ _ _ _)
    have hb1 : W3.cell? ⟨w.heap.size + 1, 3, none⟩ = some (.bool false) := (cell_of_row W3 _ _ _ _ _ g1).trans (by rw [hC0]; exact tokC_3 _ _ _ _ _)
    have hb2 : W3.cell? ⟨w.heap.size + 1, 2, none⟩ = some (.slice A n c) := (cell_of_row W3 _ _ _ _ _ g1).trans (by rw [hC0]; exact tokC_2 _ _ _ _ _)
    have HR3 := hide (HR.out.below HB3.out)
    have HO : Hid (kCav.Own (fun _ => False) W3.heap.size (W3.alloc (.cells #[] 83)) 83 (.slice (some ⟨W3.heap.size, 0, none⟩) 0 0) []) := hide (Kd.Own.lit (.nil _ _ _) #[] rfl 0 rfl (Nat.zero_le _) _ rfl (Nat.le_refl _))
    rw [hs3] at HO
    have HC0 := hide hC0
    have G0 := hide g0
    have G1 := hide g1
    have G2 := hide g2
    clear g0 g1 g2 HR
    go_enter Tryd.func27, Tryd.ntmps27
    go_wp2_with (at_builtin; go_loud (rw [← hC0, ← hW3]; clear hW3 hC0; refine wpList_app (d := kCav) (ys := cavs) rfl _ _ _ rfl Tryd.underlying42 cav_info rfl (by decide) c rfl rfl (.inl HO.out) (src_cav (HR3.out.alloc _).src) ?_ ?_ ?_ ?_))
    · have := HN.out; simp only [maxLen]; omega
    · have := HN.out; omega
    intro v1 w4 _ h2 h3 _ _
    have ho : kCav.Own (fun _ => False) (w.heap.size + 3) w4 83 v1 cavs := by first | simpa using h2 (.inr HO.out) | simpa using h2
    obtain ⟨A1, c1, rfl, hr⟩ := ho.row
    have hbb := ho.base_le
    have hr2 := hr.more (ok' := fun k => w.heap.size + 3 ≤ k) fun k hk => by
      rcases hk with hk | hk
      · exact hk.elim
      · exact (hbb k hk.symm).1
    rw [HL.out] at hr2
    rw [HL.out]
    have HR4 := hide hr2
    have hsz4 : w.heap.size + 4 ≤ w4.heap.size := by have := h3.size; simp only [World.size_alloc] at this; omega
    have ka : ∀ j, j < w.heap.size + 3 → w4.heap[j]? = W3.heap[j]? := fun j hj => (h3.block j hj).trans (Below.heap_alloc _ _ _ (by omega))
    have k0 := (ka _ (by omega)).trans G0.out
    have k1 := (ka _ (by omega)).trans G1.out
    have k2 := (ka _ (by omega)).trans G2.out
    have HB4 : Hid (Below w.heap.size w w4) := hide ((HB3.out.alloc (by omega) _).trans (h3.mono (by omega)))
    clear h2 h3 ho hr hbb hr2 ka HR3 HO G0 G1 G2 hb1 hb2
    obtain ⟨t, ht⟩ : ∃ t, bindT root tag = t := ⟨_, rfl⟩
    have HT := hide ht
    obtain ⟨C1, hC1⟩ : ∃ C1, C1 = tokC (.int .u64 (key : Int)) (.string id) (.slice A1 n c1) (.bool false) tag := ⟨_, rfl⟩
    obtain ⟨C2, hC2⟩ : ∃ C2, C2 = tokC (.int .u64 (key : Int)) (.string id) (.slice A1 n c1) (.bool false) t := ⟨_, rfl⟩
    obtain ⟨C3, hC3⟩ : ∃ C3, C3 = tokC (.int .u64 (key : Int)) (.string id) (.slice A1 n c1) (.bool true) t := ⟨_, rfl⟩
    obtain ⟨W5, hW5⟩ : ∃ W5, W5 = w4.setRow (w.heap.size + 1) C1 := ⟨_, rfl⟩
    have hsc : w4.setCell ⟨w.heap.size + 1, 2, none⟩ (.slice A1 n c1) = W5 := by rw [setCell_eq_setRow w4 _ 2 C0 _ _ _ k1, hW5, HC0.out, tokC_set2, hC1]
    have hcx : w4.cell? ⟨w.heap.size + 1, 2, none⟩ = some (.slice A n c) := (cell_of_row w4 _ _ _ _ _ k1).trans (by rw [HC0.out]; exact tokC_2 _ _ _ _ _)
    have hfz := frozen_of_row w4 (w.heap.size + 1) 2 _ _ k1
    have k5 : W5.heap[w.heap.size + 1]? = some (.cells C1 44) := by rw [hW5]; exact setRow_heap w4 (w.heap.size + 1) C0 C1 44 _ k1
    have k50 : W5.heap[w.heap.size]? = some (.cells (tgC root) 29) := by rw [hW5, heap_setRow_far _ _ _ (by omega)]; exact k0
    have k52 : W5.heap[w.heap.size + 2]? = some (.cells tokZ 44) := by rw [hW5, heap_setRow_far _ _ _ (by omega)]; exact k2
    have hs5 : W5.heap.size = w4.heap.size := by rw [hW5, size_setRow]
    have hagr : agg? W5 ⟨w.heap.size, 0, none⟩ 32 = some (tgC root) := (agg_of_row k50 0 32 (by decide)).trans (tgC_part root)
    have hagt : agg? W5 ⟨w.heap.size + 1, 4, none⟩ 32 = some (tgC tag) := (agg_of_row k5 4 32 (by decide)).trans (by rw [hC1]; exact tokC_tag _ _ _ _ _)
    have HB5 : Hid (Below w.heap.size w W5) := hide (by rw [hW5]; exact bsetRow HB4.out (by omega) _)
    have HR5 : Hid (kCav.Row (fun k => w.heap.size + 3 ≤ k) W5 A1 n c1 cavs) := hide (HR4.out.keep fun k hk _ => by rw [hW5, heap_setRow_far _ _ _ (by omega)])
    have K5 := hide k5
    have K52 := hide k52
    have HC1 := hide hC1
    clear hW5 k5 k50 k52 k0 k1 k2 ht hC1
    go_wp2_with fail
    refine (c_r21tag root tag W5).mono ?_
    rintro e w6 ⟨rfl, b6⟩
    rw [HT.out]
    have hs6 := b6.size
    have j1 := (b6.block _ (by omega)).trans K5.out
    have j2 := (b6.block _ (by omega)).trans K52.out
    obtain ⟨W7, hW7⟩ : ∃ W7, W7 = w6.setRow (w.heap.size + 1) C2 := ⟨_, rfl⟩
    obtain ⟨W8, hW8⟩ : ∃ W8, W8 = W7.setRow (w.heap.size + 1) C3 := ⟨_, rfl⟩
    obtain ⟨W9, hW9⟩ : ∃ W9, W9 = W8.setRow (w.heap.size + 2) C3 := ⟨_, rfl⟩
    have k7 : W7.heap[w.heap.size + 1]? = some (.cells C2 44) := by rw [hW7]; exact setRow_heap w6 (w.heap.size + 1) C1 C2 44 _ j1
    have k72 : W7.heap[w.heap.size + 2]? = some (.cells tokZ 44) := by rw [hW7, heap_setRow_far _ _ _ (by omega)]; exact j2
    have k8 : W8.heap[w.heap.size + 1]? = some (.cells C3 44) := by rw [hW8]; exact setRow_heap W7 (w.heap.size + 1) C2 C3 44 _ k7
    have k82 : W8.heap[w.heap.size + 2]? = some (.cells tokZ 44) := by rw [hW8, heap_setRow_far _ _ _ (by omega)]; exact k72
    have k9 : W9.heap[w.heap.size + 2]? = some (.cells C3 44) := by rw [hW9]; exact setRow_heap W8 (w.heap.size + 2) tokZ C3 44 _ k82
    have hr6 := row_of j1
    have hr8 := row_of k82
    have hz1 : C1.size = 36 := by rw [HC1.out]; exact tokC_size _ _ _ _ _
    have hz3 : C3.size = 36 := by rw [hC3]; exact tokC_size _ _ _ _ _
    have hsp : splice C1 4 (tgC t) = C2 := by rw [HC1.out, hC2]; exact tokC_splice _ _ _ _ _ _
    have hsp2 : splice tokZ 0 C3 = C3 := by rw [hC3]; exact tokC_splice0 _ _ _ _ _ _ (tokC_size _ _ _ _ _)
    have ho3 : oneAll C3 = true := by rw [hC3]; exact tokC_all _ _ _ _ _ _ _ _
    have hsc7 : W7.setCell ⟨w.heap.size + 1, 3, none⟩ (.bool true) = W8 := by rw [setCell_eq_setRow W7 _ 3 C2 _ _ _ k7, hW8, hC2, tokC_set3, hC3]
    have hcx7 : W7.cell? ⟨w.heap.size + 1, 3, none⟩ = some (.bool false) := (cell_of_row W7 _ _ _ _ _ k7).trans (by rw [hC2]; exact tokC_3 _ _ _ _ _)
    have hfz7 := frozen_of_row W7 (w.heap.size + 1) 3 _ _ k7
    have hag8 : agg? W8 ⟨w.heap.size + 1, 0, none⟩ 36 = some C3 := (agg_of_row k8 0 36 (by decide)).trans (by rw [hC3]; exact tokC_part _ _ _ _ _)
    have hag9 : agg? W9 ⟨w.heap.size + 2, 0, none⟩ 36 = some C3 := (agg_of_row k9 0 36 (by decide)).trans (by rw [hC3]; exact tokC_part _ _ _ _ _)
    have HB9 : Hid (Below w.heap.size w W9) := hide (by
      rw [hW9, hW8, hW7]
      exact bsetRow (bsetRow (bsetRow (HB5.out.trans (b6.mono (by omega))) (by omega) _) (by omega) _) (by omega) _)
    have HRE : Hid (kCav.Row (fun k => w.heap.size ≤ k) W9 A1 n c1 cavs) := hide ((HR5.out.keep fun k hk hlt => by
      rw [hW9, heap_setRow_far _ _ _ (by omega), hW8, heap_setRow_far _ _ _ (by omega), hW7, heap_setRow_far _ _ _ (by omega)]
      exact b6.block k (by omega)).more fun k hk => by omega)
    have hs7 := hW7.symm
    have hs9 := hW9.symm
    have HCE : Hid (Value.agg C3 = tokV (bindR root ⟨key, id, cavs, false, tag⟩) A1 n c1) := hide (by rw [hC3, ← HT.out]; rfl)
    clear hagr hagt hW7 hW8 hW9 hC2 hC3 j1 j2 k7 k72 k8 k82 k9 b6 hcx hfz hsc
    go_wp2_with fail
    exact bodyPost_ret (v := .tuple #[.agg C3, .int .i64 0]) (by simp [results, Tryd.results27, go_sem, hag9]) rfl ⟨A1, n, c1, by rw [HCE.out]; rfl, HRE.out, HB9.out⟩
end Go.Proofs.YtdkeflhgengblaaDoor
namespace Go.Proofs.YtdkeflhgengblaaDoor
open Go.RowKit
attribute [local go_sem ↓] ld8 ld32 ld64 ld73
attribute [local go_sem] run_ldAgg run_storeAgg agg_alloc_at agg_alloc_past agg_drew agg_setCell row_alloc_at row_alloc_past row_drew setRow_alloc_at setRow_alloc_past setRow_drew agg_setRow_at agg_setRow_far cell_setRow_at cell_setRow_far row_setRow_far size_setRow s8C_size s8C_part s8C_one s8C_splice0 s8C_ne dgC_size dgC_72 dgC_part dgC_h dgC_r dgC_splice_h dgC_set dgC_one dgC_splice0 dgC_ne zero_dg
attribute [local go_sem] tgC_size tgC_one tgC_part tgC_splice tgC_splice_any zero_tg tgC_ne
attribute [local go_sem ↓] ld36
attribute [local go_sem] tokC_size tokC_0 tokC_1 tokC_2 tokC_3 tokC_g0 tokC_g1 tokC_g2 tokC_g3 tokC_part tokC_tag tokC_set0 tokC_set1 tokC_set2 tokC_set3 tokC_splice tokC_splice0 zero_tok tokC_all tokC_ne
attribute [local go_sem ↓] ld37
attribute [local go_sem] bunC_size bunC_0 bunC_1 bunC_2 bunC_3 bunC_36 bunC_g3 bunC_g36 bunC_part bunC_root bunC_set36 bunC_splice bunC_splice0 zero_bun bunC_all bunC_ne

/-- A discharge bound, or as it was; a bundle of such. -/
def bdT (root : Tg) (d : Tok) : Tok := if d.bnd = true then d else bindR root d
def allB (b : Bun) : Bun := if checkB b = true then ⟨b.root, b.dis.map (bdT b.root.tag)⟩ else Bun.zero
def allE (b : Bun) : Int := if checkB b = true then 0 else 1
def AllDone (w : World) (b : Bun) (e : Ending) (w' : World) : Prop :=
  ∃ A n c B m d, e = .returned (.tuple #[bunV (allB b) A n c B m d, .int .i64 (allE b)]) ∧ kCav.Row (fun _ => True) w' A n c (allB b).root.cavs ∧ kTok.Row (fun _ => True) w' B m d (allB b).dis ∧ Below w.heap.size w w'
/-- The first k of a list turned. -/
def mapTo {α : Type} (f : α → α) (xs : List α) (k : Nat) : List α := (xs.take k).map f ++ xs.drop k
section
variable {α : Type} {f : α → α} {xs : List α} {k : Nat} {x : α}
theorem mapTo_start : mapTo f xs 0 = xs := rfl
theorem mapTo_len : (mapTo f xs k).length = xs.length := by simp only [mapTo, List.length_append, List.length_map, List.length_take, List.length_drop]; omega
theorem mapTo_end (h : xs.length = k) : mapTo f xs k = xs.map f := by
  rw [mapTo, List.drop_eq_nil_of_le (by omega), List.append_nil, List.take_of_length_le (by omega)]
theorem mapTo_at (hx : xs[k]? = some x) : (mapTo f xs k)[k]? = some x := by
  have hk : k < xs.length := (List.getElem?_eq_some_iff.1 hx).1
  rw [mapTo, List.getElem?_append_right (by rw [List.length_map, List.length_take]; omega), List.length_map, List.length_take, List.getElem?_drop, show k + (k - min k xs.length) = k by omega]
  exact hx
theorem mapTo_next (hx : xs[k]? = some x) : mapTo f xs (k + 1) = (mapTo f xs k).set k (f x) := by
  have hk : k < xs.length := (List.getElem?_eq_some_iff.1 hx).1
  have hl : ((xs.take k).map f).length = k := by rw [List.length_map, List.length_take]; omega
  have hd : xs.drop k = x :: xs.drop (k + 1) := by
    rw [List.drop_eq_getElem_cons hk]
    congr 1
    rw [List.getElem?_eq_getElem hk] at hx
    exact Option.some.inj hx
  rw [mapTo, mapTo, hd, List.set_append_right _ _ (by omega), hl, Nat.sub_self, List.set_cons_zero, List.take_add_one, hx, List.map_append]
  simp
theorem mapTo_same (hx : xs[k]? = some x) (h : f x = x) : mapTo f xs (k + 1) = mapTo f xs k := by
  rw [mapTo_next hx, h]
  have := mapTo_at (f := f) hx
  apply List.ext_getElem?
  intro j
  by_cases hj : k = j
  · subst hj
    rw [List.getElem?_set_self (List.getElem?_eq_some_iff.1 this).1, this]
  · rw [List.getElem?_set_ne hj]
end
theorem bunC_tag (a b c d s : Value) (t : Tg) : part? (bunC a b c d t s) 4 32 = some (tgC t) := by
  have h1 : part? (bunC a b c d t s) 4 32 = part? (tokC a b c d t) 4 32 := by
    simp only [part?, bunC_size, tokC_size]
    rw [if_pos (by decide), if_pos (by decide)]
    congr 1
    apply Array.ext_getElem?
    intro i
    rw [Array.getElem?_extract, Array.getElem?_extract, bunC_size, tokC_size]
    split
    · rename_i h
      rw [if_pos (by omega), bunC, Array.getElem?_push, if_neg (by rw [tokC_size]; omega)]
    · rename_i h
      rw [if_neg (by omega)]
  rw [h1]
  exact tokC_tag _ _ _ _ _
/-- An own row of tokens opened. -/
theorem own_openT {base : Nat} {w : World} {A : Option Addr} {n c : Nat} {xs : List Tok} {ok : Nat → Prop} (h : kTok.Own ok base w 44 (.slice A n c) xs) (hn : 0 < xs.length) :
    ∃ g cur, A = some ⟨g, 0, none⟩ ∧ base ≤ g ∧ w.heap[g]? = some (.cells cur 44 (0, 0)) := by
  obtain ⟨css, he, ho⟩ := h
  rcases ho.2 with ⟨_, h0⟩ | ⟨g, cap, cur, e, hb, hg, -, -, -, -⟩
  · omega
  · cases e
    exact ⟨g, cur, rfl, hb, hg⟩
theorem idx_T (g n c k : Nat) (hk : k < n) : ∀ wx : World, (Instr.indexAt 59 (.slice (some ⟨g, 0, none⟩) n c) (.int .i64 (k : Int))).run Tryd.prog wx = .ok (.pointer (some ⟨g, k * 36, none⟩)) wx := fun wx => by
  have hE := tok_size
  cases hq : Tryd.prog.info? 44 with
  | none => rw [hq] at hE; cases hE
  | some x =>
    rw [hq] at hE
    have : x.size = 36 := by
      have h : x.size = kTok.sz := by simpa using hE
      exact h
    simp [Instr.indexAt, asIntOf, run_underlying Tryd.underlying59, sizeOf, typeInfo, hq, this, hk, Addr.add]
    omega
end Go.Proofs.YtdkeflhgengblaaDoor
namespace Go.Proofs.YtdkeflhgengblaaDoor
open Go.RowKit
attribute [local go_sem ↓] ld8 ld32 ld64 ld73
attribute [local go_sem] run_ldAgg run_storeAgg agg_alloc_at agg_alloc_past agg_drew agg_setCell row_alloc_at row_alloc_past row_drew setRow_alloc_at setRow_alloc_past setRow_drew agg_setRow_at agg_setRow_far cell_setRow_at cell_setRow_far row_setRow_far size_setRow s8C_size s8C_part s8C_one s8C_splice0 s8C_ne dgC_size dgC_72 dgC_part dgC_h dgC_r dgC_splice_h dgC_set dgC_one dgC_splice0 dgC_ne zero_dg
attribute [local go_sem] tgC_size tgC_one tgC_part tgC_splice tgC_splice_any zero_tg tgC_ne
attribute [local go_sem ↓] ld36
attribute [local go_sem] tokC_size tokC_0 tokC_1 tokC_2 tokC_3 tokC_g0 tokC_g1 tokC_g2 tokC_g3 tokC_part tokC_tag tokC_set0 tokC_set1 tokC_set2 tokC_set3 tokC_splice tokC_splice0 zero_tok tokC_all tokC_ne
attribute [local go_sem ↓] ld37
attribute [local go_sem] bunC_size bunC_0 bunC_1 bunC_2 bunC_3 bunC_36 bunC_g3 bunC_g36 bunC_part bunC_root bunC_set36 bunC_splice bunC_splice0 zero_bun bunC_all bunC_ne

theorem check_small {b : Bun} (h : checkB b = true) : b.root.cavs.length ≤ 64 ∧ b.dis.length ≤ 16 ∧ ∀ y ∈ b.dis, y.cavs.length ≤ 64 := by
  simp only [checkB, checkT, checkD, Bool.and_eq_true, decide_eq_true_eq, List.all_eq_true] at h
  obtain ⟨⟨⟨-, h1⟩, ⟨-, h2⟩, -⟩, h3⟩ := h
  exact ⟨h2, h1, fun y hy => (h3 y hy).2.1.2⟩
set_option maxRecDepth 100000 in
set_option maxHeartbeats 1600000 in
theorem c_ball (b : Bun) (A B : Option Addr) (n c m d : Nat) (ok ok' : Nat → Prop) (w : World) (hR : kCav.Row ok w A n c b.root.cavs) (hS : kTok.Row ok' w B m d b.dis) (hP : PrimesAt w) :
    Calls Tryd.prog 41 #[bunV b A n c B m d] w (AllDone w b) := by
  have HP := hide hP
  have hw0 := hP.1
  have HR := hide hR
  have HS := hide hS
  have HL := hide hS.1
  clear hR hS hP
  obtain ⟨CB, hCB⟩ : ∃ CB, CB = bunA b A n c B m d := ⟨_, rfl⟩
  have HCB := hide hCB
  have HCV : Hid (Value.agg CB = bunV b A n c B m d) := hide (by rw [hCB])
  have hzB : CB.size = 37 := by rw [hCB]; exact bunC_size _ _ _ _ _ _
  have hoB : oneAll CB = true := by rw [hCB]; exact bunC_all _ _ _ _ _ _ _ _ _ _ _
  obtain ⟨W2, hW2⟩ : ∃ W2, W2 = (w.alloc (.cells CB 61)).alloc (.cells bunZ 61) := ⟨_, rfl⟩
  have HB2 : Hid (Below w.heap.size w W2) := hide (by rw [hW2]; exact below2 _ _ _)
  have hs2 : W2.heap.size = w.heap.size + 2 := by rw [hW2]; simp only [World.size_alloc]
  have H1 : Hid (W2.heap[w.heap.size]? = some (.cells CB 61)) := hide (by
    rw [hW2, Below.heap_alloc _ _ _ (by simp only [World.size_alloc]; omega)]; exact heap_alloc_new _ _)
  have H2 : Hid (W2.heap[w.heap.size + 1]? = some (.cells bunZ 61)) := hide (by rw [hW2]; exact heap_new2 _ _ _)
  have hag : agg? W2 ⟨w.heap.size, 0, none⟩ 37 = some CB := (agg_of_row H1.out 0 37 (by decide)).trans (by rw [hCB]; exact bunC_part _ _ _ _ _ _)
  rw [← HCV.out]
  rw [hW2] at hag
  have HW2 := hide hW2
  clear hCB hW2
  go_enter Tryd.func41, Tryd.ntmps41
  go_wp2_with fail
  rw [← HW2.out, HCV.out]
  refine (c_bcheck b A B n c m d _ _ W2 (HR.out.below HB2.out) (HS.out.below HB2.out)).mono ?_
  rintro e w3 ⟨rfl, b3⟩
  have hs3 := b3.size
  have K1 := hide ((b3.block _ (by omega)).trans H1.out)
  have K2 := hide ((b3.block _ (by omega)).trans H2.out)
  have HB3 := hide (HB2.out.trans (b3.mono (by omega)))
  have hw3 : w.heap.size + 2 ≤ w3.heap.size := by omega
  clear b3 hag H1 H2 HB2 HW2
  cases hck : checkB b with
  | false =>
    have HA1 : Hid (allB b = Bun.zero) := hide (by rw [allB, if_neg (by rw [hck]; decide)])
    have HA2 : Hid (allE b = 1) := hide (by rw [allE, if_neg (by rw [hck]; decide)])
    have hrz := row_of K2.out
    have HBE := hide (bsetRow HB3.out (Nat.le_succ w.heap.size) bunZ)
    have hage : agg? (w3.setRow (w.heap.size + 1) bunZ) ⟨w.heap.size + 1, 0, none⟩ 37 = some bunZ := (agg_setRow_at _ _ _ _ _ (by rw [hrz]; rfl) (by decide)).trans (bunC_part _ _ _ _ _ _)
    clear hck
    simp only [errV, Bool.false_eq_true, if_false]
    go_wp2_with fail
    exact bodyPost_ret (v := .tuple #[.agg bunZ, .int .i64 1]) (by simp [results, Tryd.results41, go_sem, hage]) rfl ⟨none, 0, 0, none, 0, 0, by rw [HA1.out, HA2.out]; rfl, by rw [HA1.out]; exact .nil _ _ _ _ _ (Nat.zero_le _), by rw [HA1.out]; exact .nil _ _ _ _ _ (Nat.zero_le _), HBE.out⟩
  | true =>
    obtain ⟨hl1, hl2, hl3⟩ := check_small hck
    have hn64 : n ≤ 64 := by have := HR.out.1; omega
    have hm16 : m ≤ 16 := by have := HL.out; omega
    have HA1 : Hid (allB b = ⟨b.root, b.dis.map (bdT b.root.tag)⟩) := hide (by rw [allB, if_pos hck])
    have HA2 : Hid (allE b = 0) := hide (by rw [allE, if_pos hck])
    have HL3 := hide hl3
    have HP3 := hide (HP.out.ext HB3.out)
    have hagb : agg? w3 ⟨w.heap.size, 0, none⟩ 37 = some CB := (agg_of_row K1.out 0 37 (by decide)).trans (by rw [HCB.out]; exact bunC_part _ _ _ _ _ _)
    have HR3 := hide (HR.out.below HB3.out)
    have HS3 := hide (HS.out.below HB3.out)
    clear hck hl1 hl2 hl3
    simp only [errV, if_true]
    go_wp2_with fail
    rw [HCV.out]
    refine (c_bcloneO b A B n c m d _ _ w3 HR3.out HS3.out (by omega) (by omega) (fun y hy => Nat.le_trans (HL3.out y hy) (by decide))).mono ?_
    rintro e w4 ⟨A0, c0, B0, d0, rfl, hr0, hs0, b4⟩
    obtain ⟨CC, hCC⟩ : ∃ CC, CC = bunA b A0 n c0 B0 m d0 := ⟨_, rfl⟩
    have HCC := hide hCC
    have hzC : CC.size = 37 := by rw [hCC]; exact bunC_size _ _ _ _ _ _
    have hoC : oneAll CC = true := by rw [hCC]; exact bunC_all _ _ _ _ _ _ _ _ _ _ _
    have hspC : splice bunZ 0 CC = CC := by rw [hCC]; exact bunC_splice0 _ _ _ _ _ _ _ (bunC_size _ _ _ _ _ _)
    rw [show bunV b A0 n c0 B0 m d0 = .agg CC from by rw [hCC]]
    have hs4 := b4.size
    have hcx : (w4.alloc (.cells CC 61)).cell? ⟨w4.heap.size, 36, none⟩ = some (.slice B0 m d0) := (cell_of_row _ _ _ _ _ _ (heap_alloc_new w4 _)).trans (by rw [hCC]; exact bunC_36 _ _ _ _ _ _)
    obtain ⟨f, hf⟩ : ∃ f, f = bdT b.root.tag := ⟨_, rfl⟩
    have HF := hide hf
    obtain ⟨G5, hG5⟩ : ∃ G5, G5 = w4.heap.size := ⟨_, rfl⟩
    obtain ⟨W5, hW5⟩ : ∃ W5, W5 = w4.alloc (.cells CC 61) := ⟨_, rfl⟩
    have b35 : Below w3.heap.size w3 W5 := by rw [hW5]; exact b4.alloc hs4 _
    have HO0 : Hid (kTok.Own (fun k => w3.heap.size ≤ k) w3.heap.size W5 44 (.slice B0 m d0) (mapTo f b.dis 0)) := hide (by rw [hW5, mapTo_start]; exact hs0.below (below1 _ _))
    have HX0 : Hid (W5.heap[G5]? = some (.cells CC 61)) := hide (by rw [hW5, hG5]; exact heap_alloc_new _ _)
    have HB0 := hide b35
    have HQ0 : Hid (kCav.Row (fun k => w3.heap.size ≤ k ∧ some k ≠ (Value.slice B0 m d0).ownBlock) W5 A0 n c0 b.root.cavs) := hide (by rw [hW5]; exact hr0.alloc _)
    have HNE : Hid (∀ g, (Value.slice B0 m d0).ownBlock = some g → g < G5) := hide (by rw [hG5]; exact own_block_lt hs0)
    have HWE := hide hW5
    have HGE := hide hG5
    have hG3 : w3.heap.size ≤ G5 := by omega
    clear hagb hCC hf hG5 hW5 hr0 hs0 b4 b35
    go_wp2_with fail
    rw [← HWE.out, ← HGE.out]
    clear hs4 hcx HWE HGE
    go_loopw [21] (fun i wr => ∃ (k : Nat), k ≤ m ∧ i = .int .i64 (k : Int) ∧ Hid (kTok.Own (fun k => w3.heap.size ≤ k) w3.heap.size wr 44 (.slice B0 m d0) (mapTo f b.dis k)) ∧ Hid (wr.heap[G5]? = some (.cells CC 61)) ∧ Hid (Below w3.heap.size w3 wr) ∧ Hid (kCav.Row (fun k => w3.heap.size ≤ k ∧ some k ≠ (Value.slice B0 m d0).ownBlock) wr A0 n c0 b.root.cavs)) (fun i _ => m - (intOf i).toNat)
    case atStart => exact ⟨0, Nat.zero_le _, rfl, HO0, HX0, HB0, HQ0⟩
    case round =>
      clear HO0 HX0 HB0 HQ0
      obtain ⟨k, hk, rfl, HO, HX, HB, HQ⟩ := hrel
      have K1r := hide ((HB.out.block _ (by omega)).trans K1.out)
      have K2r := hide ((HB.out.block _ (by omega)).trans K2.out)
      have hwr : w3.heap.size ≤ wr.heap.size := HB.out.size
      have hGr : G5 < wr.heap.size := (Array.getElem?_eq_some_iff.1 HX.out).1
      by_cases hlt : k < m
      · obtain ⟨y, hy⟩ : ∃ y, b.dis[k]? = some y := ⟨_, List.getElem?_eq_getElem (by have := HL.out; omega)⟩
        have hmx := mapTo_at (f := f) hy
        have hlen : (mapTo f b.dis k).length = m := by rw [mapTo_len]; exact HL.out
        obtain ⟨g, cur, rfl, hbg, hgc⟩ := own_openT HO.out (by omega)
        obtain ⟨b', q, A1, n1, c1, hix, hbl, hag, hr1, hk1⟩ := tok_at (own_rowT HO.out) hmx
        have hix2 := idx_T g m d0 k hlt
        have ei := (hix wr).symm.trans (hix2 wr)
        obtain ⟨rfl, rfl⟩ : g = b' ∧ k * 36 = q := by
          injection ei with e1
          injection e1 with e2
          injection e2 with e3
          injection e3 with e4 e5
          exact ⟨e4.symm, e5.symm⟩
        have hn1 : n1 ≤ 64 := by have := HL3.out y (List.mem_of_getElem? hy); have := hr1.1; omega
        obtain ⟨CY, hCY⟩ : ∃ CY, CY = tokA y A1 n1 c1 := ⟨_, rfl⟩
        have HCY : Hid (Value.agg CY = tokV y A1 n1 c1) := hide (by rw [hCY])
        have hzY : CY.size = 36 := by rw [hCY]; exact tokC_size _ _ _ _ _
        have hoY : oneAll CY = true := by rw [hCY]; exact tokC_all _ _ _ _ _ _ _ _
        have hspY : splice tokZ 0 CY = CY := by rw [hCY]; exact tokC_splice0 _ _ _ _ _ _ (tokC_size _ _ _ _ _)
        rw [← hCY] at hag
        have HR1 := hide (hr1.alloc (.cells CY 44))
        have b1 : Below wr.heap.size wr (wr.alloc (.cells CY 44)) := below1 _ _
        have hagt : agg? (wr.alloc (.cells CY 44)) ⟨w.heap.size, 4, none⟩ 32 = some (tgC b.root.tag) := (agg_of_row ((b1.block _ (by omega)).trans K1r.out) 4 32 (by decide)).trans (by rw [HCB.out]; exact bunC_tag _ _ _ _ _ _)
        have hagy : agg? (wr.alloc (.cells CY 44)) ⟨wr.heap.size, 0, none⟩ 36 = some CY := (agg_of_row (heap_alloc_new wr (.cells CY 44)) 0 36 (by decide)).trans (by rw [hCY]; exact tokC_part _ _ _ _ _)
        have HY := hide hy
        have HGC := hide hgc
        have HBW := hide (HB3.out.trans (HB.out.mono (by omega)))
        have HPW := hide (HP.out.ext (HBW.out.alloc (by omega) (.cells CY 44)))
        have HK1 := hide hk1
        clear hix ei hmx hy hr1 hk1 b1 hgc hCY
        go_wp2_with fail
        rw [HCY.out]
        refine (c_bind b.root.tag y A1 n1 c1 _ _ HR1.out (by omega) HPW.out).mono ?_
        rintro e w6 ⟨A2, n2, c2, rfl, hr2, b6⟩
        obtain ⟨X, hX⟩ : ∃ X, bindR b.root.tag y = X := ⟨_, rfl⟩
        rw [hX] at hr2
        rw [hX]
        obtain ⟨CX, hCX⟩ : ∃ CX, CX = tokA X A2 n2 c2 := ⟨_, rfl⟩
        rw [show tokV X A2 n2 c2 = .agg CX from by rw [hCX]]
        have hzX : CX.size = 36 := by rw [hCX]; exact tokC_size _ _ _ _ _
        have hoX : oneAll CX = true := by rw [hCX]; exact tokC_all _ _ _ _ _ _ _ _
        have hspX : splice tokZ 0 CX = CX := by rw [hCX]; exact tokC_splice0 _ _ _ _ _ _ (tokC_size _ _ _ _ _)
        have hs6 := b6.size
        simp only [World.size_alloc] at hs6
        have b7 : Below wr.heap.size wr (w6.alloc (.cells CX 44)) := ((below1 wr _).trans (b6.mono (by simp only [World.size_alloc]; omega))).alloc (by omega) _
        have hglt : g < wr.heap.size := (Array.getElem?_eq_some_iff.1 HGC.out).1
        have HG7 := hide ((b7.block g hglt).trans HGC.out)
        have HX7 := hide ((b7.block G5 hGr).trans HX.out)
        have HO7 := hide (HO.out.below b7)
        have HQ7 := hide (HQ.out.below b7)
        have HB7 := hide (HB.out.trans (b7.mono hwr))
        have hagx : agg? (w6.alloc (.cells CX 44)) ⟨w6.heap.size, 0, none⟩ 36 = some CX := (agg_of_row (heap_alloc_new w6 (.cells CX 44)) 0 36 (by decide)).trans (by rw [hCX]; exact tokC_part _ _ _ _ _)
        have hcx7 : (w6.alloc (.cells CX 44)).cell? ⟨G5, 36, none⟩ = some (.slice (some ⟨g, 0, none⟩) m d0) := (cell_of_row _ _ _ _ _ _ HX7.out).trans (by rw [HCC.out]; exact bunC_36 _ _ _ _ _ _)
        cases hb : y.bnd with
        | true =>
          have hfy : f y = y := by rw [HF.out, bdT, if_pos hb]
          have HOE : Hid (kTok.Own (fun k => w3.heap.size ≤ k) w3.heap.size (w6.alloc (.cells CX 44)) 44 (.slice (some ⟨g, 0, none⟩) m d0) (mapTo f b.dis (k + 1))) := hide (by rw [mapTo_same HY.out hfy]; exact HO7.out)
          rw [show bindE y = 6 from by rw [bindE, if_pos hb]]
          clear hX hr2 b6 b7 hCX hfy
          go_wp2_with fail
          go_roundw
          case rel => exact ⟨k + 1, hlt, by simp, HOE, HX7, HB7, HQ7⟩
          case measure => simp [intOf]; omega
        | false =>
          have hfy : f y = X := by rw [HF.out, bdT, if_neg (by rw [hb]; decide), hX]
          have hXk : X.key < 18446744073709551616 := by rw [← hX, bindR, if_neg (by rw [hb]; decide)]; exact HK1.out
          have hKX : kTok.K (fun j => w3.heap.size ≤ j ∧ j ≠ g) (w6.alloc (.cells CX 44)) X CX.toList := ⟨A2, n2, c2, by rw [hCX], ((hr2.more (ok' := fun j => w3.heap.size ≤ j ∧ j ≠ g) fun j hj => by simp only [World.size_alloc] at hj; exact ⟨by omega, by omega⟩).alloc _), hXk⟩
          obtain ⟨hsz8, ho8⟩ := HO7.out.set (i := k) (by rw [mapTo_len]; have := HL.out; omega) HG7.out hKX
          rw [show kTok.sz = 36 from rfl] at hsz8 ho8
          rw [show CX.toList.toArray = CX from Array.toArray_toList, ← hfy, ← mapTo_next HY.out] at ho8
          have hrw7 := row_of HG7.out
          obtain ⟨W8, hW8⟩ : ∃ W8, W8 = (w6.alloc (.cells CX 44)).setRow g (splice cur (k * 36) CX) := ⟨_, rfl⟩
          have hgne : g < G5 := HNE.out g rfl
          have HOE : Hid (kTok.Own (fun k => w3.heap.size ≤ k) w3.heap.size W8 44 (.slice (some ⟨g, 0, none⟩) m d0) (mapTo f b.dis (k + 1))) := hide (by rw [hW8]; exact ho8)
          have HXE : Hid (W8.heap[G5]? = some (.cells CC 61)) := hide (by rw [hW8, heap_setRow_far _ _ _ (by omega)]; exact HX7.out)
          have HBE : Hid (Below w3.heap.size w3 W8) := hide (by rw [hW8]; exact bsetRow HB7.out hbg _)
          have HQE : Hid (kCav.Row (fun k => w3.heap.size ≤ k ∧ some k ≠ (Value.slice (some ⟨g, 0, none⟩) m d0).ownBlock) W8 A0 n c0 b.root.cavs) := hide (HQ7.out.keep fun j hj _ => by rw [hW8, heap_setRow_far _ _ _ (fun e => hj.2 (by rw [e]; rfl))])
          rw [show bindE y = 0 from by rw [bindE, if_neg (by rw [hb]; decide)]]
          have HW8 := hide hW8
          clear hX hr2 b6 b7 hCX hfy hXk hKX ho8 hW8 hb
          go_wp2_with fail
          rw [← HW8.out]
          go_roundw
          case rel => exact ⟨k + 1, hlt, by simp, HOE, HXE, HBE, HQE⟩
          case measure => simp [intOf]; omega
      · obtain rfl : k = m := by omega
        have hmap : mapTo f b.dis k = b.dis.map f := mapTo_end HL.out
        have hagc : agg? wr ⟨G5, 0, none⟩ 37 = some CC := (agg_of_row HX.out 0 37 (by decide)).trans (by rw [HCC.out]; exact bunC_part _ _ _ _ _ _)
        have hrz := row_of K2r.out
        obtain ⟨W8, hW8⟩ : ∃ W8, W8 = wr.setRow (w.heap.size + 1) CC := ⟨_, rfl⟩
        have k8 : W8.heap[w.heap.size + 1]? = some (.cells CC 61) := by rw [hW8]; exact setRow_heap wr (w.heap.size + 1) bunZ CC 61 _ K2r.out
        have hag8 : agg? W8 ⟨w.heap.size + 1, 0, none⟩ 37 = some CC := (agg_of_row k8 0 37 (by decide)).trans (by rw [HCC.out]; exact bunC_part _ _ _ _ _ _)
        have HBE : Hid (Below w.heap.size w W8) := hide (by rw [hW8]; exact bsetRow (HB3.out.trans (HB.out.mono (by omega))) (Nat.le_succ _) _)
        have HD8 : Hid (kTok.Row (fun _ => True) W8 B0 k d0 (b.dis.map f)) := hide (by
          have h := own_rowT HO.out
          rw [hmap] at h
          exact (h.keep (w' := W8) fun j hj _ => by rw [hW8, heap_setRow_far _ _ _ (by omega)]).more fun _ _ => trivial)
        have HQ8 : Hid (kCav.Row (fun _ => True) W8 A0 n c0 b.root.cavs) := hide ((HQ.out.keep (w' := W8) fun j hj _ => by rw [hW8, heap_setRow_far _ _ _ (by have := hj.1; omega)]).more fun _ _ => trivial)
        have HCE : Hid (Value.agg CC = bunV (allB b) A0 n c0 B0 k d0) := hide (by rw [HCC.out, HA1.out])
        have hs8 := hW8.symm
        clear k8 hW8 hmap
        go_wp2_with fail
        exact bodyPost_ret (v := .tuple #[.agg CC, .int .i64 0]) (by simp [results, Tryd.results41, go_sem, hag8]) rfl ⟨A0, n, c0, B0, k, d0, by rw [HCE.out, HA2.out], by rw [HA1.out]; exact HQ8.out, by rw [HA1.out, ← HF.out]; exact HD8.out, HBE.out⟩
end Go.Proofs.YtdkeflhgengblaaDoor
namespace Go.Proofs.YtdkeflhgengblaaDoor
open Go.RowKit
attribute [local go_sem ↓] ld16 ld17 ld32 ld36
attribute [local go_sem] run_ldAgg run_storeAgg agg_alloc_at agg_alloc_past agg_drew agg_setCell row_alloc_at row_alloc_past row_drew setRow_alloc_at setRow_alloc_past setRow_drew agg_setRow_at agg_setRow_far cell_setRow_at cell_setRow_far row_setRow_far size_setRow tgC_size tgC_one tgC_part tgC_splice tokC_size tokC_0 tokC_1 tokC_2 tokC_3 tokC_g0 tokC_g1 tokC_g2 tokC_g3 tokC_part tokC_tag tokC_set0 tokC_set1 tokC_set2 tokC_set3 tokC_splice tokC_splice0 tgC_splice_any zero_tg zero_tok tokC_all tokC_ne tgC_ne
set_option maxRecDepth 100000 in
theorem c_rcan (x : Cav) (w : World) : Calls Tryd.prog 57 #[cavV x] w fun e w' => e = .returned (.bool (canC x)) ∧ Below w.heap.size w w' := by
  cases h3 : x.third with
  | true =>
    unfold cavV
    rw [h3]
    have H3 := hide h3
    clear h3
    go_enter Tryd.func57, Tryd.ntmps57
    go_wp2_with fail
    all_goals go_ret
    all_goals refine ⟨congrArg (fun b => Ending.returned (.bool b)) (?_ : _ = canC x), below1 _ _⟩
    all_goals simp_all [canC, H3.out, ← nil_iff]
    all_goals first | omega | (rw [Bool.eq_iff_iff]; simp; omega)
  | false =>
    unfold cavV
    rw [h3]
    have H3 := hide h3
    clear h3
    go_enter Tryd.func57, Tryd.ntmps57
    go_wp2_with fail
    all_goals go_ret
    all_goals refine ⟨congrArg (fun b => Ending.returned (.bool b)) (?_ : _ = canC x), below1 _ _⟩
    all_goals simp_all [canC, H3.out, ← nil_iff, cav_mk]
    all_goals first | omega | (rw [Bool.eq_iff_iff]; simp; omega)

set_option maxRecDepth 100000 in
set_option maxHeartbeats 400000 in
theorem c_rcheck (t : Tok) (A : Option Addr) (n c : Nat) (ok : Nat → Prop) (w : World) (hR : kCav.Row ok w A n c t.cavs) :
    Calls Tryd.prog 56 #[tokV t A n c] w fun e w' => e = .returned (.bool (checkT t)) ∧ Below w.heap.size w w' := by
  have HL := hide hR.1
  have hm : n ≤ 9223372036854775807 := Nat.le_trans hR.2.1 hR.2.2.1
  have HR := hide hR
  clear hR
  by_cases h1 : 1024 < t.id.size
  · have HC : Hid (checkT t = false) := hide (by simp [checkT]; omega)
    go_enter Tryd.func56, Tryd.ntmps56
    go_wp2_with fail
    go_ret
    exact ⟨by rw [HC.out]; rfl, below1 _ _⟩
  · by_cases h2 : 64 < n
    · have HC : Hid (checkT t = false) := hide (by have := HL.out; simp [checkT]; omega)
      go_enter Tryd.func56, Tryd.ntmps56
      go_wp2_with fail
      go_ret
      exact ⟨by rw [HC.out]; rfl, below1 _ _⟩
    · have HC : Hid (checkT t = t.cavs.all canC) := hide (by have := HL.out; simp [checkT]; omega)
      go_enter Tryd.func56, Tryd.ntmps56
      go_wp2_with fail
      go_loopw [18] (fun i wr => ∃ k : Nat, k ≤ n ∧ i = .int .i64 (k : Int) ∧ Hid ((t.cavs.take k).all canC = true) ∧ Hid (Below w.heap.size w wr)) (fun i _ => n - (intOf i).toNat)
      case atStart => exact ⟨0, Nat.zero_le _, rfl, hide rfl, hide (below1 _ _)⟩
      case round =>
        obtain ⟨k, hk, rfl, HA, HB⟩ := hrel
        by_cases hlt : k < n
        · obtain ⟨x, hx⟩ : ∃ x, t.cavs[k]? = some x := ⟨_, List.getElem?_eq_getElem (by have := HL.out; omega)⟩
          obtain ⟨b, q, cs, hix, -, hbl, hK, hra⟩ := (HR.out.below HB.out).index (P := Tryd.prog) Tryd.underlying42 (E := 83) cav_size hx
          have hKe := hK.1
          subst hKe
          have a0 := hra 0 _ rfl
          have a1 := hra 1 _ rfl
          have a2 := hra 2 _ rfl
          have a3 := hra 3 _ rfl
          have a4 := hra 4 _ rfl
          simp only [Nat.add_zero] at a0
          have HX := hide hx
          have hsb := HB.out.size
          clear hx hK hra
          go_wp2_with fail
          refine (c_rcan x _).mono ?_
          rintro e w1 ⟨rfl, b1⟩
          have HB1 := hide (HB.out.trans ((bnext (below1 wr _) b1).mono hsb))
          clear b1
          cases hc : canC x with
          | true =>
            have HA1 : Hid ((t.cavs.take (k + 1)).all canC = true) := hide (by rw [List.take_add_one, HX.out, List.all_append, HA.out]; simp [hc])
            clear hc
            go_wp2_with fail
            go_roundw
            case rel => exact ⟨k + 1, by omega, by simp, HA1, HB1⟩
            case measure => simp [intOf]; omega
          | false =>
            have HA1 : Hid (t.cavs.all canC = false) := hide (by
              rw [List.all_eq_false]
              exact ⟨x, List.mem_of_getElem? HX.out, by simp [hc]⟩)
            clear hc
            go_wp2_with fail
            go_ret
            exact ⟨by rw [HC.out, HA1.out]; rfl, HB1.out⟩
        · obtain rfl : k = n := by omega
          have HA1 : Hid (t.cavs.all canC = true) := hide (by
            have := HA.out
            rwa [List.take_of_length_le (Nat.le_of_eq HL.out)] at this)
          go_wp2_with fail
          go_ret
          exact ⟨by rw [HC.out, HA1.out]; rfl, HB.out⟩

end Go.Proofs.YtdkeflhgengblaaDoor
namespace Go.Proofs.YtdkeflhgengblaaDoor
open Go.RowKit
attribute [local go_sem ↓] ld16 ld17 ld32 ld36 ld37
attribute [local go_sem] run_ldAgg run_storeAgg agg_alloc_at agg_alloc_past agg_drew agg_setCell row_alloc_at row_alloc_past row_drew setRow_alloc_at setRow_alloc_past setRow_drew agg_setRow_at agg_setRow_far cell_setRow_at cell_setRow_far row_setRow_far size_setRow tgC_size tgC_one tgC_part tgC_splice tokC_size tokC_0 tokC_1 tokC_2 tokC_3 tokC_g0 tokC_g1 tokC_g2 tokC_g3 tokC_part tokC_tag tokC_set0 tokC_set1 tokC_set2 tokC_set3 tokC_splice tokC_splice0 tgC_splice_any zero_tg zero_tok tokC_all tokC_ne tgC_ne
attribute [local go_sem] bunC_size bunC_0 bunC_1 bunC_2 bunC_3 bunC_36 bunC_g3 bunC_g36 bunC_part bunC_root bunC_set36 bunC_splice bunC_splice0 zero_bun bunC_all bunC_ne
theorem c_rcheck0 (t : Tok) (b : Bool) (hb : t.bnd = b) (A : Option Addr) (n c : Nat) (ok : Nat → Prop) (w : World) (hR : kCav.Row ok w A n c t.cavs) :
    Calls Tryd.prog 56 #[.agg (tokC (.int .u64 (t.key : Int)) (.string t.id) (.slice A n c) (.bool b) t.tag)] w fun e w' => e = .returned (.bool (checkT t)) ∧ Below w.heap.size w w' := by
  subst hb
  exact c_rcheck t A n c ok w hR
set_option maxRecDepth 100000 in
set_option maxHeartbeats 600000 in
theorem c_rbcheck (x : Bun) (A B : Option Addr) (n c m d : Nat) (ok ok' : Nat → Prop) (w : World) (hR : kCav.Row ok w A n c x.root.cavs) (hS : kTok.Row ok' w B m d x.dis) :
    Calls Tryd.prog 85 #[bunV x A n c B m d] w fun e w' => e = .returned (.bool (checkB x)) ∧ Below w.heap.size w w' := by
  have HL := hide hS.1
  have hm : m ≤ 9223372036854775807 := Nat.le_trans hS.2.1 hS.2.2.1
  have HR := hide hR
  have HS := hide hS
  clear hR hS
  go_enter Tryd.func85, Tryd.ntmps85
  go_wp2_with fail
  refine (c_rcheck x.root A n c ok _ (HR.out.below (below1 _ _))).mono ?_
  rintro e w1 ⟨rfl, b1⟩
  have HB := hide (bnext (below1 _ _) b1)
  have hX : BunIn w1 w.heap.size x A n c B m d := (b1.block _ (by simp)).trans (heap_alloc_new _ _)
  have hy3 : w1.cell? ⟨w.heap.size, 3, none⟩ = some (.bool x.root.bnd) := (cell_of_row w1 _ _ _ _ _ hX).trans (bunC_3 _ _ _ _ _ _)
  have hy := hX.dis
  clear b1 hX
  cases hck : checkT x.root with
  | false =>
    have HC : Hid (checkB x = false) := hide (by simp [checkB, hck])
    clear hck
    go_wp2_with fail
    go_ret
    exact ⟨by rw [HC.out]; rfl, HB.out⟩
  | true =>
    cases hb : x.root.bnd with
    | true =>
      have HC : Hid (checkB x = false) := hide (by simp [checkB, hb])
      rw [hb] at hy3
      clear hck hb
      go_wp2_with fail
      go_ret
      exact ⟨by rw [HC.out]; rfl, HB.out⟩
    | false =>
      rw [hb] at hy3
      by_cases h2 : 16 < m
      · have HC : Hid (checkB x = false) := hide (by
          have := HL.out
          have h : decide (x.dis.length ≤ 16) = false := decide_eq_false (by omega)
          simp [checkB, h])
        clear hck hb
        go_wp2_with fail
        go_ret
        exact ⟨by rw [HC.out]; rfl, HB.out⟩
      · have HC : Hid (checkB x = x.dis.all checkD) := hide (by
          have := HL.out
          have h : decide (x.dis.length ≤ 16) = true := decide_eq_true (by omega)
          simp only [checkB, hb, h, hck, Bool.not_false, Bool.true_and])
        clear hck hb
        go_wp2_with fail
        go_loopw [23] (fun i wr => ∃ k : Nat, k ≤ m ∧ i = .int .i64 (k : Int) ∧ Hid ((x.dis.take k).all checkD = true) ∧ Hid (Below w.heap.size w wr)) (fun i _ => m - (intOf i).toNat)
        case atStart => exact ⟨0, Nat.zero_le _, rfl, hide rfl, HB⟩
        case round =>
          obtain ⟨k, hk, rfl, HA, HB⟩ := hrel
          by_cases hlt : k < m
          · obtain ⟨y, hx⟩ : ∃ y, x.dis[k]? = some y := ⟨_, List.getElem?_eq_getElem (by have := HL.out; omega)⟩
            obtain ⟨b, q, A1, n1, c1, hix, hbl, hag, hr1, hk1⟩ := tok_at (HS.out.below HB.out) hx
            have HX := hide hx
            have HR1 := hide hr1
            have hsb := HB.out.size
            clear hx hr1
            go_wp2_with fail
            refine (c_rcheck y A1 n1 c1 _ _ (HR1.out.below (below1 _ _))).mono ?_
            rintro e w2 ⟨rfl, b2⟩
            have HB2 := hide (HB.out.trans ((bnext (below1 _ _) b2).mono hsb))
            have hk2 : w2.cell? ⟨wr.heap.size, 0, none⟩ = some (.int .u64 (y.key : Int)) := (cell_of_row w2 _ _ _ _ _ ((b2.block _ (by simp)).trans (heap_alloc_new _ _))).trans (tokC_0 _ _ _ _ _)
            clear b2
            cases hc : checkT y with
            | false =>
              have HA1 : Hid (x.dis.all checkD = false) := hide (by
                rw [List.all_eq_false]
                exact ⟨y, List.mem_of_getElem? HX.out, by simp [hc, checkD]⟩)
              clear hc
              go_wp2_with fail
              go_ret
              exact ⟨by rw [HC.out, HA1.out]; rfl, HB2.out⟩
            | true =>
              by_cases h0 : y.key = 0
              · have h0' : (y.key : Int) = 0 := by omega
                have HA1 : Hid ((x.dis.take (k + 1)).all checkD = true) := hide (by rw [List.take_add_one, HX.out, List.all_append, HA.out]; simp [hc, checkD, h0])
                clear hc
                go_wp2_with fail
                go_roundw
                case rel => exact ⟨k + 1, by omega, by simp, HA1, HB2⟩
                case measure => simp [intOf]; omega
              · have h0' : ¬ (y.key : Int) = 0 := by omega
                have HA1 : Hid (x.dis.all checkD = false) := hide (by
                  rw [List.all_eq_false]
                  exact ⟨y, List.mem_of_getElem? HX.out, by simp [checkD, h0]⟩)
                clear hc
                go_wp2_with fail
                go_ret
                exact ⟨by rw [HC.out, HA1.out]; rfl, HB2.out⟩
          · obtain rfl : k = m := by omega
            have HA1 : Hid (x.dis.all checkD = true) := hide (by
              have := HA.out
              rwa [List.take_of_length_le (Nat.le_of_eq HL.out)] at this)
            go_wp2_with fail
            go_ret
            exact ⟨by rw [HC.out, HA1.out]; rfl, HB.out⟩

end Go.Proofs.YtdkeflhgengblaaDoor
namespace Go.Proofs.YtdkeflhgengblaaDoor
open Go.RowKit
attribute [local go_sem ↓] ld8 ld32 ld64 ld73
attribute [local go_sem] run_ldAgg run_storeAgg agg_alloc_at agg_alloc_past agg_drew agg_setCell row_alloc_at row_alloc_past row_drew setRow_alloc_at setRow_alloc_past setRow_drew agg_setRow_at agg_setRow_far cell_setRow_at cell_setRow_far row_setRow_far size_setRow s8C_size s8C_part s8C_one s8C_splice0 s8C_ne dgC_size dgC_72 dgC_part dgC_h dgC_r dgC_splice_h dgC_set dgC_one dgC_splice0 dgC_ne zero_dg
attribute [local go_sem] tgC_size tgC_one tgC_part tgC_splice tgC_splice_any zero_tg tgC_ne
attribute [local go_sem ↓] ld36
attribute [local go_sem] tokC_size tokC_0 tokC_1 tokC_2 tokC_3 tokC_g0 tokC_g1 tokC_g2 tokC_g3 tokC_part tokC_tag tokC_set0 tokC_set1 tokC_set2 tokC_set3 tokC_splice tokC_splice0 zero_tok tokC_all tokC_ne
attribute [local go_sem ↓] ld37
attribute [local go_sem] bunC_size bunC_0 bunC_1 bunC_2 bunC_3 bunC_36 bunC_g3 bunC_g36 bunC_part bunC_root bunC_set36 bunC_splice bunC_splice0 zero_bun bunC_all bunC_ne

set_option maxRecDepth 100000 in
theorem built_bun2 (a b c d : Value) (t : Tg) (B : Option Addr) (m e : Nat) : Tryd.prog.built 61 [(0, .agg (tokC a b c d t)), (1, .slice B m e)] = some (bunC a b c d t (.slice B m e)) := by
  obtain ⟨i0, hi, hzz⟩ := Option.map_eq_some_iff.1 bun_info
  simp only [Prod.mk.injEq] at hzz
  obtain ⟨hz0, hz1⟩ := hzz
  have hp : (#[(⟨"Root", 44, 0, false, "", "", 0⟩ : Field), ⟨"Discharges", 59, 36, false, "", "", 88⟩]).toList.mapM (fun f => (Tryd.prog.info? f.type).map fun i => (f.offset, i.size)) = some [(0, 36), (36, 1)] := by kernel_rfl
  unfold Program.built
  rw [hi, Tryd.underlying61]
  simp only [hz0]
  rw [hp]
  simp only [Value.cells]
  rw [bunZL_eq, fill_cons (o := 0) (n := 36) rfl (tokC_size _ _ _ _ _) (by rw [bunC_size]; decide), bunC_splice, fill_one (o := 36) rfl rfl (by rw [bunC_size]; decide), bunC_set36]
  rfl
set_option maxRecDepth 100000 in
theorem at_buildBun2 {ops : Array Oper} {rest : List Oper} {a0 : Act} {w : World} {Q : Exit → Act → World → Prop} {dst : Option Tmp} {ty : TypeId} {pos : String} {after : Array Edge} {x y : Operand} (a b c d : Value) (t : Tg) (B : Option Addr) (m e : Nat) (hx : a0.eval x = .agg (tokC a b c d t)) (hy : a0.eval y = .slice B m e)
    (h : wpList Tryd.prog ops Q rest (a0.put dst (.agg (bunC a b c d t (.slice B m e)))) w) : wpList Tryd.prog ops Q (⟨dst, .build 61 #[(0, x), (1, y)], ty, pos, after, none⟩ :: rest) a0 w := by
  refine wpList_plain rfl fun _ hK => ?_
  have e1 : (Array.map (fun x => (x.fst, a0.eval x.snd)) #[(0, x), (1, y)]).toList = [(0, .agg (tokC a b c d t)), (1, .slice B m e)] := by simp [hx, hy]
  have hb := (congrArg (Tryd.prog.built 61) e1).trans (built_bun2 a b c d t B m e)
  refine wp_build 61 #[(0, x), (1, y)] rfl (by rw [hb]; rfl) ?_
  rw [hb]
  exact hK _ _ h
set_option maxRecDepth 100000 in
set_option maxHeartbeats 1600000 in
theorem c_rball (b : Bun) (A B : Option Addr) (n c m d : Nat) (ok ok' : Nat → Prop) (w : World) (hR : kCav.Row ok w A n c b.root.cavs) (hS : kTok.Row ok' w B m d b.dis) :
    Calls Tryd.prog 42 #[bunV b A n c B m d] w (AllDone w b) := by
  have HR := hide (hR.bound.more (ok' := fun j => j < w.heap.size) fun j hj => hj.2)
  have HS := hide (hS.bound.more (ok' := fun j => j < w.heap.size) fun j hj => hj.2)
  have HL := hide hS.1
  clear hR hS
  obtain ⟨CB, hCB⟩ : ∃ CB, CB = bunA b A n c B m d := ⟨_, rfl⟩
  have HCB := hide hCB
  have HCV : Hid (Value.agg CB = bunV b A n c B m d) := hide (by rw [hCB])
  have hzB : CB.size = 37 := by rw [hCB]; exact bunC_size _ _ _ _ _ _
  have hoB : oneAll CB = true := by rw [hCB]; exact bunC_all _ _ _ _ _ _ _ _ _ _ _
  obtain ⟨W2, hW2⟩ : ∃ W2, W2 = (w.alloc (.cells CB 61)).alloc (.cells bunZ 61) := ⟨_, rfl⟩
  have HB2 : Hid (Below w.heap.size w W2) := hide (by rw [hW2]; exact below2 _ _ _)
  have hs2 : W2.heap.size = w.heap.size + 2 := by rw [hW2]; simp only [World.size_alloc]
  have H1 : Hid (W2.heap[w.heap.size]? = some (.cells CB 61)) := hide (by
    rw [hW2, Below.heap_alloc _ _ _ (by simp only [World.size_alloc]; omega)]; exact heap_alloc_new _ _)
  have H2 : Hid (W2.heap[w.heap.size + 1]? = some (.cells bunZ 61)) := hide (by rw [hW2]; exact heap_new2 _ _ _)
  have hag : agg? W2 ⟨w.heap.size, 0, none⟩ 37 = some CB := (agg_of_row H1.out 0 37 (by decide)).trans (by rw [hCB]; exact bunC_part _ _ _ _ _ _)
  rw [← HCV.out]
  rw [hW2] at hag
  have HW2 := hide hW2
  clear hCB hW2
  go_enter Tryd.func42, Tryd.ntmps42
  go_wp2_with fail
  rw [← HW2.out, HCV.out]
  refine (c_rbcheck b A B n c m d _ _ W2 (HR.out.belowB HB2.out) (HS.out.belowB HB2.out)).mono ?_
  rintro e w3 ⟨rfl, b3⟩
  have hs3 := b3.size
  have K1 := hide ((b3.block _ (by omega)).trans H1.out)
  have K2 := hide ((b3.block _ (by omega)).trans H2.out)
  have HB3 := hide (HB2.out.trans (b3.mono (by omega)))
  have hw3 : w.heap.size + 2 ≤ w3.heap.size := by omega
  clear b3 hag H1 H2 HB2 HW2
  cases hck : checkB b with
  | false =>
    have HA1 : Hid (allB b = Bun.zero) := hide (by rw [allB, if_neg (by rw [hck]; decide)])
    have HA2 : Hid (allE b = 1) := hide (by rw [allE, if_neg (by rw [hck]; decide)])
    have hrz := row_of K2.out
    have HBE := hide (bsetRow HB3.out (Nat.le_succ w.heap.size) bunZ)
    have hage : agg? (w3.setRow (w.heap.size + 1) bunZ) ⟨w.heap.size + 1, 0, none⟩ 37 = some bunZ := (agg_setRow_at _ _ _ _ _ (by rw [hrz]; rfl) (by decide)).trans (bunC_part _ _ _ _ _ _)
    clear hck
    go_wp2_with fail
    exact bodyPost_ret (v := .tuple #[.agg bunZ, .int .i64 1]) (by simp [results, Tryd.results42, go_sem, hage]) rfl ⟨none, 0, 0, none, 0, 0, by rw [HA1.out, HA2.out]; rfl, by rw [HA1.out]; exact .nil _ _ _ _ _ (Nat.zero_le _), by rw [HA1.out]; exact .nil _ _ _ _ _ (Nat.zero_le _), HBE.out⟩
  | true =>
    obtain ⟨hl1, hl2, hl3⟩ := check_small hck
    have hn64 : n ≤ 64 := by have := HR.out.1; omega
    have hm16 : m ≤ 16 := by have := HL.out; omega
    have HA1 : Hid (allB b = ⟨b.root, b.dis.map (bdT b.root.tag)⟩) := hide (by rw [allB, if_pos hck])
    have HA2 : Hid (allE b = 0) := hide (by rw [allE, if_pos hck])
    have HL3 := hide hl3
    obtain ⟨f, hf⟩ : ∃ f, f = bdT b.root.tag := ⟨_, rfl⟩
    have HF := hide hf
    have HO0 : Hid (kTok.Own (fun j => j ≠ w.heap.size + 1) w3.heap.size (w3.alloc (.cells #[] 44)) 44 (.slice (some ⟨w3.heap.size, 0, none⟩) 0 0) ((b.dis.map f).take 0)) := hide (Kd.Own.lit (.nil _ _ _) #[] rfl 0 rfl (Nat.zero_le _) _ rfl (Nat.le_refl _))
    have HB0 : Hid (Below w3.heap.size w3 (w3.alloc (.cells #[] 44))) := hide (below1 _ _)
    have hcx : (w3.alloc (.cells #[] 44)).cell? ⟨w.heap.size, 36, none⟩ = some (.slice B m d) := (cell_of_row _ _ _ _ _ _ ((HB0.out.block _ (by omega)).trans K1.out)).trans (by rw [HCB.out]; exact bunC_36 _ _ _ _ _ _)
    clear hck hl1 hl2 hl3 hf
    go_wp2_with fail
    clear hcx
    go_loopw [4, 17] (fun v i wr => ∃ (k : Nat), k ≤ m ∧ i = .int .i64 (k : Int) ∧ Hid (kTok.Own (fun j => j ≠ w.heap.size + 1) w3.heap.size wr 44 v ((b.dis.map f).take k)) ∧ Hid (Below w3.heap.size w3 wr)) (fun _ i _ => m - (intOf i).toNat)
    case atStart => exact ⟨0, Nat.zero_le _, rfl, HO0, HB0⟩
    case round =>
      clear HO0 HB0
      obtain ⟨k, hk, rfl, HO, HB⟩ := hrel
      have K1r := hide ((HB.out.block _ (by omega)).trans K1.out)
      have K2r := hide ((HB.out.block _ (by omega)).trans K2.out)
      have hwr : w3.heap.size ≤ wr.heap.size := HB.out.size
      have HBW := hide (HB3.out.trans (HB.out.mono (by omega)))
      have hlk : ((b.dis.map f).take k).length = k := by rw [List.length_take, List.length_map]; have := HL.out; omega
      obtain ⟨AO, cO, hvf⟩ := HO.out.form
      rw [hlk] at hvf
      rw [hvf] at HO ⊢
      have HLK := hide hlk
      clear hvf hlk
      by_cases hlt : k < m
      · obtain ⟨y, hy⟩ : ∃ y, b.dis[k]? = some y := ⟨_, List.getElem?_eq_getElem (by have := HL.out; omega)⟩
        have HNX : Hid ((b.dis.map f).take (k + 1) = (b.dis.map f).take k ++ [f y]) := hide (by rw [List.take_add_one, List.getElem?_map, hy]; rfl)
        obtain ⟨b', q, A1, n1, c1, hix, hbl, hag, hr1, hk1⟩ := tok_at (HS.out.belowB HBW.out) hy
        have hn1 : n1 ≤ 64 := by have := HL3.out y (List.mem_of_getElem? hy); have := hr1.1; omega
        obtain ⟨CY, hCY⟩ : ∃ CY, CY = tokA y A1 n1 c1 := ⟨_, rfl⟩
        have HCY := hide hCY
        have hzY : CY.size = 36 := by rw [hCY]; exact tokC_size _ _ _ _ _
        have hoY : oneAll CY = true := by rw [hCY]; exact tokC_all _ _ _ _ _ _ _ _
        have hspY : splice tokZ 0 CY = CY := by rw [hCY]; exact tokC_splice0 _ _ _ _ _ _ (tokC_size _ _ _ _ _)
        rw [← hCY] at hag
        have HR1 := hide (hr1.alloc (.cells CY 44))
        have b1 : Below wr.heap.size wr (wr.alloc (.cells CY 44)) := below1 _ _
        have hagt : agg? (wr.alloc (.cells CY 44)) ⟨w.heap.size, 4, none⟩ 32 = some (tgC b.root.tag) := (agg_of_row ((b1.block _ (by omega)).trans K1r.out) 4 32 (by decide)).trans (by rw [HCB.out]; exact bunC_tag _ _ _ _ _ _)
        have hagy : agg? (wr.alloc (.cells CY 44)) ⟨wr.heap.size, 0, none⟩ 36 = some CY := (agg_of_row (heap_alloc_new wr (.cells CY 44)) 0 36 (by decide)).trans (by rw [hCY]; exact tokC_part _ _ _ _ _)
        have HK1 := hide hk1
        have HOB := hide (own_block_lt HO.out)
        have HOL := hide (fun j e => (HO.out.base_le j e).1)
        clear hr1 hk1 b1 hCY hy
        go_wp2_with fail
        rw [show Value.agg CY = tokV y A1 n1 c1 from by rw [HCY.out]]
        refine (c_rbind b.root.tag y A1 n1 c1 _ _ HR1.out (by omega)).mono ?_
        rintro e w6 ⟨A2, n2, c2, rfl, hr2, b6⟩
        rw [show tokV y A1 n1 c1 = .agg CY from by rw [HCY.out]]
        obtain ⟨X, hX⟩ : ∃ X, bindR b.root.tag y = X := ⟨_, rfl⟩
        rw [hX] at hr2
        rw [hX]
        obtain ⟨CX, hCX⟩ : ∃ CX, CX = tokA X A2 n2 c2 := ⟨_, rfl⟩
        have HCX := hide hCX
        rw [show tokV X A2 n2 c2 = .agg CX from by rw [hCX]]
        have hzX : CX.size = 36 := by rw [hCX]; exact tokC_size _ _ _ _ _
        have hoX : oneAll CX = true := by rw [hCX]; exact tokC_all _ _ _ _ _ _ _ _
        have hspX : splice tokZ 0 CX = CX := by rw [hCX]; exact tokC_splice0 _ _ _ _ _ _ (tokC_size _ _ _ _ _)
        have hs6 := b6.size
        simp only [World.size_alloc] at hs6
        have b06 : Below wr.heap.size wr w6 := (below1 wr _).trans (b6.mono (by simp only [World.size_alloc]; omega))
        have hagyX : agg? (w6.alloc (.cells CX 44)) ⟨wr.heap.size, 0, none⟩ 36 = some CY := (agg_of_row (((below1 w6 _).block _ (by omega)).trans ((b6.block _ (by simp only [World.size_alloc]; omega)).trans (heap_alloc_new wr (.cells CY 44)))) 0 36 (by decide)).trans (by rw [HCY.out]; exact tokC_part _ _ _ _ _)
        cases hb : y.bnd with
        | true =>
          have hfy : f y = y := by rw [HF.out, bdT, if_pos hb]
          rw [hfy] at HNX
          rw [show bindE y = 6 from by rw [bindE, if_pos hb]]
          have b7 : Below wr.heap.size wr (w6.alloc (.cells CY 44)) := b06.alloc (by omega) _
          have hagZ : agg? (w6.alloc (.cells CY 44)) ⟨w6.heap.size, 0, none⟩ 36 = some CY := (agg_of_row (heap_alloc_new w6 (.cells CY 44)) 0 36 (by decide)).trans (by rw [HCY.out]; exact tokC_part _ _ _ _ _)
          have hspXY : splice CX 0 CY = CY := by rw [HCY.out]; exact tokC_splice0 _ _ _ _ _ _ hzX
          have hrY : kCav.Row (fun j => j ≠ w.heap.size + 1 ∧ some j ≠ (Value.slice AO k cO).ownBlock) ((w6.alloc (.cells CY 44)).alloc (.cells (tokA y A1 n1 c1) 44)) A1 n1 c1 y.cavs := by
            have h0 := (HR1.out.keep (w' := w6) fun j hj hl => b6.block j hl).more (ok' := fun j => j ≠ w.heap.size + 1 ∧ some j ≠ (Value.slice AO k cO).ownBlock) fun j hj => ⟨by omega, fun e => by have := HOL.out j e.symm; omega⟩
            exact (h0.alloc _).alloc _
          have HRY := hide hrY
          clear hX hr2 b6 b06 hCX hfy hb hrY
          have HZV : Hid (Value.agg CY = .agg (tokC (.int .u64 (y.key : Int)) (.string y.id) (.slice A1 n1 c1) (.bool y.bnd) y.tag)) := hide (by rw [HCY.out])
          have HO7 := hide (HO.out.below b7)
          have hb8 := heap_alloc_new (w6.alloc (.cells CY 44)) (.cells (tokA y A1 n1 c1) 44)
          have HB8 : Hid (Below w3.heap.size w3 ((w6.alloc (.cells CY 44)).alloc (.cells (tokA y A1 n1 c1) 44))) := hide ((HB.out.trans (b7.mono hwr)).alloc (by have := b7.size; omega) _)
          have hs8 := HB8.out.size
          have HZK : Hid (kTok.K (fun j => j ≠ w.heap.size + 1 ∧ some j ≠ (Value.slice AO k cO).ownBlock) ((w6.alloc (.cells CY 44)).alloc (.cells (tokA y A1 n1 c1) 44)) y (tokA y A1 n1 c1).toList) := hide ⟨A1, n1, c1, rfl, HRY.out, HK1.out⟩
          have HH8 := hide hb8
          clear hb8 b7
          go_wp2_with (first
            | ((with_reducible show wpList _ _ _ (Oper.mk (some 34) _ _ _ _ _ :: _) _ _); go_loud (refine at_buildTok _ _ _ _ _ _ HZV.out _ rfl ?_))
            | (at_builtin; go_loud (refine wpList_app (d := kTok) (ok := fun j => j ≠ w.heap.size + 1) (base := w3.heap.size) (ys := [y]) rfl _ _ _ rfl Tryd.underlying59 tok_info rfl (by decide) 1 rfl rfl (.inl (HO7.out.below (below1 _ _))) (Kd.Src.blk (d := kTok) HH8.out HZK.out rfl) ?_ ?_ ?_ ?_)))
          · exact hs8
          · rw [HLK.out]; simp only [maxLen]; omega
          · rw [HLK.out]; omega
          intro v11 w11 _ h11 b11 _ _
          have HV11 : Hid (kTok.Own (fun j => j ≠ w.heap.size + 1) w3.heap.size w11 44 v11 ((b.dis.map f).take (k + 1))) := hide (by rw [HNX.out]; exact h11)
          have HB11 := hide (HB8.out.trans b11)
          clear h11 b11
          go_wp2_with fail
          go_roundw
          case rel => exact ⟨k + 1, hlt, by simp, HV11, HB11⟩
          case measure => simp [intOf]; omega
        | false =>
          have hfy : f y = X := by rw [HF.out, bdT, if_neg (by rw [hb]; decide), hX]
          rw [hfy] at HNX
          have HXK : Hid (X.key < 18446744073709551616) := hide (by rw [← hX, bindR, if_neg (by rw [hb]; decide)]; exact HK1.out)
          rw [show bindE y = 0 from by rw [bindE, if_neg (by rw [hb]; decide)]]
          have b7 : Below wr.heap.size wr (w6.alloc (.cells CX 44)) := b06.alloc (by omega) _
          have hagZ : agg? (w6.alloc (.cells CX 44)) ⟨w6.heap.size, 0, none⟩ 36 = some CX := (agg_of_row (heap_alloc_new w6 (.cells CX 44)) 0 36 (by decide)).trans (by rw [HCX.out]; exact tokC_part _ _ _ _ _)
          have hrX : kCav.Row (fun j => j ≠ w.heap.size + 1 ∧ some j ≠ (Value.slice AO k cO).ownBlock) ((w6.alloc (.cells CX 44)).alloc (.cells (tokA X A2 n2 c2) 44)) A2 n2 c2 X.cavs := by
            have h0 := hr2.more (ok' := fun j => j ≠ w.heap.size + 1 ∧ some j ≠ (Value.slice AO k cO).ownBlock) fun j hj => ⟨by simp only [World.size_alloc] at hj; omega, fun e => by have := HOB.out j e.symm; simp only [World.size_alloc] at hj; omega⟩
            exact (h0.alloc _).alloc _
          have HRX := hide hrX
          clear hX hr2 b6 b06 hCX hfy hb hrX
          have HZV : Hid (Value.agg CX = .agg (tokC (.int .u64 (X.key : Int)) (.string X.id) (.slice A2 n2 c2) (.bool X.bnd) X.tag)) := hide (by rw [HCX.out])
          have HO7 := hide (HO.out.below b7)
          have hb8 := heap_alloc_new (w6.alloc (.cells CX 44)) (.cells (tokA X A2 n2 c2) 44)
          have HB8 : Hid (Below w3.heap.size w3 ((w6.alloc (.cells CX 44)).alloc (.cells (tokA X A2 n2 c2) 44))) := hide ((HB.out.trans (b7.mono hwr)).alloc (by have := b7.size; omega) _)
          have hs8 := HB8.out.size
          have HZK : Hid (kTok.K (fun j => j ≠ w.heap.size + 1 ∧ some j ≠ (Value.slice AO k cO).ownBlock) ((w6.alloc (.cells CX 44)).alloc (.cells (tokA X A2 n2 c2) 44)) X (tokA X A2 n2 c2).toList) := hide ⟨A2, n2, c2, rfl, HRX.out, HXK.out⟩
          have HH8 := hide hb8
          clear hb8 b7
          go_wp2_with (first
            | ((with_reducible show wpList _ _ _ (Oper.mk (some 34) _ _ _ _ _ :: _) _ _); go_loud (refine at_buildTok _ _ _ _ _ _ HZV.out _ rfl ?_))
            | (at_builtin; go_loud (refine wpList_app (d := kTok) (ok := fun j => j ≠ w.heap.size + 1) (base := w3.heap.size) (ys := [X]) rfl _ _ _ rfl Tryd.underlying59 tok_info rfl (by decide) 1 rfl rfl (.inl (HO7.out.below (below1 _ _))) (Kd.Src.blk (d := kTok) HH8.out HZK.out rfl) ?_ ?_ ?_ ?_)))
          · exact hs8
          · rw [HLK.out]; simp only [maxLen]; omega
          · rw [HLK.out]; omega
          intro v11 w11 _ h11 b11 _ _
          have HV11 : Hid (kTok.Own (fun j => j ≠ w.heap.size + 1) w3.heap.size w11 44 v11 ((b.dis.map f).take (k + 1))) := hide (by rw [HNX.out]; exact h11)
          have HB11 := hide (HB8.out.trans b11)
          clear h11 b11
          go_wp2_with fail
          go_roundw
          case rel => exact ⟨k + 1, hlt, by simp, HV11, HB11⟩
          case measure => simp [intOf]; omega
      · obtain rfl : k = m := by omega
        have htk : (b.dis.map f).take k = b.dis.map f := List.take_of_length_le (by rw [List.length_map]; have := HL.out; omega)
        have hagr : agg? wr ⟨w.heap.size, 0, none⟩ 36 = some (tokA b.root A n c) := (agg_of_row K1r.out 0 36 (by decide)).trans (by rw [HCB.out]; exact bunC_root _ _ _ _ _ _)
        have hrz := row_of K2r.out
        obtain ⟨C9, hC9⟩ : ∃ C9, C9 = bunA b A n c AO k cO := ⟨_, rfl⟩
        obtain ⟨W8, hW8⟩ : ∃ W8, W8 = wr.setRow (w.heap.size + 1) C9 := ⟨_, rfl⟩
        have k8 : W8.heap[w.heap.size + 1]? = some (.cells C9 61) := by rw [hW8]; exact setRow_heap wr (w.heap.size + 1) bunZ C9 61 _ K2r.out
        have hag8 : agg? W8 ⟨w.heap.size + 1, 0, none⟩ 37 = some C9 := (agg_of_row k8 0 37 (by decide)).trans (by rw [hC9]; exact bunC_part _ _ _ _ _ _)
        have HBE : Hid (Below w.heap.size w W8) := hide (by rw [hW8]; exact bsetRow HBW.out (Nat.le_succ _) _)
        have HD8 : Hid (kTok.Row (fun _ => True) W8 AO k cO (b.dis.map f)) := hide (by
          obtain ⟨A', c', e, h⟩ := HO.out.row
          rw [HLK.out] at e h
          injection e with e1 e2 e3
          subst e1 e3
          rw [htk] at h
          have hbl := HO.out.base_le
          exact (h.keep (w' := W8) (fun j hj _ => by
            rw [hW8, heap_setRow_far _ _ _ (by
              rcases hj with hj | hj
              · exact hj
              · have := (hbl j hj.symm).1; omega)])).more fun _ _ => trivial)
        have HQ8 : Hid (kCav.Row (fun _ => True) W8 A n c b.root.cavs) := hide (((HR.out.belowB HBW.out).keep (w' := W8) fun j hj _ => by rw [hW8, heap_setRow_far _ _ _ (by omega)]).more fun _ _ => trivial)
        have HCE : Hid (Value.agg C9 = bunV (allB b) A n c AO k cO) := hide (by rw [hC9, HA1.out])
        have hs8 := hW8.symm
        rw [hC9] at hs8
        clear k8 hW8 htk hC9
        go_wp2_with ((with_reducible show wpList _ _ _ (Oper.mk (some 40) _ _ _ _ _ :: _) _ _); go_loud (refine at_buildBun2 _ _ _ _ _ AO k cO rfl rfl ?_))
        exact bodyPost_ret (v := .tuple #[.agg C9, .int .i64 0]) (by simp [results, Tryd.results42, go_sem, hag8]) rfl ⟨A, n, c, AO, k, cO, by rw [HCE.out, HA2.out], by rw [HA1.out]; exact HQ8.out, by rw [HA1.out, ← HF.out]; exact HD8.out, HBE.out⟩
end Go.Proofs.YtdkeflhgengblaaDoor
namespace Go.Proofs.YtdkeflhgengblaaDoor
open Go.RowKit
attribute [local go_sem ↓] ld8 ld32 ld64 ld73
attribute [local go_sem] run_ldAgg run_storeAgg agg_alloc_at agg_alloc_past agg_drew agg_setCell row_alloc_at row_alloc_past row_drew setRow_alloc_at setRow_alloc_past setRow_drew agg_setRow_at agg_setRow_far cell_setRow_at cell_setRow_far row_setRow_far size_setRow s8C_size s8C_part s8C_one s8C_splice0 s8C_ne dgC_size dgC_72 dgC_part dgC_h dgC_r dgC_splice_h dgC_set dgC_one dgC_splice0 dgC_ne zero_dg
attribute [local go_sem] tgC_size tgC_one tgC_part tgC_splice tgC_splice_any zero_tg tgC_ne

theorem or_zero8 (u z : UInt8) : u ||| z = 0 ↔ u = 0 ∧ z = 0 := by
  rw [← UInt8.toNat_inj, ← UInt8.toNat_inj, ← UInt8.toNat_inj, UInt8.toNat_or]
  exact Nat.or_eq_zero_iff
theorem xor_zero8 (x y : UInt8) : x ^^^ y = 0 ↔ x = y := UInt8.xor_eq_zero_iff
theorem b_or (u z : UInt8) : bits .or .u8 (u.toNat : Int) (z.toNat : Int) = ((u ||| z).toNat : Int) := u8_or_nat _ _ u.toNat_lt z.toNat_lt
theorem take_eq_next {xs ys : List UInt8} {k : Nat} {x y : UInt8} (hx : xs[k]? = some x) (hy : ys[k]? = some y) : xs.take (k + 1) = ys.take (k + 1) ↔ xs.take k = ys.take k ∧ x = y := by
  rw [List.take_add_one, List.take_add_one, hx, hy]
  have hk1 : k < xs.length := (List.getElem?_eq_some_iff.1 hx).1
  have hk2 : k < ys.length := (List.getElem?_eq_some_iff.1 hy).1
  constructor
  · intro h
    obtain ⟨h1, h2⟩ := List.append_inj h (by rw [List.length_take, List.length_take]; omega)
    exact ⟨h1, by simpa using h2⟩
  · rintro ⟨h1, rfl⟩
    rw [h1]
set_option maxRecDepth 100000 in
set_option maxHeartbeats 800000 in
theorem c_tagequal (A B : Option Addr) (n c m d : Nat) (xs ys : List UInt8) (ok ok' : Nat → Prop) (w : World) (hR : kU8.Row ok w A n c xs) (hS : kU8.Row ok' w B m d ys) :
    Calls Tryd.prog 78 #[.slice A n c, .slice B m d] w fun e w' => e = .returned (.bool (decide (xs = ys))) ∧ Below w.heap.size w w' := by
  have hlx := hR.1
  have hly := hS.1
  have HLX := hide hlx
  have HLY := hide hly
  have HR := hide hR
  have HS := hide hS
  have hbx : n ≤ maxLen := Nat.le_trans hR.2.1 hR.2.2.1
  simp only [maxLen] at hbx
  clear hR hS hlx hly
  by_cases hl : n = m
  · subst hl
    go_enter Tryd.func78, Tryd.ntmps78
    go_wp2_with fail
    go_loopw [5, 15] (fun v i wr => ∃ (k : Nat) (u : UInt8), k ≤ n ∧ i = .int .i64 (k : Int) ∧ v = bv u ∧ Hid (u = 0 ↔ xs.take k = ys.take k) ∧ Hid (Below w.heap.size w wr)) (fun _ i _ => n - (intOf i).toNat)
    case atStart => exact ⟨0, 0, Nat.zero_le _, rfl, rfl, hide (by simp), hide (Below.refl _ _)⟩
    case round =>
      obtain ⟨k, u, hk, rfl, rfl, HE, HB⟩ := hrel
      by_cases hlt : k < n
      · obtain ⟨x, hx⟩ : ∃ x, xs[k]? = some x := ⟨_, List.getElem?_eq_getElem (by have := HLX.out; omega)⟩
        obtain ⟨y, hy⟩ : ∃ y, ys[k]? = some y := ⟨_, List.getElem?_eq_getElem (by have := HLY.out; omega)⟩
        obtain ⟨b1, q1, cs1, hix1, -, hbl1, hK1, hra1⟩ := (HR.out.below HB.out).index (P := Tryd.prog) Tryd.underlying22 (E := 5) u8_info1 hx
        obtain ⟨b2, q2, cs2, hix2, -, hbl2, hK2, hra2⟩ := (HS.out.below HB.out).index (P := Tryd.prog) Tryd.underlying22 (E := 5) u8_info1 hy
        obtain ⟨rfl, -⟩ := hK1
        obtain ⟨rfl, -⟩ := hK2
        have a0 := hra1 0 _ rfl
        have a1 := hra2 0 _ rfl
        simp only [Nat.add_zero] at a0 a1
        obtain ⟨z, hz⟩ : ∃ z, z = x ^^^ y := ⟨_, rfl⟩
        obtain ⟨o, ho⟩ : ∃ o, o = u ||| z := ⟨_, rfl⟩
        have h1 : bits .xor .u8 (x.toNat : Int) (y.toNat : Int) = (z.toNat : Int) := by rw [hz]; exact b_xor x y
        have h2 : bits .or .u8 (u.toNat : Int) (z.toNat : Int) = (o.toNat : Int) := by rw [ho]; exact b_or u z
        have HE2 : Hid (o = 0 ↔ xs.take (k + 1) = ys.take (k + 1)) := hide (by rw [ho, hz, or_zero8, xor_zero8, take_eq_next hx hy, HE.out])
        clear hx hy hra1 hra2 hz ho
        go_wp2_with fail
        go_roundw
        case rel => exact ⟨k + 1, _, hlt, by simp, rfl, HE2, HB⟩
        case measure => simp [intOf]; omega
      · obtain rfl : k = n := by omega
        have HF : Hid (decide (xs = ys) = decide (u = 0)) := hide (by
          have := HE.out
          rw [List.take_of_length_le (Nat.le_of_eq HLX.out), List.take_of_length_le (Nat.le_of_eq HLY.out)] at this
          simp only [this])
        go_wp2_with fail
        go_ret
        refine ⟨?_, HB.out⟩
        rw [HF.out]
        refine congrArg Ending.returned (congrArg Value.bool ?_)
        have e : u = 0 ↔ u.toNat = 0 := by rw [← UInt8.toNat_inj]; rfl
        rw [Bool.eq_iff_iff]
        simp [e]
  · have HF : Hid (decide (xs = ys) = false) := hide (decide_eq_false fun e => by
      subst e
      exact hl (HLX.out.symm.trans HLY.out))
    go_enter Tryd.func78, Tryd.ntmps78
    go_wp2_with fail
    go_ret
    exact ⟨by rw [HF.out]; rfl, Below.refl _ _⟩
end Go.Proofs.YtdkeflhgengblaaDoor
namespace Go.Proofs.YtdkeflhgengblaaDoor
open Go.RowKit
attribute [local go_sem ↓] ld8 ld32 ld64 ld73
attribute [local go_sem] run_ldAgg run_storeAgg agg_alloc_at agg_alloc_past agg_drew agg_setCell row_alloc_at row_alloc_past row_drew setRow_alloc_at setRow_alloc_past setRow_drew agg_setRow_at agg_setRow_far cell_setRow_at cell_setRow_far row_setRow_far size_setRow s8C_size s8C_part s8C_one s8C_splice0 s8C_ne dgC_size dgC_72 dgC_part dgC_h dgC_r dgC_splice_h dgC_set dgC_one dgC_splice0 dgC_ne zero_dg
attribute [local go_sem] tgC_size tgC_one tgC_part tgC_splice tgC_splice_any zero_tg tgC_ne
attribute [local go_sem ↓] ld36
attribute [local go_sem] tokC_size tokC_0 tokC_1 tokC_2 tokC_3 tokC_g0 tokC_g1 tokC_g2 tokC_g3 tokC_part tokC_tag tokC_set0 tokC_set1 tokC_set2 tokC_set3 tokC_splice tokC_splice0 zero_tok tokC_all tokC_ne

/-- Does a discharge fit? -/
def fitsB (root en : Tg) (d : Tok) : Bool := if d.bnd = true then decide (d.tag = bindT root en) else decide (d.tag = en)
theorem tg_l {t u : Tg} : decide (t.l = u.l) = decide (u = t) := by
  have : t.l = u.l ↔ u = t := by
    constructor
    · intro h; cases t; cases u; simp_all
    · rintro rfl; rfl
  simp only [this]
set_option maxRecDepth 100000 in
set_option maxHeartbeats 800000 in
theorem c_fits (root en : Tg) (d : Tok) (A : Option Addr) (n c : Nat) (w : World) (hP : PrimesAt w) :
    Calls Tryd.prog 31 #[tgV root, tgV en, tokV d A n c] w fun e w' => e = .returned (.bool (fitsB root en d)) ∧ Below w.heap.size w w' := by
  obtain ⟨key, id, cavs, bnd, tag⟩ := d
  have hw0 := hP.1
  have HP := hide hP
  clear hP
  obtain ⟨q, hq⟩ : ∃ q, fitsB root en ⟨key, id, cavs, bnd, tag⟩ = q := ⟨_, rfl⟩
  have HF := hide hq
  cases bnd with
  | false =>
    have HQ : Hid (decide (en.l = tag.l) = q) := hide (by rw [← hq, tg_l]; rfl)
    clear hq
    obtain ⟨W3, hW3⟩ : ∃ W3, W3 = ((w.alloc (.cells (tgC root) 29)).alloc (.cells (tgC en) 29)).alloc (.cells (tokC (.int .u64 (key : Int)) (.string id) (.slice A n c) (.bool false) tag) 44) := ⟨_, rfl⟩
    obtain ⟨g0, g1, g2⟩ := heap3g w (tgC root) (tgC en) (tokC (.int .u64 (key : Int)) (.string id) (.slice A n c) (.bool false) tag) 29 29 44
    rw [← hW3] at g0 g1 g2
    have hs3 : W3.heap.size = w.heap.size + 3 := by rw [hW3]; simp only [World.size_alloc]
    have HB3 : Hid (Below w.heap.size w W3) := hide (by rw [hW3]; exact below3 _ _ _ _)
    have hb1 : W3.cell? ⟨w.heap.size + 2, 3, none⟩ = some (.bool false) := (cell_of_row W3 _ _ _ _ _ g2).trans (tokC_3 _ _ _ _ _)
    have G0 := hide g0
    have G1 := hide g1
    have G2 := hide g2
    clear g0 g1 g2
    have HE := hide (tag_row en G1.out)
    have HTR := hide (tok_row G2.out)
    go_enter Tryd.func31, Tryd.ntmps31
    go_wp2_with ((with_reducible show wpList _ _ _ (Oper.mk (some 7) _ _ _ _ _ :: _) _ _); rw [← hW3]; clear hW3)
    try rw [← hW3]
    try clear hW3
    refine wp_region_ext mixed 4 (fun i v w' => match i with
      | 0 => v = .slice (some ⟨w.heap.size + 1, 0, none⟩) 32 32
      | 1 => v = .pointer (some ⟨w.heap.size + 2, 4, none⟩)
      | 2 => v = .slice (some ⟨w.heap.size + 2, 4, none⟩) 32 32
      | _ => v = .bool q
      ) (regOk_of (by kernel_rfl)) rfl ?_ ?_ ?_
    · intro i v w1 w2 h1 h2
      split at h2 <;> exact h2
    · refine ⟨fun a w2 hle hd hf hs K hK => ?_, fun a w2 hle hd hf hs K hK => ?_, fun a w2 hle hd hf hs K hK => ?_, fun a w2 hle hd hf hs K hK => ?_, trivial⟩
      all_goals clear hd
      · -- 12 := Op.slice 29 t4 none none none
        have e4 := hf 4 rfl; simp [Act.eval] at e4
        go_simp; exact hK _ _ (Ext.refl _) rfl
      · -- 13 := Op.fieldAddr 44 t5 4
        have e5 := hf 5 rfl; simp [Act.eval] at e5
        go_simp; exact hK _ _ (Ext.refl _) rfl
      · -- 14 := Op.slice 29 t13 none none none
        have e13 := hs 1 13 (needs_direct (by kernel_rfl)) rfl; simp [Act.eval] at e13
        go_simp; exact hK _ _ (Ext.refl _) rfl
      · -- 15 := Op.call { value (Operand.func 78), args := #[t12, t14], argTypes := #[22, 22] }
        have e12 := hs 0 12 (needs_direct (by kernel_rfl)) rfl; have e14 := hs 2 14 (needs_direct (by kernel_rfl)) rfl; simp [Act.eval] at e12 e14
        go_simp
        refine (c_tagequal _ _ 32 32 32 32 _ _ _ _ w2 (HE.out.below hle) (HTR.out.below hle)).mono ?_
        rintro z w9 ⟨rfl, b9⟩
        rw [HQ.out]
        exact hK _ _ b9 rfl
    intro vs w8 hle hs
    have v3 := hs 3 (by omega) rfl
    simp only at v3
    clear hs
    have HB9 := hide (HB3.out.trans (hle.mono (by omega)))
    clear hle
    simp only [putN, dstAt]
    go_simp
    go_wp2_with fail
    go_ret
    exact ⟨by rw [HF.out]; rfl, HB9.out⟩
  | true =>
    obtain ⟨t, ht⟩ : ∃ t, bindT root en = t := ⟨_, rfl⟩
    have HT := hide ht
    have HQ : Hid (decide (t.l = tag.l) = q) := hide (by rw [← hq, tg_l, ← ht]; rfl)
    clear hq ht
    obtain ⟨W3, hW3⟩ : ∃ W3, W3 = ((w.alloc (.cells (tgC root) 29)).alloc (.cells (tgC en) 29)).alloc (.cells (tokC (.int .u64 (key : Int)) (.string id) (.slice A n c) (.bool true) tag) 44) := ⟨_, rfl⟩
    obtain ⟨g0, g1, g2⟩ := heap3g w (tgC root) (tgC en) (tokC (.int .u64 (key : Int)) (.string id) (.slice A n c) (.bool true) tag) 29 29 44
    rw [← hW3] at g0 g1 g2
    have hs3 : W3.heap.size = w.heap.size + 3 := by rw [hW3]; simp only [World.size_alloc]
    have HB3 : Hid (Below w.heap.size w W3) := hide (by rw [hW3]; exact below3 _ _ _ _)
    have hb1 : W3.cell? ⟨w.heap.size + 2, 3, none⟩ = some (.bool true) := (cell_of_row W3 _ _ _ _ _ g2).trans (tokC_3 _ _ _ _ _)
    have G0 := hide g0
    have G1 := hide g1
    have G2 := hide g2
    clear g0 g1 g2
    have hag1 : agg? W3 ⟨w.heap.size, 0, none⟩ 32 = some (tgC root) := (agg_of_row G0.out 0 32 (by decide)).trans (tgC_part root)
    have hag2 : agg? W3 ⟨w.heap.size + 1, 0, none⟩ 32 = some (tgC en) := (agg_of_row G1.out 0 32 (by decide)).trans (tgC_part en)
    have HP3 := hide (HP.out.ext HB3.out)
    go_enter Tryd.func31, Tryd.ntmps31
    go_wp2_with ((with_reducible show wpList _ _ _ (Oper.mk (some 7) _ _ _ _ _ :: _) _ _); rw [← hW3]; clear hW3)
    try rw [← hW3]
    try clear hW3
    refine (c_btag root en W3 HP3.out).mono ?_
    rintro e w5 ⟨rfl, b5⟩
    rw [HT.out]
    obtain ⟨W6, hW6⟩ : ∃ W6, W6 = w5.setRow (w.heap.size + 1) (tgC t) := ⟨_, rfl⟩
    have k1 := (b5.block _ (by omega)).trans G1.out
    have k2 := (b5.block _ (by omega)).trans G2.out
    have hrz := row_of k1
    have hs5 := b5.size
    have HE : Hid (kU8.Row (fun _ => True) W6 (some ⟨w.heap.size + 1, 0, none⟩) 32 32 t.l) := hide (tag_row t (T := 29) (by rw [hW6]; exact setRow_heap w5 (w.heap.size + 1) (tgC en) (tgC t) 29 _ k1))
    have HTR : Hid (kU8.Row (fun _ => True) W6 (some ⟨w.heap.size + 2, 4, none⟩) 32 32 tag.l) := hide (tok_row (T := 44) (fr := (0, 0)) (by rw [hW6, heap_setRow_far _ _ _ (by omega)]; exact k2))
    have HB6 : Hid (Below w.heap.size w W6) := hide (by rw [hW6]; exact bsetRow (HB3.out.trans (b5.mono (by omega))) (Nat.le_succ _) _)
    have hs6 : W6.heap.size = w5.heap.size := by rw [hW6, size_setRow]
    clear k1 k2 b5 hag1 hag2
    go_wp2_with fail
    rw [← hW6]
    clear hW6
    refine wp_region_ext mixed 4 (fun i v w' => match i with
      | 0 => v = .slice (some ⟨w.heap.size + 1, 0, none⟩) 32 32
      | 1 => v = .pointer (some ⟨w.heap.size + 2, 4, none⟩)
      | 2 => v = .slice (some ⟨w.heap.size + 2, 4, none⟩) 32 32
      | _ => v = .bool q
      ) (regOk_of (by kernel_rfl)) rfl ?_ ?_ ?_
    · intro i v w1 w2 h1 h2
      split at h2 <;> exact h2
    · refine ⟨fun a w2 hle hd hf hs K hK => ?_, fun a w2 hle hd hf hs K hK => ?_, fun a w2 hle hd hf hs K hK => ?_, fun a w2 hle hd hf hs K hK => ?_, trivial⟩
      all_goals clear hd
      · -- 12 := Op.slice 29 t4 none none none
        have e4 := hf 4 rfl; simp [Act.eval] at e4
        go_simp; exact hK _ _ (Ext.refl _) rfl
      · -- 13 := Op.fieldAddr 44 t5 4
        have e5 := hf 5 rfl; simp [Act.eval] at e5
        go_simp; exact hK _ _ (Ext.refl _) rfl
      · -- 14 := Op.slice 29 t13 none none none
        have e13 := hs 1 13 (needs_direct (by kernel_rfl)) rfl; simp [Act.eval] at e13
        go_simp; exact hK _ _ (Ext.refl _) rfl
      · -- 15 := Op.call { value (Operand.func 78), args := #[t12, t14], argTypes := #[22, 22] }
        have e12 := hs 0 12 (needs_direct (by kernel_rfl)) rfl; have e14 := hs 2 14 (needs_direct (by kernel_rfl)) rfl; simp [Act.eval] at e12 e14
        go_simp
        refine (c_tagequal _ _ 32 32 32 32 _ _ _ _ w2 (HE.out.below hle) (HTR.out.below hle)).mono ?_
        rintro z w9 ⟨rfl, b9⟩
        rw [HQ.out]
        exact hK _ _ b9 rfl
    intro vs w8 hle hs
    have v3 := hs 3 (by omega) rfl
    simp only at v3
    clear hs
    have HB9 := hide (HB6.out.trans (hle.mono (by omega)))
    clear hle
    simp only [putN, dstAt]
    go_simp
    go_wp2_with fail
    go_ret
    exact ⟨by rw [HF.out]; rfl, HB9.out⟩
set_option maxRecDepth 100000 in
set_option maxHeartbeats 800000 in
theorem c_rfits (root en : Tg) (d : Tok) (A : Option Addr) (n c : Nat) (w : World) :
    Calls Tryd.prog 32 #[tgV root, tgV en, tokV d A n c] w fun e w' => e = .returned (.bool (fitsB root en d)) ∧ Below w.heap.size w w' := by
  obtain ⟨key, id, cavs, bnd, tag⟩ := d
  obtain ⟨q, hq⟩ : ∃ q, fitsB root en ⟨key, id, cavs, bnd, tag⟩ = q := ⟨_, rfl⟩
  have HF := hide hq
  cases bnd with
  | false =>
    have HQ : Hid (decide (tag = en) = q) := hide (by rw [← hq]; rfl)
    clear hq
    obtain ⟨W3, hW3⟩ : ∃ W3, W3 = ((w.alloc (.cells (tgC root) 29)).alloc (.cells (tgC en) 29)).alloc (.cells (tokC (.int .u64 (key : Int)) (.string id) (.slice A n c) (.bool false) tag) 44) := ⟨_, rfl⟩
    obtain ⟨g0, g1, g2⟩ := heap3g w (tgC root) (tgC en) (tokC (.int .u64 (key : Int)) (.string id) (.slice A n c) (.bool false) tag) 29 29 44
    rw [← hW3] at g0 g1 g2
    have hs3 : W3.heap.size = w.heap.size + 3 := by rw [hW3]; simp only [World.size_alloc]
    have HB3 : Hid (Below w.heap.size w W3) := hide (by rw [hW3]; exact below3 _ _ _ _)
    have hb1 : W3.cell? ⟨w.heap.size + 2, 3, none⟩ = some (.bool false) := (cell_of_row W3 _ _ _ _ _ g2).trans (tokC_3 _ _ _ _ _)
    have G0 := hide g0
    have G1 := hide g1
    have G2 := hide g2
    clear g0 g1 g2
    go_enter Tryd.func32, Tryd.ntmps32
    go_wp2_with ((with_reducible show wpList _ _ _ (Oper.mk (some 7) _ _ _ _ _ :: _) _ _); rw [← hW3]; clear hW3)
    try rw [← hW3]
    try clear hW3
    cases q with
    | true =>
      refine wp_region_ext mixed 21 (fun i v w' => match i with
        | 0 => v = .pointer (some ⟨w.heap.size + 2, 3, none⟩)
        | 1 => v = .bool false
        | 2 => v = .bool true
        | 3 => v = .bool true
        | 4 => v = .pointer (some ⟨w.heap.size + 2, 4, none⟩)
        | 5 => v = tgV tag
        | 6 => v = tgV en
        | 7 => v = .bool true
        | 8 => v = .bool true
        | 9 => v = .bool true
        | 10 => v = undef
        | 11 => v = undef
        | 12 => v = undef
        | 13 => v = undef
        | 14 => v = undef
        | 15 => v = undef
        | 16 => v = undef
        | 17 => v = undef
        | 18 => v = undef
        | 19 => v = undef
        | _ => v = .bool true
        ) (regOk_of (by kernel_rfl)) rfl ?_ ?_ ?_
      · intro i v w1 w2 h1 h2
        split at h2 <;> exact h2
      · refine ⟨fun a w2 hle hd hf hs K hK => ?_, fun a w2 hle hd hf hs K hK => ?_, fun a w2 hle hd hf hs K hK => ?_, fun a w2 hle hd hf hs K hK => ?_, fun a w2 hle hd hf hs K hK => ?_, fun a w2 hle hd hf hs K hK => ?_, fun a w2 hle hd hf hs K hK => ?_, fun a w2 hle hd hf hs K hK => ?_, fun a w2 hle hd hf hs K hK => ?_, fun a w2 hle hd hf hs K hK => ?_, fun a w2 hle hd hf hs K hK => ?_, fun a w2 hle hd hf hs K hK => ?_, fun a w2 hle hd hf hs K hK => ?_, fun a w2 hle hd hf hs K hK => ?_, fun a w2 hle hd hf hs K hK => ?_, fun a w2 hle hd hf hs K hK => ?_, fun a w2 hle hd hf hs K hK => ?_, fun a w2 hle hd hf hs K hK => ?_, fun a w2 hle hd hf hs K hK => ?_, fun a w2 hle hd hf hs K hK => ?_, fun a w2 hle hd hf hs K hK => ?_, trivial⟩
        all_goals clear hd
        · -- 7 := Op.fieldAddr 44 t5 3
          have e5 := hf 5 rfl; simp [Act.eval] at e5
          go_simp; exact hK _ _ (Ext.refl _) rfl
        · -- 8 := Op.load 4 t7
          have e7 := hs 0 7 (needs_direct (by kernel_rfl)) rfl; simp [Act.eval] at e7
          have hq : w2.cell? ⟨w.heap.size + 2, 3, none⟩ = some (.bool false) := (cell_of_row w2 _ _ _ _ _ (hle.heap G2.out)).trans (tokC_3 _ _ _ _ _)
          go_simp; exact hK _ _ (Ext.refl _) rfl
        · -- 9 := Op.unOp UnOp.not 4 t8
          have e8 := hs 1 8 (needs_direct (by kernel_rfl)) rfl; simp [Act.eval] at e8
          go_simp; exact hK _ _ (Ext.refl _) rfl
        · -- 10 := Op.move t9
          have e9 := hs 2 9 (needs_direct (by kernel_rfl)) rfl; simp [Act.eval] at e9
          go_simp; exact hK _ _ (Ext.refl _) rfl
        · -- 11 := Op.fieldAddr 44 t5 4
          have e5 := hf 5 rfl; have gg := hs 3 10 (needs_direct (by kernel_rfl)) rfl; simp [Act.eval] at e5 gg; replace gg := opt_bool gg
          go_simp; exact hK _ _ (Ext.refl _) rfl
        · -- 12 := Op.load 29 t11
          have e11 := hs 4 11 (needs_direct (by kernel_rfl)) rfl; have gg := hs 3 10 (needs_direct (by kernel_rfl)) rfl; simp [Act.eval] at e11 gg; replace gg := opt_bool gg
          have hq : agg? w2 ⟨w.heap.size + 2, 4, none⟩ 32 = some (tgC tag) := (agg_of_row (hle.heap G2.out) 4 32 (by decide)).trans (tokC_tag _ _ _ _ _)
          go_simp; exact hK _ _ (Ext.refl _) rfl
        · -- 13 := Op.load 29 t4
          have e4 := hf 4 rfl; have gg := hs 3 10 (needs_direct (by kernel_rfl)) rfl; simp [Act.eval] at e4 gg; replace gg := opt_bool gg
          have hq : agg? w2 ⟨w.heap.size + 1, 0, none⟩ 32 = some (tgC en) := (agg_of_row (hle.heap G1.out) 0 32 (by decide)).trans (tgC_part en)
          go_simp; exact hK _ _ (Ext.refl _) rfl
        · -- 14 := Op.binOp BinOp.eql 29 t12 t13 29
          have e12 := hs 5 12 (needs_direct (by kernel_rfl)) rfl; have e13 := hs 6 13 (needs_direct (by kernel_rfl)) rfl; have gg := hs 3 10 (needs_direct (by kernel_rfl)) rfl; simp [Act.eval] at e12 e13 gg; replace gg := opt_bool gg
          have hq := tg_in w2 tag en
          rw [HQ.out] at hq
          go_simp; exact hK _ _ (Ext.refl _) rfl
        · -- 15 := Op.pick t10 t14 (const (Value.bool false))
          have e10 := hs 3 10 (needs_direct (by kernel_rfl)) rfl; have e14 := hs 7 14 (needs_direct (by kernel_rfl)) rfl; simp [Act.eval] at e10 e14
          go_simp; exact hK _ _ (Ext.refl _) rfl
        · -- 16 := Op.move t15
          have e15 := hs 8 15 (needs_direct (by kernel_rfl)) rfl; simp [Act.eval] at e15
          go_simp; exact hK _ _ (Ext.refl _) rfl
        · -- 17 := Op.fieldAddr 44 t5 3
          have gg := hs 9 16 (needs_direct (by kernel_rfl)) rfl; simp [Act.eval] at gg; replace gg := opt_bool gg
          go_simp; exact hK _ _ (Ext.refl _) rfl
        · -- 18 := Op.load 4 t17
          have gg := hs 9 16 (needs_direct (by kernel_rfl)) rfl; simp [Act.eval] at gg; replace gg := opt_bool gg
          go_simp; exact hK _ _ (Ext.refl _) rfl
        · -- 19 := Op.move t18
          have gg := hs 9 16 (needs_direct (by kernel_rfl)) rfl; simp [Act.eval] at gg; replace gg := opt_bool gg
          go_simp; exact hK _ _ (Ext.refl _) rfl
        · -- 20 := Op.fieldAddr 44 t5 4
          have gg := hs 12 19 (needs_direct (by kernel_rfl)) rfl; simp [Act.eval] at gg
          rcases opt_undef gg with gg | gg
          all_goals (go_simp; exact hK _ _ (Ext.refl _) rfl)
        · -- 21 := Op.load 29 t20
          have gg := hs 12 19 (needs_direct (by kernel_rfl)) rfl; simp [Act.eval] at gg
          rcases opt_undef gg with gg | gg
          all_goals (go_simp; exact hK _ _ (Ext.refl _) rfl)
        · -- 22 := Op.load 29 t3
          have gg := hs 12 19 (needs_direct (by kernel_rfl)) rfl; simp [Act.eval] at gg
          rcases opt_undef gg with gg | gg
          all_goals (go_simp; exact hK _ _ (Ext.refl _) rfl)
        · -- 23 := Op.load 29 t4
          have gg := hs 12 19 (needs_direct (by kernel_rfl)) rfl; simp [Act.eval] at gg
          rcases opt_undef gg with gg | gg
          all_goals (go_simp; exact hK _ _ (Ext.refl _) rfl)
        · -- 24 := Op.call { value (Operand.func 30), args := #[t22, t23], argTypes := #[29, 29] }
          have gg := hs 12 19 (needs_direct (by kernel_rfl)) rfl; simp [Act.eval] at gg
          rcases opt_undef gg with gg | gg
          all_goals (go_simp; exact hK _ _ (Ext.refl _) rfl)
        · -- 25 := Op.binOp BinOp.eql 29 t21 t24 29
          have gg := hs 12 19 (needs_direct (by kernel_rfl)) rfl; simp [Act.eval] at gg
          rcases opt_undef gg with gg | gg
          all_goals (go_simp; exact hK _ _ (Ext.refl _) rfl)
        · -- 26 := Op.pick t19 t25 (const (Value.bool false))
          have gg := hs 9 16 (needs_direct (by kernel_rfl)) rfl; simp [Act.eval] at gg; replace gg := opt_bool gg
          go_simp; exact hK _ _ (Ext.refl _) rfl
        · -- 27 := Op.pick t16 (const (Value.bool true)) t26
          have e16 := hs 9 16 (needs_direct (by kernel_rfl)) rfl; have e26 := hs 19 26 (needs_direct (by kernel_rfl)) rfl; simp [Act.eval] at e16 e26
          go_simp; exact hK _ _ (Ext.refl _) rfl
      intro vs w8 hle hs
      have v20 := hs 20 (by omega) rfl
      simp only at v20
      clear hs
      have HB9 := hide (HB3.out.trans (hle.mono (by omega)))
      clear hle
      simp only [putN, dstAt]
      go_simp
      go_wp2_with fail
      go_ret
      exact ⟨by rw [HF.out]; rfl, HB9.out⟩
    | false =>
      refine wp_region_ext mixed 21 (fun i v w' => match i with
        | 0 => v = .pointer (some ⟨w.heap.size + 2, 3, none⟩)
        | 1 => v = .bool false
        | 2 => v = .bool true
        | 3 => v = .bool true
        | 4 => v = .pointer (some ⟨w.heap.size + 2, 4, none⟩)
        | 5 => v = tgV tag
        | 6 => v = tgV en
        | 7 => v = .bool false
        | 8 => v = .bool false
        | 9 => v = .bool false
        | 10 => v = .pointer (some ⟨w.heap.size + 2, 3, none⟩)
        | 11 => v = .bool false
        | 12 => v = .bool false
        | 13 => v = undef
        | 14 => v = undef
        | 15 => v = undef
        | 16 => v = undef
        | 17 => v = undef
        | 18 => v = undef
        | 19 => v = .bool false
        | _ => v = .bool false
        ) (regOk_of (by kernel_rfl)) rfl ?_ ?_ ?_
      · intro i v w1 w2 h1 h2
        split at h2 <;> exact h2
      · refine ⟨fun a w2 hle hd hf hs K hK => ?_, fun a w2 hle hd hf hs K hK => ?_, fun a w2 hle hd hf hs K hK => ?_, fun a w2 hle hd hf hs K hK => ?_, fun a w2 hle hd hf hs K hK => ?_, fun a w2 hle hd hf hs K hK => ?_, fun a w2 hle hd hf hs K hK => ?_, fun a w2 hle hd hf hs K hK => ?_, fun a w2 hle hd hf hs K hK => ?_, fun a w2 hle hd hf hs K hK => ?_, fun a w2 hle hd hf hs K hK => ?_, fun a w2 hle hd hf hs K hK => ?_, fun a w2 hle hd hf hs K hK => ?_, fun a w2 hle hd hf hs K hK => ?_, fun a w2 hle hd hf hs K hK => ?_, fun a w2 hle hd hf hs K hK => ?_, fun a w2 hle hd hf hs K hK => ?_, fun a w2 hle hd hf hs K hK => ?_, fun a w2 hle hd hf hs K hK => ?_, fun a w2 hle hd hf hs K hK => ?_, fun a w2 hle hd hf hs K hK => ?_, trivial⟩
        all_goals clear hd
        · -- 7 := Op.fieldAddr 44 t5 3
          have e5 := hf 5 rfl; simp [Act.eval] at e5
          go_simp; exact hK _ _ (Ext.refl _) rfl
        · -- 8 := Op.load 4 t7
          have e7 := hs 0 7 (needs_direct (by kernel_rfl)) rfl; simp [Act.eval] at e7
          have hq : w2.cell? ⟨w.heap.size + 2, 3, none⟩ = some (.bool false) := (cell_of_row w2 _ _ _ _ _ (hle.heap G2.out)).trans (tokC_3 _ _ _ _ _)
          go_simp; exact hK _ _ (Ext.refl _) rfl
        · -- 9 := Op.unOp UnOp.not 4 t8
          have e8 := hs 1 8 (needs_direct (by kernel_rfl)) rfl; simp [Act.eval] at e8
          go_simp; exact hK _ _ (Ext.refl _) rfl
        · -- 10 := Op.move t9
          have e9 := hs 2 9 (needs_direct (by kernel_rfl)) rfl; simp [Act.eval] at e9
          go_simp; exact hK _ _ (Ext.refl _) rfl
        · -- 11 := Op.fieldAddr 44 t5 4
          have e5 := hf 5 rfl; have gg := hs 3 10 (needs_direct (by kernel_rfl)) rfl; simp [Act.eval] at e5 gg; replace gg := opt_bool gg
          go_simp; exact hK _ _ (Ext.refl _) rfl
        · -- 12 := Op.load 29 t11
          have e11 := hs 4 11 (needs_direct (by kernel_rfl)) rfl; have gg := hs 3 10 (needs_direct (by kernel_rfl)) rfl; simp [Act.eval] at e11 gg; replace gg := opt_bool gg
          have hq : agg? w2 ⟨w.heap.size + 2, 4, none⟩ 32 = some (tgC tag) := (agg_of_row (hle.heap G2.out) 4 32 (by decide)).trans (tokC_tag _ _ _ _ _)
          go_simp; exact hK _ _ (Ext.refl _) rfl
        · -- 13 := Op.load 29 t4
          have e4 := hf 4 rfl; have gg := hs 3 10 (needs_direct (by kernel_rfl)) rfl; simp [Act.eval] at e4 gg; replace gg := opt_bool gg
          have hq : agg? w2 ⟨w.heap.size + 1, 0, none⟩ 32 = some (tgC en) := (agg_of_row (hle.heap G1.out) 0 32 (by decide)).trans (tgC_part en)
          go_simp; exact hK _ _ (Ext.refl _) rfl
        · -- 14 := Op.binOp BinOp.eql 29 t12 t13 29
          have e12 := hs 5 12 (needs_direct (by kernel_rfl)) rfl; have e13 := hs 6 13 (needs_direct (by kernel_rfl)) rfl; have gg := hs 3 10 (needs_direct (by kernel_rfl)) rfl; simp [Act.eval] at e12 e13 gg; replace gg := opt_bool gg
          have hq := tg_in w2 tag en
          rw [HQ.out] at hq
          go_simp; exact hK _ _ (Ext.refl _) rfl
        · -- 15 := Op.pick t10 t14 (const (Value.bool false))
          have e10 := hs 3 10 (needs_direct (by kernel_rfl)) rfl; have e14 := hs 7 14 (needs_direct (by kernel_rfl)) rfl; simp [Act.eval] at e10 e14
          go_simp; exact hK _ _ (Ext.refl _) rfl
        · -- 16 := Op.move t15
          have e15 := hs 8 15 (needs_direct (by kernel_rfl)) rfl; simp [Act.eval] at e15
          go_simp; exact hK _ _ (Ext.refl _) rfl
        · -- 17 := Op.fieldAddr 44 t5 3
          have e5 := hf 5 rfl; have gg := hs 9 16 (needs_direct (by kernel_rfl)) rfl; simp [Act.eval] at e5 gg; replace gg := opt_bool gg
          go_simp; exact hK _ _ (Ext.refl _) rfl
        · -- 18 := Op.load 4 t17
          have e17 := hs 10 17 (needs_direct (by kernel_rfl)) rfl; have gg := hs 9 16 (needs_direct (by kernel_rfl)) rfl; simp [Act.eval] at e17 gg; replace gg := opt_bool gg
          have hq : w2.cell? ⟨w.heap.size + 2, 3, none⟩ = some (.bool false) := (cell_of_row w2 _ _ _ _ _ (hle.heap G2.out)).trans (tokC_3 _ _ _ _ _)
          go_simp; exact hK _ _ (Ext.refl _) rfl
        · -- 19 := Op.move t18
          have e18 := hs 11 18 (needs_direct (by kernel_rfl)) rfl; have gg := hs 9 16 (needs_direct (by kernel_rfl)) rfl; simp [Act.eval] at e18 gg; replace gg := opt_bool gg
          go_simp; exact hK _ _ (Ext.refl _) rfl
        · -- 20 := Op.fieldAddr 44 t5 4
          have gg := hs 12 19 (needs_direct (by kernel_rfl)) rfl; simp [Act.eval] at gg; replace gg := opt_bool gg
          go_simp; exact hK _ _ (Ext.refl _) rfl
        · -- 21 := Op.load 29 t20
          have gg := hs 12 19 (needs_direct (by kernel_rfl)) rfl; simp [Act.eval] at gg; replace gg := opt_bool gg
          go_simp; exact hK _ _ (Ext.refl _) rfl
        · -- 22 := Op.load 29 t3
          have gg := hs 12 19 (needs_direct (by kernel_rfl)) rfl; simp [Act.eval] at gg; replace gg := opt_bool gg
          go_simp; exact hK _ _ (Ext.refl _) rfl
        · -- 23 := Op.load 29 t4
          have gg := hs 12 19 (needs_direct (by kernel_rfl)) rfl; simp [Act.eval] at gg; replace gg := opt_bool gg
          go_simp; exact hK _ _ (Ext.refl _) rfl
        · -- 24 := Op.call { value (Operand.func 30), args := #[t22, t23], argTypes := #[29, 29] }
          have gg := hs 12 19 (needs_direct (by kernel_rfl)) rfl; simp [Act.eval] at gg; replace gg := opt_bool gg
          go_simp; exact hK _ _ (Ext.refl _) rfl
        · -- 25 := Op.binOp BinOp.eql 29 t21 t24 29
          have gg := hs 12 19 (needs_direct (by kernel_rfl)) rfl; simp [Act.eval] at gg; replace gg := opt_bool gg
          go_simp; exact hK _ _ (Ext.refl _) rfl
        · -- 26 := Op.pick t19 t25 (const (Value.bool false))
          have e19 := hs 12 19 (needs_direct (by kernel_rfl)) rfl; have e25 := hs 18 25 (needs_direct (by kernel_rfl)) rfl; have gg := hs 9 16 (needs_direct (by kernel_rfl)) rfl; simp [Act.eval] at e19 e25 gg; replace gg := opt_bool gg
          go_simp; exact hK _ _ (Ext.refl _) rfl
        · -- 27 := Op.pick t16 (const (Value.bool true)) t26
          have e16 := hs 9 16 (needs_direct (by kernel_rfl)) rfl; have e26 := hs 19 26 (needs_direct (by kernel_rfl)) rfl; simp [Act.eval] at e16 e26
          go_simp; exact hK _ _ (Ext.refl _) rfl
      intro vs w8 hle hs
      have v20 := hs 20 (by omega) rfl
      simp only at v20
      clear hs
      have HB9 := hide (HB3.out.trans (hle.mono (by omega)))
      clear hle
      simp only [putN, dstAt]
      go_simp
      go_wp2_with fail
      go_ret
      exact ⟨by rw [HF.out]; rfl, HB9.out⟩
  | true =>
    obtain ⟨t, ht⟩ : ∃ t, bindT root en = t := ⟨_, rfl⟩
    have HT := hide ht
    have HQ : Hid (decide (tag = t) = q) := hide (by rw [← hq, ← ht]; rfl)
    clear hq ht
    obtain ⟨W3, hW3⟩ : ∃ W3, W3 = ((w.alloc (.cells (tgC root) 29)).alloc (.cells (tgC en) 29)).alloc (.cells (tokC (.int .u64 (key : Int)) (.string id) (.slice A n c) (.bool true) tag) 44) := ⟨_, rfl⟩
    obtain ⟨g0, g1, g2⟩ := heap3g w (tgC root) (tgC en) (tokC (.int .u64 (key : Int)) (.string id) (.slice A n c) (.bool true) tag) 29 29 44
    rw [← hW3] at g0 g1 g2
    have hs3 : W3.heap.size = w.heap.size + 3 := by rw [hW3]; simp only [World.size_alloc]
    have HB3 : Hid (Below w.heap.size w W3) := hide (by rw [hW3]; exact below3 _ _ _ _)
    have hb1 : W3.cell? ⟨w.heap.size + 2, 3, none⟩ = some (.bool true) := (cell_of_row W3 _ _ _ _ _ g2).trans (tokC_3 _ _ _ _ _)
    have G0 := hide g0
    have G1 := hide g1
    have G2 := hide g2
    clear g0 g1 g2
    go_enter Tryd.func32, Tryd.ntmps32
    go_wp2_with ((with_reducible show wpList _ _ _ (Oper.mk (some 7) _ _ _ _ _ :: _) _ _); rw [← hW3]; clear hW3)
    try rw [← hW3]
    try clear hW3
    refine wp_region_ext mixed 21 (fun i v w' => match i with
      | 0 => v = .pointer (some ⟨w.heap.size + 2, 3, none⟩)
      | 1 => v = .bool true
      | 2 => v = .bool false
      | 3 => v = .bool false
      | 4 => v = undef
      | 5 => v = undef
      | 6 => v = undef
      | 7 => v = undef
      | 8 => v = .bool false
      | 9 => v = .bool false
      | 10 => v = .pointer (some ⟨w.heap.size + 2, 3, none⟩)
      | 11 => v = .bool true
      | 12 => v = .bool true
      | 13 => v = .pointer (some ⟨w.heap.size + 2, 4, none⟩)
      | 14 => v = tgV tag
      | 15 => v = tgV root
      | 16 => v = tgV en
      | 17 => v = tgV t
      | 18 => v = .bool q
      | 19 => v = .bool q
      | _ => v = .bool q
      ) (regOk_of (by kernel_rfl)) rfl ?_ ?_ ?_
    · intro i v w1 w2 h1 h2
      split at h2 <;> exact h2
    · refine ⟨fun a w2 hle hd hf hs K hK => ?_, fun a w2 hle hd hf hs K hK => ?_, fun a w2 hle hd hf hs K hK => ?_, fun a w2 hle hd hf hs K hK => ?_, fun a w2 hle hd hf hs K hK => ?_, fun a w2 hle hd hf hs K hK => ?_, fun a w2 hle hd hf hs K hK => ?_, fun a w2 hle hd hf hs K hK => ?_, fun a w2 hle hd hf hs K hK => ?_, fun a w2 hle hd hf hs K hK => ?_, fun a w2 hle hd hf hs K hK => ?_, fun a w2 hle hd hf hs K hK => ?_, fun a w2 hle hd hf hs K hK => ?_, fun a w2 hle hd hf hs K hK => ?_, fun a w2 hle hd hf hs K hK => ?_, fun a w2 hle hd hf hs K hK => ?_, fun a w2 hle hd hf hs K hK => ?_, fun a w2 hle hd hf hs K hK => ?_, fun a w2 hle hd hf hs K hK => ?_, fun a w2 hle hd hf hs K hK => ?_, fun a w2 hle hd hf hs K hK => ?_, trivial⟩
      all_goals clear hd
      · -- 7 := Op.fieldAddr 44 t5 3
        have e5 := hf 5 rfl; simp [Act.eval] at e5
        go_simp; exact hK _ _ (Ext.refl _) rfl
      · -- 8 := Op.load 4 t7
        have e7 := hs 0 7 (needs_direct (by kernel_rfl)) rfl; simp [Act.eval] at e7
        have hq : w2.cell? ⟨w.heap.size + 2, 3, none⟩ = some (.bool true) := (cell_of_row w2 _ _ _ _ _ (hle.heap G2.out)).trans (tokC_3 _ _ _ _ _)
        go_simp; exact hK _ _ (Ext.refl _) rfl
      · -- 9 := Op.unOp UnOp.not 4 t8
        have e8 := hs 1 8 (needs_direct (by kernel_rfl)) rfl; simp [Act.eval] at e8
        go_simp; exact hK _ _ (Ext.refl _) rfl
      · -- 10 := Op.move t9
        have e9 := hs 2 9 (needs_direct (by kernel_rfl)) rfl; simp [Act.eval] at e9
        go_simp; exact hK _ _ (Ext.refl _) rfl
      · -- 11 := Op.fieldAddr 44 t5 4
        have gg := hs 3 10 (needs_direct (by kernel_rfl)) rfl; simp [Act.eval] at gg; replace gg := opt_bool gg
        go_simp; exact hK _ _ (Ext.refl _) rfl
      · -- 12 := Op.load 29 t11
        have gg := hs 3 10 (needs_direct (by kernel_rfl)) rfl; simp [Act.eval] at gg; replace gg := opt_bool gg
        go_simp; exact hK _ _ (Ext.refl _) rfl
      · -- 13 := Op.load 29 t4
        have gg := hs 3 10 (needs_direct (by kernel_rfl)) rfl; simp [Act.eval] at gg; replace gg := opt_bool gg
        go_simp; exact hK _ _ (Ext.refl _) rfl
      · -- 14 := Op.binOp BinOp.eql 29 t12 t13 29
        have gg := hs 3 10 (needs_direct (by kernel_rfl)) rfl; simp [Act.eval] at gg; replace gg := opt_bool gg
        go_simp; exact hK _ _ (Ext.refl _) rfl
      · -- 15 := Op.pick t10 t14 (const (Value.bool false))
        have e10 := hs 3 10 (needs_direct (by kernel_rfl)) rfl; have e14 := hs 7 14 (needs_direct (by kernel_rfl)) rfl; simp [Act.eval] at e10 e14
        go_simp; exact hK _ _ (Ext.refl _) rfl
      · -- 16 := Op.move t15
        have e15 := hs 8 15 (needs_direct (by kernel_rfl)) rfl; simp [Act.eval] at e15
        go_simp; exact hK _ _ (Ext.refl _) rfl
      · -- 17 := Op.fieldAddr 44 t5 3
        have e5 := hf 5 rfl; have gg := hs 9 16 (needs_direct (by kernel_rfl)) rfl; simp [Act.eval] at e5 gg; replace gg := opt_bool gg
        go_simp; exact hK _ _ (Ext.refl _) rfl
      · -- 18 := Op.load 4 t17
        have e17 := hs 10 17 (needs_direct (by kernel_rfl)) rfl; have gg := hs 9 16 (needs_direct (by kernel_rfl)) rfl; simp [Act.eval] at e17 gg; replace gg := opt_bool gg
        have hq : w2.cell? ⟨w.heap.size + 2, 3, none⟩ = some (.bool true) := (cell_of_row w2 _ _ _ _ _ (hle.heap G2.out)).trans (tokC_3 _ _ _ _ _)
        go_simp; exact hK _ _ (Ext.refl _) rfl
      · -- 19 := Op.move t18
        have e18 := hs 11 18 (needs_direct (by kernel_rfl)) rfl; have gg := hs 9 16 (needs_direct (by kernel_rfl)) rfl; simp [Act.eval] at e18 gg; replace gg := opt_bool gg
        go_simp; exact hK _ _ (Ext.refl _) rfl
      · -- 20 := Op.fieldAddr 44 t5 4
        have e5 := hf 5 rfl; have gg := hs 12 19 (needs_direct (by kernel_rfl)) rfl; simp [Act.eval] at e5 gg; replace gg := opt_bool gg
        go_simp; exact hK _ _ (Ext.refl _) rfl
      · -- 21 := Op.load 29 t20
        have e20 := hs 13 20 (needs_direct (by kernel_rfl)) rfl; have gg := hs 12 19 (needs_direct (by kernel_rfl)) rfl; simp [Act.eval] at e20 gg; replace gg := opt_bool gg
        have hq : agg? w2 ⟨w.heap.size + 2, 4, none⟩ 32 = some (tgC tag) := (agg_of_row (hle.heap G2.out) 4 32 (by decide)).trans (tokC_tag _ _ _ _ _)
        go_simp; exact hK _ _ (Ext.refl _) rfl
      · -- 22 := Op.load 29 t3
        have e3 := hf 3 rfl; have gg := hs 12 19 (needs_direct (by kernel_rfl)) rfl; simp [Act.eval] at e3 gg; replace gg := opt_bool gg
        have hq : agg? w2 ⟨w.heap.size, 0, none⟩ 32 = some (tgC root) := (agg_of_row (hle.heap G0.out) 0 32 (by decide)).trans (tgC_part root)
        go_simp; exact hK _ _ (Ext.refl _) rfl
      · -- 23 := Op.load 29 t4
        have e4 := hf 4 rfl; have gg := hs 12 19 (needs_direct (by kernel_rfl)) rfl; simp [Act.eval] at e4 gg; replace gg := opt_bool gg
        have hq : agg? w2 ⟨w.heap.size + 1, 0, none⟩ 32 = some (tgC en) := (agg_of_row (hle.heap G1.out) 0 32 (by decide)).trans (tgC_part en)
        go_simp; exact hK _ _ (Ext.refl _) rfl
      · -- 24 := Op.call { value (Operand.func 30), args := #[t22, t23], argTypes := #[29, 29] }
        have e22 := hs 15 22 (needs_direct (by kernel_rfl)) rfl; have e23 := hs 16 23 (needs_direct (by kernel_rfl)) rfl; have gg := hs 12 19 (needs_direct (by kernel_rfl)) rfl; simp [Act.eval] at e22 e23 gg; replace gg := opt_bool gg
        go_simp
        refine (c_r21tag root en w2).mono ?_
        rintro z w9 ⟨rfl, b9⟩
        rw [HT.out]
        exact hK _ _ b9 rfl
      · -- 25 := Op.binOp BinOp.eql 29 t21 t24 29
        have e21 := hs 14 21 (needs_direct (by kernel_rfl)) rfl; have e24 := hs 17 24 (needs_direct (by kernel_rfl)) rfl; have gg := hs 12 19 (needs_direct (by kernel_rfl)) rfl; simp [Act.eval] at e21 e24 gg; replace gg := opt_bool gg
        have hq := tg_in w2 tag t
        rw [HQ.out] at hq
        go_simp; exact hK _ _ (Ext.refl _) rfl
      · -- 26 := Op.pick t19 t25 (const (Value.bool false))
        have e19 := hs 12 19 (needs_direct (by kernel_rfl)) rfl; have e25 := hs 18 25 (needs_direct (by kernel_rfl)) rfl; have gg := hs 9 16 (needs_direct (by kernel_rfl)) rfl; simp [Act.eval] at e19 e25 gg; replace gg := opt_bool gg
        go_simp; exact hK _ _ (Ext.refl _) rfl
      · -- 27 := Op.pick t16 (const (Value.bool true)) t26
        have e16 := hs 9 16 (needs_direct (by kernel_rfl)) rfl; have e26 := hs 19 26 (needs_direct (by kernel_rfl)) rfl; simp [Act.eval] at e16 e26
        go_simp; exact hK _ _ (Ext.refl _) rfl
    intro vs w8 hle hs
    have v20 := hs 20 (by omega) rfl
    simp only at v20
    clear hs
    have HB9 := hide (HB3.out.trans (hle.mono (by omega)))
    clear hle
    simp only [putN, dstAt]
    go_simp
    go_wp2_with fail
    go_ret
    exact ⟨by rw [HF.out]; rfl, HB9.out⟩
end Go.Proofs.YtdkeflhgengblaaDoor
namespace Go.Proofs.YtdkeflhgengblaaDoor
open Go.RowKit
attribute [local go_sem ↓] ld8 ld32 ld64 ld73
attribute [local go_sem] run_ldAgg run_storeAgg agg_alloc_at agg_alloc_past agg_drew agg_setCell row_alloc_at row_alloc_past row_drew setRow_alloc_at setRow_alloc_past setRow_drew agg_setRow_at agg_setRow_far cell_setRow_at cell_setRow_far row_setRow_far size_setRow s8C_size s8C_part s8C_one s8C_splice0 s8C_ne dgC_size dgC_72 dgC_part dgC_h dgC_r dgC_splice_h dgC_set dgC_one dgC_splice0 dgC_ne zero_dg
attribute [local go_sem] tgC_size tgC_one tgC_part tgC_splice tgC_splice_any zero_tg tgC_ne

theorem heap4 (w : World) (a b c d : Array Value) (T E : TypeId) : (((((w.alloc (.cells a T)).alloc (.cells b T)).alloc (.cells c E)).alloc (.cells d T)).heap[w.heap.size]? = some (.cells a T)) ∧ (((((w.alloc (.cells a T)).alloc (.cells b T)).alloc (.cells c E)).alloc (.cells d T)).heap[w.heap.size + 1]? = some (.cells b T)) ∧ (((((w.alloc (.cells a T)).alloc (.cells b T)).alloc (.cells c E)).alloc (.cells d T)).heap[w.heap.size + 3]? = some (.cells d T)) := by
  refine ⟨?_, ?_, ?_⟩
  · rw [Below.heap_alloc _ _ _ (by simp only [World.size_alloc]; omega), Below.heap_alloc _ _ _ (by simp only [World.size_alloc]; omega), Below.heap_alloc _ _ _ (by simp only [World.size_alloc]; omega)]; exact heap_alloc_new _ _
  · rw [Below.heap_alloc _ _ _ (by simp only [World.size_alloc]; omega), Below.heap_alloc _ _ _ (by simp only [World.size_alloc]; omega)]
    have := heap_alloc_new (w.alloc (.cells a T)) (.cells b T)
    rwa [World.size_alloc] at this
  · have := heap_alloc_new (((w.alloc (.cells a T)).alloc (.cells b T)).alloc (.cells c E)) (.cells d T)
    rwa [World.size_alloc, World.size_alloc, World.size_alloc] at this
/-- What the loop of the document's stream keeps. -/
def RsAt (w wr : World) (G : Nat) (key nonce : Tg) (i : Nat) (v : Value) : Prop :=
  kU8.Own (fun _ => False) (w.heap.size + 2) wr 5 v (strm key nonce i) ∧ v.ownBlock ≠ some G ∧ (∃ u : Tg, wr.heap[G]? = some (.cells (tgC u) 29) ∧ (i % 32 ≠ 0 → u = sKey key nonce (i / 32))) ∧
  wr.heap[w.heap.size]? = some (.cells (tgC key) 29) ∧ wr.heap[w.heap.size + 1]? = some (.cells (tgC nonce) 29) ∧ w.heap.size + 4 ≤ wr.heap.size ∧ Below w.heap.size w wr
theorem rs_next {w W6 w11 : World} {G : Nat} {key nonce t : Tg} {k : Nat} {v v11 c : Value} {T : TypeId} (hgs : w.heap.size + 3 = G) (htt : sKey key nonce (k / 32) = t)
    (hk : W6.heap[w.heap.size]? = some (.cells (tgC key) 29)) (hn : W6.heap[w.heap.size + 1]? = some (.cells (tgC nonce) 29)) (hg : W6.heap[G]? = some (.cells (tgC t) 29)) (hs : w.heap.size + 4 ≤ W6.heap.size) (hB : Below w.heap.size w W6)
    (hv : v.ownBlock ≠ some G) (ho : kU8.Own (fun _ => True) (w.heap.size + 2) w11 5 v11 (strm key nonce (k + 1))) (b11 : Below (w.heap.size + 2) (W6.alloc (.cells #[c] T)) w11)
    (f11 : ∀ j, j < W6.heap.size + 1 → ¬ some j = v.ownBlock → w11.heap[j]? = (W6.alloc (.cells #[c] T)).heap[j]?) (o11 : v11.ownBlock = v.ownBlock ∨ ∃ j, v11.ownBlock = some j ∧ W6.heap.size + 1 ≤ j) : RsAt w w11 G key nonce (k + 1) v11 := by
  have h7 : (W6.alloc (.cells #[c] T)).heap.size = W6.heap.size + 1 := World.size_alloc _ _
  have hb : ∀ j, j < w.heap.size + 2 → w11.heap[j]? = W6.heap[j]? := fun j hj => (b11.block j hj).trans (Below.heap_alloc _ _ _ (by omega))
  refine ⟨own8 ho, ?_, ⟨t, ?_, fun h => ?_⟩, (hb _ (by omega)).trans hk, (hb _ (by omega)).trans hn, ?_, ?_⟩
  · rcases o11 with e | ⟨j, e, hj⟩
    · rw [e]; exact hv
    · rw [e]; intro e'; have := Option.some.inj e'; omega
  · exact ((f11 G (by omega) (fun e => hv e.symm)).trans (Below.heap_alloc _ _ _ (by omega))).trans hg
  · rw [← htt]; congr 1; omega
  · have := b11.size; omega
  · exact (hB.alloc (by omega) _).trans (b11.mono (by omega))
set_option maxRecDepth 100000 in
set_option maxHeartbeats 800000 in
theorem c_rstream (key nonce : Tg) (z : Int) (n : Nat) (w : World) (hz : z.toNat = n) (hn : n < 1048576) :
    Calls Tryd.prog 39 #[tgV key, tgV nonce, .int .i64 z] w fun e w' => ∃ v, e = .returned v ∧ kU8.Own (fun _ => True) w.heap.size w' 5 v (strm key nonce n) ∧ Below w.heap.size w w' := by
  have HZ := hide hz
  clear hz
  obtain ⟨W1, hW1⟩ : ∃ W1, W1 = (((w.alloc (.cells (tgC key) 29)).alloc (.cells (tgC nonce) 29)).alloc (.cells #[] 5)).alloc (.cells (tgC Tg.zero) 29) := ⟨_, rfl⟩
  obtain ⟨g1, g2, g3⟩ := heap4 w (tgC key) (tgC nonce) #[] (tgC Tg.zero) 29 5
  rw [← hW1] at g1 g2 g3
  have hs1 : W1.heap.size = w.heap.size + 4 := by rw [hW1]; simp only [World.size_alloc]
  have hO : kU8.Own (fun _ => True) (w.heap.size + 2) W1 5 (.slice (some ⟨w.heap.size + 2, 0, none⟩) 0 0) [] := by
    have := bytes_lit ((w.alloc (.cells (tgC key) 29)).alloc (.cells (tgC nonce) 29)) [] #[] rfl 0 rfl (Nat.zero_le _)
    rw [World.size_alloc, World.size_alloc] at this
    rw [hW1]
    exact this.below (below1 _ _)
  have HR0 : Hid (RsAt w W1 (w.heap.size + 3) key nonce 0 (.slice (some ⟨w.heap.size + 2, 0, none⟩) 0 0)) := hide ⟨own8 hO, (fun e => by have := Option.some.inj (show some (w.heap.size + 2) = some (w.heap.size + 3) from e); omega), ⟨Tg.zero, g3, fun h => absurd rfl h⟩, g1, g2, by omega, by rw [hW1]; exact (below3 _ _ _ _).alloc (by simp only [World.size_alloc]; omega) _⟩
  clear g1 g2 g3 hO hs1
  go_enter Tryd.func39, Tryd.ntmps39
  go_wp2_with fail
  rw [← hW1]
  clear hW1
  obtain ⟨G, hG⟩ : ∃ G, G = w.heap.size + 1 + 1 + 1 := ⟨_, rfl⟩
  rw [← hG]
  rw [show w.heap.size + 3 = G from hG.symm] at HR0
  have hGs : w.heap.size + 3 = G := hG.symm
  have HGS := hide hGs
  clear hG hGs
  go_loopw [7, 9] (fun v i wr => ∃ (k : Nat), k ≤ n ∧ i = .int .i64 (k : Int) ∧ Hid (RsAt w wr G key nonce k v)) (fun _ i _ => n - (intOf i).toNat)
  case atStart => exact ⟨0, Nat.zero_le _, rfl, HR0⟩
  case round =>
    clear HR0
    obtain ⟨k, hk, rfl, HR⟩ := hrel
    obtain ⟨hO, hown, ⟨u, hu, hu2⟩, hkc, hnc, hsz, hB⟩ := HR.out
    obtain ⟨AV, cV, hvf⟩ := hO.form
    rw [strm_len] at hvf
    rw [hvf] at hO hown ⊢
    clear HR hvf
    by_cases hlt : k < n
    · have hzn : z = (n : Int) := by have := HZ.out; omega
      subst hzn
      have hrm : (k : Int).tmod 32 = ((k % 32 : Nat) : Int) := by rw [Int.tmod_eq_emod_of_nonneg (by omega)]; omega
      have hk63 : k < 1048576 := by omega
      obtain ⟨t, htt⟩ : ∃ t, t = sKey key nonce (k / 32) := ⟨_, rfl⟩
      obtain ⟨r, hr⟩ : ∃ r, r = k % 32 := ⟨_, rfl⟩
      have hr32 : r < 32 := by omega
      obtain ⟨x, hx⟩ : ∃ x, t.l[r]? = some x := ⟨_, List.getElem?_eq_getElem (by rw [t.len]; exact hr32)⟩
      have HX : Hid (strm key nonce k ++ [x] = strm key nonce (k + 1)) := hide (strm_next key nonce (by rw [← htt, ← hr]; exact hx))
      have HTT : Hid (sKey key nonce (k / 32) = t) := hide htt.symm
      have HXX := hide hx
      rw [← hr] at hrm
      have HO := hide hO
      have HOW := hide hown
      have HB := hide hB
      by_cases h0 : r = 0
      · subst h0
        have hq0 : ((k : Int).tmod 32 == 0) = true := by rw [hrm]; rfl
        have hqd : (k : Int).tdiv 32 = ((k / 32 : Nat) : Int) := by rw [Int.tdiv_eq_ediv_of_nonneg (by omega)]; omega
        have hag1 : agg? wr ⟨w.heap.size, 0, none⟩ 32 = some (tgC key) := (agg_of_row hkc 0 32 (by decide)).trans (tgC_part key)
        have hag2 : agg? wr ⟨w.heap.size + 1, 0, none⟩ 32 = some (tgC nonce) := (agg_of_row hnc 0 32 (by decide)).trans (tgC_part nonce)
        have HU := hide hu
        have HKC := hide hkc
        have HNC := hide hnc
        clear htt hr hx hO hown hB hu2 hu hkc hnc
        go_wp2_with fail
        rw [show ((k : Int) / 32) = ((k / 32 : Nat) : Int) by omega]
        refine (c_rblock key nonce (k / 32) wr (by omega)).mono ?_
        rintro e w5 ⟨rfl, b5⟩
        rw [HTT.out]
        have hu5 := (b5.block G (by have := HGS.out; omega)).trans HU.out
        have hrz := row_of hu5
        obtain ⟨W6, hW6⟩ : ∃ W6, W6 = w5.setRow G (tgC t) := ⟨_, rfl⟩
        have hgx : (tgC t)[0]? = some (bv x) := by rw [tgC_bl]; exact blC_at _ HXX.out
        have hgz : (tgC t)[0]'(by rw [tgC_size]; decide) = bv x := by
          rw [Array.getElem?_eq_getElem (by rw [tgC_size]; decide)] at hgx
          exact Option.some.inj hgx
        have HG6 : Hid (W6.heap[G]? = some (.cells (tgC t) 29)) := hide (by rw [hW6]; exact setRow_heap w5 G (tgC u) (tgC t) 29 _ hu5)
        have hs65 : W6.heap.size = w5.heap.size := by rw [hW6, size_setRow]
        have h56 : Below G w5 W6 := by rw [hW6]; exact bsetRow (Below.refl _ _) (Nat.le_refl _) _
        have h06 : Below w.heap.size w W6 := (HB.out.trans (b5.mono (by omega))).trans (h56.mono (by have := HGS.out; omega))
        have HS6 : Hid (w.heap.size + 4 ≤ W6.heap.size) := hide (by have := b5.size; have := h56.size; omega)
        have HK6 : Hid (W6.heap[w.heap.size]? = some (.cells (tgC key) 29)) := hide ((h56.block _ (by have := HGS.out; omega)).trans ((b5.block _ (by omega)).trans HKC.out))
        have HN6 : Hid (W6.heap[w.heap.size + 1]? = some (.cells (tgC nonce) 29)) := hide ((h56.block _ (by have := HGS.out; omega)).trans ((b5.block _ (by omega)).trans HNC.out))
        have HO6 : Hid (kU8.Own (fun _ => True) (w.heap.size + 2) W6 5 (.slice AV k cV) (strm key nonce k)) := hide (own8 (HO.out.keep fun j hj hj' => by
          by_cases hjg : j = G
          · subst hjg; exact absurd (hj'.resolve_left id).symm HOW.out
          · rw [hW6, heap_setRow_far _ _ _ hjg]; exact b5.block j hj))
        have HB6 := hide h06
        clear hu5 b5 hag1 hag2 h56 h06
        have HO8 : Hid (kU8.Own (fun _ => True) (w.heap.size + 2) (W6.alloc (.cells #[bv x] 5)) 5 (.slice AV k cV) (strm key nonce k)) := hide ((own8 HO6.out).below (below1 _ _))
        go_wp2_with (at_builtin; (try rw [← hW6, ← hs65]); go_loud (refine wpList_app (d := kU8) (ok := fun _ => True) (base := w.heap.size + 2) (ys := [x]) rfl _ _ _ rfl Tryd.underlying22 u8_info rfl (by decide) 1 rfl rfl (.inl HO8.out) (Kd.Src.new (d := kU8) (x := x) (cs := [bv x]) ⟨rfl, trivial⟩ _ rfl _ rfl) ?_ ?_ ?_ ?_))
        · have := HS6.out; simp only [World.size_alloc]; omega
        · rw [strm_len]; simp only [maxLen]; omega
        · rw [strm_len]; omega
        intro v11 w11 _ h11 b11 f11 o11
        rw [← hW6] at b11 f11
        rw [← hs65] at f11 o11
        rw [HX.out] at h11
        have HR11 := hide (rs_next HGS.out HTT.out HK6.out HN6.out HG6.out HS6.out HB6.out HOW.out h11 b11 f11 o11)
        clear h11 b11 f11 o11
        go_wp2_with fail
        go_roundw
        case rel => exact ⟨k + 1, hlt, by simp, HR11⟩
        case measure => simp [intOf]; omega
      · obtain rfl : u = t := by rw [htt]; exact hu2 (by rw [← hr]; exact h0)
        have hq0 : (((r : Nat) : Int) == 0) = false := by simp [h0]
        have HK6 := hide hkc
        have HN6 := hide hnc
        have HG6 := hide hu
        have HS6 := hide hsz
        have HB6 := hide hB
        have HO6 := HO
        have hgx : (tgC u)[r]? = some (bv x) := by rw [tgC_bl]; exact blC_at _ hx
        have hcx := (cell_of_row wr _ r _ _ _ hu).trans hgx
        clear htt hr hx hO hown hB hu2 hkc hnc
        have HO8 : Hid (kU8.Own (fun _ => True) (w.heap.size + 2) (wr.alloc (.cells #[bv x] 5)) 5 (.slice AV k cV) (strm key nonce k)) := hide ((own8 HO6.out).below (below1 _ _))
        go_wp2_with (at_builtin; go_loud (refine wpList_app (d := kU8) (ok := fun _ => True) (base := w.heap.size + 2) (ys := [x]) rfl _ _ _ rfl Tryd.underlying22 u8_info rfl (by decide) 1 rfl rfl (.inl HO8.out) (Kd.Src.new (d := kU8) (x := x) (cs := [bv x]) ⟨rfl, trivial⟩ _ rfl _ rfl) ?_ ?_ ?_ ?_))
        · have := HS6.out; simp only [World.size_alloc]; omega
        · rw [strm_len]; simp only [maxLen]; omega
        · rw [strm_len]; omega
        intro v11 w11 _ h11 b11 f11 o11
        rw [HX.out] at h11
        have HR11 := hide (rs_next HGS.out HTT.out HK6.out HN6.out HG6.out HS6.out HB6.out HOW.out h11 b11 f11 o11)
        clear h11 b11 f11 o11
        go_wp2_with fail
        go_roundw
        case rel => exact ⟨k + 1, hlt, by simp, HR11⟩
        case measure => simp [intOf]; omega
    · obtain rfl : k = n := by omega
      have hnl : ¬ (k : Int) < z := by have := HZ.out; omega
      have HV1 := hide ((own8 (ok' := fun _ => True) hO).lower (base' := w.heap.size) (by omega))
      have HB0 := hide hB
      clear hO hown hB hu2 hu hkc hnc
      go_wp2_with fail
      go_ret
      exact ⟨_, rfl, HV1.out, HB0.out⟩
end Go.Proofs.YtdkeflhgengblaaDoor
namespace Go.Proofs.YtdkeflhgengblaaDoor
open Go.RowKit
variable {base g n cap i : Nat} {w : World} {E : TypeId} {v : Value} {xs : List UInt8} {ok : Nat → Prop}
theorem own8_open (h : kU8.Own ok base w E v xs) (hn : 0 < xs.length) : ∃ g cap cur, v = .slice (some ⟨g, 0, none⟩) xs.length cap ∧ base ≤ g ∧ w.heap[g]? = some (.cells cur E (0, 0)) ∧ xs.length ≤ cap ∧ cap ≤ maxLen ∧ ∀ (i : Nat) (x : UInt8), xs[i]? = some x → cur[i]? = some (bv x) := by
  obtain ⟨css, he, ho⟩ := h
  rw [els8 he] at ho
  rcases ho.2 with ⟨_, h0⟩ | ⟨g, cap, cur, e, hb, hg, hnc, hm, hs, ht⟩
  · omega
  · refine ⟨g, cap, cur, e, hb, hg, hnc, hm, fun i x hx => ?_⟩
    have hi : i < xs.length := (List.getElem?_eq_some_iff.1 hx).1
    have h1 : (cur.toList.take (xs.length * kU8.sz))[i]? = some (bv x) := by rw [ht, List.getElem?_map, hx]; rfl
    rw [List.getElem?_take] at h1
    split at h1
    · rwa [Array.getElem?_toList] at h1
    · cases h1
theorem flat_bv (l : List UInt8) : (l.map fun x => [bv x]).flatten = l.map bv := by
  induction l <;> simp_all
theorem own8_set (h : kU8.Own ok base w E (.slice (some ⟨g, 0, none⟩) n cap) xs) (y : UInt8) : kU8.Own ok base (w.setCell ⟨g, i, none⟩ (bv y)) E (.slice (some ⟨g, 0, none⟩) n cap) (xs.set i y) := by
  obtain ⟨css, he, ho⟩ := h
  rw [els8 he] at ho
  rcases ho.2 with ⟨e, _⟩ | ⟨g', cap', cur, e, hb, hg, hnc, hm, hs, ht⟩
  · cases e
  · cases e
    refine ⟨(xs.set i y).map fun x => [bv x], ⟨by simp, fun j x cs hx hc => ?_⟩, ?_⟩
    · rw [List.getElem?_map, hx] at hc
      exact ⟨(Option.some.inj hc).symm, trivial⟩
    · rw [flat_bv]
      refine ⟨by simp [kU8, Kd.cell], .inr ⟨g, cap, cur.setIfInBounds i (bv y), by rw [List.length_set], hb, heap_setCell_at _ hg, by rw [List.length_set]; exact hnc, hm, by rw [Array.size_setIfInBounds]; exact hs, ?_⟩⟩
      rw [List.length_set, Array.toList_setIfInBounds, List.take_set, ht, List.map_set]
/-- The first k of one list, the others of another one. -/
def mix (A B : List UInt8) (k : Nat) : List UInt8 := A.take k ++ B.drop k
section
variable {A B : List UInt8} {k : Nat} {a : UInt8}
theorem mix_start : mix A B 0 = B := rfl
theorem mix_end (h : A.length = B.length) (hk : k = A.length) : mix A B k = A := by
  rw [mix, List.drop_eq_nil_of_le (by omega), List.append_nil, List.take_of_length_le (by omega)]
theorem mix_len (h : A.length = B.length) : (mix A B k).length = A.length := by
  simp only [mix, List.length_append, List.length_take, List.length_drop]; omega
theorem mix_at (h : A.length = B.length) (hk : k ≤ A.length) : (mix A B k)[k]? = B[k]? := by
  rw [mix, List.getElem?_append_right (by rw [List.length_take]; omega), List.getElem?_drop]
  congr 1
  rw [List.length_take]; omega
theorem mix_set (h : A.length = B.length) (ha : A[k]? = some a) : (mix A B k).set k a = mix A B (k + 1) := by
  have hk : k < A.length := (List.getElem?_eq_some_iff.1 ha).1
  apply List.ext_getElem?
  intro j
  rw [List.getElem?_set, mix_len h]
  by_cases hj : k = j
  · subst hj
    rw [if_pos rfl, if_pos hk, mix, List.getElem?_append_left (by rw [List.length_take]; omega), List.getElem?_take, if_pos (Nat.lt_succ_self _), ha]
  · rw [if_neg hj, mix, mix]
    rcases Nat.lt_or_ge j k with h2 | h2
    · rw [List.getElem?_append_left (by rw [List.length_take]; omega), List.getElem?_append_left (by rw [List.length_take]; omega), List.getElem?_take, List.getElem?_take, if_pos h2, if_pos (by omega)]
    · rw [List.getElem?_append_right (by rw [List.length_take]; omega), List.getElem?_append_right (by rw [List.length_take]; omega), List.getElem?_drop, List.getElem?_drop]
      congr 1
      simp only [List.length_take]; omega
end
end Go.Proofs.YtdkeflhgengblaaDoor
namespace Go.Proofs.YtdkeflhgengblaaDoor
open Go.RowKit
attribute [local go_sem ↓] ld8 ld32 ld64 ld73
attribute [local go_sem] run_ldAgg run_storeAgg agg_alloc_at agg_alloc_past agg_drew agg_setCell row_alloc_at row_alloc_past row_drew setRow_alloc_at setRow_alloc_past setRow_drew agg_setRow_at agg_setRow_far cell_setRow_at cell_setRow_far row_setRow_far size_setRow s8C_size s8C_part s8C_one s8C_splice0 s8C_ne dgC_size dgC_72 dgC_part dgC_h dgC_r dgC_splice_h dgC_set dgC_one dgC_splice0 dgC_ne zero_dg
attribute [local go_sem] tgC_size tgC_one tgC_part tgC_splice tgC_splice_any zero_tg tgC_ne

theorem str_byte {P : Program} {T : TypeId} (h : P.underlying T = some .string) {s : List UInt8} {k : Nat} {y : UInt8} (hy : s[k]? = some y) (kd : IntKind) : ∀ W : World, (Instr.index T (.string (txt s)) (.int kd (k : Int))).run P W = .ok (bv y) W := fun W => by
  have hk : k < s.length := (List.getElem?_eq_some_iff.1 hy).1
  have hi : 0 ≤ (k : Int) ∧ (k : Int) < ((txt s).size : Int) := by rw [txt_size]; omega
  rw [run_index_string W T (txt s) kd k h, dif_pos hi]
  have : (txt s)[(k : Int).toNat]'(by rw [txt_size]; omega) = y := by
    rw [List.getElem?_eq_getElem hk] at hy
    exact Option.some.inj hy
  rw [this]
theorem idx_k {P : Program} {T E : TypeId} (hT : P.underlying T = some (.slice E)) (hE : (P.info? E).map (·.size) = some 1) (g n c k : Nat) (hk : k < n) : ∀ wx : World, (Instr.indexAt T (.slice (some ⟨g, 0, none⟩) n c) (.int .i64 (k : Int))).run P wx = .ok (.pointer (some ⟨g, k, none⟩)) wx := fun wx => by
  cases hq : P.info? E with
  | none => rw [hq] at hE; cases hE
  | some x =>
    rw [hq] at hE
    have : x.size = 1 := by simpa using hE
    simp [Instr.indexAt, asIntOf, run_underlying hT, sizeOf, typeInfo, hq, this, hk, Addr.add]
    omega
set_option maxRecDepth 100000 in
set_option maxHeartbeats 800000 in
theorem c_sturned (key nonce : Tg) (s : List UInt8) (w : World) (hn : s.length < 1048576) (hP : PrimesAt w) :
    Calls Tryd.prog 80 #[tgV key, tgV nonce, .string (txt s)] w fun e w' => e = .returned (.string (txt (turnd key nonce s))) ∧ Below w.heap.size w w' := by
  have HP := hide hP
  have hw0 := hP.1
  obtain ⟨n, hnn⟩ : ∃ n, n = s.length := ⟨_, rfl⟩
  have hsz : (txt s).size = n := by rw [txt_size, hnn]
  have HN : Hid (s.length = n) := hide hnn.symm
  have HB1 : Hid (Below w.heap.size w ((w.alloc (.cells (tgC key) 29)).alloc (.cells (tgC nonce) 29))) := hide (below2 _ _ _)
  rw [← hnn] at hn
  clear hP hnn
  go_enter Tryd.func80, Tryd.ntmps80
  go_wp2_with fail
  refine (c_stream key nonce _ n _ (by simp) hn (HP.out.ext HB1.out)).mono ?_
  rintro e w5 ⟨v5, rfl, h5, b5⟩
  obtain ⟨A, hA⟩ : ∃ A, A = turnd key nonce s := ⟨_, rfl⟩
  obtain ⟨B, hBB⟩ : ∃ B, B = strm key nonce n := ⟨_, rfl⟩
  have hlA : A.length = n := by rw [hA, turnd_len, HN.out]
  have hlB : B.length = n := by rw [hBB, strm_len]
  have HAZ : Hid (A = List.zipWith (· ^^^ ·) B s) := hide (by rw [hA, hBB, turnd, HN.out])
  obtain ⟨AV, cV, hvf⟩ := h5.form
  rw [strm_len] at hvf
  rw [hvf] at h5 ⊢
  have HV0 : Hid (kU8.Own (fun _ => True) (w.heap.size + 2) w5 5 (.slice AV n cV) (mix A B 0)) := hide (by
    rw [mix_start, hBB]; simp only [World.size_alloc] at h5; exact h5)
  have HB5 : Hid (Below (w.heap.size + 2) w5 w5) := hide (Below.refl _ _)
  have HB0 : Hid (Below w.heap.size w w5) := hide (bnext HB1.out b5)
  have hw5 : w.heap.size + 2 ≤ w5.heap.size := by have := b5.size; simpa only [World.size_alloc] using this
  have HA := hide hA
  have HLA := hide hlA
  have HLB := hide hlB
  clear hA hBB hlA hlB hvf h5 b5
  go_wp2_with fail
  go_loopw [16] (fun i wr => ∃ (k : Nat), k ≤ n ∧ i = .int .i64 (k : Int) ∧ Hid (kU8.Own (fun _ => True) (w.heap.size + 2) wr 5 (.slice AV n cV) (mix A B k)) ∧ Hid (Below (w.heap.size + 2) w5 wr)) (fun i _ => n - (intOf i).toNat)
  case atStart => exact ⟨0, Nat.zero_le _, rfl, HV0, HB5⟩
  case round =>
    clear HV0 HB5
    obtain ⟨k, hk, rfl, HV, HB⟩ := hrel
    by_cases hlt : k < n
    · obtain ⟨b, hb⟩ : ∃ b, B[k]? = some b := ⟨_, List.getElem?_eq_getElem (by rw [HLB.out]; exact hlt)⟩
      obtain ⟨y, hy⟩ : ∃ y, s[k]? = some y := ⟨_, List.getElem?_eq_getElem (by rw [HN.out]; exact hlt)⟩
      obtain ⟨a, ha⟩ : ∃ a, a = b ^^^ y := ⟨_, rfl⟩
      have hAa : A[k]? = some a := by rw [HAZ.out, List.getElem?_zipWith, hb, hy, ha]
      have hml : (mix A B k).length = n := by rw [mix_len (HLA.out.trans HLB.out.symm), HLA.out]
      obtain ⟨g, cap, cur, e, hbg, hg, hnc, hm, hcu⟩ := own8_open HV.out (by omega)
      rw [hml] at e hnc
      injection e with e1 _ e3
      subst e1 e3
      have HSX := hide (str_byte (P := Tryd.prog) Tryd.underlying9 hy .i64)
      have HCB : Hid (cur[k]? = some (bv b)) := hide (hcu k b ((mix_at (HLA.out.trans HLB.out.symm) (by rw [HLA.out]; exact hk)).trans hb))
      have HIX := hide (idx_k (P := Tryd.prog) Tryd.underlying22 u8_info1 g n cV k hlt)
      have HXY : Hid (bits .xor .u8 (b.toNat : Int) (y.toNat : Int) = (a.toNat : Int)) := hide (by rw [ha]; exact b_xor b y)
      have HG := hide hg
      have HV1 : Hid (∀ w8, Below wr.heap.size wr w8 → kU8.Own (fun _ => True) (w.heap.size + 2) (w8.setCell ⟨g, k, none⟩ (bv a)) 5 (.slice (some ⟨g, 0, none⟩) n cV) (mix A B (k + 1))) := hide (fun w8 h8 => by
        rw [← mix_set (HLA.out.trans HLB.out.symm) hAa]
        exact own8_set (HV.out.below h8) a)
      have HBG : Hid (w.heap.size + 2 ≤ g) := hide hbg
      have HWR := hide (Nat.le_trans hw5 HB.out.size)
      clear hb hy ha hAa hml hcu hg hbg hm hnc
      go_wp2_with fail
      refine wp_region_ext mixed 9 (fun i v w' => match i with
        | 0 => v = .slice (some ⟨g, 0, none⟩) n cV
        | 1 => v = .int .i64 (k : Int)
        | 2 => v = .pointer (some ⟨g, k, none⟩)
        | 3 => v = bv b
        | 4 => v = .string (txt s)
        | 5 => v = .int .i64 (k : Int)
        | 6 => v = bv y
        | 7 => v = bv a
        | _ => v = .pointer (some ⟨g, k, none⟩)
        ) (regOk_of (by kernel_rfl)) rfl ?_ ?_ ?_
      · intro i v w1 w2 h1 h2
        split at h2 <;> exact h2
      · refine ⟨fun a w2 hle hd hf hs K hK => ?_, fun a w2 hle hd hf hs K hK => ?_, fun a w2 hle hd hf hs K hK => ?_, fun a w2 hle hd hf hs K hK => ?_, fun a w2 hle hd hf hs K hK => ?_, fun a w2 hle hd hf hs K hK => ?_, fun a w2 hle hd hf hs K hK => ?_, fun a w2 hle hd hf hs K hK => ?_, fun a w2 hle hd hf hs K hK => ?_, trivial⟩
        all_goals clear hd
        · -- 19 := Op.move t7
          have e7 := hf 7 rfl; simp [Act.eval] at e7
          go_simp; exact hK _ _ (Ext.refl _) rfl
        · -- 20 := Op.move t8
          have e8 := hf 8 rfl; simp [Act.eval] at e8
          go_simp; exact hK _ _ (Ext.refl _) rfl
        · -- 21 := Op.indexAddr 22 t19 t20
          have e19 := hs 0 19 (needs_direct (by kernel_rfl)) rfl; have e20 := hs 1 20 (needs_direct (by kernel_rfl)) rfl; simp [Act.eval] at e19 e20
          have hix := HIX.out
          go_simp; exact hK _ _ (Ext.refl _) rfl
        · -- 22 := Op.load 5 t21
          have e21 := hs 2 21 (needs_direct (by kernel_rfl)) rfl; simp [Act.eval] at e21
          have hcx := (cell_of_row w2 g k _ _ _ (hle.heap HG.out)).trans HCB.out
          go_simp; exact hK _ _ (Ext.refl _) rfl
        · -- 23 := Op.move t2
          have e2 := hf 2 rfl; simp [Act.eval] at e2
          go_simp; exact hK _ _ (Ext.refl _) rfl
        · -- 24 := Op.move t8
          have e8 := hf 8 rfl; simp [Act.eval] at e8
          go_simp; exact hK _ _ (Ext.refl _) rfl
        · -- 25 := Op.index 9 t23 t24
          have e23 := hs 4 23 (needs_direct (by kernel_rfl)) rfl; have e24 := hs 5 24 (needs_direct (by kernel_rfl)) rfl; simp [Act.eval] at e23 e24
          have hsx := HSX.out
          go_simp; exact hK _ _ (Ext.refl _) rfl
        · -- 26 := Op.binOp BinOp.xor 5 t22 t25 5
          have e22 := hs 3 22 (needs_direct (by kernel_rfl)) rfl; have e25 := hs 6 25 (needs_direct (by kernel_rfl)) rfl; simp [Act.eval] at e22 e25
          have hxx := HXY.out
          go_simp; exact hK _ _ (Ext.refl _) rfl
        · -- 27 := Op.indexAddr 22 t19 t20
          have e19 := hs 0 19 (needs_direct (by kernel_rfl)) rfl; have e20 := hs 1 20 (needs_direct (by kernel_rfl)) rfl; simp [Act.eval] at e19 e20
          have hix := HIX.out
          go_simp; exact hK _ _ (Ext.refl _) rfl
      intro vs w8 hle hs
      have v7 := hs 7 (by omega) rfl
      have v8 := hs 8 (by omega) rfl
      simp only at v7 v8
      clear hs
      have hg8 := hle.heap HG.out
      have hfz := frozen_of_row w8 g k _ _ hg8
      have hcx := (cell_of_row w8 g k _ _ _ hg8).trans HCB.out
      have HV2 := hide (HV1.out w8 hle)
      have HB2 := hide (bsetCell (HB.out.trans (hle.mono HWR.out)) HBG.out k (bv a))
      clear hg8 hle
      simp only [putN, dstAt]
      go_simp
      go_wp2_with fail
      go_roundw
      case rel => exact ⟨k + 1, hlt, by simp, HV2, HB2⟩
      case measure => simp [intOf]; omega
    · obtain rfl : k = n := by omega
      obtain ⟨A2, c2, e2, hr2⟩ := own_row HV.out
      have hme := mix_end (A := A) (B := B) (k := k) (HLA.out.trans HLB.out.symm) HLA.out.symm
      rw [hme, HA.out] at hr2
      rw [mix_len (HLA.out.trans HLB.out.symm), HLA.out] at e2
      rw [turnd_len, HN.out] at hr2
      injection e2 with e1 _ e3
      subst e1 e3
      have hst := row_string (P := Tryd.prog) Tryd.underlying22 Tryd.underlying5 Tryd.underlying9 hr2
      have HBE := hide (HB0.out.trans (HB.out.mono (by omega)))
      clear hr2 hme
      go_wp2_with fail
      go_ret
      exact ⟨rfl, HBE.out⟩
end Go.Proofs.YtdkeflhgengblaaDoor
namespace Go.Proofs.YtdkeflhgengblaaDoor
open Go.RowKit
attribute [local go_sem ↓] ld8 ld32 ld64 ld73
attribute [local go_sem] run_ldAgg run_storeAgg agg_alloc_at agg_alloc_past agg_drew agg_setCell row_alloc_at row_alloc_past row_drew setRow_alloc_at setRow_alloc_past setRow_drew agg_setRow_at agg_setRow_far cell_setRow_at cell_setRow_far row_setRow_far size_setRow s8C_size s8C_part s8C_one s8C_splice0 s8C_ne dgC_size dgC_72 dgC_part dgC_h dgC_r dgC_splice_h dgC_set dgC_one dgC_splice0 dgC_ne zero_dg
attribute [local go_sem] tgC_size tgC_one tgC_part tgC_splice tgC_splice_any zero_tg tgC_ne

theorem turnd_at {key nonce : Tg} {s : List UInt8} {k : Nat} {b y : UInt8} (hb : (strm key nonce s.length)[k]? = some b) (hy : s[k]? = some y) : (turnd key nonce s).take k ++ [y ^^^ b] = (turnd key nonce s).take (k + 1) := by
  rw [List.take_add_one, turnd, List.getElem?_zipWith, hb, hy]
  simp only [Option.toList, UInt8.xor_comm]
set_option maxRecDepth 100000 in
set_option maxHeartbeats 800000 in
theorem c_rsturned (key nonce : Tg) (s : List UInt8) (w : World) (hn : s.length < 1048576) :
    Calls Tryd.prog 81 #[tgV key, tgV nonce, .string (txt s)] w fun e w' => e = .returned (.string (txt (turnd key nonce s))) ∧ Below w.heap.size w w' := by
  obtain ⟨n, hnn⟩ : ∃ n, n = s.length := ⟨_, rfl⟩
  have hsz : (txt s).size = n := by rw [txt_size, hnn]
  have HN : Hid (s.length = n) := hide hnn.symm
  have HB1 : Hid (Below w.heap.size w ((w.alloc (.cells (tgC key) 29)).alloc (.cells (tgC nonce) 29))) := hide (below2 _ _ _)
  rw [← hnn] at hn
  clear hnn
  go_enter Tryd.func81, Tryd.ntmps81
  go_wp2_with fail
  refine (c_rstream key nonce _ n _ (by simp) hn).mono ?_
  rintro e w5 ⟨v5, rfl, h5, b5⟩
  obtain ⟨AV, cV, e5, hr5⟩ := own_row h5
  rw [strm_len] at e5 hr5
  rw [e5]
  have HR5 := hide hr5
  have HV0 : Hid (kU8.Own (fun _ => True) w5.heap.size (w5.alloc (.cells #[] 5)) 5 (.slice (some ⟨w5.heap.size, 0, none⟩) 0 0) ((turnd key nonce s).take 0)) := hide (bytes_lit w5 [] #[] rfl 0 rfl (Nat.zero_le _))
  have HB5 : Hid (Below w5.heap.size w5 (w5.alloc (.cells #[] 5))) := hide (below1 _ _)
  have HB0 : Hid (Below w.heap.size w w5) := hide (bnext HB1.out b5)
  have hw5 : w.heap.size ≤ w5.heap.size := HB0.out.size
  clear e5 h5 b5 hr5
  go_wp2_with fail
  go_loopw [8, 9] (fun v i wr => ∃ (k : Nat), k ≤ n ∧ i = .int .i64 (k : Int) ∧ Hid (kU8.Own (fun _ => True) w5.heap.size wr 5 v ((turnd key nonce s).take k)) ∧ Hid (Below w5.heap.size w5 wr)) (fun _ i _ => n - (intOf i).toNat)
  case atStart => exact ⟨0, Nat.zero_le _, rfl, HV0, HB5⟩
  case round =>
    clear HV0 HB5
    obtain ⟨k, hk, rfl, HV, HB⟩ := hrel
    have hlk : ((turnd key nonce s).take k).length = k := by rw [List.length_take, turnd_len, HN.out]; omega
    obtain ⟨AO, cO, hvf⟩ := HV.out.form
    rw [hlk] at hvf
    rw [hvf] at HV ⊢
    have HLK := hide hlk
    clear hvf hlk
    by_cases hlt : k < n
    · obtain ⟨b, hb⟩ : ∃ b, (strm key nonce n)[k]? = some b := ⟨_, List.getElem?_eq_getElem (by rw [strm_len]; exact hlt)⟩
      obtain ⟨y, hy⟩ : ∃ y, s[k]? = some y := ⟨_, List.getElem?_eq_getElem (by rw [HN.out]; exact hlt)⟩
      obtain ⟨x1, ha⟩ : ∃ a, a = y ^^^ b := ⟨_, rfl⟩
      have HST : Hid ((turnd key nonce s).take k ++ [x1] = (turnd key nonce s).take (k + 1)) := hide (by rw [ha]; exact turnd_at (by rw [HN.out]; exact hb) hy)
      have HSX := hide (str_byte (P := Tryd.prog) Tryd.underlying9 hy .i64)
      obtain ⟨p, o, hip, hcp, hpb⟩ := row_byte (HR5.out.below HB.out) hb
      have HIX := hide hip
      have HCB := hide hcp
      have HPB := hide hpb
      have HXY : Hid (bits .xor .u8 (y.toNat : Int) (b.toNat : Int) = (x1.toNat : Int)) := hide (by rw [ha]; exact b_xor y b)
      have HWR := hide HB.out.size
      clear hb hy ha hip hcp hpb
      go_wp2_with fail
      refine wp_region_ext mixed 10 (fun i v w' => match i with
        | 0 => v = .slice AO k cO
        | 1 => v = .string (txt s)
        | 2 => v = .int .i64 (k : Int)
        | 3 => v = bv y
        | 4 => v = .slice AV n cV
        | 5 => v = .int .i64 (k : Int)
        | 6 => v = .pointer (some ⟨p, o, none⟩)
        | 7 => v = bv b
        | 8 => v = bv x1
        | _ => ∃ A c, v = .slice A 1 c ∧ kU8.Row (fun _ => True) w' A 1 c [x1]
        ) (regOk_of (by kernel_rfl)) rfl ?_ ?_ ?_
      · intro i v w1 w2 h1 h2
        split at h2 <;> first | exact h2 | (obtain ⟨A, c, e, hr⟩ := h2; exact ⟨A, c, e, hr.below h1⟩)
      · refine ⟨fun a w2 hle hd hf hs K hK => ?_, fun a w2 hle hd hf hs K hK => ?_, fun a w2 hle hd hf hs K hK => ?_, fun a w2 hle hd hf hs K hK => ?_, fun a w2 hle hd hf hs K hK => ?_, fun a w2 hle hd hf hs K hK => ?_, fun a w2 hle hd hf hs K hK => ?_, fun a w2 hle hd hf hs K hK => ?_, fun a w2 hle hd hf hs K hK => ?_, fun a w2 hle hd hf hs K hK => ?_, trivial⟩
        all_goals clear hd
        · -- 22 := Op.move t8
          have e8 := hf 8 rfl; simp [Act.eval] at e8
          go_simp; exact hK _ _ (Ext.refl _) rfl
        · -- 23 := Op.move t2
          have e2 := hf 2 rfl; simp [Act.eval] at e2
          go_simp; exact hK _ _ (Ext.refl _) rfl
        · -- 24 := Op.move t9
          have e9 := hf 9 rfl; simp [Act.eval] at e9
          go_simp; exact hK _ _ (Ext.refl _) rfl
        · -- 25 := Op.index 9 t23 t24
          have e23 := hs 1 23 (needs_direct (by kernel_rfl)) rfl; have e24 := hs 2 24 (needs_direct (by kernel_rfl)) rfl; simp [Act.eval] at e23 e24
          have hsx := HSX.out
          go_simp; exact hK _ _ (Ext.refl _) rfl
        · -- 26 := Op.move t7
          have e7 := hf 7 rfl; simp [Act.eval] at e7
          go_simp; exact hK _ _ (Ext.refl _) rfl
        · -- 27 := Op.move t9
          have e9 := hf 9 rfl; simp [Act.eval] at e9
          go_simp; exact hK _ _ (Ext.refl _) rfl
        · -- 28 := Op.indexAddr 22 t26 t27
          have e26 := hs 4 26 (needs_direct (by kernel_rfl)) rfl; have e27 := hs 5 27 (needs_direct (by kernel_rfl)) rfl; simp [Act.eval] at e26 e27
          have hix := HIX.out
          go_simp; exact hK _ _ (Ext.refl _) rfl
        · -- 29 := Op.load 5 t28
          have e28 := hs 6 28 (needs_direct (by kernel_rfl)) rfl; simp [Act.eval] at e28
          have hcx := (World.cell?_of_block (a := ⟨p, o, none⟩) (hle.block _ HPB.out)).trans HCB.out
          go_simp; exact hK _ _ (Ext.refl _) rfl
        · -- 30 := Op.binOp BinOp.xor 5 t25 t29 5
          have e25 := hs 3 25 (needs_direct (by kernel_rfl)) rfl; have e29 := hs 7 29 (needs_direct (by kernel_rfl)) rfl; simp [Act.eval] at e25 e29
          have hxx := HXY.out
          go_simp; exact hK _ _ (Ext.refl _) rfl
        · -- 31 := Op.buildSlice 22 1 #[(0, t30)]
          have e30 := hs 8 30 (needs_direct (by kernel_rfl)) rfl; simp [Act.eval] at e30
          go_simp
          exact hK _ _ (Ext.alloc _ _) (by
            obtain ⟨A1, c1, e1, hr1⟩ := own_row (bytes_lit w2 [x1] #[bv x1] rfl 1 rfl (by decide))
            exact ⟨A1, c1, e1, hr1.more fun _ _ => trivial⟩)
      intro vs w8 hle hs
      have v0 := hs 0 (by omega) rfl
      have v9 := hs 9 (by omega) rfl
      simp only at v0 v9
      clear hs
      obtain ⟨A9, c9, e9, hr9⟩ := v9
      have HV8 := hide (HV.out.below hle)
      have HR9 := hide hr9
      have HB8 := hide (HB.out.trans (hle.mono HWR.out))
      have hw8 : w5.heap.size ≤ w8.heap.size := HB8.out.size
      clear hr9 hle
      simp only [putN, dstAt]
      go_simp
      go_wp2_with (at_builtin; go_loud (refine wpList_app (d := kU8) (ok := fun _ => True) (base := w5.heap.size) (ys := [x1]) rfl _ _ _ rfl Tryd.underlying22 u8_info rfl (by decide) c9 rfl rfl (.inl HV8.out) (src8 HR9.out.src) ?_ ?_ ?_ ?_))
      · exact hw8
      · rw [HLK.out]; simp only [maxLen]; omega
      · rw [HLK.out]; omega
      intro v11 w11 _ h11 b11 _ _
      rw [HST.out] at h11
      have HV11 := hide h11
      have HB11 := hide (HB8.out.trans b11)
      clear h11 b11
      go_wp2_with fail
      go_roundw
      case rel => exact ⟨k + 1, hlt, by simp, HV11, HB11⟩
      case measure => simp [intOf]; omega
    · obtain rfl : k = n := by omega
      obtain ⟨A2, c2, e2, hr2⟩ := own_row HV.out
      rw [HLK.out] at e2 hr2
      injection e2 with e1 _ e3
      subst e1 e3
      rw [List.take_of_length_le (by rw [turnd_len, HN.out]; exact Nat.le_refl _)] at hr2
      have hst := row_string (P := Tryd.prog) Tryd.underlying22 Tryd.underlying5 Tryd.underlying9 hr2
      have HBE := hide (HB0.out.trans (HB.out.mono (by omega)))
      clear hr2
      go_wp2_with fail
      go_ret
      exact ⟨rfl, HBE.out⟩
end Go.Proofs.YtdkeflhgengblaaDoor
namespace Go.Proofs.YtdkeflhgengblaaDoor
open Go.RowKit
attribute [local go_sem ↓] ld8 ld32 ld64 ld73
attribute [local go_sem] run_ldAgg run_storeAgg agg_alloc_at agg_alloc_past agg_drew agg_setCell row_alloc_at row_alloc_past row_drew setRow_alloc_at setRow_alloc_past setRow_drew agg_setRow_at agg_setRow_far cell_setRow_at cell_setRow_far row_setRow_far size_setRow s8C_size s8C_part s8C_one s8C_splice0 s8C_ne dgC_size dgC_72 dgC_part dgC_h dgC_r dgC_splice_h dgC_set dgC_one dgC_splice0 dgC_ne zero_dg
attribute [local go_sem] tgC_size tgC_one tgC_part tgC_splice tgC_splice_any zero_tg tgC_ne

theorem two_sizes {a c : List UInt8} (ha : a.length < 1048576) (hc : c.length < 1048576) : ∀ s ∈ [txt a, txt c], s.size ≤ maxLen := by
  intro s hs
  simp only [List.mem_cons, List.not_mem_nil, or_false] at hs
  rcases hs with rfl | rfl <;> (rw [txt_size]; simp only [maxLen]; omega)
theorem mark_len {a c : List UInt8} (ha : a.length < 1048576) (hc : c.length < 1048576) : (frames (uSeal :: [txt a, txt c])).length < 1073741824 := by
  simp only [frames_cons, frames_nil, List.length_append, frm_len, txt_size, List.length_nil]
  rw [show uSeal.size = 4 from rfl]
  omega
theorem txt_add (a b : List UInt8) : txt a ++ txt b = txt (a ++ b) := by
  apply ByteArray.ext
  rw [ByteArray.data_append]
  simp
set_option maxRecDepth 100000 in
set_option maxHeartbeats 800000 in
theorem c_smark (key : Tg) (a c : List UInt8) (w : World) (ha : a.length < 1048576) (hc : c.length < 1048576) (hP : PrimesAt w) :
    Calls Tryd.prog 79 #[tgV key, .string (txt a), .string (txt c)] w fun e w' => e = .returned (.string (txt (markT key a c).l)) ∧ Below w.heap.size w w' := by
  have HP := hide hP
  have hw0 := hP.1
  have HSZ := hide (two_sizes ha hc)
  have HFL := hide (mark_len ha hc)
  obtain ⟨t, htt⟩ : ∃ t, t = markT key a c := ⟨_, rfl⟩
  have HT : Hid (dkey key uSeal [txt a, txt c] = t) := hide (by rw [htt]; rfl)
  have HTT := hide htt
  obtain ⟨W2, hW2⟩ : ∃ W2, W2 = (w.alloc (.cells (tgC key) 29)).alloc (.cells #[.string (txt a), .string (txt c)] 9) := ⟨_, rfl⟩
  have HB2 : Hid (Below w.heap.size w W2) := hide (by rw [hW2]; exact below2 _ _ _)
  have HS2 : Hid (kStr.Row (fun _ => True) W2 (some ⟨w.heap.size + 1, 0, none⟩) 2 2 [txt a, txt c]) := hide (by
    rw [hW2]
    have := strs_row (w := (w.alloc (.cells (tgC key) 29)).alloc (.cells #[.string (txt a), .string (txt c)] 9)) (g := w.heap.size + 1) [txt a, txt c] (by have := heap_alloc_new (w.alloc (.cells (tgC key) 29)) (.cells #[.string (txt a), .string (txt c)] 9); rwa [World.size_alloc] at this) rfl HSZ.out (by simp [maxLen])
    exact this)
  clear hP ha hc htt
  go_enter Tryd.func79, Tryd.ntmps79
  go_wp2_with fail
  rw [← hW2]
  clear hW2
  refine (c_dkey key uSeal _ 2 2 [txt a, txt c] _ W2 HS2.out (by decide) (HP.out.ext HB2.out) HFL.out).mono ?_
  rintro e w5 ⟨rfl, b5⟩
  rw [HT.out]
  have hst := row_string (P := Tryd.prog) Tryd.underlying22 Tryd.underlying5 Tryd.underlying9 (tag_row t (heap_alloc_new w5 (.cells (tgC t) 29)))
  have HB5 := hide (bnext HB2.out b5)
  have HBE : Hid (Below w.heap.size w (w5.alloc (.cells (tgC t) 29))) := hide (HB5.out.alloc HB5.out.size _)
  clear b5
  go_wp2_with fail
  go_ret
  exact ⟨by rw [HTT.out]; rfl, HBE.out⟩
set_option maxRecDepth 100000 in
set_option maxHeartbeats 800000 in
theorem c_seal (key nonce : Tg) (s : List UInt8) (w : World) (hn : s.length < 1048576) (hP : PrimesAt w) :
    Calls Tryd.prog 36 #[tgV key, tgV nonce, .string (txt s)] w fun e w' => e = .returned (.string (txt (sealB key nonce s))) ∧ Below w.heap.size w w' := by
  have HPR : Hid (PrimesAt ((w.alloc (.cells (tgC key) 29)).alloc (.cells (tgC nonce) 29))) := hide (hP.ext (below2 _ _ _))
  have hw0 := hP.1
  have HSL := hide hn
  obtain ⟨W1, hW1⟩ : ∃ W1, W1 = (w.alloc (.cells (tgC key) 29)).alloc (.cells (tgC nonce) 29) := ⟨_, rfl⟩
  rw [← hW1] at HPR
  have HB1 : Hid (Below w.heap.size w W1) := hide (by rw [hW1]; exact below2 _ _ _)
  have HK1 : Hid (W1.heap[w.heap.size]? = some (.cells (tgC key) 29)) := hide (by
    rw [hW1, Below.heap_alloc _ _ _ (by simp only [World.size_alloc]; omega)]; exact heap_alloc_new _ _)
  have HN1 : Hid (W1.heap[w.heap.size + 1]? = some (.cells (tgC nonce) 29)) := hide (by
    rw [hW1]
    have := heap_alloc_new (w.alloc (.cells (tgC key) 29)) (.cells (tgC nonce) 29)
    rwa [World.size_alloc] at this)
  have HNR := hide (tag_row nonce HN1.out)
  obtain ⟨sc, hsc⟩ : ∃ sc, sc = turnd key nonce s := ⟨_, rfl⟩
  have HSC : Hid (turnd key nonce s = sc) := hide hsc.symm
  have HLC : Hid (sc.length < 1048576) := hide (by rw [hsc, turnd_len]; exact hn)
  have HSB : Hid (sealB key nonce s = nonce.l ++ sc ++ (markT key nonce.l sc).l) := hide (by rw [hsc]; rfl)
  clear hP hsc hn
  go_enter Tryd.func36, Tryd.ntmps36
  go_wp2_with fail
  rw [← hW1]
  clear hW1
  refine wp_region_ext mixed 6 (fun i v w' => match i with
    | 0 => v = .slice (some ⟨w.heap.size + 1, 0, none⟩) 32 32
    | 1 => v = .string (txt nonce.l)
    | 2 => v = tgV key
    | 3 => v = tgV nonce
    | 4 => v = .string (txt s)
    | _ => v = .string (txt sc)
    ) (regOk_of (by kernel_rfl)) rfl ?_ ?_ ?_
  · intro i v w1 w2 h1 h2
    split at h2 <;> exact h2
  · refine ⟨fun a w2 hle hd hf hs K hK => ?_, fun a w2 hle hd hf hs K hK => ?_, fun a w2 hle hd hf hs K hK => ?_, fun a w2 hle hd hf hs K hK => ?_, fun a w2 hle hd hf hs K hK => ?_, fun a w2 hle hd hf hs K hK => ?_, trivial⟩
    all_goals clear hd
    · -- 9 := Op.slice 29 t4 none none none
      have e4 := hf 4 rfl; simp [Act.eval] at e4
      go_simp; exact hK _ _ (Ext.refl _) rfl
    · -- 10 := Op.convert 22 9 t9
      have e9 := hs 0 9 (needs_direct (by kernel_rfl)) rfl; simp [Act.eval] at e9
      have hq := row_string (P := Tryd.prog) Tryd.underlying22 Tryd.underlying5 Tryd.underlying9 (HNR.out.below hle)
      go_simp; exact hK _ _ (Ext.refl _) rfl
    · -- 11 := Op.load 29 t3
      have e3 := hf 3 rfl; simp [Act.eval] at e3
      have hq : agg? w2 ⟨w.heap.size, 0, none⟩ 32 = some (tgC key) := (agg_of_row (hle.heap HK1.out) 0 32 (by decide)).trans (tgC_part key)
      go_simp; exact hK _ _ (Ext.refl _) rfl
    · -- 12 := Op.load 29 t4
      have e4 := hf 4 rfl; simp [Act.eval] at e4
      have hq : agg? w2 ⟨w.heap.size + 1, 0, none⟩ 32 = some (tgC nonce) := (agg_of_row (hle.heap HN1.out) 0 32 (by decide)).trans (tgC_part nonce)
      go_simp; exact hK _ _ (Ext.refl _) rfl
    · -- 13 := Op.move t2
      have e2 := hf 2 rfl; simp [Act.eval] at e2
      go_simp; exact hK _ _ (Ext.refl _) rfl
    · -- 14 := Op.call { value (Operand.func 80), args := #[t11, t12, t13], argTypes := #[29, 29, 9] }
      have e11 := hs 2 11 (needs_direct (by kernel_rfl)) rfl; have e12 := hs 3 12 (needs_direct (by kernel_rfl)) rfl; have e13 := hs 4 13 (needs_direct (by kernel_rfl)) rfl; simp [Act.eval] at e11 e12 e13
      go_simp
      refine (c_sturned key nonce s w2 HSL.out (HPR.out.ext hle)).mono ?_
      rintro z w9 ⟨rfl, b9⟩
      rw [HSC.out]
      exact hK _ _ b9 rfl
  intro vs w8 hle hs
  have v1 := hs 1 (by omega) rfl
  have v5 := hs 5 (by omega) rfl
  simp only at v1 v5
  clear hs
  have hag := (agg_of_row (hle.heap HK1.out) 0 32 (by decide)).trans (tgC_part key)
  have HP8 := hide (HPR.out.ext hle)
  have HB8 := hide (HB1.out.trans (hle.mono HB1.out.size))
  clear hle
  have hz1 : (txt nonce.l).size = 32 := by rw [txt_size, nonce.len]
  have hz2 : (txt sc).size < 1048576 := by rw [txt_size]; exact HLC.out
  have hz3 : (txt (markT key nonce.l sc).l).size = 32 := by rw [txt_size, (markT key nonce.l sc).len]
  simp only [putN, dstAt]
  go_simp
  go_wp2_with fail
  refine (c_smark key nonce.l sc w8 (by rw [nonce.len]; decide) HLC.out HP8.out).mono ?_
  rintro e w9 ⟨rfl, b9⟩
  have HB9 := hide (HB8.out.trans (b9.mono HB8.out.size))
  clear b9
  have hz4 : (txt nonce.l ++ txt sc).size < 2097152 := by rw [txt_add, txt_size, List.length_append, nonce.len]; have := HLC.out; omega
  go_wp2_with fail
  go_ret
  refine ⟨?_, HB9.out⟩
  rw [HSB.out, ← txt_add, ← txt_add]
  rfl
end Go.Proofs.YtdkeflhgengblaaDoor
namespace Go.Proofs.YtdkeflhgengblaaDoor
open Go.RowKit
/-- []byte(text), at the operation. -/
theorem wp_tobytes {P : Program} {E : TypeId} {w : World} {op : Oper} {a : Act} {K : Act → World → Prop} {Q : Exit → Act → World → Prop} (S D : TypeId) (x : Operand) (ho : op.op = .convert S D x) (s : ByteArray) (hx : a.eval x = .string s)
    (hS : P.underlying S = some .string) (hD : P.underlying D = some (.slice E)) (hE : P.underlying E = some (.int .u8)) (hs : s.size ≤ 9223372036854775807)
    (k : ∀ c w', kU8.Row (fun k => k = w.heap.size) w' (some ⟨w.heap.size, 0, none⟩) s.size c (byt s) → Below w.heap.size w w' → K (a.put op.dst (.slice (some ⟨w.heap.size, 0, none⟩) s.size c)) w') : op.wp P a w K Q := by
  unfold Oper.wp execOp
  simp only [ho, hx, Sem.run_bind, Sem.run_pure, Result.andThen_ok, Lib.run_convert_string_bytes w S D E s hS hD hE]
  exact k _ _ (bytes_new w E s hs) (bytesWorld_below w E s)

/-- A part of a text. -/
theorem ext_txt (s : List UInt8) (i j : Nat) : (txt s).extract i j = txt ((s.drop i).take (j - i)) := by
  apply ByteArray.ext
  rw [ByteArray.data_extract]
  apply Array.toList_inj.1
  simp [List.extract_eq_take_drop]
theorem ext_is {s l : List UInt8} {i j a b : Nat} (h : (s.drop a).take (b - a) = l) (hi : i = a) (hj : j = b) : Value.string ((txt s).extract i j) = .string (txt l) := by
  subst hi hj
  rw [ext_txt, h]
end Go.Proofs.YtdkeflhgengblaaDoor
namespace Go.Proofs.YtdkeflhgengblaaDoor
open Go.RowKit
attribute [local go_sem ↓] ld8 ld32 ld64 ld73
attribute [local go_sem] run_ldAgg run_storeAgg agg_alloc_at agg_alloc_past agg_drew agg_setCell row_alloc_at row_alloc_past row_drew setRow_alloc_at setRow_alloc_past setRow_drew agg_setRow_at agg_setRow_far cell_setRow_at cell_setRow_far row_setRow_far size_setRow s8C_size s8C_part s8C_one s8C_splice0 s8C_ne dgC_size dgC_72 dgC_part dgC_h dgC_r dgC_splice_h dgC_set dgC_one dgC_splice0 dgC_ne zero_dg
attribute [local go_sem] tgC_size tgC_one tgC_part tgC_splice tgC_splice_any zero_tg tgC_ne

/-- What is opened, as a value. -/
def openV (o : Option (List UInt8)) : Value := .tuple #[.string (txt (o.getD [])), .bool o.isSome]
theorem openB_parts {key : Tg} {s nb cb tb : List UInt8} {E : Nat} (hm : s.length = E + 32) (hE : 32 ≤ E) (h1 : (s.drop 0).take (32 - 0) = nb) (h2 : (s.drop 32).take (E - 32) = cb) (h3 : (s.drop E).take (E + 32 - E) = tb) :
    nb.length = 32 ∧ cb.length = E - 32 ∧ tb.length = 32 ∧ openB key s = if (markT key nb cb).l = tb then some (turnd key (tagL nb) cb) else none := by
  have e1 : s.take 32 = nb := h1
  have e3 : s.drop (s.length - 32) = tb := by
    rw [← h3, List.take_of_length_le (by rw [List.length_drop]; omega), hm, Nat.add_sub_cancel]
  refine ⟨by rw [← e1, List.length_take]; omega, by rw [← h2, List.length_take, List.length_drop]; omega, by rw [← e3, List.length_drop]; omega, ?_⟩
  rw [openB, if_neg (by omega), e1, e3, hm, show E + 32 - 64 = E - 32 by omega, h2]
set_option maxRecDepth 100000 in
set_option maxHeartbeats 1600000 in
theorem c_open (key : Tg) (s : List UInt8) (w : World) (hn : s.length < 1048576) (hP : PrimesAt w) :
    Calls Tryd.prog 34 #[tgV key, .string (txt s)] w fun e w' => e = .returned (openV (openB key s)) ∧ Below w.heap.size w w' := by
  have hw0 := hP.1
  obtain ⟨m, hmm⟩ : ∃ m, m = s.length := ⟨_, rfl⟩
  have hsz : (txt s).size = m := by rw [txt_size, hmm]
  obtain ⟨W1, hW1⟩ : ∃ W1, W1 = w.alloc (.cells (tgC key) 29) := ⟨_, rfl⟩
  have HB1 : Hid (Below w.heap.size w W1) := hide (by rw [hW1]; exact below1 _ _)
  have HK1 : Hid (W1.heap[w.heap.size]? = some (.cells (tgC key) 29)) := hide (by rw [hW1]; exact heap_alloc_new _ _)
  have HP1 : Hid (PrimesAt W1) := hide (hP.ext HB1.out)
  rw [← hmm] at hn
  by_cases h64 : m < 64
  · have HOB : Hid (openB key s = none) := hide (by rw [openB, if_pos (by omega)])
    clear hP hmm
    go_enter Tryd.func34, Tryd.ntmps34
    go_wp2_with fail
    rw [← hW1]
    exact bodyPost_ret (v := openV none) (by simp [results, Tryd.results34, go_sem, openV]) rfl ⟨by rw [HOB.out], HB1.out⟩
  · obtain ⟨E, hE⟩ : ∃ E, m = E + 32 := ⟨m - 32, by omega⟩
    subst hE
    obtain ⟨nb, hnb⟩ : ∃ nb, (s.drop 0).take (32 - 0) = nb := ⟨_, rfl⟩
    obtain ⟨cb, hcb⟩ : ∃ cb, (s.drop 32).take (E - 32) = cb := ⟨_, rfl⟩
    obtain ⟨tb, htb⟩ : ∃ tb, (s.drop E).take (E + 32 - E) = tb := ⟨_, rfl⟩
    obtain ⟨l1, l2, l3, hob⟩ := openB_parts (key := key) hmm.symm (by omega) hnb hcb htb
    obtain ⟨mk, hmk⟩ : ∃ mk, (markT key nb cb).l = mk := ⟨_, rfl⟩
    obtain ⟨tn, htn⟩ : ∃ tn, tagL nb = tn := ⟨_, rfl⟩
    obtain ⟨pl, hpl⟩ : ∃ pl, turnd key tn cb = pl := ⟨_, rfl⟩
    obtain ⟨bq, hbq⟩ : ∃ bq, decide (mk = tb) = bq := ⟨_, rfl⟩
    have hzm : (txt mk).size = 32 := by rw [txt_size, ← hmk, (markT key nb cb).len]
    have hzt : (txt tb).size = 32 := by rw [txt_size, l3]
    have hzn : (txt nb).size = 32 := by rw [txt_size, l1]
    rw [hmk, htn, hpl] at hob
    have hE1 : (32 : Int) ≤ (E : Int) + 32 := by omega
    have hE2 : (32 : Int) ≤ (E : Int) := by omega
    have hE3 : (E : Int) ≤ (E : Int) + 32 := by omega
    have HOB : Hid (openB key s = if bq = true then some pl else none) := hide (by rw [hob, ← hbq]; simp only [decide_eq_true_eq])
    have HNB := hide hnb
    have HCB := hide hcb
    have HTB := hide htb
    have HMK := hide hmk
    have HPL := hide hpl
    have HBQ := hide hbq
    have HL32 := hide l1
    have HTN : Hid ((nb.map bv).toArray = tgC tn) := hide (by rw [← htn, tgC, tagL_l l1])
    have HLN : Hid (nb.length < 1048576) := hide (by omega)
    have HLC : Hid (cb.length < 1048576) := hide (by omega)
    clear hP hmm hnb hcb htb hmk htn hpl hbq l1 l2 l3 hob
    go_enter Tryd.func34, Tryd.ntmps34
    go_wp2_with fail
    rw [← hW1]
    clear hW1
    refine wp_region_ext mixed 7 (fun i v w' => match i with
      | 0 => v = .string (txt s)
      | 1 => v = .string (txt nb)
      | 2 => v = .string (txt s)
      | 3 => v = .int .i64 (E : Int)
      | 4 => v = .string (txt cb)
      | 5 => v = .string (txt nb)
      | _ => v = .string (txt cb)
      ) (regOk_of (by kernel_rfl)) rfl ?_ ?_ ?_
    · intro i v w1 w2 h1 h2
      split at h2 <;> exact h2
    · refine ⟨fun a w2 hle hd hf hs K hK => ?_, fun a w2 hle hd hf hs K hK => ?_, fun a w2 hle hd hf hs K hK => ?_, fun a w2 hle hd hf hs K hK => ?_, fun a w2 hle hd hf hs K hK => ?_, fun a w2 hle hd hf hs K hK => ?_, fun a w2 hle hd hf hs K hK => ?_, trivial⟩
      all_goals clear hd
      · -- 15 := Op.move t1
        have e1 := hf 1 rfl; simp [Act.eval] at e1
        go_simp; exact hK _ _ (Ext.refl _) rfl
      · -- 16 := Op.slice 9 t15 none (some (const (32:i64))) none
        have e15 := hs 0 15 (needs_direct (by kernel_rfl)) rfl; simp [Act.eval] at e15
        go_simp
        exact hK _ _ (Ext.refl _) (ext_is HNB.out rfl rfl)
      · -- 17 := Op.move t1
        have e1 := hf 1 rfl; simp [Act.eval] at e1
        go_simp; exact hK _ _ (Ext.refl _) rfl
      · -- 18 := Op.move t6
        have e6 := hf 6 rfl; simp [Act.eval] at e6
        go_simp; exact hK _ _ (Ext.refl _) rfl
      · -- 19 := Op.slice 9 t17 (some (const (32:i64))) (some t18) none
        have e17 := hs 2 17 (needs_direct (by kernel_rfl)) rfl; have e18 := hs 3 18 (needs_direct (by kernel_rfl)) rfl; simp [Act.eval] at e17 e18
        go_simp
        exact hK _ _ (Ext.refl _) (ext_is HCB.out rfl rfl)
      · -- 7 := Op.assign t16
        have e16 := hs 1 16 (needs_direct (by kernel_rfl)) rfl; simp [Act.eval] at e16
        go_simp; exact hK _ _ (Ext.refl _) rfl
      · -- 8 := Op.assign t19
        have e19 := hs 4 19 (needs_direct (by kernel_rfl)) rfl; simp [Act.eval] at e19
        go_simp; exact hK _ _ (Ext.refl _) rfl
    intro vs w8 hle hs
    have v5 := hs 5 (by omega) rfl
    have v6 := hs 6 (by omega) rfl
    simp only at v5 v6
    clear hs
    have HB2 := hide (HB1.out.trans (hle.mono HB1.out.size))
    have HK2 := hide (hle.heap HK1.out)
    have HP2 := hide (HP1.out.ext hle)
    obtain ⟨W2, hW2⟩ : ∃ W2, W2 = w8 := ⟨_, rfl⟩
    rw [← hW2] at HB2 HK2 HP2 ⊢
    clear hW2 hle HB1 HK1 HP1
    simp only [putN, dstAt]
    go_simp
    go_wp2_with fail
    refine wp_region_ext mixed 11 (fun i v w' => match i with
      | 0 => v = tgV key
      | 1 => v = .string (txt nb)
      | 2 => v = .string (txt cb)
      | 3 => v = .string (txt mk)
      | 4 => ∃ A c, v = .slice A 32 c ∧ kU8.Row (fun _ => True) w' A 32 c mk
      | 5 => v = .string (txt s)
      | 6 => v = .int .i64 (E : Int)
      | 7 => v = .string (txt tb)
      | 8 => ∃ A c, v = .slice A 32 c ∧ kU8.Row (fun _ => True) w' A 32 c tb
      | 9 => v = .bool bq
      | _ => v = .bool (!bq)
      ) (regOk_of (by kernel_rfl)) rfl ?_ ?_ ?_
    · intro i v w1 w2 h1 h2
      split at h2 <;> first | exact h2 | (obtain ⟨A, c, e, hr⟩ := h2; exact ⟨A, c, e, hr.below h1⟩)
    · refine ⟨fun a w2 hle hd hf hs K hK => ?_, fun a w2 hle hd hf hs K hK => ?_, fun a w2 hle hd hf hs K hK => ?_, fun a w2 hle hd hf hs K hK => ?_, fun a w2 hle hd hf hs K hK => ?_, fun a w2 hle hd hf hs K hK => ?_, fun a w2 hle hd hf hs K hK => ?_, fun a w2 hle hd hf hs K hK => ?_, fun a w2 hle hd hf hs K hK => ?_, fun a w2 hle hd hf hs K hK => ?_, fun a w2 hle hd hf hs K hK => ?_, trivial⟩
      all_goals clear hd
      · -- 20 := Op.load 29 t2
        have e2 := hf 2 rfl; simp [Act.eval] at e2
        have hq : agg? w2 ⟨w.heap.size, 0, none⟩ 32 = some (tgC key) := (agg_of_row (hle.heap HK2.out) 0 32 (by decide)).trans (tgC_part key)
        go_simp; exact hK _ _ (Ext.refl _) rfl
      · -- 21 := Op.move t7
        have e7 := hf 7 rfl; simp [Act.eval] at e7
        go_simp; exact hK _ _ (Ext.refl _) rfl
      · -- 22 := Op.move t8
        have e8 := hf 8 rfl; simp [Act.eval] at e8
        go_simp; exact hK _ _ (Ext.refl _) rfl
      · -- 23 := Op.call { value (Operand.func 79), args := #[t20, t21, t22], argTypes := #[29, 9, 9] }
        have e20 := hs 0 20 (needs_direct (by kernel_rfl)) rfl; have e21 := hs 1 21 (needs_direct (by kernel_rfl)) rfl; have e22 := hs 2 22 (needs_direct (by kernel_rfl)) rfl; simp [Act.eval] at e20 e21 e22
        go_simp
        refine (c_smark key nb cb w2 HLN.out HLC.out (HP2.out.ext hle)).mono ?_
        rintro z w9 ⟨rfl, b9⟩
        rw [HMK.out]
        exact hK _ _ b9 rfl
      · -- 24 := Op.convert 9 22 t23
        have e23 := hs 3 23 (needs_direct (by kernel_rfl)) rfl; simp [Act.eval] at e23
        have f23 := hs 3 23 (needs_direct (by kernel_rfl)) rfl
        refine wp_tobytes 9 22 _ rfl (txt mk) f23 Tryd.underlying9 Tryd.underlying22 Tryd.underlying5 (by rw [hzm]; decide) ?_
        intro c w' h1 h2
        rw [byt_txt, hzm] at h1
        rw [hzm]
        exact hK _ _ h2 ⟨_, c, rfl, h1.more fun _ _ => trivial⟩
      · -- 25 := Op.move t1
        have e1 := hf 1 rfl; simp [Act.eval] at e1
        go_simp; exact hK _ _ (Ext.refl _) rfl
      · -- 26 := Op.move t6
        have e6 := hf 6 rfl; simp [Act.eval] at e6
        go_simp; exact hK _ _ (Ext.refl _) rfl
      · -- 27 := Op.slice 9 t25 (some t26) none none
        have e25 := hs 5 25 (needs_direct (by kernel_rfl)) rfl; have e26 := hs 6 26 (needs_direct (by kernel_rfl)) rfl; simp [Act.eval] at e25 e26
        go_simp
        exact hK _ _ (Ext.refl _) (ext_is HTB.out rfl rfl)
      · -- 28 := Op.convert 9 22 t27
        have e27 := hs 7 27 (needs_direct (by kernel_rfl)) rfl; simp [Act.eval] at e27
        have f27 := hs 7 27 (needs_direct (by kernel_rfl)) rfl
        refine wp_tobytes 9 22 _ rfl (txt tb) f27 Tryd.underlying9 Tryd.underlying22 Tryd.underlying5 (by rw [hzt]; decide) ?_
        intro c w' h1 h2
        rw [byt_txt, hzt] at h1
        rw [hzt]
        exact hK _ _ h2 ⟨_, c, rfl, h1.more fun _ _ => trivial⟩
      · -- 29 := Op.call { value (Operand.func 78), args := #[t24, t28], argTypes := #[22, 22] }
        obtain ⟨A24, c24, e24, hr24⟩ := hs 4 24 (needs_direct (by kernel_rfl)) rfl; obtain ⟨A28, c28, e28, hr28⟩ := hs 8 28 (needs_direct (by kernel_rfl)) rfl; simp [Act.eval] at e24 e28
        go_simp
        refine (c_tagequal _ _ 32 c24 32 c28 mk tb _ _ w2 hr24 hr28).mono ?_
        rintro z w9 ⟨rfl, b9⟩
        rw [HBQ.out]
        exact hK _ _ b9 rfl
      · -- 30 := Op.unOp UnOp.not 4 t29
        have e29 := hs 9 29 (needs_direct (by kernel_rfl)) rfl; simp [Act.eval] at e29
        go_simp; exact hK _ _ (Ext.refl _) rfl
    intro vs w8 hle hs
    have v10 := hs 10 (by omega) rfl
    simp only at v10
    clear hs
    have HB3 := hide (HB2.out.trans (hle.mono HB2.out.size))
    have HK3 := hide (hle.heap HK2.out)
    have HP3 := hide (HP2.out.ext hle)
    obtain ⟨W3, hW3⟩ : ∃ W3, W3 = w8 := ⟨_, rfl⟩
    rw [← hW3] at HB3 HK3 HP3 ⊢
    clear hW3 hle HB2 HK2 HP2
    simp only [putN, dstAt]
    go_simp
    cases bq with
    | false =>
      go_wp2_with fail
      exact bodyPost_ret (v := openV none) (by simp [results, Tryd.results34, go_sem, openV]) rfl ⟨by rw [HOB.out]; rfl, HB3.out⟩
    | true =>
      go_wp2_with fail
      refine wp_region_ext mixed 9 (fun i v w' => match i with
        | 0 => v = tgV key
        | 1 => v = .string (txt nb)
        | 2 => ∃ A c, v = .slice A 32 c ∧ kU8.Row (fun _ => True) w' A 32 c nb
        | 3 => ∃ A c, v = .pointer A ∧ kU8.Row (fun _ => True) w' A 32 c nb
        | 4 => v = tgV tn
        | 5 => v = .string (txt cb)
        | 6 => v = .string (txt pl)
        | 7 => v = .string (txt pl)
        | _ => v = .bool true
        ) (regOk_of (by kernel_rfl)) rfl ?_ ?_ ?_
      · intro i v w1 w2 h1 h2
        split at h2 <;> first | exact h2 | (obtain ⟨A, c, e, hr⟩ := h2; exact ⟨A, c, e, hr.below h1⟩)
      · refine ⟨fun a w2 hle hd hf hs K hK => ?_, fun a w2 hle hd hf hs K hK => ?_, fun a w2 hle hd hf hs K hK => ?_, fun a w2 hle hd hf hs K hK => ?_, fun a w2 hle hd hf hs K hK => ?_, fun a w2 hle hd hf hs K hK => ?_, fun a w2 hle hd hf hs K hK => ?_, fun a w2 hle hd hf hs K hK => ?_, fun a w2 hle hd hf hs K hK => ?_, trivial⟩
        all_goals clear hd
        · -- 31 := Op.load 29 t2
          have e2 := hf 2 rfl; simp [Act.eval] at e2
          have hq : agg? w2 ⟨w.heap.size, 0, none⟩ 32 = some (tgC key) := (agg_of_row (hle.heap HK3.out) 0 32 (by decide)).trans (tgC_part key)
          go_simp; exact hK _ _ (Ext.refl _) rfl
        · -- 32 := Op.move t7
          have e7 := hf 7 rfl; simp [Act.eval] at e7
          go_simp; exact hK _ _ (Ext.refl _) rfl
        · -- 33 := Op.convert 9 22 t32
          have e32 := hs 1 32 (needs_direct (by kernel_rfl)) rfl; simp [Act.eval] at e32
          have f32 := hs 1 32 (needs_direct (by kernel_rfl)) rfl
          refine wp_tobytes 9 22 _ rfl (txt nb) f32 Tryd.underlying9 Tryd.underlying22 Tryd.underlying5 (by rw [hzn]; decide) ?_
          intro c w' h1 h2
          rw [byt_txt, hzn] at h1
          rw [hzn]
          exact hK _ _ h2 ⟨_, c, rfl, h1.more fun _ _ => trivial⟩
        · -- 34 := Op.sliceToArrayPointer 29 t33
          obtain ⟨A33, c33, e33, hr33⟩ := hs 2 33 (needs_direct (by kernel_rfl)) rfl; simp [Act.eval] at e33
          obtain ⟨p, o, rfl, -, hb, hc⟩ := row_bytes hr33 (by decide)
          have hap : ∀ wx : World, (Instr.arrayAt 29 (.slice (some ⟨p, o, none⟩) 32 c33)).run Tryd.prog wx = .ok (.pointer (some ⟨p, o, none⟩)) wx := fun wx => by simp [Instr.arrayAt, run_underlying Tryd.underlying29]
          go_simp
          exact hK _ _ (Ext.refl _) ⟨_, c33, rfl, hr33⟩
        · -- 35 := Op.load 29 t34
          obtain ⟨A34, c34, e34, hr34⟩ := hs 3 34 (needs_direct (by kernel_rfl)) rfl; simp [Act.eval] at e34
          obtain ⟨p, o, rfl, -, hb, hc⟩ := row_bytes hr34 (by decide)
          have hag : agg? w2 ⟨p, o, none⟩ 32 = some (tgC tn) := by
            have := agg_range (w := w2) (b := p) (o := o) (cs := nb.map bv) (fun j v hv => by
              rw [List.getElem?_map] at hv
              obtain ⟨x, hx, rfl⟩ := Option.map_eq_some_iff.1 hv
              exact hc j x hx) 32 (by rw [List.length_map]; exact HL32.out)
            rw [this, HTN.out]
          go_simp
          exact hK _ _ (Ext.refl _) rfl
        · -- 36 := Op.move t8
          have e8 := hf 8 rfl; simp [Act.eval] at e8
          go_simp; exact hK _ _ (Ext.refl _) rfl
        · -- 37 := Op.call { value (Operand.func 80), args := #[t31, t35, t36], argTypes := #[29, 29, 9] }
          have e31 := hs 0 31 (needs_direct (by kernel_rfl)) rfl; have e35 := hs 4 35 (needs_direct (by kernel_rfl)) rfl; have e36 := hs 5 36 (needs_direct (by kernel_rfl)) rfl; simp [Act.eval] at e31 e35 e36
          go_simp
          refine (c_sturned key tn cb w2 HLC.out (HP3.out.ext hle)).mono ?_
          rintro z w9 ⟨rfl, b9⟩
          rw [HPL.out]
          exact hK _ _ b9 rfl
        · -- 4 := Op.assign t37
          have e37 := hs 6 37 (needs_direct (by kernel_rfl)) rfl; simp [Act.eval] at e37
          go_simp; exact hK _ _ (Ext.refl _) rfl
        · -- 5 := Op.assign (const (Value.bool true))
          go_simp; exact hK _ _ (Ext.refl _) rfl
      intro vs w8 hle hs
      have v7 := hs 7 (by omega) rfl
      have v8 := hs 8 (by omega) rfl
      simp only at v7 v8
      clear hs
      have HB4 := hide (HB3.out.trans (hle.mono HB3.out.size))
      clear hle
      simp only [putN, dstAt]
      go_simp
      go_wp2_with fail
      exact bodyPost_ret (v := openV (some pl)) (by simp [results, Tryd.results34, go_sem, openV]) rfl ⟨by rw [HOB.out]; rfl, HB4.out⟩
end Go.Proofs.YtdkeflhgengblaaDoor
namespace Go.Proofs.YtdkeflhgengblaaDoor
open Go.RowKit
attribute [local go_sem ↓] ld8 ld32 ld64 ld73
attribute [local go_sem] run_ldAgg run_storeAgg agg_alloc_at agg_alloc_past agg_drew agg_setCell row_alloc_at row_alloc_past row_drew setRow_alloc_at setRow_alloc_past setRow_drew agg_setRow_at agg_setRow_far cell_setRow_at cell_setRow_far row_setRow_far size_setRow s8C_size s8C_part s8C_one s8C_splice0 s8C_ne dgC_size dgC_72 dgC_part dgC_h dgC_r dgC_splice_h dgC_set dgC_one dgC_splice0 dgC_ne zero_dg
attribute [local go_sem] tgC_size tgC_one tgC_part tgC_splice tgC_splice_any zero_tg tgC_ne

set_option maxRecDepth 100000 in
set_option maxHeartbeats 800000 in
theorem c_rseal (key nonce : Tg) (s : List UInt8) (w : World) (hn : s.length < 1048576) :
    Calls Tryd.prog 37 #[tgV key, tgV nonce, .string (txt s)] w fun e w' => e = .returned (.string (txt (sealB key nonce s))) ∧ Below w.heap.size w w' := by
  obtain ⟨W1, hW1⟩ : ∃ W1, W1 = (w.alloc (.cells (tgC key) 29)).alloc (.cells (tgC nonce) 29) := ⟨_, rfl⟩
  have HB1 : Hid (Below w.heap.size w W1) := hide (by rw [hW1]; exact below2 _ _ _)
  have hs1 : W1.heap.size = w.heap.size + 2 := by rw [hW1]; simp only [World.size_alloc]
  have HK1 : Hid (W1.heap[w.heap.size]? = some (.cells (tgC key) 29)) := hide (by
    rw [hW1, Below.heap_alloc _ _ _ (by simp only [World.size_alloc]; omega)]; exact heap_alloc_new _ _)
  have HN1 : Hid (W1.heap[w.heap.size + 1]? = some (.cells (tgC nonce) 29)) := hide (by
    rw [hW1]
    have := heap_alloc_new (w.alloc (.cells (tgC key) 29)) (.cells (tgC nonce) 29)
    rwa [World.size_alloc] at this)
  have HNR1 := hide (tag_row nonce HN1.out)
  obtain ⟨sc, hsc⟩ : ∃ sc, sc = turnd key nonce s := ⟨_, rfl⟩
  have HSC : Hid (turnd key nonce s = sc) := hide hsc.symm
  have hlc : sc.length < 1048576 := by rw [hsc, turnd_len]; exact hn
  have HLC := hide hlc
  obtain ⟨t, htt⟩ : ∃ t, t = markT key nonce.l sc := ⟨_, rfl⟩
  have HT : Hid (dkey key uSeal [txt nonce.l, txt sc] = t) := hide (by rw [htt]; rfl)
  have HSB : Hid (sealB key nonce s = nonce.l ++ sc ++ t.l) := hide (by rw [htt, hsc]; rfl)
  have HSZ := hide (two_sizes (a := nonce.l) (c := sc) (by rw [nonce.len]; decide) hlc)
  have HFL := hide (mark_len (a := nonce.l) (c := sc) (by rw [nonce.len]; decide) hlc)
  have HSL := hide hn
  clear hsc htt hlc hn
  go_enter Tryd.func37, Tryd.ntmps37
  go_wp2_with fail
  rw [← hW1]
  clear hW1
  have hag1 : agg? W1 ⟨w.heap.size, 0, none⟩ 32 = some (tgC key) := (agg_of_row HK1.out 0 32 (by decide)).trans (tgC_part key)
  have hag2 : agg? W1 ⟨w.heap.size + 1, 0, none⟩ 32 = some (tgC nonce) := (agg_of_row HN1.out 0 32 (by decide)).trans (tgC_part nonce)
  go_wp2_with fail
  refine (c_rsturned key nonce s W1 HSL.out).mono ?_
  rintro e w5 ⟨rfl, b5⟩
  rw [HSC.out]
  have HK5 := hide ((b5.block _ (by omega)).trans HK1.out)
  have HNR := hide (HNR1.out.below b5)
  have HB5 := hide (HB1.out.trans (b5.mono (by omega)))
  clear b5 hag1 hag2 HK1 HN1 HNR1 HB1
  go_wp2_with fail
  refine wp_region_ext mixed 7 (fun i v w' => match i with
    | 0 => v = tgV key
    | 1 => v = .slice (some ⟨w.heap.size + 1, 0, none⟩) 32 32
    | 2 => v = .string (txt nonce.l)
    | 3 => v = .string (txt sc)
    | 4 => ∃ A c, v = .slice A 2 c ∧ kStr.Row (fun _ => True) w' A 2 c [txt nonce.l, txt sc]
    | 5 => v = tgV t
    | _ => ∃ g, v = .pointer (some ⟨g, 0, none⟩) ∧ w5.heap.size ≤ g ∧ w'.heap[g]? = some (.cells (tgC Tg.zero) 29)
    ) (regOk_of (by kernel_rfl)) rfl ?_ ?_ ?_
  · intro i v w1 w2 h1 h2
    split at h2 <;> first | exact h2 | (obtain ⟨g, rfl, hg⟩ := h2; exact ⟨g, rfl, h1.heap hg⟩) | (obtain ⟨g, rfl, hgl, hg⟩ := h2; exact ⟨g, rfl, hgl, h1.heap hg⟩) | (obtain ⟨A, c, e, hr⟩ := h2; exact ⟨A, c, e, hr.below h1⟩)
  · refine ⟨fun a w2 hle hd hf hs K hK => ?_, fun a w2 hle hd hf hs K hK => ?_, fun a w2 hle hd hf hs K hK => ?_, fun a w2 hle hd hf hs K hK => ?_, fun a w2 hle hd hf hs K hK => ?_, fun a w2 hle hd hf hs K hK => ?_, fun a w2 hle hd hf hs K hK => ?_, trivial⟩
    all_goals clear hd
    · -- 13 := Op.load 29 t3
      have e3 := hf 3 rfl; simp [Act.eval] at e3
      have hq : agg? w2 ⟨w.heap.size, 0, none⟩ 32 = some (tgC key) := (agg_of_row (hle.heap HK5.out) 0 32 (by decide)).trans (tgC_part key)
      go_simp; exact hK _ _ (Ext.refl _) rfl
    · -- 14 := Op.slice 29 t4 none none none
      have e4 := hf 4 rfl; simp [Act.eval] at e4
      go_simp; exact hK _ _ (Ext.refl _) rfl
    · -- 15 := Op.convert 22 9 t14
      have e14 := hs 1 14 (needs_direct (by kernel_rfl)) rfl; simp [Act.eval] at e14
      have hq := row_string (P := Tryd.prog) Tryd.underlying22 Tryd.underlying5 Tryd.underlying9 (HNR.out.below hle)
      go_simp; exact hK _ _ (Ext.refl _) rfl
    · -- 16 := Op.move t7
      have e7 := hf 7 rfl; simp [Act.eval] at e7
      go_simp; exact hK _ _ (Ext.refl _) rfl
    · -- 17 := Op.buildSlice 34 2 #[(0, t15), (1, t16)]
      have e15 := hs 2 15 (needs_direct (by kernel_rfl)) rfl; have e16 := hs 3 16 (needs_direct (by kernel_rfl)) rfl; simp [Act.eval] at e15 e16
      go_simp
      exact hK _ _ (Ext.alloc _ _) ⟨_, _, rfl, strs_row [txt nonce.l, txt sc] (heap_alloc_new _ _) rfl HSZ.out (by simp [maxLen])⟩
    · -- 18 := Op.call { value (Operand.func 23), args := #[t13, const (Value.string { data := #[115, 101, 97, 108] }), t17], argTypes := #[29, 9, 34] }
      have e13 := hs 0 13 (needs_direct (by kernel_rfl)) rfl; obtain ⟨A17, c17, e17, hr17⟩ := hs 4 17 (needs_direct (by kernel_rfl)) rfl; simp [Act.eval] at e13 e17
      go_simp
      refine (c_rkey key uSeal A17 2 c17 [txt nonce.l, txt sc] _ w2 hr17 (by decide) HFL.out).mono ?_
      rintro z w9 ⟨rfl, b9⟩
      rw [HT.out]
      exact hK _ _ b9 rfl
    · -- 8 := Op.alloc 29
      go_simp
      exact hK _ _ (Ext.alloc _ _) ⟨_, rfl, by have := hle.size; omega, heap_alloc_new _ _⟩
  intro vs w8 hle hs
  have v5 := hs 5 (by omega) rfl
  have v6 := hs 6 (by omega) rfl
  simp only at v5 v6
  clear hs
  obtain ⟨g, e6, hgl, hg⟩ := v6
  obtain ⟨W9, hW9⟩ : ∃ W9, W9 = w8.setRow g (tgC t) := ⟨_, rfl⟩
  have hrz := row_of hg
  have hb9 : Below w5.heap.size w5 W9 := by rw [hW9]; exact bsetRow hle hgl _
  have HG9 : W9.heap[g]? = some (.cells (tgC t) 29) := by rw [hW9]; exact setRow_heap w8 g (tgC Tg.zero) (tgC t) 29 _ hg
  have HTR9 := hide (tag_row t HG9)
  have HNR9 := hide (HNR.out.below hb9)
  have HB9 := hide (HB5.out.trans (hb9.mono HB5.out.size))
  have hz1 : (txt nonce.l).size = 32 := by rw [txt_size, nonce.len]
  have hz2 : (txt sc).size < 1048576 := by rw [txt_size]; exact HLC.out
  have hz3 : (txt t.l).size = 32 := by rw [txt_size, t.len]
  have hlc3 : ¬ 9223372036854775807 < 32 + sc.length := by have := HLC.out; omega
  have hlc4 : ¬ 9223372036854775807 < 32 + sc.length + 32 := by have := HLC.out; omega
  have hz4 : (txt nonce.l ++ txt sc).size < 2097152 := by rw [txt_add, txt_size, List.length_append, nonce.len]; have := HLC.out; omega
  clear hg hgl hle hb9 HG9 HK5 HB5 HNR
  simp only [putN, dstAt]
  go_simp
  go_wp2_with fail
  rw [← hW9]
  clear hW9
  refine wp_region_ext mixed 7 (fun i v w' => match i with
    | 0 => v = .slice (some ⟨w.heap.size + 1, 0, none⟩) 32 32
    | 1 => v = .string (txt nonce.l)
    | 2 => v = .string (txt sc)
    | 3 => v = .string (txt nonce.l ++ txt sc)
    | 4 => v = .slice (some ⟨g, 0, none⟩) 32 32
    | 5 => v = .string (txt t.l)
    | _ => v = .string (txt nonce.l ++ txt sc ++ txt t.l)
    ) (regOk_of (by kernel_rfl)) rfl ?_ ?_ ?_
  · intro i v w1 w2 h1 h2
    split at h2 <;> exact h2
  · refine ⟨fun a w2 hle hd hf hs K hK => ?_, fun a w2 hle hd hf hs K hK => ?_, fun a w2 hle hd hf hs K hK => ?_, fun a w2 hle hd hf hs K hK => ?_, fun a w2 hle hd hf hs K hK => ?_, fun a w2 hle hd hf hs K hK => ?_, fun a w2 hle hd hf hs K hK => ?_, trivial⟩
    all_goals clear hd
    · -- 19 := Op.slice 29 t4 none none none
      have e4 := hf 4 rfl; simp [Act.eval] at e4
      go_simp; exact hK _ _ (Ext.refl _) rfl
    · -- 20 := Op.convert 22 9 t19
      have e19 := hs 0 19 (needs_direct (by kernel_rfl)) rfl; simp [Act.eval] at e19
      have hq := row_string (P := Tryd.prog) Tryd.underlying22 Tryd.underlying5 Tryd.underlying9 (HNR9.out.below hle)
      go_simp; exact hK _ _ (Ext.refl _) rfl
    · -- 21 := Op.move t7
      have e7 := hf 7 rfl; simp [Act.eval] at e7
      go_simp; exact hK _ _ (Ext.refl _) rfl
    · -- 22 := Op.binOp BinOp.add 9 t20 t21 9
      have e20 := hs 1 20 (needs_direct (by kernel_rfl)) rfl; have e21 := hs 2 21 (needs_direct (by kernel_rfl)) rfl; simp [Act.eval] at e20 e21
      go_simp; exact hK _ _ (Ext.refl _) rfl
    · -- 23 := Op.slice 29 t8 none none none
      have e8 := hf 8 rfl; simp [Act.eval] at e8
      go_simp; exact hK _ _ (Ext.refl _) rfl
    · -- 24 := Op.convert 22 9 t23
      have e23 := hs 4 23 (needs_direct (by kernel_rfl)) rfl; simp [Act.eval] at e23
      have hq := row_string (P := Tryd.prog) Tryd.underlying22 Tryd.underlying5 Tryd.underlying9 (HTR9.out.below hle)
      go_simp; exact hK _ _ (Ext.refl _) rfl
    · -- 25 := Op.binOp BinOp.add 9 t22 t24 9
      have e22 := hs 3 22 (needs_direct (by kernel_rfl)) rfl; have e24 := hs 5 24 (needs_direct (by kernel_rfl)) rfl; simp [Act.eval] at e22 e24
      go_simp; exact hK _ _ (Ext.refl _) rfl
  intro vs w8 hle hs
  have v6 := hs 6 (by omega) rfl
  simp only at v6
  clear hs
  have HBE := hide (HB9.out.trans (hle.mono HB9.out.size))
  clear hle
  simp only [putN, dstAt]
  go_simp
  go_wp2_with fail
  go_ret
  refine ⟨?_, HBE.out⟩
  rw [HSB.out, ← txt_add, ← txt_add]
  rfl
set_option maxRecDepth 100000 in
set_option maxHeartbeats 800000 in
theorem c_ropen (key : Tg) (s : List UInt8) (w : World) (hn : s.length < 1048576) :
    Calls Tryd.prog 35 #[tgV key, .string (txt s)] w fun e w' => e = .returned (openV (openB key s)) ∧ Below w.heap.size w w' := by
  obtain ⟨m, hmm⟩ : ∃ m, m = s.length := ⟨_, rfl⟩
  have hsz : (txt s).size = m := by rw [txt_size, hmm]
  obtain ⟨W1, hW1⟩ : ∃ W1, W1 = w.alloc (.cells (tgC key) 29) := ⟨_, rfl⟩
  have HB1 : Hid (Below w.heap.size w W1) := hide (by rw [hW1]; exact below1 _ _)
  have HK1 : Hid (W1.heap[w.heap.size]? = some (.cells (tgC key) 29)) := hide (by rw [hW1]; exact heap_alloc_new _ _)
  have hs1 : W1.heap.size = w.heap.size + 1 := by rw [hW1]; simp only [World.size_alloc]
  rw [← hmm] at hn
  by_cases h64 : m < 64
  · have HOB : Hid (openB key s = none) := hide (by rw [openB, if_pos (by omega)])
    clear hmm
    go_enter Tryd.func35, Tryd.ntmps35
    go_wp2_with fail
    rw [← hW1]
    exact bodyPost_ret (v := openV none) (by simp [results, Tryd.results35, go_sem, openV]) rfl ⟨by rw [HOB.out], HB1.out⟩
  · obtain ⟨E, hE⟩ : ∃ E, m = E + 32 := ⟨m - 32, by omega⟩
    subst hE
    obtain ⟨nb, hnb⟩ : ∃ nb, (s.drop 0).take (32 - 0) = nb := ⟨_, rfl⟩
    obtain ⟨cb, hcb⟩ : ∃ cb, (s.drop 32).take (E - 32) = cb := ⟨_, rfl⟩
    obtain ⟨tb, htb⟩ : ∃ tb, (s.drop E).take (E + 32 - E) = tb := ⟨_, rfl⟩
    obtain ⟨l1, l2, l3, hob⟩ := openB_parts (key := key) hmm.symm (by omega) hnb hcb htb
    obtain ⟨tn, htn⟩ : ∃ tn, tagL nb = tn := ⟨_, rfl⟩
    obtain ⟨pl, hpl⟩ : ∃ pl, turnd key tn cb = pl := ⟨_, rfl⟩
    obtain ⟨X, hX⟩ : ∃ X, sealB key tn pl = X := ⟨_, rfl⟩
    have hzn : (txt nb).size = 32 := by rw [txt_size, l1]
    have htl : tn.l = nb := by rw [← htn, tagL_l l1]
    have hbq : X = s ↔ (markT key nb cb).l = tb := by
      have := open_seal (key := key) (s := s) (by omega)
      have e1 : s.take 32 = nb := hnb
      have e2 : (s.drop 32).take (s.length - 64) = cb := by rw [← hcb, ← hmm]; congr 1 <;> omega
      have e3 : s.drop (s.length - 32) = tb := by
        rw [← htb, List.take_of_length_le (by rw [List.length_drop]; omega), ← hmm, Nat.add_sub_cancel]
      rw [e1, e2, e3, htn, hpl, hX] at this
      exact this
    rw [htn, hpl] at hob
    have hE1 : (32 : Int) ≤ (E : Int) + 32 := by omega
    have hE2 : (32 : Int) ≤ (E : Int) := by omega
    have hE3 : (E : Int) ≤ (E : Int) + 32 := by omega
    have HNB := hide hnb
    have HCB := hide hcb
    have HPL := hide hpl
    have HXX := hide hX
    have HL32 := hide l1
    have HTL := hide htl
    have HLC : Hid (cb.length < 1048576) := hide (by omega)
    have HLP : Hid (pl.length < 1048576) := hide (by rw [← hpl, turnd_len]; omega)
    have HOB : Hid (openB key s = if X = s then some pl else none) := hide (by rw [hob]; by_cases h : X = s; rw [if_pos h, if_pos (hbq.1 h)]; rw [if_neg h, if_neg (fun e => h (hbq.2 e))])
    have hn63 : (txt nb).size ≤ 9223372036854775807 := by rw [hzn]; decide
    clear hmm hnb hcb htb htn hpl hX l1 l2 l3 hob htl hbq
    go_enter Tryd.func35, Tryd.ntmps35
    go_wp2_with ((with_reducible show wpList _ _ _ (Oper.mk (some 13) _ _ _ _ _ :: _) _ _); rw [← hW1]; go_loud (refine at_tobytes (P := Tryd.prog) 9 22 (txt nb) (ext_is HNB.out rfl rfl) Tryd.underlying9 Tryd.underlying22 Tryd.underlying5 hn63 (w.heap.size + 1) hs1 ?_))
    clear hW1
    intro c13 w13 h13 b13 _
    rw [byt_txt, hzn, ← HTL.out] at h13
    rw [hzn]
    have HR13 := hide h13
    have HB13 : Hid (Below W1.heap.size W1 w13) := hide (by rw [hs1]; exact b13)
    clear h13 b13
    go_wp2_with fail
    refine (c_rtag tn _ c13 _ w13 HR13.out).mono ?_
    rintro e w14 ⟨rfl, b14⟩
    obtain ⟨G, hG⟩ : ∃ G, G = w14.heap.size := ⟨_, rfl⟩
    obtain ⟨W6, hW6⟩ : ∃ W6, W6 = w14.alloc (.cells (tgC tn) 29) := ⟨_, rfl⟩
    have b16 : Below W1.heap.size W1 W6 := by rw [hW6]; exact (HB13.out.trans (b14.mono HB13.out.size)).alloc (Nat.le_trans HB13.out.size b14.size) _
    have HB6 := hide (HB1.out.trans (b16.mono HB1.out.size))
    have HK6 := hide ((b16.block _ (by omega)).trans HK1.out)
    have HG6 : Hid (W6.heap[G]? = some (.cells (tgC tn) 29)) := hide (by rw [hW6, hG]; exact heap_alloc_new _ _)
    clear b14 b16
    go_wp2_with fail
    rw [← hW6, ← hG]
    clear hW6 hG HB1 HK1 HB13 HR13
    refine wp_region_ext mixed 9 (fun i v w' => match i with
      | 0 => v = tgV key
      | 1 => v = tgV tn
      | 2 => v = .string (txt s)
      | 3 => v = .string (txt s)
      | 4 => v = .int .i64 ((E + 32 : Nat) : Int)
      | 5 => v = .int .i64 (E : Int)
      | 6 => v = .string (txt cb)
      | 7 => v = .string (txt pl)
      | _ => v = .string (txt pl)
      ) (regOk_of (by kernel_rfl)) rfl ?_ ?_ ?_
    · intro i v w1 w2 h1 h2
      split at h2 <;> exact h2
    · refine ⟨fun a w2 hle hd hf hs K hK => ?_, fun a w2 hle hd hf hs K hK => ?_, fun a w2 hle hd hf hs K hK => ?_, fun a w2 hle hd hf hs K hK => ?_, fun a w2 hle hd hf hs K hK => ?_, fun a w2 hle hd hf hs K hK => ?_, fun a w2 hle hd hf hs K hK => ?_, fun a w2 hle hd hf hs K hK => ?_, fun a w2 hle hd hf hs K hK => ?_, trivial⟩
      all_goals clear hd
      · -- 15 := Op.load 29 t2
        have e2 := hf 2 rfl; simp [Act.eval] at e2
        have hq : agg? w2 ⟨w.heap.size, 0, none⟩ 32 = some (tgC key) := (agg_of_row (hle.heap HK6.out) 0 32 (by decide)).trans (tgC_part key)
        go_simp; exact hK _ _ (Ext.refl _) rfl
      · -- 16 := Op.load 29 t6
        have e6 := hf 6 rfl; simp [Act.eval] at e6
        have hq : agg? w2 ⟨G, 0, none⟩ 32 = some (tgC tn) := (agg_of_row (hle.heap HG6.out) 0 32 (by decide)).trans (tgC_part tn)
        go_simp; exact hK _ _ (Ext.refl _) rfl
      · -- 17 := Op.move t1
        have e1 := hf 1 rfl; simp [Act.eval] at e1
        go_simp; exact hK _ _ (Ext.refl _) rfl
      · -- 18 := Op.move t1
        have e1 := hf 1 rfl; simp [Act.eval] at e1
        go_simp; exact hK _ _ (Ext.refl _) rfl
      · -- 19 := Op.call { builtin len, args := #[t18], argTypes := #[9] }
        have e18 := hs 3 18 (needs_direct (by kernel_rfl)) rfl; simp [Act.eval] at e18
        go_simp
        exact hK _ _ (Ext.refl _) (by simp)
      · -- 20 := Op.binOp BinOp.sub 3 t19 (const (32:i64)) 3
        have e19 := hs 4 19 (needs_direct (by kernel_rfl)) rfl; simp [Act.eval] at e19
        go_simp
        exact hK _ _ (Ext.refl _) (by simp; exact wrap64s (by omega) (by omega))
      · -- 21 := Op.slice 9 t17 (some (const (32:i64))) (some t20) none
        have e17 := hs 2 17 (needs_direct (by kernel_rfl)) rfl; have e20 := hs 5 20 (needs_direct (by kernel_rfl)) rfl; simp [Act.eval] at e17 e20
        go_simp
        exact hK _ _ (Ext.refl _) (ext_is HCB.out rfl rfl)
      · -- 22 := Op.call { value (Operand.func 81), args := #[t15, t16, t21], argTypes := #[29, 29, 9] }
        have e15 := hs 0 15 (needs_direct (by kernel_rfl)) rfl; have e16 := hs 1 16 (needs_direct (by kernel_rfl)) rfl; have e21 := hs 6 21 (needs_direct (by kernel_rfl)) rfl; simp [Act.eval] at e15 e16 e21
        go_simp
        refine (c_rsturned key tn cb w2 HLC.out).mono ?_
        rintro z w9 ⟨rfl, b9⟩
        rw [HPL.out]
        exact hK _ _ b9 rfl
      · -- 7 := Op.assign t22
        have e22 := hs 7 22 (needs_direct (by kernel_rfl)) rfl; simp [Act.eval] at e22
        go_simp; exact hK _ _ (Ext.refl _) rfl
    intro vs w8 hle hs
    have v8 := hs 8 (by omega) rfl
    simp only at v8
    clear hs
    have HB8 := hide (HB6.out.trans (hle.mono HB6.out.size))
    have HK8 := hide (hle.heap HK6.out)
    have HG8 := hide (hle.heap HG6.out)
    have hag1 : agg? w8 ⟨w.heap.size, 0, none⟩ 32 = some (tgC key) := (agg_of_row HK8.out 0 32 (by decide)).trans (tgC_part key)
    have hag2 : agg? w8 ⟨G, 0, none⟩ 32 = some (tgC tn) := (agg_of_row HG8.out 0 32 (by decide)).trans (tgC_part tn)
    clear hle
    simp only [putN, dstAt]
    go_simp
    go_wp2_with fail
    refine (c_rseal key tn pl w8 HLP.out).mono ?_
    rintro e w9 ⟨rfl, b9⟩
    rw [HXX.out]
    have HB9 := hide (HB8.out.trans (b9.mono HB8.out.size))
    clear b9 hag1 hag2
    by_cases hq : X = s
    · have HOB2 : Hid (openB key s = some pl) := hide (by rw [HOB.out, if_pos hq])
      subst hq
      clear HOB
      go_wp2_with fail
      exact bodyPost_ret (v := openV (some pl)) (by simp [results, Tryd.results35, go_sem, openV]) rfl ⟨by rw [HOB2.out], HB9.out⟩
    · have HOB2 : Hid (openB key s = none) := hide (by rw [HOB.out, if_neg hq])
      have hq2 : (X == s) = false := by simp [hq]
      clear HOB hq
      go_wp2_with fail
      exact bodyPost_ret (v := openV none) (by simp [results, Tryd.results35, go_sem, openV]) rfl ⟨by rw [HOB2.out], HB9.out⟩
end Go.Proofs.YtdkeflhgengblaaDoor
namespace Go.Proofs.YtdkeflhgengblaaDoor
open Go.RowKit
attribute [local go_sem ↓] ld8 ld32 ld64 ld73
attribute [local go_sem] run_ldAgg run_storeAgg agg_alloc_at agg_alloc_past agg_drew agg_setCell row_alloc_at row_alloc_past row_drew setRow_alloc_at setRow_alloc_past setRow_drew agg_setRow_at agg_setRow_far cell_setRow_at cell_setRow_far row_setRow_far size_setRow s8C_size s8C_part s8C_one s8C_splice0 s8C_ne dgC_size dgC_72 dgC_part dgC_h dgC_r dgC_splice_h dgC_set dgC_one dgC_splice0 dgC_ne zero_dg
attribute [local go_sem] tgC_size tgC_one tgC_part tgC_splice tgC_splice_any zero_tg tgC_ne

def tgN (x : UInt8) : Tg := ⟨x :: List.replicate 31 0, by rw [List.length_cons, List.length_replicate]⟩
theorem tg1 : (#[.int .u8 1, .int .u8 0, .int .u8 0, .int .u8 0, .int .u8 0, .int .u8 0, .int .u8 0, .int .u8 0, .int .u8 0, .int .u8 0, .int .u8 0, .int .u8 0, .int .u8 0, .int .u8 0, .int .u8 0, .int .u8 0, .int .u8 0, .int .u8 0, .int .u8 0, .int .u8 0, .int .u8 0, .int .u8 0, .int .u8 0, .int .u8 0, .int .u8 0, .int .u8 0, .int .u8 0, .int .u8 0, .int .u8 0, .int .u8 0, .int .u8 0, .int .u8 0] : Array Value) = tgC (tgN 1) := rfl
theorem tg2 : (#[.int .u8 2, .int .u8 0, .int .u8 0, .int .u8 0, .int .u8 0, .int .u8 0, .int .u8 0, .int .u8 0, .int .u8 0, .int .u8 0, .int .u8 0, .int .u8 0, .int .u8 0, .int .u8 0, .int .u8 0, .int .u8 0, .int .u8 0, .int .u8 0, .int .u8 0, .int .u8 0, .int .u8 0, .int .u8 0, .int .u8 0, .int .u8 0, .int .u8 0, .int .u8 0, .int .u8 0, .int .u8 0, .int .u8 0, .int .u8 0, .int .u8 0, .int .u8 0] : Array Value) = tgC (tgN 2) := rfl
theorem tg3 : (#[.int .u8 3, .int .u8 0, .int .u8 0, .int .u8 0, .int .u8 0, .int .u8 0, .int .u8 0, .int .u8 0, .int .u8 0, .int .u8 0, .int .u8 0, .int .u8 0, .int .u8 0, .int .u8 0, .int .u8 0, .int .u8 0, .int .u8 0, .int .u8 0, .int .u8 0, .int .u8 0, .int .u8 0, .int .u8 0, .int .u8 0, .int .u8 0, .int .u8 0, .int .u8 0, .int .u8 0, .int .u8 0, .int .u8 0, .int .u8 0, .int .u8 0, .int .u8 0] : Array Value) = tgC (tgN 3) := rfl
attribute [local go_sem] tg1 tg2 tg3
def abc : List UInt8 := [97, 98, 99]
set_option maxRecDepth 100000 in
set_option maxHeartbeats 800000 in
theorem c_sealalive (w : World) (hP : PrimesAt w) : Calls Tryd.prog 33 #[] w fun e w' => e = .returned (.bool true) ∧ Below w.heap.size w w' := by
  have HP := hide hP
  have hw0 := hP.1
  obtain ⟨X, hX⟩ : ∃ X, sealB (tgN 1) (tgN 2) abc = X := ⟨_, rfl⟩
  have HXX := hide hX
  have hXs : (txt X).size = 67 := by rw [txt_size, ← hX, sealB_len]; rfl
  have HXL : Hid (X.length < 1048576) := hide (by rw [← hX, sealB_len]; decide)
  have HOB : Hid (openB (tgN 1) X = some abc) := hide (by rw [← hX, open_sealed])
  clear hP hX
  go_enter Tryd.func33, Tryd.ntmps33
  go_wp2_with fail
  refine (c_seal (tgN 1) (tgN 2) abc w (by decide) HP.out).mono ?_
  rintro e w1 ⟨rfl, b1⟩
  rw [HXX.out]
  have HB1 := hide b1
  clear b1
  go_wp2_with fail
  refine (c_open (tgN 1) X w1 HXL.out (HP.out.ext HB1.out)).mono ?_
  rintro e w2 ⟨rfl, b2⟩
  rw [HOB.out, show openV (some abc) = .tuple #[.string (txt abc), .bool true] from rfl]
  have HB2 := hide (HB1.out.trans (b2.mono HB1.out.size))
  clear b2
  go_wp2_with fail
  go_ret
  exact ⟨rfl, HB2.out⟩
set_option maxRecDepth 100000 in
set_option maxHeartbeats 1600000 in
theorem c_sealtells (key nonce : Tg) (s : List UInt8) (w : World) (hm : s.length ≤ maxLen) (hP : PrimesAt w) :
    Calls Tryd.prog 6 #[tgV key, tgV nonce, .string (txt s)] w fun e w' => e = .returned (.bool true) ∧ Below w.heap.size w w' := by
  have HP := hide hP
  have hw0 := hP.1
  obtain ⟨n, hnn⟩ : ∃ n, n = s.length := ⟨_, rfl⟩
  have hsz : (txt s).size = n := by rw [txt_size, hnn]
  obtain ⟨W1, hW1⟩ : ∃ W1, W1 = (w.alloc (.cells (tgC key) 29)).alloc (.cells (tgC nonce) 29) := ⟨_, rfl⟩
  have HB1 : Hid (Below w.heap.size w W1) := hide (by rw [hW1]; exact below2 _ _ _)
  have hs1 : W1.heap.size = w.heap.size + 2 := by rw [hW1]; simp only [World.size_alloc]
  have HK1 : Hid (W1.heap[w.heap.size]? = some (.cells (tgC key) 29)) := hide (by
    rw [hW1, Below.heap_alloc _ _ _ (by simp only [World.size_alloc]; omega)]; exact heap_alloc_new _ _)
  have HN1 : Hid (W1.heap[w.heap.size + 1]? = some (.cells (tgC nonce) 29)) := hide (by
    rw [hW1]
    have := heap_alloc_new (w.alloc (.cells (tgC key) 29)) (.cells (tgC nonce) 29)
    rwa [World.size_alloc] at this)
  have HP1 := hide (HP.out.ext HB1.out)
  have hn63 : n ≤ 9223372036854775807 := by rw [hnn]; exact hm
  have HNN := hide hnn
  clear hP hnn hm
  go_enter Tryd.func6, Tryd.ntmps6
  go_wp2_with fail
  rw [← hW1]
  clear hW1
  refine (c_sealalive W1 HP1.out).mono ?_
  rintro e w2 ⟨rfl, b2⟩
  have HB2 := hide (HB1.out.trans (b2.mono (by omega)))
  have HK2 := hide ((b2.block _ (by omega)).trans HK1.out)
  have HN2 := hide ((b2.block _ (by omega)).trans HN1.out)
  have HP2 := hide (HP1.out.ext b2)
  clear b2 HB1 HK1 HN1 HP1 HP
  by_cases h200 : 200 < n
  · go_wp2_with fail
    go_ret
    exact ⟨rfl, HB2.out⟩
  obtain ⟨o, ho⟩ : ∃ o, openB key s = o := ⟨_, rfl⟩
  have HO := hide ho
  obtain ⟨pq, hpq⟩ : ∃ pq, o.getD [] = pq := ⟨_, rfl⟩
  obtain ⟨kq, hkq⟩ : ∃ kq, o.isSome = kq := ⟨_, rfl⟩
  have HOV : Hid (openV o = .tuple #[.string (txt pq), .bool kq]) := hide (by rw [openV, hpq, hkq])
  obtain ⟨X, hX⟩ : ∃ X, sealB key nonce s = X := ⟨_, rfl⟩
  have HX := hide hX
  obtain ⟨st, hst⟩ : ∃ st, strm key nonce n = st := ⟨_, rfl⟩
  have HST := hide hst
  have HSL : Hid (st.length = n) := hide (by rw [← hst, strm_len])
  have HL : Hid (s.length < 1048576) := hide (by have := HNN.out; omega)
  have hn20 : n < 1048576 := by omega
  have hag2 : agg? w2 ⟨w.heap.size, 0, none⟩ 32 = some (tgC key) := (agg_of_row HK2.out 0 32 (by decide)).trans (tgC_part key)
  clear ho hpq hkq hX hst
  go_wp2_with fail
  refine (c_open key s w2 HL.out HP2.out).mono ?_
  rintro e w3 ⟨rfl, b3⟩
  have hw2 : w.heap.size + 2 ≤ w2.heap.size := by have := HB2.out.size; have h := (Array.getElem?_eq_some_iff.1 HN2.out).1; omega
  have HB3 := hide (HB2.out.trans (b3.mono (by omega)))
  have HK3 := hide ((b3.block _ (by omega)).trans HK2.out)
  have HN3 := hide ((b3.block _ (by omega)).trans HN2.out)
  have HP3 := hide (HP2.out.ext b3)
  have hw3 := Nat.le_trans hw2 b3.size
  rw [HO.out, HOV.out]
  clear b3 HB2 HK2 HN2 HP2 hag2 hw2
  have hag3 : agg? w3 ⟨w.heap.size, 0, none⟩ 32 = some (tgC key) := (agg_of_row HK3.out 0 32 (by decide)).trans (tgC_part key)
  go_wp2_with fail
  refine (c_ropen key s w3 HL.out).mono ?_
  rintro e w4 ⟨rfl, b4⟩
  have HB4 := hide (HB3.out.trans (b4.mono (by omega)))
  have HK4 := hide ((b4.block _ (by omega)).trans HK3.out)
  have HN4 := hide ((b4.block _ (by omega)).trans HN3.out)
  have HP4 := hide (HP3.out.ext b4)
  rw [HO.out, HOV.out]
  clear b4 HB3 HK3 HN3 HP3 hag3 hw3
  go_wp2_with fail
  refine wp_region_ext mixed 43 (fun i v w' => match i with
    | 0 => v = tgV key
    | 1 => v = tgV nonce
    | 2 => v = .string (txt s)
    | 3 => v = .string (txt X)
    | 4 => v = tgV key
    | 5 => v = tgV nonce
    | 6 => v = .string (txt s)
    | 7 => v = .string (txt X)
    | 8 => v = .bool true
    | 9 => v = .bool true
    | 10 => v = tgV key
    | 11 => v = tgV nonce
    | 12 => v = .string (txt s)
    | 13 => v = .int .i64 (n : Int)
    | 14 => ∃ A c, v = .slice A n c ∧ kU8.Row (fun _ => True) w' A n c st
    | 15 => v = .string (txt st)
    | 16 => v = tgV key
    | 17 => v = tgV nonce
    | 18 => v = .string (txt s)
    | 19 => v = .int .i64 (n : Int)
    | 20 => ∃ A c, v = .slice A n c ∧ kU8.Row (fun _ => True) w' A n c st
    | 21 => v = .string (txt st)
    | 22 => v = .bool true
    | 23 => v = .bool true
    | 24 => v = .bool true
    | 25 => v = tgV key
    | 26 => v = tgV nonce
    | 27 => ∃ A c, v = .slice A 0 c ∧ kU8.Row (fun _ => True) w' A 0 c []
    | 28 => v = .int .i64 0
    | 29 => v = .bool true
    | 30 => v = .bool true
    | 31 => v = .bool true
    | 32 => v = .string (txt pq)
    | 33 => v = .string (txt pq)
    | 34 => v = .bool true
    | 35 => v = .bool true
    | 36 => v = .bool true
    | 37 => v = .bool kq
    | 38 => v = .bool kq
    | 39 => v = .bool true
    | 40 => v = .bool true
    | 41 => v = .bool true
    | _ => v = .bool true
    ) (regOk_of (by kernel_rfl)) rfl ?_ ?_ ?_
  · intro i v w1 w2 h1 h2
    split at h2 <;> first | exact h2 | (obtain ⟨A, c, e, hr⟩ := h2; exact ⟨A, c, e, hr.below h1⟩)
  · refine ⟨fun a w2 hle hd hf hs K hK => ?_, fun a w2 hle hd hf hs K hK => ?_, fun a w2 hle hd hf hs K hK => ?_, fun a w2 hle hd hf hs K hK => ?_, fun a w2 hle hd hf hs K hK => ?_, fun a w2 hle hd hf hs K hK => ?_, fun a w2 hle hd hf hs K hK => ?_, fun a w2 hle hd hf hs K hK => ?_, fun a w2 hle hd hf hs K hK => ?_, fun a w2 hle hd hf hs K hK => ?_, fun a w2 hle hd hf hs K hK => ?_, fun a w2 hle hd hf hs K hK => ?_, fun a w2 hle hd hf hs K hK => ?_, fun a w2 hle hd hf hs K hK => ?_, fun a w2 hle hd hf hs K hK => ?_, fun a w2 hle hd hf hs K hK => ?_, fun a w2 hle hd hf hs K hK => ?_, fun a w2 hle hd hf hs K hK => ?_, fun a w2 hle hd hf hs K hK => ?_, fun a w2 hle hd hf hs K hK => ?_, fun a w2 hle hd hf hs K hK => ?_, fun a w2 hle hd hf hs K hK => ?_, fun a w2 hle hd hf hs K hK => ?_, fun a w2 hle hd hf hs K hK => ?_, fun a w2 hle hd hf hs K hK => ?_, fun a w2 hle hd hf hs K hK => ?_, fun a w2 hle hd hf hs K hK => ?_, fun a w2 hle hd hf hs K hK => ?_, fun a w2 hle hd hf hs K hK => ?_, fun a w2 hle hd hf hs K hK => ?_, fun a w2 hle hd hf hs K hK => ?_, fun a w2 hle hd hf hs K hK => ?_, fun a w2 hle hd hf hs K hK => ?_, fun a w2 hle hd hf hs K hK => ?_, fun a w2 hle hd hf hs K hK => ?_, fun a w2 hle hd hf hs K hK => ?_, fun a w2 hle hd hf hs K hK => ?_, fun a w2 hle hd hf hs K hK => ?_, fun a w2 hle hd hf hs K hK => ?_, fun a w2 hle hd hf hs K hK => ?_, fun a w2 hle hd hf hs K hK => ?_, fun a w2 hle hd hf hs K hK => ?_, fun a w2 hle hd hf hs K hK => ?_, trivial⟩
    all_goals clear hd
    · -- 28 := Op.load 29 t3
      have e3 := hf 3 rfl; simp [Act.eval] at e3
      have hq : agg? w2 ⟨w.heap.size, 0, none⟩ 32 = some (tgC key) := (agg_of_row (hle.heap HK4.out) 0 32 (by decide)).trans (tgC_part key)
      go_simp; exact hK _ _ (Ext.refl _) rfl
    · -- 29 := Op.load 29 t4
      have e4 := hf 4 rfl; simp [Act.eval] at e4
      have hq : agg? w2 ⟨w.heap.size + 1, 0, none⟩ 32 = some (tgC nonce) := (agg_of_row (hle.heap HN4.out) 0 32 (by decide)).trans (tgC_part nonce)
      go_simp; exact hK _ _ (Ext.refl _) rfl
    · -- 30 := Op.move t2
      have e2 := hf 2 rfl; simp [Act.eval] at e2
      go_simp; exact hK _ _ (Ext.refl _) rfl
    · -- 31 := Op.call { value (Operand.func 36), args := #[t28, t29, t30], argTypes := #[29, 29, 9] }
      have e28 := hs 0 28 (needs_direct (by kernel_rfl)) rfl; have e29 := hs 1 29 (needs_direct (by kernel_rfl)) rfl; have e30 := hs 2 30 (needs_direct (by kernel_rfl)) rfl; simp [Act.eval] at e28 e29 e30
      go_simp
      refine (c_seal key nonce s w2 HL.out (HP4.out.ext hle)).mono ?_
      rintro z w9 ⟨rfl, b9⟩
      rw [HX.out]
      exact hK _ _ b9 rfl
    · -- 32 := Op.load 29 t3
      have e3 := hf 3 rfl; simp [Act.eval] at e3
      have hq : agg? w2 ⟨w.heap.size, 0, none⟩ 32 = some (tgC key) := (agg_of_row (hle.heap HK4.out) 0 32 (by decide)).trans (tgC_part key)
      go_simp; exact hK _ _ (Ext.refl _) rfl
    · -- 33 := Op.load 29 t4
      have e4 := hf 4 rfl; simp [Act.eval] at e4
      have hq : agg? w2 ⟨w.heap.size + 1, 0, none⟩ 32 = some (tgC nonce) := (agg_of_row (hle.heap HN4.out) 0 32 (by decide)).trans (tgC_part nonce)
      go_simp; exact hK _ _ (Ext.refl _) rfl
    · -- 34 := Op.move t2
      have e2 := hf 2 rfl; simp [Act.eval] at e2
      go_simp; exact hK _ _ (Ext.refl _) rfl
    · -- 35 := Op.call { value (Operand.func 37), args := #[t32, t33, t34], argTypes := #[29, 29, 9] }
      have e32 := hs 4 32 (needs_direct (by kernel_rfl)) rfl; have e33 := hs 5 33 (needs_direct (by kernel_rfl)) rfl; have e34 := hs 6 34 (needs_direct (by kernel_rfl)) rfl; simp [Act.eval] at e32 e33 e34
      go_simp
      refine (c_rseal key nonce s w2 HL.out).mono ?_
      rintro z w9 ⟨rfl, b9⟩
      rw [HX.out]
      exact hK _ _ b9 rfl
    · -- 36 := Op.binOp BinOp.eql 9 t31 t35 9
      have e31 := hs 3 31 (needs_direct (by kernel_rfl)) rfl; have e35 := hs 7 35 (needs_direct (by kernel_rfl)) rfl; simp [Act.eval] at e31 e35
      go_simp; exact hK _ _ (Ext.refl _) rfl
    · -- 37 := Op.move t36
      have e36 := hs 8 36 (needs_direct (by kernel_rfl)) rfl; simp [Act.eval] at e36
      go_simp; exact hK _ _ (Ext.refl _) rfl
    · -- 38 := Op.load 29 t3
      have e3 := hf 3 rfl; have gg := hs 9 37 (needs_direct (by kernel_rfl)) rfl; simp [Act.eval] at e3 gg; replace gg := opt_bool gg
      have hq : agg? w2 ⟨w.heap.size, 0, none⟩ 32 = some (tgC key) := (agg_of_row (hle.heap HK4.out) 0 32 (by decide)).trans (tgC_part key)
      go_simp; exact hK _ _ (Ext.refl _) rfl
    · -- 39 := Op.load 29 t4
      have e4 := hf 4 rfl; have gg := hs 9 37 (needs_direct (by kernel_rfl)) rfl; simp [Act.eval] at e4 gg; replace gg := opt_bool gg
      have hq : agg? w2 ⟨w.heap.size + 1, 0, none⟩ 32 = some (tgC nonce) := (agg_of_row (hle.heap HN4.out) 0 32 (by decide)).trans (tgC_part nonce)
      go_simp; exact hK _ _ (Ext.refl _) rfl
    · -- 40 := Op.move t2
      have e2 := hf 2 rfl; have gg := hs 9 37 (needs_direct (by kernel_rfl)) rfl; simp [Act.eval] at e2 gg; replace gg := opt_bool gg
      go_simp; exact hK _ _ (Ext.refl _) rfl
    · -- 41 := Op.call { builtin len, args := #[t40], argTypes := #[9] }
      have e40 := hs 12 40 (needs_direct (by kernel_rfl)) rfl; have gg := hs 9 37 (needs_direct (by kernel_rfl)) rfl; simp [Act.eval] at e40 gg; replace gg := opt_bool gg
      go_simp; exact hK _ _ (Ext.refl _) rfl
    · -- 42 := Op.call { value (Operand.func 38), args := #[t38, t39, t41], argTypes := #[29, 29, 3] }
      have e38 := hs 10 38 (needs_direct (by kernel_rfl)) rfl; have e39 := hs 11 39 (needs_direct (by kernel_rfl)) rfl; have e41 := hs 13 41 (needs_direct (by kernel_rfl)) rfl; have gg := hs 9 37 (needs_direct (by kernel_rfl)) rfl; simp [Act.eval] at e38 e39 e41 gg; replace gg := opt_bool gg
      go_simp
      refine (c_stream key nonce _ n w2 (by simp) hn20 (HP4.out.ext hle)).mono ?_
      rintro z w9 ⟨v9, rfl, h9, b9⟩
      obtain ⟨A8, c8, rfl, hr8⟩ := own_row h9
      rw [HST.out, HSL.out] at hr8
      rw [HST.out, HSL.out]
      exact hK _ _ b9 ⟨A8, c8, rfl, hr8.more fun _ _ => trivial⟩
    · -- 43 := Op.convert 22 9 t42
      obtain ⟨A42, c42, e42, hr42⟩ := hs 14 42 (needs_direct (by kernel_rfl)) rfl; have gg := hs 9 37 (needs_direct (by kernel_rfl)) rfl; simp [Act.eval] at e42 gg; replace gg := opt_bool gg
      have hq := row_string (P := Tryd.prog) Tryd.underlying22 Tryd.underlying5 Tryd.underlying9 hr42
      go_simp; exact hK _ _ (Ext.refl _) rfl
    · -- 44 := Op.load 29 t3
      have e3 := hf 3 rfl; have gg := hs 9 37 (needs_direct (by kernel_rfl)) rfl; simp [Act.eval] at e3 gg; replace gg := opt_bool gg
      have hq : agg? w2 ⟨w.heap.size, 0, none⟩ 32 = some (tgC key) := (agg_of_row (hle.heap HK4.out) 0 32 (by decide)).trans (tgC_part key)
      go_simp; exact hK _ _ (Ext.refl _) rfl
    · -- 45 := Op.load 29 t4
      have e4 := hf 4 rfl; have gg := hs 9 37 (needs_direct (by kernel_rfl)) rfl; simp [Act.eval] at e4 gg; replace gg := opt_bool gg
      have hq : agg? w2 ⟨w.heap.size + 1, 0, none⟩ 32 = some (tgC nonce) := (agg_of_row (hle.heap HN4.out) 0 32 (by decide)).trans (tgC_part nonce)
      go_simp; exact hK _ _ (Ext.refl _) rfl
    · -- 46 := Op.move t2
      have e2 := hf 2 rfl; have gg := hs 9 37 (needs_direct (by kernel_rfl)) rfl; simp [Act.eval] at e2 gg; replace gg := opt_bool gg
      go_simp; exact hK _ _ (Ext.refl _) rfl
    · -- 47 := Op.call { builtin len, args := #[t46], argTypes := #[9] }
      have e46 := hs 18 46 (needs_direct (by kernel_rfl)) rfl; have gg := hs 9 37 (needs_direct (by kernel_rfl)) rfl; simp [Act.eval] at e46 gg; replace gg := opt_bool gg
      go_simp; exact hK _ _ (Ext.refl _) rfl
    · -- 48 := Op.call { value (Operand.func 39), args := #[t44, t45, t47], argTypes := #[29, 29, 3] }
      have e44 := hs 16 44 (needs_direct (by kernel_rfl)) rfl; have e45 := hs 17 45 (needs_direct (by kernel_rfl)) rfl; have e47 := hs 19 47 (needs_direct (by kernel_rfl)) rfl; have gg := hs 9 37 (needs_direct (by kernel_rfl)) rfl; simp [Act.eval] at e44 e45 e47 gg; replace gg := opt_bool gg
      go_simp
      refine (c_rstream key nonce _ n w2 (by simp) hn20).mono ?_
      rintro z w9 ⟨v9, rfl, h9, b9⟩
      obtain ⟨A8, c8, rfl, hr8⟩ := own_row h9
      rw [HST.out, HSL.out] at hr8
      rw [HST.out, HSL.out]
      exact hK _ _ b9 ⟨A8, c8, rfl, hr8.more fun _ _ => trivial⟩
    · -- 49 := Op.convert 22 9 t48
      obtain ⟨A48, c48, e48, hr48⟩ := hs 20 48 (needs_direct (by kernel_rfl)) rfl; have gg := hs 9 37 (needs_direct (by kernel_rfl)) rfl; simp [Act.eval] at e48 gg; replace gg := opt_bool gg
      have hq := row_string (P := Tryd.prog) Tryd.underlying22 Tryd.underlying5 Tryd.underlying9 hr48
      go_simp; exact hK _ _ (Ext.refl _) rfl
    · -- 50 := Op.binOp BinOp.eql 9 t43 t49 9
      have e43 := hs 15 43 (needs_direct (by kernel_rfl)) rfl; have e49 := hs 21 49 (needs_direct (by kernel_rfl)) rfl; have gg := hs 9 37 (needs_direct (by kernel_rfl)) rfl; simp [Act.eval] at e43 e49 gg; replace gg := opt_bool gg
      go_simp; exact hK _ _ (Ext.refl _) rfl
    · -- 51 := Op.pick t37 t50 (const (Value.bool false))
      have e37 := hs 9 37 (needs_direct (by kernel_rfl)) rfl; have e50 := hs 22 50 (needs_direct (by kernel_rfl)) rfl; simp [Act.eval] at e37 e50
      go_simp; exact hK _ _ (Ext.refl _) rfl
    · -- 52 := Op.move t51
      have e51 := hs 23 51 (needs_direct (by kernel_rfl)) rfl; simp [Act.eval] at e51
      go_simp; exact hK _ _ (Ext.refl _) rfl
    · -- 53 := Op.load 29 t3
      have e3 := hf 3 rfl; have gg := hs 24 52 (needs_direct (by kernel_rfl)) rfl; simp [Act.eval] at e3 gg; replace gg := opt_bool gg
      have hq : agg? w2 ⟨w.heap.size, 0, none⟩ 32 = some (tgC key) := (agg_of_row (hle.heap HK4.out) 0 32 (by decide)).trans (tgC_part key)
      go_simp; exact hK _ _ (Ext.refl _) rfl
    · -- 54 := Op.load 29 t4
      have e4 := hf 4 rfl; have gg := hs 24 52 (needs_direct (by kernel_rfl)) rfl; simp [Act.eval] at e4 gg; replace gg := opt_bool gg
      have hq : agg? w2 ⟨w.heap.size + 1, 0, none⟩ 32 = some (tgC nonce) := (agg_of_row (hle.heap HN4.out) 0 32 (by decide)).trans (tgC_part nonce)
      go_simp; exact hK _ _ (Ext.refl _) rfl
    · -- 55 := Op.call { value (Operand.func 38), args := #[t53, t54, const (Value.int IntKind.i64 (-1))], argTypes := #[29, 29, 3] }
      have e53 := hs 25 53 (needs_direct (by kernel_rfl)) rfl; have e54 := hs 26 54 (needs_direct (by kernel_rfl)) rfl; have gg := hs 24 52 (needs_direct (by kernel_rfl)) rfl; simp [Act.eval] at e53 e54 gg; replace gg := opt_bool gg
      go_simp
      refine (c_stream key nonce _ 0 w2 (by decide) (by decide) (HP4.out.ext hle)).mono ?_
      rintro z w9 ⟨v9, rfl, h9, b9⟩
      obtain ⟨A8, c8, rfl, hr8⟩ := own_row h9
      have e0 : strm key nonce 0 = [] := rfl
      rw [e0] at hr8 ⊢
      exact hK _ _ b9 ⟨A8, c8, rfl, hr8.more fun _ _ => trivial⟩
    · -- 56 := Op.call { builtin len, args := #[t55], argTypes := #[22] }
      obtain ⟨A55, c55, e55, hr55⟩ := hs 27 55 (needs_direct (by kernel_rfl)) rfl; have gg := hs 24 52 (needs_direct (by kernel_rfl)) rfl; simp [Act.eval] at e55 gg; replace gg := opt_bool gg
      go_simp; exact hK _ _ (Ext.refl _) rfl
    · -- 57 := Op.binOp BinOp.eql 3 t56 (const (0:i64)) 3
      have e56 := hs 28 56 (needs_direct (by kernel_rfl)) rfl; have gg := hs 24 52 (needs_direct (by kernel_rfl)) rfl; simp [Act.eval] at e56 gg; replace gg := opt_bool gg
      go_simp; exact hK _ _ (Ext.refl _) rfl
    · -- 58 := Op.pick t52 t57 (const (Value.bool false))
      have e52 := hs 24 52 (needs_direct (by kernel_rfl)) rfl; have e57 := hs 29 57 (needs_direct (by kernel_rfl)) rfl; simp [Act.eval] at e52 e57
      go_simp; exact hK _ _ (Ext.refl _) rfl
    · -- 59 := Op.move t58
      have e58 := hs 30 58 (needs_direct (by kernel_rfl)) rfl; simp [Act.eval] at e58
      go_simp; exact hK _ _ (Ext.refl _) rfl
    · -- 60 := Op.move t7
      have e7 := hf 7 rfl; have gg := hs 31 59 (needs_direct (by kernel_rfl)) rfl; simp [Act.eval] at e7 gg; replace gg := opt_bool gg
      go_simp; exact hK _ _ (Ext.refl _) rfl
    · -- 61 := Op.move t9
      have e9 := hf 9 rfl; have gg := hs 31 59 (needs_direct (by kernel_rfl)) rfl; simp [Act.eval] at e9 gg; replace gg := opt_bool gg
      go_simp; exact hK _ _ (Ext.refl _) rfl
    · -- 62 := Op.binOp BinOp.eql 9 t60 t61 9
      have e60 := hs 32 60 (needs_direct (by kernel_rfl)) rfl; have e61 := hs 33 61 (needs_direct (by kernel_rfl)) rfl; have gg := hs 31 59 (needs_direct (by kernel_rfl)) rfl; simp [Act.eval] at e60 e61 gg; replace gg := opt_bool gg
      go_simp; exact hK _ _ (Ext.refl _) rfl
    · -- 63 := Op.pick t59 t62 (const (Value.bool false))
      have e59 := hs 31 59 (needs_direct (by kernel_rfl)) rfl; have e62 := hs 34 62 (needs_direct (by kernel_rfl)) rfl; simp [Act.eval] at e59 e62
      go_simp; exact hK _ _ (Ext.refl _) rfl
    · -- 64 := Op.move t63
      have e63 := hs 35 63 (needs_direct (by kernel_rfl)) rfl; simp [Act.eval] at e63
      go_simp; exact hK _ _ (Ext.refl _) rfl
    · -- 65 := Op.move t8
      have e8 := hf 8 rfl; have gg := hs 36 64 (needs_direct (by kernel_rfl)) rfl; simp [Act.eval] at e8 gg; replace gg := opt_bool gg
      go_simp; exact hK _ _ (Ext.refl _) rfl
    · -- 66 := Op.move t10
      have e10 := hf 10 rfl; have gg := hs 36 64 (needs_direct (by kernel_rfl)) rfl; simp [Act.eval] at e10 gg; replace gg := opt_bool gg
      go_simp; exact hK _ _ (Ext.refl _) rfl
    · -- 67 := Op.binOp BinOp.eql 4 t65 t66 4
      have e65 := hs 37 65 (needs_direct (by kernel_rfl)) rfl; have e66 := hs 38 66 (needs_direct (by kernel_rfl)) rfl; have gg := hs 36 64 (needs_direct (by kernel_rfl)) rfl; simp [Act.eval] at e65 e66 gg; replace gg := opt_bool gg
      go_simp; exact hK _ _ (Ext.refl _) rfl
    · -- 68 := Op.pick t64 t67 (const (Value.bool false))
      have e64 := hs 36 64 (needs_direct (by kernel_rfl)) rfl; have e67 := hs 39 67 (needs_direct (by kernel_rfl)) rfl; simp [Act.eval] at e64 e67
      go_simp; exact hK _ _ (Ext.refl _) rfl
    · -- 69 := Op.move t68
      have e68 := hs 40 68 (needs_direct (by kernel_rfl)) rfl; simp [Act.eval] at e68
      go_simp; exact hK _ _ (Ext.refl _) rfl
    · -- 70 := Op.pick t69 (const (Value.bool true)) (const (Value.bool false))
      have e69 := hs 41 69 (needs_direct (by kernel_rfl)) rfl; simp [Act.eval] at e69
      go_simp; exact hK _ _ (Ext.refl _) rfl
  intro vs w8 hle hs
  have v42 := hs 42 (by omega) rfl
  simp only at v42
  clear hs
  have HB9 := hide (HB4.out.trans (hle.mono HB4.out.size))
  clear hle
  simp only [putN, dstAt]
  go_simp
  go_wp2_with fail
  go_ret
  exact ⟨rfl, HB9.out⟩
end Go.Proofs.YtdkeflhgengblaaDoor
namespace Go.Proofs.YtdkeflhgengblaaDoor
open Go.RowKit
attribute [local go_sem ↓] ld16 ld17 ld32 ld36
attribute [local go_sem] run_ldAgg run_storeAgg agg_alloc_at agg_alloc_past agg_drew agg_setCell row_alloc_at row_alloc_past row_drew setRow_alloc_at setRow_alloc_past setRow_drew agg_setRow_at agg_setRow_far cell_setRow_at cell_setRow_far row_setRow_far size_setRow tgC_size tgC_one tgC_part tgC_splice tokC_size tokC_0 tokC_1 tokC_2 tokC_3 tokC_g0 tokC_g1 tokC_g2 tokC_g3 tokC_part tokC_tag tokC_set0 tokC_set1 tokC_set2 tokC_set3 tokC_splice tokC_splice0 tgC_splice_any zero_tg zero_tok tokC_all tokC_ne tgC_ne

set_option maxRecDepth 100000 in
set_option maxHeartbeats 1600000 in
theorem c_rsame (t u : Tok) (A B : Option Addr) (n c m d : Nat) (ok ok' : Nat → Prop) (w : World) (hR : kCav.Row ok w A n c t.cavs) (hS : kCav.Row ok' w B m d u.cavs) :
    Calls Tryd.prog 28 #[tokV t A n c, tokV u B m d] w fun e w' => e = .returned (.bool (decide (t = u))) ∧ Below w.heap.size w w' := by
  have HLX := hide hR.1
  have HLY := hide hS.1
  have HR := hide hR
  have HS := hide hS
  have hbx : n ≤ maxLen := Nat.le_trans hR.2.1 hR.2.2.1
  simp only [maxLen] at hbx
  have htag := fun wx => tg_neq wx t.tag u.tag
  clear hR hS
  by_cases h1 : t.key = u.key
  · have h1' : (t.key : Int) = u.key := by rw [h1]
    by_cases h2 : t.id = u.id
    · have h2' := (bytes_inj _ _).2 h2
      by_cases h3 : t.bnd = u.bnd
      · by_cases h4 : t.tag = u.tag
        · rw [decide_eq_true h4] at htag
          have HE : Hid (decide (t = u) = decide (t.cavs = u.cavs)) := hide (by
            rw [Bool.eq_iff_iff]; simp only [decide_eq_true_eq, tok_eq, h1, h2, h3, h4, true_and])
          by_cases hl : n = m
          · subst hl
            clear h1 h2 h4
            go_enter Tryd.func28, Tryd.ntmps28
            go_wp2_with fail
            go_loopw [44] (fun i wr => ∃ k : Nat, k ≤ n ∧ i = .int .i64 (k : Int) ∧ Hid (t.cavs.take k = u.cavs.take k) ∧ Hid (Below w.heap.size w wr) ∧ Hid (wr.cell? ⟨w.heap.size, 2, none⟩ = some (.slice A n c)) ∧ Hid (wr.cell? ⟨w.heap.size + 1, 2, none⟩ = some (.slice B n d))) (fun i _ => n - (intOf i).toNat)
            case atStart => exact ⟨0, Nat.zero_le _, rfl, hide rfl, hide (below2 _ _ _), hide ((cell_of_row _ _ _ _ _ _ ((Below.heap_alloc _ _ _ (by simp)).trans (heap_alloc_new _ _))).trans (tokC_2 _ _ _ _ _)), hide ((cell_of_row _ _ _ _ _ _ (heap_new2 _ _ _)).trans (tokC_2 _ _ _ _ _))⟩
            case round =>
              obtain ⟨k, hk, rfl, HE1, HB, HB2, HB3⟩ := hrel
              have hy0 := HB2.out
              have hy1 := HB3.out
              by_cases hlt : k < n
              · obtain ⟨x, hx⟩ : ∃ x, t.cavs[k]? = some x := ⟨_, List.getElem?_eq_getElem (by have := HLX.out; omega)⟩
                obtain ⟨y, hy⟩ : ∃ y, u.cavs[k]? = some y := ⟨_, List.getElem?_eq_getElem (by have := HLY.out; omega)⟩
                obtain ⟨b1, q1, cs1, hix1, -, hbl1, hK1, hra1⟩ := (HR.out.below HB.out).index (P := Tryd.prog) Tryd.underlying42 (E := 83) cav_size hx
                obtain ⟨b2, q2, cs2, hix2, -, hbl2, hK2, hra2⟩ := (HS.out.below HB.out).index (P := Tryd.prog) Tryd.underlying42 (E := 83) cav_size hy
                have hKe1 := hK1.1
                have hKe2 := hK2.1
                subst hKe1
                subst hKe2
                have a0 := hra1 0 _ rfl
                have a1 := hra1 1 _ rfl
                have a2 := hra1 2 _ rfl
                have a3 := hra1 3 _ rfl
                have a4 := hra1 4 _ rfl
                have b0 := hra2 0 _ rfl
                have b1 := hra2 1 _ rfl
                have b2 := hra2 2 _ rfl
                have b3 := hra2 3 _ rfl
                have b4 := hra2 4 _ rfl
                simp only [Nat.add_zero] at a0 b0
                have HX := hide hx
                have HY := hide hy
                have hne := cav_neq_any x y
                clear hx hy hK1 hK2 hra1 hra2
                by_cases hxy : x = y
                · subst hxy
                  have HE2 : Hid (t.cavs.take (k + 1) = u.cavs.take (k + 1)) := hide (by
                    rw [List.take_add_one, List.take_add_one, HX.out, HY.out, HE1.out])
                  go_wp2_with fail
                  go_region
                  all_goals go_wp2_with fail
                  all_goals go_roundw
                  all_goals first
                    | (case rel => exact ⟨k + 1, by omega, by simp, HE2, hide HB.out.drew, hide HB2.out, hide HB3.out⟩)
                    | (simp [intOf]; omega)
                · have HNE := hide hxy
                  have HF : Hid (decide (t.cavs = u.cavs) = false) := hide (decide_eq_false fun e => by
                    have h1 := HX.out
                    rw [e, HY.out] at h1
                    exact HNE.out (Option.some.inj h1).symm)
                  rw [decide_eq_false hxy] at hne
                  clear hxy
                  go_wp2_with fail
                  go_region
                  all_goals go_wp2_with fail
                  all_goals go_ret
                  all_goals exact ⟨by rw [HE.out, HF.out]; rfl, HB.out.drew⟩
              · obtain rfl : k = n := by omega
                have HF : Hid (decide (t.cavs = u.cavs) = true) := hide (decide_eq_true (by
                  have := HE1.out
                  rwa [List.take_of_length_le (Nat.le_of_eq HLX.out), List.take_of_length_le (Nat.le_of_eq HLY.out)] at this))
                go_wp2_with fail
                go_ret
                exact ⟨by rw [HE.out, HF.out]; rfl, HB.out⟩
          · have HF : Hid (decide (t = u) = false) := hide (decide_eq_false fun e => hl (by rw [← HLX.out, ← HLY.out, e]))
            clear h1 h2 h4
            go_enter Tryd.func28, Tryd.ntmps28
            go_wp2_with fail
            go_ret
            exact ⟨by rw [HF.out]; rfl, below2 _ _ _⟩
        · have HE : Hid (decide (t = u) = false) := hide (decide_eq_false fun e => h4 (by rw [e]))
          rw [decide_eq_false h4] at htag
          clear h1 h2 h4
          go_enter Tryd.func28, Tryd.ntmps28
          go_wp2_with fail
          go_ret
          exact ⟨by rw [HE.out]; rfl, below2 _ _ _⟩
      · have HE : Hid (decide (t = u) = false) := hide (decide_eq_false fun e => h3 (by rw [e]))
        clear h1 h2
        go_enter Tryd.func28, Tryd.ntmps28
        go_wp2_with fail
        go_ret
        exact ⟨by rw [HE.out]; rfl, below2 _ _ _⟩
    · have HE : Hid (decide (t = u) = false) := hide (decide_eq_false fun e => h2 (by rw [e]))
      have h2' : ¬ t.id.toList = u.id.toList := fun e => h2 ((bytes_inj _ _).1 e)
      clear h1 h2
      go_enter Tryd.func28, Tryd.ntmps28
      go_wp2_with fail
      go_ret
      exact ⟨by rw [HE.out]; rfl, below2 _ _ _⟩
  · have HE : Hid (decide (t = u) = false) := hide (decide_eq_false fun e => h1 (by rw [e]))
    have h1' : ¬ (t.key : Int) = u.key := fun e => h1 (by omega)
    clear h1
    go_enter Tryd.func28, Tryd.ntmps28
    go_wp2_with fail
    go_ret
    exact ⟨by rw [HE.out]; rfl, below2 _ _ _⟩
end Go.Proofs.YtdkeflhgengblaaDoor
