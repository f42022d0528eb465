/- The walks of layer 10's statements, further: Great, told; a token cloned. No condition. -/
import Derived.Test.YtlfhbnajopekpaaRf4
import Derived.Test.YtlfhbnajopekpaaPkt10
import Derived.Lib.SliceRun
namespace Go.Proofs.Ytlfhbnajopekpaa
open Go.RowKit
attribute [local go_sem ↓] ld16 ld17 ld32 ld36
attribute [local go_sem] run_ldAgg run_storeAgg agg_alloc_at agg_alloc_past agg_drew agg_setCell row_alloc_at row_alloc_past row_drew setRow_alloc_at setRow_alloc_past setRow_drew agg_setRow_at agg_setRow_far cell_setRow_at cell_setRow_far row_setRow_far size_setRow tgC_size tgC_one tgC_part tgC_splice tokC_size tokC_0 tokC_1 tokC_2 tokC_3 tokC_g0 tokC_g1 tokC_g2 tokC_g3 tokC_part tokC_tag tokC_set0 tokC_set1 tokC_set2 tokC_set3 tokC_splice tokC_splice0 tgC_splice_any zero_tg zero_tok tokC_all tokC_ne tgC_ne

/-- Texts as long as a machine can have them. -/
def Cav.fits (c : Cav) : Prop := c.text.size ≤ 140737488355328 ∧ c.id.size ≤ 140737488355328 ∧ c.vault.size ≤ 140737488355328
theorem row_party {ok : Nat → Prop} {w : World} {A : Option Addr} {n c : Nat} {xs : List Cav} (h : kCav.Row ok w A n c xs) : ∀ x ∈ xs, x.party < 18446744073709551616 := by
  intro x hx
  obtain ⟨i, hi, rfl⟩ := List.mem_iff_getElem.1 hx
  obtain ⟨b, o, _, _, _, hc⟩ := h.2.2.2 (by have := h.1; omega)
  obtain ⟨cs, hk, _⟩ := hc i _ (List.getElem?_eq_getElem hi)
  exact hk.2.2.1
def gsum (l : List Cav) : Nat := (l.map fun c => c.text.size + c.id.size + c.vault.size + 1).sum
/-- Is a token more than is looked at? -/
def great (t : Tok) : Bool := decide (10000 < t.id.size + gsum t.cavs)
def greatV (b : Bool) : Value := .int .i64 (if b then 1 else 0)
theorem gsum_app (l r : List Cav) : gsum (l ++ r) = gsum l + gsum r := by simp [gsum]
theorem gsum_take (l : List Cav) (k : Nat) : gsum (l.take k) ≤ gsum l := by
  conv => rhs; rw [← List.take_append_drop k l, gsum_app]
  omega
theorem gsum_mem : ∀ (l : List Cav) (c : Cav), c ∈ l → c.text.size + c.id.size + c.vault.size + 1 ≤ gsum l
  | [], c, h => by simp at h
  | x :: r, c, h => by
    have e : gsum (x :: r) = x.text.size + x.id.size + x.vault.size + 1 + gsum r := by simp [gsum]
    rw [e]
    simp only [List.mem_cons] at h
    rcases h with rfl | h
    · omega
    · have := gsum_mem r c h; omega
theorem gsum_len : ∀ (l : List Cav), l.length ≤ gsum l
  | [] => by simp [gsum]
  | x :: r => by
    have e : gsum (x :: r) = x.text.size + x.id.size + x.vault.size + 1 + gsum r := by simp [gsum]
    have := gsum_len r
    rw [e, List.length_cons]
    omega
set_option maxRecDepth 100000 in
set_option maxHeartbeats 400000 in
theorem c_great2 (t : Tok) (A : Option Addr) (n c : Nat) (ok : Nat → Prop) (w : World) (hR : kCav.Row ok w A n c t.cavs) (hi : t.id.size ≤ 140737488355328) (hf : ∀ c ∈ t.cavs, c.fits) :
    Calls Try.prog 29 #[tokV t A n c] w fun e w' => e = .returned (greatV (great t)) ∧ Below w.heap.size w w' := by
  have HL := hide hR.1
  have hm : n ≤ 9223372036854775807 := Nat.le_trans hR.2.1 hR.2.2.1
  have HR := hide hR
  have HF := hide hf
  clear hR hf
  go_enter Try.func29, Try.ntmps29
  go_wp2_with fail
  go_loopw [12, 3] (fun i p wr => ∃ (k m : Nat), k ≤ n ∧ i = .int .i64 (k : Int) ∧ p = .int .i64 (m : Int) ∧ Hid (m = t.id.size + gsum (t.cavs.take k)) ∧ Hid (0 < k → m ≤ 10000) ∧ Hid (Below w.heap.size w wr)) (fun i _ _ => n - (intOf i).toNat)
  case atStart => exact ⟨0, t.id.size, Nat.zero_le _, rfl, rfl, hide (by simp [gsum]), hide (fun h => absurd h (by omega)), hide (below1 _ _)⟩
  case round =>
    obtain ⟨k, m, hk, rfl, rfl, HM, HK, HB⟩ := hrel
    have hm47 : m ≤ 140737488355328 := by
      by_cases h0 : 0 < k
      · have := HK.out h0; omega
      · have h1 := HM.out
        have : k = 0 := by omega
        subst this
        simp [gsum] at h1
        omega
    by_cases hlt : k < n
    · obtain ⟨x, hx⟩ : ∃ x, t.cavs[k]? = some x := ⟨_, List.getElem?_eq_getElem (by have := HL.out; omega)⟩
      obtain ⟨b, q, csx, hix, -, hbl, hK, hra⟩ := (HR.out.below HB.out).index (P := Try.prog) Try.underlying57 (E := 85) cav_size hx
      have hKe := hK.1
      subst hKe
      have a0 := hra 0 _ rfl
      have a1 := hra 1 _ rfl
      have a2 := hra 2 _ rfl
      have a3 := hra 3 _ rfl
      have a4 := hra 4 _ rfl
      simp only [Nat.add_zero] at a0
      have hsb := HB.out.size
      obtain ⟨f1, f2, f3⟩ := HF.out x (List.mem_of_getElem? hx)
      have HM2 : Hid (m + (x.text.size + x.id.size + x.vault.size + 1) = t.id.size + gsum (t.cavs.take (k + 1))) := hide (by
        rw [List.take_add_one, hx, gsum_app, HM.out]
        simp [gsum]
        omega)
      clear hx hK hra
      obtain ⟨m', hm'⟩ : ∃ m', m' = m + (x.text.size + x.id.size + x.vault.size + 1) := ⟨_, rfl⟩
      by_cases hbig : 10000 < m'
      · have HG : Hid (great t = true) := hide (decide_eq_true (by have := HM2.out; have := gsum_take t.cavs (k + 1); omega))
        go_wp2_with fail
        go_ret
        exact ⟨by rw [HG.out]; rfl, HB.out.alloc hsb _⟩
      · go_wp2_with fail
        go_roundw
        case rel =>
          refine ⟨k + 1, m', by omega, by simp, ?_, hide (by rw [hm']; exact HM2.out), hide (fun _ => by omega), hide (HB.out.alloc hsb _)⟩
          congr 1
          omega
        case measure => simp [intOf]; omega
    · obtain rfl : k = n := by omega
      have HM2 : Hid (m = t.id.size + gsum t.cavs) := hide (by rw [HM.out, List.take_of_length_le (Nat.le_of_eq HL.out)])
      by_cases h1 : 10000 < m
      · have HG : Hid (great t = true) := hide (decide_eq_true (by have := HM2.out; omega))
        go_wp2_with fail
        go_ret
        exact ⟨by rw [HG.out]; rfl, HB.out⟩
      · have HG : Hid (great t = false) := hide (decide_eq_false (by have := HM2.out; omega))
        go_wp2_with fail
        go_ret
        exact ⟨by rw [HG.out]; rfl, HB.out⟩

set_option maxRecDepth 100000 in
set_option maxHeartbeats 400000 in
theorem c_cclone (A : Option Addr) (n c : Nat) (xs : List Cav) (ok : Nat → Prop) (w : World) (hR : kCav.Row ok w A n c xs) (hn : n ≤ 1099511627776) :
    Calls Try.prog 79 #[.slice A n c] w fun e w' => ∃ A' c', e = .returned (.slice A' n c') ∧ kCav.Row (fun k => w.heap.size ≤ k) w' A' n c' xs ∧ Below w.heap.size w w' := by
  have HR := hide hR
  have HN := hide hn
  have HL := hide hR.1
  have heq := fun wx : World => Lib.run_eql_slice_nil (P := Try.prog) wx _ _ A n c 0 0 Try.underlying57
  clear hR hn
  cases A with
  | none =>
    have hn0 : n = 0 := by
      rcases Nat.eq_zero_or_pos n with h | h
      · exact h
      · obtain ⟨b, o, e, _⟩ := HR.out.2.2.2 h; cases e
    have HX : Hid (xs = []) := hide (List.eq_nil_of_length_eq_zero (by rw [HL.out, hn0]))
    subst hn0
    go_enter Try.func79, Try.ntmps79
    go_wp2_with fail
    go_ret
    exact ⟨none, 0, rfl, by rw [HX.out]; exact .nil _ _ _ _ _ (Nat.zero_le _), Below.refl _ _⟩
  | some a =>
    have HO : Hid (kCav.Own (fun _ => False) w.heap.size (w.alloc (.cells #[] 85)) 85 (.slice (some ⟨w.heap.size, 0, none⟩) 0 0) []) := hide (Kd.Own.lit (.nil _ _ _) #[] rfl 0 rfl (Nat.zero_le _) _ rfl (Nat.le_refl _))
    go_enter Try.func79, Try.ntmps79
    go_wp2_with (at_builtin; go_must (refine wpList_app (d := kCav) (ys := xs) rfl _ _ _ rfl Try.underlying57 cav_info rfl (by decide) c rfl rfl (.inl HO.out) (src_cav (HR.out.alloc _).src) ?_ ?_ ?_ ?_))
    · exact Nat.le_trans (Nat.le_succ _) (by simp)
    · have := HN.out; simp only [maxLen, List.length_nil]; omega
    · have := HN.out; simp only [List.length_nil]; omega
    · intro v1 w1 _ h2 h3 _ _
      have ho : kCav.Own (fun _ => False) w.heap.size w1 85 v1 xs := by first | simpa using h2 (.inr HO.out) | simpa using h2
      obtain ⟨A1, c1, rfl, hr⟩ := ho.row
      have hbb := ho.base_le
      have HR1 := hide (hr.more (ok' := fun k => w.heap.size ≤ k) fun k hk => by
        rcases hk with hk | hk
        · exact hk.elim
        · exact (hbb k hk.symm).1)
      rw [HL.out] at HR1
      have HB := hide (((below1 w (.cells #[] 85))).trans h3)
      have hl1 := HL.out
      clear h2 h3 ho hr hbb
      go_wp2_with fail
      go_ret
      exact ⟨A1, c1, by rw [hl1]; rfl, HR1.out, HB.out⟩
set_option maxRecDepth 100000 in
set_option maxHeartbeats 400000 in
theorem c_pclone (t : Tok) (A : Option Addr) (n c : Nat) (ok : Nat → Prop) (w : World) (hR : kCav.Row ok w A n c t.cavs) (hn : n ≤ 1099511627776) :
    Calls Try.prog 46 #[tokV t A n c] w fun e w' => ∃ A' c', e = .returned (tokV t A' n c') ∧ kCav.Row (fun k => w.heap.size ≤ k) w' A' n c' t.cavs ∧ Below w.heap.size w w' := by
  have HR := hide hR
  have HN := hide hn
  clear hR hn
  go_enter Try.func46, Try.ntmps46
  go_wp2_with fail
  refine (c_cclone A n c t.cavs ok _ (HR.out.below (below2 _ _ _)) HN.out).mono ?_
  rintro e w1 ⟨A1, c1, rfl, hr, b1⟩
  have HB := hide (bnext (below2 _ _ _) b1)
  have hg1 : w1.heap[w.heap.size]? = some (.cells (tokA t A n c) 59) := (b1.block _ (by simp; omega)).trans ((Below.heap_alloc _ _ _ (by simp)).trans (heap_alloc_new _ _))
  have hz1 : w1.heap[w.heap.size + 1]? = some (.cells tokZ 59) := (b1.block _ (by simp)).trans (heap_new2 _ _ _)
  have hc2 : w1.cell? ⟨w.heap.size, 2, none⟩ = some (.slice A n c) := (cell_of_row w1 _ _ _ _ _ hg1).trans (tokC_2 _ _ _ _ _)
  have hfz : ∀ j, w1.frozen? ⟨w.heap.size, j, none⟩ = false := fun j => frozen_of_row w1 _ _ _ _ hg1
  have hag : agg? (w1.setCell ⟨w.heap.size, 2, none⟩ (.slice A1 n c1)) ⟨w.heap.size, 0, none⟩ 36 = some (tokA t A1 n c1) := by
    rw [agg_of_row (heap_setCell_at hg1 _) 0 36 (by decide), tokC_set2]
    exact tokC_part _ _ _ _ _
  have hz2 : (w1.setCell ⟨w.heap.size, 2, none⟩ (.slice A1 n c1)).heap[w.heap.size + 1]? = some (.cells tokZ 59) := (Below.heap_setCell _ _ _ _ (by show w.heap.size + 1 ≠ w.heap.size; omega)).trans hz1
  have hrw := row_of hz2
  have HR1 := hide (hr.keep (w' := w1.setCell ⟨w.heap.size, 2, none⟩ (.slice A1 n c1)) fun k hk _ => Below.heap_setCell _ _ _ _ (by simp only [World.size_alloc] at hk; show k ≠ w.heap.size; omega))
  have HB2 := hide (HB.out.setCell (show w.heap.size ≤ (⟨w.heap.size, 2, none⟩ : Addr).block from Nat.le_refl _) (.slice A1 n c1))
  clear b1 hr hg1 hz1 hz2
  go_wp2_with fail
  exact bodyPost_ret (v := .agg (tokA t A1 n c1)) (by simp [results, Try.results46, go_sem, hrw]) rfl ⟨A1, c1, rfl, (HR1.out.keep fun k hk _ => heap_setRow_far _ _ _ (by simp only [World.size_alloc] at hk; omega)).more (fun k hk => by simp only [World.size_alloc] at hk; omega), bsetRow HB2.out (Nat.le_succ _) _⟩
end Go.Proofs.Ytlfhbnajopekpaa
