/- The walks of layer 11: whether two bundles are one; the chapter's example. No condition. -/
import Derived.Test.YtlfhbnajopekpaaBun3
namespace Go.Proofs.Ytlfhbnajopekpaa
open Go.RowKit
attribute [local go_sem ↓] ld16 ld17 ld32 ld36 ld37
attribute [local go_sem] run_ldAgg run_storeAgg agg_alloc_at agg_alloc_past agg_drew agg_setCell row_alloc_at row_alloc_past row_drew setRow_alloc_at setRow_alloc_past setRow_drew agg_setRow_at agg_setRow_far cell_setRow_at cell_setRow_far row_setRow_far size_setRow tgC_size tgC_one tgC_part tgC_splice tokC_size tokC_0 tokC_1 tokC_2 tokC_3 tokC_g0 tokC_g1 tokC_g2 tokC_g3 tokC_part tokC_tag tokC_set0 tokC_set1 tokC_set2 tokC_set3 tokC_splice tokC_splice0 tgC_splice_any zero_tg zero_tok tokC_all tokC_ne tgC_ne
attribute [local go_sem] bunC_size bunC_0 bunC_1 bunC_2 bunC_3 bunC_36 bunC_g3 bunC_g36 bunC_part bunC_root bunC_set36 bunC_splice bunC_splice0 zero_bun bunC_all bunC_ne

/-- A bundle in block g. -/
def BunIn (w : World) (g : Nat) (x : Bun) (A : Option Addr) (n c : Nat) (B : Option Addr) (m d : Nat) : Prop := w.heap[g]? = some (.cells (bunA x A n c B m d) 70)
section
variable {w w' : World} {g : Nat} {x : Bun} {A B : Option Addr} {n c m d : Nat}
theorem BunIn.agg (h : BunIn w g x A n c B m d) : agg? w ⟨g, 0, none⟩ 37 = some (bunA x A n c B m d) := by
  rw [agg_of_row h 0 37 (by decide)]
  exact bunC_part _ _ _ _ _ _
theorem BunIn.root (h : BunIn w g x A n c B m d) : agg? w ⟨g, 0, none⟩ 36 = some (tokA x.root A n c) := by
  rw [agg_of_row h 0 36 (by decide)]
  exact bunC_root _ _ _ _ _ _
theorem BunIn.dis (h : BunIn w g x A n c B m d) : w.cell? ⟨g, 36, none⟩ = some (.slice B m d) := (cell_of_row w _ _ _ _ _ h).trans (bunC_36 _ _ _ _ _ _)
theorem BunIn.lt (h : BunIn w g x A n c B m d) : g < w.heap.size := (Array.getElem?_eq_some_iff.1 h).1
theorem BunIn.below (h : BunIn w g x A n c B m d) (hb : Below w.heap.size w w') : BunIn w' g x A n c B m d := (hb.block g (Array.getElem?_eq_some_iff.1 h).1).trans h
end

set_option maxRecDepth 100000 in
set_option maxHeartbeats 400000 in
theorem c_teqf (A B : Option Addr) (n c m d : Nat) (xs ys : List Tok) (ok ok' : Nat → Prop) (w : World) (hR : kTok.Row ok w A n c xs) (hS : kTok.Row ok' w B m d ys) :
    Calls Try.prog 81 #[.slice A n c, .slice B m d, .func (.func 32) #[] #[]] w fun e w' => e = .returned (.bool (decide (xs = ys))) ∧ Below w.heap.size w w' := by
  have HLX := hide hR.1
  have HLY := hide hS.1
  have HR := hide hR
  have HS := hide hS
  have hbx : n ≤ maxLen := Nat.le_trans hR.2.1 hR.2.2.1
  simp only [maxLen] at hbx
  clear hR hS
  by_cases hl : n = m
  · subst hl
    go_enter Try.func81, Try.ntmps81
    go_wp2
    go_loopw [17] (fun i wr => ∃ k : Nat, k ≤ n ∧ i = .int .i64 (k : Int) ∧ Hid (xs.take k = ys.take k) ∧ Hid (Below w.heap.size w wr)) (fun i _ => n - (intOf i).toNat)
    case atStart => exact ⟨0, Nat.zero_le _, rfl, hide rfl, hide (Below.refl _ _)⟩
    case round =>
      obtain ⟨k, hk, rfl, HE, HB⟩ := hrel
      by_cases hlt : k < n
      · obtain ⟨x, hx⟩ : ∃ x, xs[k]? = some x := ⟨_, List.getElem?_eq_getElem (by have := HLX.out; omega)⟩
        obtain ⟨y, hy⟩ : ∃ y, ys[k]? = some y := ⟨_, List.getElem?_eq_getElem (by have := HLY.out; omega)⟩
        obtain ⟨b1, q1, A1, n1, c1, hix1, hbl1, hag1, hr1, hk1⟩ := tok_at (HR.out.below HB.out) hx
        obtain ⟨b2, q2, A2, n2, c2, hix2, hbl2, hag2, hr2, hk2⟩ := tok_at (HS.out.below HB.out) hy
        have HX := hide hx
        have HY := hide hy
        have HR1 := hide hr1
        have HR2 := hide hr2
        have hsb := HB.out.size
        clear hx hy hr1 hr2
        go_wp2_with fail
        refine (c_psame x y A1 A2 n1 c1 n2 c2 _ _ _ (HR1.out.below (below2 _ _ _)) (HR2.out.below (below2 _ _ _))).mono ?_
        rintro e w1 ⟨rfl, b1'⟩
        have HB1 := hide (HB.out.trans ((bnext (below2 _ _ _) b1').mono hsb))
        clear b1'
        by_cases hxy : x = y
        · subst hxy
          have HE2 : Hid (xs.take (k + 1) = ys.take (k + 1)) := hide (by
            rw [List.take_add_one, List.take_add_one, HX.out, HY.out, HE.out])
          simp only [decide_true]
          go_wp2_with fail
          go_roundw
          case rel => exact ⟨k + 1, by omega, by simp, HE2, HB1⟩
          case measure => simp [intOf]; omega
        · have HF : Hid (decide (xs = ys) = false) := hide (decide_eq_false fun e => by
            subst e
            exact hxy (Option.some.inj (HX.out.symm.trans HY.out)))
          rw [decide_eq_false hxy]
          clear hxy
          go_wp2_with fail
          go_ret
          exact ⟨by rw [HF.out]; rfl, HB1.out⟩
      · obtain rfl : k = n := by omega
        have HF : Hid (decide (xs = ys) = true) := hide (decide_eq_true (by
          have := HE.out
          rwa [List.take_of_length_le (Nat.le_of_eq HLX.out), List.take_of_length_le (Nat.le_of_eq HLY.out)] at this))
        go_wp2_with fail
        go_ret
        exact ⟨by rw [HF.out]; rfl, HB.out⟩
  · have HF : Hid (decide (xs = ys) = false) := hide (decide_eq_false fun e => by
      subst e
      exact hl (HLX.out.symm.trans HLY.out))
    go_enter Try.func81, Try.ntmps81
    go_wp2
    go_ret
    exact ⟨by rw [HF.out]; rfl, Below.refl _ _⟩

set_option maxRecDepth 100000 in
set_option maxHeartbeats 400000 in
theorem c_bsame (x y : Bun) (A B C D : Option Addr) (n c m d n' c' m' d' : Nat) (ok1 ok2 ok3 ok4 : Nat → Prop) (w : World) (h1 : kCav.Row ok1 w A n c x.root.cavs) (h2 : kTok.Row ok2 w B m d x.dis) (h3 : kCav.Row ok3 w C n' c' y.root.cavs) (h4 : kTok.Row ok4 w D m' d' y.dis) :
    Calls Try.prog 51 #[bunV x A n c B m d, bunV y C n' c' D m' d'] w fun e w' => e = .returned (.bool (decide (x = y))) ∧ Below w.heap.size w w' := by
  have H1 := hide h1
  have H2 := hide h2
  have H3 := hide h3
  have H4 := hide h4
  clear h1 h2 h3 h4
  go_enter Try.func51, Try.ntmps51
  go_wp2_with fail
  refine (c_psame x.root y.root A C n c n' c' _ _ _ (H1.out.below (below2 _ _ _)) (H3.out.below (below2 _ _ _))).mono ?_
  rintro e w1 ⟨rfl, b1⟩
  have HB1 := hide (bnext (below2 _ _ _) b1)
  have hX : BunIn w1 w.heap.size x A n c B m d := (b1.block _ (by simp; omega)).trans ((Below.heap_alloc _ _ _ (by simp)).trans (heap_alloc_new _ _))
  have hY : BunIn w1 (w.heap.size + 1) y C n' c' D m' d' := (b1.block _ (by simp)).trans (heap_new2 _ _ _)
  have hx := hX.dis
  have hy := hY.dis
  clear b1 hX hY
  by_cases hr : x.root = y.root
  · have HE : Hid (decide (x = y) = decide (x.dis = y.dis)) := hide (by
      rw [Bool.eq_iff_iff]
      cases x; cases y
      simp only [decide_eq_true_eq, Bun.mk.injEq] at hr ⊢
      simp [hr])
    rw [decide_eq_true hr]
    clear hr
    go_wp2_with fail
    refine (c_teqf B D m d m' d' _ _ _ _ _ (H2.out.below HB1.out) (H4.out.below HB1.out)).mono ?_
    rintro e w2 ⟨rfl, b2⟩
    have HB2 := hide (bnext HB1.out b2)
    clear b2
    go_wp2_with fail
    go_ret
    exact ⟨by rw [HE.out]; rfl, HB2.out⟩
  · have HE : Hid (decide (x = y) = false) := hide (decide_eq_false fun e => hr (by rw [e]))
    rw [decide_eq_false hr]
    clear hr
    go_wp2_with fail
    go_ret
    exact ⟨by rw [HE.out]; rfl, HB1.out⟩

set_option maxRecDepth 100000 in
set_option maxHeartbeats 400000 in
theorem c_large (x : Bun) (A B : Option Addr) (n c m d : Nat) (ok ok' : Nat → Prop) (w : World) (hR : kCav.Row ok w A n c x.root.cavs) (hS : kTok.Row ok' w B m d x.dis) :
    Calls Try.prog 48 #[bunV x A n c B m d] w (Greated w) := by
  have HL := hide hS.1
  have hm : m ≤ 9223372036854775807 := Nat.le_trans hS.2.1 hS.2.2.1
  have HR := hide hR
  have HS := hide hS
  clear hR hS
  go_enter Try.func48, Try.ntmps48
  go_wp2_with fail
  refine (c_great x.root A n c _ _ (HR.out.below (below1 _ _))).mono ?_
  rintro e w1 ⟨g1, rfl, b1⟩
  have HB1 := hide (bnext (below1 _ _) b1)
  have hX : BunIn w1 w.heap.size x A n c B m d := (b1.block _ (by simp)).trans (heap_alloc_new _ _)
  have hx := hX.dis
  clear b1 hX
  cases g1 with
  | true =>
    simp only [if_true]
    go_wp2_with fail
    go_ret
    exact ⟨true, rfl, HB1.out⟩
  | false =>
    simp only [Bool.false_eq_true, if_false]
    by_cases h40 : 40 < m
    · go_wp2_with fail
      go_ret
      exact ⟨true, rfl, HB1.out⟩
    · go_wp2_with fail
      go_loopw [18] (fun i wr => ∃ k : Nat, k ≤ m ∧ i = .int .i64 (k : Int) ∧ Hid (Below w.heap.size w wr)) (fun i _ => m - (intOf i).toNat)
      case atStart => exact ⟨0, Nat.zero_le _, rfl, HB1⟩
      case round =>
        obtain ⟨k, hk, rfl, HB⟩ := hrel
        by_cases hlt : k < m
        · obtain ⟨y, hx⟩ : ∃ y, x.dis[k]? = some y := ⟨_, List.getElem?_eq_getElem (by have := HL.out; omega)⟩
          obtain ⟨b, q, A1, n1, c1, hix, hbl, hag, hr1, hk1⟩ := tok_at (HS.out.below HB.out) hx
          have HR1 := hide hr1
          have hsb := HB.out.size
          clear hx hr1
          go_wp2_with fail
          refine (c_great y A1 n1 c1 _ _ (HR1.out.below (below1 _ _))).mono ?_
          rintro e w2 ⟨g2, rfl, b2⟩
          have HB2 := hide (HB.out.trans ((bnext (below1 _ _) b2).mono hsb))
          clear b2
          cases g2 with
          | true =>
            simp only [if_true]
            go_wp2_with fail
            go_ret
            exact ⟨true, rfl, HB2.out⟩
          | false =>
            simp only [Bool.false_eq_true, if_false]
            go_wp2_with fail
            go_roundw
            case rel => exact ⟨k + 1, by omega, by simp, HB2⟩
            case measure => simp [intOf]; omega
        · obtain rfl : k = m := by omega
          go_wp2_with fail
          go_ret
          exact ⟨false, rfl, HB.out⟩
theorem benc_zero : (benc Bun.zero).length = 44 := by
  have h42 : vput 42 = [42] := by rw [vput_lt (by decide)]; rfl
  have := enc_zero
  simp [benc, bencFlds, Bun.zero, fjoin, fput, txt_size, this, h42]
theorem bcode_zero : bcode Bun.zero = 0 := by
  have h : checkB Bun.zero = true := by decide
  rw [bcode, if_pos h, benc_zero]
  rfl
theorem zero_ok : Bun.zero.ok := ⟨⟨by decide, by simp [Bun.zero, Tok.zero]⟩, by simp [Bun.zero]⟩
set_option maxRecDepth 100000 in
set_option maxHeartbeats 400000 in
theorem c_balive (w : World) : Calls Try.prog 47 #[] w fun e w' => e = .returned (.bool true) ∧ Below w.heap.size w w' := by
  go_enter Try.func47, Try.ntmps47
  go_wp2_with fail
  refine (c_bencode Bun.zero none none 0 0 0 0 (fun _ => True) (fun _ => True) w (.nil _ _ _ _ _ (Nat.zero_le _)) (.nil _ _ _ _ _ (Nat.zero_le _)) (by decide)).mono ?_
  rintro e w1 ⟨v, rfl, ho, hb⟩
  rw [bcode_zero, if_pos rfl] at ho
  rw [bcode_zero]
  obtain ⟨A1, c1, rfl, hr⟩ := ho.row
  rw [benc_zero] at hr
  have HR := hide hr
  have HB := hide hb
  clear ho hb hr
  simp only [benc_zero]
  go_wp2_with fail
  refine (c_bdecode A1 44 c1 (benc Bun.zero) _ w1 HR.out).mono ?_
  have hpd : bdec (benc Bun.zero) = some Bun.zero := bdec_enc (by decide) zero_ok
  have hv : bvalD (benc Bun.zero) = some Bun.zero := by rw [bvalD, benc_zero, if_neg (by decide), hpd]
  have hc : bcodeD (benc Bun.zero) = 0 := by rw [bcodeD, benc_zero, if_neg (by decide), hpd]; rfl
  rintro e w2 ⟨A2, n2, c2, B2, m2, d2, rfl, hr1, hr2, hb⟩
  rw [hv] at hr1 hr2 ⊢
  rw [hc]
  have HR1 := hide hr1
  have HR2 := hide hr2
  have HB2 := hide (bnext HB.out hb)
  clear hr1 hr2 hb hpd hv hc
  simp only [Option.getD_some]
  go_wp2_with fail
  refine (c_bsame Bun.zero Bun.zero A2 B2 none none n2 c2 m2 d2 0 0 0 0 _ _ (fun _ => True) (fun _ => True) _ (HR1.out.alloc _) (HR2.out.alloc _) (.nil _ _ _ _ _ (Nat.zero_le _)) (.nil _ _ _ _ _ (Nat.zero_le _))).mono ?_
  rintro e w3 ⟨rfl, hb⟩
  have HB3 := hide (bnext HB2.out (bnext (below1 w2 _) hb))
  clear hb
  simp only [decide_true]
  go_wp2_with fail
  go_ret
  exact ⟨rfl, HB3.out⟩
end Go.Proofs.Ytlfhbnajopekpaa
