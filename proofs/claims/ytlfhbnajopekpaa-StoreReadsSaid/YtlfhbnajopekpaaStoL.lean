/- The walk of the law StoreKeeps. No condition. -/
import Derived.Test.YtlfhbnajopekpaaSto
namespace Go.Proofs.Ytlfhbnajopekpaa
open Go.RowKit

set_option maxRecDepth 100000 in
theorem c_alive (w : World) : Calls Try.prog 12 #[] w fun e w' => e = .returned (.bool true) ∧ Below w.heap.size w w' := by
  go_enter Try.func12, Try.ntmps12
  go_wp2_with fail
  refine (c_snew w).mono ?_
  rintro e w1 ⟨rfl, h1, b1⟩
  have H1 := hide h1
  have HB1 := hide b1
  clear h1 b1
  go_wp2_with fail
  refine (c_sput w.heap.size w1 _ _ [] _ false false H1.out (by decide) (by decide) HB1.out.size).mono ?_
  rintro e w2 ⟨v', rfl, h2, b2, f2, o2⟩
  have H2 := hide h2
  have HB2 := hide (HB1.out.trans b2)
  clear h2 b2 f2 o2
  go_wp2_with fail
  refine (c_sget_in w.heap.size w2 _ _ _ _ 0 _ H2.out (by rfl) rfl).mono ?_
  rintro e w3 ⟨rfl, b3⟩
  have H3 := hide (H2.out.below b3)
  have HB3 := hide (HB2.out.trans (b3.mono HB2.out.size))
  clear b3
  go_wp2_with fail
  refine (c_slen w.heap.size _ _ _ _ (H3.out.below ((Below.refl _ _).alloc (Nat.le_refl _) _))).mono ?_
  rintro e w4 ⟨rfl, rfl⟩
  go_wp2
  go_ret
  exact ⟨rfl, HB3.out.alloc HB3.out.size _⟩

theorem out_under : (Try.prog.info? 28).map (·.size) = some kOut.sz := by kernel_rfl
theorem out_under2 : (Try.prog.info? 3).map (·.size) = some kInt.sz := by kernel_rfl
set_option maxRecDepth 100000 in
set_option maxHeartbeats 400000 in
theorem c_keeps (ok : Nat → Prop) (w : World) (A : Option Addr) (nn cc : Nat) (l : List Out) (n : Int) (hr : kOut.Row ok w A nn cc l) :
    Calls Try.prog 3 #[.slice A nn cc, .int .i64 n] w fun e w' => e = .returned (.bool true) ∧ Below w.heap.size w w' := by
  obtain rfl := hr.1
  have HR := hide hr
  have hcap : l.length ≤ maxLen := Nat.le_trans hr.2.1 hr.2.2.1
  simp only [maxLen] at hcap
  clear hr
  by_cases h50 : 50 < l.length
  · go_enter Try.func3, Try.ntmps3
    go_wp2_with fail
    refine (c_alive w).mono ?_
    rintro e w1 ⟨rfl, b1⟩
    go_wp2
    go_ret
    exact ⟨rfl, b1⟩
  have hl : l.length ≤ 50 := by omega
  clear h50 hcap
  go_enter Try.func3, Try.ntmps3
  go_wp2_with fail
  refine (c_alive w).mono ?_
  rintro e w1 ⟨rfl, b1⟩
  have HB1 := hide b1
  clear b1
  go_wp2_with fail
  refine (c_snew w1).mono ?_
  rintro e w2 ⟨rfl, h2, b2⟩
  have H2 := hide (h2.lower (base' := w.heap.size) HB1.out.size)
  have HB2 := hide (HB1.out.trans (b2.mono HB1.out.size))
  clear h2 b2
  go_wp2_with fail
  go_loopw [29, 6] (fun i p wr => ∃ k : Nat, k ≤ l.length ∧ i = .int .i64 (k : Int) ∧ Hid (kInt.Own (fun _ => False) w.heap.size wr 3 p (pubs 0 (l.take k))) ∧ (∃ v, Hid (StoreAt w.heap.size wr w1.heap.size v (l.take k))) ∧ Hid (Below w.heap.size w wr)) (fun i _ _ => l.length - (intOf i).toNat)
  case atStart =>
    refine ⟨0, Nat.zero_le _, rfl, hide ?_, ⟨_, hide (H2.out.below ((Below.refl _ _).alloc (Nat.le_refl _) _))⟩, hide (HB2.out.alloc HB2.out.size _)⟩
    exact Kd.Own.lit (css := []) (.nil _ _ _) #[] rfl 0 rfl (Nat.zero_le _) _ rfl HB2.out.size
  case round =>
    obtain ⟨k, hk, rfl, HO, ⟨v, HS⟩, HB⟩ := hrel
    by_cases hlt : k < l.length
    · obtain ⟨o, ho⟩ : ∃ o, l[k]? = some o := ⟨_, List.getElem?_eq_getElem hlt⟩
      obtain ⟨b, q, cs, hix, -, hbl, hK, hra⟩ := (HR.out.below HB.out).index (P := Try.prog) Try.underlying22 (E := 28) out_under ho
      have hKe := hK.1
      subst hKe
      have HOB := hide hK.2
      have hc0 := hra 0 _ rfl
      have hc1 := hra 1 _ rfl
      have hc2 := hra 2 _ rfl
      simp only [Nat.add_zero] at hc0
      have HP := hide (pubs_take ho)
      have HPL := hide (pubs_len (l.take k) 0)
      have hlk : (l.take k).length = k := by rw [List.length_take]; omega
      have HLK := hide hlk
      have HT : Hid (l.take (k + 1) = l.take k ++ [o]) := hide (by rw [List.take_succ_eq_append_getElem hlt, (List.getElem?_eq_some_iff.1 ho).2])
      clear ho hK hra hlk
      go_wp2_with fail
      refine (c_sclone w.heap.size _ _ _ _ (HS.out.below ((Below.refl _ _).alloc (Nat.le_refl _) _)) (by rw [HLK.out]; omega)).mono ?_
      rintro e w3 ⟨g', v', rfl, h3, b3⟩
      have H3 := hide h3
      have HB3 := hide (((Below.refl _ wr).alloc (Nat.le_refl _) (.cells #[.string o.bytes, .bool o.whole, .bool o.pub] 28)).trans (b3.mono (by simp)))
      have hb3 := HB3.out.size
      have H3g := hide (show wr.heap.size < g' by have := h3.1; simp at this; omega)
      have HX := hide ((heap_alloc_new wr (.cells #[.string o.bytes, .bool o.whole, .bool o.pub] 28)).symm.trans (b3.block _ (by simp)).symm)
      have hx3 : w3.cell? ⟨wr.heap.size, 0, none⟩ = some (.string o.bytes) ∧ w3.cell? ⟨wr.heap.size, 1, none⟩ = some (.bool o.whole) ∧ w3.cell? ⟨wr.heap.size, 2, none⟩ = some (.bool o.pub) := by
        refine ⟨?_, ?_, ?_⟩ <;> (rw [cell_of_row w3 _ _ _ _ _ HX.out.symm]; rfl)
      obtain ⟨hx0, hx1, hx2⟩ := hx3
      clear h3 b3
      go_wp2_with fail
      refine (c_sput w.heap.size w3 _ _ _ o.bytes o.whole o.pub (HS.out.below HB3.out) (by rw [HLK.out]; omega) HOB.out (Nat.le_trans HB.out.size HB3.out.size)).mono ?_
      rintro e w4 ⟨v4, rfl, h4, b4, f4, o4⟩
      rw [HLK.out]
      have H4 := hide h4
      have HB4 := hide ((HB.out.trans (HB3.out.mono HB.out.size)).trans b4)
      have hvg := (HS.out.below HB3.out).ne
      have hvlt : ∀ q, v.ownBlock = some q → q < wr.heap.size := fun q hq => (HS.out.2.2.base_le q hq).2
      have hgl := HS.out.lt
      have hO4 : Hid (kInt.Own (fun _ => False) w.heap.size w4 3 u6 (pubs 0 (l.take k))) := hide (by
        refine (HO.out.below HB3.out).keep fun q hq hk' => f4 q hq ?_ ?_
        · rcases hk' with hk' | hk'
          · exact hk'.elim
          · intro e; subst e
            obtain ⟨cs, hcs⟩ := Own.typed (HO.out.below HB3.out) hk'.symm
            rw [(HS.out.below HB3.out).2.1] at hcs
            injection hcs with hcs; injection hcs with _ ht; exact absurd ht (by decide)
        · rcases hk' with hk' | hk'
          · exact hk'.elim
          · intro e
            obtain ⟨cs, hcs⟩ := Own.typed (HO.out.below HB3.out) hk'.symm
            obtain ⟨cs', hcs'⟩ := Own.typed (HS.out.below HB3.out).2.2 e.symm
            rw [hcs'] at hcs
            injection hcs with hcs; injection hcs with _ ht; exact absurd ht (by decide))
      have hC4 : Hid (StoreAt (wr.heap.size + 1) w4 g' v' (l.take k)) := hide (by
        have h3' := H3.out
        simp only [World.size_alloc] at h3'
        have hbl' := h3'.2.2.base_le
        refine h3'.keep fun q hq hk' => f4 q hq ?_ ?_
        · rcases hk' with rfl | hk'
          · have := H3g.out; omega
          · have := (hbl' q hk'.symm).1; omega
        · intro e
          have := hvlt q e.symm
          rcases hk' with rfl | hk'
          · have := H3g.out; omega
          · have := (hbl' q hk'.symm).1; omega)
      have hw3 : wr.heap.size < w3.heap.size := by have := H3g.out; have := H3.out.lt; omega
      have hY := f4 wr.heap.size hw3 (by omega) (fun e => by have := hvlt _ e.symm; omega)
      rw [← HX.out] at hY
      have hx40 : w4.cell? ⟨wr.heap.size, 2, none⟩ = some (.bool o.pub) := by rw [cell_of_row w4 _ _ _ _ _ hY]; rfl
      clear h4 b4 f4 o4 hvg hvlt hgl hY hb3
      go_wp2_with fail
      refine (c_slen _ _ _ _ _ hC4.out).mono ?_
      rintro e w5 ⟨rfl, rfl⟩
      rw [HLK.out]
      go_wp2_with fail
      refine (c_slen _ _ _ _ _ H4.out).mono ?_
      rintro e w5 ⟨rfl, rfl⟩
      rw [show (l.take k ++ [(⟨o.bytes, o.whole, o.pub⟩ : Out)]).length = k + 1 by rw [List.length_append, HLK.out]; rfl]
      have hkb : k ≤ 50 := by omega
      cases hp : o.pub with
      | true =>
        rw [hp] at hx40
        have HP2 := hide hp
        clear hp
        go_wp2_with (at_builtin; go_must (refine wpList_app (d := kInt) (ys := [(k : Int)]) rfl _ _ _ rfl Try.underlying26 int_info rfl (by decide) 1 rfl rfl (.inl (hO4.out.below ((Below.refl _ _).alloc (Nat.le_refl _) _))) (Kd.Src.new (d := kInt) ?_ _ rfl _ ?_) ?_ ?_ ?_ ?_))
        · exact ⟨rfl, by omega⟩
        · simp
        · have := HB4.out.size; simp; omega
        · have := HPL.out; have := HLK.out; simp only [maxLen]; omega
        · have := HPL.out; have := HLK.out; omega
        · intro v1 w11 _ h2 h3 h4 h5
          have H12 := hide h2
          have H14 := hide h4
          have hbw := ((Below.refl w4.heap.size w4).alloc (Nat.le_refl _) (.cells #[.int .i64 (k : Int)] 3))
          have HB1' := hide (HB4.out.trans ((hbw.mono HB4.out.size).trans h3))
          have HS4 : Hid (StoreAt w.heap.size w11 w1.heap.size v4 (l.take k ++ [⟨o.bytes, o.whole, o.pub⟩])) := hide (by
            refine (H4.out.below hbw).keep fun q hq hk' => h4 q (by simpa using hq) ?_
            intro e
            obtain ⟨cs, hcs⟩ := Own.typed (hO4.out.below hbw) e.symm
            rcases hk' with hk' | hk'
            · subst hk'
              rw [(H4.out.below hbw).2.1] at hcs
              injection hcs with hcs; injection hcs with _ ht; exact absurd ht (by decide)
            · obtain ⟨cs', hcs'⟩ := Own.typed (H4.out.below hbw).2.2 hk'.symm
              rw [hcs'] at hcs
              injection hcs with hcs; injection hcs with _ ht; exact absurd ht (by decide))
          clear h2 h3 h4 h5 hbw
          go_wp2
          go_roundw
          case rel =>
            refine ⟨k + 1, by omega, by simp, hide ?_, ⟨v4, hide ?_⟩, HB1'⟩
            · rw [HP.out, HP2.out]
              exact H12.out
            · rw [HT.out]
              exact HS4.out
          case measure => simp [intOf]; omega
      | false =>
        rw [hp] at hx40
        have HP2 := hide hp
        clear hp
        go_wp2
        go_roundw
        case rel =>
          refine ⟨k + 1, by omega, by simp, hide ?_, ⟨v4, hide ?_⟩, HB4⟩
          · rw [HP.out, HP2.out]
            simpa using hO4.out
          · rw [HT.out]
            exact H4.out
        case measure => simp [intOf]; omega
    · obtain rfl : k = l.length := by omega
      rw [List.take_length] at HO HS
      go_wp2_with fail
      refine (c_spublic w.heap.size _ _ _ _ HS.out (by omega)).mono ?_
      rintro e w3 ⟨v3, rfl, h3, b3⟩
      obtain ⟨pA, pc, rfl, pr⟩ := HO.out.row
      obtain ⟨qA, qc, rfl, qr⟩ := h3.row
      have HPR := hide (pr.below b3)
      have HQR := hide qr
      have HB3 := hide (HB.out.trans (b3.mono HB.out.size))
      have HS3 := hide (HS.out.below b3)
      have hpl := pubs_len l 0
      clear h3 b3 pr qr
      go_wp2_with fail
      go_loopw [74] (fun i wq => ∃ k : Nat, k ≤ (pubs 0 l).length ∧ i = .int .i64 (k : Int) ∧ Hid (Below w3.heap.size w3 wq)) (fun i _ => (pubs 0 l).length - (intOf i).toNat)
      case atStart => exact ⟨0, Nat.zero_le _, rfl, hide (Below.refl _ _)⟩
      case round =>
        obtain ⟨k, hk, rfl, HB4⟩ := hrel
        by_cases hlt : k < (pubs 0 l).length
        · obtain ⟨x, hx⟩ : ∃ x, (pubs 0 l)[k]? = some x := ⟨_, List.getElem?_eq_getElem hlt⟩
          obtain ⟨b1, q1, cs1, hix1, -, hbl1, hK1, hra1⟩ := (HPR.out.below HB4.out).index (P := Try.prog) Try.underlying26 (E := 3) out_under2 hx
          obtain ⟨b2, q2, cs2, hix2, -, hbl2, hK2, hra2⟩ := (HQR.out.below HB4.out).index (P := Try.prog) Try.underlying26 (E := 3) out_under2 hx
          have hKe1 := hK1.1
          have hKe2 := hK2.1
          subst hKe1
          subst hKe2
          have hc1 := hra1 0 _ rfl
          have hc2 := hra2 0 _ rfl
          simp only [Nat.add_zero] at hc1 hc2
          have hkb : k ≤ 50 := by omega
          clear hx hK1 hra1 hK2 hra2
          go_wp2_with fail
          go_region
          all_goals go_wp2_with fail
          all_goals go_roundw
          all_goals first
            | (case rel => exact ⟨k + 1, by omega, by simp, hide HB4.out.drew⟩)
            | (simp [intOf]; omega)
        · obtain rfl : k = (pubs 0 l).length := by omega
          have HS5 := hide (HS3.out.below HB4.out)
          have HB5 := hide (HB3.out.trans (HB4.out.mono HB3.out.size))
          have HR5 := hide (HR.out.below HB5.out)
          clear HS HS3 HB3 HPR HQR HO HB HB4
          go_wp2_with fail
          go_loopw [89] (fun i wq => ∃ k : Nat, k ≤ l.length ∧ i = .int .i64 (k : Int) ∧ Hid (Below wr.heap.size wr wq)) (fun i _ => l.length - (intOf i).toNat)
          case atStart => exact ⟨0, Nat.zero_le _, rfl, hide (Below.refl _ _)⟩
          case round =>
            obtain ⟨k, hk, rfl, HB4⟩ := hrel
            by_cases hlt : k < l.length
            · obtain ⟨o, ho⟩ : ∃ o, l[k]? = some o := ⟨_, List.getElem?_eq_getElem hlt⟩
              obtain ⟨b, q, cs, hix, -, hbl, hK, hra⟩ := (HR5.out.below HB4.out).index (P := Try.prog) Try.underlying22 (E := 28) out_under ho
              have hKe := hK.1
              subst hKe
              have hc0 := hra 0 _ rfl
              have hc1 := hra 1 _ rfl
              have hc2 := hra 2 _ rfl
              simp only [Nat.add_zero] at hc0
              have HO := hide ho
              have hkb : k ≤ 50 := by omega
              clear ho hK hra
              go_wp2_with fail
              refine (c_sget_in w.heap.size _ _ _ _ (k : Int) k o (HS5.out.below (HB4.out.alloc HB4.out.size _)) rfl HO.out).mono ?_
              rintro e w5 ⟨rfl, b5⟩
              have hX := (heap_alloc_new wr (.cells #[.string o.bytes, .bool o.whole, .bool o.pub] 28)).symm.trans (b5.block _ (by simp)).symm
              have hx0 : w5.cell? ⟨wr.heap.size, 0, none⟩ = some (.string o.bytes) := by rw [cell_of_row w5 _ _ _ _ _ hX.symm]; rfl
              have hx1 : w5.cell? ⟨wr.heap.size, 1, none⟩ = some (.bool o.whole) := by rw [cell_of_row w5 _ _ _ _ _ hX.symm]; rfl
              have hx2 : w5.cell? ⟨wr.heap.size, 2, none⟩ = some (.bool o.pub) := by rw [cell_of_row w5 _ _ _ _ _ hX.symm]; rfl
              have hxl : wr.heap.size < w5.heap.size := (Array.getElem?_eq_some_iff.1 hX.symm).1
              have HB6 := hide ((HB4.out.alloc HB4.out.size _).trans (b5.mono (Nat.le_trans HB4.out.size (by simp))))
              clear b5 hX
              go_wp2_with fail
              go_roundw
              case rel => exact ⟨k + 1, by omega, by simp, hide (HB6.out.alloc HB6.out.size _)⟩
              case measure => simp [intOf]; omega
            · obtain rfl : k = l.length := by omega
              have HS6 := hide (HS5.out.below HB4.out)
              have HB6 := hide (HB5.out.trans (HB4.out.mono HB5.out.size))
              by_cases hn : 0 ≤ n ∧ n < l.length
              · obtain ⟨j, rfl⟩ : ∃ j : Nat, n = j := ⟨n.toNat, by omega⟩
                obtain ⟨o, ho⟩ : ∃ o, l[j]? = some o := ⟨_, List.getElem?_eq_getElem (by omega)⟩
                have HO := hide ho
                obtain ⟨hn1, hn2⟩ := hn
                clear ho
                go_wp2_with fail
                refine (c_sget_in w.heap.size _ _ _ _ (j : Int) j o HS6.out rfl HO.out).mono ?_
                rintro e w5 ⟨rfl, b5⟩
                have HB7 := hide (HB6.out.trans (b5.mono HB6.out.size))
                clear b5
                go_wp2_with fail
                go_ret
                exact ⟨rfl, HB7.out.alloc HB7.out.size _⟩
              · have hn' : n < 0 ∨ (l.length : Int) ≤ n := by omega
                have HN' := hide hn'
                clear hn hn'
                go_wp2_with fail
                refine (c_sget_out w.heap.size _ _ _ _ n HS6.out (by omega) HN'.out).mono ?_
                rintro e w5 ⟨rfl, b5⟩
                have HB7 := hide (HB6.out.trans (b5.mono HB6.out.size))
                clear b5
                rcases HN'.out with hn | hn
                · go_wp2_with fail
                  go_ret
                  exact ⟨rfl, HB7.out.alloc HB7.out.size _⟩
                · have h0 : 0 ≤ n := by omega
                  have h2 : ¬ n < l.length := by omega
                  go_wp2_with fail
                  go_ret
                  exact ⟨congrArg (fun b => Ending.returned (Value.bool b)) (show (!decide (n < (l.length : Int))) = true by simp; omega), HB7.out.alloc HB7.out.size _⟩
end Go.Proofs.Ytlfhbnajopekpaa
