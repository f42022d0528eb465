/- Tokens in memory, and whether two are one. No condition. -/
import Derived.Test.YtlfhbnajopekpaaFld2
import Derived.Test.YtlfhbnajopekpaaAgg
import Derived.Stop.BytesEq
namespace Go.Proofs.Ytlfhbnajopekpaa
open Go.RowKit

attribute [local go_sem ↓] ld16 ld17 ld32 ld36
attribute [local go_sem] run_ldAgg run_storeAgg agg_alloc_at agg_alloc_past agg_drew agg_setCell row_alloc_at row_alloc_past row_drew setRow_alloc_at setRow_alloc_past setRow_drew tgC_size tgC_one tgC_part tgC_splice tokC_size tokC_0 tokC_1 tokC_2 tokC_3 tokC_g0 tokC_g1 tokC_g2 tokC_g3 tokC_part tokC_tag tokC_set0 tokC_set1 tokC_set2 tokC_set3 tokC_splice tokC_splice0

/-- A caveat. -/
structure Cav where
  third : Bool
  text : ByteArray
  party : Nat
  id : ByteArray
  vault : ByteArray
  deriving DecidableEq
def Cav.cells (c : Cav) : List Value := [.bool c.third, .string c.text, .int .u64 (c.party : Int), .string c.id, .string c.vault]
def Cav.ok (c : Cav) : Prop := c.text.size ≤ maxLen ∧ c.party < 18446744073709551616 ∧ c.id.size ≤ maxLen ∧ c.vault.size ≤ maxLen
def kCav : Kd Cav where
  sz := 5
  K _ _ c cs := cs = c.cells ∧ c.ok
  len h := by rw [h.1]; rfl
  one h u hu := by
    rw [h.1] at hu
    simp [Cav.cells] at hu
    rcases hu with rfl | rfl | rfl | rfl | rfl <;> rfl
  keep _ h := h
  more _ h := h
  bound h := h
/-- A token. -/
structure Tok where
  key : Nat
  id : ByteArray
  cavs : List Cav
  bnd : Bool
  tag : Tg
  deriving DecidableEq
abbrev tokV (t : Tok) (A : Option Addr) (n c : Nat) : Value := .agg (tokC (.int .u64 (t.key : Int)) (.string t.id) (.slice A n c) (.bool t.bnd) t.tag)
theorem tg_size (w : World) : (sizeOf 5).run Try.prog w = .ok 1 w := by
  have h : (Try.prog.info? 5).map (·.size) = some 1 := by kernel_rfl
  simp [sizeOf, go_sem, Try.t5]
set_option maxRecDepth 100000 in
theorem tg_eql (w : World) (t u : Tg) : (binOp .eql 44 (tgV t) (tgV u)).run Try.prog w = .ok (.bool (decide (t = u))) w := by
  have h := run_eql_bytes (P := Try.prog) w 44 5 32 Try.underlying44 Try.underlying5 tg_size t.l u.l t.len u.len
  have e : (t.l == u.l) = decide (t = u) := by
    rw [Bool.eq_iff_iff]
    cases t; cases u
    simp
  rw [e] at h
  exact h

theorem bytes_inj (a b : ByteArray) : a.toList = b.toList ↔ a = b := by
  constructor
  · intro h
    rw [ByteArray.toList_eq, ByteArray.toList_eq] at h
    obtain ⟨⟨a⟩⟩ := a
    obtain ⟨⟨b⟩⟩ := b
    simpa using h
  · rintro rfl
    rfl
abbrev cavV (x : Cav) : Value := .agg #[.bool x.third, .string x.text, .int .u64 (x.party : Int), .string x.id, .string x.vault]
theorem cav_eql (x y : Cav) (wx : World) : (binOp .eql 85 (cavV x) (cavV y)).run Try.prog wx = .ok (.bool (decide (x = y))) wx := by
  have e : (decide (x = y)) = (decide (x.third = y.third) && (decide (x.text = y.text) && (decide (x.party = y.party) && (decide (x.id = y.id) && decide (x.vault = y.vault))))) := by
    rw [Bool.eq_iff_iff]
    cases x; cases y
    simp
  rw [e]
  go_simp
  simp only [bytes_inj, Int.natCast_inj]
  repeat' split
  all_goals simp_all
theorem cav_neq {x y : Cav} (h : ¬ x = y) (wx : World) : (binOp .neq 85 (cavV x) (cavV y)).run Try.prog wx = .ok (.bool true) wx := by
  go_simp
  simp only [bytes_inj, Int.natCast_inj]
  intro h1 h2 h3 h4 h5
  cases x; cases y
  simp_all
theorem cav_size : (Try.prog.info? 85).map (·.size) = some kCav.sz := by kernel_rfl
set_option maxRecDepth 100000 in
theorem c_cequal (A B : Option Addr) (n c m d : Nat) (xs ys : List Cav) (ok ok' : Nat → Prop) (w : World) (hR : kCav.Row ok w A n c xs) (hS : kCav.Row ok' w B m d ys) :
    Calls Try.prog 68 #[.slice A n c, .slice B m d] w fun e w' => e = .returned (.bool (decide (xs = ys))) ∧ Below w.heap.size w w' := by
  have hlx := hR.1
  have hly := hS.1
  have HLX := hide hlx
  have HLY := hide hly
  have HR := hide hR
  have HS := hide hS
  have hbx : n ≤ maxLen := Nat.le_trans hR.2.1 hR.2.2.1
  simp only [maxLen] at hbx
  clear hR hS hlx hly
  by_cases hl : n = m
  · subst hl
    go_enter Try.func68, Try.ntmps68
    go_wp2
    go_loopw [13] (fun i wr => ∃ k : Nat, k ≤ n ∧ i = .int .i64 (k : Int) ∧ Hid (xs.take k = ys.take k) ∧ Hid (Below w.heap.size w wr)) (fun i _ => n - (intOf i).toNat)
    case atStart => exact ⟨0, Nat.zero_le _, rfl, hide rfl, hide (Below.refl _ _)⟩
    case round =>
      obtain ⟨k, hk, rfl, HE, HB⟩ := hrel
      by_cases hlt : k < n
      · obtain ⟨x, hx⟩ : ∃ x, xs[k]? = some x := ⟨_, List.getElem?_eq_getElem (by have := HLX.out; omega)⟩
        obtain ⟨y, hy⟩ : ∃ y, ys[k]? = some y := ⟨_, List.getElem?_eq_getElem (by have := HLY.out; omega)⟩
        obtain ⟨b1, q1, cs1, hix1, -, hbl1, hK1, hra1⟩ := (HR.out.below HB.out).index (P := Try.prog) Try.underlying57 (E := 85) cav_size hx
        obtain ⟨b2, q2, cs2, hix2, -, hbl2, hK2, hra2⟩ := (HS.out.below HB.out).index (P := Try.prog) Try.underlying57 (E := 85) cav_size hy
        have hKe1 := hK1.1
        have hKe2 := hK2.1
        subst hKe1
        subst hKe2
        have a0 := hra1 0 _ rfl
        have a1 := hra1 1 _ rfl
        have a2 := hra1 2 _ rfl
        have a3 := hra1 3 _ rfl
        have a4 := hra1 4 _ rfl
        have b0 := hra2 0 _ rfl
        have b1 := hra2 1 _ rfl
        have b2 := hra2 2 _ rfl
        have b3 := hra2 3 _ rfl
        have b4 := hra2 4 _ rfl
        simp only [Nat.add_zero] at a0 b0
        have HX := hide hx
        have HY := hide hy
        clear hx hy hK1 hK2 hra1 hra2
        by_cases hxy : x = y
        · subst hxy
          have HE2 : Hid (xs.take (k + 1) = ys.take (k + 1)) := hide (by
            rw [List.take_add_one, List.take_add_one, HX.out, HY.out, HE.out])
          go_wp2_with fail
          go_region
          all_goals go_wp2_with fail
          all_goals go_roundw
          all_goals first
            | (case rel => exact ⟨k + 1, by omega, by simp, HE2, hide HB.out.drew⟩)
            | (simp [intOf]; omega)
        · have HNE := hide hxy
          have HF : Hid (decide (xs = ys) = false) := hide (decide_eq_false fun e => by
            subst e
            have := HX.out.symm.trans HY.out
            exact HNE.out (Option.some.inj this))
          have hne := cav_neq (x := x) (y := y) hxy
          clear hxy
          go_wp2_with fail
          go_region
          all_goals go_wp2_with fail
          all_goals go_ret
          all_goals exact ⟨by rw [HF.out]; rfl, HB.out.drew⟩
      · obtain rfl : k = n := by omega
        have HF : Hid (decide (xs = ys) = true) := hide (decide_eq_true (by
          have := HE.out
          rwa [List.take_of_length_le (Nat.le_of_eq HLX.out), List.take_of_length_le (Nat.le_of_eq HLY.out)] at this))
        go_wp2_with fail
        go_ret
        exact ⟨by rw [HF.out]; rfl, HB.out⟩
  · have HF : Hid (decide (xs = ys) = false) := hide (decide_eq_false fun e => by
      subst e
      exact hl (HLX.out.symm.trans HLY.out))
    go_enter Try.func68, Try.ntmps68
    go_wp2
    go_ret
    exact ⟨by rw [HF.out]; rfl, Below.refl _ _⟩

theorem tok_eq {t u : Tok} : t = u ↔ t.key = u.key ∧ t.id = u.id ∧ t.bnd = u.bnd ∧ t.tag = u.tag ∧ t.cavs = u.cavs := by
  cases t; cases u
  simp only [Tok.mk.injEq]
  constructor
  · rintro ⟨h1, h2, h3, h4, h5⟩; exact ⟨h1, h2, h4, h5, h3⟩
  · rintro ⟨h1, h2, h3, h4, h5⟩; exact ⟨h1, h2, h5, h3, h4⟩
set_option maxRecDepth 100000 in
set_option maxHeartbeats 1000000 in
theorem c_psame (t u : Tok) (A B : Option Addr) (n c m d : Nat) (ok ok' : Nat → Prop) (w : World) (hR : kCav.Row ok w A n c t.cavs) (hS : kCav.Row ok' w B m d u.cavs) :
    Calls Try.prog 32 #[tokV t A n c, tokV u B m d] w fun e w' => e = .returned (.bool (decide (t = u))) ∧ Below w.heap.size w w' := by
  have HR := hide hR
  have HS := hide hS
  have htag := fun wx => tg_eql wx t.tag u.tag
  clear hR hS
  by_cases h1 : t.key = u.key
  · by_cases h2 : t.id = u.id
    · by_cases h3 : t.bnd = u.bnd
      · by_cases h4 : t.tag = u.tag
        · have HE : Hid (decide (t = u) = decide (t.cavs = u.cavs)) := hide (by
            rw [Bool.eq_iff_iff]; simp only [decide_eq_true_eq, tok_eq, h1, h2, h3, h4, true_and])
          rw [decide_eq_true h4] at htag
          have h1' : (t.key : Int) = u.key := by rw [h1]
          have h2' := (bytes_inj _ _).2 h2
          clear h1 h2 h4
          go_enter Try.func32, Try.ntmps32
          go_wp2_with fail
          refine (c_cequal A B n c m d _ _ ok ok' _ (HR.out.below (below2 _ _ _)) (HS.out.below (below2 _ _ _))).mono ?_
          rintro e w1 ⟨rfl, b1⟩
          have HB := hide (bnext (below2 _ _ _) b1)
          clear b1
          go_wp2_with fail
          go_ret
          exact ⟨by rw [HE.out]; rfl, HB.out⟩
        · have HE : Hid (decide (t = u) = false) := hide (decide_eq_false fun e => h4 (by rw [e]))
          rw [decide_eq_false h4] at htag
          have h1' : (t.key : Int) = u.key := by rw [h1]
          have h2' := (bytes_inj _ _).2 h2
          clear h1 h2 h4
          go_enter Try.func32, Try.ntmps32
          go_wp2_with fail
          go_ret
          exact ⟨by rw [HE.out]; rfl, below2 _ _ _⟩
      · have HE : Hid (decide (t = u) = false) := hide (decide_eq_false fun e => h3 (by rw [e]))
        have h1' : (t.key : Int) = u.key := by rw [h1]
        have h2' := (bytes_inj _ _).2 h2
        clear h1 h2
        go_enter Try.func32, Try.ntmps32
        go_wp2_with fail
        go_ret
        exact ⟨by rw [HE.out]; rfl, below2 _ _ _⟩
    · have HE : Hid (decide (t = u) = false) := hide (decide_eq_false fun e => h2 (by rw [e]))
      have h1' : (t.key : Int) = u.key := by rw [h1]
      have h2' : ¬ t.id.toList = u.id.toList := fun e => h2 ((bytes_inj _ _).1 e)
      clear h1 h2
      go_enter Try.func32, Try.ntmps32
      go_wp2_with fail
      go_ret
      exact ⟨by rw [HE.out]; rfl, below2 _ _ _⟩
  · have HE : Hid (decide (t = u) = false) := hide (decide_eq_false fun e => h1 (by rw [e]))
    have h1' : ¬ (t.key : Int) = u.key := fun e => h1 (by omega)
    clear h1
    go_enter Try.func32, Try.ntmps32
    go_wp2_with fail
    go_ret
    exact ⟨by rw [HE.out]; rfl, below2 _ _ _⟩
end Go.Proofs.Ytlfhbnajopekpaa
