/- The walks of layer 10: a token out of its bytes. No condition. -/
import Derived.Test.YtlfhbnajopekpaaPkt5
namespace Go.Proofs.Ytlfhbnajopekpaa
open Go.RowKit
attribute [local go_sem ↓] ld16 ld17 ld32 ld36
attribute [local go_sem] run_ldAgg run_storeAgg agg_alloc_at agg_alloc_past agg_drew agg_setCell row_alloc_at row_alloc_past row_drew setRow_alloc_at setRow_alloc_past setRow_drew agg_setRow_at agg_setRow_far cell_setRow_at cell_setRow_far row_setRow_far size_setRow tgC_size tgC_one tgC_part tgC_splice tokC_size tokC_0 tokC_1 tokC_2 tokC_3 tokC_g0 tokC_g1 tokC_g2 tokC_g3 tokC_part tokC_tag tokC_set0 tokC_set1 tokC_set2 tokC_set3 tokC_splice tokC_splice0 tgC_splice_any zero_tg zero_tok tokC_all tokC_ne tgC_ne

def Tok.zero : Tok := ⟨0, ByteArray.empty, [], false, Tg.zero⟩
def b0 : ByteArray := ⟨#[0]⟩
def b1 : ByteArray := ⟨#[1]⟩
/-- The token that bytes are read to. -/
def pdec (b : List UInt8) : Option Tok :=
  (fall b).bind fun l => (pnum 1 l).bind fun k => (ptake 2 k.2).bind fun i => (pcavs i.2).bind fun c => (ptake 7 c.2).bind fun f => (ptake 8 f.2).bind fun m => (tagOf (byt m.1)).bind fun t =>
    if m.2 = [] ∧ (f.1 = b0 ∨ f.1 = b1) ∧ checkT ⟨k.1, i.1, c.1, decide (f.1 = b1), t⟩ = true then some ⟨k.1, i.1, c.1, decide (f.1 = b1), t⟩ else none
def Decoded (w : World) (o : Option Tok) (e : Ending) (w' : World) : Prop :=
  ∃ A n c, e = .returned (.tuple #[tokV (o.getD Tok.zero) A n c, .int .i64 (if o.isSome then 0 else 2)]) ∧ kCav.Own (fun _ => False) w.heap.size w' 85 (.slice A n c) (o.getD Tok.zero).cavs ∧ Below w.heap.size w w'

theorem fall_len : ∀ (k : Nat) (l : List UInt8) (r : List Fld), l.length ≤ k → fall l = some r → r.length ≤ l.length
  | 0, l, r, h, hf => by
    obtain rfl : l = [] := List.eq_nil_of_length_eq_zero (by omega)
    rw [fall_nil] at hf
    cases hf
    simp
  | k + 1, l, r, h, hf => by
    by_cases h0 : l = []
    · subst h0
      rw [fall_nil] at hf
      cases hf
      simp
    · cases hg : fget l with
      | none => rw [fall_none h0 hg] at hf; cases hf
      | some fk =>
        obtain ⟨f, n⟩ := fk
        rw [fall_some h0 hg] at hf
        obtain ⟨q, hq, rfl⟩ := Option.map_eq_some_iff.1 hf
        have hp := fget_pos hg
        have := fall_len k (l.drop n) q (by simp; omega) hq
        simp at this ⊢
        omega
theorem bind_len {s : Option (List Fld)} {α : Type} {f : List Fld → Option (α × List Fld)} {n : Nat} (hs : ∀ l, s = some l → l.length ≤ n) (hf : ∀ l x r, f l = some (x, r) → r.length ≤ l.length) : ∀ l, (s.bind f).map (·.2) = some l → l.length ≤ n := by
  intro l h
  obtain ⟨⟨x, r⟩, h1, rfl⟩ := Option.map_eq_some_iff.1 h
  obtain ⟨q, h2, h3⟩ := Option.bind_eq_some_iff.1 h1
  exact Nat.le_trans (hf _ _ _ h3) (hs q h2)

section
variable {w w' : World} {base q : Nat} {E : TypeId} {v : Value} {xs : List Cav}
theorem own_set (h : kCav.Own (fun _ => False) base w E v xs) (hq : q < base) (o : Nat) (u : Value) : kCav.Own (fun _ => False) base (w.setCell ⟨q, o, none⟩ u) E v xs :=
  h.keep fun k _ hk => Below.heap_setCell _ _ _ _ (by
    rcases hk with hk | hk
    · exact hk.elim
    · have := (h.base_le k hk.symm).1; show k ≠ q; omega)
theorem own_row (h : kCav.Own (fun _ => False) base w E v xs) (hq : q < base) (C : Array Value) : kCav.Own (fun _ => False) base (w.setRow q C) E v xs :=
  h.keep fun k _ hk => heap_setRow_far _ _ _ (by
    rcases hk with hk | hk
    · exact hk.elim
    · have := (h.base_le k hk.symm).1; show ¬ k = q; omega)
theorem Only.b {g B : Nat} (h : Only g w w') (hB : B ≤ g) (hw : B ≤ w.heap.size) : Below B w w' := ⟨h.1, h.2.1, h.2.2.1, h.size, fun k hk => h.2.2.2.2 k (by omega) (by omega)⟩
end
theorem pdec_eq {xs : List UInt8} {s1 s2 s3 s4 s5 : Option (List Fld)} {k : Nat} {d f m : ByteArray} {cs : List Cav}
    (h1 : s1 = ((fall xs).bind (pnum 1)).map (·.2)) (hk : ∀ x r, (fall xs).bind (pnum 1) = some (x, r) → k = x)
    (h2 : s2 = (s1.bind (ptake 2)).map (·.2)) (hd : ∀ x r, s1.bind (ptake 2) = some (x, r) → d = x)
    (h3 : s3 = (s2.bind pcavs).map (·.2)) (hc : cs = ((s2.bind pcavs).map (·.1)).getD [])
    (h4 : s4 = (s3.bind (ptake 7)).map (·.2)) (hf : ∀ x r, s3.bind (ptake 7) = some (x, r) → f = x)
    (h5 : s5 = (s4.bind (ptake 8)).map (·.2)) (hm : ∀ x r, s4.bind (ptake 8) = some (x, r) → m = x) :
    pdec xs = s5.bind fun l => (tagOf (byt m)).bind fun t => if l = [] ∧ (f = b0 ∨ f = b1) ∧ checkT ⟨k, d, cs, decide (f = b1), t⟩ = true then some ⟨k, d, cs, decide (f = b1), t⟩ else none := by
  unfold pdec
  cases e0 : fall xs with
  | none => rw [e0] at h1; subst h1; subst h2; subst h3; subst h4; subst h5; rfl
  | some l0 =>
    rw [e0] at h1 hk
    simp only [Option.bind_some] at h1 hk ⊢
    cases e1 : pnum 1 l0 with
    | none => rw [e1] at h1; subst h1; subst h2; subst h3; subst h4; subst h5; rfl
    | some y1 =>
      rw [e1] at h1 hk
      subst h1
      obtain rfl := hk _ _ rfl
      simp only [Option.bind_some, Option.map_some] at h2 hd ⊢
      cases e2 : ptake 2 y1.2 with
      | none => rw [e2] at h2; subst h2; subst h3; subst h4; subst h5; rfl
      | some y2 =>
        rw [e2] at h2 hd
        subst h2
        obtain rfl := hd _ _ rfl
        simp only [Option.bind_some, Option.map_some] at h3 hc ⊢
        cases e3 : pcavs y2.2 with
        | none => rw [e3] at h3; subst h3; subst h4; subst h5; rfl
        | some y3 =>
          rw [e3] at h3 hc
          subst h3
          simp only [Option.map_some, Option.getD_some] at hc
          subst hc
          simp only [Option.bind_some, Option.map_some] at h4 hf ⊢
          cases e4 : ptake 7 y3.2 with
          | none => rw [e4] at h4; subst h4; subst h5; rfl
          | some y4 =>
            rw [e4] at h4 hf
            subst h4
            obtain rfl := hf _ _ rfl
            simp only [Option.bind_some, Option.map_some] at h5 hm ⊢
            cases e5 : ptake 8 y4.2 with
            | none => rw [e5] at h5; subst h5; rfl
            | some y5 =>
              rw [e5] at h5 hm
              subst h5
              obtain rfl := hm _ _ rfl
              rfl
theorem flag_eq (f : ByteArray) (x : UInt8) : (f.toList == [x]) = decide (f = ⟨#[x]⟩) := by
  have h : (⟨#[x]⟩ : ByteArray).toList = [x] := by rw [ByteArray.toList_eq]
  rw [Bool.eq_iff_iff, beq_iff_eq, decide_eq_true_eq]
  exact ⟨fun e => (bytes_inj _ _).1 (e.trans h.symm), fun e => by rw [e]; exact h⟩
theorem own_row_of {w : World} {base : Nat} {E : TypeId} {A : Option Addr} {n c : Nat} {xs : List Cav} (h : kCav.Own (fun _ => False) base w E (.slice A n c) xs) : kCav.Row (fun k => False ∨ some k = (Value.slice A n c).ownBlock) w A n c xs := by
  obtain ⟨A', c', e, r⟩ := h.row
  cases e
  exact r
theorem own_row_of' {w w' : World} {base : Nat} {E : TypeId} {v : Value} {xs : List Cav} (h : kCav.Own (fun _ => False) base w E v xs) (hb : Below w.heap.size w w') : kCav.Own (fun _ => False) base w' E v xs := h.below hb
theorem dec_fail {xs : List UInt8} {w W : World} (hpn : pdec xs = none) (hB : Below w.heap.size w W) :
    Decoded w (pdec xs) (.returned (.tuple #[.agg (tokC (.int .u64 0) (.string ⟨#[]⟩) (.slice none 0 0) (.bool false) Tg.zero), .int .i64 2])) W := by
  rw [hpn]
  exact ⟨none, 0, 0, rfl, .nil _ _ _ _ _, hB⟩
set_option maxRecDepth 100000 in
set_option maxHeartbeats 1000000 in
theorem c_decode (A : Option Addr) (n c : Nat) (xs : List UInt8) (ok : Nat → Prop) (w : World) (hR : kU8.Row ok w A n c xs) (hn : n ≤ 1099511627776) :
    Calls Try.prog 31 #[.slice A n c] w (Decoded w (pdec xs)) := by
  have HR := hide hR
  have HN := hide hn
  have HL := hide hR.1
  clear hR hn
  obtain ⟨s0, hs0⟩ : ∃ s0, s0 = fall xs := ⟨_, rfl⟩
  have HS0 := hide hs0
  have HSL : Hid (∀ l, s0 = some l → l.length ≤ 1099511627776) := hide (fun l h => by rw [hs0] at h; exact Nat.le_trans (fall_len _ xs l (Nat.le_refl _) h) (by rw [HL.out]; exact HN.out))
  clear hs0
  go_enter Try.func31, Try.ntmps31
  go_wp2_with fail
  refine (c_fall A n c xs ok _ (HR.out.alloc _) HN.out).mono ?_
  rintro e w1 ⟨b1, v, b, rfl, hb, ho⟩
  rw [← HS0.out] at hb ho
  subst hb
  obtain ⟨A1, c1, rfl, hr⟩ := ho.row
  have HB1 := hide (bnext (below1 _ _) b1)
  have hw1 : w.heap.size < w1.heap.size := by have := b1.size; simp only [World.size_alloc] at this; omega
  have HZ := hide ((b1.block w.heap.size (by simp)).trans (heap_alloc_new _ _))
  have HR1 := hide (hr.bound.more fun k hk => hk.2)
  clear b1 ho hr
  have hrd : RdAt (w1.alloc (.cells #[.slice A1 (s0.getD []).length c1, .bool s0.isNone] 123)) w1.heap.size s0 := ⟨A1, _, c1, _, heap_alloc_new _ _, HR1.out.alloc _, fun r h => by rw [h]; rfl⟩
  have HRD := hide hrd
  clear hrd
  go_wp2_with fail
  refine (c_rnumber (w1.alloc (.cells #[.slice A1 (s0.getD []).length c1, .bool s0.isNone] 123)) w1.heap.size 1 s0 _ rfl HRD.out).mono ?_
  rintro e w2 ⟨k, rfl, hk, hkx, h1, h2⟩
  obtain ⟨s1, hs1⟩ : ∃ s1, s1 = (s0.bind (pnum 1)).map (·.2) := ⟨_, rfl⟩
  rw [← hs1] at h2
  have HS1 := hide hs1
  have HK := hide hk
  have HKX := hide hkx
  have HR2 := hide h2
  have HO2 := hide h1
  have hw2 : w1.heap.size < w2.heap.size := by have := h1.size; simp only [World.size_alloc] at this; omega
  clear hk hkx h1 h2 hs1
  go_wp2_with fail
  refine (c_rtake w2 w1.heap.size 2 s1 _ rfl HR2.out).mono ?_
  rintro e w3 ⟨d, rfl, hd, hdx, h1, h2⟩
  obtain ⟨s2, hs2⟩ : ∃ s2, s2 = (s1.bind (ptake 2)).map (·.2) := ⟨_, rfl⟩
  rw [← hs2] at h2
  have HS2 := hide hs2
  have HD := hide hd
  have HDX := hide hdx
  have HR3 := hide h2
  have HO3 := hide (HO2.out.trans h1)
  have hw3 : w1.heap.size < w3.heap.size := by have := h1.size; omega
  clear hd hdx h1 h2 hs2
  go_wp2_with fail
  refine (c_rcavs (w3.alloc (.cells (tokC (.int .u64 (k : Int)) (.string d) (.slice none 0 0) (.bool false) Tg.zero) 59)) w1.heap.size s2 (HR3.out.below (below1 _ _)) ?_).mono ?_
  · have hl1 : ∀ l, s1 = some l → l.length ≤ 1099511627776 := by
      rw [HS1.out]
      exact bind_len HSL.out fun l x r h => by have := pnum_len h; omega
    rw [HS2.out]
    exact bind_len hl1 fun l x r h => by have := ptake_len h; omega
  rintro e w4 ⟨v4, rfl, h1, ho, h2⟩
  obtain ⟨s3, hs3⟩ : ∃ s3, s3 = (s2.bind pcavs).map (·.2) := ⟨_, rfl⟩
  obtain ⟨cs, hcs⟩ : ∃ cs, cs = ((s2.bind pcavs).map (·.1)).getD [] := ⟨_, rfl⟩
  rw [← hs3] at h2
  rw [← hcs] at ho
  obtain ⟨A4, c4, rfl⟩ := ho.form
  have HS3 := hide hs3
  have HCS := hide hcs
  have HR4 := hide h2
  have HO4 := hide h1
  have HV4 := hide ho
  have hw4 : w3.heap.size < w4.heap.size := by have := h1.size; simp only [World.size_alloc] at this; omega
  have hq4 : w4.heap[w3.heap.size]? = some (.cells (tokC (.int .u64 (k : Int)) (.string d) (.slice none 0 0) (.bool false) Tg.zero) 59 (0, 0)) := (h1.2.2.2.2 _ (by simp) (by omega)).trans (heap_alloc_new _ _)
  have HQ4 := hide hq4
  have hy2 : w4.cell? ⟨w3.heap.size, 2, none⟩ = some (.slice none 0 0) := (cell_of_row w4 _ _ _ _ _ hq4).trans (tokC_2 _ _ _ _ _)
  have hyf : ∀ j, w4.frozen? ⟨w3.heap.size, j, none⟩ = false := fun j => frozen_of_row w4 _ _ _ _ hq4
  clear h1 h2 ho hs3 hcs hq4
  go_wp2_with fail
  refine (c_rtake (w4.setCell ⟨w3.heap.size, 2, none⟩ (.slice A4 cs.length c4)) w1.heap.size 7 s3 _ rfl (HR4.out.keep fun k hk => Below.heap_setCell _ _ _ _ (by show k ≠ w3.heap.size; omega))).mono ?_
  rintro e w5 ⟨f, rfl, hf, hfx, h1, h2⟩
  obtain ⟨s4, hs4⟩ : ∃ s4, s4 = (s3.bind (ptake 7)).map (·.2) := ⟨_, rfl⟩
  rw [← hs4] at h2
  have HS4 := hide hs4
  have HFX := hide hfx
  have HR5 := hide h2
  have HO5 := hide h1
  have hw5 : w4.heap.size ≤ w5.heap.size := by have := h1.size; simpa using this
  have hq5 : w5.heap[w3.heap.size]? = some (.cells (tokC (.int .u64 (k : Int)) (.string d) (.slice A4 cs.length c4) (.bool false) Tg.zero) 59 (0, 0)) :=
    (h1.2.2.2.2 _ (by simp; omega) (by omega)).trans ((heap_setCell_at HQ4.out _).trans (by rw [tokC_set2]))
  have HQ5 := hide hq5
  have hz3 : w5.cell? ⟨w3.heap.size, 3, none⟩ = some (.bool false) := (cell_of_row w5 _ _ _ _ _ hq5).trans (tokC_3 _ _ _ _ _)
  have hzf : ∀ j, w5.frozen? ⟨w3.heap.size, j, none⟩ = false := fun j => frozen_of_row w5 _ _ _ _ hq5
  obtain ⟨fb, hfb⟩ : ∃ fb, fb = (f.toList == [1]) := ⟨_, rfl⟩
  have HFB := hide (hfb.trans (flag_eq f 1))
  clear h1 h2 hf hfx hs4 hq5 hy2 hyf
  go_wp2_with fail
  rw [← hfb]
  clear hfb
  refine (c_rtake (w5.setCell ⟨w3.heap.size, 3, none⟩ (.bool fb)) w1.heap.size 8 s4 _ rfl (HR5.out.keep fun k hk => Below.heap_setCell _ _ _ _ (by show k ≠ w3.heap.size; omega))).mono ?_
  rintro e w6 ⟨m, rfl, hm, hmx, h1, h2⟩
  obtain ⟨s5, hs5⟩ : ∃ s5, s5 = (s4.bind (ptake 8)).map (·.2) := ⟨_, rfl⟩
  rw [← hs5] at h2
  have HPD : Hid (pdec xs = _) := hide (pdec_eq (by rw [HS1.out, HS0.out]) (by rw [← HS0.out]; exact HKX.out) HS2.out HDX.out HS3.out HCS.out HS4.out HFX.out hs5 hmx)
  have HM := hide hm
  have HR6 := hide h2
  have HO6 := hide h1
  have hw6 : w5.heap.size ≤ w6.heap.size := by have := h1.size; simpa using this
  have hq6 : w6.heap[w3.heap.size]? = some (.cells (tokC (.int .u64 (k : Int)) (.string d) (.slice A4 cs.length c4) (.bool fb) Tg.zero) 59 (0, 0)) :=
    (h1.2.2.2.2 _ (by simp; omega) (by omega)).trans ((heap_setCell_at HQ5.out _).trans (by rw [tokC_set3]))
  have HQ6 := hide hq6
  clear h1 h2 hm hmx hs5 hq6 hz3 hzf
  go_wp2_with (refine at_tobytes (P := Try.prog) 9 60 m rfl Try.underlying9 Try.underlying60 Try.underlying5 HM.out _ rfl ?_)
  intro c7 w7 hr7 b7 hl7
  have HR7 := hide hr7
  have HB7 := hide b7
  clear hr7 b7
  go_wp2_with fail
  refine (c_tagof _ _ c7 _ _ _ HR7.out).mono ?_
  rintro e w8 ⟨rfl, b8⟩
  have hw8 : w6.heap.size < w8.heap.size := by have := b8.size; omega
  have HB8 : Hid (Below w6.heap.size w6 w8) := hide (bnext HB7.out b8)
  have HR8 := hide (HR6.out.below HB8.out)
  have hq8 := (HB8.out.block _ (by omega)).trans HQ6.out
  have hr8 := row_of hq8
  clear b8
  have hBB : Below w1.heap.size w1 w8 := by
    have B1 : Below w1.heap.size w1 w3 := (below1 w1 (.cells #[.slice A1 (s0.getD []).length c1, .bool s0.isNone] 123)).trans (HO3.out.b (Nat.le_refl _) (by simp))
    have B2 : Below w1.heap.size w3 w4 := ((below1 w3 _).mono (by omega)).trans (HO4.out.b (Nat.le_refl _) (by simp; omega))
    have B3 : Below w1.heap.size w4 w5 := ((Below.refl _ _).setCell (by show _ ≤ w3.heap.size; omega) _).trans (HO5.out.b (Nat.le_refl _) (by simp; omega))
    have B4 : Below w1.heap.size w5 w6 := ((Below.refl _ _).setCell (by show _ ≤ w3.heap.size; omega) _).trans (HO6.out.b (Nat.le_refl _) (by simp; omega))
    exact (((B1.trans B2).trans B3).trans B4).trans (HB8.out.mono (by omega))
  have HBW : Hid (Below w.heap.size w w8) := hide (HB1.out.trans (hBB.mono HB1.out.size))
  have hz8 : row? w8 w.heap.size = some (tokC (.int .u64 0) (.string ⟨#[]⟩) (.slice none 0 0) (.bool false) Tg.zero) := row_of ((hBB.block _ hw1).trans HZ.out)
  have HV8 : Hid (kCav.Own (fun _ => False) (w3.heap.size + 1) w8 85 (.slice A4 cs.length c4) cs) := hide (by
    have h := HV4.out
    simp only [World.size_alloc] at h
    exact (own_only (own_set (own_only (own_set h (by omega) 2 _) (by omega) HO5.out) (by omega) 3 _) (by omega) HO6.out).below HB8.out |> fun x => x)
  obtain ⟨A9, n9, c9, l9, hg9, hrow9, hl9⟩ := HR8.out
  have HL9 := hide hl9
  have HN9 := hide hrow9.1
  have hx0 : w8.cell? ⟨w1.heap.size, 0, none⟩ = some (.slice A9 n9 c9) := (cell_of_row w8 _ _ _ _ _ hg9).trans rfl
  have hx1 : w8.cell? ⟨w1.heap.size, 1, none⟩ = some (.bool s5.isNone) := (cell_of_row w8 _ _ _ _ _ hg9).trans rfl
  have hgq : ¬ w1.heap.size = w3.heap.size := by omega
  have hqr : ¬ w3.heap.size = w.heap.size := by omega
  have hrq : ¬ w.heap.size = w3.heap.size := by omega
  have hsz8 : w3.heap.size < w8.heap.size := by omega
  have hsr8 : w.heap.size < w8.heap.size := by omega
  have hsg8 : w1.heap.size < w8.heap.size := by omega
  have hrr : ∀ X, row? (w8.setRow w3.heap.size X) w.heap.size = some (tokC (.int .u64 0) (.string ⟨#[]⟩) (.slice none 0 0) (.bool false) Tg.zero) := fun X => (row_setRow_far _ _ _ _ hrq).trans hz8
  have HQ8 := hide hq8
  clear hg9 hrow9 hl9 hq8
  cases ht : tagOf (byt m) with
  | none =>
    have HPN : Hid (pdec xs = none) := hide (by rw [HPD.out, ht]; cases s5 <;> rfl)
    clear ht
    unfold tagV
    cases s5 with
    | none =>
      go_wp2_with fail
      exact bodyPost_ret (v := .tuple #[.agg (tokC (.int .u64 0) (.string ⟨#[]⟩) (.slice none 0 0) (.bool false) Tg.zero), .int .i64 2]) (by simp [results, Try.results31, go_sem, hrr, hsr8]) rfl (dec_fail HPN.out (by repeat (first | exact HBW.out | refine Below.alloc ?_ (by simp; omega) _ | refine bsetRow ?_ (by omega) _)))
    | some l5 =>
      go_wp2_with fail
      exact bodyPost_ret (v := .tuple #[.agg (tokC (.int .u64 0) (.string ⟨#[]⟩) (.slice none 0 0) (.bool false) Tg.zero), .int .i64 2]) (by simp [results, Try.results31, go_sem, hrr, hsr8]) rfl (dec_fail HPN.out (by repeat (first | exact HBW.out | refine Below.alloc ?_ (by simp; omega) _ | refine bsetRow ?_ (by omega) _)))
  | some t =>
    unfold tagV
    cases s5 with
    | none =>
      have HPN : Hid (pdec xs = none) := hide (by rw [HPD.out]; rfl)
      clear ht
      go_wp2_with fail
      exact bodyPost_ret (v := .tuple #[.agg (tokC (.int .u64 0) (.string ⟨#[]⟩) (.slice none 0 0) (.bool false) Tg.zero), .int .i64 2]) (by simp [results, Try.results31, go_sem, hrr, hsr8]) rfl (dec_fail HPN.out (by repeat (first | exact HBW.out | refine Below.alloc ?_ (by simp; omega) _ | refine bsetRow ?_ (by omega) _)))
    | some l5 =>
      have HPE : Hid (pdec xs = if l5 = [] ∧ (f = b0 ∨ f = b1) ∧ checkT ⟨k, d, cs, decide (f = b1), t⟩ = true then some ⟨k, d, cs, decide (f = b1), t⟩ else none) := hide (by rw [HPD.out, ht]; rfl)
      clear ht
      have hl9 := HL9.out l5 rfl
      by_cases h5 : n9 = 0
      · have h5' : l5 = [] := List.eq_nil_of_length_eq_zero (by rw [← hl9, HN9.out, h5])
        subst h5
        by_cases hgood : f = b0 ∨ f = b1
        · have hBF : (fb = true ∧ ¬ f.toList = [0]) ∨ (fb = false ∧ f.toList = [0]) := by
            rcases hgood with h | h
            · right
              refine ⟨by rw [HFB.out, h]; decide, by rw [h, ByteArray.toList_eq]; rfl⟩
            · left
              refine ⟨by rw [HFB.out, h]; decide, by rw [h, ByteArray.toList_eq]; decide⟩
          have HPE2 : Hid (pdec xs = if checkT ⟨k, d, cs, fb, t⟩ = true then some ⟨k, d, cs, fb, t⟩ else none) := hide (by
            have hq : fb = decide (f = b1) := HFB.out
            rw [HPE.out, hq]
            show (if l5 = [] ∧ (f = b0 ∨ f = b1) ∧ checkT ⟨k, d, cs, decide (f = b1), t⟩ = true then _ else _) = if checkT ⟨k, d, cs, decide (f = b1), t⟩ = true then _ else _
            simp only [h5', hgood, true_and])
          have HV9 := hide ((own_row HV8.out (Nat.lt_succ_self _) (tokC (.int .u64 (k : Int)) (.string d) (.slice A4 cs.length c4) (.bool fb) t)).below (below1 _ (.cells (tgC t) 44)))
          have HBX : Hid (Below w.heap.size w ((w8.setRow w3.heap.size (tokC (.int .u64 (k : Int)) (.string d) (.slice A4 cs.length c4) (.bool fb) t)).alloc (.cells (tgC t) 44))) := hide ((bsetRow HBW.out (by omega) _).alloc (by simp; omega) _)
          have hrx : row? ((w8.setRow w3.heap.size (tokC (.int .u64 (k : Int)) (.string d) (.slice A4 cs.length c4) (.bool fb) t)).alloc (.cells (tgC t) 44)) w.heap.size = some (tokC (.int .u64 0) (.string ⟨#[]⟩) (.slice none 0 0) (.bool false) Tg.zero) := by
            rw [row_alloc_past _ _ _ (by simp; omega)]
            exact hrr _
          have HRX := hide hrx
          have HQX : Hid (((w8.setRow w3.heap.size (tokC (.int .u64 (k : Int)) (.string d) (.slice A4 cs.length c4) (.bool fb) t)).alloc (.cells (tgC t) 44)).heap[w3.heap.size]? = some (.cells (tokC (.int .u64 (k : Int)) (.string d) (.slice A4 cs.length c4) (.bool fb) t) 59)) := hide ((Below.heap_alloc _ _ _ (by simp; omega)).trans (setRow_heap _ _ _ _ _ _ HQ8.out))
          have HSX : Hid (w.heap.size < ((w8.setRow w3.heap.size (tokC (.int .u64 (k : Int)) (.string d) (.slice A4 cs.length c4) (.bool fb) t)).alloc (.cells (tgC t) 44)).heap.size ∧ w3.heap.size < ((w8.setRow w3.heap.size (tokC (.int .u64 (k : Int)) (.string d) (.slice A4 cs.length c4) (.bool fb) t)).alloc (.cells (tgC t) 44)).heap.size) := hide (by simp; omega)
          clear hgood h5' hl9 hrx
          rcases hBF with ⟨rfl, hz⟩ | ⟨rfl, hz⟩
          · go_wp2_with fail
            refine (c_check ⟨k, d, cs, true, t⟩ A4 cs.length c4 _ _ (own_row_of HV9.out)).mono ?_
            rintro e w9 ⟨rfl, b9⟩
            have HB9 := hide b9
            have hs9 := b9.size
            have hsx := HSX.out
            have hr9 : row? w9 w.heap.size = some (tokC (.int .u64 0) (.string ⟨#[]⟩) (.slice none 0 0) (.bool false) Tg.zero) := by
              have := HRX.out
              unfold row? at this ⊢
              rw [b9.block _ hsx.1]
              exact this
            have ha9 : agg? w9 ⟨w3.heap.size, 0, none⟩ 36 = some (tokC (.int .u64 (k : Int)) (.string d) (.slice A4 cs.length c4) (.bool true) t) := by
              rw [agg_of_row ((b9.block _ hsx.2).trans HQX.out) 0 36 (by decide)]
              exact tokC_part _ _ _ _ _
            have HW9 := hide (HBX.out.trans (b9.mono HBX.out.size))
            clear b9
            cases hc : checkT ⟨k, d, cs, true, t⟩ with
            | true =>
              have HPS : Hid (pdec xs = some ⟨k, d, cs, true, t⟩) := hide (by rw [HPE2.out, hc]; rfl)
              have HVF := hide ((own_row_of' HV9.out HB9.out))
              clear hc
              simp only [errV]
              go_wp2_with fail
              exact bodyPost_ret (v := .tuple #[.agg (tokC (.int .u64 (k : Int)) (.string d) (.slice A4 cs.length c4) (.bool true) t), .int .i64 0]) (by simp [results, Try.results31, go_sem, hr9]) rfl (by
                rw [HPS.out]
                exact ⟨A4, cs.length, c4, rfl, (own_row HVF.out (by omega) _).lower (by omega), bsetRow HW9.out (Nat.le_refl _) _⟩)
            | false =>
              have HPN : Hid (pdec xs = none) := hide (by rw [HPE2.out, hc]; rfl)
              clear hc
              simp only [errV]
              go_wp2_with fail
              exact bodyPost_ret (v := .tuple #[.agg (tokC (.int .u64 0) (.string ⟨#[]⟩) (.slice none 0 0) (.bool false) Tg.zero), .int .i64 2]) (by simp [results, Try.results31, go_sem, hr9]) rfl (dec_fail HPN.out (bsetRow HW9.out (Nat.le_refl _) _))
          · go_wp2_with fail
            refine (c_check ⟨k, d, cs, false, t⟩ A4 cs.length c4 _ _ (own_row_of HV9.out)).mono ?_
            rintro e w9 ⟨rfl, b9⟩
            have HB9 := hide b9
            have hs9 := b9.size
            have hsx := HSX.out
            have hr9 : row? w9 w.heap.size = some (tokC (.int .u64 0) (.string ⟨#[]⟩) (.slice none 0 0) (.bool false) Tg.zero) := by
              have := HRX.out
              unfold row? at this ⊢
              rw [b9.block _ hsx.1]
              exact this
            have ha9 : agg? w9 ⟨w3.heap.size, 0, none⟩ 36 = some (tokC (.int .u64 (k : Int)) (.string d) (.slice A4 cs.length c4) (.bool false) t) := by
              rw [agg_of_row ((b9.block _ hsx.2).trans HQX.out) 0 36 (by decide)]
              exact tokC_part _ _ _ _ _
            have HW9 := hide (HBX.out.trans (b9.mono HBX.out.size))
            clear b9
            cases hc : checkT ⟨k, d, cs, false, t⟩ with
            | true =>
              have HPS : Hid (pdec xs = some ⟨k, d, cs, false, t⟩) := hide (by rw [HPE2.out, hc]; rfl)
              have HVF := hide ((own_row_of' HV9.out HB9.out))
              clear hc
              simp only [errV]
              go_wp2_with fail
              exact bodyPost_ret (v := .tuple #[.agg (tokC (.int .u64 (k : Int)) (.string d) (.slice A4 cs.length c4) (.bool false) t), .int .i64 0]) (by simp [results, Try.results31, go_sem, hr9]) rfl (by
                rw [HPS.out]
                exact ⟨A4, cs.length, c4, rfl, (own_row HVF.out (by omega) _).lower (by omega), bsetRow HW9.out (Nat.le_refl _) _⟩)
            | false =>
              have HPN : Hid (pdec xs = none) := hide (by rw [HPE2.out, hc]; rfl)
              clear hc
              simp only [errV]
              go_wp2_with fail
              exact bodyPost_ret (v := .tuple #[.agg (tokC (.int .u64 0) (.string ⟨#[]⟩) (.slice none 0 0) (.bool false) Tg.zero), .int .i64 2]) (by simp [results, Try.results31, go_sem, hr9]) rfl (dec_fail HPN.out (bsetRow HW9.out (Nat.le_refl _) _))
        · have HPN : Hid (pdec xs = none) := hide (by
            rw [HPE.out, if_neg]
            rintro ⟨_, h, _⟩
            exact hgood h)
          have hfb : fb = false := by
            rw [HFB.out]
            exact decide_eq_false fun h => hgood (.inr h)
          have hz : ¬ f.toList = [0] := fun h => hgood (.inl ((bytes_inj _ _).1 (h.trans (by rw [ByteArray.toList_eq]; rfl))))
          subst hfb
          clear hgood h5' hl9
          go_wp2_with fail
          exact bodyPost_ret (v := .tuple #[.agg (tokC (.int .u64 0) (.string ⟨#[]⟩) (.slice none 0 0) (.bool false) Tg.zero), .int .i64 2]) (by simp [results, Try.results31, go_sem, hrr, hsr8]) rfl (dec_fail HPN.out (by repeat (first | exact HBW.out | refine Below.alloc ?_ (by simp; omega) _ | refine bsetRow ?_ (by omega) _)))
      · have HPN : Hid (pdec xs = none) := hide (by
          rw [HPE.out, if_neg]
          rintro ⟨h, _⟩
          exact h5 (by rw [← HN9.out, hl9, h]; rfl))
        clear hl9
        have h5' : 0 < n9 := by omega
        go_wp2_with fail
        exact bodyPost_ret (v := .tuple #[.agg (tokC (.int .u64 0) (.string ⟨#[]⟩) (.slice none 0 0) (.bool false) Tg.zero), .int .i64 2]) (by simp [results, Try.results31, go_sem, hrr, hsr8]) rfl (dec_fail HPN.out (by repeat (first | exact HBW.out | refine Below.alloc ?_ (by simp; omega) _ | refine bsetRow ?_ (by omega) _)))
end Go.Proofs.Ytlfhbnajopekpaa
