/- The walks of layer 11: a bundle's bytes. No condition. -/
import Derived.Test.YtlfhbnajopekpaaBun1
namespace Go.Proofs.Ytlfhbnajopekpaa
open Go.RowKit
attribute [local go_sem ↓] ld16 ld17 ld32 ld36 ld37
attribute [local go_sem] run_ldAgg run_storeAgg agg_alloc_at agg_alloc_past agg_drew agg_setCell row_alloc_at row_alloc_past row_drew setRow_alloc_at setRow_alloc_past setRow_drew agg_setRow_at agg_setRow_far cell_setRow_at cell_setRow_far row_setRow_far size_setRow tgC_size tgC_one tgC_part tgC_splice tokC_size tokC_0 tokC_1 tokC_2 tokC_3 tokC_g0 tokC_g1 tokC_g2 tokC_g3 tokC_part tokC_tag tokC_set0 tokC_set1 tokC_set2 tokC_set3 tokC_splice tokC_splice0 tgC_splice_any zero_tg zero_tok tokC_all tokC_ne tgC_ne
attribute [local go_sem] bunC_size bunC_0 bunC_1 bunC_2 bunC_3 bunC_36 bunC_g3 bunC_g36 bunC_part bunC_root bunC_set36 bunC_splice bunC_splice0 zero_bun bunC_all bunC_ne

def bencFlds (b : Bun) : List Fld := ⟨16, txt (enc b.root)⟩ :: b.dis.map fun d => ⟨17, txt (enc d)⟩
/-- A bundle's bytes, of one that can be. -/
def benc (b : Bun) : List UInt8 := fjoin (bencFlds b)
def bcode (b : Bun) : Nat := if checkB b then (if 65536 < (benc b).length then 3 else 0) else 1
def Bun.ok (b : Bun) : Prop := b.root.ok ∧ ∀ d ∈ b.dis, d.ok
def BEncoded (w : World) (b : Bun) (e : Ending) (w' : World) : Prop :=
  ∃ v, e = .returned (.tuple #[v, .int .i64 (bcode b : Int)]) ∧ kU8.Own (fun _ => True) w.heap.size w' 5 v (if bcode b = 0 then benc b else []) ∧ Below w.heap.size w w'

theorem enc_small {t : Tok} (h : checkT t = true) (hk : t.ok) : (enc t).length ≤ 400000 := by
  have hc : t.id.size ≤ 1024 ∧ t.cavs.length ≤ 64 ∧ t.cavs.all canC = true := by
    simp only [checkT, Bool.and_eq_true, decide_eq_true_eq] at h
    exact ⟨h.1.1, h.1.2, h.2⟩
  have hcs : ∀ l : List Cav, (∀ x ∈ l, canC x = true ∧ x.party < 18446744073709551616) → (fjoin (l.flatMap cavFlds)).length ≤ 5000 * l.length := by
    intro l
    induction l with
    | nil => intro _; simp [fjoin]
    | cons x l ih =>
      intro hl
      have h1 := hl x (by simp)
      have h2 := ih (fun y hy => hl y (by simp [hy]))
      have h3 := cav_len h1.1 h1.2
      rw [List.flatMap_cons, fjoin_app, List.length_append, List.length_cons]
      omega
  have h1 := hcs t.cavs (fun x hx => ⟨List.all_eq_true.1 hc.2.2 x hx, hk.2 x hx⟩)
  have e1 := fput_len ⟨1, txt (vput t.key)⟩ (by have := vput_len10 hk.1; simp only [txt_size]; omega)
  have e2 := fput_len ⟨2, t.id⟩ (by simp only; omega)
  have e3 := fput_len ⟨7, flagB t.bnd⟩ (by cases t.bnd <;> decide)
  have e4 := fput_len ⟨8, txt t.tag.l⟩ (by simp only [txt_size, t.tag.len]; decide)
  have hv := vput_len10 hk.1
  have hf : (flagB t.bnd).size = 1 := by cases t.bnd <;> rfl
  simp only [txt_size, t.tag.len, hf] at e1 e2 e3 e4
  rw [enc, encFlds, fjoin_app, fjoin_app, List.length_append, List.length_append]
  simp only [fjoin, List.flatMap_cons, List.flatMap_nil, List.length_append, List.length_nil] at *
  omega
theorem cavs_party {ok : Nat → Prop} {w : World} {A : Option Addr} {n c : Nat} {xs : List Cav} (h : kCav.Row ok w A n c xs) : ∀ x ∈ xs, x.party < 18446744073709551616 := by
  intro x hx
  obtain ⟨i, hi, rfl⟩ := List.mem_iff_getElem.1 hx
  obtain ⟨b, o, _, _, _, hc⟩ := h.2.2.2 (by have := h.1; omega)
  obtain ⟨cs, hk, _⟩ := hc i _ (List.getElem?_eq_getElem hi)
  exact hk.2.2.1
theorem fput_lenT {k : UInt8} {t : Tok} (h : checkT t = true) (hk : t.ok) : (fput ⟨k, txt (enc t)⟩).length ≤ 400011 := by
  have h1 := enc_small h hk
  have h2 := fput_len ⟨k, txt (enc t)⟩ (by simp only [txt_size]; omega)
  simp only [txt_size] at h2
  omega

theorem bv17 : bv 17 = .int .u8 17 := rfl
theorem c_fput17 (A : Option Addr) (n c : Nat) (xs : List UInt8) (s : ByteArray) (ok : Nat → Prop) (w : World) (hR : kU8.Row ok w A n c xs) (hn : n ≤ 1099511627776) (hs : s.size ≤ 1099511627776) :
    Calls Try.prog 80 #[.slice A n c, .agg #[.int .u8 17, .string s]] w fun e w' => ∃ v, e = .returned v ∧ kU8.Own (fun _ => True) w.heap.size w' 5 v (xs ++ fput ⟨17, s⟩) ∧ Below w.heap.size w w' := by
  have h := c_fput A n c xs 17 s ok w hR hn hs
  rw [bv17] at h
  exact h
set_option maxRecDepth 100000 in
set_option maxHeartbeats 600000 in
theorem c_bencode (x : Bun) (A B : Option Addr) (n c m d : Nat) (ok ok' : Nat → Prop) (w : World) (hR : kCav.Row ok w A n c x.root.cavs) (hS : kTok.Row ok' w B m d x.dis) (hk : x.root.key < 18446744073709551616) :
    Calls Try.prog 49 #[bunV x A n c B m d] w (BEncoded w x) := by
  have HL := hide hS.1
  have hm : m ≤ 9223372036854775807 := Nat.le_trans hS.2.1 hS.2.2.1
  have HTK := hide (show x.root.ok from ⟨hk, cavs_party hR⟩)
  have HR := hide hR
  have HS := hide hS
  clear hR hS hk
  cases hck : checkB x with
  | false =>
    have HC : Hid (bcode x = 1) := hide (by simp [bcode, hck])
    go_enter Try.func49, Try.ntmps49
    go_wp2_with fail
    refine (c_bcheck x A B n c m d ok ok' _ (HR.out.below (below1 _ _)) (HS.out.below (below1 _ _))).mono ?_
    rintro e w1 ⟨rfl, b1⟩
    have HB := hide (bnext (below1 _ _) b1)
    clear b1
    rw [hck]
    simp only [errV]
    go_wp2_with fail
    exact bodyPost_ret (v := .tuple #[.slice none 0 0, .int .i64 1]) (by simp [results, Try.results49, go_sem]) rfl ⟨_, by rw [HC.out]; rfl, by rw [HC.out]; exact .nil _ _ _ _ _, HB.out⟩
  | true =>
    have hkk : checkT x.root = true ∧ x.dis.length ≤ 16 ∧ x.dis.all checkD = true := by
      simp only [checkB, Bool.and_eq_true, decide_eq_true_eq] at hck
      exact ⟨hck.1.2, hck.1.1.2, hck.2⟩
    have HKK := hide hkk
    have HC : Hid (bcode x = if 65536 < (benc x).length then 3 else 0) := hide (by simp [bcode, hck])
    have hm16 : m ≤ 16 := by rw [← HL.out]; exact hkk.2.1
    clear hkk
    go_enter Try.func49, Try.ntmps49
    go_wp2_with fail
    refine (c_bcheck x A B n c m d ok ok' _ (HR.out.below (below1 _ _)) (HS.out.below (below1 _ _))).mono ?_
    rintro e w1 ⟨rfl, b1⟩
    have HB1 := hide (bnext (below1 _ _) b1)
    have hg1 : w1.heap[w.heap.size]? = some (.cells (bunA x A n c B m d) 70) := (b1.block _ (by simp)).trans (heap_alloc_new _ _)
    have hag : agg? w1 ⟨w.heap.size, 0, none⟩ 36 = some (tokA x.root A n c) := by
      rw [agg_of_row hg1 0 36 (by decide)]
      exact bunC_root _ _ _ _ _ _
    have HG1 := hide hg1
    clear b1 hg1
    rw [hck]
    clear hck
    simp only [errV]
    go_wp2_with fail
    refine (c_encode x.root A n c ok w1 (HR.out.below HB1.out) HTK.out.1).mono ?_
    rintro e w2 ⟨v2, rfl, ho2, b2⟩
    rw [HKK.out.1, if_pos rfl] at ho2
    rw [HKK.out.1]
    obtain ⟨A2, c2, rfl, hr2⟩ := ho2.row
    have hs2 := row_string (P := Try.prog) Try.underlying60 Try.underlying5 Try.underlying9 hr2
    have HB2 := hide (bnext HB1.out b2)
    have HG2 := hide ((b2.block _ (Array.getElem?_eq_some_iff.1 HG1.out).1).trans HG1.out)
    have HLE := hide (enc_small HKK.out.1 HTK.out)
    clear ho2 hr2 b2 hag
    simp only [errV]
    go_wp2_with fail
    refine (c_fjoin (some ⟨w2.heap.size, 0, none⟩) 1 1 [⟨16, txt (enc x.root)⟩] (fun _ => True) _ ((flds_els (fun f hf => ?_)).rowAt (heap_alloc_new _ _) rfl trivial (by simp [maxLen])) ?_ ?_).mono ?_
    · simp only [List.mem_singleton] at hf; subst hf; have := HLE.out; simp only [txt_size, maxLen]; omega
    · have := fput_lenT (k := 16) HKK.out.1 HTK.out; simp [fjoin]; omega
    · intro f hf; simp only [List.mem_singleton] at hf; subst hf; have := HLE.out; simp only [txt_size]; omega
    rintro e w3 ⟨v3, rfl, ho3, b3⟩
    have b3' := bnext (below1 w2 _) b3
    have HB3 := hide (bnext HB2.out b3')
    have hg3 := (b3'.block _ (Array.getElem?_eq_some_iff.1 HG2.out).1).trans HG2.out
    have hy : w3.cell? ⟨w.heap.size, 36, none⟩ = some (.slice B m d) := (cell_of_row w3 _ _ _ _ _ hg3).trans (bunC_36 _ _ _ _ _ _)
    have HO3 := hide (ho3.lower (base' := w.heap.size) (by have := HB2.out.size; simp; omega))
    have HL3 := hide (show (fjoin [(⟨16, txt (enc x.root)⟩ : Fld)]).length ≤ 400011 by have := fput_lenT (k := 16) HKK.out.1 HTK.out; simp [fjoin]; omega)
    clear ho3 b3 b3' hg3 hs2
    go_wp2_with fail
    go_loopw [31, 7] (fun i p wr => ∃ (k : Nat) (lp : List UInt8), k ≤ m ∧ i = .int .i64 (k : Int) ∧ Hid (lp = fjoin (⟨16, txt (enc x.root)⟩ :: (x.dis.take k).map fun d => ⟨17, txt (enc d)⟩)) ∧ Hid (kU8.Own (fun _ => True) w.heap.size wr 5 p lp) ∧ Hid (lp.length ≤ 400011 + 400011 * k) ∧ Hid (Below w.heap.size w wr)) (fun i _ _ => m - (intOf i).toNat)
    case atStart => exact ⟨0, _, Nat.zero_le _, rfl, hide rfl, hide (by simpa using HO3.out), hide (by simpa using HL3.out), HB3⟩
    case round =>
      obtain ⟨k, lp, hk, rfl, HLP, HO, HLN, HB⟩ := hrel
      by_cases hlt : k < m
      · obtain ⟨y, hx⟩ : ∃ y, x.dis[k]? = some y := ⟨_, List.getElem?_eq_getElem (by have := HL.out; omega)⟩
        obtain ⟨b, q, A1, n1, c1, hix, hbl, hag, hr1, hk1⟩ := tok_at (HS.out.below HB.out) hx
        have HTY : Hid (x.dis.take (k + 1) = x.dis.take k ++ [y]) := hide (by rw [List.take_add_one, hx]; rfl)
        have HOY := hide (show y.ok from ⟨hk1, cavs_party hr1⟩)
        have HR1 := hide hr1
        have hcy : checkT y = true := by
          have := List.all_eq_true.1 HKK.out.2.2 y (List.mem_of_getElem? hx)
          simp only [checkD, Bool.and_eq_true] at this
          exact this.2
        have HCY := hide hcy
        have hsb := HB.out.size
        clear hx hr1 hcy
        go_wp2_with fail
        refine (c_encode y A1 n1 c1 _ _ (HR1.out.below (below1 _ _)) HOY.out.1).mono ?_
        rintro e w4 ⟨v4, rfl, ho4, b4⟩
        rw [HCY.out, if_pos rfl] at ho4
        rw [HCY.out]
        obtain ⟨A4, c4, rfl, hr4⟩ := ho4.row
        have hs4 := row_string (P := Try.prog) Try.underlying60 Try.underlying5 Try.underlying9 hr4
        have b4' := bnext (below1 wr _) b4
        have HB4 := hide (HB.out.trans (b4'.mono hsb))
        have hsb4 := HB4.out.size
        obtain ⟨A5, c5, rfl, hr5⟩ := (HO.out.below b4').row
        have HR5 := hide hr5
        have HLY := hide (enc_small HCY.out HOY.out)
        clear ho4 hr4 b4 b4' hr5
        simp only [errV]
        go_wp2_with fail
        refine (c_fput17 A5 _ c5 _ (txt (enc y)) _ _ HR5.out (by have := HLN.out; omega) (by have := HLY.out; simp only [txt_size]; omega)).mono ?_
        rintro e w5 ⟨v5, rfl, ho5, b5⟩
        have HB5 := hide (HB4.out.trans (b5.mono hsb4))
        have HO5 := hide (ho5.lower (base' := w.heap.size) hsb4)
        clear ho5 b5
        have HEQ : Hid (lp ++ fput ⟨17, txt (enc y)⟩ = fjoin (⟨16, txt (enc x.root)⟩ :: (x.dis.take (k + 1)).map fun d => ⟨17, txt (enc d)⟩)) := hide (by
          rw [HLP.out, HTY.out, List.map_append, ← List.cons_append, fjoin_app]
          simp [fjoin])
        go_wp2_with fail
        go_roundw
        case rel =>
          refine ⟨k + 1, _, by omega, by simp, HEQ, HO5, hide ?_, HB5⟩
          · rw [List.length_append]
            have := HLN.out; have := fput_lenT (k := 17) HCY.out HOY.out; omega
        case measure => simp [intOf]; omega
      · obtain rfl : k = m := by omega
        have hlp : lp = benc x := by rw [HLP.out, List.take_of_length_le (Nat.le_of_eq HL.out)]; rfl
        subst hlp
        obtain ⟨A5, c5, rfl⟩ := HO.out.form
        obtain ⟨L, hL⟩ : ∃ L, L = (benc x).length := ⟨_, rfl⟩
        have hlb := HLN.out
        rw [← hL] at hlb HC HO ⊢
        have HLL := hide hL
        clear hL HLP HLN
        by_cases h6 : 65536 < L
        · have HC := hide (HC.out.trans (if_pos h6))
          go_wp2_with fail
          have hfin : BEncoded w x (.returned (.tuple #[.slice none 0 0, .int .i64 3])) wr := ⟨_, by rw [HC.out]; rfl, by rw [HC.out]; exact .nil _ _ _ _ _, HB.out⟩
          exact bodyPost_ret (v := .tuple #[.slice none 0 0, .int .i64 3]) (by simp [results, Try.results49, go_sem]) rfl ⟨_, by rw [HC.out]; rfl, by rw [HC.out]; exact .nil _ _ _ _ _, HB.out⟩
        · have HC := hide (HC.out.trans (if_neg h6))
          go_wp2_with fail
          exact bodyPost_ret (v := .tuple #[.slice A5 L c5, .int .i64 0]) (by simp [results, Try.results49, go_sem]) rfl ⟨_, by rw [HC.out]; rfl, by rw [HC.out, if_pos rfl]; exact HO.out, HB.out⟩
end Go.Proofs.Ytlfhbnajopekpaa
