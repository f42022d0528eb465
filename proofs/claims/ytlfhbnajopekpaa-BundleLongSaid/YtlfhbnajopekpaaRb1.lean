/- The document's answer for layer 11: whether a bundle can be, its bytes, whether two are one. No condition. -/
import Derived.Test.YtlfhbnajopekpaaBun4
import Derived.Test.YtlfhbnajopekpaaRf3b
import Derived.Test.YtlfhbnajopekpaaRf3d
namespace Go.Proofs.Ytlfhbnajopekpaa
open Go.RowKit
attribute [local go_sem ↓] ld16 ld17 ld32 ld36 ld37
attribute [local go_sem] run_ldAgg run_storeAgg agg_alloc_at agg_alloc_past agg_drew agg_setCell row_alloc_at row_alloc_past row_drew setRow_alloc_at setRow_alloc_past setRow_drew agg_setRow_at agg_setRow_far cell_setRow_at cell_setRow_far row_setRow_far size_setRow tgC_size tgC_one tgC_part tgC_splice tokC_size tokC_0 tokC_1 tokC_2 tokC_3 tokC_g0 tokC_g1 tokC_g2 tokC_g3 tokC_part tokC_tag tokC_set0 tokC_set1 tokC_set2 tokC_set3 tokC_splice tokC_splice0 tgC_splice_any zero_tg zero_tok tokC_all tokC_ne tgC_ne
attribute [local go_sem] bunC_size bunC_0 bunC_1 bunC_2 bunC_3 bunC_36 bunC_g3 bunC_g36 bunC_part bunC_root bunC_set36 bunC_splice bunC_splice0 zero_bun bunC_all bunC_ne

theorem c_rcheck0 (t : Tok) (b : Bool) (hb : t.bnd = b) (A : Option Addr) (n c : Nat) (ok : Nat → Prop) (w : World) (hR : kCav.Row ok w A n c t.cavs) :
    Calls Try.prog 39 #[.agg (tokC (.int .u64 (t.key : Int)) (.string t.id) (.slice A n c) (.bool b) t.tag)] w fun e w' => e = .returned (.bool (checkT t)) ∧ Below w.heap.size w w' := by
  subst hb
  exact c_rcheck t A n c ok w hR
set_option maxRecDepth 100000 in
set_option maxHeartbeats 600000 in
theorem c_rbcheck (x : Bun) (A B : Option Addr) (n c m d : Nat) (ok ok' : Nat → Prop) (w : World) (hR : kCav.Row ok w A n c x.root.cavs) (hS : kTok.Row ok' w B m d x.dis) :
    Calls Try.prog 55 #[bunV x A n c B m d] w fun e w' => e = .returned (.bool (checkB x)) ∧ Below w.heap.size w w' := by
  have HL := hide hS.1
  have hm : m ≤ 9223372036854775807 := Nat.le_trans hS.2.1 hS.2.2.1
  have HR := hide hR
  have HS := hide hS
  clear hR hS
  go_enter Try.func55, Try.ntmps55
  go_wp2_with fail
  refine (c_rcheck x.root A n c ok _ (HR.out.below (below1 _ _))).mono ?_
  rintro e w1 ⟨rfl, b1⟩
  have HB := hide (bnext (below1 _ _) b1)
  have hX : BunIn w1 w.heap.size x A n c B m d := (b1.block _ (by simp)).trans (heap_alloc_new _ _)
  have hy3 : w1.cell? ⟨w.heap.size, 3, none⟩ = some (.bool x.root.bnd) := (cell_of_row w1 _ _ _ _ _ hX).trans (bunC_3 _ _ _ _ _ _)
  have hy := hX.dis
  clear b1 hX
  cases hck : checkT x.root with
  | false =>
    have HC : Hid (checkB x = false) := hide (by simp [checkB, hck])
    clear hck
    go_wp2_with fail
    go_ret
    exact ⟨by rw [HC.out]; rfl, HB.out⟩
  | true =>
    cases hb : x.root.bnd with
    | true =>
      have HC : Hid (checkB x = false) := hide (by simp [checkB, hb])
      rw [hb] at hy3
      clear hck hb
      go_wp2_with fail
      go_ret
      exact ⟨by rw [HC.out]; rfl, HB.out⟩
    | false =>
      rw [hb] at hy3
      by_cases h2 : 16 < m
      · have HC : Hid (checkB x = false) := hide (by
          have := HL.out
          have h : decide (x.dis.length ≤ 16) = false := decide_eq_false (by omega)
          simp [checkB, h])
        clear hck hb
        go_wp2_with fail
        go_ret
        exact ⟨by rw [HC.out]; rfl, HB.out⟩
      · have HC : Hid (checkB x = x.dis.all checkD) := hide (by
          have := HL.out
          have h : decide (x.dis.length ≤ 16) = true := decide_eq_true (by omega)
          simp only [checkB, hb, h, hck, Bool.not_false, Bool.true_and])
        clear hck hb
        go_wp2_with fail
        go_loopw [23] (fun i wr => ∃ k : Nat, k ≤ m ∧ i = .int .i64 (k : Int) ∧ Hid ((x.dis.take k).all checkD = true) ∧ Hid (Below w.heap.size w wr)) (fun i _ => m - (intOf i).toNat)
        case atStart => exact ⟨0, Nat.zero_le _, rfl, hide rfl, HB⟩
        case round =>
          obtain ⟨k, hk, rfl, HA, HB⟩ := hrel
          by_cases hlt : k < m
          · obtain ⟨y, hx⟩ : ∃ y, x.dis[k]? = some y := ⟨_, List.getElem?_eq_getElem (by have := HL.out; omega)⟩
            obtain ⟨b, q, A1, n1, c1, hix, hbl, hag, hr1, hk1⟩ := tok_at (HS.out.below HB.out) hx
            have HX := hide hx
            have HR1 := hide hr1
            have hsb := HB.out.size
            clear hx hr1
            go_wp2_with fail
            refine (c_rcheck y A1 n1 c1 _ _ (HR1.out.below (below1 _ _))).mono ?_
            rintro e w2 ⟨rfl, b2⟩
            have HB2 := hide (HB.out.trans ((bnext (below1 _ _) b2).mono hsb))
            have hk2 : w2.cell? ⟨wr.heap.size, 0, none⟩ = some (.int .u64 (y.key : Int)) := (cell_of_row w2 _ _ _ _ _ ((b2.block _ (by simp)).trans (heap_alloc_new _ _))).trans (tokC_0 _ _ _ _ _)
            clear b2
            cases hc : checkT y with
            | false =>
              have HA1 : Hid (x.dis.all checkD = false) := hide (by
                rw [List.all_eq_false]
                exact ⟨y, List.mem_of_getElem? HX.out, by simp [hc, checkD]⟩)
              clear hc
              go_wp2_with fail
              go_ret
              exact ⟨by rw [HC.out, HA1.out]; rfl, HB2.out⟩
            | true =>
              by_cases h0 : y.key = 0
              · have h0' : (y.key : Int) = 0 := by omega
                have HA1 : Hid ((x.dis.take (k + 1)).all checkD = true) := hide (by rw [List.take_add_one, HX.out, List.all_append, HA.out]; simp [hc, checkD, h0])
                clear hc
                go_wp2_with fail
                go_roundw
                case rel => exact ⟨k + 1, by omega, by simp, HA1, HB2⟩
                case measure => simp [intOf]; omega
              · have h0' : ¬ (y.key : Int) = 0 := by omega
                have HA1 : Hid (x.dis.all checkD = false) := hide (by
                  rw [List.all_eq_false]
                  exact ⟨y, List.mem_of_getElem? HX.out, by simp [checkD, h0]⟩)
                clear hc
                go_wp2_with fail
                go_ret
                exact ⟨by rw [HC.out, HA1.out]; rfl, HB2.out⟩
          · obtain rfl : k = m := by omega
            have HA1 : Hid (x.dis.all checkD = true) := hide (by
              have := HA.out
              rwa [List.take_of_length_le (Nat.le_of_eq HL.out)] at this)
            go_wp2_with fail
            go_ret
            exact ⟨by rw [HC.out, HA1.out]; rfl, HB.out⟩

set_option maxRecDepth 100000 in
set_option maxHeartbeats 600000 in
theorem c_rbbytes (x : Bun) (A B : Option Addr) (n c m d : Nat) (ok ok' : Nat → Prop) (w : World) (hR : kCav.Row ok w A n c x.root.cavs) (hS : kTok.Row ok' w B m d x.dis) (hck : checkB x = true) (hk : x.ok) :
    Calls Try.prog 82 #[bunV x A n c B m d] w fun e w' => ∃ v, e = .returned v ∧ kU8.Own (fun _ => True) w.heap.size w' 5 v (benc x) ∧ Below w.heap.size w w' := by
  have HL := hide hS.1
  have hm : m ≤ 9223372036854775807 := Nat.le_trans hS.2.1 hS.2.2.1
  have HR := hide hR
  have HS := hide hS
  have HK := hide hk
  obtain ⟨-, hc1, hc2, hc3⟩ := check_parts hck
  have HC1 := hide hc1
  have HC3 := hide hc3
  have HBV := hide (benc_vals hck hk)
  have hm16 : m ≤ 16 := by rw [← HL.out]; exact hc2
  have HBL : Hid ((benc x).length ≤ 10000000) := hide (by
    have key : ∀ l : List Fld, (∀ f ∈ l, f.value.size ≤ 400000) → (fjoin l).length ≤ 400011 * l.length := by
      intro l
      induction l with
      | nil => intro _; simp [fjoin]
      | cons f r ih =>
        intro h
        have h1 := fput_len f (by have := h f (by simp); omega)
        have h2 := ih (fun y hy => h y (by simp [hy]))
        have h3 := h f (by simp)
        have e : fjoin (f :: r) = fput f ++ fjoin r := by simp [fjoin]
        rw [e, List.length_append, List.length_cons]
        omega
    have := key _ HBV.out
    have h2 : (bencFlds x).length ≤ 17 := by simp [bencFlds]; omega
    rw [benc]
    have : 400011 * (bencFlds x).length ≤ 400011 * 17 := Nat.mul_le_mul_left _ h2
    omega)
  clear hR hS hck hk hc1 hc2 hc3
  go_enter Try.func82, Try.ntmps82
  go_wp2_with fail
  refine (c_rbytes x.root A n c ok _ (HR.out.below (below1 _ _)) HC1.out HK.out.1).mono ?_
  rintro e w1 ⟨v1, rfl, ho1, b1⟩
  obtain ⟨A2, c2, rfl, hr2⟩ := ho1.row
  have hs2 := row_string (P := Try.prog) Try.underlying60 Try.underlying5 Try.underlying9 hr2
  have HB1 := hide (bnext (below1 _ _) b1)
  have hX : BunIn w1 w.heap.size x A n c B m d := (b1.block _ (by simp)).trans (heap_alloc_new _ _)
  have hy := hX.dis
  have hxl := hX.lt
  have HLE := hide (enc_small HC1.out HK.out.1)
  have HO1 : Hid (kFld.Own (fun _ => True) w1.heap.size (w1.alloc (.cells #[.int .u8 16, .string (txt (enc x.root))] 134)) 134 (.slice (some ⟨w1.heap.size, 0, none⟩) 1 1) [⟨16, txt (enc x.root)⟩]) := hide (Kd.Own.lit (flds_els (l := [⟨16, txt (enc x.root)⟩]) fun f hf => by
    simp only [List.mem_singleton] at hf; subst hf; have := HLE.out; simp only [txt_size, maxLen]; omega) #[.int .u8 16, .string (txt (enc x.root))] rfl 1 rfl (by decide) _ rfl (Nat.le_refl _))
  clear b1 hX ho1 hr2
  go_wp2_with fail
  go_loopw [15, 3] (fun i p wr => ∃ (k : Nat) (lp : List Fld), k ≤ m ∧ i = .int .i64 (k : Int) ∧ Hid (lp = ⟨16, txt (enc x.root)⟩ :: (x.dis.take k).map fun d => ⟨17, txt (enc d)⟩) ∧ Hid (kFld.Own (fun _ => True) w1.heap.size wr 134 p lp) ∧ Hid (lp.length ≤ 1 + k) ∧ Hid (Below w1.heap.size w1 wr)) (fun i _ _ => m - (intOf i).toNat)
  case atStart => exact ⟨0, _, Nat.zero_le _, rfl, hide rfl, HO1, hide (by simp), hide (below1 _ _)⟩
  case round =>
    obtain ⟨k, lp, hk, rfl, HLP, HO, HLN, HBW⟩ := hrel
    have hsw := HBW.out.size
    have HB := hide (HB1.out.trans (HBW.out.mono HB1.out.size))
    have hsb := HB.out.size
    by_cases hlt : k < m
    · obtain ⟨y, hx⟩ : ∃ y, x.dis[k]? = some y := ⟨_, List.getElem?_eq_getElem (by have := HL.out; omega)⟩
      obtain ⟨b, q, A1, n1, c1, hix, hbl, hag, hr1, hk1⟩ := tok_at (HS.out.below HB.out) hx
      have HTY : Hid (x.dis.take (k + 1) = x.dis.take k ++ [y]) := hide (by rw [List.take_add_one, hx]; rfl)
      have HOY := hide (HK.out.2 y (List.mem_of_getElem? hx))
      have HCY := hide (HC3.out y (List.mem_of_getElem? hx)).2
      have HR1 := hide hr1
      clear hx hr1
      go_wp2_with fail
      refine (c_rbytes y A1 n1 c1 _ _ (HR1.out.below (below1 _ _)) HCY.out HOY.out).mono ?_
      rintro e w4 ⟨v4, rfl, ho4, b4⟩
      obtain ⟨A4, c4, rfl, hr4⟩ := ho4.row
      have hs4 := row_string (P := Try.prog) Try.underlying60 Try.underlying5 Try.underlying9 hr4
      have b4' := bnext (below1 wr _) b4
      have HB4 := hide (HBW.out.trans (b4'.mono hsw))
      have HO4 := hide (HO.out.below b4')
      have hsb4 := HB4.out.size
      have HLY := hide (enc_small HCY.out HOY.out)
      obtain ⟨A6, c6, rfl⟩ := HO4.out.form
      clear ho4 hr4 b4 b4'
      go_wp2_with (at_builtin; go_must (refine wpList_app (d := kFld) (ys := [⟨17, txt (enc y)⟩]) rfl _ _ _ rfl Try.underlying88 rfld_info rfl (by decide) 1 rfl rfl (.inl (HO4.out.below (below1 _ _))) (src_fld2 (ok := fun _ => True) (Kd.Src.new (d := kFld) (cs := [.int .u8 17, .string (txt (enc y))]) ⟨rfl, ?_⟩ _ rfl _ ?_)) ?_ ?_ ?_ ?_))
      · have := HLY.out; simp only [maxLen]; omega
      · simp
      · simp only [World.size_alloc]; omega
      · have := HLN.out; simp only [maxLen]; omega
      · have := HLN.out; omega
      · intro v5 w5 _ h2 h3 _ _
        have H2 := hide h2
        have HB5 := hide (HB4.out.trans (((below1 w4 (.cells #[.int .u8 17, .string (txt (enc y))] 134)).mono hsb4).trans h3))
        clear h2 h3
        go_wp2_with fail
        go_roundw
        case rel =>
          refine ⟨k + 1, _, by omega, by simp, hide ?_, H2, hide ?_, HB5⟩
          · rw [HTY.out, HLP.out]; simp
          · have := HLN.out; simp; omega
        case measure => simp [intOf]; omega
    · obtain rfl : k = m := by omega
      have hlp : lp = bencFlds x := by rw [HLP.out, List.take_of_length_le (Nat.le_of_eq HL.out)]; rfl
      subst hlp
      obtain ⟨A5, c5, rfl, hr5⟩ := HO.out.row
      have HR5 := hide hr5
      clear hr5
      obtain ⟨L, hL⟩ : ∃ L, L = (bencFlds x).length := ⟨_, rfl⟩
      rw [← hL] at HR5 ⊢
      clear hL HLP HLN HO
      go_wp2_with fail
      refine (c_rjoin A5 L c5 (bencFlds x) _ _ HR5.out (Nat.le_trans HBL.out (by decide)) (fun f hf => Nat.le_trans (HBV.out f hf) (by decide))).mono ?_
      rintro e w6 ⟨v6, rfl, ho6, b6⟩
      have HB6 := hide (HB.out.trans (b6.mono hsb))
      have HO6 := hide (ho6.lower (base' := w.heap.size) hsb)
      clear ho6 b6
      go_wp2_with fail
      go_ret
      exact ⟨_, rfl, HO6.out, HB6.out⟩

def RBEncoded (w : World) (b : Bun) (e : Ending) (w' : World) : Prop :=
  ∃ v, e = .returned (.tuple #[v, .int .i64 (bcode b : Int)]) ∧ kU8.Own (fun _ => True) w.heap.size w' 5 v (if bcode b = 0 then benc b else []) ∧ Below w.heap.size w w'
set_option maxRecDepth 100000 in
set_option maxHeartbeats 600000 in
theorem c_rbencode (x : Bun) (A B : Option Addr) (n c m d : Nat) (ok ok' : Nat → Prop) (w : World) (hR : kCav.Row ok w A n c x.root.cavs) (hS : kTok.Row ok' w B m d x.dis) (hk : x.ok) :
    Calls Try.prog 52 #[bunV x A n c B m d] w (RBEncoded w x) := by
  have HK := hide hk
  have HR := hide hR
  have HS := hide hS
  clear hR hS hk
  go_enter Try.func52, Try.ntmps52
  go_wp2_with fail
  refine (c_rbcheck x A B n c m d ok ok' _ (HR.out.below (below1 _ _)) (HS.out.below (below1 _ _))).mono ?_
  rintro e w1 ⟨rfl, b1⟩
  have HB := hide (bnext (below1 _ _) b1)
  have hX : BunIn w1 w.heap.size x A n c B m d := (b1.block _ (by simp)).trans (heap_alloc_new _ _)
  have hag := hX.agg
  clear b1 hX
  cases hck : checkB x with
  | false =>
    have HC : Hid (bcode x = 1) := hide (by simp [bcode, hck])
    clear hck
    go_wp2_with fail
    exact bodyPost_ret (v := .tuple #[.slice none 0 0, .int .i64 1]) (by simp [results, Try.results52, go_sem]) rfl ⟨_, by rw [HC.out]; rfl, by rw [HC.out]; exact .nil _ _ _ _ _, HB.out⟩
  | true =>
    have HC : Hid (bcode x = if 65536 < (benc x).length then 3 else 0) := hide (by simp [bcode, hck])
    have HCK := hide hck
    clear hck
    go_wp2_with fail
    refine (c_rbbytes x A B n c m d ok ok' w1 (HR.out.below HB.out) (HS.out.below HB.out) HCK.out HK.out).mono ?_
    rintro e w2 ⟨v2, rfl, ho2, b2⟩
    have HB2 := hide (bnext HB.out b2)
    have HO2 := hide (ho2.lower (base' := w.heap.size) HB.out.size)
    obtain ⟨A5, c5, rfl, hr5⟩ := ho2.row
    have hcl : (benc x).length ≤ 9223372036854775807 := Nat.le_trans hr5.2.1 hr5.2.2.1
    clear ho2 b2 hr5
    obtain ⟨L, hL⟩ : ∃ L, L = (benc x).length := ⟨_, rfl⟩
    rw [← hL] at HC HO2 hcl ⊢
    clear hL
    by_cases h6 : 65536 < L
    · have HC := hide (HC.out.trans (if_pos h6))
      go_wp2_with fail
      exact bodyPost_ret (v := .tuple #[.slice none 0 0, .int .i64 3]) (by simp [results, Try.results52, go_sem]) rfl ⟨_, by rw [HC.out]; rfl, by rw [HC.out]; exact .nil _ _ _ _ _, HB2.out⟩
    · have HC := hide (HC.out.trans (if_neg h6))
      go_wp2_with fail
      exact bodyPost_ret (v := .tuple #[.slice A5 L c5, .int .i64 0]) (by simp [results, Try.results52, go_sem]) rfl ⟨_, by rw [HC.out]; rfl, by rw [HC.out, if_pos rfl]; exact HO2.out, HB2.out⟩
end Go.Proofs.Ytlfhbnajopekpaa
