/- Bundles in memory; whether a bundle can be. No condition. -/
import Derived.Test.YtlfhbnajopekpaaPkt10
namespace Go.Proofs.Ytlfhbnajopekpaa
open Go.RowKit

theorem ld37 (a : Addr) : loadCellsFrom a 0 37 #[] = ldAgg a 37 := rfl
/-- A bundle. -/
structure Bun where
  root : Tok
  dis : List Tok
  deriving DecidableEq
abbrev tokA (t : Tok) (A : Option Addr) (n c : Nat) : Array Value := tokC (.int .u64 (t.key : Int)) (.string t.id) (.slice A n c) (.bool t.bnd) t.tag
def kTok : Kd Tok where
  sz := 36
  K ok w t cs := ∃ A n c, cs = (tokA t A n c).toList ∧ kCav.Row ok w A n c t.cavs ∧ t.key < 18446744073709551616
  len := by rintro ok w x cs ⟨A, n, c, rfl, -⟩; rw [Array.length_toList, tokC_size]
  one := by
    rintro ok w x cs ⟨A, n, c, rfl, -⟩ u hu
    exact (Array.all_eq_true_iff_forall_mem.1 (tokC_all x.tag .u64 x.key x.id A n c x.bnd)) u (by simpa using hu)
  keep := by rintro ok w w' x cs hk ⟨A, n, c, e, hr, h1⟩; exact ⟨A, n, c, e, hr.keep fun k h _ => hk k h, h1⟩
  more := by rintro ok ok' w x cs hk ⟨A, n, c, e, hr, h1⟩; exact ⟨A, n, c, e, hr.more hk, h1⟩
  bound := by rintro ok w x cs ⟨A, n, c, e, hr, h1⟩; exact ⟨A, n, c, e, hr.bound, h1⟩
/-- A bundle's cells. -/
def bunC (a b c d : Value) (t : Tg) (s : Value) : Array Value := (tokC a b c d t).push s
section
variable (a b c d s v : Value) (t u : Tg)
theorem bunC_size : (bunC a b c d t s).size = 37 := by simp [bunC, tokC_size]
theorem bunC_lt {i : Nat} (h : i < 36) : (bunC a b c d t s)[i]? = (tokC a b c d t)[i]? := by
  rw [bunC, Array.getElem?_push, if_neg (by rw [tokC_size]; omega)]
theorem bunC_0 : (bunC a b c d t s)[0]? = some a := (bunC_lt _ _ _ _ _ _ (by decide)).trans (tokC_0 _ _ _ _ _)
theorem bunC_1 : (bunC a b c d t s)[1]? = some b := (bunC_lt _ _ _ _ _ _ (by decide)).trans (tokC_1 _ _ _ _ _)
theorem bunC_2 : (bunC a b c d t s)[2]? = some c := (bunC_lt _ _ _ _ _ _ (by decide)).trans (tokC_2 _ _ _ _ _)
theorem bunC_3 : (bunC a b c d t s)[3]? = some d := (bunC_lt _ _ _ _ _ _ (by decide)).trans (tokC_3 _ _ _ _ _)
theorem bunC_36 : (bunC a b c d t s)[36]? = some s := by rw [bunC, Array.getElem?_push, if_pos (tokC_size _ _ _ _ _).symm]
theorem bunC_g3 (h : 3 < (bunC a b c d t s).size) : (bunC a b c d t s)[3]'h = d := by
  have := bunC_3 a b c d s t
  rw [Array.getElem?_eq_getElem h] at this
  exact Option.some.inj this
theorem bunC_g36 (h : 36 < (bunC a b c d t s).size) : (bunC a b c d t s)[36]'h = s := by
  have := bunC_36 a b c d s t
  rw [Array.getElem?_eq_getElem h] at this
  exact Option.some.inj this
theorem bunC_part : part? (bunC a b c d t s) 0 37 = some (bunC a b c d t s) := part_self _ _ (bunC_size _ _ _ _ _ _)
theorem bunC_root : part? (bunC a b c d t s) 0 36 = some (tokC a b c d t) := by
  unfold part?
  rw [bunC_size, if_pos (by decide)]
  congr 1
  have h := tokC_size a b c d t
  apply Array.ext
  · simp [h, bunC_size]
  · intro i h1 h2
    rw [h] at h2
    simp [bunC, h]
theorem bunC_list : (bunC a b c d t s).toList = (tokC a b c d t).toList ++ [s] := by rw [bunC, Array.toList_push]
theorem bunC_set36 : (bunC a b c d t s).setIfInBounds 36 v = bunC a b c d t v := by
  have h := tokC_size a b c d t
  apply Array.ext
  · simp [bunC]
  · intro i h1 h2
    rw [Array.getElem_setIfInBounds]
    · simp only [bunC, Array.getElem_push, h]
      by_cases h36 : 36 = i
      · subst h36; simp
      · have : i < 36 := by rw [bunC_size] at h2; omega
        simp [h36, this]
    · simpa using h1
theorem bunC_splice (a' b' c' d' : Value) : splice (bunC a b c d t s) 0 (tokC a' b' c' d' u) = bunC a' b' c' d' u s := by
  have h : (tokC a b c d t).toList.length = 36 := by rw [Array.length_toList, tokC_size]
  apply Array.toList_inj.1
  rw [bunC_list, splice, bunC_list, tokC_size]
  simp [h]
theorem bunC_splice0 (C : Array Value) (h : C.size = 37) : splice C 0 (bunC a b c d t s) = bunC a b c d t s := by
  have h' : List.drop 37 C.toList = [] := List.drop_eq_nil_of_le (by simp [h])
  simp [splice, bunC_size, h']
theorem zero_bun : (#[a, b, c, d, .int .u8 0, .int .u8 0, .int .u8 0, .int .u8 0, .int .u8 0, .int .u8 0, .int .u8 0, .int .u8 0, .int .u8 0, .int .u8 0, .int .u8 0, .int .u8 0, .int .u8 0, .int .u8 0, .int .u8 0, .int .u8 0, .int .u8 0, .int .u8 0, .int .u8 0, .int .u8 0, .int .u8 0, .int .u8 0, .int .u8 0, .int .u8 0, .int .u8 0, .int .u8 0, .int .u8 0, .int .u8 0, .int .u8 0, .int .u8 0, .int .u8 0, .int .u8 0, s] : Array Value) = bunC a b c d Tg.zero s := by
  rw [bunC, ← zero_tok]
  rfl
theorem bunC_all (k : IntKind) (n : Int) (x : ByteArray) (A B : Option Addr) (l m i j : Nat) (q : Bool) : oneAll (bunC (.int k n) (.string x) (.slice A l m) (.bool q) t (.slice B i j)) = true := by
  have h := tokC_all t k n x A l m q
  rw [oneAll, Array.all_eq_true_iff_forall_mem] at h ⊢
  intro v hv
  rw [bunC, Array.mem_push] at hv
  rcases hv with hv | rfl
  · exact h v hv
  · rfl
theorem bunC_ne : (bunC a b c d t s = #[]) = False := eq_false fun h => by
  have := congrArg Array.size h
  rw [bunC_size] at this
  cases this
end
abbrev bunA (b : Bun) (A : Option Addr) (n c : Nat) (B : Option Addr) (m d : Nat) : Array Value := bunC (.int .u64 (b.root.key : Int)) (.string b.root.id) (.slice A n c) (.bool b.root.bnd) b.root.tag (.slice B m d)
abbrev bunV (b : Bun) (A : Option Addr) (n c : Nat) (B : Option Addr) (m d : Nat) : Value := .agg (bunA b A n c B m d)
theorem tok_size : (Try.prog.info? 59).map (·.size) = some kTok.sz := by kernel_rfl
/-- A token in a row. -/
theorem tok_at {ok : Nat → Prop} {w : World} {A : Option Addr} {n c : Nat} {xs : List Tok} (h : kTok.Row ok w A n c xs) {i : Nat} {x : Tok} (hx : xs[i]? = some x) :
    ∃ b o A1 n1 c1, (∀ wx : World, (Instr.indexAt 68 (.slice A n c) (.int .i64 (i : Int))).run Try.prog wx = .ok (.pointer (some ⟨b, o, none⟩)) wx) ∧ b < w.heap.size ∧ agg? w ⟨b, o, none⟩ 36 = some (tokA x A1 n1 c1) ∧
      kCav.Row ok w A1 n1 c1 x.cavs ∧ x.key < 18446744073709551616 := by
  obtain ⟨b, o, cs, hix, -, hbl, ⟨A1, n1, c1, rfl, hr, hk⟩, hra⟩ := h.index (P := Try.prog) Try.underlying68 (E := 59) tok_size hx
  refine ⟨b, o, A1, n1, c1, hix, hbl, ?_, hr, hk⟩
  have := agg_range hra 36 (by rw [Array.length_toList, tokC_size])
  simpa using this

attribute [local go_sem ↓] ld16 ld17 ld32 ld36 ld37
attribute [local go_sem] run_ldAgg run_storeAgg agg_alloc_at agg_alloc_past agg_drew agg_setCell row_alloc_at row_alloc_past row_drew setRow_alloc_at setRow_alloc_past setRow_drew agg_setRow_at agg_setRow_far cell_setRow_at cell_setRow_far row_setRow_far size_setRow tgC_size tgC_one tgC_part tgC_splice tokC_size tokC_0 tokC_1 tokC_2 tokC_3 tokC_g0 tokC_g1 tokC_g2 tokC_g3 tokC_part tokC_tag tokC_set0 tokC_set1 tokC_set2 tokC_set3 tokC_splice tokC_splice0 tgC_splice_any zero_tg zero_tok tokC_all tokC_ne tgC_ne
attribute [local go_sem] bunC_size bunC_0 bunC_1 bunC_2 bunC_3 bunC_36 bunC_g3 bunC_g36 bunC_part bunC_root bunC_set36 bunC_splice bunC_splice0 zero_bun bunC_all bunC_ne

def checkD (d : Tok) : Bool := decide (d.key = 0) && checkT d
def checkB (b : Bun) : Bool := !b.root.bnd && decide (b.dis.length ≤ 16) && checkT b.root && b.dis.all checkD
theorem c_check0 (t : Tok) (h0 : t.key = 0) (A : Option Addr) (n c : Nat) (ok : Nat → Prop) (w : World) (hR : kCav.Row ok w A n c t.cavs) :
    Calls Try.prog 40 #[.agg (tokC (.int .u64 0) (.string t.id) (.slice A n c) (.bool t.bnd) t.tag)] w fun e w' => e = .returned (errV (checkT t)) ∧ Below w.heap.size w w' := by
  have h := c_check t A n c ok w hR
  unfold tokV at h
  rw [h0] at h
  exact h
set_option maxRecDepth 100000 in
set_option maxHeartbeats 400000 in
theorem c_bcheck (x : Bun) (A B : Option Addr) (n c m d : Nat) (ok ok' : Nat → Prop) (w : World) (hR : kCav.Row ok w A n c x.root.cavs) (hS : kTok.Row ok' w B m d x.dis) :
    Calls Try.prog 54 #[bunV x A n c B m d] w fun e w' => e = .returned (errV (checkB x)) ∧ Below w.heap.size w w' := by
  have HL := hide hS.1
  have hm : m ≤ 9223372036854775807 := Nat.le_trans hS.2.1 hS.2.2.1
  have HR := hide hR
  have HS := hide hS
  clear hR hS
  unfold bunV bunA
  cases hb : x.root.bnd with
  | true =>
    have HC : Hid (checkB x = false) := hide (by simp [checkB, hb])
    clear hb
    go_enter Try.func54, Try.ntmps54
    go_wp2_with fail
    go_ret
    exact ⟨by rw [HC.out]; rfl, below1 _ _⟩
  | false =>
    by_cases h2 : 16 < m
    · have HC : Hid (checkB x = false) := hide (by
        have := HL.out
        have h : decide (x.dis.length ≤ 16) = false := decide_eq_false (by omega)
        simp [checkB, h])
      clear hb
      go_enter Try.func54, Try.ntmps54
      go_wp2_with fail
      go_ret
      exact ⟨by rw [HC.out]; rfl, below1 _ _⟩
    · have HC : Hid (checkB x = (checkT x.root && x.dis.all checkD)) := hide (by
        have := HL.out
        have h : decide (x.dis.length ≤ 16) = true := decide_eq_true (by omega)
        simp only [checkB, hb, h, Bool.not_false, Bool.true_and])
      have hbv : tokC (.int .u64 (x.root.key : Int)) (.string x.root.id) (.slice A n c) (.bool false) x.root.tag = tokA x.root A n c := by rw [tokA, hb]
      have HBV := hide hbv
      clear hb hbv
      go_enter Try.func54, Try.ntmps54
      go_wp2_with fail
      rw [HBV.out]
      refine (c_check x.root A n c ok _ (HR.out.below (below1 _ _))).mono ?_
      rintro e w1 ⟨rfl, b1⟩
      have HB := hide (bnext (below1 _ _) b1)
      have hg1 : w1.heap[w.heap.size]? = some (.cells (bunC (.int .u64 (x.root.key : Int)) (.string x.root.id) (.slice A n c) (.bool false) x.root.tag (.slice B m d)) 70) := (b1.block _ (by simp)).trans (heap_alloc_new _ _)
      have hy : w1.cell? ⟨w.heap.size, 36, none⟩ = some (.slice B m d) := (cell_of_row w1 _ _ _ _ _ hg1).trans (bunC_36 _ _ _ _ _ _)
      clear b1 hg1
      cases hck : checkT x.root with
      | false =>
        have HC := hide (HC.out.trans (by rw [hck, Bool.false_and]))
        clear hck
        simp only [errV]
        go_wp2_with fail
        go_ret
        exact ⟨by rw [HC.out]; rfl, HB.out⟩
      | true =>
        have HC := hide (HC.out.trans (by rw [hck, Bool.true_and]))
        clear hck
        simp only [errV]
        go_wp2_with fail
        go_loopw [23] (fun i wr => ∃ k : Nat, k ≤ m ∧ i = .int .i64 (k : Int) ∧ Hid ((x.dis.take k).all checkD = true) ∧ Hid (Below w.heap.size w wr)) (fun i _ => m - (intOf i).toNat)
        case atStart => exact ⟨0, Nat.zero_le _, rfl, hide rfl, HB⟩
        case round =>
          obtain ⟨k, hk, rfl, HA, HB⟩ := hrel
          by_cases hlt : k < m
          · obtain ⟨y, hx⟩ : ∃ y, x.dis[k]? = some y := ⟨_, List.getElem?_eq_getElem (by have := HL.out; omega)⟩
            obtain ⟨b, q, A1, n1, c1, hix, hbl, hag, hr1, hk1⟩ := tok_at (HS.out.below HB.out) hx
            have HX := hide hx
            have HR1 := hide hr1
            have hsb := HB.out.size
            clear hx hr1
            by_cases h0 : y.key = 0
            · have h0' : (y.key : Int) = 0 := by omega
              go_wp2_with fail
              refine (c_check0 y h0 A1 n1 c1 _ _ (HR1.out.below (below1 _ _))).mono ?_
              rintro e w2 ⟨rfl, b2⟩
              have HB2 := hide (HB.out.trans ((bnext (below1 _ _) b2).mono hsb))
              clear b2
              cases hc : checkT y with
              | true =>
                have HA1 : Hid ((x.dis.take (k + 1)).all checkD = true) := hide (by rw [List.take_add_one, HX.out, List.all_append, HA.out]; simp [hc, checkD, h0])
                clear hc
                simp only [errV]
                go_wp2_with fail
                go_roundw
                case rel => exact ⟨k + 1, by omega, by simp, HA1, HB2⟩
                case measure => simp [intOf]; omega
              | false =>
                have HA1 : Hid (x.dis.all checkD = false) := hide (by
                  rw [List.all_eq_false]
                  exact ⟨y, List.mem_of_getElem? HX.out, by simp [hc, checkD]⟩)
                clear hc
                simp only [errV]
                go_wp2_with fail
                go_ret
                exact ⟨by rw [HC.out, HA1.out]; rfl, HB2.out⟩
            · have h0' : ¬ (y.key : Int) = 0 := by omega
              have HA1 : Hid (x.dis.all checkD = false) := hide (by
                rw [List.all_eq_false]
                exact ⟨y, List.mem_of_getElem? HX.out, by simp [checkD, h0]⟩)
              go_wp2_with fail
              go_ret
              exact ⟨by rw [HC.out, HA1.out]; rfl, HB.out.alloc hsb _⟩
          · obtain rfl : k = m := by omega
            have HA1 : Hid (x.dis.all checkD = true) := hide (by
              have := HA.out
              rwa [List.take_of_length_le (Nat.le_of_eq HL.out)] at this)
            go_wp2_with fail
            go_ret
            exact ⟨by rw [HC.out, HA1.out]; rfl, HB.out⟩
end Go.Proofs.Ytlfhbnajopekpaa
