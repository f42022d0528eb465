/- Words for rows of cells that are loaded and stored whole. No condition. -/
import Derived.Test.YtdkeflhgengblaaDoorRepB
namespace Go.Proofs.YtdkeflhgengblaaDoor
open Go.RowKit

/-- Cells that are loaded whole. -/
def ldAgg (a : Addr) (n : Nat) : Sem (Array Value) := loadCells a n
theorem ld16 (a : Addr) : loadCellsFrom a 0 16 #[] = ldAgg a 16 := rfl
theorem ld17 (a : Addr) : loadCellsFrom a 0 17 #[] = ldAgg a 17 := rfl
theorem ld32 (a : Addr) : loadCellsFrom a 0 32 #[] = ldAgg a 32 := rfl
theorem ld36 (a : Addr) : loadCellsFrom a 0 36 #[] = ldAgg a 36 := rfl
/-- The cells from a place on. -/
def agg? (w : World) (a : Addr) (n : Nat) : Option (Array Value) := if ∀ j, j < n → (w.cell? (a.add j)).isSome then some ((List.range n).map fun j => (w.cell? (a.add j)).getD undef).toArray else none
/-- A part of a row. -/
def part? (C : Array Value) (o n : Nat) : Option (Array Value) := if o + n ≤ C.size then some (C.extract o (o + n)) else none
/-- A row in place of a part. -/
def splice (C : Array Value) (o : Nat) (c : Array Value) : Array Value := (C.toList.take o ++ c.toList ++ C.toList.drop (o + c.size)).toArray
/-- A block's cells, of one that nothing freezes. -/
def row? (w : World) (g : Nat) : Option (Array Value) := match w.heap[g]? with | some (.cells C _ (0, 0)) => some C | _ => none
theorem splice_size (C c : Array Value) (o : Nat) (h : o + c.size ≤ C.size) : (splice C o c).size = C.size := by simp [splice]; omega
theorem part_self (C : Array Value) (n : Nat) (h : C.size = n) : part? C 0 n = some C := by subst h; simp [part?]

theorem run_ldAgg {P : Program} (w : World) (a : Addr) (n : Nat) (h : (agg? w a n).isSome = true) : (ldAgg a n).run P w = .ok ((agg? w a n).getD #[]) w := by
  unfold agg? at h ⊢
  split at h
  · rename_i hc
    rw [if_pos hc, ldAgg, run_loadCells w a n (fun j => (w.cell? (a.add j)).getD undef) (fun j hj => by
      obtain ⟨v, hv⟩ := Option.isSome_iff_exists.1 (hc j hj)
      simp [hv])]
    rfl
  · cases h
theorem add_lit' (b o k : Nat) : (⟨b, o, none⟩ : Addr).add k = ⟨b, o + k, none⟩ := by
  unfold Addr.add
  split <;> simp_all
theorem agg_of_row {w : World} {g : Nat} {C : Array Value} {t : TypeId} {fr : Nat × Nat} (h : w.heap[g]? = some (.cells C t fr)) (o n : Nat) (h0 : 0 < n) : agg? w ⟨g, o, none⟩ n = part? C o n := by
  unfold agg? part?
  have hc : ∀ j, w.cell? ((⟨g, o, none⟩ : Addr).add j) = C[o + j]? := fun j => by rw [add_lit', cell_of_row w _ _ _ _ _ h]
  by_cases hl : o + n ≤ C.size
  · rw [if_pos hl, if_pos (fun j hj => by rw [hc, Array.getElem?_eq_getElem (by omega)]; rfl)]
    congr 1
    apply Array.ext
    · simp; omega
    · intro i h1 h2
      simp only [List.size_toArray, List.length_map, List.length_range] at h1
      simp only [List.getElem_toArray, List.getElem_map, List.getElem_range, hc, Array.getElem_extract]
      rw [Array.getElem?_eq_getElem (by omega)]
      rfl
  · rw [if_neg hl]
    split
    · rename_i hj
      have := hj (n - 1) (by omega)
      rw [hc, Array.getElem?_eq_none (by omega)] at this
      cases this
    · rfl
theorem agg_same {w w' : World} {b o n : Nat} (h : ∀ j, w'.cell? ⟨b, o + j, none⟩ = w.cell? ⟨b, o + j, none⟩) : agg? w' ⟨b, o, none⟩ n = agg? w ⟨b, o, none⟩ n := by
  unfold agg?
  simp only [add_lit', h]
theorem agg_block {w w' : World} {b o n : Nat} (h : w'.heap[b]? = w.heap[b]?) : agg? w' ⟨b, o, none⟩ n = agg? w ⟨b, o, none⟩ n := agg_same fun j => World.cell?_of_block (a := ⟨b, o + j, none⟩) h
theorem agg_range {w : World} {b o : Nat} {cs : List Value} (h : w.rangeAt b o cs) (n : Nat) (hn : cs.length = n) : agg? w ⟨b, o, none⟩ n = some cs.toArray := by
  subst hn
  have hc : ∀ j (hj : j < cs.length), w.cell? ((⟨b, o, none⟩ : Addr).add j) = some cs[j] := fun j hj => by rw [add_lit']; exact h j _ (List.getElem?_eq_getElem hj)
  unfold agg?
  rw [if_pos (fun j hj => by rw [hc j hj]; rfl)]
  congr 1
  apply Array.ext
  · simp
  · intro i h1 h2
    simp only [List.size_toArray, List.length_map, List.length_range] at h1
    simp only [List.getElem_toArray, List.getElem_map, List.getElem_range, hc i h1]
    rfl

section
variable (w : World) (o : Obj) (n i k : Nat) (C : Array Value) (t : TypeId)
theorem agg_alloc_at (hn : n = w.heap.size) (h0 : 0 < k) : agg? (w.alloc (.cells C t)) ⟨n, i, none⟩ k = part? C i k := by
  subst hn
  exact agg_of_row (heap_alloc_new _ _) _ _ h0
theorem agg_alloc_past (hn : n < w.heap.size) : agg? (w.alloc o) ⟨n, i, none⟩ k = agg? w ⟨n, i, none⟩ k := agg_block (Below.heap_alloc w o n hn)
theorem agg_drew : agg? w.drew ⟨n, i, none⟩ k = agg? w ⟨n, i, none⟩ k := rfl
theorem agg_setCell (a : Addr) (v : Value) (hn : ¬ n = a.block) : agg? (w.setCell a v) ⟨n, i, none⟩ k = agg? w ⟨n, i, none⟩ k := agg_block (Below.heap_setCell w a v n hn)
theorem row_alloc_at (hn : n = w.heap.size) : row? (w.alloc (.cells C t)) n = some C := by
  subst hn
  simp only [row?, heap_alloc_new]
theorem row_alloc_past (hn : n < w.heap.size) : row? (w.alloc o) n = row? w n := by simp only [row?, Below.heap_alloc w o n hn]
theorem row_drew : row? w.drew n = row? w n := rfl
theorem setRow_alloc_at (c : Array Value) (hn : n = w.heap.size) : (w.alloc (.cells C t)).setRow n c = w.alloc (.cells c t) := by
  subst hn
  simp only [World.setRow, World.alloc]
  congr 1
  apply Array.ext_getElem?
  intro i
  rw [Array.getElem?_modify]
  by_cases h : w.heap.size = i
  · subst h
    simp
  · have h' : ¬ i = w.heap.size := fun e => h e.symm
    simp [h, h', Array.getElem?_push]
theorem setRow_alloc_past (c : Array Value) (hn : n < w.heap.size) : (w.alloc o).setRow n c = (w.setRow n c).alloc o := by
  simp only [World.setRow, World.alloc]
  congr 1
  apply Array.ext_getElem?
  intro i
  rw [Array.getElem?_modify]
  simp only [Array.getElem?_push, Array.size_modify, Array.getElem?_modify]
  by_cases h : n = i
  · subst h
    have : ¬ n = w.heap.size := by omega
    simp [this]
  · simp [h]
theorem setRow_drew (c : Array Value) : w.drew.setRow n c = (w.setRow n c).drew := rfl
theorem size_setRow (c : Array Value) : (w.setRow n c).heap.size = w.heap.size := by simp [World.setRow]
theorem heap_setRow_far (c : Array Value) {m : Nat} (h : ¬ m = n) : (w.setRow n c).heap[m]? = w.heap[m]? := by
  simp only [World.setRow]
  rw [Array.getElem?_modify, if_neg (fun e => h e.symm)]
end
theorem bsetRow {B : Nat} {w w' : World} (h : Below B w w') {g : Nat} (hg : B ≤ g) (c : Array Value) : Below B w (w'.setRow g c) :=
  h.trans ⟨rfl, rfl, rfl, by rw [size_setRow]; exact Nat.le_refl _, fun k hk => heap_setRow_far _ _ _ (by omega)⟩

theorem below1 (w : World) (o : Obj) : Below w.heap.size w (w.alloc o) := (Below.refl _ _).alloc (Nat.le_refl _) _
theorem below2 (w : World) (o p : Obj) : Below w.heap.size w ((w.alloc o).alloc p) := (below1 w o).alloc (by simp) _
theorem below3 (w : World) (o p q : Obj) : Below w.heap.size w (((w.alloc o).alloc p).alloc q) := (below2 w o p).alloc (by simp only [World.size_alloc]; omega) _
/-- Two stretches of a walk, one behind the other. -/
theorem bnext {w w1 w2 : World} (h : Below w.heap.size w w1) (k : Below w1.heap.size w1 w2) : Below w.heap.size w w2 := h.trans (k.mono h.size)
theorem agg_setRow_at (w : World) (n i k : Nat) (c : Array Value) (h : (row? w n).isSome = true) (h0 : 0 < k) : agg? (w.setRow n c) ⟨n, i, none⟩ k = part? c i k := by
  unfold row? at h
  split at h
  · rename_i C t hg
    exact agg_of_row (setRow_heap w n C c t _ hg) _ _ h0
  · cases h
theorem agg_setRow_far (w : World) (m n i k : Nat) (c : Array Value) (h : ¬ m = n) : agg? (w.setRow n c) ⟨m, i, none⟩ k = agg? w ⟨m, i, none⟩ k := agg_block (heap_setRow_far _ _ _ h)
theorem cell_setRow_at (w : World) (n i : Nat) (c : Array Value) (h : (row? w n).isSome = true) : (w.setRow n c).cell? ⟨n, i, none⟩ = c[i]? := by
  unfold row? at h
  split at h
  · rename_i C t hg
    exact cell_of_row _ _ _ _ _ _ (setRow_heap w n C c t _ hg)
  · cases h
theorem cell_setRow_far (w : World) (m n i : Nat) (c : Array Value) (h : ¬ m = n) : (w.setRow n c).cell? ⟨m, i, none⟩ = w.cell? ⟨m, i, none⟩ := World.cell?_of_block (a := ⟨m, i, none⟩) (heap_setRow_far _ _ _ h)
theorem row_setRow_far (w : World) (m n : Nat) (c : Array Value) (h : ¬ m = n) : row? (w.setRow n c) m = row? w m := by simp only [row?, heap_setRow_far _ _ _ h]
theorem row_of {w : World} {n : Nat} {C : Array Value} {t : TypeId} (h : w.heap[n]? = some (.cells C t (0, 0))) : row? w n = some C := by simp only [row?, h]
def oneAll (c : Array Value) : Bool := c.all (·.oneCell')
theorem run_storeAgg {P : Program} (w : World) (g o : Nat) (c : Array Value) (hr : (row? w g).isSome = true) (hs : o + c.size ≤ ((row? w g).getD #[]).size) (h1 : oneAll c = true) :
    (storeCells ⟨g, o, none⟩ c.toList 0).run P w = .ok () (w.setRow g (splice ((row? w g).getD #[]) o c)) := by
  unfold row? at hr hs ⊢
  split at hr
  · rename_i C t h
    simp only [h, Option.getD_some] at hs ⊢
    have := run_storeCells_at (P := P) g o t c.toList 0 C w h (by simpa using hs) (fun v hv => (Array.all_eq_true_iff_forall_mem.1 h1) v (by simpa using hv))
    simpa [splice] using this
  · cases hr

theorem one_int (k : IntKind) (n : Int) : (Value.int k n).oneCell' = true := rfl
theorem one_str (s : ByteArray) : (Value.string s).oneCell' = true := rfl
theorem one_bool (b : Bool) : (Value.bool b).oneCell' = true := rfl
theorem one_slice (a : Option Addr) (n c : Nat) : (Value.slice a n c).oneCell' = true := rfl
/-- 32 bytes. -/
structure Tg where
  l : List UInt8
  len : l.length = 32
  deriving DecidableEq
/-- A tag's cells. -/
def tgC (t : Tg) : Array Value := (t.l.map bv).toArray
theorem tgC_size (t : Tg) : (tgC t).size = 32 := by simp [tgC, t.len]
theorem tgC_one (t : Tg) : oneAll (tgC t) = true := by
  rw [oneAll, Array.all_eq_true_iff_forall_mem]
  intro v hv
  simp [tgC] at hv
  obtain ⟨b, _, rfl⟩ := hv
  rfl
theorem tgC_part (t : Tg) : part? (tgC t) 0 32 = some (tgC t) := part_self _ _ (tgC_size t)
theorem tgC_splice (t u : Tg) : splice (tgC t) 0 (tgC u) = tgC u := by
  have h : List.drop 32 (tgC t).toList = [] := List.drop_eq_nil_of_le (by simp [tgC_size])
  simp [splice, tgC_size, h]
def Tg.zero : Tg := ⟨List.replicate 32 0, by simp⟩
abbrev tgV (t : Tg) : Value := .agg (tgC t)
/-- A token's cells. -/
def tokC (a b c d : Value) (t : Tg) : Array Value := #[a, b, c, d] ++ tgC t
section
variable (a b c d v : Value) (t u : Tg)
theorem tokC_size : (tokC a b c d t).size = 36 := by simp [tokC, tgC_size]
theorem tokC_0 : (tokC a b c d t)[0]? = some a := by simp [tokC, Array.getElem?_append]
theorem tokC_1 : (tokC a b c d t)[1]? = some b := by simp [tokC, Array.getElem?_append]
theorem tokC_2 : (tokC a b c d t)[2]? = some c := by simp [tokC, Array.getElem?_append]
theorem tokC_3 : (tokC a b c d t)[3]? = some d := by simp [tokC, Array.getElem?_append]
theorem tokC_g0 (h : 0 < (tokC a b c d t).size) : (tokC a b c d t)[0]'h = a := by simp [tokC]
theorem tokC_g1 (h : 1 < (tokC a b c d t).size) : (tokC a b c d t)[1]'h = b := by simp [tokC]
theorem tokC_g2 (h : 2 < (tokC a b c d t).size) : (tokC a b c d t)[2]'h = c := by simp [tokC]
theorem tokC_g3 (h : 3 < (tokC a b c d t).size) : (tokC a b c d t)[3]'h = d := by simp [tokC]
theorem tokC_part : part? (tokC a b c d t) 0 36 = some (tokC a b c d t) := part_self _ _ (tokC_size a b c d t)
theorem tokC_tag : part? (tokC a b c d t) 4 32 = some (tgC t) := by
  have h : (tokC a b c d t).size = 36 := tokC_size a b c d t
  unfold part?
  rw [h, if_pos (by decide)]
  congr 1
  apply Array.ext
  · simp [h, tgC_size]
  · intro i h1 h2
    simp [tokC]
theorem tokC_set0 : (tokC a b c d t).setIfInBounds 0 v = tokC v b c d t := by
  apply Array.ext
  · simp [tokC]
  · intro i h1 h2
    rw [Array.getElem_setIfInBounds]
    rcases i with _ | _ | _ | _ | i <;> simp [tokC]
    all_goals (rw [tokC_size] at h2 ⊢; exact h2)
theorem tokC_set1 : (tokC a b c d t).setIfInBounds 1 v = tokC a v c d t := by
  apply Array.ext
  · simp [tokC]
  · intro i h1 h2
    rw [Array.getElem_setIfInBounds]
    rcases i with _ | _ | _ | _ | i <;> simp [tokC]
    all_goals (rw [tokC_size] at h2 ⊢; exact h2)
theorem tokC_set2 : (tokC a b c d t).setIfInBounds 2 v = tokC a b v d t := by
  apply Array.ext
  · simp [tokC]
  · intro i h1 h2
    rw [Array.getElem_setIfInBounds]
    rcases i with _ | _ | _ | _ | i <;> simp [tokC]
    all_goals (rw [tokC_size] at h2 ⊢; exact h2)
theorem tokC_set3 : (tokC a b c d t).setIfInBounds 3 v = tokC a b c v t := by
  apply Array.ext
  · simp [tokC]
  · intro i h1 h2
    rw [Array.getElem_setIfInBounds]
    rcases i with _ | _ | _ | _ | i <;> simp [tokC]
    all_goals (rw [tokC_size] at h2 ⊢; exact h2)
theorem tokC_splice : splice (tokC a b c d t) 4 (tgC u) = tokC a b c d u := by
  have h : (tokC a b c d t).size = 36 := tokC_size a b c d t
  simp [splice, tokC, tgC_size]
theorem tokC_splice0 (C : Array Value) (h : C.size = 36) : splice C 0 (tokC a b c d t) = tokC a b c d t := by
  have h' : List.drop 36 C.toList = [] := List.drop_eq_nil_of_le (by simp [h])
  simp [splice, tokC_size, h']
theorem tgC_splice_any (C : Array Value) (h : C.size = 32) : splice C 0 (tgC u) = tgC u := by
  have h' : List.drop 32 C.toList = [] := List.drop_eq_nil_of_le (by simp [h])
  simp [splice, tgC_size, h']
theorem bv0 : bv 0 = .int .u8 0 := rfl
theorem zero_tg : (#[.int .u8 0, .int .u8 0, .int .u8 0, .int .u8 0, .int .u8 0, .int .u8 0, .int .u8 0, .int .u8 0, .int .u8 0, .int .u8 0, .int .u8 0, .int .u8 0, .int .u8 0, .int .u8 0, .int .u8 0, .int .u8 0, .int .u8 0, .int .u8 0, .int .u8 0, .int .u8 0, .int .u8 0, .int .u8 0, .int .u8 0, .int .u8 0, .int .u8 0, .int .u8 0, .int .u8 0, .int .u8 0, .int .u8 0, .int .u8 0, .int .u8 0, .int .u8 0] : Array Value) = tgC Tg.zero := by
  simp only [tgC, Tg.zero, List.replicate, List.map, bv0]
theorem zero_tok : (#[a, b, c, d, .int .u8 0, .int .u8 0, .int .u8 0, .int .u8 0, .int .u8 0, .int .u8 0, .int .u8 0, .int .u8 0, .int .u8 0, .int .u8 0, .int .u8 0, .int .u8 0, .int .u8 0, .int .u8 0, .int .u8 0, .int .u8 0, .int .u8 0, .int .u8 0, .int .u8 0, .int .u8 0, .int .u8 0, .int .u8 0, .int .u8 0, .int .u8 0, .int .u8 0, .int .u8 0, .int .u8 0, .int .u8 0, .int .u8 0, .int .u8 0, .int .u8 0, .int .u8 0] : Array Value) = tokC a b c d Tg.zero := by
  simp only [tokC, tgC, Tg.zero, List.replicate, List.map, bv0, List.append_toArray, List.cons_append, List.nil_append]
theorem tokC_one (ha : a.oneCell' = true) (hb : b.oneCell' = true) (hc : c.oneCell' = true) (hd : d.oneCell' = true) : oneAll (tokC a b c d t) = true := by
  rw [oneAll, Array.all_eq_true_iff_forall_mem]
  intro x hx
  simp [tokC] at hx
  rcases hx with (rfl | rfl | rfl | rfl) | hx
  · exact ha
  · exact hb
  · exact hc
  · exact hd
  · exact (Array.all_eq_true_iff_forall_mem.1 (tgC_one t)) x hx
theorem tokC_all (k : IntKind) (n : Int) (s : ByteArray) (A : Option Addr) (l m : Nat) (q : Bool) : oneAll (tokC (.int k n) (.string s) (.slice A l m) (.bool q) t) = true := tokC_one _ _ _ _ _ rfl rfl rfl rfl
theorem tokC_ne : (tokC a b c d t = #[]) = False := eq_false fun h => by
  have := congrArg Array.size h
  rw [tokC_size] at this
  cases this
theorem tgC_ne : (tgC t = #[]) = False := eq_false fun h => by
  have := congrArg Array.size h
  rw [tgC_size] at this
  cases this
end
end Go.Proofs.YtdkeflhgengblaaDoor
