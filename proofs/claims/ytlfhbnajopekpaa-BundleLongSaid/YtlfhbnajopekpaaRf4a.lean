/- Words for caveats that are turned in place, and for a tag that is written byte by byte. No condition. -/
import Derived.Test.YtlfhbnajopekpaaRf5
import Derived.Test.YtlfhbnajopekpaaRf3b
namespace Go.Proofs.Ytlfhbnajopekpaa
open Go.RowKit

section
variable {w w' : World} {base g : Nat} {E : TypeId} {A : Option Addr} {n c : Nat} {xs : List Cav}
theorem cav_cells5 (x : Cav) : x.cells.length = 5 := rfl
theorem css_cells {css : List (List Value)} {ok : Nat → Prop} (h : kCav.Els ok w xs css) : css = xs.map Cav.cells := by
  apply List.ext_getElem?
  intro i
  rw [List.getElem?_map]
  by_cases hi : i < xs.length
  · have h1 : xs[i]? = some xs[i] := List.getElem?_eq_getElem hi
    have h2 : css[i]? = some (css[i]'(by rw [h.1]; exact hi)) := List.getElem?_eq_getElem _
    rw [h2, h1, (h.2 i _ _ h1 h2).1]
    rfl
  · rw [List.getElem?_eq_none (by rw [h.1]; omega), List.getElem?_eq_none (by omega)]; rfl
theorem els_ok {css : List (List Value)} {ok : Nat → Prop} (h : kCav.Els ok w xs css) : ∀ x ∈ xs, x.ok := by
  intro x hx
  obtain ⟨i, hi, rfl⟩ := List.mem_iff_getElem.1 hx
  exact (h.2 i _ _ (List.getElem?_eq_getElem hi) (List.getElem?_eq_getElem (by rw [h.1]; exact hi))).2
theorem els_of {ok : Nat → Prop} (h : ∀ x ∈ xs, x.ok) : kCav.Els ok w xs (xs.map Cav.cells) :=
  ⟨by simp, fun i x cs hx hc => by
    rw [List.getElem?_map, hx] at hc
    cases hc
    exact ⟨rfl, h x (List.mem_of_getElem? hx)⟩⟩
theorem cells_at : ∀ (xs : List Cav) (i j : Nat) (x : Cav) (u : Value), xs[i]? = some x → x.cells[j]? = some u → (xs.map Cav.cells).flatten[i * 5 + j]? = some u := by
  intro xs i j x u hx hu
  exact flat_at (s := 5) (fun cs hcs => by obtain ⟨y, _, rfl⟩ := List.mem_map.1 hcs; rfl) (by rw [List.getElem?_map, hx]; rfl) hu
theorem own_open (h : kCav.Own (fun _ => False) base w E (.slice A n c) xs) (hn : xs ≠ []) :
    ∃ g cur, A = some ⟨g, 0, none⟩ ∧ base ≤ g ∧ w.heap[g]? = some (.cells cur E (0, 0)) ∧ ∀ (i j : Nat) (x : Cav) (u : Value), xs[i]? = some x → x.cells[j]? = some u → cur[i * 5 + j]? = some u := by
  obtain ⟨css, he, ho⟩ := h
  have hcs := css_cells he
  rcases ho.2 with ⟨_, h0⟩ | ⟨g, cap, cur, e, hb, hg, hnc, hcm, hsz, ht⟩
  · exact absurd (List.eq_nil_of_length_eq_zero h0) hn
  · cases e
    refine ⟨g, cur, rfl, hb, hg, fun i j x u hx hu => ?_⟩
    have h1 := cells_at xs i j x u hx hu
    rw [← hcs, ← ht, List.getElem?_take] at h1
    split at h1
    · simpa using h1
    · cases h1
theorem flatten_set : ∀ (xs : List Cav) (i j : Nat) (x x' : Cav) (u : Value), xs[i]? = some x → j < 5 → x'.cells = x.cells.set j u → ((xs.set i x').map Cav.cells).flatten = (xs.map Cav.cells).flatten.set (i * 5 + j) u
  | [], i, j, x, x', u, hx, _, _ => by simp at hx
  | y :: xs, 0, j, x, x', u, hx, hj, hc => by
    simp at hx
    subst hx
    simp only [List.set_cons_zero, List.map_cons, List.flatten_cons, hc, Nat.zero_mul, Nat.zero_add]
    rw [List.set_append, if_pos (by rw [cav_cells5]; exact hj)]
  | y :: xs, i + 1, j, x, x', u, hx, hj, hc => by
    simp at hx
    simp only [List.set_cons_succ, List.map_cons, List.flatten_cons]
    rw [flatten_set xs i j x x' u hx hj hc, List.set_append, if_neg (by rw [cav_cells5]; omega), cav_cells5]
    congr 2
    omega
theorem own_field {i j : Nat} {x x' : Cav} {u : Value} (h : kCav.Own (fun _ => False) base w E (.slice (some ⟨g, 0, none⟩) n c) xs) (hx : xs[i]? = some x) (hj : j < 5) (hc : x'.cells = x.cells.set j u) (hok : x'.ok) :
    kCav.Own (fun _ => False) base (w.setCell ⟨g, i * 5 + j, none⟩ u) E (.slice (some ⟨g, 0, none⟩) n c) (xs.set i x') := by
  obtain ⟨css, he, ho⟩ := h
  have hcs := css_cells he
  have hoks := els_ok he
  rcases ho.2 with ⟨e, _⟩ | ⟨g', cap, cur, e, hb, hg, hnc, hcm, hsz, ht⟩
  · cases e
  · cases e
    refine ⟨(xs.set i x').map Cav.cells, (els_of fun y hy => ?_), ?_, .inr ⟨g, c, _, by rw [List.length_set], hb, heap_setCell_at hg u, by rw [List.length_set]; exact hnc, hcm, by simpa using hsz, ?_⟩⟩
    · rcases List.mem_or_eq_of_mem_set hy with hy | rfl
      · exact hoks y hy
      · exact hok
    · rw [flat_len (s := 5) (fun cs hcs => by obtain ⟨y, _, rfl⟩ := List.mem_map.1 hcs; rfl)]
      simp [kCav]
    · rw [flatten_set xs i j x x' u hx hj hc, ← hcs, ← ht, List.length_set]
      simp only [Array.toList_setIfInBounds]
      rw [List.take_set]
theorem own_same (h : kCav.Own (fun _ => False) base w E (.slice A n c) xs) {ys : List Cav} (e : xs = ys) : kCav.Own (fun _ => False) base w E (.slice A n c) ys := e ▸ h
theorem modify_set {α : Type} {l : List α} {m : Nat} {x : α} (f : α → α) (hl : l.length = m + 1) (hx : l[m]? = some x) : l.modify (l.length - 1) f = l.set m (f x) := by
  have e : l.length - 1 = m := by omega
  rw [e]
  apply List.ext_getElem?
  intro i
  rw [List.getElem?_modify, List.getElem?_set]
  by_cases h : m = i
  · subst h
    have h2 : m < l.length := by omega
    have h3 := (List.getElem?_eq_some_iff.1 hx).2
    simp [h2, h3]
  · simp [h]
theorem own_fld {v : Value} {l : List Fld} (h : kFld.Own (fun _ => True) base w E v l) : kFld.Own (fun _ => False) base w E v l :=
  let ⟨css, he, ho⟩ := h; ⟨css, ⟨he.1, fun i x cs hx hcs => he.2 i x cs hx hcs⟩, ho⟩
end
theorem tokC_setTag (a b c d : Value) (t u : Tg) (i : Nat) (x : UInt8) (hu : u.l = t.l.set i x) : (tokC a b c d t).setIfInBounds (4 + i) (bv x) = tokC a b c d u := by
  have e : tgC u = (tgC t).setIfInBounds i (bv x) := by
    apply Array.toList_inj.1
    simp [tgC, hu, List.map_set]
  apply Array.toList_inj.1
  simp only [tokC, e, Array.toList_setIfInBounds, Array.toList_append]
  rw [List.set_append, if_neg (by simp)]
  congr 2
  simp
theorem tokC_tagAt (a b c d : Value) (t : Tg) {i : Nat} {y : UInt8} (h : t.l[i]? = some y) : (tokC a b c d t)[4 + i]? = some (bv y) := by
  have e : 4 + i = i + 1 + 1 + 1 + 1 := by omega
  rw [e]
  simp [tokC, tgC, h]
/-- A tag's first bytes. -/
theorem part_set {bs tl : List UInt8} {i : Nat} {x : UInt8} (hx : bs[i]? = some x) (hi : i < tl.length) : (bs.take i ++ tl.drop i).set i x = bs.take (i + 1) ++ tl.drop (i + 1) := by
  have hb : i < bs.length := (List.getElem?_eq_some_iff.1 hx).1
  have hl : (bs.take i).length = i := by rw [List.length_take]; omega
  rw [List.set_append, if_neg (by omega), hl, Nat.sub_self, List.take_add_one, hx]
  rw [List.drop_eq_getElem_cons hi, List.set_cons_zero]
  simp
theorem index_str {P : Program} {T : TypeId} (hT : P.underlying T = some .string) {s : ByteArray} {i : Nat} {x : UInt8} (hx : (byt s)[i]? = some x) (wx : World) : (Instr.index T (.string s) (.int .i64 (i : Int))).run P wx = .ok (bv x) wx := by
  have hi : i < s.size := by rw [← byt_len]; exact (List.getElem?_eq_some_iff.1 hx).1
  rw [run_index_string wx T s .i64 i hT, dif_pos ⟨by omega, by omega⟩]
  have e : s[(i : Int).toNat]'(by simpa using hi) = x := by
    have h1 := (List.getElem?_eq_some_iff.1 hx).2
    rw [← h1]
    simp [byt]
    rfl
  rw [e]
end Go.Proofs.Ytlfhbnajopekpaa
