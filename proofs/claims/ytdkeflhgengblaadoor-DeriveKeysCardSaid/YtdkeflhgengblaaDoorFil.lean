/- Literals whose parts are rows of cells. No condition. -/
import Derived.Test.YtdkeflhgengblaaDoorAgg
import Derived.Great.FillDense
namespace Go.Proofs.YtdkeflhgengblaaDoor
open Go.RowKit
theorem fill_cons {place : Nat → Option (Nat × Nat)} {cells v : Array Value} {i o n : Nat} {rest : List (Nat × Value)} (hp : place i = some (o, n)) (hv : v.size = n) (hc : o + n ≤ cells.size) :
    Instr.fill place cells ((i, .agg v) :: rest) = Instr.fill place (splice cells o v) rest := by
  obtain ⟨h1, h2⟩ := Great.foldl_set o v.toList 0 cells
  conv => lhs; unfold Instr.fill
  simp only [hp]
  split
  · rename_i h
    exfalso
    simp [Value.cells, hv] at h
    omega
  show Instr.fill place (Array.foldl (fun cs x => cs.setIfInBounds (o + x.2) x.1) cells v.zipIdx) rest = _
  congr 1
  apply Array.ext_getElem?
  intro k
  have h3 := h2 k
  rw [← Array.foldl_toList]
  simp only [Array.toList_zipIdx]
  rw [h3]
  simp only [splice, Array.length_toList, hv, Nat.add_zero]
  have hlen : (List.take o cells.toList).length = o := by rw [List.length_take, Array.length_toList]; omega
  have e : (List.take o cells.toList ++ v.toList ++ List.drop (o + n) cells.toList).toArray[k]? = (List.take o cells.toList ++ (v.toList ++ List.drop (o + n) cells.toList))[k]? := by
    rw [List.append_assoc]
    simp only [List.getElem?_toArray]
  rw [e, List.getElem?_append, hlen]
  rcases Nat.lt_or_ge k o with h | h
  · rw [if_neg (by omega), if_pos h, List.getElem?_take, if_pos h, Array.getElem?_toList]
  · rw [if_neg (Nat.not_lt.2 h), List.getElem?_append, Array.length_toList, hv]
    rcases Nat.lt_or_ge k (o + n) with h' | h'
    · rw [if_pos (by omega), if_pos (by omega)]
    · rw [if_neg (by omega), if_neg (by omega), List.getElem?_drop, Array.getElem?_toList, show o + n + (k - o - n) = k by omega]
theorem fill_one {place : Nat → Option (Nat × Nat)} {cells : Array Value} {v : Value} {i o : Nat} {rest : List (Nat × Value)} (hp : place i = some (o, 1)) (hv : v.cells = #[v]) (hc : o < cells.size) :
    Instr.fill place cells ((i, v) :: rest) = Instr.fill place (cells.setIfInBounds o v) rest := by
  conv => lhs; unfold Instr.fill
  simp only [hp]
  split
  · rename_i h
    exfalso
    simp [hv] at h
    omega
  · rw [hv]
    rfl
end Go.Proofs.YtdkeflhgengblaaDoor
