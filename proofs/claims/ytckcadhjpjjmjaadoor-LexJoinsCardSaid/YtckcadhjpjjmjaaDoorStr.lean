/- Rows of texts: a text at its place; a row out of a new block. No condition. -/
import Derived.Test.YtckcadhjpjjmjaaDoorRepB
import Derived.Test.YtckcadhjpjjmjaaDoorChecked
namespace Go.Proofs.YtckcadhjpjjmjaaDoor
open Go.RowKit
theorem str_info : (Tryd.prog.info? 9).map (·.size) = some kStr.sz := by kernel_rfl
theorem str_inf : (Tryd.prog.info? 9).map (fun i => (i.zero, i.size, i.bytes)) = some (some (.string ByteArray.empty), kStr.sz, 16) := by kernel_rfl
theorem row_str {ok : Nat → Prop} {w : World} {A : Option Addr} {n c : Nat} {l : List ByteArray} (h : kStr.Row ok w A n c l) {i : Nat} {x : ByteArray} (hx : l[i]? = some x) :
    ∃ p o, (∀ wx : World, (Instr.indexAt 22 (.slice A n c) (.int .i64 (i : Int))).run Tryd.prog wx = .ok (.pointer (some ⟨p, o, none⟩)) wx) ∧ w.cell? ⟨p, o, none⟩ = some (.string x) ∧ p < w.heap.size ∧ x.size ≤ maxLen := by
  obtain ⟨p, o, cs, hi, -, hb, hk, hra⟩ := h.index (P := Tryd.prog) Tryd.underlying22 (E := 9) str_info hx
  obtain ⟨rfl, hm⟩ := hk
  exact ⟨p, o, hi, by simpa using hra 0 _ rfl, hb, hm⟩
theorem strs_row {w : World} {g : Nat} {C : Array Value} {t : TypeId} {fr : Nat × Nat} (l : List ByteArray) (hg : w.heap[g]? = some (.cells C t fr)) (hC : C.toList = l.map Value.string) (hs : ∀ s ∈ l, s.size ≤ maxLen) (hm : l.length ≤ maxLen) : kStr.Row (fun _ => True) w (some ⟨g, 0, none⟩) l.length l.length l := by
  refine ⟨rfl, Nat.le_refl _, hm, fun _ => ⟨g, 0, rfl, trivial, (Array.getElem?_eq_some_iff.1 hg).1, fun i y hy => ⟨[.string y], ⟨rfl, hs y (List.mem_of_getElem? hy)⟩, fun j u hu => ?_⟩⟩⟩
  have hj : j = 0 := by have := (List.getElem?_eq_some_iff.1 hu).1; simp at this; omega
  subst hj
  have hu' : u = .string y := by simpa using hu.symm
  subst hu'
  rw [cell_of_row _ _ _ _ _ _ hg, ← Array.getElem?_toList, hC, List.getElem?_map]
  simp only [kStr, Kd.cell, Nat.zero_add, Nat.mul_one, Nat.add_zero, hy, Option.map_some]
end Go.Proofs.YtckcadhjpjjmjaaDoor
