/- Zeros made, and zeros appended. No condition. -/
import Derived.Test.YtdkeflhgengblaaDoorRepB
import Derived.Deep.OwnRows
import Derived.Laws.OwnMore
import Derived.Lib.AppendZerosOnto
namespace Go.Proofs.YtdkeflhgengblaaDoor
open Go.RowKit

def zs (k : Nat) : List UInt8 := List.replicate k 0
theorem zs_len (k : Nat) : (zs k).length = k := List.length_replicate
section
variable {P : Program} {E : TypeId} {w w' : World} {ok : Nat → Prop}
/-- A row of zeros' cells. -/
theorem zrow {g k : Nat} {C : Array Value} {fr : Nat × Nat} (hg : w.heap[g]? = some (.cells C E fr)) (hC : C.toList = List.replicate k (Value.int .u8 0)) (hok : ok g) (hk : k ≤ maxLen) : kU8.Row ok w (some ⟨g, 0, none⟩) k k (zs k) := by
  refine ⟨zs_len k, Nat.le_refl _, hk, fun _ => ⟨g, 0, rfl, hok, (Array.getElem?_eq_some_iff.1 hg).1, fun i x hx => ⟨[bv x], ⟨rfl, trivial⟩, fun j u hu => ?_⟩⟩⟩
  have hi : i < k := by have := (List.getElem?_eq_some_iff.1 hx).1; rwa [zs_len] at this
  have hx0 : x = 0 := by
    have := List.mem_of_getElem? hx
    exact List.eq_of_mem_replicate this
  subst hx0
  have hj : j = 0 := by have := (List.getElem?_eq_some_iff.1 hu).1; simp at this; omega
  subst hj
  have hu' : u = bv 0 := by simpa using hu.symm
  subst hu'
  rw [cell_of_row w _ _ _ _ _ hg]
  rw [← Array.getElem?_toList, hC, List.getElem?_replicate, if_pos (by simp only [kU8, Kd.cell]; omega)]
  rfl
/-- make([]byte, n). -/
theorem mk8 {T : TypeId} (hT : P.underlying T = some (.slice E)) (hinfo : (P.info? E).map (fun i => (i.zero, i.size, i.bytes)) = some (some (.int .u8 0), 1, 1)) (n : Nat) (h : n ≤ 140737488355328) :
    ∃ C : Array Value, C.toList = List.replicate n (Value.int .u8 0) ∧ ∀ W : World, (Instr.makeSlice T (.int .i64 (n : Int)) (.int .i64 (n : Int))).run P W = .ok (.slice (some ⟨W.heap.size, 0, none⟩) n n) (W.alloc (.cells C E)) :=
  ⟨madeCells #[.int .u8 0] n, toList_madeCells_one _ _, fun W => run_make_row' T E (.int .u8 0) 1 hT hinfo rfl .i64 .i64 n (by omega) (by omega) W⟩

theorem zeroCells_zs (k : Nat) : Builtin.zeroCells (Value.int IntKind.u8 0).cells k = (Lib.strCells (txt (zs k))).toArray := by
  apply Array.ext'
  apply List.ext_getElem?
  intro j
  have h1 : (Value.int IntKind.u8 0).cells = #[Value.int IntKind.u8 0] := rfl
  by_cases hj : j < k
  · simp [Builtin.zeroCells, h1, Lib.strCells, zs, hj, Nat.mod_one]
  · simp [Builtin.zeroCells, h1, Lib.strCells, zs, hj]
theorem zs_size (k : Nat) : (txt (zs k)).size = k := by rw [txt_size, zs_len]
/-- append(v, make([]byte, k)...) is as good as append(v, "\x00..."...). -/
theorem append_zeros {T TN U ty : TypeId} {kn kq : IntKind} (hT : P.underlying T = some (.slice E)) (hTN : P.underlying TN = some (.int kn)) (hU : P.underlying U = some .string)
    (hinfo : (P.info? E).map (fun i => (i.zero, i.size, i.bytes)) = some (some (.int .u8 0), 1, 1)) (A : Option Addr) (n c k : Nat) (h0 : 0 < k) (hlen : n + k ≤ 140737488355328) :
    (Builtin.append_ #[T, TN] ty #[.slice A n c, .int kq (k : Int)]).run P w = (Builtin.append_ #[T, U] ty #[.slice A n c, .string (txt (zs k))]).run P w := by
  obtain ⟨i0, hi, hzz⟩ := Option.map_eq_some_iff.1 hinfo
  simp only [Prod.mk.injEq] at hzz
  obtain ⟨hz0, hz1, hz2⟩ := hzz
  have hw : IntKind.i64.wrap (k : Int) = k := by rw [IntKind.wrap_i64]; omega
  have hneg : ¬ ((k : Int) < 0) := by omega
  have hk0 : ¬ k = 0 := by omega
  have h48 : ¬ (281474976710656 < (k : Int)) := by omega
  have h63 : ¬ (9223372036854775807 < ((n : Int) + (k : Int))) := by omega
  have hf : ∀ W : World, (Builtin.firstCells 1 k (.string (txt (zs k)))).run P W = .ok (Lib.strCells (txt (zs k))).toArray W := fun W => by
    have := Lib.run_firstCells_string (P := P) (w := W) 1 (txt (zs k))
    rwa [zs_size] at this
  have hz := zeroCells_zs k
  by_cases hroom : n + k ≤ c
  · simp [Builtin.append_, run_underlying hT, run_underlying hTN, run_underlying hU, sizeOf, typeInfo, zeroValue, asInt, asIntOf, hi, hz0, hz1, hz2, hw, hneg, hk0, h48, Builtin.lenOf, zs_size, hroom, hf, hz]
  · have hfit : ¬ (281474976710656 < Builtin.nextslicecap (n + k) c) := by
      have := growslice_fits (need := n + k) (old := c) (bytes := 1) (by omega) (by omega)
      omega
    simp [Builtin.append_, run_underlying hT, run_underlying hTN, run_underlying hU, sizeOf, typeInfo, zeroValue, asInt, asIntOf, hi, hz0, hz1, hz2, hw, hneg, hk0, h48, h63, hfit, Builtin.lenOf, zs_size, hroom, hf, hz, Question.forced]

variable {base : Nat} {v : Value} {xs : List UInt8}
theorem els8 {css : List (List Value)} (he : kU8.Els ok w xs css) : css.flatten = xs.map bv := by
  have : css = xs.map fun x => [bv x] := by
    apply List.ext_getElem?
    intro i
    rw [List.getElem?_map]
    by_cases hi' : i < xs.length
    · have h1 : xs[i]? = some xs[i] := List.getElem?_eq_getElem hi'
      have h2 : css[i]? = some (css[i]'(by rw [he.1]; exact hi')) := List.getElem?_eq_getElem _
      rw [h2, h1, (he.2 i _ _ h1 h2).1]
      rfl
    · rw [List.getElem?_eq_none (by rw [he.1]; omega), List.getElem?_eq_none (by omega)]; rfl
  rw [this]
  clear this he
  induction xs <;> simp_all
theorem own8 {ok' : Nat → Prop} (h : kU8.Own ok base w E v xs) : kU8.Own ok' base w E v xs :=
  let ⟨css, he, ho⟩ := h
  ⟨css, ⟨he.1, fun i x cs hx hc => he.2 i x cs hx hc⟩, ho⟩
/-- An append of zeros leaves the row as it was, as far as it was the slice's. -/
theorem app_zeros_old {T U ty : TypeId} (hT : P.underlying T = some (.slice E)) (hU : P.underlying U = some .string) (hinfo : (P.info? E).map (fun i => (i.zero, i.size, i.bytes)) = some (some (.int .u8 0), 1, 1))
    {A : Option Addr} {n c : Nat} (k : Nat) (_h0 : 0 < k) (h : kU8.Own ok base w E (.slice A n c) xs) (hn : xs.length = n) (hlen : n + k ≤ 140737488355328) {v' : Value} (hrun : (Builtin.append_ #[T, U] ty #[.slice A n c, .string (txt (zs k))]).run P w = .ok v' w')
    (ho' : kU8.Own ok base w' E v' (xs ++ zs k)) : kU8.Row (fun _ => True) w' A n c xs := by
  obtain ⟨i0, hi, hzz⟩ := Option.map_eq_some_iff.1 hinfo
  simp only [Prod.mk.injEq] at hzz
  obtain ⟨hz0, hz1, hz2⟩ := hzz
  subst hn
  obtain ⟨A0, c0, he, hrow⟩ := h.row
  cases he
  have hs := zs_size k
  have keep : (∀ j, j < w.heap.size → w'.heap[j]? = w.heap[j]?) → kU8.Row (fun _ => True) w' A xs.length c xs := fun hk => (hrow.more (ok' := fun _ => True) fun _ _ => trivial).keep fun j _ hj => hk j hj
  obtain ⟨css, hel, ho⟩ := h
  rw [els8 hel] at ho
  rcases ho.2 with ⟨e, h0'⟩ | ⟨g, cap, cur, e, hbg, hg, hnc, hcm, hcs, htake⟩
  · have hx : xs = [] := List.eq_nil_of_length_eq_zero h0'
    subst hx
    exact .nil _ _ _ _ _ hrow.2.2.1
  · cases e
    by_cases hroom : xs.length + k ≤ c
    · have hcs' : cur.size = c := by simpa [kU8, Kd.cell] using hcs
      have hr := Lib.run_append_room_string (P := P) w T U ty E i0 hT hU hi hz1 g xs.length c cur hg (txt (zs k)) (by rw [hs]; exact hroom) (by rw [hs]; omega)
      rw [hr] at hrun
      injection hrun with hv hw
      obtain ⟨A1, c1, he1, hrow1⟩ := ho'.row
      rw [← hv] at he1
      injection he1 with e1 e2 e3
      rw [← e1, ← e3] at hrow1
      have h2 := (hrow1.more (ok' := fun _ => True) fun _ _ => trivial).take (k := xs.length) (by rw [List.length_append]; omega)
      rwa [List.take_left] at h2
    · have hc := ho.cells (g := g) rfl
      have hr := Lib.run_append_grow_string (P := P) w T U ty E i0 (.int .u8 0) hT hU hi hz0 ⟨g, 0, none⟩ xs.length c (xs.map bv) (by simp [hz1]) hc (txt (zs k)) (by rw [hs]; omega) (by rw [hs]; omega) (by rw [hz2, hs]; exact growslice_fits (by omega) (by omega))
      rw [hr] at hrun
      injection hrun with hv hw
      subst hw
      exact keep fun j hj => Below.heap_alloc w.drew _ j hj
theorem wpList_app_zeros {ops : Array Oper} {rest : List Oper} {op : Oper} {a : Act} {Q : Exit → Act → World → Prop} (hgd : op.guard = none) (sl x : Operand) (T TN U : TypeId) {kn kq : IntKind} (ho : op.op = .call { callee := .builtin .append, args := #[sl, x], argTypes := #[T, TN] })
    (hT : P.underlying T = some (.slice E)) (hTN : P.underlying TN = some (.int kn)) (hU : P.underlying U = some .string) (hinfo : (P.info? E).map (fun i => (i.zero, i.size, i.bytes)) = some (some (.int .u8 0), 1, 1))
    {A : Option Addr} {n c : Nat} (k : Nat) {z : Int} (hs : a.eval sl = .slice A n c) (hx : a.eval x = .int kq z) (hz : z = (k : Int)) (h0 : 0 < k)
    (h : kU8.Own ok base w E (.slice A n c) xs) (hbase : base ≤ w.heap.size) (hn : xs.length = n) (hlen : n + k ≤ 140737488355328)
    (hk : ∀ v' w', kU8.Own ok base w' E v' (xs ++ zs k) → kU8.Row (fun _ => True) w' A n c xs → Below base w w' → (∀ j, j < w.heap.size → some j ≠ (Value.slice A n c).ownBlock → w'.heap[j]? = w.heap[j]?) → wpList P ops Q rest (a.put op.dst v') w') : wpList P ops Q (op :: rest) a w := by
  subst hz
  obtain ⟨v', w', hrun, -, h2, h3, h4, -⟩ := App.append_str (P := P) (T := T) (U := U) (ty := op.type) hT hU hinfo (.inl h) hbase (txt (zs k)) (by rw [zs_size, hn]; omega)
  have h2' := h2 (.inl (by rw [zs_size]; exact h0))
  rw [byt_txt] at h2'
  have hold := app_zeros_old hT hU hinfo k h0 h hn hlen hrun h2'
  rw [← append_zeros (kn := kn) (kq := kq) (TN := TN) hT hTN hU hinfo A _ c k h0 hlen] at hrun
  exact Lib.wpList_append_run w hgd sl x T TN ho _ _ hs hx v' w' hrun (hk v' w' h2' hold h3 h4)
end
end Go.Proofs.YtdkeflhgengblaaDoor
