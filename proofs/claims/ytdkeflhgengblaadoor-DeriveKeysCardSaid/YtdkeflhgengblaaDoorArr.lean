/- Arrays of bytes and of words, kept whole; copy into a part of a block. No condition. -/
import Derived.Test.YtdkeflhgengblaaDoorWd1
import Derived.Test.YtdkeflhgengblaaDoorSl
import Derived.Test.YtdkeflhgengblaaDoorFld2
import Derived.Test.YtdkeflhgengblaaDoorReg3
import Derived.Laws.CopyOwn
namespace Go.Proofs.YtdkeflhgengblaaDoor
open Go.RowKit
/-- An array of bytes; of words. -/
def blC (l : List UInt8) : Array Value := (l.map bv).toArray
def wlC (l : List UInt32) : Array Value := (l.map wv).toArray
section
variable (l m : List UInt8) (u v : List UInt32)
theorem blC_size : (blC l).size = l.length := by simp [blC]
theorem wlC_size : (wlC u).size = u.length := by simp [wlC]
theorem blC_get (i : Nat) : (blC l)[i]? = (l[i]?).map bv := by simp [blC]
theorem wlC_get (i : Nat) : (wlC u)[i]? = (u[i]?).map wv := by simp [wlC]
theorem blC_at {i : Nat} {x : UInt8} (h : l[i]? = some x) : (blC l)[i]? = some (bv x) := by rw [blC_get, h]; rfl
theorem wlC_at {i : Nat} {x : UInt32} (h : u[i]? = some x) : (wlC u)[i]? = some (wv x) := by rw [wlC_get, h]; rfl
theorem blC_one : oneAll (blC l) = true := by
  rw [oneAll, Array.all_eq_true_iff_forall_mem]
  intro x hx
  simp [blC] at hx
  obtain ⟨b, _, rfl⟩ := hx
  rfl
theorem wlC_one : oneAll (wlC u) = true := by
  rw [oneAll, Array.all_eq_true_iff_forall_mem]
  intro x hx
  simp [wlC] at hx
  obtain ⟨b, _, rfl⟩ := hx
  rfl
theorem blC_set (i : Nat) (x : UInt8) : (blC l).setIfInBounds i (bv x) = blC (l.set i x) := by
  apply Array.ext_getElem?
  intro k
  rw [Array.getElem?_setIfInBounds, blC_get, blC_get, blC_size, List.getElem?_set]
  split
  · split <;> simp_all
  · rfl
theorem wlC_set (i : Nat) (x : UInt32) : (wlC u).setIfInBounds i (wv x) = wlC (u.set i x) := by
  apply Array.ext_getElem?
  intro k
  rw [Array.getElem?_setIfInBounds, wlC_get, wlC_get, wlC_size, List.getElem?_set]
  split
  · split <;> simp_all
  · rfl
theorem blC_part (n : Nat) (h : l.length = n) : part? (blC l) 0 n = some (blC l) := part_self _ _ (by rw [blC_size, h])
theorem wlC_part (n : Nat) (h : u.length = n) : part? (wlC u) 0 n = some (wlC u) := part_self _ _ (by rw [wlC_size, h])
theorem splice0 (C c : Array Value) (h : C.size = c.size) : splice C 0 c = c := by
  have h' : List.drop c.size C.toList = [] := List.drop_eq_nil_of_le (by simp [h])
  simp [splice, h']
theorem splice_nil (C : Array Value) (o : Nat) : splice C o #[] = C := by simp [splice]
theorem blC_splice (o : Nat) : splice (blC l) o (blC m) = blC (l.take o ++ m ++ l.drop (o + m.length)) := by
  simp [splice, blC]
theorem tgC_bl (t : Tg) : tgC t = blC t.l := rfl
end
/-- Eight words. -/
def s8C (s : S8) : Array Value := #[wv s.a, wv s.b, wv s.c, wv s.d, wv s.e, wv s.f, wv s.g, wv s.h]
section
variable (s t : S8)
theorem s8C_size : (s8C s).size = 8 := rfl
theorem s8C_0 : (s8C s)[0]? = some (wv s.a) := rfl
theorem s8C_1 : (s8C s)[1]? = some (wv s.b) := rfl
theorem s8C_2 : (s8C s)[2]? = some (wv s.c) := rfl
theorem s8C_3 : (s8C s)[3]? = some (wv s.d) := rfl
theorem s8C_4 : (s8C s)[4]? = some (wv s.e) := rfl
theorem s8C_5 : (s8C s)[5]? = some (wv s.f) := rfl
theorem s8C_6 : (s8C s)[6]? = some (wv s.g) := rfl
theorem s8C_7 : (s8C s)[7]? = some (wv s.h) := rfl
theorem s8C_wl : s8C s = wlC s.list := rfl
theorem s8C_part : part? (s8C s) 0 8 = some (s8C s) := part_self _ _ rfl
theorem s8C_one : oneAll (s8C s) = true := by rw [s8C_wl]; exact wlC_one _
theorem s8C_splice0 (C : Array Value) (h : C.size = 8) : splice C 0 (s8C s) = s8C s := splice0 _ _ (by rw [h]; rfl)
theorem s8C_ne : (s8C s = #[]) = False := eq_false fun h => by
  have := congrArg Array.size h
  cases this
theorem blC_ne (l : List UInt8) (h : l ≠ []) : (blC l = #[]) = False := eq_false fun h' => by
  have := congrArg Array.size h'
  rw [blC_size] at this
  exact h (List.eq_nil_of_length_eq_zero this)
theorem wlC_ne (l : List UInt32) (h : l ≠ []) : (wlC l = #[]) = False := eq_false fun h' => by
  have := congrArg Array.size h'
  rw [wlC_size] at this
  exact h (List.eq_nil_of_length_eq_zero this)
end
theorem ld8 (a : Addr) : loadCellsFrom a 0 8 #[] = ldAgg a 8 := rfl
theorem ld64 (a : Addr) : loadCellsFrom a 0 64 #[] = ldAgg a 64 := rfl
theorem heap_setCell_at {w : World} {g i : Nat} {C : Array Value} {t : TypeId} (v : Value) (hg : w.heap[g]? = some (.cells C t (0, 0))) : (w.setCell ⟨g, i, none⟩ v).heap[g]? = some (.cells (C.setIfInBounds i v) t (0, 0)) := by
  rw [setCell_eq_setRow w g i C t (0, 0) v hg]
  exact setRow_heap w g C _ t _ hg
theorem size_setCell (w : World) (a : Addr) (v : Value) : (w.setCell a v).heap.size = w.heap.size := by simp
theorem bsetCell {B : Nat} {w w' : World} (h : Below B w w') {g : Nat} (hg : B ≤ g) (i : Nat) (v : Value) : Below B w (w'.setCell ⟨g, i, none⟩ v) :=
  h.trans ⟨rfl, rfl, rfl, by simp, fun k hk => Below.heap_setCell _ _ _ _ (show ¬ k = g by omega)⟩
theorem needs_direct {ops : Array Oper} {i j : Nat} (h : ((ops[i]?).map fun o => o.after.toList.any fun e => Region.binds .any e && e.on == j) = some true) : (needs ops ops.size i).contains j = true := by
  cases ho : ops[i]? with
  | none => rw [ho] at h; cases h
  | some o =>
    rw [ho] at h
    simp only [Option.map_some, Option.some.injEq, List.any_eq_true, Bool.and_eq_true, beq_iff_eq] at h
    obtain ⟨e, he, h1, h2⟩ := h
    have hi : i < ops.size := (Array.getElem?_eq_some_iff.1 ho).1
    obtain ⟨f, hf⟩ : ∃ f, ops.size = f + 1 := ⟨ops.size - 1, by omega⟩
    rw [hf, needs, ho]
    simp only [List.contains_iff_mem, List.mem_flatMap, List.mem_filter]
    exact ⟨e, ⟨he, h1⟩, by simp [h2]⟩
theorem wrap64s {n : Int} (h0 : -9223372036854775808 ≤ n) (h1 : n < 9223372036854775808) : IntKind.i64.wrap n = n := by
  simp [IntKind.wrap, IntKind.bits, IntKind.signed]; omega
theorem w_addW (x y : UInt32) : IntKind.u32.wrap ((x.toNat : Int) + (y.toNat : Int)) = ((x + y).toNat : Int) := by rw [IntKind.wrap_u32']; exact w_add x y
theorem u8_info1 : (Tryd.prog.info? 5).map (·.size) = some 1 := by kernel_rfl
/-- x[i] of an array value. -/
theorem arr_index {P : Program} {T E : TypeId} {N : Nat} (hT : P.underlying T = some (.array N E)) (hE : (P.info? E).map (·.size) = some 1) {k : IntKind} (hU : P.underlying E = some (.int k)) (C : Array Value) (i : Nat) (hi : i < N) (v : Value) (hv : C[i]? = some v) (kd : IntKind) :
    ∀ W : World, (Instr.index T (.agg C) (.int kd (i : Int))).run P W = .ok v W := fun W => by
  have hs : (sizeOf E).run P W = .ok 1 W := by
    cases hq : P.info? E with
    | none => rw [hq] at hE; cases hE
    | some x =>
      rw [hq] at hE
      have : x.size = 1 := by simpa using hE
      simp [sizeOf, typeInfo, hq, this]
  have hle : ((i : Int) < (N : Int)) := by omega
  simp [Instr.index, asIntOf, run_underlying hT, hs, part, isAgg, run_underlying hU, hv, Result.andThen]
  intro h
  omega
/-- x[k:] of an array. -/
theorem arr_from {P : Program} {t E : TypeId} {N : Nat} (ht : P.underlying t = some (.array N E)) (hE : (P.info? E).map (·.size) = some 1) (b o k : Nat) (hk : k < N) (kd : IntKind) (i : Int) (hi : i = k) :
    ∀ W : World, (Instr.sliceAt t (.pointer (some ⟨b, o, none⟩)) (some (.int kd i)) none none).run P W = .ok (.slice (some ⟨b, o + k, none⟩) (N - k) (N - k)) W := fun W => by
  subst hi
  have hs : (sizeOf E).run P W = .ok 1 W := by
    cases hq : P.info? E with
    | none => rw [hq] at hE; cases hE
    | some x =>
      rw [hq] at hE
      have : x.size = 1 := by simpa using hE
      simp [sizeOf, typeInfo, hq, this]
  have hne : ¬ N = k := by omega
  have hle : ((k : Int) ≤ (N : Int)) := by omega
  simp [Instr.sliceAt, Instr.sureAddr, run_underlying ht, Instr.sliceBounds, run_sliceBound, hs, hne, hle, Result.andThen, add_lit']
/-- A part of a block as a slice of bytes. -/
theorem row_bl {w : World} {ok : Nat → Prop} {g o n c : Nat} {C : Array Value} {t : TypeId} {fr : Nat × Nat} (hg : w.heap[g]? = some (.cells C t fr)) (l : List UInt8) (hC : ∀ i x, l[i]? = some x → C[o + i]? = some (bv x)) (hok : ok g) (hn : l.length = n) (hc : n ≤ c) (hm : c ≤ maxLen) : kU8.Row ok w (some ⟨g, o, none⟩) n c l := by
  refine ⟨hn, hc, hm, fun _ => ⟨g, o, rfl, hok, (Array.getElem?_eq_some_iff.1 hg).1, fun i x hx => ⟨[bv x], ⟨rfl, trivial⟩, fun j u hu => ?_⟩⟩⟩
  have hj : j = 0 := by have := (List.getElem?_eq_some_iff.1 hu).1; simp at this; omega
  subst hj
  have hu' : u = bv x := by simpa using hu.symm
  subst hu'
  rw [cell_of_row w _ _ _ _ _ hg]
  have := hC i x hx
  simpa [kU8, Kd.cell] using this
theorem row_all {w : World} {ok : Nat → Prop} {g : Nat} {l : List UInt8} {t : TypeId} {fr : Nat × Nat} (hg : w.heap[g]? = some (.cells (blC l) t fr)) (hok : ok g) (hm : l.length ≤ maxLen) : kU8.Row ok w (some ⟨g, 0, none⟩) l.length l.length l :=
  row_bl hg l (fun i x hx => by rw [Nat.zero_add]; exact blC_at _ hx) hok rfl (Nat.le_refl _) hm
section
variable {P : Program} {ops : Array Oper} {rest : List Oper} {o : Oper} {a : Act} {w : World} {Q : Exit → Act → World → Prop}
theorem setRow_self' (g : Nat) (C : Array Value) (t : TypeId) (h : w.heap[g]? = some (.cells C t (0, 0))) : w.setRow g C = w := setRow_self w g C t (0, 0) h
/-- copy of bytes into a part of a block. -/
theorem wpList_copy8 (hgd : o.guard = none) (d s : Operand) (dT sT : TypeId)
    (ho : o.op = .call { callee := .builtin .copy, args := #[d, s], argTypes := #[dT, sT] }) (elem : TypeId) (hu : P.underlying dT = some (.slice elem)) (hsz : (P.info? elem).map (·.size) = some 1)
    (g off dLen dCap : Nat) {A : Option Addr} {n c : Nat} {xs : List UInt8} {ok : Nat → Prop} (hR : kU8.Row ok w A n c xs) (hd : a.eval d = .slice (some ⟨g, off, none⟩) dLen dCap) (hs : a.eval s = .slice A n c)
    (C : Array Value) (t : TypeId) (hg : w.heap[g]? = some (.cells C t (0, 0))) (hfit : off + min n dLen ≤ C.size)
    (h : wpList P ops Q rest (a.put o.dst (goInt ((min n dLen : Nat) : Int))) (w.setRow g (splice C off (blC (xs.take (min n dLen)))))) : wpList P ops Q (o :: rest) a w := by
  have hl : (xs.take (min n dLen)).length = min n dLen := by rw [List.length_take, hR.1]; omega
  rcases Nat.eq_zero_or_pos (min n dLen) with h0 | h0
  · refine wpList_copy_nothing hgd d s dT sT ho elem hu hsz (some ⟨g, off, none⟩) A dLen dCap n c hd hs h0 ?_
    rw [h0] at h
    rw [show blC (List.take 0 xs) = #[] from rfl, splice_nil, setRow_self' g C t hg] at h
    exact h
  · obtain ⟨b, o', rfl, -, -, hx⟩ := row_bytes hR (by omega)
    refine wpList_copy_own hgd d s dT sT ho elem hu hsz g off dLen dCap ⟨b, o', none⟩ n c hd hs C t hg ((xs.take (min n dLen)).map bv) (by rw [List.length_map, hl]) (fun j v hj => ?_) (by rw [List.length_map, hl]; exact hfit) (fun v hv => ?_) ?_
    · rw [List.getElem?_map, Option.map_eq_some_iff] at hj
      obtain ⟨x, hj, rfl⟩ := hj
      rw [add_lit']
      rw [List.getElem?_take] at hj
      split at hj
      · exact hx j x hj
      · cases hj
    · obtain ⟨x, _, rfl⟩ := List.mem_map.1 hv
      rfl
    · have e : splice C off (blC (xs.take (min n dLen))) = (C.toList.take off ++ ((xs.take (min n dLen)).map bv ++ C.toList.drop (off + ((xs.take (min n dLen)).map bv).length))).toArray := by
        simp [splice, blC, List.append_assoc]
      rw [← e, List.length_map, hl]
      exact h
/-- The same, where the walk stands at it. -/
theorem at_copy8 {dst : Option Tmp} {ty : TypeId} {pos : String} {after : Array Edge} {d s : Operand} {dT sT : TypeId} (elem : TypeId) (hu : P.underlying dT = some (.slice elem)) (hsz : (P.info? elem).map (·.size) = some 1)
    (g off dLen dCap : Nat) {A : Option Addr} {n c : Nat} {xs : List UInt8} {ok : Nat → Prop} (hR : kU8.Row ok w A n c xs) (hd : a.eval d = .slice (some ⟨g, off, none⟩) dLen dCap) (hs : a.eval s = .slice A n c)
    (C : Array Value) (t : TypeId) (hg : w.heap[g]? = some (.cells C t (0, 0))) (k : Nat) (hk : min n dLen = k) (hfit : off + k ≤ C.size) (C' : Array Value) (hC : splice C off (blC (xs.take k)) = C')
    (h : wpList P ops Q rest (a.put dst (.int .i64 (k : Int))) (w.setRow g C')) : wpList P ops Q (⟨dst, .call { callee := .builtin .copy, args := #[d, s], argTypes := #[dT, sT] }, ty, pos, after, none⟩ :: rest) a w := by
  subst hk hC
  exact wpList_copy8 rfl d s dT sT rfl elem hu hsz g off dLen dCap hR hd hs C t hg hfit h
end
end Go.Proofs.YtdkeflhgengblaaDoor
