/- Keys in memory: a key's cells, an act's cells; a map of keys by their numbers as a function. No condition. -/
import Derived.Test.YtlfhbnajopekpaaAgg
import Derived.Test.YtlfhbnajopekpaaRepB
import Derived.Test.YtlfhbnajopekpaaProg
import Derived.Maps.RangeWalk
import Derived.Great.FillDense
import Derived.Laws.Tables
namespace Go.Proofs.Ytlfhbnajopekpaa
open Go.RowKit
open Go.Maps (Keyed)

theorem ld35 (a : Addr) : loadCellsFrom a 0 35 #[] = ldAgg a 35 := rfl
theorem ld38 (a : Addr) : loadCellsFrom a 0 38 #[] = ldAgg a 38 := rfl
/-- Cells, a tag, cells. -/
def midC (X Y : List Value) (t : Tg) : Array Value := (X ++ (tgC t).toList ++ Y).toArray
section
variable (X Y : List Value) (t u : Tg) (v : Value)
theorem tgL_len : (tgC t).toList.length = 32 := by rw [Array.length_toList, tgC_size]
theorem midC_size : (midC X Y t).size = X.length + 32 + Y.length := by
  simp only [midC, List.size_toArray, List.length_append, tgL_len]
theorem midC_get (i : Nat) : (midC X Y t)[i]? = (X ++ (tgC t).toList ++ Y)[i]? := by simp only [midC, List.getElem?_toArray]
theorem midC_left {i : Nat} (h : i < X.length) : (midC X Y t)[i]? = X[i]? := by
  rw [midC_get, List.append_assoc, List.getElem?_append_left h]
theorem midC_right {i : Nat} (h : X.length + 32 ≤ i) : (midC X Y t)[i]? = Y[i - (X.length + 32)]? := by
  rw [midC_get, List.getElem?_append_right (by rw [List.length_append, tgL_len]; exact h), List.length_append, tgL_len]
theorem midC_part : part? (midC X Y t) 0 (X.length + 32 + Y.length) = some (midC X Y t) := part_self _ _ (midC_size X Y t)
theorem midC_tag : part? (midC X Y t) X.length 32 = some (tgC t) := by
  unfold part?
  rw [midC_size, if_pos (by omega)]
  congr 1
  apply Array.toList_inj.1
  simp only [midC, List.extract_toArray, List.toList_toArray]
  apply List.ext_getElem?
  intro i
  simp only [List.extract_eq_take_drop, List.getElem?_take, List.getElem?_drop]
  split
  · rw [List.append_assoc, List.getElem?_append_right (by omega), Nat.add_sub_cancel_left, List.getElem?_append_left (by rw [tgL_len]; omega)]
  · rw [List.getElem?_eq_none (by rw [tgL_len]; omega)]
theorem midC_splice0 (C : Array Value) (h : C.size = X.length + 32 + Y.length) : splice C 0 (midC X Y t) = midC X Y t := by
  have h' : List.drop (X.length + 32 + Y.length) C.toList = [] := List.drop_eq_nil_of_le (by simp [h])
  simp [splice, midC_size, h']
end
/-- A key's cells. -/
def keyC (a u r : Value) (t : Tg) : Array Value := midC [a] [u, r] t
section
variable (a u r v : Value) (t : Tg)
theorem keyC_size : (keyC a u r t).size = 35 := midC_size _ _ _
theorem keyC_0 : (keyC a u r t)[0]? = some a := midC_left [a] [u, r] t (i := 0) (Nat.zero_lt_one)
theorem keyC_33 : (keyC a u r t)[33]? = some u := midC_right [a] [u, r] t (i := 33) (Nat.le_refl _)
theorem keyC_34 : (keyC a u r t)[34]? = some r := midC_right [a] [u, r] t (i := 34) (Nat.le_succ _)
theorem keyC_g0 (h : 0 < (keyC a u r t).size) : (keyC a u r t)[0]'h = a := by
  have := keyC_0 a u r t
  rw [Array.getElem?_eq_getElem h] at this
  exact Option.some.inj this
theorem keyC_g33 (h : 33 < (keyC a u r t).size) : (keyC a u r t)[33]'h = u := by
  have := keyC_33 a u r t
  rw [Array.getElem?_eq_getElem h] at this
  exact Option.some.inj this
theorem keyC_g34 (h : 34 < (keyC a u r t).size) : (keyC a u r t)[34]'h = r := by
  have := keyC_34 a u r t
  rw [Array.getElem?_eq_getElem h] at this
  exact Option.some.inj this
theorem keyC_part : part? (keyC a u r t) 0 35 = some (keyC a u r t) := midC_part _ _ _
theorem keyC_tag : part? (keyC a u r t) 1 32 = some (tgC t) := midC_tag _ _ _
theorem keyC_splice0 (C : Array Value) (h : C.size = 35) : splice C 0 (keyC a u r t) = keyC a u r t := midC_splice0 _ _ _ C h
theorem keyC_ext {D : Array Value} (h : D.size = 35) (h1 : ∀ i, i < 35 → D[i]? = (keyC a u r t)[i]?) : D = keyC a u r t := by
  apply Array.ext_getElem?
  intro i
  rcases Nat.lt_or_ge i 35 with hi | hi
  · exact h1 i hi
  · rw [Array.getElem?_eq_none (by omega), Array.getElem?_eq_none (by rw [keyC_size]; exact hi)]
theorem keyC_mid {i : Nat} (h1 : 1 ≤ i) (h2 : i < 33) : (keyC a u r t)[i]? = (tgC t)[i - 1]? := by
  rw [keyC, midC_get, List.getElem?_append_left (by simp only [List.length_append, tgL_len]; simp; omega), List.getElem?_append_right (by simp; omega)]
  simp
theorem keyC_set33 : (keyC a u r t).setIfInBounds 33 v = keyC a v r t := by
  apply keyC_ext
  · rw [Array.size_setIfInBounds, keyC_size]
  · intro i hi
    rw [Array.getElem?_setIfInBounds, keyC_size]
    by_cases h : 33 = i
    · subst h; rw [if_pos rfl, if_pos (by decide), keyC_33]
    · rw [if_neg h]
      rcases Nat.lt_or_ge i 1 with h1 | h1
      · obtain rfl : i = 0 := by omega
        rw [keyC_0, keyC_0]
      · rcases Nat.lt_or_ge i 33 with h2 | h2
        · rw [keyC_mid _ _ _ _ h1 h2, keyC_mid _ _ _ _ h1 h2]
        · obtain rfl : i = 34 := by omega
          rw [keyC_34, keyC_34]
theorem keyC_set34 : (keyC a u r t).setIfInBounds 34 v = keyC a u v t := by
  apply keyC_ext
  · rw [Array.size_setIfInBounds, keyC_size]
  · intro i hi
    rw [Array.getElem?_setIfInBounds, keyC_size]
    by_cases h : 34 = i
    · subst h; rw [if_pos rfl, if_pos (by decide), keyC_34]
    · rw [if_neg h]
      rcases Nat.lt_or_ge i 1 with h1 | h1
      · obtain rfl : i = 0 := by omega
        rw [keyC_0, keyC_0]
      · rcases Nat.lt_or_ge i 33 with h2 | h2
        · rw [keyC_mid _ _ _ _ h1 h2, keyC_mid _ _ _ _ h1 h2]
        · obtain rfl : i = 33 := by omega
          rw [keyC_33, keyC_33]
theorem zero_key : (#[a, .int .u8 0, .int .u8 0, .int .u8 0, .int .u8 0, .int .u8 0, .int .u8 0, .int .u8 0, .int .u8 0, .int .u8 0, .int .u8 0, .int .u8 0, .int .u8 0, .int .u8 0, .int .u8 0, .int .u8 0, .int .u8 0, .int .u8 0, .int .u8 0, .int .u8 0, .int .u8 0, .int .u8 0, .int .u8 0, .int .u8 0, .int .u8 0, .int .u8 0, .int .u8 0, .int .u8 0, .int .u8 0, .int .u8 0, .int .u8 0, .int .u8 0, .int .u8 0, u, r] : Array Value) = keyC a u r Tg.zero := by
  simp only [keyC, midC, tgC, Tg.zero, List.replicate, List.map, bv0, List.toList_toArray, List.cons_append, List.nil_append]
theorem keyC_all (k l : IntKind) (n m : Int) (b : Bool) : oneAll (keyC (.int k n) (.int l m) (.bool b) t) = true := by
  rw [oneAll, Array.all_eq_true_iff_forall_mem]
  intro x hx
  simp only [keyC, midC, List.mem_toArray, List.mem_append, List.mem_cons, List.not_mem_nil, or_false] at hx
  rcases hx with (rfl | hx) | (rfl | rfl)
  · rfl
  · exact (Array.all_eq_true_iff_forall_mem.1 (tgC_one t)) x (by simpa using hx)
  · rfl
  · rfl
theorem keyC_ne : (keyC a u r t = #[]) = False := eq_false fun h => by
  have := congrArg Array.size h
  rw [keyC_size] at this
  cases this
end
/-- A key. -/
structure Ky where
  kind : Int
  tag : Tg
  til : Nat
  rev : Bool
  deriving DecidableEq
abbrev kyC (x : Ky) : Array Value := keyC (.int .i64 x.kind) (.int .u64 (x.til : Int)) (.bool x.rev) x.tag
abbrev kyV (x : Ky) : Value := .agg (kyC x)
def Ky.zero : Ky := ⟨0, Tg.zero, 0, false⟩

/-! ### literals -/
theorem fill_cons {place : Nat → Option (Nat × Nat)} {cells v : Array Value} {i o n : Nat} {rest : List (Nat × Value)} (hp : place i = some (o, n)) (hv : v.size = n) (hc : o + n ≤ cells.size) :
    Instr.fill place cells ((i, .agg v) :: rest) = Instr.fill place (splice cells o v) rest := by
  obtain ⟨h1, h2⟩ := Great.foldl_set o v.toList 0 cells
  conv => lhs; unfold Instr.fill
  simp only [hp]
  split
  · rename_i h
    exfalso
    simp [Value.cells, hv] at h
    omega
  show Instr.fill place (Array.foldl (fun cs x => cs.setIfInBounds (o + x.2) x.1) cells v.zipIdx) rest = _
  congr 1
  apply Array.ext_getElem?
  intro k
  have h3 := h2 k
  rw [← Array.foldl_toList]
  simp only [Array.toList_zipIdx]
  rw [h3]
  simp only [splice, Array.length_toList, hv, Nat.add_zero]
  have hlen : (List.take o cells.toList).length = o := by rw [List.length_take, Array.length_toList]; omega
  have e : (List.take o cells.toList ++ v.toList ++ List.drop (o + n) cells.toList).toArray[k]? = (List.take o cells.toList ++ (v.toList ++ List.drop (o + n) cells.toList))[k]? := by
    rw [List.append_assoc]
    simp only [List.getElem?_toArray]
  rw [e, List.getElem?_append, hlen]
  rcases Nat.lt_or_ge k o with h | h
  · rw [if_neg (by omega), if_pos h, List.getElem?_take, if_pos h, Array.getElem?_toList]
  · rw [if_neg (Nat.not_lt.2 h), List.getElem?_append, Array.length_toList, hv]
    rcases Nat.lt_or_ge k (o + n) with h' | h'
    · rw [if_pos (by omega), if_pos (by omega)]
    · rw [if_neg (by omega), if_neg (by omega), List.getElem?_drop, Array.getElem?_toList, show o + n + (k - o - n) = k by omega]
theorem fill_one {place : Nat → Option (Nat × Nat)} {cells : Array Value} {v : Value} {i o : Nat} {rest : List (Nat × Value)} (hp : place i = some (o, 1)) (hv : v.cells = #[v]) (hc : o < cells.size) :
    Instr.fill place cells ((i, v) :: rest) = Instr.fill place (cells.setIfInBounds o v) rest := by
  conv => lhs; unfold Instr.fill
  simp only [hp]
  split
  · rename_i h
    exfalso
    simp [hv] at h
    omega
  · rw [hv]
    rfl
theorem keyC_set0 (a u r v : Value) (t : Tg) : (keyC a u r t).setIfInBounds 0 v = keyC v u r t := by
  apply keyC_ext
  · rw [Array.size_setIfInBounds, keyC_size]
  · intro i hi
    rw [Array.getElem?_setIfInBounds, keyC_size]
    by_cases h : 0 = i
    · subst h; rw [if_pos rfl, if_pos (by decide), keyC_0]
    · rw [if_neg h]
      rcases Nat.lt_or_ge i 33 with h2 | h2
      · rw [keyC_mid _ _ _ _ (by omega) h2, keyC_mid _ _ _ _ (by omega) h2]
      · have : i = 33 ∨ i = 34 := by omega
        rcases this with rfl | rfl
        · rw [keyC_33, keyC_33]
        · rw [keyC_34, keyC_34]
theorem keyC_splice1 (a u r : Value) (t t' : Tg) : splice (keyC a u r t) 1 (tgC t') = keyC a u r t' := by
  simp [splice, keyC, midC, tgC_size]
theorem built_key (k l : IntKind) (n m : Int) (t : Tg) : Try.prog.built 111 [(0, .int k n), (1, .agg (tgC t)), (2, .int l m)] = some (keyC (.int k n) (.int l m) (.bool false) t) := by
  have hz : (Try.prog.info? 111).map (fun i => (i.zero, i.size)) = some (some (.agg #[.int .i64 0, .int .u8 0, .int .u8 0, .int .u8 0, .int .u8 0, .int .u8 0, .int .u8 0, .int .u8 0, .int .u8 0, .int .u8 0, .int .u8 0, .int .u8 0, .int .u8 0, .int .u8 0, .int .u8 0, .int .u8 0, .int .u8 0, .int .u8 0, .int .u8 0, .int .u8 0, .int .u8 0, .int .u8 0, .int .u8 0, .int .u8 0, .int .u8 0, .int .u8 0, .int .u8 0, .int .u8 0, .int .u8 0, .int .u8 0, .int .u8 0, .int .u8 0, .int .u8 0, .int .u64 0, .bool false]), 35) := by kernel_rfl
  obtain ⟨i0, hi, hzz⟩ := Option.map_eq_some_iff.1 hz
  simp only [Prod.mk.injEq] at hzz
  obtain ⟨hz0, hz1⟩ := hzz
  rw [zero_key] at hz0
  have hp : #[(⟨"kind", 3, 0, false, "", "chitty/keys", 0⟩ : Field), (⟨"tag", 44, 1, false, "", "chitty/keys", 8⟩ : Field), (⟨"until", 39, 33, false, "", "chitty/keys", 40⟩ : Field), (⟨"revoked", 4, 34, false, "", "chitty/keys", 48⟩ : Field)].toList.mapM (fun f => (Try.prog.info? f.type).map fun i => (f.offset, i.size)) = some [(0, 1), (1, 32), (33, 1), (34, 1)] := by kernel_rfl
  unfold Program.built
  rw [hi, Try.underlying111]
  simp only [hz0]
  rw [hp]
  simp only [Value.cells]
  rw [fill_one (o := 0) rfl rfl (by rw [keyC_size]; decide), keyC_set0, fill_cons (o := 1) (n := 32) rfl (tgC_size _) (by rw [keyC_size]; decide), keyC_splice1, fill_one (o := 33) rfl rfl (by rw [keyC_size]; decide), keyC_set33]
  rfl
theorem wp_buildKey {o : Oper} {a0 : Act} {w : World} {K : Act → World → Prop} {Q : Exit → Act → World → Prop} (x y z : Operand) (ho : o.op = .build 111 #[(0, x), (1, y), (2, z)]) (k l : IntKind) (n m : Int) (t : Tg) (hx : a0.eval x = .int k n) (hy : a0.eval y = .agg (tgC t)) (hz : a0.eval z = .int l m)
    (h : K (a0.put o.dst (.agg (keyC (.int k n) (.int l m) (.bool false) t))) w) : o.wp Try.prog a0 w K Q := by
  have e : (Array.map (fun x => (x.fst, a0.eval x.snd)) #[(0, x), (1, y), (2, z)]).toList = [(0, .int k n), (1, .agg (tgC t)), (2, .int l m)] := by simp [hx, hy, hz]
  have hb := (congrArg (Try.prog.built 111) e).trans (built_key k l n m t)
  refine wp_build 111 #[(0, x), (1, y), (2, z)] ho (by rw [hb]; rfl) ?_
  rw [hb]
  exact h
/-- A tag whose first byte is told. -/
def tg1 (n : Nat) : Tg := ⟨UInt8.ofNat n :: List.replicate 31 0, rfl⟩
theorem one_tg {n : Nat} (h : n < 256) : (#[.int .u8 (n : Int), .int .u8 0, .int .u8 0, .int .u8 0, .int .u8 0, .int .u8 0, .int .u8 0, .int .u8 0, .int .u8 0, .int .u8 0, .int .u8 0, .int .u8 0, .int .u8 0, .int .u8 0, .int .u8 0, .int .u8 0, .int .u8 0, .int .u8 0, .int .u8 0, .int .u8 0, .int .u8 0, .int .u8 0, .int .u8 0, .int .u8 0, .int .u8 0, .int .u8 0, .int .u8 0, .int .u8 0, .int .u8 0, .int .u8 0, .int .u8 0, .int .u8 0] : Array Value) = tgC (tg1 n) := by
  have e : (n : Int) = ((UInt8.ofNat n).toNat : Int) := by
    rw [UInt8.toNat_ofNat_of_lt' h]
  rw [e]
  rfl

/-! ### the map -/
abbrev RV : Value → Option (DataW Value × List MemPlace) := fun v => some (.held v, [])
abbrev lu (k : Nat) : Lit := .int .u64 (k : Int)
theorem lu_inj {j k : Nat} (h : lu j = lu k) : j = k := by
  injection h with _ h
  exact Int.ofNat.inj h
theorem lu_wf {k : Nat} (h : k < 18446744073709551616) : (lu k).wf = true := by
  simp [Lit.wf, IntKind.min, IntKind.max, IntKind.signed, IntKind.bits]
  omega
theorem lu_key (k : Nat) : WideAt.IsKeyLit (lu k) := by simp [WideAt.IsKeyLit]
theorem klaw : Keyed Try.prog 39 := Maps.int_keyed Try.underlying39
theorem kkey {k : Nat} (h : k < 18446744073709551616) : keyOf Try.prog 39 (.int .u64 (k : Int)) = some (lu k) := Maps.keyOf_int_mk Try.underlying39 (lu_wf h)
/-- Block b is a map of keys: F by their numbers; s of them. -/
def KMap (w : World) (b : Nat) (F : Nat → Option Ky) (s : Nat) : Prop :=
  ∃ D : DataW Value, w.ownsMap Try.prog 39 RV b s D ∧ Maps.size D = s ∧ ∀ k, k < 18446744073709551616 → (F k = none → Maps.has D (lu k) = false) ∧ ∀ x, F k = some x → Maps.has D (lu k) = true ∧ ∀ z, D.atKey (lu k) z = .held (kyV x)
section
variable {w w' : World} {b s : Nat} {F : Nat → Option Ky}
theorem tight {H : Type} {P : Program} {K : TypeId} {R : Value → Option (DataW H × List MemPlace)} {n : Nat} {D : DataW H} (h : w.ownsMap P K R b n D) : w.ownsMap P K R b (Maps.size D) D := by
  obtain ⟨es, clock, hb, F, _, rfl⟩ := h
  exact ⟨es, clock, hb, F, by simp [Maps.size, length_sorted], rfl⟩
theorem KMap.lt (h : KMap w b F s) : b < w.heap.size := let ⟨_, h, _⟩ := h; h.lt
theorem KMap.of_heap (h : KMap w b F s) (hb : w'.heap[b]? = w.heap[b]?) : KMap w' b F s := by
  obtain ⟨D, ⟨es, clock, h1, h2⟩, h3⟩ := h
  exact ⟨D, ⟨es, clock, hb.trans h1, h2⟩, h3⟩
theorem KMap.made (w : World) : KMap (w.alloc (.map #[] 0)) w.heap.size (fun _ => none) 0 :=
  ⟨_, World.ownsMap_made w _ _ _, rfl, fun k _ => ⟨fun _ => rfl, fun x hx => by cases hx⟩⟩
theorem KMap.clone (h : KMap w b F s) {b' : Nat} (hb : w'.heap[b']? = w.heap[b]?) : KMap w' b' F s := by
  obtain ⟨D, ⟨es, clock, h1, h2⟩, h3⟩ := h
  exact ⟨D, ⟨es, clock, hb.trans h1, h2⟩, h3⟩
theorem KMap.len (h : KMap w b F s) (ty : TypeId) : (Builtin.len_ #[107] ty #[.map (some b)]).run Try.prog w = .ok (.int .i64 (s : Int)) w := by
  obtain ⟨D, h1, rfl, _⟩ := h
  exact h1.len Try.underlying107 ty
set_option maxRecDepth 100000 in
theorem zeroKy (w : World) : (zeroValue 111).run Try.prog w = .ok (kyV Ky.zero) w := by
  have h : (zeroValue 111).run Try.prog w = .ok (.agg #[.int .i64 0, .int .u8 0, .int .u8 0, .int .u8 0, .int .u8 0, .int .u8 0, .int .u8 0, .int .u8 0, .int .u8 0, .int .u8 0, .int .u8 0, .int .u8 0, .int .u8 0, .int .u8 0, .int .u8 0, .int .u8 0, .int .u8 0, .int .u8 0, .int .u8 0, .int .u8 0, .int .u8 0, .int .u8 0, .int .u8 0, .int .u8 0, .int .u8 0, .int .u8 0, .int .u8 0, .int .u8 0, .int .u8 0, .int .u8 0, .int .u8 0, .int .u8 0, .int .u8 0, .int .u64 0, .bool false]) w := by kernel_rfl
  rwa [zero_key] at h
theorem tup_eq {v v' : Value} {p q : Bool} {w : World} (h1 : v = v') (h2 : p = q) : (Result.ok (Value.tuple #[v, .bool p]) w) = .ok (.tuple #[v', .bool q]) w := by
  subst h1
  subst h2
  rfl
/-- v, ok := m[k]. -/
theorem KMap.look (h : KMap w b F s) {k : Nat} (hk : k < 18446744073709551616) :
    (Instr.lookup 107 (.map (some b)) (.int .u64 (k : Int)) true).run Try.prog w = .ok (.tuple #[kyV ((F k).getD Ky.zero), .bool (F k).isSome]) w := by
  obtain ⟨D, h1, _, h3⟩ := h
  obtain ⟨v, ps, hrun, hv⟩ := h1.look_ok klaw Try.underlying107 (zeroKy w) (zd := .held (kyV Ky.zero)) (zp := []) rfl (kkey hk)
  have hv' : DataW.held v = D.atKey (lu k) (.held (kyV Ky.zero)) := congrArg (fun o : Option (DataW Value × List MemPlace) => (o.getD (.nil, [])).1) hv
  cases hF : F k with
  | none =>
    have h4 := (h3 k hk).1 hF
    rw [Maps.atKey_of_not_has h4] at hv'
    replace hv' := DataW.held.inj hv'
    simp only [Option.getD_none, Option.isSome_none]
    exact hrun.trans (tup_eq hv' h4)
  | some x =>
    obtain ⟨h4, h5⟩ := (h3 k hk).2 x hF
    rw [h5] at hv'
    replace hv' := DataW.held.inj hv'
    simp only [Option.getD_some, Option.isSome_some]
    exact hrun.trans (tup_eq hv' h4)
/-- m[k] = v. -/
theorem KMap.store (h : KMap w b F s) {k : Nat} (hk : k < 18446744073709551616) (hs : s < maxLen) (x : Ky) :
    ∃ w', (Instr.mapUpdate 107 (.map (some b)) (.int .u64 (k : Int)) (kyV x)).run Try.prog w = .ok () w' ∧ KMap w' b (fun j => if j = k then some x else F j) (if (F k).isSome then s else s + 1) ∧ w.grownBy w' (some b) := by
  obtain ⟨D, h1, h2, h3⟩ := h
  obtain ⟨w', hrun, ho, ht⟩ := h1.store klaw Try.underlying107 hs (kkey hk) (d := .held (kyV x)) (ps := []) rfl
  have hsz : Maps.size (D.put (lu k) (.held (kyV x))) = if (F k).isSome then s else s + 1 := by
    rw [Maps.size_put (h1.tidy klaw), h2]
    cases hF : F k with
    | none => rw [(h3 k hk).1 hF]; rfl
    | some y => rw [((h3 k hk).2 y hF).1]; rfl
  refine ⟨w', hrun, ⟨_, hsz ▸ tight ho, hsz, fun j hj => ?_⟩, ht.grown⟩
  dsimp only
  by_cases e : j = k
  · have hF : (if j = k then some x else F j) = some x := if_pos e
    rw [hF]
    subst e
    refine ⟨fun h => (by cases h), fun y hy => ?_⟩
    injection hy with hy
    subst hy
    exact ⟨Maps.has_put_same h1.isMap (lu_key j) _, fun z => Maps.atKey_put_same h1.isMap (lu_key j) _ z⟩
  · have hne : lu j ≠ lu k := fun h => e (lu_inj h)
    rw [if_neg e]
    rw [Maps.has_put_other hne]
    refine ⟨(h3 j hj).1, fun y hy => ⟨((h3 j hj).2 y hy).1, fun z => ?_⟩⟩
    rw [Maps.atKey_put_other hne]
    exact ((h3 j hj).2 y hy).2 z
end
end Go.Proofs.Ytlfhbnajopekpaa
